/- The walk of deriv.sets: what is there already, and the first sets behind it. -/
import Derived.Test.YtfpfloahkibcgaaGreatDoorFirstsW
namespace Go.Proofs.YtfpfloahkibcgaaGreatDoor
open Go.RowKit

theorem ReAt.keepB {w w' : World} {B : Nat} {r : Re} {b : Nat} (h : ReAt w (fun k => B ≤ k) r b) (hb : Below B w w') : ReAt w' (fun k => B ≤ k) r b :=
  h.keep (Y := fun k => B ≤ k) ⟨hb.size, fun k _ hn => hb.block k (by omega)⟩ (fun _ h => h)
theorem ReAt.ltB {w : World} {B : Nat} {r : Re} {b : Nat} (h : ReAt w (fun k => B ≤ k) r b) : b < B := by
  match h with
  | .mk _ _ _ _ _ hX _ _ _ _ _ => omega
theorem OwnC.belowB {w wr w2 : World} {B : Nat} {v : Value} {xs : List CSet} (hB : B ≤ w.heap.size) (hb : Below B w wr) (ho : OwnC wr B v xs) (hg : wr.grownBy w2 v.ownBlock) : Below B w w2 :=
  ⟨hg.os.trans hb.os, hg.tape.trans hb.tape, hg.output.trans hb.output, Nat.le_trans hb.size hg.size, fun k hk => (hg.block k (Nat.lt_of_lt_of_le hk (Nat.le_trans hB hb.size)) (fun e => by have := (ho.lt k e.symm).1; omega)).trans (hb.block k hk)⟩
theorem rowB {w : World} {B : Nat} {A : Option Addr} {n : Nat} {rs : List Re} {bs : List Nat} (h : ReRow w (fun k => B ≤ k) A n rs bs) {k : Nat} (hk : k < n) :
    ∃ g o r b, A = some ⟨g, o, none⟩ ∧ w.cell? ⟨g, o + k, none⟩ = some (ptr b) ∧ rs[k]? = some r ∧ ReAt w (fun k => B ≤ k) r b ∧ g < B := by
  obtain ⟨g, o, r, b, rfl, h1, h2, -, h3, -⟩ := h.at_ hk
  exact ⟨g, o, r, b, rfl, h1, h2, h3, by have := h.2.2 ⟨g, o, none⟩ (by omega) rfl; simp at this; exact this⟩

end Go.Proofs.YtfpfloahkibcgaaGreatDoor
