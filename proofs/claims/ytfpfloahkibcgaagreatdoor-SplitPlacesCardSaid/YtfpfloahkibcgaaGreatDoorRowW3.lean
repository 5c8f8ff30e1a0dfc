/- What holds at the heads of Build's loops: the calls of a round, the row's end. -/
import Derived.Test.YtfpfloahkibcgaaGreatDoorRowW2
import Derived.Test.YtfpfloahkibcgaaGreatDoorByW2
namespace Go.Proofs.YtfpfloahkibcgaaGreatDoor
open Go.RowKit Go.Maps

section
variable {w w20 wr w' w3 w4 : World} {p : Pl} {F : Nat → Nat} {vh : Value} {hs : List Nat} {left used : Nat} {R : Option (List Re × List (List Nat) × Nat)} {q : Nat} {x : Re} {g : Nat} {Rr : Option (List Re × Nat × List Nat)}
  {all : List Re} {left' : Nat} {nx : List (List Nat)} {vn : Value} {gs : List Nat} {va vy : Value} {bs : List Nat} {fuel i : Nat} {tos : List Nat}
theorem StG.xd_lt {ms all : List Re} {ys : List Bool} {left used : Nat} {f : Nat → Nat} {os : List (Option Nat)} (h : StG w p ms all ys left used f vh vn os va vy bs) : ∀ k, XD p va vy os k → k < w.heap.size := fun k e => by
  have o1 := h.o1; have o2 := h.o2; have o3 := h.o3; have o4 := h.o4; have o5 := h.o5; have o6 := h.o6; have o7 := h.o7; have o8 := h.o8
  rcases e with (e | e | e | e | e | e) | e
  · omega
  · omega
  · omega
  · omega
  · exact (h.rowA k e).2
  · exact (h.rowY k e).2
  · exact (h.oth k e).2.1
theorem InInv.elem (h : InInv w20 wr p F vh hs left used x q g Rr nx vn gs i all left' tos va vy bs) : ∃ bx, bs[q]? = some bx ∧ ReAt wr (XD p va vy (some g :: vn.ownBlock :: gs.map some)) x bx := by
  have hl := h.st.hels.1
  have hq := (List.getElem?_eq_some_iff.1 h.qx).1
  have hb : bs[q]? = some (bs[q]'(by omega)) := List.getElem?_eq_getElem _
  exact ⟨_, hb, h.st.hels.2 q x _ h.qx hb⟩
theorem InInv.by_ {h0 bx : Nat} (h : InInv w20 wr p F vh hs left used x q g Rr nx vn gs i all left' tos va vy bs) (h256 : h0 < 256) (hx : ReAt wr (XD p va vy (some g :: vn.ownBlock :: gs.map some)) x bx) :
    Calls Tryz.prog 78 #[ptr bx, .int .u8 h0] wr (RetRe wr (XD p va vy (some g :: vn.ownBlock :: gs.map some)) (byR h0 x)) := by
  have hg := h.gd x (List.mem_of_getElem? h.qx)
  exact by_any h0 h256 x hg.1 (by have := hg.2; omega) _ bx wr hx h.st.xd_lt
theorem InInv.state {h0 b3 : Nat} (h : InInv w20 wr p F vh hs left used x q g Rr nx vn gs i all left' tos va vy bs) (hl : left ≤ 1000000) (hu : used ≤ 1000000) (h3 : ReAt w3 (XD p va vy (some g :: vn.ownBlock :: gs.map some)) (byR h0 x) b3) (hb : Below wr.heap.size wr w3) :
    Calls Tryz.prog 108 #[ptr b3, ptr p.bM, ptr p.bB, ptr p.bA, ptr p.bD] w3 (StRet w3 p all left' (used + (left - left')) F vh vn (some g :: vn.ownBlock :: gs.map some) va vy (byR h0 x)) := by
  have hg := h.gd x (List.mem_of_getElem? h.qx)
  have hs := byR_size h0 x
  have hm : x.size * x.size ≤ 20000 * 20000 := Nat.mul_le_mul hg.2 hg.2
  have hal := h.al
  exact state_any w3 p all left' _ F vh vn _ va vy bs (h.below hb).st _ b3 h3 (by omega) (by omega) (by omega)
theorem InInv.kp2 (h : InInv w20 wr p F vh hs left used x q g Rr nx vn gs i all left' tos va vy bs) (hb : Below wr.heap.size wr w3) (hk : KeepX (XS p va vy) w3 w4) : KeepX (XB p) w20 w4 :=
  (h.below hb).kp.trans hk fun k _ e => XS_XB (h.below hb).st k e
theorem InInv.good {h0 : Nat} (h : InInv w20 wr p F vh hs left used x q g Rr nx vn gs i all left' tos va vy bs) : Good (byR h0 x) := byR_good h0 x (h.gd x (List.mem_of_getElem? h.qx)).1
theorem InInv.full (h : InInv w20 wr p F vh hs left used x q g Rr nx vn gs i all left' tos va vy bs) (hi : hs.length = i) : Rr = some (all, left', tos) := by
  have := h.go
  rw [List.drop_of_length_le (by omega)] at this
  exact this.symm
/-- What the append reads. -/
theorem InInv.row_own {W : World} (h : InInv w20 wr p F vh hs left used x q g Rr nx vn gs i all left' tos va vy bs) (hb : Below wr.heap.size wr W) : W.ownsRow p.base 25 1 vn (rowVs hs.length gs).length (rowVs hs.length gs) ∧ p.base ≤ W.heap.size :=
  have h2 := h.below hb
  ⟨h2.nxt.hN, h2.st.o8⟩
end
/-- A row is done. -/
theorem InInv.end_ {w20 wr W w7 : World} {p : Pl} {F : Nat → Nat} {vh v7 : Value} {hs : List Nat} {left used : Nat} {R : Option (List Re × List (List Nat) × Nat)} {q : Nat} {x : Re} {g n : Nat}
    {all1 all : List Re} {left1 left' : Nat} {nx : List (List Nat)} {vn : Value} {gs : List Nat} {va vy : Value} {bs : List Nat} {fuel : Nat} {tos : List Nat} (hn : hs.length = n)
    (hfl : q + fuel = left + 1) (hq : nx.length = q) (hgo : ∀ all2 left2 row, rowGo x hs all1 left1 [] = some (all2, left2, row) → ∃ n, fuel = n + 1 ∧ buildGo hs n (q + 1) all2 left2 (nx ++ [row]) = R)
    (h : InInv w20 wr p F vh hs left used x q g (rowGo x hs all1 left1 []) nx vn gs n all left' tos va vy bs)
    (hb : Below wr.heap.size wr W) (hg : W.grownBy w7 vn.ownBlock) (hy : w7.ownsRow p.base 25 1 v7 (rowVs n gs ++ [Value.slice (some ⟨g, 0, none⟩) n n]).length (rowVs n gs ++ [Value.slice (some ⟨g, 0, none⟩) n n]))
    (hat : v7.ownBlock = vn.ownBlock ∨ v7.ownBlock = some W.heap.size) :
    w7.cell? ⟨p.bD, 0, none⟩ = some (ptr p.D) ∧ w7.cell? ⟨p.D, 257, none⟩ = some vn ∧ w7.frozen? ⟨p.D, 257, none⟩ = false ∧
      ∃ fuel', OutInv w20 (w7.setCell ⟨p.D, 257, none⟩ v7) p F vh hs left used R (q + 1) all left' (nx ++ [tos]) v7 (gs ++ [g]) va vy bs fuel' := by
  subst hn
  obtain ⟨m, hm, hgo2⟩ := hgo all left' tos (h.full rfl)
  obtain ⟨h1, h2, h3, h4⟩ := h.done (fuel := m) hq (List.getElem?_eq_some_iff.1 h.qx).1 (by omega) hgo2 hb hg hy hat
  exact ⟨h1, h2, h3, m, h4⟩
end Go.Proofs.YtfpfloahkibcgaaGreatDoor
