/- PkY: OpenNums, TabRow, each with its own sentence. -/
import Derived.Test.YtfpfloahkibcgaaGreatDoorPkG
import Derived.Test.YtfpfloahkibcgaaGreatDoorPkK
import Derived.ChangeSlices
import Derived.Test.YtfpfloahkibcgaaGreatDoorLeastW
/- What an argument holds: a slice of ints. -/
namespace Go.Proofs.YtfpfloahkibcgaaGreatDoor
open Go.ChangeShapes Go.WideShapes Go.ChangeAt Go.WideMaps Go.WideElems Go.RowKit

section
variable {H : Type} {enc : TypeId × Value → H} {w : World} {sp : Nat → Bool} {held : Bool}
theorem open_nums_ {P : Program} {tN tI : TypeId} (hN : P.underlying tN = some (.slice tI)) (hI : P.underlying tI = some (.int .i64)) (hC : P.cellsOf tI = 1) {r : Reach} {b0 : Nat} {v : Value} {d : DataW H} {ps : List MemPlace} (hval : Value.okWide P w r b0 tN v) (hd : DataW.Trod enc P w 0 sp held tN v d ps) :
    ∃ (A : Option Addr) (c : Nat) (zs : List Int), v = .slice A zs.length c ∧ zs.length ≤ maxLen ∧ Nums w A zs.length zs := by
  obtain ⟨a0, l0, c0, rfl⟩ := okWide_slice hN hval
  obtain ⟨fuel, hf⟩ := hd
  rcases open_ints hN hI hC hf with ⟨e, -⟩ | ⟨a, len, cap, zs, e, hb, hl, hm, hzl, -, hc, -⟩
  · have e : (Value.slice a0 l0 c0) = .slice none 0 0 := by simpa [Value.cells] using e
    exact ⟨none, 0, [], e, Nat.zero_le maxLen, rfl, fun h => absurd h (by simp)⟩
  · have e : (Value.slice a0 l0 c0) = .slice (some a) len cap := by simpa [Value.cells] using e
    have hlz : len ≤ zs.length := by rw [hzl]; split <;> omega
    have htl : (zs.take len).length = len := by rw [List.length_take]; omega
    refine ⟨some a, cap, zs.take len, by rw [e, htl], by rw [htl]; exact Nat.le_trans hl hm, rfl, fun hn => ?_⟩
    rw [htl] at hn ⊢
    have h0 := hc 0 (by omega)
    have hsp : a.spot = none := by
      have e0 : a.add 0 = a := by simp [Addr.add]
      rw [e0] at h0
      cases hq : a.spot with
      | none => rfl
      | some q =>
        unfold World.cell? at h0
        split at h0
        · rw [hq] at h0; simp at h0
        · simp at h0
    obtain ⟨g, o, q⟩ := a
    simp only at hsp
    subst hsp
    have ea : ∀ k, (⟨g, o, none⟩ : Addr).add k = ⟨g, o + k, none⟩ := fun k => by unfold Addr.add; split <;> simp_all
    refine ⟨g, o, rfl, ?_, fun j hj => ?_⟩
    · rw [ea] at h0
      exact World.block_lt_of_cell? w ⟨g, o + 0, none⟩ h0
    · have := hc j (by omega)
      rw [ea] at this
      rw [this]
      congr 2
      simp [List.getD, hj]
end
theorem numTypes : Tryz.prog.underlying 25 = some (.slice 3) ∧ Tryz.prog.underlying 3 = some (.int .i64) ∧ Tryz.prog.cellsOf 3 = 1 := ⟨Tryz.underlying25, Tryz.underlying3, by kernel_rfl⟩
end Go.Proofs.YtfpfloahkibcgaaGreatDoor

/- The library's table lies in its variable, where the row lists it. -/
namespace Go.Proofs.YtfpfloahkibcgaaGreatDoor
open Go.RowKit

theorem tab_cell {W : World} {cs : Array Value} {m j : Nat} {x : Int} {y : DataW Unit × List MemPlace} (h : DataW.trod (fun _ => ()) Tryz.prog W 0 (fun _ => true) false m 5 ((cs.toList.drop j).take 1) = some y) (hy : y.1 = .lit (.int .u8 x)) : cs[j]? = some (.int .u8 x) := by
  obtain ⟨n, hc, rfl, -⟩ := DataW.trod_int Tryz.underlying5 h
  have hn : n = x := by simpa using hy
  subst hn
  have h1 : ((cs.toList.drop j).take 1)[0]? = some (.int .u8 n) := by rw [hc]; rfl
  rw [List.getElem?_take, if_pos (by omega), List.getElem?_drop] at h1
  simpa using h1
set_option maxRecDepth 100000 in
theorem tab_laid {W : World} (h : laidMetH Tryz.prog laidL W) : Tab W := by
  have h1 : laidMet Tryz.prog laidL W := by
    unfold laidMetH at h
    rw [show (laidL.filter fun x => x.2.handleName?.isSome) = [] by kernel_rfl] at h
    exact h
  obtain ⟨ps, hv, -⟩ := h1
  obtain ⟨g0, t0, cs0, f0, p0, q0, -, -, -, -, hv, -⟩ := hv
  obtain ⟨g, t, cs, f, p, q, hg, ht, hc, hd, -, -⟩ := hv
  have hg0 : g = 0 := Option.some.inj (hg.symm.trans (show Tryz.prog.globalNamed "math/bits.deBruijn64tab" = some 0 by kernel_rfl))
  subst hg0
  have ht0 : t = 205 := Option.some.inj (ht.symm.trans (show (Tryz.prog.globals[0]?).map (·.type) = some 205 by kernel_rfl))
  subst ht0
  obtain ⟨xs, m, rfl, hx, hl, hn, hel⟩ := DataW.trod_array Tryz.underlying205 hd
  have hx1 : xs.map (·.1) = Lib.deBruijn64tab.map fun (n : Nat) => (DataW.lit (.int .u8 (n : Int)) : DataW Unit) := by
    have := congrArg Prod.fst hx
    exact (DataW.agg.inj this).symm.trans (by kernel_rfl)
  have hcell : ∀ j, W.cell? ⟨0, j, none⟩ = cs[j]? := fun j => World.var?_cell hg hc j
  have hce : Tryz.prog.cellsOf 5 = 1 := by kernel_rfl
  have htab : TabAt 0 Lib.deBruijn64tab W := fun j hj => by
    rw [hcell]
    have hj : j < 64 := hj
    have e := hel j hj
    rw [hce, Nat.mul_one] at e
    obtain ⟨y, hy⟩ : ∃ y, xs[j]? = some y := ⟨_, List.getElem?_eq_getElem (by omega)⟩
    rw [hy] at e
    refine tab_cell e ?_
    have h2 := congrArg (·[j]?) hx1
    simp only [List.getElem?_map, hy, Option.map_some] at h2
    have hj' : j < Lib.deBruijn64tab.length := hj
    rw [List.getElem?_eq_getElem hj', Option.map_some] at h2
    rw [Option.some.inj h2, List.getD_eq_getElem?_getD, List.getElem?_eq_getElem hj']
    rfl
  refine ⟨?_, htab⟩
  have h0 := htab 0 (by decide)
  exact Nat.lt_of_not_le fun hle => by
    have : W.heap[0]? = none := Array.getElem?_eq_none hle
    unfold World.cell? at h0
    rw [this] at h0
    cases h0
end Go.Proofs.YtfpfloahkibcgaaGreatDoor
