/- What an argument holds: a slice of ints. -/
import Derived.Test.YtaplejpjmaocdaaGreatDoorPkG
import Derived.Test.YtaplejpjmaocdaaGreatDoorPkK
import Derived.ChangeSlices
namespace Go.Proofs.YtaplejpjmaocdaaGreatDoor
open Go.ChangeShapes Go.WideShapes Go.ChangeAt Go.WideMaps Go.WideElems Go.RowKit

section
variable {H : Type} {enc : TypeId × Value → H} {w : World} {sp : Nat → Bool} {held : Bool}
theorem open_nums_ {P : Program} {tN tI : TypeId} (hN : P.underlying tN = some (.slice tI)) (hI : P.underlying tI = some (.int .i64)) (hC : P.cellsOf tI = 1) {r : Reach} {b0 : Nat} {v : Value} {d : DataW H} {ps : List MemPlace} (hval : Value.okWide P w r b0 tN v) (hd : DataW.Trod enc P w 0 sp held tN v d ps) :
    ∃ (A : Option Addr) (c : Nat) (zs : List Int), v = .slice A zs.length c ∧ zs.length ≤ maxLen ∧ Nums w A zs.length zs := by
  obtain ⟨a0, l0, c0, rfl⟩ := okWide_slice hN hval
  obtain ⟨fuel, hf⟩ := hd
  rcases open_ints hN hI hC hf with ⟨e, -⟩ | ⟨a, len, cap, zs, e, hb, hl, hm, hzl, -, hc, -⟩
  · have e : (Value.slice a0 l0 c0) = .slice none 0 0 := by simpa [Value.cells] using e
    exact ⟨none, 0, [], e, Nat.zero_le maxLen, rfl, fun h => absurd h (by simp)⟩
  · have e : (Value.slice a0 l0 c0) = .slice (some a) len cap := by simpa [Value.cells] using e
    have hlz : len ≤ zs.length := by rw [hzl]; split <;> omega
    have htl : (zs.take len).length = len := by rw [List.length_take]; omega
    refine ⟨some a, cap, zs.take len, by rw [e, htl], by rw [htl]; exact Nat.le_trans hl hm, rfl, fun hn => ?_⟩
    rw [htl] at hn ⊢
    have h0 := hc 0 (by omega)
    have hsp : a.spot = none := by
      have e0 : a.add 0 = a := by simp [Addr.add]
      rw [e0] at h0
      cases hq : a.spot with
      | none => rfl
      | some q =>
        unfold World.cell? at h0
        split at h0
        · rw [hq] at h0; simp at h0
        · simp at h0
    obtain ⟨g, o, q⟩ := a
    simp only at hsp
    subst hsp
    have ea : ∀ k, (⟨g, o, none⟩ : Addr).add k = ⟨g, o + k, none⟩ := fun k => by unfold Addr.add; split <;> simp_all
    refine ⟨g, o, rfl, ?_, fun j hj => ?_⟩
    · rw [ea] at h0
      exact World.block_lt_of_cell? w ⟨g, o + 0, none⟩ h0
    · have := hc j (by omega)
      rw [ea] at this
      rw [this]
      congr 2
      simp [List.getD, hj]
end
theorem numTypes : Tryz.prog.underlying 25 = some (.slice 3) ∧ Tryz.prog.underlying 3 = some (.int .i64) ∧ Tryz.prog.cellsOf 3 = 1 := ⟨Tryz.underlying25, Tryz.underlying3, by kernel_rfl⟩
end Go.Proofs.YtaplejpjmaocdaaGreatDoor
