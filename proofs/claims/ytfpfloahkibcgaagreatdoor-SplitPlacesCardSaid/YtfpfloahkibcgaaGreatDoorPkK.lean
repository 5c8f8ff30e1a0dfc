/- PkK: SizeW, Settled, Settled2, Settled3, each with its own sentence. -/
import Derived.Test.YtfpfloahkibcgaaGreatDoorPkJ
import Derived.Laws.BytesArg
import Derived.Laws.Concat
/- The walks of size (law 03) and of Some. -/
namespace Go.Proofs.YtfpfloahkibcgaaGreatDoor
open Go.RowKit

/-- The text of few letters of some numbers. -/
def letters (zs : List Int) : List UInt8 := zs.map fun n => UInt8.ofNat (97 + (n % 4).toNat)
/-- A slice of ints. -/
def Nums (w : World) (A : Option Addr) (n : Nat) (zs : List Int) : Prop := zs.length = n ∧ (0 < n → ∃ g o, A = some ⟨g, o, none⟩ ∧ g < w.heap.size ∧ ∀ j, j < n → w.cell? ⟨g, o + j, none⟩ = some (.int .i64 (zs.getD j 0)))
theorem Nums.below {w w' : World} {A : Option Addr} {n : Nat} {zs : List Int} (h : Nums w A n zs) (hk : Below w.heap.size w w') : Nums w' A n zs := by
  refine ⟨h.1, fun hn => ?_⟩
  obtain ⟨g, o, e, hg, hc⟩ := h.2 hn
  exact ⟨g, o, e, Nat.lt_of_lt_of_le hg hk.size, fun j hj => (hk.cell (p := ⟨g, o + j, none⟩) hg).trans (hc j hj)⟩

set_option maxRecDepth 100000 in
set_option maxHeartbeats 1000000 in
theorem some_any (A : Option Addr) (n c : Nat) (zs : List Int) (w : World) (hr : Nums w A n zs) (hn : n ≤ 1000000) :
    Calls Tryz.prog 20 #[.slice A n c] w fun e w' => e = .returned (.string ⟨(letters zs).toArray⟩) ∧ Below w.heap.size w w' := by
  have HR := hid hr
  have HL := hid hr.1
  clear hr
  go_enter Tryz.func20, Tryz.ntmps20
  go_wp2_with fail
  go_loopw [3, 8] (fun m i wr => ∃ k : Nat, k ≤ n ∧ i = .int .i64 k ∧ m = .string ⟨(letters (zs.take k)).toArray⟩ ∧ Hid (Below w.heap.size w wr)) (fun _ i _ => n - (intOf i).toNat)
  case atStart => exact ⟨0, Nat.zero_le _, rfl, rfl, Below.refl _ _⟩
  case round =>
    obtain ⟨k, hk, rfl, rfl, hbel⟩ := hrel
    by_cases hlt : k < n
    · obtain ⟨g, o, rfl, hg, hc⟩ := HR.out.2 (by omega)
      have c1 := (hbel.out.cell (p := ⟨g, o + k, none⟩) hg).trans (hc k hlt)
      have h4 := i64_and3 (zs.getD k 0)
      have hx0 : 0 ≤ zs.getD k 0 % 4 := Int.emod_nonneg _ (by decide)
      have hx4 : zs.getD k 0 % 4 < 4 := Int.emod_lt_of_pos _ (by decide)
      have HST : Hid (letters (zs.take (k + 1)) = letters (zs.take k) ++ [UInt8.ofNat (97 + (zs.getD k 0 % 4).toNat)]) := hid (by
        have hl : k < zs.length := by rw [HL.out]; exact hlt
        rw [List.take_succ_eq_append_getElem hl]
        unfold letters
        rw [List.map_append, List.map_cons, List.map_nil, List.getD_eq_getElem?_getD, List.getElem?_eq_getElem hl]
        rfl)
      have hll : (letters (zs.take k)).length ≤ 1000000 := by simp [letters]; omega
      generalize zs.getD k 0 = v at *
      generalize hx : v % 4 = x at *
      obtain ⟨y, rfl⟩ : ∃ y : Nat, x = y := ⟨x.toNat, by omega⟩
      clear hx hc
      have hcv := run_convert_bytes_arg (P := Tryz.prog) (wr.alloc (.cells #[.int .u8 (97 + (y : Int))] 5)) 89 5 Tryz.underlying89 Tryz.underlying5 wr.heap.size 0 1 1 [97 + (y : Int)] rfl (fun i hi => by
        obtain rfl : i = 0 := by omega
        exact cell0_new _ _ _) 9 Tryz.underlying9
      have hq : strOfNums [97 + (y : Int)] = ⟨[UInt8.ofNat (97 + y)].toArray⟩ := by
        simp only [strOfNums, List.map_cons, List.map_nil]
        rw [show (97 + (y : Int)).toNat = 97 + y by omega]
      rw [hq] at hcv
      have HAPP : Hid ((ByteArray.mk (letters (zs.take k)).toArray) ++ (ByteArray.mk #[97 + UInt8.ofNat y]) = ⟨(letters (zs.take (k + 1))).toArray⟩) := hid (by
        refine (ByteArray.mk_append_mk (letters (zs.take k)) [97 + UInt8.ofNat y]).trans ?_
        rw [HST.out]
        simp)
      clear hq
      go_wp2_with fail
      go_roundw
      case rel => exact ⟨k + 1, by omega, by go_num, congrArg Value.string HAPP.out, hbel.out.alloc hbel.out.size _⟩
      case measure => simp [intOf]; omega
    · go_wp2_with fail
      go_ret
      exact ⟨by rw [List.take_of_length_le (by rw [HL.out]; omega)]; rfl, hbel.out⟩
end Go.Proofs.YtfpfloahkibcgaaGreatDoor

/- The walk of settled: a settled expression is told to be one. -/
namespace Go.Proofs.YtfpfloahkibcgaaGreatDoor
open Go.RowKit

theorem clss_succ {l : List Re} {k : Nat} {x : Re} (hx : l[k]? = some x) : (clss (l.take (k + 1))).length = (clss (l.take k)).length + if x.op = 2 then 1 else 0 := by
  obtain ⟨l1, e1⟩ := List.getElem?_eq_some_iff.1 hx
  rw [List.take_succ_eq_append_getElem l1, e1, clss_append, List.length_append]
  cases x <;> simp [clss, Re.op]
theorem clss_le (l : List Re) : (clss l).length ≤ l.length := by
  induction l with
  | nil => simp [clss]
  | cons r l ih => cases r <;> simp [clss] <;> omega
theorem clss_take (l : List Re) (k : Nat) : (clss (l.take k)).length ≤ (clss l).length := by
  have := clss_append (l.take k) (l.drop k)
  rw [List.take_append_drop] at this
  rw [this, List.length_append]
  omega
theorem int_ne {a : Nat} {b : Nat} (h : a ≠ b) : ((a : Int) == (b : Int)) = false := by
  have : ¬ (a : Int) = (b : Int) := by omega
  simp [this]

end Go.Proofs.YtfpfloahkibcgaaGreatDoor

/- The walk of settled: a choice, all of them, a star, one and not the other. -/
namespace Go.Proofs.YtfpfloahkibcgaaGreatDoor
open Go.RowKit


end Go.Proofs.YtfpfloahkibcgaaGreatDoor

/- The walk of settled: one and not the other; every settled expression. -/
namespace Go.Proofs.YtfpfloahkibcgaaGreatDoor
open Go.RowKit

end Go.Proofs.YtfpfloahkibcgaaGreatDoor
