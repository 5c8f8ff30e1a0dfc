/- The walks of bits.TrailingZeros64 and of Set.Least. -/
import Derived.Test.YtfpfloahkibcgaaGreatDoorPartsW
import Derived.Shelf.Spec.TrailingZeros
namespace Go.Proofs.YtfpfloahkibcgaaGreatDoor
open Go.RowKit

/-- The library's table, in its variable. -/
def Tab (w : World) : Prop := 0 < w.heap.size ∧ TabAt 0 Lib.deBruijn64tab w
theorem Tab.below {w w' : World} (h : Tab w) (hb : Below w.heap.size w w') : Tab w' :=
  ⟨Nat.lt_of_lt_of_le h.1 hb.size, fun j hj => (hb.cell (p := ⟨0, j, none⟩) h.1).trans (h.2 j hj)⟩
set_option maxRecDepth 100000 in
set_option maxHeartbeats 1000000 in
theorem tz_core (x k idx : Nat) (w : World) (hx0 : ((x : Int) == 0) = false)
    (key : IntKind.u64.wrap (bits BinOp.and IntKind.u64 (x : Int) (IntKind.u64.wrap (-(x : Int))) * 285870213051353865) / 288230376151711744 = (idx : Int))
    (hi : idx < 64) (hk : k < 64) (hcell : w.cell? ⟨0, idx, none⟩ = some (.int .u8 k)) :
    Calls Tryz.prog 123 #[.int .u64 x] w fun e w' => e = .returned (.int .i64 k) ∧ w = w' := by
  go_enter Tryz.func123, Tryz.ntmps123
  go_wp2_with (simp only [key])
  go_ret
  exact ⟨rfl, rfl⟩
theorem tz_any (x : Nat) (hx : x < 18446744073709551616) (hx0 : x ≠ 0) (w : World) (hT : Tab w) :
    Calls Tryz.prog 123 #[.int .u64 x] w fun e w' => e = .returned (.int .i64 (Lib.ctz 64 x)) ∧ w = w' := by
  obtain ⟨hlow, hk⟩ := Lib.lowest_bit 64 x hx0 hx
  obtain ⟨hi, htab⟩ := Lib.deBruijn64_at _ hk
  have hcell := hT.2 _ hi
  rw [htab] at hcell
  exact tz_core x _ _ w (by simp; omega) (tz64_key x _ hx hx0 hlow) hi hk hcell
theorem ctz_bit (x : BitVec 64) (h : x ≠ 0) : x.getLsbD (Lib.ctz 64 x.toNat) = true ∧ Lib.ctz 64 x.toNat < 64 := by
  have h0 : x.toNat ≠ 0 := fun e => h (BitVec.eq_of_toNat_eq (by simpa using e))
  obtain ⟨m, hm, hc⟩ := Lib.ctzFrom_spec 64 x.toNat (by omega) x.isLt
  have e : Lib.ctz 64 x.toNat = Lib.ctzFrom 64 x.toNat := by unfold Lib.ctz; rw [if_neg h0]
  rw [e]
  refine ⟨?_, hc⟩
  generalize Lib.ctzFrom 64 x.toNat = c at *
  rw [← BitVec.testBit_toNat, hm, Nat.testBit_two_pow_mul]
  simp
/-- The least byte of a set that isn't empty. -/
def leastN (s : CSet) : Nat := if s.a ≠ 0 then Lib.ctz 64 s.a.toNat else if s.b ≠ 0 then 64 + Lib.ctz 64 s.b.toNat else if s.c ≠ 0 then 128 + Lib.ctz 64 s.c.toNat else 192 + Lib.ctz 64 s.d.toNat
theorem has_word (s : CSet) (k c : Nat) (hk : c < 64) : s.has (64 * k + c) = (s.word k).getLsbD c := by
  show (s.word ((64 * k + c) / 64)).getLsbD ((64 * k + c) % 64) = _
  have h1 : (64 * k + c) / 64 = k := by omega
  have h2 : (64 * k + c) % 64 = c := by omega
  rw [h1, h2]
theorem least_has (s : CSet) (h : s ≠ CSet.zero) : s.has (leastN s) = true ∧ leastN s < 256 := by
  unfold leastN
  split
  · next h0 =>
    obtain ⟨h1, h2⟩ := ctz_bit s.a h0
    exact ⟨by have := has_word s 0 _ h2; rw [Nat.mul_zero, Nat.zero_add] at this; rw [this]; exact h1, by omega⟩
  · split
    · next h0 =>
      obtain ⟨h1, h2⟩ := ctz_bit s.b h0
      exact ⟨(has_word s 1 _ h2).trans h1, by omega⟩
    · split
      · next h0 =>
        obtain ⟨h1, h2⟩ := ctz_bit s.c h0
        exact ⟨(has_word s 2 _ h2).trans h1, by omega⟩
      · next ha hb hc =>
        have h0 : s.d ≠ 0 := fun h0 => h (by
          have ha : s.a = 0 := Classical.byContradiction ha
          have hb : s.b = 0 := Classical.byContradiction hb
          have hc : s.c = 0 := Classical.byContradiction hc
          cases s
          simp only at ha hb hc h0
          rw [ha, hb, hc, h0]
          rfl)
        obtain ⟨h1, h2⟩ := ctz_bit s.d h0
        exact ⟨(has_word s 3 _ h2).trans h1, by omega⟩

theorem bv_nat {x : BitVec 64} (h : x ≠ 0) : x.toNat ≠ 0 := fun e => h (BitVec.eq_of_toNat_eq (by simpa using e))
theorem bv_int {x : BitVec 64} (h : x ≠ 0) : (((x.toNat : Nat) : Int) == 0) = false := by have := bv_nat h; simp; omega
/-- What the loop of Least tells: which word is the first that isn't empty. -/
def leastAt (s : CSet) (k : Nat) : Prop := (1 ≤ k → s.a = 0) ∧ (2 ≤ k → s.b = 0) ∧ (3 ≤ k → s.c = 0)
theorem idx4 (a b c d : Value) (W : World) : (Instr.index 87 (.agg #[a, b, c, d]) (.int .i64 0)).run Tryz.prog W = .ok a W ∧ (Instr.index 87 (.agg #[a, b, c, d]) (.int .i64 1)).run Tryz.prog W = .ok b W ∧
    (Instr.index 87 (.agg #[a, b, c, d]) (.int .i64 2)).run Tryz.prog W = .ok c W ∧ (Instr.index 87 (.agg #[a, b, c, d]) (.int .i64 3)).run Tryz.prog W = .ok d W :=
  ⟨by kernel_rfl, by kernel_rfl, by kernel_rfl, by kernel_rfl⟩
set_option maxRecDepth 100000 in
set_option maxHeartbeats 4000000 in
theorem least_any (s : CSet) (hs : s ≠ CSet.zero) (w : World) (hT : Tab w) : Calls Tryz.prog 90 #[cv s] w fun e w' => e = .returned (.tuple #[.int .u8 (leastN s), .bool true]) ∧ Below w.heap.size w w' := by
  have HS := hid hs
  have HT := hid hT
  clear hs hT
  unfold cv
  go_enter Tryz.func90, Tryz.ntmps90
  go_wp2_with fail
  go_loopw [4, 5, 7] (fun _ _ i wr => ∃ k : Nat, k ≤ 3 ∧ i = .int .i64 k ∧ Hid (leastAt s k) ∧ Hid (Below w.heap.size w wr)) (fun _ _ i _ => 4 - (intOf i).toNat)
  case atStart => exact ⟨0, by omega, rfl, ⟨fun h => absurd h (by omega), fun h => absurd h (by omega), fun h => absurd h (by omega)⟩, (Below.refl _ _).alloc (Nat.le_refl _) _⟩
  case round =>
    obtain ⟨k, hk, rfl, hat, hb⟩ := hrel
    have HTW := hid (HT.out.below hb.out)
    obtain ⟨i0, i1, i2, i3⟩ := idx4 (.int .u64 s.a.toNat) (.int .u64 s.b.toNat) (.int .u64 s.c.toNat) (.int .u64 s.d.toNat) wr
    rcases (by omega : k = 0 ∨ k = 1 ∨ k = 2 ∨ k = 3) with rfl | rfl | rfl | rfl
    · by_cases h0 : s.a = 0
      · have hi : (((s.a.toNat : Nat) : Int) == 0) = true := by rw [h0]; rfl
        have HL : Hid (leastAt s 1) := ⟨fun _ => h0, fun h => absurd h (by omega), fun h => absurd h (by omega)⟩
        clear h0
        go_wp2_with fail
        go_roundw
        case rel => exact ⟨1, by omega, by go_num, HL.out, hb.out⟩
        case measure => simp [intOf]
      · have hi := bv_int h0
        have HTZ := hid (tz_any _ s.a.isLt (bv_nat h0) wr HTW.out)
        have HL : Hid (leastN s = Lib.ctz 64 s.a.toNat) := hid (by unfold leastN; rw [if_pos h0])
        have hc := (ctz_bit _ h0).2
        generalize Lib.ctz 64 s.a.toNat = c at *
        have hw : wrap64 ((c : Int)) % 256 = (c : Int) := by unfold wrap64; omega
        clear h0 hc
        go_wp2_with (first | (go_at_call 123; refine HTZ.out.mono ?_; rintro e wz ⟨rfl, rfl⟩))
        refine bodyPost_ret (v := .tuple #[.int .u8 ((c : Int)), .bool true]) (by simp [results, Tryz.results90, go_sem]) rfl ⟨by rw [HL.out], hb.out⟩
    · by_cases h0 : s.b = 0
      · have hi : (((s.b.toNat : Nat) : Int) == 0) = true := by rw [h0]; rfl
        have HL : Hid (leastAt s 2) := ⟨fun _ => hat.out.1 (by omega), fun _ => h0, fun h => absurd h (by omega)⟩
        clear h0
        go_wp2_with fail
        go_roundw
        case rel => exact ⟨2, by omega, by go_num, HL.out, hb.out⟩
        case measure => simp [intOf]
      · have hi := bv_int h0
        have HTZ := hid (tz_any _ s.b.isLt (bv_nat h0) wr HTW.out)
        have HL : Hid (leastN s = 64 + Lib.ctz 64 s.b.toNat) := hid (by unfold leastN; rw [if_neg (fun h => h (hat.out.1 (by omega))), if_pos h0])
        have hc := (ctz_bit _ h0).2
        generalize Lib.ctz 64 s.b.toNat = c at *
        have hw : wrap64 ((64 : Int) + (c : Int)) % 256 = (64 : Int) + (c : Int) := by unfold wrap64; omega
        clear h0 hc
        go_wp2_with (first | (go_at_call 123; refine HTZ.out.mono ?_; rintro e wz ⟨rfl, rfl⟩))
        refine bodyPost_ret (v := .tuple #[.int .u8 ((64 : Int) + (c : Int)), .bool true]) (by simp [results, Tryz.results90, go_sem]) rfl ⟨by rw [HL.out]; rfl, hb.out⟩
    · by_cases h0 : s.c = 0
      · have hi : (((s.c.toNat : Nat) : Int) == 0) = true := by rw [h0]; rfl
        have HL : Hid (leastAt s 3) := ⟨fun _ => hat.out.1 (by omega), fun _ => hat.out.2.1 (by omega), fun _ => h0⟩
        clear h0
        go_wp2_with fail
        go_roundw
        case rel => exact ⟨3, by omega, by go_num, HL.out, hb.out⟩
        case measure => simp [intOf]
      · have hi := bv_int h0
        have HTZ := hid (tz_any _ s.c.isLt (bv_nat h0) wr HTW.out)
        have HL : Hid (leastN s = 128 + Lib.ctz 64 s.c.toNat) := hid (by unfold leastN; rw [if_neg (fun h => h (hat.out.1 (by omega))), if_neg (fun h => h (hat.out.2.1 (by omega))), if_pos h0])
        have hc := (ctz_bit _ h0).2
        generalize Lib.ctz 64 s.c.toNat = c at *
        have hw : wrap64 ((128 : Int) + (c : Int)) % 256 = (128 : Int) + (c : Int) := by unfold wrap64; omega
        clear h0 hc
        go_wp2_with (first | (go_at_call 123; refine HTZ.out.mono ?_; rintro e wz ⟨rfl, rfl⟩))
        refine bodyPost_ret (v := .tuple #[.int .u8 ((128 : Int) + (c : Int)), .bool true]) (by simp [results, Tryz.results90, go_sem]) rfl ⟨by rw [HL.out]; rfl, hb.out⟩
    · by_cases h0 : s.d = 0
      · exact absurd (by obtain ⟨h1, h2, h3⟩ := hat.out; have h1 := h1 (by omega); have h2 := h2 (by omega); have h3 := h3 (by omega); cases s; simp only at h1 h2 h3 h0; rw [h1, h2, h3, h0]; rfl) HS.out
      · have hi := bv_int h0
        have HTZ := hid (tz_any _ s.d.isLt (bv_nat h0) wr HTW.out)
        have HL : Hid (leastN s = 192 + Lib.ctz 64 s.d.toNat) := hid (by unfold leastN; rw [if_neg (fun h => h (hat.out.1 (by omega))), if_neg (fun h => h (hat.out.2.1 (by omega))), if_neg (fun h => h (hat.out.2.2 (by omega)))])
        have hc := (ctz_bit _ h0).2
        generalize Lib.ctz 64 s.d.toNat = c at *
        have hw : wrap64 ((192 : Int) + (c : Int)) % 256 = (192 : Int) + (c : Int) := by unfold wrap64; omega
        clear h0 hc
        go_wp2_with (first | (go_at_call 123; refine HTZ.out.mono ?_; rintro e wz ⟨rfl, rfl⟩))
        refine bodyPost_ret (v := .tuple #[.int .u8 ((192 : Int) + (c : Int)), .bool true]) (by simp [results, Tryz.results90, go_sem]) rfl ⟨by rw [HL.out]; rfl, hb.out⟩
end Go.Proofs.YtfpfloahkibcgaaGreatDoor
