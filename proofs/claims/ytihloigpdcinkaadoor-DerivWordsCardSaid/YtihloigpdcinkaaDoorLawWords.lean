/- The walk of DerivWords. -/
import Derived.Test.YtihloigpdcinkaaDoorHead5
import Derived.Laws.BytesArg
import Derived.Laws.Concat
namespace Go.Proofs.YtihloigpdcinkaaDoor
open Go.RowKit

theorem i64_and65535 (n : Int) : bits .and .i64 n 65535 = n % 65536 := by
  have hm : (BitVec.ofInt 64 65535).toNat = 2 ^ 16 - 1 := by decide
  have key : (BitVec.ofInt 64 n &&& BitVec.ofInt 64 65535).toNat = (n % ((2 ^ 64 : Nat) : Int)).toNat % 2 ^ 16 := by
    rw [BitVec.toNat_and, BitVec.toNat_ofInt, hm, Nat.and_two_pow_sub_one_eq_mod]
  show IntKind.i64.wrap ((BitVec.ofInt 64 n &&& BitVec.ofInt 64 65535).toNat : Nat) = n % 65536
  rw [key, IntKind.wrap_i64]
  omega
/-- A byte of a text. -/
theorem idxStr (s : ByteArray) (k : Nat) (x : UInt8) (hx : s.data.toList[k]? = some x) (W : World) : (Instr.index 9 (.string s) (.int .i64 k)).run Tryd.prog W = .ok (.int .u8 x.toNat) W := by
  obtain ⟨hl, e⟩ := List.getElem?_eq_some_iff.1 hx
  have hs : k < s.size := by simpa using hl
  rw [run_index_string W 9 s .i64 k Tryd.underlying9, dif_pos ⟨by omega, by omega⟩]
  congr 3
  have : s[k] = x := by rw [← e]; rfl
  simp [this]
theorem drop_txt' (s : ByteArray) (k : Nat) : (s.extract k s.size).data.toList = s.data.toList.drop k := by
  rw [ByteArray.data_extract, Array.toList_extract]
  simp only [List.extract]
  apply List.take_of_length_le
  rw [List.length_drop]
  have h : s.data.toList.length = s.size := by simp
  omega
theorem app_txt (a b : ByteArray) : (a ++ b).data.toList = a.data.toList ++ b.data.toList := by simp [ByteArray.data_append]

open Classical in
set_option maxRecDepth 100000 in
set_option maxHeartbeats 4000000 in
theorem derivWords_any (s : ByteArray) (cut : Int) (more : Nat) (w : World) (_hs : s.size ≤ 9223372036854775807) (_hc : (Lit.int .i64 cut).wf = true) (_hm : more < 256) :
    Calls Tryd.prog 7 #[.string s, .int .i64 cut, .int .u8 more] w fun e w' => e = .returned (.bool true) ∧ Below w.heap.size w w' := by
  have HHE := hid (fun W => head5_any W)
  have HNOW : Hid (Below w.heap.size w w) := Below.refl _ _
  by_cases h200 : 200 < s.size
  · go_enter Tryd.func7, Tryd.ntmps7
    go_wp2_with (first | (go_at_call 31; refine (HHE.out _).mono ?_; rintro e w2 ⟨rfl, hb1⟩; have HNOW := hid (HNOW.out.trans (hb1.mono HNOW.out.size)); (first | (have HRW := hid (HRW.out.under hb1)) | skip); (first | (have HRD := hid (HRD.out.under hb1)) | skip); clear hb1))
    go_ret
    exact ⟨rfl, HNOW.out⟩
  have hd200 : decide ((200 : Int) < (s.size : Int)) = false := decide_eq_false (by omega)
  obtain ⟨l, hl⟩ : ∃ l, l = s.data.toList := ⟨_, rfl⟩
  have hll : l.length = s.size := by rw [hl]; simp
  have HW1 : Hid (∀ W, Calls Tryd.prog 32 #[.string s] W (RetRe W X0 (wordR l))) := fun W => wordX l s hl.symm (by omega) W
  have hand := i64_and65535 cut
  have hq0 : 0 ≤ cut % 65536 := Int.emod_nonneg _ (by decide)
  have hq1 : cut % 65536 < 65536 := Int.emod_lt_of_pos _ (by decide)
  generalize cut % 65536 = q at *
  have hc0 : 0 ≤ q % ((s.size : Int) + 1) := Int.emod_nonneg _ (by omega)
  have hc1 : q % ((s.size : Int) + 1) < (s.size : Int) + 1 := Int.emod_lt_of_pos _ (by omega)
  obtain ⟨cv, hcv⟩ : ∃ cv : Nat, q % ((s.size : Int) + 1) = cv := ⟨(q % ((s.size : Int) + 1)).toNat, by omega⟩
  rw [hcv] at hc0 hc1
  have HL := hid hl
  have HLL := hid hll
  clear hl hll
  go_enter Tryd.func7, Tryd.ntmps7
  go_wp2_with (first | (go_at_call 31; refine (HHE.out _).mono ?_; rintro e w2 ⟨rfl, hb1⟩; have HNOW := hid (HNOW.out.trans (hb1.mono HNOW.out.size)); (first | (have HRW := hid (HRW.out.under hb1)) | skip); (first | (have HRD := hid (HRD.out.under hb1)) | skip); clear hb1) | (go_at_call 32; (with_reducible refine (HW1.out _).mono ?_); rintro e w3 ⟨bw, rfl, hw, hb1⟩; have HNOW := hid (HNOW.out.trans (hb1.mono HNOW.out.size)); (first | (have HRW := hid (HRW.out.under hb1)) | skip); (first | (have HRD := hid (HRD.out.under hb1)) | skip); clear hb1; have HRW := hid hw; clear hw HW1))
  rw [hcv]
  clear hcv hand
  have hszl : ∀ k, (wordR (l.drop k)).size ≤ 201 := fun k => by have := wordR_size (l.drop k); have := HLL.out; simp at *; omega
  have HSZ := hid hszl
  clear hszl
  go_loopw [8, 9] (fun p i wr => ∃ (k bk : Nat), k ≤ cv ∧ i = .int .i64 k ∧ p = .pointer (some ⟨bk, 0, none⟩) ∧ Hid (ReAt wr X0 (wordR (l.drop k)) bk) ∧ Hid (Below w3.heap.size w3 wr)) (fun _ i _ => cv - (intOf i).toNat)
  case atStart => exact ⟨0, bw, Nat.zero_le _, rfl, rfl, HRW.out, Below.refl _ _⟩
  case round =>
    obtain ⟨k, bk, hk, rfl, rfl, hre, hbel⟩ := hrel
    have hszr : w3.heap.size ≤ wr.heap.size := hbel.out.size
    by_cases hlt : k < cv
    · have hks : k < s.size := by omega
      have hks' : (k : Int) < (s.size : Int) := by omega
      obtain ⟨x, hx⟩ : ∃ x, l[k]? = some x := ⟨l[k]'(by rw [HLL.out]; exact hks), List.getElem?_eq_getElem _⟩
      have hidx : ∀ W, (Instr.index 9 (.string s) (.int .i64 k)).run Tryd.prog W = .ok (.int .u8 x.toNat) W := idxStr s k x (by rw [← HL.out]; exact hx)
      have hst : byR x.toNat (wordR (l.drop k)) = wordR (l.drop (k + 1)) := by
        obtain ⟨hl, e⟩ := List.getElem?_eq_some_iff.1 hx
        rw [List.drop_eq_getElem_cons hl, e, wordR_tail, byR_tail x x _ [] (fun k hk => by cases hk), if_pos rfl, ← wordR_tail]
      have HC := hid (by_any x.toNat x.toNat_lt (wordR (l.drop k)) (wordR_good _) (Nat.le_trans (HSZ.out k) (by decide)) X0 bk wr hre.out X0X)
      rw [hst] at HC
      unfold ptr at HC
      clear hx hst
      go_wp2_with (go_at_call 33; refine HC.out.mono ?_; rintro e w4 ⟨b3, rfl, h3, hb1⟩; have H3 := hid h3; have HB3 := hid (hbel.out.trans (hb1.mono hszr)); clear h3 hb1)
      go_roundw
      case rel => exact ⟨k + 1, b3, by omega, by go_num, rfl, H3.out, HB3.out⟩
      case measure => simp [intOf]; omega
    · have hkn : k = cv := by omega
      subst hkn
      have HW2 : Hid (∀ W, Calls Tryd.prog 32 #[.string (s.extract k s.size)] W (RetRe W X0 (wordR (l.drop k)))) := fun W => wordX _ _ (by rw [drop_txt', HL.out]) (by rw [ByteArray.size_extract]; omega) W
      have HSA : Hid (∀ W a b, ReAt W X0 (wordR (l.drop k)) a → ReAt W X0 (wordR (l.drop k)) b → Calls Tryd.prog 15 #[ptr a, ptr b] W fun e w' => e = .returned (.bool true) ∧ W = w') := fun W a b ha hb => (same_any _ _ X0 X0 a b W ha hb).mono fun e w' h => ⟨by rw [h.1, beq_self_eq_true], h.2⟩
      have hl1 : l.length ≤ 1000 := by have := HLL.out; omega
      have HM1 : Hid (∀ W, ReAt W X0 (wordR l) bw → Calls Tryd.prog 34 #[ptr bw, .string s] W fun e w' => e = .returned (.bool true) ∧ Below W.heap.size W w') := fun W hb => by
        have := match_word l X0 bw s W hb X0X hl1 (by omega)
        rw [decide_eq_true HL.out.symm] at this
        exact this
      have HM2 : Hid (∀ W, ReAt W X0 (wordR l) bw → Calls Tryd.prog 34 #[ptr bw, .string (s ++ ⟨#[UInt8.ofNat more]⟩)] W fun e w' => e = .returned (.bool false) ∧ Below W.heap.size W w') := fun W hb => by
        have hsz : (s ++ ⟨#[UInt8.ofNat more]⟩ : ByteArray).size ≤ 1000000 := by
          rw [ByteArray.size_append]
          show s.size + 1 ≤ 1000000
          omega
        have := match_word l X0 bw (s ++ ⟨#[UInt8.ofNat more]⟩) W hb X0X hl1 hsz
        rw [decide_eq_false (fun e => by
          rw [app_txt, ← HL.out] at e
          have := congrArg List.length e
          simp at this)] at this
        exact this
      have HMA : Hid (∀ W, ReAt W X0 (wordR l) bw → Calls Tryd.prog 26 #[ptr bw] W (RetRe W X0 (manyR (wordR l)))) := fun W hb => many_any _ X0 bw W hb X0X (by have := wordR_size l; omega)
      have HM3 : Hid (∀ W b, ReAt W X0 (manyR (wordR l)) b → Calls Tryd.prog 34 #[ptr b, .string (s ++ s)] W fun e w' => e = .returned (.bool true) ∧ Below W.heap.size W w') := fun W b hb => by
        have hsz : (s ++ s).size ≤ 1000000 := by
          rw [ByteArray.size_append]; omega
        have := match_many l X0 b (s ++ s) W hb X0X hl1 hsz
        rw [decide_eq_true (show StarP (fun u => u = l) (s ++ s).data.toList by rw [app_txt, ← HL.out]; exact star_two l)] at this
        exact this
      have hcv2 := run_convert_bytes_arg (P := Tryd.prog) (wr.alloc (.cells #[.int .u8 (more : Int)] 5)) 53 5 Tryd.underlying53 Tryd.underlying5 wr.heap.size 0 1 1 [(more : Int)] rfl (fun i hi => by
        obtain rfl : i = 0 := by omega
        exact cell0_new _ _ _) 9 Tryd.underlying9
      have hq : strOfNums [(more : Int)] = ⟨#[UInt8.ofNat more]⟩ := by simp only [strOfNums, List.map_cons, List.map_nil]; rfl
      rw [hq] at hcv2
      have HB0 := hid (HNOW.out.trans ((hbel.out.trans ((Below.refl _ _).alloc (Nat.le_refl _) (.cells #[.int .u8 (more : Int)] 5)|>.mono hszr)).mono HNOW.out.size))
      have HRD := hid (hre.out.under ((Below.refl _ _).alloc (Nat.le_refl _) (.cells #[.int .u8 (more : Int)] 5)))
      have HRW := hid ((HRW.out.under hbel.out).under ((Below.refl _ _).alloc (Nat.le_refl _) (.cells #[.int .u8 (more : Int)] 5)))
      have HNOW := HB0
      have i3 : (0 : Int) ≤ (k : Int) := by omega
      have i4 : (k : Int) ≤ (s.size : Int) := by omega
      clear hq hre HB0
      unfold ptr at *
      by_cases h0 : s.size = 0
      · have e0 : ((s.size : Int) == 0) = true := by rw [h0]; rfl
        clear h0
        go_wp2_with (first | (go_at_call 32; (with_reducible refine (HW2.out _).mono ?_); rintro e w5 ⟨bv, rfl, hw, hb1⟩; have HNOW := hid (HNOW.out.trans (hb1.mono HNOW.out.size)); (first | (have HRW := hid (HRW.out.under hb1)) | skip); (first | (have HRD := hid (HRD.out.under hb1)) | skip); clear hb1; have HRV := hid hw; clear hw) | (go_at_call 15; refine (HSA.out _ _ _ HRD.out HRV.out).mono ?_; rintro e w6 ⟨rfl, rfl⟩) | (go_at_call 34; (with_reducible refine (HM1.out _ HRW.out).mono ?_); rintro e w7 ⟨rfl, hb1⟩; have HNOW := hid (HNOW.out.trans (hb1.mono HNOW.out.size)); (first | (have HRW := hid (HRW.out.under hb1)) | skip); (first | (have HRD := hid (HRD.out.under hb1)) | skip); clear hb1; clear HM1) | (go_at_call 34; (with_reducible refine (HM2.out _ HRW.out).mono ?_); rintro e w8 ⟨rfl, hb1⟩; have HNOW := hid (HNOW.out.trans (hb1.mono HNOW.out.size)); (first | (have HRW := hid (HRW.out.under hb1)) | skip); (first | (have HRD := hid (HRD.out.under hb1)) | skip); clear hb1; clear HM2) | (go_at_call 26; (with_reducible refine (HMA.out _ HRW.out).mono ?_); rintro e w9 ⟨bm, rfl, hw, hb1⟩; have HNOW := hid (HNOW.out.trans (hb1.mono HNOW.out.size)); (first | (have HRW := hid (HRW.out.under hb1)) | skip); (first | (have HRD := hid (HRD.out.under hb1)) | skip); clear hb1; have HRM := hid hw; clear hw) | (go_at_call 34; (with_reducible refine (HM3.out _ _ HRM.out).mono ?_); rintro e w10 ⟨rfl, hb1⟩; have HNOW := hid (HNOW.out.trans (hb1.mono HNOW.out.size)); (first | (have HRW := hid (HRW.out.under hb1)) | skip); (first | (have HRD := hid (HRD.out.under hb1)) | skip); clear hb1; clear HM3))
        go_ret
        exact ⟨rfl, HNOW.out⟩
      · have e0 : ((s.size : Int) == 0) = false := intNe (b := 0) h0
        have i5 : (1 : Int) ≤ (s.size : Int) := by omega
        have HM4 : Hid (∀ W, ReAt W X0 (wordR l) bw → Calls Tryd.prog 34 #[.pointer (some ⟨bw, 0, none⟩), .string (s.extract 1 s.size)] W fun e w' => e = .returned (.bool false) ∧ Below W.heap.size W w') := fun W hb => by
          have := match_word l X0 bw (s.extract 1 s.size) W hb X0X hl1 (by rw [ByteArray.size_extract]; omega)
          rw [decide_eq_false (fun e => by
            rw [drop_txt', ← HL.out] at e
            have := congrArg List.length e
            have := HLL.out
            simp at *
            omega)] at this
          exact this
        go_wp2_with (first | (go_at_call 32; (with_reducible refine (HW2.out _).mono ?_); rintro e w5 ⟨bv, rfl, hw, hb1⟩; have HNOW := hid (HNOW.out.trans (hb1.mono HNOW.out.size)); (first | (have HRW := hid (HRW.out.under hb1)) | skip); (first | (have HRD := hid (HRD.out.under hb1)) | skip); clear hb1; have HRV := hid hw; clear hw) | (go_at_call 15; refine (HSA.out _ _ _ HRD.out HRV.out).mono ?_; rintro e w6 ⟨rfl, rfl⟩) | (go_at_call 34; (with_reducible refine (HM1.out _ HRW.out).mono ?_); rintro e w7 ⟨rfl, hb1⟩; have HNOW := hid (HNOW.out.trans (hb1.mono HNOW.out.size)); (first | (have HRW := hid (HRW.out.under hb1)) | skip); (first | (have HRD := hid (HRD.out.under hb1)) | skip); clear hb1; clear HM1) | (go_at_call 34; (with_reducible refine (HM2.out _ HRW.out).mono ?_); rintro e w8 ⟨rfl, hb1⟩; have HNOW := hid (HNOW.out.trans (hb1.mono HNOW.out.size)); (first | (have HRW := hid (HRW.out.under hb1)) | skip); (first | (have HRD := hid (HRD.out.under hb1)) | skip); clear hb1; clear HM2) | (go_at_call 26; (with_reducible refine (HMA.out _ HRW.out).mono ?_); rintro e w9 ⟨bm, rfl, hw, hb1⟩; have HNOW := hid (HNOW.out.trans (hb1.mono HNOW.out.size)); (first | (have HRW := hid (HRW.out.under hb1)) | skip); (first | (have HRD := hid (HRD.out.under hb1)) | skip); clear hb1; have HRM := hid hw; clear hw) | (go_at_call 34; (with_reducible refine (HM3.out _ _ HRM.out).mono ?_); rintro e w10 ⟨rfl, hb1⟩; have HNOW := hid (HNOW.out.trans (hb1.mono HNOW.out.size)); (first | (have HRW := hid (HRW.out.under hb1)) | skip); (first | (have HRD := hid (HRD.out.under hb1)) | skip); clear hb1; clear HM3) | (go_at_call 34; (with_reducible refine (HM4.out _ HRW.out).mono ?_); rintro e w11 ⟨rfl, hb1⟩; have HNOW := hid (HNOW.out.trans (hb1.mono HNOW.out.size)); (first | (have HRW := hid (HRW.out.under hb1)) | skip); (first | (have HRD := hid (HRD.out.under hb1)) | skip); clear hb1; clear HM4))
        go_ret
        exact ⟨rfl, HNOW.out⟩
end Go.Proofs.YtihloigpdcinkaaDoor
