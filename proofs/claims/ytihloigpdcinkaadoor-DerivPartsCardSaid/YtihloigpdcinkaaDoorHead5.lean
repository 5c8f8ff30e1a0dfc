/- The walk of law 05's head. -/
import Derived.Test.YtihloigpdcinkaaDoorMatchW
namespace Go.Proofs.YtihloigpdcinkaaDoor
open Go.RowKit

theorem starP_len {w : Txt} {t : Txt} (h : StarP (fun u => u = w) t) : ∃ n, t.length = n * w.length := by
  induction h with
  | nil => exact ⟨0, by simp⟩
  | step a b _ ha _ ih =>
    obtain ⟨n, hn⟩ := ih
    exact ⟨n + 1, by rw [List.length_append, hn, ha, Nat.succ_mul]; omega⟩
theorem lang_word_many (l t : Txt) : Lang (manyR (wordR l)) t ↔ StarP (fun u => u = l) t := by
  have e : Lang (wordR l) = fun u => u = l := funext fun u => propext (lang_word l u)
  rw [lang_many, e]
theorem star_two (l : Txt) : StarP (fun u => u = l) (l ++ l) := by
  by_cases h : l = []
  · rw [h]; exact .nil
  · have := StarP.step (P := fun u => u = l) l (l ++ []) h rfl (.step l [] h rfl .nil)
    rwa [List.append_nil] at this
open Classical in
/-- Match of a word. -/
theorem match_word (l : List UInt8) (X : Nat → Prop) (b : Nat) (s : ByteArray) (w : World) (h : ReAt w X (wordR l) b) (hX : ∀ k, X k → k < w.heap.size) (hl : l.length ≤ 1000) (hs : s.size ≤ 1000000) :
    Calls Tryd.prog 34 #[ptr b, .string s] w fun e w' => e = .returned (.bool (decide (s.data.toList = l))) ∧ Below w.heap.size w w' := by
  have := match_any (wordR l) X b s w h hX (wordR_good l) hs (fun k _ => by have := bys_word_size (s.data.toList.take k) l; omega)
  rw [decide_eq_decide.2 (lang_word l _)] at this
  exact this
open Classical in
/-- Match of a word as often as one likes. -/
theorem match_many (l : List UInt8) (X : Nat → Prop) (b : Nat) (s : ByteArray) (w : World) (h : ReAt w X (manyR (wordR l)) b) (hX : ∀ k, X k → k < w.heap.size) (hl : l.length ≤ 1000) (hs : s.size ≤ 1000000) :
    Calls Tryd.prog 34 #[ptr b, .string s] w fun e w' => e = .returned (.bool (decide (StarP (fun u => u = l) s.data.toList))) ∧ Below w.heap.size w w' := by
  have := match_any (manyR (wordR l)) X b s w h hX (manyR_good (wordR_good l)) hs (fun k _ => by have := bys_many_size (s.data.toList.take k) l; omega)
  rw [decide_eq_decide.2 (lang_word_many l _)] at this
  exact this
theorem X0X {W : World} : ∀ k, X0 k → k < W.heap.size := X0_lt W
theorem wordX (l : List UInt8) (s : ByteArray) (h : s.data.toList = l) (hs : s.size ≤ 1000000) (W : World) : Calls Tryd.prog 32 #[.string s] W (RetRe W X0 (wordR l)) := by
  rw [← h]; exact word_any s X0 W (X0_lt W) hs
open Classical in
set_option maxRecDepth 100000 in
set_option maxHeartbeats 2000000 in
theorem head5_any (w : World) : Calls Tryd.prog 31 #[] w fun e w' => e = .returned (.bool true) ∧ Below w.heap.size w w' := by
  have HW1 := hid (fun W => wordX [97, 98] ⟨#[97, 98]⟩ rfl (by decide) W)
  have HW2 := hid (fun W => wordX [98] ⟨#[98]⟩ rfl (by decide) W)
  obtain ⟨S, hS⟩ : ∃ S, S = manyR (wordR [97, 98]) := ⟨_, rfl⟩
  have hS' : S = .star (wordR [97, 98]) := by rw [hS, many_word, if_neg (by simp)]
  obtain ⟨D, hD⟩ : ∃ D, D = thenL [wordR [98], S] := ⟨_, rfl⟩
  have hs97 : (97 : UInt8).toNat = 97 := rfl
  have hby : byR 97 S = D := by
    have := byR_many 97 97 [98]
    rw [if_pos rfl] at this
    rw [hD, hS', wordR_pack [98]]
    exact this.trans (thenL_packs (m := [.star (wordR [97, 98])]) (bytes_atoms [98]) (star_atom _)).symm
  have hgS : Good S := by rw [hS]; exact manyR_good (wordR_good _)
  have hszS : S.size ≤ 100 := by rw [hS]; have := bys_many_size [] [97, 98]; simp [bysL] at this; omega
  have hw1 := wordR_size [97, 98]
  have hw2 := wordR_size [98]
  simp only [List.length_cons, List.length_nil] at hw1 hw2
  have HMA : Hid (∀ W b, ReAt W X0 (wordR [97, 98]) b → Calls Tryd.prog 26 #[ptr b] W (RetRe W X0 S)) := fun W b hb => by
    rw [hS]; exact many_any _ X0 b W hb X0X (by omega)
  have HBY : Hid (∀ W b, ReAt W X0 S b → Calls Tryd.prog 33 #[ptr b, .int .u8 97] W (RetRe W X0 D)) := fun W b hb => by
    have := by_any 97 (by decide) S hgS (by omega) X0 b W hb X0X
    rw [hby] at this
    exact this
  have HTH : Hid (∀ W a b, ReAt W X0 (wordR [98]) a → ReAt W X0 S b → Calls Tryd.prog 17 #[.slice (some ⟨W.heap.size, 0, none⟩) 2 2] (W.alloc (.cells #[ptr a, ptr b] 27)) (RetRe W X0 D)) := fun W a b ha hb => by
    rw [hD]; exact then_two _ _ X0 W a b ha hb X0X (by omega)
  have HSA : Hid (∀ W a b, ReAt W X0 D a → ReAt W X0 D b → Calls Tryd.prog 15 #[ptr a, ptr b] W fun e w' => e = .returned (.bool true) ∧ W = w') := fun W a b ha hb => (same_any _ _ X0 X0 a b W ha hb).mono fun e w' h => ⟨by rw [h.1, beq_self_eq_true], h.2⟩
  have HM1 : Hid (∀ W b, ReAt W X0 S b → Calls Tryd.prog 34 #[ptr b, .string ⟨#[97, 98, 97, 98]⟩] W fun e w' => e = .returned (.bool true) ∧ Below W.heap.size W w') := fun W b hb => by
    rw [hS] at hb
    have := match_many [97, 98] X0 b ⟨#[97, 98, 97, 98]⟩ W hb X0X (by decide) (by decide)
    rw [decide_eq_true (show StarP (fun u => u = [97, 98]) (ByteArray.mk #[97, 98, 97, 98]).data.toList from star_two [97, 98])] at this
    exact this
  have HM2 : Hid (∀ W b, ReAt W X0 S b → Calls Tryd.prog 34 #[ptr b, .string ⟨#[97, 98, 97]⟩] W fun e w' => e = .returned (.bool false) ∧ Below W.heap.size W w') := fun W b hb => by
    rw [hS] at hb
    have := match_many [97, 98] X0 b ⟨#[97, 98, 97]⟩ W hb X0X (by decide) (by decide)
    rw [decide_eq_false (fun h => by
      obtain ⟨n, hn⟩ := starP_len h
      simp at hn
      omega)] at this
    exact this
  have HBL : Hid (Below w.heap.size w w) := Below.refl _ _
  clear hS hS' hD hs97 hby hgS hszS hw1 hw2
  generalize wordR [97, 98] = W1 at *
  generalize wordR [98] = W2 at *
  unfold ptr at *
  go_enter Tryd.func31, Tryd.ntmps31
  go_wp2_with (first | (go_at_call 32; (with_reducible refine (HW1.out _).mono ?_); rintro e w2 ⟨bw, rfl, hw, hb1⟩; have HBL := hid (HBL.out.trans (hb1.mono HBL.out.size)); (first | (have HRs := hid (HRs.out.under hb1)) | skip); (first | (have HRd := hid (HRd.out.under hb1)) | skip); (first | (have HRw := hid (HRw.out.under hb1)) | skip); clear hb1; have HRw := hid hw; clear hw HW1) | (go_at_call 26; refine (HMA.out _ _ HRw.out).mono ?_; rintro e w3 ⟨bs, rfl, hw, hb1⟩; have HBL := hid (HBL.out.trans (hb1.mono HBL.out.size)); (first | (have HRs := hid (HRs.out.under hb1)) | skip); (first | (have HRd := hid (HRd.out.under hb1)) | skip); (first | (have HRw := hid (HRw.out.under hb1)) | skip); clear hb1; have HRs := hid hw; clear hw HRw) | (go_at_call 33; refine (HBY.out _ _ HRs.out).mono ?_; rintro e w4 ⟨bd, rfl, hw, hb1⟩; have HBL := hid (HBL.out.trans (hb1.mono HBL.out.size)); (first | (have HRs := hid (HRs.out.under hb1)) | skip); (first | (have HRd := hid (HRd.out.under hb1)) | skip); (first | (have HRw := hid (HRw.out.under hb1)) | skip); clear hb1; have HRd := hid hw; clear hw) | (go_at_call 32; (with_reducible refine (HW2.out _).mono ?_); rintro e w5 ⟨bv, rfl, hw, hb1⟩; have HBL := hid (HBL.out.trans (hb1.mono HBL.out.size)); (first | (have HRs := hid (HRs.out.under hb1)) | skip); (first | (have HRd := hid (HRd.out.under hb1)) | skip); (first | (have HRw := hid (HRw.out.under hb1)) | skip); clear hb1; have HRw := hid hw; clear hw) | (go_at_call 17; refine (HTH.out _ _ _ HRw.out HRs.out).mono ?_; rintro e w6 ⟨bt, rfl, hw, hb1⟩; have HBL := hid (HBL.out.trans (hb1.mono HBL.out.size)); (first | (have HRs := hid (HRs.out.under hb1)) | skip); (first | (have HRd := hid (HRd.out.under hb1)) | skip); (first | (have HRw := hid (HRw.out.under hb1)) | skip); clear hb1; have HRt := hid hw; clear hw) | (go_at_call 15; refine (HSA.out _ _ _ HRd.out HRt.out).mono ?_; rintro e w7 ⟨rfl, rfl⟩) | (go_at_call 34; (with_reducible refine (HM1.out _ _ HRs.out).mono ?_); rintro e w8 ⟨rfl, hb1⟩; have HBL := hid (HBL.out.trans (hb1.mono HBL.out.size)); (first | (have HRs := hid (HRs.out.under hb1)) | skip); (first | (have HRd := hid (HRd.out.under hb1)) | skip); (first | (have HRw := hid (HRw.out.under hb1)) | skip); clear hb1; clear HM1) | (go_at_call 34; (with_reducible refine (HM2.out _ _ HRs.out).mono ?_); rintro e w9 ⟨rfl, hb1⟩; have HBL := hid (HBL.out.trans (hb1.mono HBL.out.size)); (first | (have HRs := hid (HRs.out.under hb1)) | skip); (first | (have HRd := hid (HRd.out.under hb1)) | skip); (first | (have HRw := hid (HRw.out.under hb1)) | skip); clear hb1))
  go_ret
  exact ⟨rfl, HBL.out⟩
end Go.Proofs.YtihloigpdcinkaaDoor
