/- The walk of deriv.Match. -/
import Derived.Test.YtfpfloahkibcgaaGreatDoorDerWord
namespace Go.Proofs.YtfpfloahkibcgaaGreatDoor
open Go.RowKit

theorem intNe {a b : Nat} (h : a ≠ b) : ((a : Int) == (b : Int)) = false := by
  have : ¬ (a : Int) = (b : Int) := by omega
  simp [this]
open Classical in
set_option maxRecDepth 100000 in
set_option maxHeartbeats 2000000 in
theorem match_by (r : Re) (X : Nat → Prop) (b : Nat) (s : ByteArray) (w : World) (h : ReAt w X r b) (hX : ∀ k, X k → k < w.heap.size) (hg : Good r) (hs : s.size ≤ 1000000) (hsz : ∀ k, k < s.size → ∀ y, y < 256 → ByFn y (bysL r (s.data.toList.take k))) :
    Calls Tryz.prog 33 #[ptr b, .string s] w fun e w' => e = .returned (.bool (decide (Lang r s.data.toList))) ∧ Below w.heap.size w w' := by
  obtain ⟨c, w1, hconv, hb1, hz1, hcells⟩ := conv_bytes s w
  have HB1 := hid hb1
  have HCE := hid hcells
  have HSZ := hid hsz
  have HG := hid hg
  have HX1 : Hid (∀ k, X k → k < w1.heap.size) := fun k hk => Nat.lt_of_lt_of_le (hX k hk) hb1.size
  have HR := hid (h.under hb1)
  have hlen : s.data.toList.length = s.size := by simp
  have HLEN := hid hlen
  obtain ⟨z, hz⟩ : ∃ z, z = decide (Lang r s.data.toList) := ⟨_, rfl⟩
  rw [← hz]
  have HZ := hid hz
  clear hX hb1 hcells hlen hsz hg h hz
  unfold ptr
  go_enter Tryz.func33, Tryz.ntmps33
  go_wp2_with fail
  clear hconv
  obtain ⟨l, hl⟩ : ∃ l, l = s.data.toList := ⟨_, rfl⟩
  rw [← hl] at HCE HLEN HSZ HZ
  clear hl
  obtain ⟨n, hn⟩ : ∃ n, n = s.size := ⟨_, rfl⟩
  rw [← hn] at HLEN HSZ hs ⊢
  clear hn
  go_loopw [0, 10] (fun p i wr => ∃ (k bk : Nat), k ≤ n ∧ i = .int .i64 k ∧ p = .pointer (some ⟨bk, 0, none⟩) ∧ Hid (ReAt wr X (bysL r (l.take k)) bk) ∧ Hid (Below w1.heap.size w1 wr)) (fun _ i _ => n - (intOf i).toNat)
  case atStart => exact ⟨0, b, Nat.zero_le _, rfl, rfl, HR.out, Below.refl _ _⟩
  case round =>
    obtain ⟨k, bk, hk, rfl, rfl, hre, hbel⟩ := hrel
    have hszr : w1.heap.size ≤ wr.heap.size := hbel.out.size
    by_cases hlt : k < n
    · obtain ⟨x, hx⟩ : ∃ x, l[k]? = some x := ⟨l[k]'(by rw [HLEN.out]; exact hlt), List.getElem?_eq_getElem _⟩
      have hc1 := (hbel.out.cell (p := ⟨w.heap.size, k, none⟩) hz1).trans (HCE.out k x hx)
      have HST : Hid (bysL r (l.take (k + 1)) = byR x.toNat (bysL r (l.take k))) := hid (by
        obtain ⟨hl, e⟩ := List.getElem?_eq_some_iff.1 hx
        rw [List.take_succ_eq_append_getElem hl, e, bysL_snoc])
      have HC := hid (HSZ.out k hlt x.toNat x.toNat_lt X bk wr hre.out (fun k hk => Nat.lt_of_lt_of_le (HX1.out k hk) hszr))
      rw [← HST.out] at HC
      obtain ⟨o, ho⟩ : ∃ o, o = (bysL r (l.take (k + 1))).op := ⟨_, rfl⟩
      have HO := hid ho
      unfold ptr at HC
      by_cases h0 : o = 0
      · have HZ0 : Hid (z = false) := hid (HZ.out.trans (decide_eq_false fun h => by
          rw [← List.take_append_drop (k + 1) l, ← lang_bys HG.out, op_zero (ho.symm.trans h0), lang_none] at h
          exact h))
        have hb0 : ((o : Int) == 0) = true := by rw [h0]; rfl
        clear hx ho h0
        go_wp2_with (go_at_call 78; refine HC.out.mono ?_; rintro e w3 ⟨b3, rfl, h3, hb3⟩; have H3 := hid h3; have HB3 := hid (hbel.out.trans (hb3.mono hszr)); obtain ⟨A3, c3, bs3, hbc3, -, -⟩ := h3.row; obtain ⟨j0, -⟩ := cellsOf hbc3; rw [← HO.out] at j0; clear h3 hb3 hbc3)
        go_ret
        exact ⟨by rw [HZ0.out]; rfl, HB1.out.trans (HB3.out.mono HB1.out.size)⟩
      · have hb0 : ((o : Int) == 0) = false := intNe (b := 0) h0
        clear hx ho h0
        go_wp2_with (go_at_call 78; refine HC.out.mono ?_; rintro e w3 ⟨b3, rfl, h3, hb3⟩; have H3 := hid h3; have HB3 := hid (hbel.out.trans (hb3.mono hszr)); obtain ⟨A3, c3, bs3, hbc3, -, -⟩ := h3.row; obtain ⟨j0, -⟩ := cellsOf hbc3; rw [← HO.out] at j0; clear h3 hb3 hbc3)
        go_roundw
        case rel => exact ⟨k + 1, b3, by omega, by go_num, rfl, H3.out, HB3.out⟩
        case measure => simp [intOf]; omega
    · have hkn : k = n := by omega
      subst hkn
      have HZ1 : Hid (z = (bysL r (l.take k)).null) := hid (by
        rw [HZ.out, Bool.eq_iff_iff, null_lang, lang_bys HG.out, List.take_of_length_le (by rw [HLEN.out]; exact Nat.le_refl _), List.append_nil, decide_eq_true_iff])
      have HC := hid (null_any _ X bk wr hre.out)
      rw [← HZ1.out] at HC
      unfold ptr at HC
      go_wp2_with (go_at_call 56; refine HC.out.mono ?_; rintro e w3 ⟨rfl, rfl⟩)
      go_ret
      exact ⟨rfl, HB1.out.trans (hbel.out.mono HB1.out.size)⟩
open Classical in
theorem match_any (r : Re) (X : Nat → Prop) (b : Nat) (s : ByteArray) (w : World) (h : ReAt w X r b) (hX : ∀ k, X k → k < w.heap.size) (hg : Good r) (hs : s.size ≤ 1000000) (hsz : ∀ k, k ≤ s.size → (bysL r (s.data.toList.take k)).size ≤ 400000) :
    Calls Tryz.prog 33 #[ptr b, .string s] w fun e w' => e = .returned (.bool (decide (Lang r s.data.toList))) ∧ Below w.heap.size w w' :=
  match_by r X b s w h hX hg hs fun k hk y hy => by_any y hy _ (bysL_good hg _) (hsz k (Nat.le_of_lt hk))
end Go.Proofs.YtfpfloahkibcgaaGreatDoor
