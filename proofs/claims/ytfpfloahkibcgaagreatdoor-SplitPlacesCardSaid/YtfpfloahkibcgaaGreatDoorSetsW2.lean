/- The walk of deriv.Sets; calls with nil. -/
import Derived.Test.YtfpfloahkibcgaaGreatDoorSetsW
namespace Go.Proofs.YtfpfloahkibcgaaGreatDoor
open Go.RowKit

set_option maxRecDepth 100000 in
set_option maxHeartbeats 2000000 in
theorem dsets_any (r : Re) : ∀ (X : Nat → Prop) (b : Nat) (w : World), ReAt w X r b → r.size ≤ 1000000 → Calls Tryz.prog 107 #[ptr b] w (RetSets w (setsR r)) := by
  induction r using Re.ind_ with
  | h r ih =>
    intro X b w h hsz
    obtain ⟨A, c, bs, hbc, hcap, hrow⟩ := h.row
    obtain ⟨k0, k1, k2, k3, k4, k5, -⟩ := cellsOf hbc
    have hbl := lt_of_heap hbc
    by_cases h2 : r.op = 2
    · obtain ⟨s, rfl⟩ := op_two h2
      simp only [Re.op, Re.set] at k0 k1 k2 k3 k4
      clear h hbc hcap hrow ih h2
      unfold ptr
      go_enter Tryz.func107, Tryz.ntmps107
      go_wp2_with fail
      go_ret
      exact ⟨_, rfl, OwnC.one w s w.heap.size (Nat.le_refl _), (Below.refl _ _).alloc (Nat.le_refl _) _⟩
    · have hb2 : ((r.op : Int) == 2) = false := intNe (b := 2) h2
      have HS := hid (setsR_kids h2)
      have hks := Re.size_kids r
      obtain ⟨z, hz⟩ : ∃ z, z = setsR r := ⟨_, rfl⟩
      rw [← hz] at HS ⊢
      generalize hl : r.kids = l at *
      generalize r.op = o at *
      obtain ⟨n, hn⟩ : ∃ n, n = l.length := ⟨_, rfl⟩
      have HN := hid hn
      have hnl := Re.length_le_sizes l
      rw [← hn] at k5 hrow hnl
      have HROW := hid hrow
      have HIH := hid ih
      have HSL : Hid (Re.sizes l ≤ 1000000) := hid (by omega)
      have hn1 : n ≤ 1000000 := by omega
      clear h hbc hcap hrow k1 k2 k3 k4 ih hn hl hz h2 hks hsz hnl
      unfold ptr at *
      go_enter Tryz.func107, Tryz.ntmps107
      go_wp2_with fail
      go_loopw [3, 23] (fun v i wr => ∃ (k : Nat), k ≤ n ∧ i = .int .i64 k ∧ Hid (OwnC wr w.heap.size v ((l.take k).flatMap setsR)) ∧ Hid (Below w.heap.size w wr)) (fun _ i _ => n - (intOf i).toNat)
      case atStart => exact ⟨0, Nat.zero_le _, rfl, OwnC.nil _ _, Below.refl _ _⟩
      case round =>
        obtain ⟨k, hk, rfl, hown, hbel⟩ := hrel
        have hszr : w.heap.size ≤ wr.heap.size := hbel.out.size
        by_cases hlt : k < n
        · obtain ⟨g, o', x, bx, rfl, c1, hx, -, hax, hg⟩ := HROW.out.at_ (k := k) hlt
          have hc1 := (hbel.out.cell (p := ⟨g, o' + k, none⟩) hg).trans c1
          have HC := hid (HIH.out x (List.mem_of_getElem? hx) X bx wr (hax.under hbel.out) (by have := getD_mem_size l x (List.mem_of_getElem? hx); have := HSL.out; omega))
          have HST := hid (sets_take hx)
          have hbn : ((l.take k).flatMap setsR).length + (setsR x).length ≤ 1099511627776 := by
            have h1 := sets_take_len l (k + 1)
            have h2 := HSL.out
            rw [HST.out, List.length_append] at h1
            omega
          unfold ptr at HC hc1
          clear hx hax c1
          go_wp2_with (first | (go_at_call 107; refine HC.out.mono ?_; rintro e w3 ⟨v2, rfl, h3, hb3⟩; obtain ⟨A2, c2, hv2⟩ := h3.form; subst hv2; have H3 := hid h3.rd; have HB3 := hid hb3; have hz3 : w.heap.size ≤ w3.heap.size := Nat.le_trans hszr hb3.size; have HO3 := hid (OwnC.kept hown.out hb3); have HB13 := hid (hbel.out.trans (hb3.mono hszr)); clear h3 hb3) | (at_builtin; refine wpList_app_set _ rfl (.tmp 27) (.tmp 29) rfl w.heap.size _ _ rfl HO3.out _ _ _ (setsR x) rfl H3.out.2.2 H3.out.2.1.2 hbn hz3 ?_; intro v' w4 ho4 hg4; have HO4 := hid ho4; have HG4 := hid hg4; clear ho4 hg4))
          go_roundw
          case rel => exact ⟨k + 1, by omega, by go_num, by rw [HST.out]; exact HO4.out, OwnC.below HB13.out HO3.out HG4.out⟩
          case measure => simp [intOf]; omega
        · have hkn : k = n := by omega
          subst hkn
          go_wp2_with fail
          go_ret
          refine ⟨_, rfl, ?_, hbel.out⟩
          rw [HS.out, ← List.take_of_length_le (Nat.le_of_eq HN.out.symm)]
          exact hown.out
theorem dsets_nil (w : World) : Calls Tryz.prog 107 #[.pointer none] w fun e w' => e = .returned (.slice none 0 0) ∧ w = w' := by
  go_enter Tryz.func107, Tryz.ntmps107
  go_wp2_with fail
  go_ret
  exact ⟨rfl, rfl⟩
theorem by_nil (y : Nat) (X : Nat → Prop) (w : World) (hX : ∀ k, X k → k < w.heap.size) : Calls Tryz.prog 78 #[.pointer none, .int .u8 y] w (RetRe w X .none) := by
  have HN := hid (nothing_any X w hX)
  go_enter Tryz.func78, Tryz.ntmps78
  go_wp2_with (go_at_call 67; refine HN.out.mono ?_; rintro e w2 hre; have HRE := hid hre; obtain ⟨bn, rfl, -⟩ := hre)
  go_ret
  exact HRE.out
end Go.Proofs.YtfpfloahkibcgaaGreatDoor
