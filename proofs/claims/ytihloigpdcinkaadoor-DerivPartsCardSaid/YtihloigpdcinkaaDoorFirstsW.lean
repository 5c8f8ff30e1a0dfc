/- The walk of law 05's firsts. -/
import Derived.Test.YtihloigpdcinkaaDoorSetsW2
import Derived.Test.YtihloigpdcinkaaDoorPart2
namespace Go.Proofs.YtihloigpdcinkaaDoor
open Go.RowKit

set_option maxRecDepth 100000 in
set_option maxHeartbeats 4000000 in
theorem firsts_any (r : Re) : ∀ (X : Nat → Prop) (b : Nat) (w : World), ReAt w X r b → r.size ≤ 1000000 → Calls Tryd.prog 43 #[ptr b] w (RetSets w (firstsR r)) := by
  induction r using Re.ind_ with
  | h r ih =>
    intro X b w h hsz
    obtain ⟨A, c, bs, hbc, hcap, hrow⟩ := h.row
    obtain ⟨k0, k1, k2, k3, k4, k5, -⟩ := cellsOf hbc
    have hbl := lt_of_heap hbc
    have xn := World.new_ne _ _ k0
    have xn1 := World.new_ne _ _ k1
    have xn5 := World.new_ne _ _ k5
    by_cases h2 : r.op = 2
    · obtain ⟨s, rfl⟩ := op_two h2
      have x2 := World.new_ne _ _ k2
      have x3 := World.new_ne _ _ k3
      have x4 := World.new_ne _ _ k4
      simp only [Re.op, Re.set] at k0 k1 k2 k3 k4
      clear h hbc hcap hrow ih h2
      unfold ptr
      go_enter Tryd.func43, Tryd.ntmps43
      go_wp2_with fail
      go_ret
      refine ⟨_, rfl, ?_, ((Below.refl _ _).alloc (Nat.le_refl _) _).alloc (by simp) _⟩
      have := OwnC.one (w.alloc (.cells #[] 42)) s w.heap.size (by simp)
      rw [show (w.alloc (.cells #[] 42)).heap.size = w.heap.size + 1 by simp] at this
      exact this
    · have hb2 : ((r.op : Int) == 2) = false := intNe (b := 2) h2
      have hks := Re.size_kids r
      obtain ⟨z, hz⟩ : ∃ z, z = firstsR r := ⟨_, rfl⟩
      rw [← hz]
      have hz3 : r.op = 3 → z = firstsR.firstsC r.kids := fun h3 => by
        rw [hz]
        cases r with
        | cat l => rfl
        | _ => simp [Re.op] at h3
      have hzn : r.op ≠ 3 → z = r.kids.flatMap firstsR := fun h3 => hz.trans (firstsR_kids h2 h3)
      generalize hl : r.kids = l at *
      generalize r.op = o at *
      obtain ⟨n, hn⟩ : ∃ n, n = l.length := ⟨_, rfl⟩
      have HN := hid hn
      have hnl := Re.length_le_sizes l
      rw [← hn] at k5 hrow hnl
      have HROW := hid hrow
      have HIH := hid ih
      have HSL : Hid (Re.sizes l ≤ 1000000) := hid (by omega)
      have hn1 : n ≤ 1000000 := by omega
      clear h hbc hcap hrow k1 k2 k3 k4 ih hn hl hz h2 hks hsz hnl
      unfold ptr at *
      by_cases h3 : o = 3
      · have HZ := hid (hz3 h3)
        have hb3 : ((o : Int) == 3) = true := by rw [h3]; rfl
        clear h3 hz3 hzn
        go_enter Tryd.func43, Tryd.ntmps43
        go_wp2_with fail
        go_loopw [3, 22] (fun v i wr => ∃ (k : Nat), k ≤ n ∧ i = .int .i64 k ∧ Hid (∀ x ∈ l.take k, x.null = true) ∧ Hid (OwnC wr w.heap.size v ((l.take k).flatMap firstsR)) ∧ Hid (Below w.heap.size w wr)) (fun _ i _ => n - (intOf i).toNat)
        case atStart => exact ⟨0, Nat.zero_le _, rfl, fun x hx => by simp at hx, World.ownsRow_lit w #[] 0 (Nat.le_refl _) (by decide) rfl, (Below.refl _ _).alloc (Nat.le_refl _) _⟩
        case round =>
          obtain ⟨k, hk, rfl, hnul, hown, hbel⟩ := hrel
          have hszr : w.heap.size ≤ wr.heap.size := hbel.out.size
          by_cases hlt : k < n
          · obtain ⟨g, o', x, bx, rfl, c1, hx, -, hax, hg⟩ := HROW.out.at_ (k := k) hlt
            have hc1 := (hbel.out.cell (p := ⟨g, o' + k, none⟩) hg).trans c1
            have HC := hid (HIH.out x (List.mem_of_getElem? hx) X bx wr (hax.under hbel.out) (by have := getD_mem_size l x (List.mem_of_getElem? hx); have := HSL.out; omega))
            have HNU : Hid (∀ W, Below w.heap.size w W → Calls Tryd.prog 21 #[ptr bx] W fun e w' => e = .returned (.bool x.null) ∧ W = w') := fun W hW => null_any x X bx W (hax.under hW)
            have HST := hid (firsts_take hx)
            have hbn : ((l.take k).flatMap firstsR).length + (firstsR x).length ≤ 1099511627776 := by
              have h1 := firsts_take_len l (k + 1)
              have h2 := HSL.out
              rw [HST.out, List.length_append] at h1
              omega
            have HX := hid hx
            unfold ptr at HC hc1 HNU
            cases hxn : x.null
            · have HZ2 : Hid (z = (l.take k).flatMap firstsR ++ firstsR x) := hid (by rw [HZ.out, firstsC_stop HX.out hnul.out hxn, HST.out])
              rw [hxn] at HNU
              clear hx hax c1 hxn
              go_wp2_with (first | (go_at_call 43; refine HC.out.mono ?_; rintro e w3 ⟨v2, rfl, h3, hb3⟩; obtain ⟨A2, c2, hv2⟩ := h3.form; subst hv2; have H3 := hid h3.rd; have HB3 := hid hb3; have hz3 : w.heap.size ≤ w3.heap.size := Nat.le_trans hszr hb3.size; have HO3 := hid (OwnC.kept hown.out hb3); have HB13 := hid (hbel.out.trans (hb3.mono hszr)); have HCW := hid fun o => HB13.out.cell (p := ⟨b, o, none⟩) hbl; clear h3 hb3) | (at_builtin; refine wpList_app_set _ rfl (.tmp 26) (.tmp 28) rfl w.heap.size _ _ rfl HO3.out _ _ _ (firstsR x) rfl H3.out.2.2 H3.out.2.1.2 hbn hz3 ?_; intro v' w4 ho4 hg4; have HO4 := hid ho4; have HB4 := hid (OwnC.below HB13.out HO3.out hg4); have j0 := (HB4.out.cell (p := ⟨b, 0, none⟩) hbl).trans k0; clear ho4 hg4) | (go_at_call 21; refine (HNU.out _ HB4.out).mono ?_; rintro e w5 ⟨rfl, rfl⟩))
              go_ret
              exact ⟨_, rfl, by rw [HZ2.out]; exact HO4.out, HB4.out⟩
            · have HNX : Hid (∀ y ∈ l.take (k + 1), y.null = true) := fun y hy => by
                obtain ⟨l1, e1⟩ := List.getElem?_eq_some_iff.1 HX.out
                rw [List.take_succ_eq_append_getElem l1, e1] at hy
                rcases List.mem_append.1 hy with h | h
                · exact hnul.out y h
                · rw [List.mem_singleton.1 h]; exact hxn
              rw [hxn] at HNU
              clear hx hax c1 hxn
              go_wp2_with (first | (go_at_call 43; refine HC.out.mono ?_; rintro e w3 ⟨v2, rfl, h3, hb3⟩; obtain ⟨A2, c2, hv2⟩ := h3.form; subst hv2; have H3 := hid h3.rd; have HB3 := hid hb3; have hz3 : w.heap.size ≤ w3.heap.size := Nat.le_trans hszr hb3.size; have HO3 := hid (OwnC.kept hown.out hb3); have HB13 := hid (hbel.out.trans (hb3.mono hszr)); have HCW := hid fun o => HB13.out.cell (p := ⟨b, o, none⟩) hbl; clear h3 hb3) | (at_builtin; refine wpList_app_set _ rfl (.tmp 26) (.tmp 28) rfl w.heap.size _ _ rfl HO3.out _ _ _ (firstsR x) rfl H3.out.2.2 H3.out.2.1.2 hbn hz3 ?_; intro v' w4 ho4 hg4; have HO4 := hid ho4; have HB4 := hid (OwnC.below HB13.out HO3.out hg4); have j0 := (HB4.out.cell (p := ⟨b, 0, none⟩) hbl).trans k0; clear ho4 hg4) | (go_at_call 21; refine (HNU.out _ HB4.out).mono ?_; rintro e w5 ⟨rfl, rfl⟩))
              go_roundw
              case rel => exact ⟨k + 1, by omega, by go_num, HNX.out, by rw [HST.out]; exact HO4.out, HB4.out⟩
              case measure => simp [intOf]; omega
          · have hkn : k = n := by omega
            subst hkn
            go_wp2_with fail
            go_ret
            refine ⟨_, rfl, ?_, hbel.out⟩
            rw [HZ.out, firstsC_end (Nat.le_of_eq HN.out.symm) hnul.out, ← List.take_of_length_le (Nat.le_of_eq HN.out.symm)]
            exact hown.out
      · have HZ := hid (hzn h3)
        have hb3 : ((o : Int) == 3) = false := intNe (b := 3) h3
        clear h3 hz3 hzn
        go_enter Tryd.func43, Tryd.ntmps43
        go_wp2_with fail
        go_loopw [3, 22] (fun v i wr => ∃ (k : Nat), k ≤ n ∧ i = .int .i64 k ∧ Hid (OwnC wr w.heap.size v ((l.take k).flatMap firstsR)) ∧ Hid (Below w.heap.size w wr)) (fun _ i _ => n - (intOf i).toNat)
        case atStart => exact ⟨0, Nat.zero_le _, rfl, World.ownsRow_lit w #[] 0 (Nat.le_refl _) (by decide) rfl, (Below.refl _ _).alloc (Nat.le_refl _) _⟩
        case round =>
          obtain ⟨k, hk, rfl, hown, hbel⟩ := hrel
          have hszr : w.heap.size ≤ wr.heap.size := hbel.out.size
          by_cases hlt : k < n
          · obtain ⟨g, o', x, bx, rfl, c1, hx, -, hax, hg⟩ := HROW.out.at_ (k := k) hlt
            have hc1 := (hbel.out.cell (p := ⟨g, o' + k, none⟩) hg).trans c1
            have HC := hid (HIH.out x (List.mem_of_getElem? hx) X bx wr (hax.under hbel.out) (by have := getD_mem_size l x (List.mem_of_getElem? hx); have := HSL.out; omega))
            have HST := hid (firsts_take hx)
            have hbn : ((l.take k).flatMap firstsR).length + (firstsR x).length ≤ 1099511627776 := by
              have h1 := firsts_take_len l (k + 1)
              have h2 := HSL.out
              rw [HST.out, List.length_append] at h1
              omega
            unfold ptr at HC hc1
            clear hx hax c1
            go_wp2_with (first | (go_at_call 43; refine HC.out.mono ?_; rintro e w3 ⟨v2, rfl, h3, hb3⟩; obtain ⟨A2, c2, hv2⟩ := h3.form; subst hv2; have H3 := hid h3.rd; have HB3 := hid hb3; have hz3 : w.heap.size ≤ w3.heap.size := Nat.le_trans hszr hb3.size; have HO3 := hid (OwnC.kept hown.out hb3); have HB13 := hid (hbel.out.trans (hb3.mono hszr)); have HCW := hid fun o => HB13.out.cell (p := ⟨b, o, none⟩) hbl; clear h3 hb3) | (at_builtin; refine wpList_app_set _ rfl (.tmp 26) (.tmp 28) rfl w.heap.size _ _ rfl HO3.out _ _ _ (firstsR x) rfl H3.out.2.2 H3.out.2.1.2 hbn hz3 ?_; intro v' w4 ho4 hg4; have HO4 := hid ho4; have HB4 := hid (OwnC.below HB13.out HO3.out hg4); have j0 := (HB4.out.cell (p := ⟨b, 0, none⟩) hbl).trans k0; clear ho4 hg4))
            go_roundw
            case rel => exact ⟨k + 1, by omega, by go_num, by rw [HST.out]; exact HO4.out, HB4.out⟩
            case measure => simp [intOf]; omega
          · have hkn : k = n := by omega
            subst hkn
            go_wp2_with fail
            go_ret
            refine ⟨_, rfl, ?_, hbel.out⟩
            rw [HZ.out, ← List.take_of_length_le (Nat.le_of_eq HN.out.symm)]
            exact hown.out
end Go.Proofs.YtihloigpdcinkaaDoor
