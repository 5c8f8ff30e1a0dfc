/- The walk of slices.CompactFunc by (*Re).Same. -/
import Derived.Test.YtihloigpdcinkaaDoorRows5
namespace Go.Proofs.YtihloigpdcinkaaDoor
open Go.RowKit

/-- (*Re).Same in whatever world some draws on. -/
theorem same_drewN (r s : Re) (X : Nat → Prop) (b c : Nat) (w : World) (h : ReAt w X r b) (h' : ReAt w X s c) : ∀ n, Calls Tryd.prog 15 #[ptr b, ptr c] (w.drewN n) fun e w' => e = .returned (.bool (r.key == s.key)) ∧ w' = w.drewN n :=
  fun n => (same_any r s X X b c (w.drewN n) (h.drewN n) (h'.drewN n)).mono fun _ _ ⟨h1, h2⟩ => ⟨h1, h2.symm⟩

set_option maxHeartbeats 1000000 in
theorem compactFunc_any (base : Nat) (v : Value) (rs : List Re) (bs : List Nat) (X : Nat → Prop) (w : World) (hown : OwnP w base v bs) (hels : Els w (Xo X v) rs bs) (hn : bs.length ≤ 1099511627776) :
    Calls Tryd.prog 81 #[v, .func (.func 15) #[] #[]] w (RetCut w X base v (compactK rs)) := by
  obtain ⟨A, c, rfl⟩ := hown.form
  obtain ⟨-, hcap, hrd⟩ := hown.rd
  have hlen := hels.1
  by_cases h2 : bs.length < 2
  · have HF : Hid (compactK rs = rs) := compactK_short rs (by omega)
    have HO := hid hown
    have HE := hid hels
    clear hown hels hrd hcap
    go_enter Tryd.func81, Tryd.ntmps81
    go_wp2_with fail
    go_ret
    exact ⟨_, bs, rfl, HO.out, by rw [HF.out]; exact HE.out, World.grownBy.refl w _, rfl⟩
  · obtain ⟨g, o, rfl, hg, hcells⟩ := hrd.2 (by omega)
    obtain rfl : o = 0 := by
      unfold OwnP at hown
      rcases hown.2 with ⟨e, _⟩ | ⟨g', cap', cur, e, _⟩
      · cases e
      · cases e; rfl
    have HO := hid hown
    have HE := hid hels
    have hc := hcap.1
    clear hown hels hrd hcap hcells
    go_enter Tryd.func81, Tryd.ntmps81
    go_wp2_with fail
    go_loopw [5] (fun s5 wr => ∃ m : Nat, s5 = .int .i64 ((m : Int) + 1) ∧ m + 1 ≤ bs.length ∧ Hid (∀ i x, i < m + 1 → (cmask rs)[i]? = some x → x = true) ∧ Hid (OwnP wr base (.slice (some ⟨g, 0, none⟩) bs.length c) bs) ∧ Hid (Els wr (Xo X (.slice (some ⟨g, 0, none⟩) bs.length c)) rs bs) ∧ Hid (w.grownBy wr (some g))) (fun s5 _ => bs.length - (intOf s5).toNat)
    case atStart =>
      refine ⟨0, rfl, by omega, fun i x hi hx => ?_, HO, HE, World.grownBy.refl w _⟩
      obtain rfl : i = 0 := by omega
      rw [cmask_zero rs (by omega)] at hx
      cases hx; rfl
    case round =>
      obtain ⟨m, rfl, hmn, hall, hown, hels, hgr⟩ := hrel
      by_cases hlt : m + 1 < bs.length
      · obtain ⟨b1, hb1⟩ : ∃ b, bs[m + 1]? = some b := ⟨bs[m + 1], List.getElem?_eq_getElem hlt⟩
        obtain ⟨b0, hb0⟩ : ∃ b, bs[m]? = some b := ⟨bs[m], List.getElem?_eq_getElem (by omega)⟩
        obtain ⟨r1, hr1⟩ : ∃ r, rs[m + 1]? = some r := ⟨rs[m + 1], List.getElem?_eq_getElem (by omega)⟩
        obtain ⟨r0, hr0⟩ : ∃ r, rs[m]? = some r := ⟨rs[m], List.getElem?_eq_getElem (by omega)⟩
        obtain ⟨g', o', e, hg', hcs⟩ := hown.out.rd.2.2.2 (by omega)
        cases e
        have c1 := hcs (m + 1) _ (by rw [List.getElem?_map, hb1]; rfl)
        have c0 := hcs m _ (by rw [List.getElem?_map, hb0]; rfl)
        simp only [Nat.zero_add] at c1 c0
        have HC := hid (same_drewN r1 r0 _ b1 b0 wr (hels.out.2 _ _ _ hr1 hb1) (hels.out.2 _ _ _ hr0 hb0))
        have HM := hid (cmask_at rs (m + 1) r1 r0 (by omega) hr1 hr0)
        clear hcs hr1 hr0 hb0
        have HB1 := hid hb1
        clear hb1
        cases hq : (r1.key == r0.key) with
        | false =>
          rw [hq] at HC HM
          clear hq
          go_wp2_with fail
          go_quiet ((go_at_call 15; exact Calls.quiet_of_same (HC.out _)))
          go_wp2_with fail
          go_roundw
          case rel =>
            refine ⟨m + 1, by go_num, by omega, fun i x hi hx => ?_, hown, hels.out.drewN nq, ⟨hgr.out.os, hgr.out.tape, hgr.out.output, hgr.out.size, hgr.out.block⟩⟩
            rcases Nat.lt_or_ge i (m + 1) with h | h
            · exact hall.out i x h hx
            · obtain rfl : i = m + 1 := by omega
              rw [HM.out] at hx
              cases hx; rfl
          case measure => simp [intOf]; omega
        | true =>
          rw [hq] at HC HM
          have HS := hid (CmpRel.start hown.out hels.out hgr.out hlt hall.out HM.out)
          clear hq
          go_wp2_with fail
          go_quiet ((go_at_call 15; exact Calls.quiet_of_same (HC.out _)))
          go_wp2_with fail
          obtain ⟨wo, rfl⟩ : ∃ wo : World, wo = wr := ⟨_, rfl⟩
          clear c1 c0 HC HB1 HM hall hown hels hgr hg'
          go_loopw [5, 7] (fun s5 s7 wq => ∃ i q : Nat, s5 = .int .i64 (i : Int) ∧ s7 = .int .i64 ((q : Int) + 1) ∧ i < m + 2 + q ∧ m + 2 + q ≤ bs.length ∧ Hid (CmpRel w base g c X (cmask rs) rs bs i (m + 2 + q) wq)) (fun _ s7 _ => bs.length - (intOf s7).toNat)
          case atStart => exact ⟨m + 1, 0, by go_num, rfl, by omega, by omega, HS.out.drewN nq⟩
          case round =>
            obtain ⟨i, q, rfl, rfl, hij, hjn, hD⟩ := hrel
            obtain ⟨L, h1, hL2, h3, h4, -, -, -, -, h8, h9⟩ := hD.out
            by_cases hlt2 : m + 2 + q < bs.length
            · obtain ⟨b1, hb1⟩ : ∃ b, bs[m + 2 + q]? = some b := ⟨bs[m + 2 + q], List.getElem?_eq_getElem hlt2⟩
              obtain ⟨b0, hb0⟩ : ∃ b, bs[m + 1 + q]? = some b := ⟨bs[m + 1 + q], List.getElem?_eq_getElem (by omega)⟩
              obtain ⟨r1, hr1⟩ : ∃ r, rs[m + 2 + q]? = some r := ⟨rs[m + 2 + q], List.getElem?_eq_getElem (by omega)⟩
              obtain ⟨r0, hr0⟩ : ∃ r, rs[m + 1 + q]? = some r := ⟨rs[m + 1 + q], List.getElem?_eq_getElem (by omega)⟩
              obtain ⟨l0, hLi⟩ : ∃ l, L[i]? = some l := ⟨L[i], List.getElem?_eq_getElem (by omega)⟩
              have hL0 : L[m + 1 + q]? = some b0 := by
                have := congrArg (fun l => l[0]?) h4
                simp only [List.getElem?_drop, Nat.add_zero] at this
                rw [show m + 2 + q - 1 = m + 1 + q by omega] at this
                rw [this, hb0]
              have hL1 : L[m + 2 + q]? = some b1 := by
                have := congrArg (fun l => l[1]?) h4
                simp only [List.getElem?_drop] at this
                rw [show m + 2 + q - 1 + 1 = m + 2 + q by omega] at this
                rw [this, hb1]
              obtain ⟨g', o', e, hg', hcs⟩ := h1.rd.2.2.2 (by omega)
              cases e
              have c1 := hcs _ _ (by rw [List.getElem?_map, hL1]; rfl)
              have c0 := hcs _ _ (by rw [List.getElem?_map, hL0]; rfl)
              have ci := hcs _ _ (by rw [List.getElem?_map, hLi]; rfl)
              have fi := World.ownsRow.frozenAt h1 i
              rw [show 0 + (m + 2 + q) = m + 1 + (q + 1) by omega] at c1
              rw [show 0 + (m + 1 + q) = m + 1 + q by omega] at c0
              rw [Nat.zero_add] at ci
              have HC := hid (same_drewN r1 r0 _ b1 b0 wr (h8.2 _ _ _ hr1 hb1) (h8.2 _ _ _ hr0 hb0))
              have HM := hid (cmask_at rs (m + 2 + q) r1 r0 (by omega) hr1 (by rw [show m + 2 + q - 1 = m + 1 + q by omega]; exact hr0))
              have HB1 := hid hb1
              clear hcs h1 hL2 h3 h4 h8 h9 hb1 hb0 hr1 hr0 hLi hL0 hL1
              cases hq2 : (r1.key == r0.key) with
              | true =>
                rw [hq2] at HC HM
                have HN := hid (hD.out.skip HM.out HB1.out)
                clear hq2
                go_wp2_with fail
                go_quiet ((go_at_call 15; exact Calls.quiet_of_same (HC.out _)))
                go_wp2_with fail
                go_roundw
                case rel => exact ⟨i, q + 1, rfl, by go_num, by omega, by omega, by have := HN.out.drewN nq; rwa [show m + 2 + q + 1 = m + 2 + (q + 1) by omega] at this⟩
                case measure => simp [intOf]; omega
              | false =>
                rw [hq2] at HC HM
                have HN := hid (fun n => (hD.out.drewN n).keep HM.out HB1.out)
                clear hq2
                go_wp2_with fail
                go_quiet ((go_at_call 15; exact Calls.quiet_of_same (HC.out _)))
                go_wp2_with fail
                go_roundw
                case rel => exact ⟨i + 1, q + 1, by go_num, by go_num, by omega, by omega, by have := HN.out nq; rwa [show m + 2 + q + 1 = m + 2 + (q + 1) by omega] at this⟩
                case measure => simp [intOf]; omega
            · have hjb : m + 2 + q = bs.length := by omega
              have hD' := hD.out
              rw [hjb] at hD'
              have hib : i < bs.length := by omega
              have hcl : ∀ ty, (Builtin.clear_ #[24] ty #[.slice (some ⟨g, i, none⟩) (bs.length - i) (c - i)]).run Tryd.prog wr = .ok (.tuple #[]) (wr.setCells g i (List.replicate (bs.length - i) (.pointer none))) := by
                obtain ⟨g', o', e, hg', hcs⟩ := h1.rd.2.2.2 (by omega)
                cases e
                intro ty
                refine Lib.run_clear_slice wr _ _ ty _ Tryd.underlying24 Tryd.zeroValue27 rfl rfl g i _ _ (by omega) (fun t ht => ?_) (fun t ht => World.ownsRow.frozenAt h1 _)
                have := hcs (i + t) (ptr L[i + t]) (by rw [List.getElem?_map, List.getElem?_eq_getElem (by omega)]; rfl)
                rw [Nat.zero_add] at this
                rw [this]; rfl
              have HCUT := hid (hD'.cut (List.replicate (bs.length - i) (.pointer none)))
              have hge : ¬ (q : Int) + 1 < ((bs.length - (m + 1) : Nat) : Int) := by omega
              clear h1 hL2 h3 h4 h8 h9 hD' hjb hij hjn hlt2
              go_wp2_with fail
              go_ret
              exact ⟨_, _, rfl, HCUT.out.1, HCUT.out.2.1, HCUT.out.2.2, rfl⟩
      · have hmb : m + 1 = bs.length := by omega
        have HF : Hid (compactK rs = rs) := by
          refine compactK_all rs (fun i x hx => hall.out i x ?_ hx)
          have := (List.getElem?_eq_some_iff.1 hx).1
          rw [cmask_len] at this
          omega
        have hge : ¬ (m : Int) + 1 < (bs.length : Int) := by omega
        clear hmb hlt hmn
        go_wp2_with fail
        go_ret
        exact ⟨_, bs, rfl, hown.out, by rw [HF.out]; exact hels.out, hgr.out, rfl⟩
end Go.Proofs.YtihloigpdcinkaaDoor
