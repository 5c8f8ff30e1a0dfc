/- The walk of re.Both. -/
import Derived.Test.YtihloigpdcinkaaDoorBut
namespace Go.Proofs.YtihloigpdcinkaaDoor
open Go.RowKit

set_option maxHeartbeats 1000000 in
theorem both_any (A : Option Addr) (n c : Nat) (rs : List Re) (bs : List Nat) (X : Nat → Prop) (w : World) (hrow : ReRow w X A n rs bs) (hX : ∀ k, X k → k < w.heap.size) (hsz : Re.sizes rs ≤ 549755813888) :
    Calls Tryd.prog 16 #[.slice A n c] w (RetRe w X (bothL rs)) := by
  have hfl := flatL_sizes 6 rs
  have hll := len_sizes (flatL 6 rs)
  have hjl := joinL_sizes 6 CSet.and rs
  have hnl := hrow.length.1
  have hrl := len_sizes rs
  have HJ := hid (join_any 6 56 CSet.and setFnAnd A n c rs bs X w hrow hX (by omega) (by omega))
  have HX := hid hX
  unfold bothL
  simp only []
  obtain ⟨all, hall⟩ : ∃ all, all = joinL 6 CSet.and rs := ⟨_, rfl⟩
  rw [← hall] at HJ hjl ⊢
  have hals : Re.sizes all ≤ 549755813888 := by omega
  obtain ⟨z, hz⟩ : ∃ z, z = if all.any isNone then Re.none else packAnd all := ⟨_, rfl⟩
  rw [← hz]
  have HZ := hid hz
  clear hrow hX hz hall hfl hll hjl
  go_enter Tryd.func16, Tryd.ntmps16
  go_wp2_with (go_at_call 51; refine HJ.out.mono ?_; rintro e w2 ⟨v0, bs2, rfl, h1, h2, h3⟩; obtain ⟨A1, c1, rfl⟩ := h1.form; have HO := hid h1; have HE := hid h2; have HB := hid h3; clear h1 h2 h3)
  obtain ⟨hrw, hcp, hal⟩ := HO.out.row HE.out HX.out
  have HAL := hid hal
  have hb40 : bs2.length ≤ 549755813888 := by have := len_sizes all; omega
  have HROW := hid hrw
  have HCP := hid hcp
  have hszw : w.heap.size ≤ w2.heap.size := HB.out.size
  have H0 : Hid (Calls Tryd.prog 35 #[] w2 (RetRe w2 X .none)) := nothing_any X w2 (fun k hk => Nat.lt_of_lt_of_le (HX.out k hk) hszw)
  clear hrw hcp hal
  go_loop [4, 11] (fun s4 i => ∃ k : Nat, k ≤ bs2.length ∧ i = .int .i64 k ∧ s4 = .bool ((all.take k).all Re.null) ∧ Hid ((all.take k).any isNone = false)) (fun _ i => bs2.length - (intOf i).toNat)
  case atStart => exact ⟨0, Nat.zero_le _, rfl, by simp, by show (all.take 0).any isNone = false; simp⟩
  case round =>
    obtain ⟨k, hk, rfl, rfl, hno⟩ := hrel
    by_cases hlt : k < bs2.length
    · obtain ⟨g1, of, r, b, rfl, hcell, hkr, hkb, hat, hg⟩ := HROW.out.at_ hlt
      obtain ⟨A', c', bs', hkc, -, -⟩ := hat.row
      obtain ⟨k0, -, -, -, -, -, k6, -⟩ := cellsOf hkc
      have hsn : all.take (k + 1) = all.take k ++ [r] := by
        obtain ⟨hl, e⟩ := List.getElem?_eq_some_iff.1 hkr
        rw [List.take_succ_eq_append_getElem hl, e]
      by_cases hop : r.op = 0
      · have hb : ((r.op : Int) == 0) = true := by
          have := op_beq r 0
          rw [show ((r.op : Int) == 0) = (r.op == 0) from this]; simp [hop]
        have hzz : z = .none := by
          have hm : all.any isNone = true := List.any_eq_true.2 ⟨r, List.mem_of_getElem? hkr, by simp [isNone, hop]⟩
          rw [HZ.out, hm]; rfl
        subst hzz
        clear hsn hop hkc hkr hkb hat k6
        generalize (all.take k).all Re.null = nb
        go_wp2_with (go_at_call 35; refine H0.out.mono ?_; rintro e w3 hre; have HRE := hid hre; obtain ⟨bn, rfl, -⟩ := hre)
        go_ret
        exact HRE.out.trans HB.out
      · have hb : ((r.op : Int) == 0) = false := by
          have := op_beq r 0
          rw [show ((r.op : Int) == 0) = (r.op == 0) from this]; simp [hop]
        have HNO : Hid ((all.take (k + 1)).any isNone = false) := by rw [hsn, List.any_append, hno.out]; simp [isNone, hop]; trivial
        have HNL : Hid ((all.take (k + 1)).all Re.null = ((all.take k).all Re.null && r.null)) := by rw [hsn, List.all_append]; simp; trivial
        clear hsn hop hkc hkr hkb hat
        cases hnb : (all.take k).all Re.null with
        | true =>
          rw [hnb] at HNL
          clear hnb
          go_wp2_with fail
          go_round
          case rel => exact ⟨k + 1, by omega, by go_num, by rw [HNL.out]; simp, HNO⟩
          case measure => simp [intOf]; omega
        | false =>
          rw [hnb] at HNL
          clear hnb
          go_wp2_with fail
          go_round
          case rel => exact ⟨k + 1, by omega, by go_num, by rw [HNL.out]; simp, HNO⟩
          case measure => simp [intOf]; omega
    · obtain rfl : k = bs2.length := by omega
      have hta : all.take bs2.length = all := List.take_of_length_le (by have := HAL.out; omega)
      have hnn : all.any isNone = false := by have := hno.out; rwa [hta] at this
      have hzz : z = packAnd all := by rw [HZ.out, hnn]; rfl
      rw [hta]
      clear hno hta hnn hlt
      have HZZ := hid hzz
      have HALS := hid hals
      clear hzz hals
      match all, HZZ, HAL, HROW, HCP, HALS with
      | [], HZ1, HAL, HROW, HCP, HALS =>
        have hzz := HZ1.out
        have h0 : bs2.length = 0 := HAL.out
        have HA := hid (fun W => setAll_any W)
        have HO : Hid (∀ W, w2.heap.size ≤ W.heap.size → Calls Tryd.prog 44 #[cv CSet.all] W (RetRe W X (oneR CSet.all))) := fun W h => one_any _ X W (fun k hk => Nat.lt_of_lt_of_le (HX.out k hk) (Nat.le_trans hszw h))
        have hoo : oneR CSet.all = .cls CSet.all := by unfold oneR; rw [if_neg (by decide)]
        rw [hoo] at HO
        have HMY : Hid (∀ W b, w2.heap.size ≤ W.heap.size → ReAt W X (.cls CSet.all) b → Calls Tryd.prog 26 #[ptr b] W (RetRe W X (manyR (.cls CSet.all)))) := fun W b h1 h2 => many_any _ X b W h2 (fun k hk => Nat.lt_of_lt_of_le (HX.out k hk) (Nat.le_trans hszw h1)) (by simp [Re.size])
        subst hzz
        rw [h0]
        clear h0 hoo
        obtain ⟨u, hu⟩ : ∃ u, u = CSet.all := ⟨_, rfl⟩
        rw [← hu] at HA HO HMY
        have HU := hid hu
        clear hu
        unfold cv at HA HO
        unfold ptr at HMY
        go_wp2_with (first | (go_at_call 57; refine (HA.out _).mono ?_; rintro e w3 ⟨rfl, hb3⟩; have hz3 : w2.heap.size ≤ w3.heap.size := hb3.size; have HB3 := hid hb3; clear hb3) | (go_at_call 44; refine (HO.out _ hz3).mono ?_; rintro e w4 ⟨b4, rfl, h4, hb4⟩; have H4 := hid h4; have hz4 : w2.heap.size ≤ w4.heap.size := Nat.le_trans hz3 hb4.size; have HB4 := hid hb4; clear h4 hb4) | (go_at_call 26; refine (HMY.out _ _ hz4 H4.out).mono ?_; rintro e w5 hre; have HRE := hid hre; obtain ⟨bn, rfl, -⟩ := hre))
        go_ret
        have HBB := (HB.out.trans (HB3.out.mono hszw)).trans (HB4.out.mono (Nat.le_trans hszw hz3))
        have hfin := HRE.out.trans HBB
        rw [HU.out] at hfin
        exact hfin
      | [r], HZ1, HAL, HROW, HCP, HALS =>
        have hzz := HZ1.out
        have h0 : bs2.length = 1 := HAL.out
        obtain ⟨g1, of, r', b, rfl, hcell, hkr, hkb, hat, hg⟩ := HROW.out.at_ (k := 0) (by omega)
        cases hkr
        have HAT := hid hat
        rw [Nat.add_zero] at hcell
        subst hzz
        rw [h0]
        clear h0 hkb hat
        go_wp2_with fail
        go_ret
        exact ⟨b, rfl, HAT.out, HB.out⟩
      | r1 :: r2 :: rest, HZ1, HAL, HROW, HCP, HALS =>
        have hzz := HZ1.out
        have hals := HALS.out
        have h0 : bs2.length = (r1 :: r2 :: rest).length := HAL.out
        have HM : Hid (Calls Tryd.prog 54 #[.int .i64 6, .agg #[.int .u64 0, .int .u64 0, .int .u64 0, .int .u64 0], .bool ((r1 :: r2 :: rest).all Re.null), .slice A1 bs2.length c1] w2 (RetRe w2 X (.and (r1 :: r2 :: rest)))) := by
          have hr := HROW.out
          have hc := HCP.out
          rw [h0] at hr hc ⊢
          exact made_and _ X A1 c1 bs2 w2 hr hc (by omega) (fun k hk => Nat.lt_of_lt_of_le (HX.out k hk) hszw)
        have h2 : 2 ≤ bs2.length := by rw [h0]; simp
        have e0 : ((bs2.length : Int) == 0) = false := by rw [beq_eq_false_iff_ne]; omega
        have e1 : ((bs2.length : Int) == 1) = false := by rw [beq_eq_false_iff_ne]; omega
        subst hzz
        clear h0 hals
        generalize (r1 :: r2 :: rest).all Re.null = nb at HM ⊢
        go_wp2_with (go_at_call 54; refine HM.out.mono ?_; rintro e w3 hre; have HRE := hid hre; obtain ⟨bn, rfl, -⟩ := hre)
        go_ret
        exact HRE.out.trans HB.out
end Go.Proofs.YtihloigpdcinkaaDoor
