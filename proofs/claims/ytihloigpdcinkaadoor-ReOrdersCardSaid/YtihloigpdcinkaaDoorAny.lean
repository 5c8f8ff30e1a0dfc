/- The walks of re.Any, re.Many, re.But. -/
import Derived.Test.YtihloigpdcinkaaDoorThen
namespace Go.Proofs.YtihloigpdcinkaaDoor
open Go.RowKit

theorem setFnOr : SetFn 52 CSet.or := ⟨enters_of Tryd.func52 (by kernel_rfl) rfl, fun s t W => setOr_any s t W⟩
theorem setFnAnd : SetFn 56 CSet.and := ⟨enters_of Tryd.func56 (by kernel_rfl) rfl, fun s t W => setAnd_any s t W⟩

set_option maxHeartbeats 1000000 in
theorem any_any (A : Option Addr) (n c : Nat) (rs : List Re) (bs : List Nat) (X : Nat → Prop) (w : World) (hrow : ReRow w X A n rs bs) (hX : ∀ k, X k → k < w.heap.size) (hsz : Re.sizes rs ≤ 549755813888) :
    Calls Tryd.prog 14 #[.slice A n c] w (RetRe w X (anyL rs)) := by
  have hfl := flatL_sizes 4 rs
  have hll := len_sizes (flatL 4 rs)
  have hjl := joinL_sizes 4 CSet.or rs
  have hjn := len_sizes (joinL 4 CSet.or rs)
  have hnl := hrow.length.1
  have hrl := len_sizes rs
  have HJ := hid (join_any 4 52 CSet.or setFnOr A n c rs bs X w hrow hX (by omega) (by omega))
  have HX := hid hX
  obtain ⟨all, hall⟩ : ∃ all, all = (joinL 4 CSet.or rs).filter fun r => !isNone r := ⟨_, rfl⟩
  have hals : Re.sizes all ≤ 549755813888 := by rw [hall]; have := filter_sizes (fun r => !isNone r) (joinL 4 CSet.or rs); omega
  unfold anyL
  rw [← hall]
  have HALS := hid hals
  have HD : Hid (∀ v bs' W, OwnP W w.heap.size v bs' → Els W (Xo X v) (joinL 4 CSet.or rs) bs' → Calls Tryd.prog 50 #[v, .func (.func 53) #[] #[]] W (RetCut W X w.heap.size v all)) := fun v bs' W h1 h2 => by
    rw [hall]; exact deleteFunc_any _ isNone predNone _ v _ bs' X W h1 h2 (by have := h2.1; omega)
  obtain ⟨z, hz⟩ : ∃ z, z = packOr all := ⟨_, rfl⟩
  rw [← hz]
  have HZ := hid hz
  clear hrow hX hz hall hfl hll hals
  go_enter Tryd.func14, Tryd.ntmps14
  go_wp2_with (go_at_call 51; refine HJ.out.mono ?_; rintro e w1 ⟨v0, fbs, rfl, h1, h2, h3⟩; have H1 := hid h1; have H2 := hid h2; have H3 := hid h3; clear h1 h2 h3)
  refine (HD.out _ _ _ H1.out H2.out).mono ?_
  rintro e w2 ⟨v1, bs2, rfl, h1, h2, h3, h4⟩
  have HB := hid (below_app H3.out H1.out h3)
  obtain ⟨A1, c1, rfl⟩ := h1.form
  have HO := hid h1
  have HE := hid h2
  clear h1 h2 h3 h4
  obtain ⟨hrw, hcp, hal⟩ := HO.out.row HE.out HX.out
  have HAL := hid hal
  have hb40 : bs2.length ≤ 549755813888 := by have := len_sizes all; have := HALS.out; omega
  have HROW := hid hrw
  have HCP := hid hcp
  have hszw : w.heap.size ≤ w2.heap.size := HB.out.size
  have HXW : Hid (∀ k, X k → k < w2.heap.size) := fun k hk => Nat.lt_of_lt_of_le (HX.out k hk) hszw
  clear hrw hcp hal
  match all, HZ, HAL, HROW, HCP, HALS with
  | [], HZ1, HAL, HROW, HCP, HALS =>
    have hzz := HZ1.out
    have h0 : bs2.length = 0 := HAL.out
    have H1 : Hid (Calls Tryd.prog 35 #[] w2 (RetRe w2 X .none)) := nothing_any X w2 HXW.out
    subst hzz
    rw [h0]
    clear h0
    go_wp2_with (go_at_call 35; refine H1.out.mono ?_; rintro e w3 hre; have HRE := hid hre; obtain ⟨bn, rfl, -⟩ := hre)
    go_ret
    exact HRE.out.trans HB.out
  | [r], HZ1, HAL, HROW, HCP, HALS =>
    have hzz := HZ1.out
    have h0 : bs2.length = 1 := HAL.out
    obtain ⟨g1, of, r', b, rfl, hcell, hkr, hkb, hat, hg⟩ := HROW.out.at_ (k := 0) (by omega)
    cases hkr
    have HAT := hid hat
    rw [Nat.add_zero] at hcell
    subst hzz
    rw [h0]
    clear h0 hkb hat
    go_wp2_with fail
    go_ret
    exact ⟨b, rfl, HAT.out, HB.out⟩
  | r1 :: r2 :: rest, HZ1, HAL, HROW, HCP, HALS =>
    have hzz := HZ1.out
    have hals := HALS.out
    have h0 : bs2.length = (r1 :: r2 :: rest).length := HAL.out
    have HM : Hid (Calls Tryd.prog 54 #[.int .i64 4, .agg #[.int .u64 0, .int .u64 0, .int .u64 0, .int .u64 0], .bool ((r1 :: r2 :: rest).any Re.null), .slice A1 bs2.length c1] w2 (RetRe w2 X (.or (r1 :: r2 :: rest)))) := by
      have hr := HROW.out
      have hc := HCP.out
      rw [h0] at hr hc ⊢
      exact made_or _ X A1 c1 bs2 w2 hr hc (by omega) HXW.out
    have HCF : Hid (Calls Tryd.prog 55 #[.slice A1 bs2.length c1, .func (.func 21) #[] #[]] w2 fun e w' => e = .returned (.bool ((r1 :: r2 :: rest).any Re.null)) ∧ w2 = w') := containsFunc_any _ Re.null predNull A1 bs2.length c1 _ bs2 X w2 HROW.out.1 HROW.out.2.1 (by omega)
    have h2 : 2 ≤ bs2.length := by rw [h0]; simp
    have e0 : ((bs2.length : Int) == 0) = false := by rw [beq_eq_false_iff_ne]; omega
    have e1 : ((bs2.length : Int) == 1) = false := by rw [beq_eq_false_iff_ne]; omega
    subst hzz
    clear h0 hals
    generalize (r1 :: r2 :: rest).any Re.null = nb at HM HCF
    go_wp2_with (first | (go_at_call 55; refine HCF.out.mono ?_; rintro e w3 ⟨rfl, rfl⟩) | (go_at_call 54; refine HM.out.mono ?_; rintro e w3 hre; have HRE := hid hre; obtain ⟨bn, rfl, -⟩ := hre))
    go_ret
    exact HRE.out.trans HB.out
end Go.Proofs.YtihloigpdcinkaaDoor
