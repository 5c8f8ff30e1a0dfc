/- The walk of re.Then. -/
import Derived.Test.YtihloigpdcinkaaDoorJoin
import Derived.Test.YtihloigpdcinkaaDoorMk2
namespace Go.Proofs.YtihloigpdcinkaaDoor
open Go.RowKit

theorem made_cat (l : List Re) (X : Nat → Prop) (A : Option Addr) (c : Nat) (bs : List Nat) (w : World) (hrow : ReRow w X A l.length l bs) (hc : CapOk l.length A c) (hsz : 1 + Re.sizes l ≤ 1099511627776) (hX : ∀ k, X k → k < w.heap.size) :
    Calls Tryd.prog 54 #[.int .i64 3, .agg #[.int .u64 0, .int .u64 0, .int .u64 0, .int .u64 0], .bool (l.all Re.null), .slice A l.length c] w (RetRe w X (.cat l)) := by
  have := made_kids (.cat l) X A c bs w hrow hc hsz hX (by simp [Re.op]) 3 rfl
  rw [show (Re.cat l).null = l.all Re.null from by simp [Re.null, Re.nullAll_eq]] at this
  exact this
theorem made_or (l : List Re) (X : Nat → Prop) (A : Option Addr) (c : Nat) (bs : List Nat) (w : World) (hrow : ReRow w X A l.length l bs) (hc : CapOk l.length A c) (hsz : 1 + Re.sizes l ≤ 1099511627776) (hX : ∀ k, X k → k < w.heap.size) :
    Calls Tryd.prog 54 #[.int .i64 4, .agg #[.int .u64 0, .int .u64 0, .int .u64 0, .int .u64 0], .bool (l.any Re.null), .slice A l.length c] w (RetRe w X (.or l)) := by
  have := made_kids (.or l) X A c bs w hrow hc hsz hX (by simp [Re.op]) 4 rfl
  rw [show (Re.or l).null = l.any Re.null from by simp [Re.null, Re.nullAny_eq]] at this
  exact this
theorem made_and (l : List Re) (X : Nat → Prop) (A : Option Addr) (c : Nat) (bs : List Nat) (w : World) (hrow : ReRow w X A l.length l bs) (hc : CapOk l.length A c) (hsz : 1 + Re.sizes l ≤ 1099511627776) (hX : ∀ k, X k → k < w.heap.size) :
    Calls Tryd.prog 54 #[.int .i64 6, .agg #[.int .u64 0, .int .u64 0, .int .u64 0, .int .u64 0], .bool (l.all Re.null), .slice A l.length c] w (RetRe w X (.and l)) := by
  have := made_kids (.and l) X A c bs w hrow hc hsz hX (by simp [Re.op]) 6 rfl
  rw [show (Re.and l).null = l.all Re.null from by simp [Re.null, Re.nullAll_eq]] at this
  exact this
/-- The row of a call's own, as an argument's. -/
theorem OwnP.row {w : World} {base n c : Nat} {X : Nat → Prop} {A : Option Addr} {rs : List Re} {bs : List Nat} (h : OwnP w base (.slice A n c) bs) (he : Els w (Xo X (.slice A n c)) rs bs) (hX : ∀ k, X k → k < base) : ReRow w X A n rs bs ∧ CapOk n A c ∧ n = rs.length := by
  obtain ⟨h1, h2, h3⟩ := h.rd
  refine ⟨⟨h3, he.also (fun k hk _ => .inl hk), fun a _ e hx => ?_⟩, h2, by rw [h1, he.1]⟩
  have := (h.lt a.block (by rw [e]; rfl)).1
  have := hX _ hx
  omega
theorem predEps : PredFn 59 isEps := ⟨enters_of Tryd.func59 (by kernel_rfl) rfl, fun r X b W h => isEps_any r X b W h⟩
theorem predNone : PredFn 53 isNone := ⟨enters_of Tryd.func53 (by kernel_rfl) rfl, fun r X b W h => isNone_any r X b W h⟩
theorem predNull : PredFn 21 Re.null := ⟨enters_of Tryd.func21 (by kernel_rfl) rfl, fun r X b W h => null_any r X b W h⟩
theorem RetRe.trans {w w1 : World} {X : Nat → Prop} {r : Re} {e : Ending} {w' : World} (hb : Below w.heap.size w w1) (h : RetRe w1 X r e w') : RetRe w X r e w' := by
  obtain ⟨b, h1, h2, h3⟩ := h
  exact ⟨b, h1, h2, hb.trans (h3.mono hb.size)⟩

set_option maxHeartbeats 1000000 in
theorem then_any (A : Option Addr) (n c : Nat) (rs : List Re) (bs : List Nat) (X : Nat → Prop) (w : World) (hrow : ReRow w X A n rs bs) (hX : ∀ k, X k → k < w.heap.size) (hsz : Re.sizes rs ≤ 549755813888) :
    Calls Tryd.prog 17 #[.slice A n c] w (RetRe w X (thenL rs)) := by
  have hfl := flatL_sizes 3 rs
  have hll := len_sizes (flatL 3 rs)
  have hnl := hrow.length.1
  have hrl := len_sizes rs
  have HFL := hid (flat_any 3 A n c rs bs X w hrow (by omega) (by omega))
  have HX := hid hX
  obtain ⟨all, hall⟩ : ∃ all, all = (flatL 3 rs).filter fun r => !isEps r := ⟨_, rfl⟩
  have hals : Re.sizes all ≤ 549755813888 := by rw [hall]; have := filter_sizes (fun r => !isEps r) (flatL 3 rs); omega
  have HALL := hid hall
  unfold thenL
  simp only []
  rw [← hall]
  obtain ⟨z, hz⟩ : ∃ z, z = if all.any isNone then Re.none else packCat all := ⟨_, rfl⟩
  rw [← hz]
  have HZ := hid hz
  have HD : Hid (∀ v bs' W, OwnP W w.heap.size v bs' → Els W (Xo X v) (flatL 3 rs) bs' → Calls Tryd.prog 50 #[v, .func (.func 59) #[] #[]] W (RetCut W X w.heap.size v all)) := fun v bs' W h1 h2 => by
    rw [hall]; exact deleteFunc_any _ isEps predEps _ v _ bs' X W h1 h2 (by have := h2.1; omega)
  clear hrow hX hz hall hfl hll
  go_enter Tryd.func17, Tryd.ntmps17
  go_wp2_with (first | (go_at_call 58; refine HFL.out.mono ?_; rintro e w1 ⟨v0, fbs, rfl, h1, h2, h3⟩; have H1 := hid h1; have H2 := hid h2; have H3 := hid h3; clear h1 h2 h3) | (go_at_call 50; refine (HD.out _ _ _ H1.out H2.out).mono ?_; rintro e w2 ⟨v1, bs2, rfl, h1, h2, h3, h4⟩; have HB := hid (below_app H3.out H1.out h3); obtain ⟨A1, c1, rfl⟩ := h1.form; have HO := hid h1; have HE := hid h2; clear h1 h2 h3 h4))
  obtain ⟨hrw, hcp, hal⟩ := HO.out.row HE.out HX.out
  have HAL := hid hal
  have hb40 : bs2.length ≤ 549755813888 := by have := len_sizes all; omega
  have HROW := hid hrw
  have HCP := hid hcp
  have hszw : w.heap.size ≤ w2.heap.size := HB.out.size
  have H0 : Hid (Calls Tryd.prog 35 #[] w2 (RetRe w2 X .none)) := nothing_any X w2 (fun k hk => Nat.lt_of_lt_of_le (HX.out k hk) hszw)
  clear hrw hcp hal
  go_loop [4, 12] (fun s4 i => ∃ k : Nat, k ≤ bs2.length ∧ i = .int .i64 k ∧ s4 = .bool ((all.take k).all Re.null) ∧ Hid ((all.take k).any isNone = false)) (fun _ i => bs2.length - (intOf i).toNat)
  case atStart => exact ⟨0, Nat.zero_le _, rfl, by simp, by show (all.take 0).any isNone = false; simp⟩
  case round =>
    obtain ⟨k, hk, rfl, rfl, hno⟩ := hrel
    by_cases hlt : k < bs2.length
    · obtain ⟨g1, of, r, b, rfl, hcell, hkr, hkb, hat, hg⟩ := HROW.out.at_ hlt
      obtain ⟨A', c', bs', hkc, -, -⟩ := hat.row
      obtain ⟨k0, -, -, -, -, -, k6, -⟩ := cellsOf hkc
      have hsn : all.take (k + 1) = all.take k ++ [r] := by
        obtain ⟨hl, e⟩ := List.getElem?_eq_some_iff.1 hkr
        rw [List.take_succ_eq_append_getElem hl, e]
      by_cases hop : r.op = 0
      · have hb : ((r.op : Int) == 0) = true := by
          have := op_beq r 0
          rw [show ((r.op : Int) == 0) = (r.op == 0) from this]; simp [hop]
        have hzz : z = .none := by
          have hm : all.any isNone = true := List.any_eq_true.2 ⟨r, List.mem_of_getElem? hkr, by simp [isNone, hop]⟩
          rw [HZ.out, hm]; rfl
        subst hzz
        clear hsn hop hkc hkr hkb hat k6
        generalize (all.take k).all Re.null = nb
        go_wp2_with (go_at_call 35; refine H0.out.mono ?_; rintro e w3 hre; have HRE := hid hre; obtain ⟨bn, rfl, -⟩ := hre)
        go_ret
        exact HRE.out.trans HB.out
      · have hb : ((r.op : Int) == 0) = false := by
          have := op_beq r 0
          rw [show ((r.op : Int) == 0) = (r.op == 0) from this]; simp [hop]
        have HNO : Hid ((all.take (k + 1)).any isNone = false) := by rw [hsn, List.any_append, hno.out]; simp [isNone, hop]; trivial
        have HNL : Hid ((all.take (k + 1)).all Re.null = ((all.take k).all Re.null && r.null)) := by rw [hsn, List.all_append]; simp; trivial
        clear hsn hop hkc hkr hkb hat
        cases hnb : (all.take k).all Re.null with
        | true =>
          rw [hnb] at HNL
          clear hnb
          go_wp2_with fail
          go_round
          case rel => exact ⟨k + 1, by omega, by go_num, by rw [HNL.out]; simp, HNO⟩
          case measure => simp [intOf]; omega
        | false =>
          rw [hnb] at HNL
          clear hnb
          go_wp2_with fail
          go_round
          case rel => exact ⟨k + 1, by omega, by go_num, by rw [HNL.out]; simp, HNO⟩
          case measure => simp [intOf]; omega
    · obtain rfl : k = bs2.length := by omega
      have hta : all.take bs2.length = all := List.take_of_length_le (by have := HAL.out; omega)
      have hnn : all.any isNone = false := by have := hno.out; rwa [hta] at this
      have hzz : z = packCat all := by rw [HZ.out, hnn]; rfl
      rw [hta]
      clear hno hta hnn hlt
      have HZZ := hid hzz
      have HALS := hid hals
      clear hzz hals
      match all, HZZ, HAL, HROW, HCP, HALS with
      | [], HZ1, HAL, HROW, HCP, HALS =>
        have hzz := HZ1.out
        have h0 : bs2.length = 0 := HAL.out
        have H1 : Hid (Calls Tryd.prog 37 #[] w2 (RetRe w2 X .eps)) := empty_any X w2 (fun k hk => Nat.lt_of_lt_of_le (HX.out k hk) hszw)
        subst hzz
        rw [h0]
        clear h0
        go_wp2_with (go_at_call 37; refine H1.out.mono ?_; rintro e w3 hre; have HRE := hid hre; obtain ⟨bn, rfl, -⟩ := hre)
        go_ret
        exact HRE.out.trans HB.out
      | [r], HZ1, HAL, HROW, HCP, HALS =>
        have hzz := HZ1.out
        have h0 : bs2.length = 1 := HAL.out
        obtain ⟨g1, of, r', b, rfl, hcell, hkr, hkb, hat, hg⟩ := HROW.out.at_ (k := 0) (by omega)
        cases hkr
        have HAT := hid hat
        rw [Nat.add_zero] at hcell
        subst hzz
        rw [h0]
        clear h0 hkb hat
        go_wp2_with fail
        go_ret
        exact ⟨b, rfl, HAT.out, HB.out⟩
      | r1 :: r2 :: rest, HZ1, HAL, HROW, HCP, HALS =>
        have hzz := HZ1.out
        have hals := HALS.out
        have h0 : bs2.length = (r1 :: r2 :: rest).length := HAL.out
        have HM : Hid (Calls Tryd.prog 54 #[.int .i64 3, .agg #[.int .u64 0, .int .u64 0, .int .u64 0, .int .u64 0], .bool ((r1 :: r2 :: rest).all Re.null), .slice A1 bs2.length c1] w2 (RetRe w2 X (.cat (r1 :: r2 :: rest)))) := by
          have hr := HROW.out
          have hc := HCP.out
          rw [h0] at hr hc ⊢
          exact made_cat _ X A1 c1 bs2 w2 hr hc (by omega) (fun k hk => Nat.lt_of_lt_of_le (HX.out k hk) hszw)
        have h2 : 2 ≤ bs2.length := by rw [h0]; simp
        have e0 : ((bs2.length : Int) == 0) = false := by rw [beq_eq_false_iff_ne]; omega
        have e1 : ((bs2.length : Int) == 1) = false := by rw [beq_eq_false_iff_ne]; omega
        subst hzz
        clear h0 hals
        generalize (r1 :: r2 :: rest).all Re.null = nb at HM ⊢
        go_wp2_with (go_at_call 54; refine HM.out.mono ?_; rintro e w3 hre; have HRE := hid hre; obtain ⟨bn, rfl, -⟩ := hre)
        go_ret
        exact HRE.out.trans HB.out
end Go.Proofs.YtihloigpdcinkaaDoor
