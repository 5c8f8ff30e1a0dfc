/- The walk of alike. -/
import Derived.Test.YtihloigpdcinkaaDoorHead
import Derived.BigQuiet
namespace Go.Proofs.YtihloigpdcinkaaDoor
open Go.RowKit

mutual
theorem Re.ind_ {P : Re → Prop} (h : ∀ r : Re, (∀ k ∈ r.kids, P k) → P r) : ∀ r : Re, P r
  | .none => h _ (fun k hk => by cases hk)
  | .eps => h _ (fun k hk => by cases hk)
  | .cls _ => h _ (fun k hk => by cases hk)
  | .cat l => h _ (Re.inds_ h l)
  | .or l => h _ (Re.inds_ h l)
  | .star r => h _ (fun k hk => by
      have e : k = r := by simpa [Re.kids] using hk
      rw [e]; exact Re.ind_ h r)
  | .and l => h _ (Re.inds_ h l)
  | .minus x y => h _ (fun k hk => by
      have e : k = x ∨ k = y := by simpa [Re.kids] using hk
      rcases e with e | e
      · rw [e]; exact Re.ind_ h x
      · rw [e]; exact Re.ind_ h y)
theorem Re.inds_ {P : Re → Prop} (h : ∀ r : Re, (∀ k ∈ r.kids, P k) → P r) : ∀ l : List Re, ∀ k ∈ l, P k
  | [], _, hk => by cases hk
  | s :: l, k, hk => by
    rcases List.mem_cons.1 hk with e | e
    · rw [e]; exact Re.ind_ h s
    · exact Re.inds_ h l k e
end
theorem Re.eq_of {r s : Re} (ho : r.op = s.op) (hs : r.op = 2 → r.set = s.set) (hk : r.kids = s.kids) : r = s := by
  cases r <;> cases s <;> simp_all [Re.op, Re.set, Re.kids]
theorem kids_cls {r : Re} (h : r.op = 2) : r.kids = [] := by cases r <;> simp_all [Re.op, Re.kids]

open Classical in
set_option maxRecDepth 100000 in
set_option maxHeartbeats 1000000 in
theorem alike_any (r : Re) : ∀ (s : Re) (X Y : Nat → Prop) (a b : Nat) (w : World), ReAt w X r a → ReAt w Y s b → r.size ≤ 549755813888 →
    Calls Tryd.prog 29 #[ptr a, ptr b] w fun e w' => e = .returned (.bool (decide (r = s))) ∧ ∃ m, w' = w.drewN m := by
  induction r using Re.ind_ with
  | h r ih =>
    intro s X Y a b w ha hb hsz
    have hkl : r.kids.length ≤ 549755813888 := by have := Re.length_le_sizes r.kids; have := Re.size_kids r; omega
    obtain ⟨A, c, bs, hac, -, hka⟩ := ha.row
    obtain ⟨B, d, ds, hbc, -, hkb⟩ := hb.row
    obtain ⟨k0, k1, k2, k3, k4, k5, -⟩ := cellsOf hac
    obtain ⟨l0, l1, l2, l3, l4, l5, -⟩ := cellsOf hbc
    obtain ⟨z, hz⟩ : ∃ z, z = decide (r = s) := ⟨_, rfl⟩
    rw [← hz]
    have HZ := hid hz
    have HIH := hid ih
    have HSZ := hid hsz
    have HKA := hid hka
    have HKB := hid hkb
    have hq : ∀ W, (binOp .neq 42 (.agg #[.int .u64 r.set.a.toNat, .int .u64 r.set.b.toNat, .int .u64 r.set.c.toNat, .int .u64 r.set.d.toNat]) (.agg #[.int .u64 s.set.a.toNat, .int .u64 s.set.b.toNat, .int .u64 s.set.c.toNat, .int .u64 s.set.d.toNat])).run Tryd.prog W = .ok (.bool (!decide (r.set = s.set))) W := fun W => run_neq_set _ _ W
    have hm : ∀ (op : BinOp) (x y : Operand) (xs ys : Array Value) (W : World), (eqGuard op 42 x y (.agg xs) (.agg ys)).run Tryd.prog W = .ok () W := fun op x y xs ys W => run_eqGuard_agg W op _ x y xs ys (by kernel_rfl)
    clear hz ih hka hkb hac hbc ha hb hsz
    unfold ptr
    go_enter Tryd.func29, Tryd.ntmps29
    by_cases hop : r.op = s.op
    · rw [← hop] at l0
      by_cases h2 : r.op = 2
      · have hb2 : ((r.op : Int) == 2) = true := (op_int r 2).trans (decide_eq_true h2)
        have hka0 := kids_cls h2
        have hkb0 := kids_cls (hop ▸ h2)
        rw [hka0] at k5
        rw [hkb0] at l5
        simp only [List.length_nil] at k5 l5
        by_cases hs : r.set = s.set
        · have hz0 : z = true := HZ.out.trans (decide_eq_true (Re.eq_of hop (fun _ => hs) (by rw [hka0, hkb0])))
          have HZ0 := hid hz0
          rw [decide_eq_true hs] at hq
          clear hz0 hka0 hkb0 hop h2 hs
          go_wp2_with fail
          go_quiet (fail)
          go_wp2_with fail
          go_loopw [51] (fun i wr => i = .int .i64 0 ∧ ∃ j, wr = w.drewN j) (fun _ _ => 0)
          case atStart => exact ⟨rfl, nq, rfl⟩
          case round =>
            obtain ⟨rfl, j, rfl⟩ := hrel
            go_wp2_with fail
            go_ret
            exact ⟨by rw [HZ0.out]; rfl, _, rfl⟩
        · have hz0 : z = false := HZ.out.trans (decide_eq_false fun e => hs (by rw [e]))
          have HZ0 := hid hz0
          rw [decide_eq_false hs] at hq
          clear hz0 hka0 hkb0 hop h2 hs
          go_wp2_with fail
          go_quiet (fail)
          go_wp2_with fail
          go_ret
          exact ⟨by rw [HZ0.out]; rfl, _, rfl⟩
      · have hb2 : ((r.op : Int) == 2) = false := (op_int r 2).trans (decide_eq_false h2)
        by_cases hl : r.kids.length = s.kids.length
        · have HE : Hid (r.kids = s.kids → z = true) := fun e => HZ.out.trans (decide_eq_true (Re.eq_of hop (fun h => absurd h h2) e))
          have HNE : Hid (r.kids ≠ s.kids → z = false) := fun e => HZ.out.trans (decide_eq_false fun h => e (by rw [h]))
          rw [← hl] at l5
          have HL := hid hl
          clear hop h2 hl hq
          go_wp2_with fail
          go_quiet (fail)
          go_wp2_with fail
          obtain ⟨n, hn⟩ : ∃ n, n = r.kids.length := ⟨_, rfl⟩
          have HN := hid hn
          rw [← hn] at k5 l5 hkl ⊢
          clear hn k1 k2 k3 k4 l1 l2 l3 l4
          go_loopw [51] (fun i wr => ∃ k : Nat, k ≤ n ∧ i = .int .i64 k ∧ Hid (∃ j, wr = w.drewN j) ∧ Hid (r.kids.take k = s.kids.take k)) (fun i _ => n - (intOf i).toNat)
          case atStart => exact ⟨0, Nat.zero_le _, rfl, ⟨nq, rfl⟩, rfl⟩
          case round =>
            obtain ⟨k, hk, rfl, hj, htk⟩ := hrel
            have hcw : ∀ a, wr.cell? a = w.cell? a := by obtain ⟨j, e⟩ := hj.out; rw [e]; exact fun _ => rfl
            have hbw : Below w.heap.size w wr := by obtain ⟨j, e⟩ := hj.out; rw [e]; exact below_drewN _ _ _
            rw [← hcw] at k5 l5
            by_cases hlt : k < n
            · obtain ⟨g1, o1, x, bx, rfl, c1, hx, -, hax, hg1⟩ := HKA.out.at_ (k := k) (by rw [← HN.out]; exact hlt)
              obtain ⟨g2, o2, y, by', rfl, c2, hy, -, hay, hg2⟩ := HKB.out.at_ (k := k) (by rw [← HL.out, ← HN.out]; exact hlt)
              rw [← hcw] at c1 c2
              have HC : Hid (∀ m, Calls Tryd.prog 29 #[ptr bx, ptr by'] (wr.drewN m) fun e w' => e = .returned (.bool (decide (x = y))) ∧ ∃ m', w' = (wr.drewN m).drewN m') := fun m =>
                HIH.out x (List.mem_of_getElem? hx) y X Y bx by' _ ((hax.under hbw).drewN m) ((hay.under hbw).drewN m) (Nat.le_trans (by have := getD_mem_size r.kids x (List.mem_of_getElem? hx); have h2 := Re.size_kids r; omega) HSZ.out)
              have HX := hid hx
              have HY := hid hy
              clear hx hy hax hay hcw hbw
              by_cases hxy : x = y
              · have HST : Hid (r.kids.take (k + 1) = s.kids.take (k + 1)) := by
                  have h1 := HX.out
                  have h2 := HY.out
                  obtain ⟨l1, e1⟩ := List.getElem?_eq_some_iff.1 h1
                  obtain ⟨l2, e2⟩ := List.getElem?_eq_some_iff.1 h2
                  show _ = _
                  rw [List.take_succ_eq_append_getElem l1, List.take_succ_eq_append_getElem l2, e1, e2, htk.out, hxy]
                rw [decide_eq_true hxy] at HC
                clear hxy
                unfold ptr at HC
                go_wp2_with fail
                go_quiet ((go_at_call 29; exact Calls.quiet_of (HC.out _)))
                go_wp2_with fail
                go_roundw
                case rel => exact ⟨k + 1, by omega, by go_num, by obtain ⟨j, e⟩ := hj.out; exact ⟨_, by rw [e, World.drewN_drewN]⟩, HST.out⟩
                case measure => simp [intOf]; omega
              · have hz0 : z = false := HNE.out fun e => hxy (by
                  have h1 := HX.out
                  rw [e, HY.out] at h1
                  exact (Option.some.inj h1).symm)
                have HZ0 := hid hz0
                rw [decide_eq_false hxy] at HC
                clear hxy hz0
                unfold ptr at HC
                go_wp2_with fail
                go_quiet ((go_at_call 29; exact Calls.quiet_of (HC.out _)))
                go_wp2_with fail
                go_ret
                obtain ⟨j, e⟩ := hj.out
                exact ⟨by rw [HZ0.out]; rfl, _, by rw [e, World.drewN_drewN]⟩
            · have hkn : k = n := by omega
              subst hkn
              have hz0 : z = true := HE.out (by
                have := htk.out
                rw [List.take_of_length_le (Nat.le_of_eq HN.out.symm), List.take_of_length_le (by rw [← HL.out, ← HN.out]; exact Nat.le_refl _)] at this
                exact this)
              have HZ0 := hid hz0
              clear hz0 hlt hcw hbw
              go_wp2_with fail
              go_ret
              exact ⟨by rw [HZ0.out]; rfl, hj.out⟩
        · have hz0 : z = false := HZ.out.trans (decide_eq_false fun e => hl (by rw [e]))
          have HZ0 := hid hz0
          have hlb : ((r.kids.length : Int) == (s.kids.length : Int)) = false := by
            have : ¬ (r.kids.length : Int) = (s.kids.length : Int) := by omega
            simp [this]
          have hlbn : ((r.kids.length : Int) != (s.kids.length : Int)) = true := by simp only [bne, hlb, Bool.not_false]
          clear hz0 hop h2 hl hq
          go_wp2_with fail
          go_quiet (fail)
          go_wp2_with fail
          go_ret
          exact ⟨by rw [HZ0.out]; rfl, _, rfl⟩
    · have hb : ((r.op : Int) == (s.op : Int)) = false := (op_int r s.op).trans (decide_eq_false hop)
      have hbn : ((r.op : Int) != (s.op : Int)) = true := by simp only [bne, hb, Bool.not_false]
      have hz0 : z = false := HZ.out.trans (decide_eq_false fun e => hop (by rw [e]))
      have HZ0 := hid hz0
      clear hz0 hq hop
      go_wp2_with fail
      go_quiet (fail)
      go_wp2_with fail
      go_ret
      exact ⟨by rw [HZ0.out]; rfl, _, rfl⟩
end Go.Proofs.YtihloigpdcinkaaDoor
