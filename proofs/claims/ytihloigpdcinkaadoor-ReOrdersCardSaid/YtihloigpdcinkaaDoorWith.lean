/- The walks of (*Re).With, of (*Re).Back at nil, of re.Word. -/
import Derived.Test.YtihloigpdcinkaaDoorBoth
import Derived.Test.YtihloigpdcinkaaDoorSetOf
namespace Go.Proofs.YtihloigpdcinkaaDoor
open Go.RowKit

/-- What (*Re).With makes. -/
def withR (r : Re) (l : List Re) : Re :=
  if r.op = 3 then thenL l else if r.op = 4 then anyL l else if r.op = 6 then bothL l else
  if r.op = 5 then (match l with | [a] => manyR a | _ => r) else if r.op = 7 then (match l with | [a, b] => butR a b | _ => r) else r

theorem opLits (r : Re) : ((r.op : Int) == 3) = decide (r.op = 3) ∧ ((r.op : Int) == 4) = decide (r.op = 4) ∧ ((r.op : Int) == 5) = decide (r.op = 5) ∧ ((r.op : Int) == 6) = decide (r.op = 6) ∧ ((r.op : Int) == 7) = decide (r.op = 7) :=
  ⟨op_int r 3, op_int r 4, op_int r 5, op_int r 6, op_int r 7⟩

set_option maxHeartbeats 1000000 in
theorem with_any (r : Re) (b : Nat) (A : Option Addr) (n c : Nat) (rs : List Re) (bs : List Nat) (X : Nat → Prop) (w : World) (hr : ReAt w X r b) (hrow : ReRow w X A n rs bs) (hX : ∀ k, X k → k < w.heap.size) (hsz : Re.sizes rs ≤ 549755813888) :
    Calls Tryd.prog 25 #[ptr b, .slice A n c] w (RetRe w X (withR r rs)) := by
  have H3 := hid (then_any A n c rs bs X w hrow hX hsz)
  have H4 := hid (any_any A n c rs bs X w hrow hX hsz)
  have H6 := hid (both_any A n c rs bs X w hrow hX hsz)
  have HAT := hid hr
  have HROW := hid hrow
  have HX := hid hX
  obtain ⟨A', c', bs', hb, -, -⟩ := hr.row
  obtain ⟨k0, -⟩ := cellsOf hb
  obtain ⟨e3, e4, e5, e6, e7⟩ := opLits r
  have hl := hrow.length.1
  clear hr hrow hX hb
  obtain ⟨z, hz⟩ : ∃ z, z = withR r rs := ⟨_, rfl⟩
  rw [← hz]
  unfold withR at hz
  unfold ptr
  by_cases h3 : r.op = 3
  · rw [if_pos h3] at hz
    subst hz
    rw [decide_eq_true h3] at e3
    clear h3 e4 e5 e6 e7
    go_enter Tryd.func25, Tryd.ntmps25
    go_wp2_with (go_at_call 17; refine H3.out.mono ?_; rintro e w3 hre; have HRE := hid hre; obtain ⟨bn, rfl, -⟩ := hre)
    go_ret
    exact HRE.out
  rw [if_neg h3] at hz
  rw [decide_eq_false h3] at e3
  by_cases h4 : r.op = 4
  · rw [if_pos h4] at hz
    subst hz
    rw [decide_eq_true h4] at e4
    clear h3 h4 e5 e6 e7
    go_enter Tryd.func25, Tryd.ntmps25
    go_wp2_with (go_at_call 14; refine H4.out.mono ?_; rintro e w3 hre; have HRE := hid hre; obtain ⟨bn, rfl, -⟩ := hre)
    go_ret
    exact HRE.out
  rw [if_neg h4] at hz
  rw [decide_eq_false h4] at e4
  by_cases h6 : r.op = 6
  · rw [if_pos h6] at hz
    subst hz
    rw [decide_eq_true h6] at e6
    clear h3 h4 h6 e5 e7
    go_enter Tryd.func25, Tryd.ntmps25
    go_wp2_with (go_at_call 16; refine H6.out.mono ?_; rintro e w3 hre; have HRE := hid hre; obtain ⟨bn, rfl, -⟩ := hre)
    go_ret
    exact HRE.out
  rw [if_neg h6] at hz
  rw [decide_eq_false h6] at e6
  by_cases h5 : r.op = 5
  · rw [if_pos h5] at hz
    rw [decide_eq_true h5] at e5
    by_cases h1 : n = 1
    · subst h1
      obtain ⟨a, rfl⟩ : ∃ a, rs = [a] := by
        match rs, hl with
        | [a], _ => exact ⟨a, rfl⟩
      simp only [] at hz
      subst hz
      obtain ⟨g1, of, r', ba, rfl, hcell, hkr, hkb, hat, hg⟩ := HROW.out.at_ (k := 0) (by omega)
      cases hkr
      rw [Nat.add_zero] at hcell
      have HMY := hid (many_any _ X ba w hat HX.out (by simp [Re.sizes] at hsz; omega))
      unfold ptr at HMY hcell
      clear h3 h4 h5 h6 e7 hkb hat hl
      go_enter Tryd.func25, Tryd.ntmps25
      go_wp2_with (go_at_call 26; refine HMY.out.mono ?_; rintro e w3 hre; have HRE := hid hre; obtain ⟨bn, rfl, -⟩ := hre)
      go_ret
      exact HRE.out
    · have hzz : z = r := by
        rw [hz]
        match rs, hl with
        | [], _ => rfl
        | [a], hl => exact absurd hl.symm h1
        | _ :: _ :: _, _ => rfl
      subst hzz
      have hn1 : ((n : Int) == 1) = false := by rw [beq_eq_false_iff_ne]; omega
      clear h3 h4 h5 h6 e7 hl hz h1
      go_enter Tryd.func25, Tryd.ntmps25
      go_wp2_with fail
      go_ret
      exact ⟨b, rfl, HAT.out, Below.refl _ _⟩
  rw [if_neg h5] at hz
  rw [decide_eq_false h5] at e5
  by_cases h7 : r.op = 7
  · rw [if_pos h7] at hz
    rw [decide_eq_true h7] at e7
    by_cases h2 : n = 2
    · subst h2
      obtain ⟨a, d, rfl⟩ : ∃ a d, rs = [a, d] := by
        match rs, hl with
        | [a, d], _ => exact ⟨a, d, rfl⟩
      simp only [] at hz
      subst hz
      obtain ⟨g1, of, r', ba, rfl, hcell, hkr, hkb, hat, hg⟩ := HROW.out.at_ (k := 0) (by omega)
      cases hkr
      obtain ⟨g2, of2, r', bd, e, hcell2, hkr2, hkb2, hat2, -⟩ := HROW.out.at_ (k := 1) (by omega)
      cases e
      cases hkr2
      rw [Nat.add_zero] at hcell
      have HMY : Hid (∀ m, Calls Tryd.prog 27 #[ptr ba, ptr bd] (w.drewN m) (RetRe (w.drewN m) X (butR a d))) := fun m => but_any a d X ba bd _ (hat.drewN m) (hat2.drewN m) HX.out (by simp [Re.sizes] at hsz; omega)
      unfold ptr at HMY hcell hcell2
      clear h3 h4 h5 h6 h7 hkb hkb2 hat hat2 hl
      go_enter Tryd.func25, Tryd.ntmps25
      go_wp2_with fail
      go_region_with (go_at_call 27; refine (HMY.out 1).mono ?_; rintro e w3 hre; have HRE := hid hre; obtain ⟨bn, rfl, -⟩ := hre)
      all_goals
        go_wp2_with fail
        go_ret
        exact HRE.out.trans ((Below.refl _ w).drew)
    · have hzz : z = r := by
        rw [hz]
        match rs, hl with
        | [], _ => rfl
        | [a], _ => rfl
        | [a, d], hl => exact absurd hl.symm h2
        | _ :: _ :: _ :: _, _ => rfl
      subst hzz
      have hn2 : ((n : Int) == 2) = false := by rw [beq_eq_false_iff_ne]; omega
      clear h3 h4 h5 h6 h7 hl hz h2
      go_enter Tryd.func25, Tryd.ntmps25
      go_wp2_with fail
      go_ret
      exact ⟨b, rfl, HAT.out, Below.refl _ _⟩
  rw [if_neg h7] at hz
  rw [decide_eq_false h7] at e7
  subst hz
  clear h3 h4 h5 h6 h7 hl
  go_enter Tryd.func25, Tryd.ntmps25
  go_wp2_with fail
  go_ret
  exact ⟨b, rfl, HAT.out, Below.refl _ _⟩

theorem back_nil (w : World) : Calls Tryd.prog 30 #[.pointer none] w fun e w' => e = .returned (.pointer none) ∧ w = w' := by
  go_enter Tryd.func30, Tryd.ntmps30
  go_wp2_with fail
  go_ret
  exact ⟨rfl, rfl⟩
end Go.Proofs.YtihloigpdcinkaaDoor
