/- slices.IndexFunc, ContainsFunc, DeleteFunc at rows of expressions. -/
import Derived.Test.YtihloigpdcinkaaDoorRows2
import Derived.Lib.SliceRun
namespace Go.Proofs.YtihloigpdcinkaaDoor
open Go.RowKit

/-- A function of an expression, to a bool, that leaves the world as it was. -/
def PredFn (g : Nat) (p : Re → Bool) : Prop := (∀ (args : Array Value) (W : World), (callFunc g args).run Tryd.prog W = .ok (.enter g args) W) ∧
  ∀ (r : Re) (X : Nat → Prop) (b : Nat) (W : World), ReAt W X r b → Calls Tryd.prog g #[ptr b] W fun e W' => e = .returned (.bool (p r)) ∧ W = W'
/-- The first place at which p holds; -1: nowhere. -/
def idxR (p : Re → Bool) (l : List Re) : Int := match l.findIdx? p with | some i => (i : Int) | none => -1

set_option maxHeartbeats 400000 in
theorem indexFunc_any (g : Nat) (p : Re → Bool) (hp : PredFn g p) (A : Option Addr) (n c : Nat) (rs : List Re) (bs : List Nat) (X : Nat → Prop) (w : World) (hrow : Rd w A n (bs.map ptr)) (hels : Els w X rs bs) (hn : n ≤ 1099511627776) :
    Calls Tryd.prog 68 #[.slice A n c, .func (.func g) #[] #[]] w fun e w' => e = .returned (.int .i64 (idxR p rs)) ∧ w = w' := by
  have hbl : bs.length = n := by simpa using hrow.1
  have hrl : rs.length = n := by rw [hels.1, hbl]
  have HR := hid hrow
  have HE := hid hels
  have HP := hid hp.2
  have eg := hp.1
  clear hrow hels hp
  obtain ⟨z, hz⟩ : ∃ z, z = idxR p rs := ⟨_, rfl⟩
  rw [← hz]
  have HZ := hid hz
  clear hz
  go_enter Tryd.func68, Tryd.ntmps68
  go_wp2_with fail
  go_loop [8] (fun i => ∃ k : Nat, k ≤ n ∧ i = .int .i64 k ∧ Hid (∀ j r, j < k → rs[j]? = some r → p r = false)) (fun i => n - (intOf i).toNat)
  case atStart => exact ⟨0, Nat.zero_le _, rfl, fun j r h => by omega⟩
  case round =>
    obtain ⟨k, hk, rfl, hno⟩ := hrel
    by_cases hlt : k < n
    · obtain ⟨gb, o, rfl, hg, hc⟩ := HR.out.2 (by omega)
      have hkb : bs[k]? = some bs[k] := List.getElem?_eq_getElem (by omega)
      have hkr : rs[k]? = some rs[k] := List.getElem?_eq_getElem (by omega)
      have hcell := hc k _ (by rw [List.getElem?_map, hkb]; rfl)
      have HC := hid (HP.out _ X _ w (HE.out.2 k _ _ hkr hkb))
      have HK := hid hkr
      clear hc hkb hkr
      generalize bs[k] = b at *
      generalize rs[k] = r at *
      cases hpr : p r with
      | false =>
        rw [hpr] at HC
        have HPR := hid hpr
        clear hpr
        go_wp2_with fail
        refine HC.out.mono ?_
        rintro e w' ⟨rfl, rfl⟩
        go_wp2_with fail
        go_round
        case rel =>
          refine ⟨k + 1, by omega, by go_num, fun j r' hj hr' => ?_⟩
          rcases Nat.lt_or_ge j k with h | h
          · exact hno.out j r' h hr'
          · have : j = k := by omega
            subst this
            rw [HK.out] at hr'
            cases hr'
            exact HPR.out
        case measure => simp [intOf]; omega
      | true =>
        rw [hpr] at HC
        have hzk : z = (k : Int) := by
          rw [HZ.out]
          unfold idxR
          have : rs.findIdx? p = some k := by
            rw [List.findIdx?_eq_some_iff_getElem]
            obtain ⟨h1, h2⟩ := List.getElem?_eq_some_iff.1 HK.out
            refine ⟨h1, by rw [h2]; exact hpr, fun j hj => ?_⟩
            have := hno.out j rs[j] hj (List.getElem?_eq_getElem (by omega))
            rw [this]; simp
          rw [this]
        subst hzk
        clear hpr
        go_wp2_with fail
        refine HC.out.mono ?_
        rintro e w' ⟨rfl, rfl⟩
        go_wp2_with fail
        go_ret
        exact ⟨rfl, rfl⟩
    · have hkn : k = n := by omega
      subst hkn
      have hzk : z = -1 := by
        rw [HZ.out]
        unfold idxR
        have : rs.findIdx? p = none := by
          rw [List.findIdx?_eq_none_iff]
          intro x hx
          obtain ⟨j, hj, e⟩ := List.getElem_of_mem hx
          exact hno.out j x (by omega) (by rw [← e]; exact List.getElem?_eq_getElem hj)
        rw [this]
      subst hzk
      go_wp2_with fail
      go_ret
      exact ⟨rfl, rfl⟩

theorem idxR_any (p : Re → Bool) (l : List Re) : decide (0 ≤ idxR p l) = l.any p := by
  unfold idxR
  cases h : l.findIdx? p with
  | none =>
    rw [List.findIdx?_eq_none_iff] at h
    have : l.any p = false := by rw [List.any_eq_false]; intro x hx; simpa using h x hx
    rw [this]; rfl
  | some i =>
    rw [List.findIdx?_eq_some_iff_getElem] at h
    obtain ⟨h1, h2, -⟩ := h
    have : l.any p = true := List.any_eq_true.2 ⟨l[i], List.getElem_mem _, h2⟩
    rw [this]; simp

theorem containsFunc_any (g : Nat) (p : Re → Bool) (hp : PredFn g p) (A : Option Addr) (n c : Nat) (rs : List Re) (bs : List Nat) (X : Nat → Prop) (w : World) (hrow : Rd w A n (bs.map ptr)) (hels : Els w X rs bs) (hn : n ≤ 1099511627776) :
    Calls Tryd.prog 55 #[.slice A n c, .func (.func g) #[] #[]] w fun e w' => e = .returned (.bool (rs.any p)) ∧ w = w' := by
  have H := hid (indexFunc_any g p hp A n c rs bs X w hrow hels hn)
  have ha := idxR_any p rs
  clear hrow hels hp
  generalize idxR p rs = z at H ha
  generalize rs.any p = q at ha ⊢
  go_enter Tryd.func55, Tryd.ntmps55
  go_wp2_with (go_at_call 68; refine H.out.mono ?_; rintro e w' ⟨rfl, rfl⟩)
  go_ret
  exact ⟨rfl, rfl⟩
end Go.Proofs.YtihloigpdcinkaaDoor
