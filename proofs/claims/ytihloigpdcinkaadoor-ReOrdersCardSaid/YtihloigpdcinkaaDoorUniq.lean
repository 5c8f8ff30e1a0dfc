/- re.unique: a row in order, each once. -/
import Derived.Test.YtihloigpdcinkaaDoorSorts
import Derived.Test.YtihloigpdcinkaaDoorInj
namespace Go.Proofs.YtihloigpdcinkaaDoor
open Go.RowKit

def maskFrom : Re → List Re → List Bool
  | _, [] => []
  | x, y :: l => (!(y.key == x.key)) :: maskFrom y l
theorem maskFrom_at : ∀ (l : List Re) (x : Re) (i : Nat) (r s : Re), l[i]? = some r → (x :: l)[i]? = some s → (maskFrom x l)[i]? = some (!(r.key == s.key))
  | y :: l, x, 0, r, s, h1, h2 => by simp at h1 h2; subst h1; subst h2; rfl
  | y :: l, x, i + 1, r, s, h1, h2 => by
    simp at h1 h2
    exact maskFrom_at l y i r s h1 h2
theorem maskFrom_len : ∀ (l : List Re) (x : Re), (maskFrom x l).length = l.length
  | [], _ => rfl
  | y :: l, x => by simp [maskFrom, maskFrom_len l y]
theorem cmask_cons (x : Re) (l : List Re) : cmask (x :: l) = true :: maskFrom x l := by
  apply List.ext_getElem?
  intro i
  match i with
  | 0 => exact cmask_zero _ (by simp)
  | i + 1 =>
    by_cases hi : i < l.length
    · have h1 : l[i]? = some l[i] := List.getElem?_eq_getElem hi
      have hl : i < (x :: l).length := by simp; omega
      have h2 : (x :: l)[i]? = some (x :: l)[i] := List.getElem?_eq_getElem hl
      rw [cmask_at (x :: l) (i + 1) l[i] (x :: l)[i] (by omega) (by simp) (by simp)]
      exact (maskFrom_at l x i _ _ h1 h2).symm
    · rw [List.getElem?_eq_none (by rw [cmask_len]; simp; omega), List.getElem?_eq_none (by simp [maskFrom_len]; omega)]
theorem keepM_from : ∀ (l : List Re) (x : Re), (x :: l).Pairwise (fun a b => lessR b a = false) → SSorted (x :: keepM (maskFrom x l) l) ∧ ∀ z, z ∈ x :: keepM (maskFrom x l) l ↔ z ∈ x :: l
  | [], x, _ => by simp [SSorted, keepM, maskFrom]
  | y :: l, x, h => by
    rw [List.pairwise_cons] at h
    obtain ⟨h1, h2⟩ := h
    obtain ⟨i1, i2⟩ := keepM_from l y h2
    by_cases e : y.key = x.key
    · have e' := Re.key_inj e
      subst e'
      have hk : keepM (maskFrom y (y :: l)) (y :: l) = keepM (maskFrom y l) l := by simp [maskFrom, keepM]
      rw [hk]
      exact ⟨i1, fun z => by rw [i2 z]; simp⟩
    · have hne : (y.key == x.key) = false := by simpa using e
      have hk : keepM (maskFrom x (y :: l)) (y :: l) = y :: keepM (maskFrom y l) l := by simp [maskFrom, keepM, hne]
      have hxy : lessR x y = true := by
        cases hc : lessR x y with
        | true => rfl
        | false => exact absurd (less_total y x (h1 y (by simp)) hc) (fun h => e (by rw [h]))
      rw [hk]
      refine ⟨?_, fun z => ?_⟩
      · unfold SSorted at i1 ⊢
        rw [List.pairwise_cons]
        refine ⟨fun z hz => ?_, i1⟩
        rcases List.mem_cons.1 hz with rfl | hz'
        · exact hxy
        · rw [List.pairwise_cons] at i1
          exact lessR_swo.trans _ _ _ hxy (i1.1 z hz')
      · rw [List.mem_cons, i2 z]; simp
theorem compact_uniq (rs rs' : List Re) (hp : rs'.Perm rs) (hs : rs'.Pairwise fun a b => lessR b a = false) : compactK rs' = uniq rs := by
  match rs', hp, hs with
  | [], hp, _ => have := hp.length_eq; simp at this; cases rs with | nil => rfl | cons a l => simp at this
  | x :: l, hp, hs =>
    obtain ⟨h1, h2⟩ := keepM_from l x hs
    have e : compactK (x :: l) = x :: keepM (maskFrom x l) l := by unfold compactK; rw [cmask_cons]; rfl
    rw [e]
    refine sorted_unique _ _ h1 (uniq_sorted rs) (fun z => ?_)
    rw [h2 z, mem_uniq]
    exact hp.mem_iff
theorem uniq_len (l : List Re) : (uniq l).length ≤ l.length := by
  have hi : ∀ (x : Re) (m : List Re), (ins x m).length ≤ m.length + 1 := by
    intro x m
    induction m with
    | nil => simp [ins]
    | cons y m ih =>
      unfold ins
      split
      · simp
      · split
        · simp; exact ih
        · simp
  induction l with
  | nil => simp [uniq]
  | cons x l ih => have := hi x (uniq l); simp [uniq] at ih this ⊢; omega

theorem unique_any (base : Nat) (v : Value) (rs : List Re) (bs : List Nat) (X : Nat → Prop) (w : World) (hown : OwnP w base v bs) (hels : Els w (Xo X v) rs bs) (hn : bs.length ≤ 1099511627776) :
    Calls Tryd.prog 69 #[v] w (RetCut w X base v (uniq rs)) := by
  have HS := hid (sortFunc_any base v rs bs X w hown hels hn)
  have HC : Hid (∀ (W : World) (bs' : List Nat) (rs' : List Re), OwnP W base v bs' → Els W (Xo X v) rs' bs' → bs'.length ≤ 1099511627776 → Calls Tryd.prog 81 #[v, .func (.func 15) #[] #[]] W (RetCut W X base v (compactK rs'))) := fun W bs' rs' h1 h2 h3 => compactFunc_any base v rs' bs' X W h1 h2 h3
  have hl := hels.1
  clear hown hels
  go_enter Tryd.func69, Tryd.ntmps69
  go_wp2_with (go_at_call 78; refine HS.out.mono ?_; rintro e w1 ⟨rfl, rs', bs', h1, h2, h3, h4, h5⟩; have H1 := hid h1; have H2 := hid h2; have H3 := hid h3; have H4 := hid h4; have H5 := hid h5; clear h1 h2 h3 h4 h5)
  have hb : bs'.length ≤ 1099511627776 := by have := H2.out.1; have := H3.out.length_eq; omega
  have HC' := hid (HC.out w1 bs' rs' H1.out H2.out hb)
  go_wp2_with (go_at_call 81; refine HC'.out.mono ?_; rintro e w2 ⟨v', bs2, rfl, k1, k2, k3, k4⟩)
  go_ret
  rw [compact_uniq rs rs' H3.out H4.out] at k2
  exact ⟨v', bs2, rfl, k1, k2, H5.out.trans k3, k4⟩
end Go.Proofs.YtihloigpdcinkaaDoor
