/- Plain: what Build's states are; the texts of a Dfa. -/
import Derived.Test.YtfpfloahkibcgaaGreatDoorDfaW
import Derived.Test.YtfpfloahkibcgaaGreatDoorDerWord
import Derived.Test.YtfpfloahkibcgaaGreatDoorPart2
import Derived.Test.YtfpfloahkibcgaaGreatDoorBuildW2
namespace Go.Proofs.YtfpfloahkibcgaaGreatDoor
open Go.RowKit Go.Maps

/-- Texts that differ in letters of one part only. -/
inductive Sw (ss : List CSet) : Txt → Txt → Prop
  | nil : Sw ss [] []
  | cons {b c : UInt8} {t u : Txt} (h : ∀ s ∈ ss, s.has b.toNat = s.has c.toNat) (ht : Sw ss t u) : Sw ss (b :: t) (c :: u)
theorem Sw.len {ss : List CSet} {t u : Txt} (h : Sw ss t u) : t.length = u.length := by
  induction h with
  | nil => rfl
  | cons _ _ ih => simp [ih]
theorem Sw.symm {ss : List CSet} {t u : Txt} (h : Sw ss t u) : Sw ss u t := by
  induction h with
  | nil => exact .nil
  | cons h _ ih => exact .cons (fun s hs => (h s hs).symm) ih
theorem Sw.mono {ss ss' : List CSet} {t u : Txt} (h : Sw ss t u) (hs : ∀ s ∈ ss', s ∈ ss) : Sw ss' t u := by
  induction h with
  | nil => exact .nil
  | cons h _ ih => exact .cons (fun s h' => h s (hs s h')) ih
theorem Sw.take {ss : List CSet} {t u : Txt} (h : Sw ss t u) : ∀ i, Sw ss (t.take i) (u.take i) := by
  induction h with
  | nil => intro i; simp only [List.take_nil]; exact .nil
  | cons h _ ih =>
    intro i
    cases i with
    | zero => exact .nil
    | succ i => exact .cons h (ih i)
theorem Sw.drop {ss : List CSet} {t u : Txt} (h : Sw ss t u) : ∀ i, Sw ss (t.drop i) (u.drop i) := by
  induction h with
  | nil => intro i; simp only [List.drop_nil]; exact .nil
  | cons h ht ih =>
    intro i
    cases i with
    | zero => exact .cons h ht
    | succ i => exact ih i
theorem Sw.nil_ {ss : List CSet} {u : Txt} (h : Sw ss [] u) : u = [] := by cases h; rfl
theorem catP_swap (ss : List CSet) : ∀ (l : List (Txt → Prop)), (∀ P ∈ l, ∀ t u, Sw ss t u → P t → P u) → ∀ t u, Sw ss t u → CatP l t → CatP l u
  | [], _, t, u, h, ht => by
    have ht : t = [] := ht
    subst ht
    exact h.nil_
  | P :: l, hl, t, u, h, ht => by
    obtain ⟨i, hi, h1, h2⟩ := ht
    exact ⟨i, by rw [← h.len]; exact hi, hl P (List.mem_cons_self ..) _ _ (h.take i) h1, catP_swap ss l (fun Q hQ => hl Q (List.mem_cons_of_mem _ hQ)) _ _ (h.drop i) h2⟩
theorem starP_swap (ss : List CSet) (P : Txt → Prop) (hP : ∀ t u, Sw ss t u → P t → P u) : ∀ t, StarP P t → ∀ u, Sw ss t u → StarP P u := by
  intro t ht
  induction ht with
  | nil => intro u h; rw [h.nil_]; exact .nil
  | step a b ha hPa _ ih =>
    intro u h
    have h1 := h.take a.length
    have h2 := h.drop a.length
    rw [List.take_left] at h1
    rw [List.drop_left] at h2
    rw [← List.take_append_drop a.length u]
    refine .step _ _ (fun e => ha ?_) (hP _ _ h1 hPa) (ih _ h2)
    rw [e] at h1
    exact h1.symm.nil_
theorem setsR_kid {l : List Re} {k : Re} (hk : k ∈ l) : ∀ s ∈ setsR k, s ∈ setsR.setsL l := fun s hs => by
  rw [setsL_eq]
  exact List.mem_flatMap.2 ⟨k, hk, hs⟩
/-- The letters of one part stand for each other. -/
theorem lang_swap (r : Re) : ∀ t u, Sw (setsR r) t u → Lang r t → Lang r u := by
  induction r using Re.indBy with
  | h r ih =>
    intro t u h ht
    cases r with
    | none => rw [lang_none] at ht; exact ht.elim
    | eps =>
      rw [lang_eps] at ht ⊢
      rw [ht] at h
      exact h.nil_
    | cls s =>
      rw [lang_cls] at ht ⊢
      obtain ⟨b, rfl, hb⟩ := ht
      cases h with
      | cons h hn =>
        rw [hn.nil_]
        exact ⟨_, rfl, (h s (List.mem_singleton.2 rfl)).symm.trans hb⟩
    | cat l =>
      rw [lang_cat] at ht ⊢
      refine catP_swap (setsR (.cat l)) _ (fun P hP t u h hPt => ?_) t u h ht
      obtain ⟨k, hk, rfl⟩ := List.mem_map.1 hP
      exact ih k (kid_size (r := .cat l) hk) t u (h.mono (setsR_kid hk)) hPt
    | or l =>
      rw [lang_or] at ht ⊢
      obtain ⟨k, hk, hkt⟩ := ht
      exact ⟨k, hk, ih k (kid_size (r := .or l) hk) t u (h.mono (setsR_kid hk)) hkt⟩
    | star x =>
      rw [lang_star] at ht ⊢
      exact starP_swap (setsR x) _ (fun t u h hx => ih x (kid_size (r := .star x) (List.mem_singleton.2 rfl)) t u h hx) t ht u h
    | and l =>
      rw [lang_and] at ht ⊢
      exact fun k hk => ih k (kid_size (r := .and l) hk) t u (h.mono (setsR_kid hk)) (ht k hk)
    | minus x y =>
      rw [lang_minus] at ht ⊢
      refine ⟨ih x (kid_size (r := .minus x y) (List.mem_cons_self ..)) t u (h.mono fun s hs => List.mem_append_left _ hs) ht.1, fun hy => ht.2 ?_⟩
      exact ih y (kid_size (r := .minus x y) (List.mem_cons_of_mem _ (List.mem_cons_self ..))) u t (h.symm.mono fun s hs => List.mem_append_right _ hs) hy

theorem stAdd_at {all : List Re} {left : Nat} {x : Re} {all' : List Re} {left' q : Nat} (h : stAdd all left x = some (all', left', q)) : all'[q]? = some x := by
  unfold stAdd at h
  cases hq : idxK all x with
  | some i =>
    rw [hq] at h
    simp only [Option.some.injEq, Prod.mk.injEq] at h
    obtain ⟨rfl, rfl, rfl⟩ := h
    obtain ⟨y, hy, hk⟩ := idxK_some hq
    rw [hy, Re.key_inj hk]
  | none =>
    rw [hq] at h
    simp only at h
    split at h
    · cases h
    · split at h
      · cases h
      · simp only [Option.some.injEq, Prod.mk.injEq] at h
        obtain ⟨rfl, rfl, rfl⟩ := h
        simp
/-- What a row says. -/
theorem rowGo_row {r : Re} : ∀ {hs : List Nat} {all : List Re} {left : Nat} {row : List Nat} {all' : List Re} {left' : Nat} {row' : List Nat}, rowGo r hs all left row = some (all', left', row') →
    ∃ new, row' = row ++ new ∧ new.length = hs.length ∧ (∀ (j h t : Nat), hs[j]? = some h → new[j]? = some t → all'[t]? = some (byR h r)) ∧ ∀ (i : Nat) y, all[i]? = some y → all'[i]? = some y
  | [], all, left, row, all', left', row', h => by
    simp only [rowGo, Option.some.injEq, Prod.mk.injEq] at h
    obtain ⟨rfl, rfl, rfl⟩ := h
    exact ⟨[], by simp, rfl, fun j h t e => by simp at e, fun _ _ h => h⟩
  | x :: hs, all, left, row, all', left', row', h => by
    unfold rowGo at h
    cases hq : stAdd all left (byR x r) with
    | none => rw [hq] at h; cases h
    | some t =>
      obtain ⟨a1, l1, q⟩ := t
      rw [hq] at h
      obtain ⟨new, e1, e2, e3, e4⟩ := rowGo_row h
      have h2 := stAdd_len hq
      refine ⟨q :: new, by rw [e1]; simp, by simp [e2], fun j h t hj ht => ?_, fun i y hi => e4 i y (h2.2.2.1 i y hi)⟩
      cases j with
      | zero =>
        have hj : x = h := by simpa using hj
        have ht : q = t := by simpa using ht
        subst hj
        subst ht
        exact e4 _ _ (stAdd_at hq)
      | succ j => exact e3 j h t (by simpa using hj) (by simpa using ht)
/-- The rows that are there say where bytes lead to. -/
def RowsOk (hs : List Nat) (all : List Re) (nx : List (List Nat)) : Prop := ∀ (q : Nat) (x : Re) (row : List Nat), all[q]? = some x → nx[q]? = some row → row.length = hs.length ∧ ∀ (j h t : Nat), hs[j]? = some h → row[j]? = some t → all[t]? = some (byR h x)
theorem buildGo_ok {hs : List Nat} : ∀ {fuel q : Nat} {all : List Re} {left : Nat} {nx : List (List Nat)} {all' : List Re} {nx' : List (List Nat)} {left' : Nat}, buildGo hs fuel q all left nx = some (all', nx', left') → nx.length = q → q ≤ all.length → RowsOk hs all nx →
    nx'.length = all'.length ∧ RowsOk hs all' nx' ∧ (∀ (i : Nat) y, all[i]? = some y → all'[i]? = some y) ∧ all'.length + left' = all.length + left
  | 0, q, all, left, nx, all', nx', left', h, _, _, _ => by cases h
  | fuel + 1, q, all, left, nx, all', nx', left', h, hq, hqa, hok => by
    unfold buildGo at h
    cases hx : all[q]? with
    | none =>
      rw [hx] at h
      simp only [Option.some.injEq, Prod.mk.injEq] at h
      obtain ⟨rfl, rfl, rfl⟩ := h
      have := List.getElem?_eq_none_iff.1 hx
      exact ⟨by omega, hok, fun _ _ h => h, rfl⟩
    | some r =>
      rw [hx] at h
      simp only at h
      cases hr : rowGo r hs all left [] with
      | none => rw [hr] at h; cases h
      | some t =>
        obtain ⟨a1, l1, row⟩ := t
        rw [hr] at h
        obtain ⟨new, e1, e2, e3, e4⟩ := rowGo_row hr
        rw [List.nil_append] at e1
        subst e1
        have hlen := rowGo_len hr
        have hql : q < all.length := (List.getElem?_eq_some_iff.1 hx).1
        have ha : q + 1 ≤ a1.length := by
          have := e4 q r hx
          have := (List.getElem?_eq_some_iff.1 this).1
          omega
        obtain ⟨i1, i2, i3, i4⟩ := buildGo_ok h (by simp [hq]) ha (fun p x row' hp hrow => by
          by_cases hpq : p < q
          · have hpl : p < all.length := by omega
            have hp0 : all[p]? = some x := by
              have := e4 p all[p] (List.getElem?_eq_getElem hpl)
              rw [hp] at this
              rw [List.getElem?_eq_getElem hpl, ← this]
            rw [List.getElem?_append_left (by omega)] at hrow
            obtain ⟨j1, j2⟩ := hok p x row' hp0 hrow
            exact ⟨j1, fun j h t hj ht => e4 _ _ (j2 j h t hj ht)⟩
          · rw [List.getElem?_append_right (by omega)] at hrow
            have hp0 : p - nx.length = 0 := by
              have := (List.getElem?_eq_some_iff.1 hrow).1
              simp at this
              omega
            have hpe : p = q := by omega
            rw [hp0] at hrow
            have hrow : row = row' := by simpa using hrow
            subst hrow
            subst hpe
            have := e4 p r hx
            rw [hp] at this
            cases this
            exact ⟨e2, e3⟩)
        exact ⟨i1, i2, fun i y hi => i3 i y (e4 i y hi), by omega⟩
theorem build_ok {hs : List Nat} {r : Re} {left : Nat} {all : List Re} {nx : List (List Nat)} {left' : Nat} (h : buildR hs r left = some (all, nx, left')) : nx.length = all.length ∧ RowsOk hs all nx ∧ all[0]? = some r ∧ all.length + left' = left := by
  unfold buildR at h
  cases hq : stAdd [] left r with
  | none => rw [hq] at h; cases h
  | some t =>
    obtain ⟨a1, l1, q⟩ := t
    rw [hq] at h
    have h2 := stAdd_len hq
    have h3 := stAdd_at hq
    obtain ⟨i1, i2, i3, i4⟩ := buildGo_ok h rfl (Nat.zero_le _) (fun q x row _ hr => by simp at hr)
    have hq0 : q = 0 := by
      unfold stAdd at hq
      rw [show idxK [] r = none from rfl] at hq
      simp only at hq
      split at hq
      · cases hq
      · split at hq
        · cases hq
        · simp only [Option.some.injEq, Prod.mk.injEq] at hq
          exact hq.2.2.symm
    subst hq0
    exact ⟨i1, i2, i3 _ _ h3, by have := h2.1; simp at this; omega⟩
theorem atN_spec (ps : List CSet) (b : Nat) : ∀ k, (∃ (i : Nat) (p : CSet), i < k ∧ ps[i]? = some p ∧ p.has b = true) → ∃ p, ps[atN ps k b]? = some p ∧ p.has b = true
  | 0, h => by obtain ⟨i, p, hi, -⟩ := h; omega
  | k + 1, h => by
    unfold atN
    by_cases hk : (ps.getD k CSet.zero).has b = true
    · rw [if_pos hk]
      cases hp : ps[k]? with
      | none => rw [List.getD_eq_getElem?_getD, hp] at hk; rw [show (Option.getD none CSet.zero) = CSet.zero from rfl, CSet.has_zero] at hk; cases hk
      | some p => rw [List.getD_eq_getElem?_getD, hp] at hk; exact ⟨p, rfl, hk⟩
    · rw [if_neg hk]
      obtain ⟨i, p, hi, hp, hb⟩ := h
      refine atN_spec ps b k ⟨i, p, ?_, hp, hb⟩
      rcases Nat.lt_or_ge i k with hlt | hge
      · exact hlt
      · have : i = k := by omega
        subst this
        rw [List.getD_eq_getElem?_getD, hp] at hk
        exact absurd hb hk
theorem out_unique {ps : List CSet} (h : Out ps) {i j : Nat} {p q : CSet} {b : Nat} (hi : ps[i]? = some p) (hj : ps[j]? = some q) (hp : p.has b = true) (hq : q.has b = true) : i = j := by
  obtain ⟨hil, ei⟩ := List.getElem?_eq_some_iff.1 hi
  obtain ⟨hjl, ej⟩ := List.getElem?_eq_some_iff.1 hj
  have ha := List.pairwise_iff_getElem.1 h.apart
  rcases Nat.lt_trichotomy i j with hl | he | hl
  · exact absurd ⟨by rw [ei]; exact hp, by rw [ej]; exact hq⟩ (ha i j hil hjl hl b)
  · exact he
  · exact absurd ⟨by rw [ej]; exact hq, by rw [ei]; exact hp⟩ (ha j i hjl hil hl b)
/-- What the parts say of a byte. -/
theorem at_facts (ss : List CSet) {b : Nat} (hb : b < 256) : ∃ p, (refineR ss)[atN (refineR ss) (refineR ss).length b]? = some p ∧ p.has b = true ∧ (∀ s ∈ ss, s.has (leastN p) = s.has b) ∧ leastN p < 256 := by
  obtain ⟨hsee, hout, hcov⟩ := refine_facts ss
  obtain ⟨p, hp, hpb⟩ := hcov b hb
  obtain ⟨i, hi⟩ := List.getElem?_of_mem hp
  obtain ⟨q, hq, hqb⟩ := atN_spec (refineR ss) b (refineR ss).length ⟨i, p, (List.getElem?_eq_some_iff.1 hi).1, hi, hpb⟩
  have hm := List.mem_of_getElem? hq
  have hl := least_has q (hout.ne q hm)
  exact ⟨q, hq, hqb, fun s hs => hsee q hm s hs _ _ hl.1 hqb, hl.2⟩
/-- THE TEXTS OF A DFA. -/
theorem dfa_ok {r : Re} {left : Nat} {all : List Re} {nx : List (List Nat)} {left' : Nat} (h : buildR ((refineR (setsR r)).map leastN) r left = some (all, nx, left')) (hl : left ≤ 1000000) :
    DOk (atN (refineR (setsR r)) (refineR (setsR r)).length) ((refineR (setsR r)).map leastN) nx (all.map Re.null) := by
  obtain ⟨h1, h2, h3, h4⟩ := build_ok h
  refine ⟨by rw [h1, List.length_map], fun row hr => ?_, fun b hb => ?_, by rw [List.length_map]; omega⟩
  · obtain ⟨q, hq⟩ := List.getElem?_of_mem hr
    have hql := (List.getElem?_eq_some_iff.1 hq).1
    exact (h2 q (all[q]'(by omega)) row (List.getElem?_eq_getElem _) hq).1
  · obtain ⟨p, hp, -⟩ := at_facts (setsR r) hb
    rw [List.length_map]
    exact (List.getElem?_eq_some_iff.1 hp).1
theorem dfa_step {r : Re} {left : Nat} {all : List Re} {nx : List (List Nat)} {left' : Nat} (h : buildR ((refineR (setsR r)).map leastN) r left = some (all, nx, left')) {q : Nat} {x : Re} (hx : all[q]? = some x) {b : Nat} (hb : b < 256) :
    ∃ (t h0 : Nat), stepD (atN (refineR (setsR r)) (refineR (setsR r)).length) nx q b = (t : Int) ∧ all[t]? = some (byR h0 x) ∧ h0 < 256 ∧ ∀ s ∈ setsR r, s.has b = s.has h0 := by
  obtain ⟨h1, h2, h3, h4⟩ := build_ok h
  obtain ⟨p, hp, hpb, hs, h256⟩ := at_facts (setsR r) hb
  generalize hF : atN (refineR (setsR r)) (refineR (setsR r)).length = F at *
  have hql := (List.getElem?_eq_some_iff.1 hx).1
  have hqn : q < nx.length := by omega
  obtain ⟨hrl, hrow⟩ := h2 q x nx[q] hx (List.getElem?_eq_getElem hqn)
  have hj : ((refineR (setsR r)).map leastN)[F b]? = some (leastN p) := by rw [List.getElem?_map, hp]; rfl
  have hjl := (List.getElem?_eq_some_iff.1 hj).1
  have hjr : F b < (nx[q]).length := by omega
  refine ⟨(nx[q])[F b], leastN p, ?_, hrow (F b) (leastN p) _ hj (List.getElem?_eq_getElem hjr), h256, fun s hs' => (hs s hs').symm⟩
  unfold stepD
  rw [if_pos ⟨by omega, by omega⟩, show ((q : Int)).toNat = q from rfl, show nx.getD q [] = nx[q] by rw [List.getD_eq_getElem?_getD, List.getElem?_eq_getElem hqn]; rfl]
  rw [List.getD_eq_getElem?_getD, List.getElem?_eq_getElem hjr]
  rfl
theorem dfa_run {r : Re} {left : Nat} {all : List Re} {nx : List (List Nat)} {left' : Nat} (h : buildR ((refineR (setsR r)).map leastN) r left = some (all, nx, left')) : ∀ (t : Txt) (q : Nat) (x : Re), all[q]? = some x →
    ∃ (q' : Nat) (u : Txt), runD (atN (refineR (setsR r)) (refineR (setsR r)).length) nx q t = (q' : Int) ∧ all[q']? = some (bysL x u) ∧ Sw (setsR r) t u
  | [], q, x, hx => ⟨q, [], rfl, hx, .nil⟩
  | b :: t, q, x, hx => by
    obtain ⟨q1, h0, e1, e2, e3, e4⟩ := dfa_step h hx b.toNat_lt
    obtain ⟨q', u, f1, f2, f3⟩ := dfa_run h t q1 _ e2
    have hu : (UInt8.ofNat h0).toNat = h0 := by simp; omega
    refine ⟨q', UInt8.ofNat h0 :: u, ?_, ?_, .cons (fun s hs => by rw [hu]; exact e4 s hs) f3⟩
    · unfold runD at f1 ⊢
      rw [List.foldl_cons, e1]
      exact f1
    · unfold bysL at f2 ⊢
      rw [List.foldl_cons, hu]
      exact f2
open Classical in
/-- A text is one of them just where it should. -/
theorem dfa_match {r : Re} (hg : Good r) {left : Nat} {all : List Re} {nx : List (List Nat)} {left' : Nat} (h : buildR ((refineR (setsR r)).map leastN) r left = some (all, nx, left')) (t : Txt) :
    yesD (all.map Re.null) (runD (atN (refineR (setsR r)) (refineR (setsR r)).length) nx 0 t) = decide (Lang r t) := by
  obtain ⟨h1, h2, h3, h4⟩ := build_ok h
  obtain ⟨q', u, f1, f2, f3⟩ := dfa_run h t 0 r h3
  have hq := (List.getElem?_eq_some_iff.1 f2).1
  have f1 : runD (atN (refineR (setsR r)) (refineR (setsR r)).length) nx 0 t = (q' : Int) := f1
  rw [f1]
  unfold yesD
  rw [decide_eq_true (show (0 : Int) ≤ (q' : Int) ∧ (q' : Int) < ((all.map Re.null).length : Int) by rw [List.length_map]; omega), Bool.true_and, show ((q' : Int)).toNat = q' from rfl, List.getD_eq_getElem?_getD, List.getElem?_map, f2]
  show (bysL r u).null = _
  rw [Bool.eq_iff_iff, null_lang, lang_bys hg, List.append_nil, decide_eq_true_iff]
  exact ⟨lang_swap r _ _ f3.symm, lang_swap r _ _ f3⟩
theorem runD_append (F : Nat → Nat) (nx : List (List Nat)) (q : Int) (t u : List UInt8) : runD F nx (runD F nx q t) u = runD F nx q (t ++ u) := by
  unfold runD
  rw [List.foldl_append]
end Go.Proofs.YtfpfloahkibcgaaGreatDoor
