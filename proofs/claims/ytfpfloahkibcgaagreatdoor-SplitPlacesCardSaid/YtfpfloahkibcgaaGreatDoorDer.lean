/- Plain: what stands behind a byte: the expression, its size, its settled form, its texts. -/
import Derived.Test.YtfpfloahkibcgaaGreatDoorPkH
import Derived.Test.YtfpfloahkibcgaaGreatDoorPkF
namespace Go.Proofs.YtfpfloahkibcgaaGreatDoor

mutual
/-- deriv.By. -/
def byR (b : Nat) : Re → Re
  | .cls s => if s.has b then .eps else .none
  | .cat [] => .none
  | .cat (x :: l) => if x.null then anyL [thenL [byR b x, thenL l], byR b (thenL l)] else thenL [byR b x, thenL l]
  | .star x => thenL [byR b x, .star x]
  | .or l => anyL (bysR b l)
  | .and l => bothL (bysR b l)
  | .minus x y => butR (byR b x) (byR b y)
  | .none => .none
  | .eps => .none
  termination_by r => 2 * r.size
  decreasing_by
    all_goals simp only [Re.size, Re.sizes]
    all_goals first | (have := thenL_size l; have := Re.size_pos x; omega) | omega
def bysR (b : Nat) : List Re → List Re
  | [] => []
  | r :: l => byR b r :: bysR b l
  termination_by l => 2 * Re.sizes l + 1
  decreasing_by
    all_goals simp only [Re.sizes]
    all_goals first | omega | (have := Re.size_pos r; omega)
end
theorem bysR_eq (b : Nat) (l : List Re) : bysR b l = l.map (byR b) := by
  induction l with
  | nil => rw [bysR]; rfl
  | cons r l ih => rw [bysR, ih]; rfl
theorem byR_none (b : Nat) : byR b .none = .none := by rw [byR]
theorem byR_eps (b : Nat) : byR b .eps = .none := by rw [byR]
theorem byR_cls (b : Nat) (s : CSet) : byR b (.cls s) = if s.has b then .eps else .none := by rw [byR]
theorem byR_cat (b : Nat) (x : Re) (l : List Re) : byR b (.cat (x :: l)) = if x.null then anyL [thenL [byR b x, thenL l], byR b (thenL l)] else thenL [byR b x, thenL l] := by rw [byR]
theorem byR_star (b : Nat) (x : Re) : byR b (.star x) = thenL [byR b x, .star x] := by rw [byR]
theorem byR_or (b : Nat) (l : List Re) : byR b (.or l) = anyL (l.map (byR b)) := by rw [byR, bysR_eq]
theorem byR_and (b : Nat) (l : List Re) : byR b (.and l) = bothL (l.map (byR b)) := by rw [byR, bysR_eq]
theorem byR_minus (b : Nat) (x y : Re) : byR b (.minus x y) = butR (byR b x) (byR b y) := by rw [byR]

/-- By induction: an expression's kids, and what is left of a row without its first one. -/
theorem Re.indBy {P : Re → Prop} (h : ∀ r : Re, (∀ q : Re, q.size < r.size → P q) → P r) : ∀ r : Re, P r := by
  have : ∀ n (r : Re), r.size = n → P r := fun n => by
    induction n using Nat.strongRecOn with
    | ind n ih => exact fun r hr => h r fun q hq => ih q.size (by omega) q rfl
  exact fun r => this _ r rfl
theorem kid_size {r k : Re} (h : k ∈ r.kids) : k.size < r.size := by
  have := getD_mem_size r.kids k h
  have := Re.size_kids r
  omega
theorem rest_size (x : Re) (l : List Re) : (thenL l).size < (Re.cat (x :: l)).size := by
  have := thenL_size l
  have := Re.size_pos x
  simp only [Re.size, Re.sizes]
  omega

theorem sq_sum (l : List Re) : Re.sizes (l.map fun _ => Re.none) = l.length := by
  induction l with
  | nil => rfl
  | cons r l ih => simp only [List.map_cons, Re.sizes, Re.size, ih, List.length_cons]; omega
theorem sq_add (a b : Nat) : (a + b) * (a + b) = a * a + b * b + 2 * (a * b) := by
  rw [Nat.add_mul, Nat.mul_add, Nat.mul_add, Nat.mul_comm b a]; omega
theorem sq_one (s : Nat) : (1 + s) * (1 + s) = s * s + 1 + 2 * s := by
  have := sq_add 1 s
  rw [Nat.one_mul, Nat.one_mul] at this
  omega
theorem sizes_by (b : Nat) (l : List Re) (h : ∀ k ∈ l, (byR b k).size ≤ 2 * (k.size * k.size)) : Re.sizes (l.map (byR b)) ≤ 2 * (Re.sizes l * Re.sizes l) := by
  induction l with
  | nil => simp [Re.sizes]
  | cons r l ih =>
    have h1 := h r (List.mem_cons_self ..)
    have h2 := ih fun k hk => h k (List.mem_cons_of_mem _ hk)
    simp only [List.map_cons, Re.sizes]
    generalize (byR b r).size = p at *
    generalize Re.sizes (l.map (byR b)) = q at *
    generalize r.size = x at *
    generalize Re.sizes l = y at *
    rw [sq_add]
    omega
theorem oneR_size' (u : CSet) : (oneR u).size = 1 := by unfold oneR; split <;> rfl
theorem butR_size (x y : Re) : (butR x y).size ≤ 1 + x.size + y.size := by
  unfold butR
  split
  · simp [Re.size]; omega
  · split
    · omega
    · split
      · rw [oneR_size']; omega
      · simp only [Re.size]; omega
theorem sq_lt {a b : Nat} (h : a ≤ b) : a * a ≤ b * b := Nat.mul_le_mul h h
theorem byR_size (b : Nat) (r : Re) : (byR b r).size ≤ 2 * (r.size * r.size) := by
  induction r using Re.indBy with
  | h r ih =>
    have hk : ∀ k ∈ r.kids, (byR b k).size ≤ 2 * (k.size * k.size) := fun k hk => ih k (kid_size hk)
    have hs := Re.size_kids r
    cases r with
    | none => rw [byR_none]; decide
    | eps => rw [byR_eps]; decide
    | cls s => rw [byR_cls]; split <;> simp [Re.size]
    | cat l =>
      match l with
      | [] => rw [byR]; decide
      | x :: l =>
        have h1 := hk x (by simp [Re.kids])
        have h2 := ih (thenL l) (rest_size x l)
        have h3 := thenL_size l
        have h4 := thenL_size [byR b x, thenL l]
        have h5 := anyL_size [thenL [byR b x, thenL l], byR b (thenL l)]
        have h6 := Re.size_pos x
        have h7 := sq_lt h3
        simp only [Re.sizes] at h4 h5
        have hb : (byR b (.cat (x :: l))).size ≤ 3 + (byR b x).size + (thenL l).size + (byR b (thenL l)).size := by
          rw [byR_cat]
          split <;> omega
        refine Nat.le_trans hb ?_
        simp only [Re.size, Re.sizes]
        generalize (byR b x).size = p at *
        generalize (byR b (thenL l)).size = q at *
        generalize (thenL l).size = z at *
        generalize x.size = s at *
        generalize Re.sizes l = t at *
        have e : (1 + (s + t)) * (1 + (s + t)) = s * s + (1 + t) * (1 + t) + 2 * (s * (1 + t)) := by
          have : 1 + (s + t) = s + (1 + t) := by omega
          rw [this, sq_add]
        have e2 : 1 * (1 + t) ≤ s * (1 + t) := Nat.mul_le_mul_right _ h6
        rw [e]
        omega
    | star x =>
      have h1 := hk x (by simp [Re.kids])
      have h4 := thenL_size [byR b x, .star x]
      rw [byR_star]
      refine Nat.le_trans h4 ?_
      simp only [Re.size, Re.sizes]
      generalize (byR b x).size = p at *
      have h6 := Re.size_pos x
      generalize x.size = s at *
      rw [sq_one]
      omega
    | or l =>
      have h1 := sizes_by b l hk
      have h2 := anyL_size (l.map (byR b))
      rw [byR_or]
      refine Nat.le_trans h2 ?_
      simp only [Re.size]
      generalize Re.sizes (l.map (byR b)) = p at *
      generalize Re.sizes l = s at *
      rw [sq_one]
      omega
    | and l =>
      have h1 := sizes_by b l hk
      have h2 := bothL_size (l.map (byR b))
      rw [byR_and]
      refine Nat.le_trans h2 ?_
      simp only [Re.size]
      generalize Re.sizes (l.map (byR b)) = p at *
      generalize Re.sizes l = s at *
      rw [sq_one]
      omega
    | minus x y =>
      have h1 := hk x (by simp [Re.kids])
      have h2 := hk y (by simp [Re.kids])
      have h3 := butR_size (byR b x) (byR b y)
      rw [byR_minus]
      refine Nat.le_trans h3 ?_
      simp only [Re.size]
      generalize (byR b x).size = p at *
      generalize (byR b y).size = q at *
      generalize x.size = s at *
      generalize y.size = t at *
      rw [sq_one, sq_add]
      omega
theorem byR_good (b : Nat) (r : Re) : Good r → Good (byR b r) := by
  induction r using Re.indBy with
  | h r ih =>
    intro hg
    have hk : ∀ k ∈ r.kids, Good (byR b k) := fun k hk => ih k (kid_size hk) (hg.kid hk).1
    have two : ∀ {x y : Re}, Good x → Good y → Goods [x, y] := fun hx hy r hr => by
      rcases List.mem_cons.1 hr with e | e
      · rw [e]; exact hx
      · rw [List.mem_singleton.1 e]; exact hy
    have hm : ∀ l : List Re, (∀ k ∈ l, Good (byR b k)) → Goods (l.map (byR b)) := fun l h r hr => by
      obtain ⟨k, hk, rfl⟩ := List.mem_map.1 hr
      exact h k hk
    cases r with
    | none => rw [byR_none]; exact .none
    | eps => rw [byR_eps]; exact .none
    | cls s => rw [byR_cls]; split; exact .eps; exact .none
    | cat l =>
      match l with
      | [] => rw [byR]; exact .none
      | x :: l =>
        have hrest : Good (thenL l) := thenL_good fun k hk => (hg.kid (k := k) (by simp [Re.kids, hk])).1
        have h1 := thenL_good (two (hk x (by simp [Re.kids])) hrest)
        rw [byR_cat]
        split
        · exact anyL_good (two h1 (ih _ (rest_size x l) hrest))
        · exact h1
    | star x => rw [byR_star]; exact thenL_good (two (hk x (by simp [Re.kids])) hg)
    | or l => rw [byR_or]; exact anyL_good (hm l hk)
    | and l => rw [byR_and]; exact bothL_good (hm l hk)
    | minus x y => rw [byR_minus]; exact butR_good (hk x (by simp [Re.kids])) (hk y (by simp [Re.kids]))
/-- A text of two parts. -/
theorem catP_two (P Q : Txt → Prop) (t : Txt) : CatP [P, Q] t ↔ ∃ i, i ≤ t.length ∧ P (t.take i) ∧ Q (t.drop i) := by
  rw [catP_cons]
  simp only [catP_one]
theorem catP_step (P : Txt → Prop) (l : List (Txt → Prop)) (b : UInt8) (t : Txt) : CatP (P :: l) (b :: t) ↔ (P [] ∧ CatP l (b :: t)) ∨ ∃ i, i ≤ t.length ∧ P (b :: t.take i) ∧ CatP l (t.drop i) := by
  rw [catP_cons]
  constructor
  · rintro ⟨i, hi, h1, h2⟩
    cases i with
    | zero => exact .inl ⟨h1, h2⟩
    | succ i => exact .inr ⟨i, by simpa using hi, h1, h2⟩
  · rintro (⟨h1, h2⟩ | ⟨i, hi, h1, h2⟩)
    · exact ⟨0, by simp, h1, h2⟩
    · exact ⟨i + 1, by simpa using hi, h1, h2⟩
theorem starP_step (P : Txt → Prop) (b : UInt8) (t : Txt) : StarP P (b :: t) ↔ ∃ i, i ≤ t.length ∧ P (b :: t.take i) ∧ StarP P (t.drop i) := by
  constructor
  · intro h
    generalize hq : b :: t = q at h
    cases h with
    | nil => cases hq
    | step x y hne hx hy =>
      match x, hne with
      | c :: x, _ =>
        simp only [List.cons_append, List.cons.injEq] at hq
        obtain ⟨rfl, rfl⟩ := hq
        exact ⟨x.length, by simp, by simpa using hx, by simpa using hy⟩
  · rintro ⟨i, hi, h1, h2⟩
    have := StarP.step (b :: t.take i) (t.drop i) (by simp) h1 h2
    simpa using this
/-- WHAT STANDS BEHIND A BYTE: just those texts. -/
theorem lang_by (b : UInt8) (r : Re) : Good r → ∀ t, Lang (byR b.toNat r) t ↔ Lang r (b :: t) := by
  induction r using Re.indBy with
  | h r ih =>
    intro hg t
    have hk : ∀ k ∈ r.kids, ∀ t, Lang (byR b.toNat k) t ↔ Lang k (b :: t) := fun k hk => ih k (kid_size hk) (hg.kid hk).1
    have hgk : ∀ k ∈ r.kids, Good (byR b.toNat k) := fun k hk => byR_good _ _ (hg.kid hk).1
    have hm : ∀ l : List Re, (∀ k ∈ l, Good (byR b.toNat k)) → Goods (l.map (byR b.toNat)) := fun l h r hr => by
      obtain ⟨k, hk, rfl⟩ := List.mem_map.1 hr
      exact h k hk
    cases r with
    | none => rw [byR_none, lang_none, lang_none]
    | eps => rw [byR_eps, lang_none, lang_eps]; simp
    | cls s =>
      rw [byR_cls, lang_cls]
      cases hs : s.has b.toNat with
      | true =>
        rw [if_pos rfl, lang_eps]
        constructor
        · rintro rfl; exact ⟨b, rfl, hs⟩
        · rintro ⟨c, e, -⟩; exact (List.cons.inj e).2
      | false =>
        rw [if_neg (by simp), lang_none]
        constructor
        · exact False.elim
        · rintro ⟨c, e, hc⟩
          rw [← (List.cons.inj e).1, hs] at hc
          cases hc
    | cat l =>
      match l with
      | [] => have := hg.fit.1; simp at this
      | x :: l =>
        have hrest : Good (thenL l) := thenL_good fun k hk => (hg.kid (k := k) (by simp [Re.kids, hk])).1
        have hx := hk x (by simp [Re.kids])
        have hr := ih _ (rest_size x l) hrest t
        rw [lang_cat, List.map_cons, catP_step, ← null_lang]
        have h1 : Lang (thenL [byR b.toNat x, thenL l]) t ↔ ∃ i, i ≤ t.length ∧ Lang x (b :: t.take i) ∧ CatP (l.map Lang) (t.drop i) := by
          rw [lang_then]
          simp only [List.map_cons, List.map_nil, catP_two, hx, lang_then]
        rw [lang_then] at hr
        rw [byR_cat]
        by_cases hn : x.null = true
        · have hg1 : Good (thenL [byR b.toNat x, thenL l]) := thenL_good fun r hr => by
            rcases List.mem_cons.1 hr with e | e
            · rw [e]; exact hgk x (by simp [Re.kids])
            · rw [List.mem_singleton.1 e]; exact hrest
          have hg2 := byR_good b.toNat _ hrest
          rw [if_pos hn, lang_any (fun r hr => by
            rcases List.mem_cons.1 hr with e | e
            · rw [e]; exact hg1
            · rw [List.mem_singleton.1 e]; exact hg2)]
          constructor
          · rintro ⟨r, hr', h⟩
            rcases List.mem_cons.1 hr' with e | e
            · rw [e] at h; exact .inr (h1.1 h)
            · rw [List.mem_singleton.1 e] at h; exact .inl ⟨hn, hr.1 h⟩
          · rintro (⟨-, h⟩ | h)
            · exact ⟨_, by simp, hr.2 h⟩
            · exact ⟨_, List.mem_cons_self .., h1.2 h⟩
        · rw [if_neg hn, h1]
          constructor
          · exact .inr
          · rintro (⟨h, -⟩ | h)
            · exact absurd h hn
            · exact h
    | star x =>
      have hx := hk x (by simp [Re.kids])
      rw [byR_star, lang_then, lang_star, starP_step]
      simp only [List.map_cons, List.map_nil, catP_two, hx, lang_star]
    | or l =>
      rw [byR_or, lang_any (hm l hgk), lang_or]
      constructor
      · rintro ⟨r, hr, h⟩
        obtain ⟨k, hk', rfl⟩ := List.mem_map.1 hr
        exact ⟨k, hk', (hk k hk' t).1 h⟩
      · rintro ⟨k, hk', h⟩
        exact ⟨_, List.mem_map_of_mem hk', (hk k hk' t).2 h⟩
    | and l =>
      rw [byR_and, lang_both (hm l hgk), lang_and]
      constructor
      · intro h k hk'
        exact (hk k hk' t).1 (h _ (List.mem_map_of_mem hk'))
      · intro h r hr
        obtain ⟨k, hk', rfl⟩ := List.mem_map.1 hr
        exact (hk k hk' t).2 (h k hk')
    | minus x y => rw [byR_minus, lang_but, lang_minus, hk x (by simp [Re.kids]), hk y (by simp [Re.kids])]
end Go.Proofs.YtfpfloahkibcgaaGreatDoor
