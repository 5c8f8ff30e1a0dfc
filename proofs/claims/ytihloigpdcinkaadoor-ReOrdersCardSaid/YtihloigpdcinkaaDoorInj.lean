/- Plain: keys are one just where the expressions are. -/
import Derived.Test.YtihloigpdcinkaaDoorOrd
namespace Go.Proofs.YtihloigpdcinkaaDoor
namespace Re

def dval (c : UInt8) : Nat := if c.toNat < 58 then c.toNat - 48 else c.toNat - 87
theorem dval_dig (d : Nat) (h : d < 36) : dval (dig36 d) = d := by
  have : ∀ d : Fin 36, dval (dig36 d.val) = d.val := by decide +kernel
  exact this ⟨d, h⟩
theorem dig_ge (d : Nat) (h : d < 36) : 48 ≤ (dig36 d).toNat := by
  have : ∀ d : Fin 36, 48 ≤ (dig36 d.val).toNat := by decide +kernel
  exact this ⟨d, h⟩
theorem fmtOnto_val : ∀ (n : Nat) (l : List UInt8), (fmtOnto n l).foldl (fun a c => a * 36 + dval c) 0 = l.foldl (fun a c => a * 36 + dval c) n := by
  intro n
  induction n using Nat.strongRecOn with
  | ind n ih =>
    intro l
    rw [fmtOnto]
    split
    · rename_i h
      simp [dval_dig n h]
    · rename_i h
      rw [ih (n / 36) (Nat.div_lt_self (by omega) (by omega))]
      simp only [List.foldl_cons, dval_dig (n % 36) (by omega)]
      congr 1
      omega
theorem fmtOnto_ge : ∀ (n : Nat) (l : List UInt8), (∀ c ∈ l, 48 ≤ c.toNat) → ∀ c ∈ fmtOnto n l, 48 ≤ c.toNat := by
  intro n
  induction n using Nat.strongRecOn with
  | ind n ih =>
    intro l hl
    rw [fmtOnto]
    split
    · rename_i h
      intro c hc
      rcases List.mem_cons.1 hc with rfl | hc
      · exact dig_ge n h
      · exact hl c hc
    · rename_i h
      refine ih (n / 36) (Nat.div_lt_self (by omega) (by omega)) _ (fun c hc => ?_)
      rcases List.mem_cons.1 hc with rfl | hc
      · exact dig_ge _ (by omega)
      · exact hl c hc
theorem fmt36_inj {a b : Nat} (h : fmt36 a = fmt36 b) : a = b := by
  have h1 := fmtOnto_val a []
  have h2 := fmtOnto_val b []
  unfold fmt36 at h
  rw [h, h2] at h1
  exact h1.symm
theorem digits_pre : ∀ (l m : List UInt8) (x y : UInt8) (t u : List UInt8), (∀ c ∈ l, 48 ≤ c.toNat) → (∀ c ∈ m, 48 ≤ c.toNat) → x.toNat < 48 → y.toNat < 48 → l ++ x :: t = m ++ y :: u → l = m ∧ x :: t = y :: u
  | [], [], _, _, _, _, _, _, _, _, h => ⟨rfl, h⟩
  | [], c :: m, x, y, t, u, _, hm, hx, _, h => by
    simp at h
    have := hm c (by simp)
    rw [← h.1] at this
    omega
  | c :: l, [], x, y, t, u, hl, _, _, hy, h => by
    simp at h
    have := hl c (by simp)
    rw [h.1] at this
    omega
  | c :: l, d :: m, x, y, t, u, hl, hm, hx, hy, h => by
    simp at h
    obtain ⟨rfl, h⟩ := h
    obtain ⟨h1, h2⟩ := digits_pre l m x y t u (fun c hc => hl c (by simp [hc])) (fun c hc => hm c (by simp [hc])) hx hy (by simpa using h)
    exact ⟨by rw [h1], h2⟩
theorem fmt_pre (a b : BitVec 64) (x y : UInt8) (t u : List UInt8) (hx : x.toNat < 48) (hy : y.toNat < 48) (h : fmt36 a.toNat ++ x :: t = fmt36 b.toNat ++ y :: u) : a = b ∧ t = u := by
  obtain ⟨h1, h2⟩ := digits_pre _ _ x y t u (fmtOnto_ge _ [] (by simp)) (fmtOnto_ge _ [] (by simp)) hx hy h
  exact ⟨BitVec.eq_of_toNat_eq (fmt36_inj h1), (List.cons.inj h2).2⟩
theorem words_pre (s z : CSet) (t u : List UInt8) (h : words s ++ 41 :: t = words z ++ 41 :: u) : s = z ∧ t = u := by
  obtain ⟨a, b, c, d⟩ := s
  obtain ⟨a', b', c', d'⟩ := z
  simp only [words, List.cons_append, List.append_assoc, List.cons.injEq, true_and] at h
  obtain ⟨e1, h1⟩ := fmt_pre _ _ 32 32 _ _ (by decide) (by decide) h
  obtain ⟨e2, h2⟩ := fmt_pre _ _ 32 32 _ _ (by decide) (by decide) h1
  obtain ⟨e3, h3⟩ := fmt_pre _ _ 32 32 _ _ (by decide) (by decide) h2
  obtain ⟨e4, h4⟩ := fmt_pre _ _ 41 41 _ _ (by decide) (by decide) h3
  exact ⟨by rw [e1, e2, e3, e4], h4⟩

mutual
theorem key_pre : ∀ (r s : Re) (t u : List UInt8), r.key ++ t = s.key ++ u → r = s ∧ t = u
  | none, s, t, u, h => by cases s <;> simp [key] at h ⊢ <;> exact h
  | eps, s, t, u, h => by cases s <;> simp [key] at h ⊢ <;> exact h
  | cls z, s, t, u, h => by
    cases s <;> simp [key] at h ⊢
    exact words_pre _ _ _ _ h
  | cat l, s, t, u, h => by
    cases s <;> simp [key] at h ⊢
    exact keys_pre l _ _ _ h
  | or l, s, t, u, h => by
    cases s <;> simp [key] at h ⊢
    exact keys_pre l _ _ _ h
  | star r, s, t, u, h => by
    cases s <;> simp [key] at h ⊢
    obtain ⟨h1, h2⟩ := key_pre r _ _ _ h
    exact ⟨h1, (List.cons.inj h2).2⟩
  | and l, s, t, u, h => by
    cases s <;> simp [key] at h ⊢
    exact keys_pre l _ _ _ h
  | minus x y, s, t, u, h => by
    cases s <;> simp [key] at h ⊢
    obtain ⟨h1, h2⟩ := key_pre x _ _ _ h
    obtain ⟨h3, h4⟩ := key_pre y _ _ _ (List.cons.inj h2).2
    exact ⟨⟨h1, h3⟩, (List.cons.inj h4).2⟩
theorem keys_pre : ∀ (l m : List Re) (t u : List UInt8), keys l ++ 41 :: t = keys m ++ 41 :: u → l = m ∧ t = u
  | [], m, t, u, h => by
    cases m with
    | nil => simpa [keys] using h
    | cons s m => simp [keys] at h
  | r :: l, m, t, u, h => by
    cases m with
    | nil => simp [keys] at h
    | cons s m =>
      simp [keys] at h
      obtain ⟨h1, h2⟩ := key_pre r s _ _ h
      obtain ⟨h3, h4⟩ := keys_pre l m _ _ h2
      exact ⟨by rw [h1, h3], h4⟩
end
theorem key_inj {r s : Re} (h : r.key = s.key) : r = s := (key_pre r s [] [] (by rw [h])).1
theorem key_eq_iff (r s : Re) : r.key = s.key ↔ r = s := ⟨key_inj, fun h => by rw [h]⟩
end Re

/-- Strictly ascending by the keys. -/
def SSorted (l : List Re) : Prop := l.Pairwise fun a b => lessR a b = true
/-- Put into its place, once. -/
def ins (x : Re) : List Re → List Re
  | [] => [x]
  | y :: l => if lessR x y then x :: y :: l else if lessR y x then y :: ins x l else y :: l
def uniq (l : List Re) : List Re := l.foldr ins []

theorem less_total (x y : Re) (h1 : lessR x y = false) (h2 : lessR y x = false) : x = y := Re.key_inj (bl_total _ _ h1 h2)
theorem mem_ins (x z : Re) (l : List Re) : z ∈ ins x l ↔ z = x ∨ z ∈ l := by
  induction l with
  | nil => simp [ins]
  | cons y l ih =>
    unfold ins
    by_cases h1 : lessR x y = true
    · simp [h1]
    · by_cases h2 : lessR y x = true
      · simp only [h1, h2, if_true]
        simp [ih]
        constructor
        · rintro (h | h | h) <;> simp [h]
        · rintro (h | h | h) <;> simp [h]
      · have e := less_total x y (by simpa using h1) (by simpa using h2)
        simp only [h1, h2]
        simp [e]
theorem ins_sorted (x : Re) (l : List Re) (h : SSorted l) : SSorted (ins x l) := by
  induction l with
  | nil => simp [ins, SSorted]
  | cons y l ih =>
    unfold SSorted at h ih ⊢
    rw [List.pairwise_cons] at h
    unfold ins
    by_cases h1 : lessR x y = true
    · simp only [h1, if_true, List.pairwise_cons]
      refine ⟨fun z hz => ?_, h⟩
      rcases List.mem_cons.1 hz with rfl | hz
      · exact h1
      · exact lessR_swo.trans _ _ _ h1 (h.1 z hz)
    · by_cases h2 : lessR y x = true
      · simp only [h1, h2, if_true]
        simp only [Bool.false_eq_true, if_false, List.pairwise_cons]
        refine ⟨fun z hz => ?_, ih h.2⟩
        rcases (mem_ins x z l).1 hz with rfl | hz
        · exact h2
        · exact h.1 z hz
      · simp only [h1, h2]
        simpa using h
theorem uniq_sorted (l : List Re) : SSorted (uniq l) := by
  induction l with
  | nil => simp [uniq, SSorted]
  | cons x l ih => exact ins_sorted x _ ih
theorem mem_uniq (l : List Re) (z : Re) : z ∈ uniq l ↔ z ∈ l := by
  induction l with
  | nil => simp [uniq]
  | cons x l ih => rw [show uniq (x :: l) = ins x (uniq l) from rfl, mem_ins, ih]; simp
/-- Two strictly ascending rows with the same elements are one. -/
theorem sorted_unique : ∀ (l m : List Re), SSorted l → SSorted m → (∀ z, z ∈ l ↔ z ∈ m) → l = m
  | [], [], _, _, _ => rfl
  | [], y :: m, _, _, h => by have := (h y).2 (by simp); simp at this
  | x :: l, [], _, _, h => by have := (h x).1 (by simp); simp at this
  | x :: l, y :: m, hl, hm, h => by
    unfold SSorted at hl hm
    rw [List.pairwise_cons] at hl hm
    have e : x = y := by
      have hx := (h x).1 (by simp)
      have hy := (h y).2 (by simp)
      rcases List.mem_cons.1 hx with e | hx
      · exact e
      · rcases List.mem_cons.1 hy with e | hy
        · exact e.symm
        · have h1 := hm.1 x hx
          have h2 := hl.1 y hy
          have := lessR_swo.trans _ _ _ h1 h2
          rw [lessR_swo.irrefl] at this; cases this
    subst e
    congr 1
    refine sorted_unique l m hl.2 hm.2 (fun z => ⟨fun hz => ?_, fun hz => ?_⟩)
    · rcases List.mem_cons.1 ((h z).1 (by simp [hz])) with e | h'
      · rw [e] at hz
        have := hl.1 x hz
        rw [lessR_swo.irrefl] at this; cases this
      · exact h'
    · rcases List.mem_cons.1 ((h z).2 (by simp [hz])) with e | h'
      · rw [e] at hz
        have := hm.1 x hz
        rw [lessR_swo.irrefl] at this; cases this
      · exact h'
theorem uniq_congr {l m : List Re} (h : ∀ z, z ∈ l ↔ z ∈ m) : uniq l = uniq m :=
  sorted_unique _ _ (uniq_sorted l) (uniq_sorted m) (fun z => by rw [mem_uniq, mem_uniq]; exact h z)
end Go.Proofs.YtihloigpdcinkaaDoor
