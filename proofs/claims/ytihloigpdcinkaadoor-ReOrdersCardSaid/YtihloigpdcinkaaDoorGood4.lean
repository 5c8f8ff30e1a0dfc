/- Plain: groups of an Any; an expression with its own kids. -/
import Derived.Test.YtihloigpdcinkaaDoorGood3
namespace Go.Proofs.YtihloigpdcinkaaDoor

theorem mem_packOr {L : List Re} (h : ∀ z ∈ L, z.op ≠ 4) {z : Re} (hz : z.op ≠ 0) : z ∈ flat1 4 (packOr L) ↔ z ∈ L := by
  rw [flat1_packOr L h]
  by_cases h0 : L = []
  · rw [if_pos h0, h0]
    constructor
    · intro e
      have e : z = .none := by simpa using e
      exact absurd (by rw [e]; rfl) hz
    · intro e; cases e
  · rw [if_neg h0]
theorem anyL_group {a b : List Re} (ha : Goods a) (hb : Goods b) : anyL [anyL a, anyL b] = anyL (a ++ b) := by
  have hab : Goods (a ++ b) := fun z hz => by
    rcases List.mem_append.1 hz with h | h
    · exact ha z h
    · exact hb z h
  have hg : Goods [anyL a, anyL b] := fun z hz => by
    have e : z = anyL a ∨ z = anyL b := by simpa using hz
    rcases e with e | e
    · rw [e]; exact anyL_good ha
    · rw [e]; exact anyL_good hb
  obtain ⟨L, eL, sL, mL⟩ := anyL_char (a ++ b) (good_nz (flat_good hab))
  obtain ⟨M, eM, sM, mM⟩ := anyL_char [anyL a, anyL b] (good_nz (flat_good hg))
  have key : ∀ c : List Re, Goods c → ∀ z : Re, z.op ≠ 0 → (z ∈ flat1 4 (anyL c) ↔ AnyMem (flatL 4 c) z) := fun c hc z hz => by
    obtain ⟨C, eC, sC, mC⟩ := anyL_char c (good_nz (flat_good hc))
    rw [eC, mem_packOr (fun z hz => (anyMem_good (flat_good hc) (fun z hz => flat_op hc (by simp) hz) ((mC z).1 hz)).2.2) hz, mC]
  have hmem : ∀ z : Re, z.op ≠ 0 → (z ∈ flatL 4 [anyL a, anyL b] ↔ AnyMem (flatL 4 a) z ∨ AnyMem (flatL 4 b) z) := fun z hz => by
    have e : flatL 4 [anyL a, anyL b] = flat1 4 (anyL a) ++ flat1 4 (anyL b) := by simp [flatL]
    rw [e, List.mem_append, key a ha z hz, key b hb z hz]
  have hcl : ∀ s, s ∈ clss (flatL 4 [anyL a, anyL b]) ↔ (clss (flatL 4 a) ≠ [] ∧ s = CSet.orL (clss (flatL 4 a))) ∨ (clss (flatL 4 b) ≠ [] ∧ s = CSet.orL (clss (flatL 4 b))) := fun s => by
    rw [mem_clss, hmem _ (by simp [Re.op])]
    unfold AnyMem
    simp [Re.op]
  have hne : clss (flatL 4 [anyL a, anyL b]) ≠ [] ↔ clss (flatL 4 a) ≠ [] ∨ clss (flatL 4 b) ≠ [] := by
    constructor
    · intro h
      obtain ⟨s, hs⟩ := List.exists_mem_of_ne_nil _ h
      rcases (hcl s).1 hs with h | h
      · exact .inl h.1
      · exact .inr h.1
    · intro h e
      rcases h with h | h
      · have := (hcl _).2 (.inl ⟨h, rfl⟩)
        rw [e] at this; cases this
      · have := (hcl _).2 (.inr ⟨h, rfl⟩)
        rw [e] at this; cases this
  have hor : CSet.orL (clss (flatL 4 [anyL a, anyL b])) = (CSet.orL (clss (flatL 4 a))).or (CSet.orL (clss (flatL 4 b))) := by
    have e : CSet.orL (clss (flatL 4 [anyL a, anyL b])) = CSet.orL ((if clss (flatL 4 a) = [] then [] else [CSet.orL (clss (flatL 4 a))]) ++ (if clss (flatL 4 b) = [] then [] else [CSet.orL (clss (flatL 4 b))])) :=
      CSet.orL_congr fun s => by
        rw [hcl, List.mem_append]
        by_cases h1 : clss (flatL 4 a) = [] <;> by_cases h2 : clss (flatL 4 b) = [] <;> simp [h1, h2]
    rw [e, CSet.orL_append]
    by_cases h1 : clss (flatL 4 a) = [] <;> by_cases h2 : clss (flatL 4 b) = [] <;> simp [h1, h2, CSet.orL, CSet.zero_or, CSet.or_zero]
  have hfl : flatL 4 (a ++ b) = flatL 4 a ++ flatL 4 b := flatL_append 4 a b
  have hne' : clss (flatL 4 (a ++ b)) ≠ [] ↔ clss (flatL 4 a) ≠ [] ∨ clss (flatL 4 b) ≠ [] := by
    rw [hfl, clss_append]
    by_cases h1 : clss (flatL 4 a) = [] <;> simp [h1]
  rw [eL, eM, sorted_unique M L sM sL fun z => ?_]
  rw [mM, mL]
  unfold AnyMem
  rw [hne, hne', hor, hfl, clss_append, CSet.orL_append, List.mem_append]
  by_cases hz : z.op = 2 ∨ z.op = 0
  · have h1 : ¬ (z.op ≠ 2 ∧ z.op ≠ 0) := by omega
    simp [h1]
  · have h0 : z.op ≠ 0 := by omega
    have h2 : z.op ≠ 2 := by omega
    rw [hmem z h0]
    have hc : ∀ s : CSet, z ≠ .cls s := fun s e => h2 (by rw [e]; rfl)
    unfold AnyMem
    simp [h0, h2, hc]

theorem flat_self {o : Nat} {l : List Re} (h : ∀ k ∈ l, k.op ≠ o) : flatL o l = l := by
  induction l with
  | nil => rfl
  | cons r l ih =>
    have e : flatL o (r :: l) = flat1 o r ++ flatL o l := by simp [flatL]
    rw [e, ih (fun k hk => h k (List.mem_cons_of_mem _ hk)), flat1, if_neg (h r (List.mem_cons_self ..))]
    rfl
theorem one_of_clss {l : List Re} (h1 : OneCls l) {s t : CSet} (hs : s ∈ clss l) (ht : t ∈ clss l) : s = t := by
  unfold OneCls at h1
  match hc : clss l with
  | [] => rw [hc] at hs; cases hs
  | [a] => rw [hc] at hs ht; simp at hs ht; rw [hs, ht]
  | a :: b :: m => rw [hc] at h1; simp at h1
theorem thenL_self {l : List Re} (h : Good (.cat l)) : thenL l = .cat l := by
  have hk := fun k (hk : k ∈ l) => h.kid (r := .cat l) hk
  have hf : flatL 3 l = l := flat_self fun k hk => (h.fit.2 k hk).1
  rw [thenL_eq l (by rw [hf]; exact fun e => (hk _ e).2 rfl), hf]
  have : l.filter (fun r => !isEps r) = l := List.filter_eq_self.2 fun k hk => by simp [isEps, (h.fit.2 k hk).2]
  rw [this]
  match l, h.fit.1 with
  | a :: b :: m, _ => rfl
theorem anyL_self {l : List Re} (h : Good (.or l)) : anyL l = .or l := by
  have hk := fun k (hk : k ∈ l) => h.kid (r := .or l) hk
  have hf : flatL 4 l = l := flat_self fun k hk => h.fit.2.1 k hk
  have hg : Goods l := fun k hk' => (hk k hk').1
  obtain ⟨L, e, sL, mL⟩ := anyL_char l (good_nz (flat_good hg))
  rw [e, sorted_unique L l sL h.fit.2.2.1 fun z => ?_]
  · match l, h.fit.1 with
    | a :: b :: m, _ => rfl
  · rw [mL, hf]
    constructor
    · intro hz
      rcases hz with hz | ⟨hne, rfl⟩
      · exact hz.1
      · obtain ⟨s, hs⟩ := List.exists_mem_of_ne_nil _ hne
        have : clss l = [s] := by
          match hc : clss l, h.fit.2.2.2 with
          | [a], _ => rw [hc] at hs; simp at hs; rw [hs]
          | [], _ => exact absurd hc hne
          | a :: b :: m, h1 => unfold OneCls at h1; rw [hc] at h1; simp at h1
        rw [this]
        have e2 : CSet.orL [s] = s := by rw [CSet.orL_cons]; exact CSet.or_zero s
        rw [e2]
        exact (mem_clss l s).1 hs
    · intro hz
      by_cases h2 : z.op = 2
      · obtain ⟨s, rfl⟩ := op_two h2
        have hs := (mem_clss l s).2 hz
        refine .inr ⟨List.ne_nil_of_mem hs, ?_⟩
        have : clss l = [s] := by
          match hc : clss l, h.fit.2.2.2 with
          | [a], _ => rw [hc] at hs; simp at hs; rw [hs]
          | [], _ => rw [hc] at hs; cases hs
          | a :: b :: m, h1 => unfold OneCls at h1; rw [hc] at h1; simp at h1
        rw [this, CSet.orL_cons]
        show _ = Re.cls (s.or CSet.zero)
        rw [CSet.or_zero]
      · exact .inl ⟨hz, h2, (hk z hz).2⟩
theorem bothL_self {l : List Re} (h : Good (.and l)) : bothL l = .and l := by
  have hk := fun k (hk : k ∈ l) => h.kid (r := .and l) hk
  have hf : flatL 6 l = l := flat_self fun k hk => h.fit.2.1 k hk
  have hg : Goods l := fun k hk' => (hk k hk').1
  have h1c : ∀ s, s ∈ clss l → clss l = [s] := fun s hs => by
    match hc : clss l, h.fit.2.2.2 with
    | [a], _ => rw [hc] at hs; simp at hs; rw [hs]
    | [], _ => rw [hc] at hs; cases hs
    | a :: b :: m, h1 => unfold OneCls at h1; rw [hc] at h1; simp at h1
  have e1 : ∀ s, CSet.andL [s] = s := fun s => by rw [CSet.andL_cons]; exact CSet.and_all s
  have hn : ¬ BothNo (flatL 6 l) := by
    rw [hf]
    rintro (h0 | ⟨hne, h0⟩)
    · exact (hk _ h0).2 rfl
    · obtain ⟨s, hs⟩ := List.exists_mem_of_ne_nil _ hne
      rw [h1c s hs, e1] at h0
      exact good_nz hg s hs h0
  obtain ⟨L, e, sL, mL⟩ := bothL_char l (good_nz (flat_good hg)) hn
  rw [e, sorted_unique L l sL h.fit.2.2.1 fun z => ?_]
  · match l, h.fit.1 with
    | a :: b :: m, _ => rfl
  · rw [mL, hf]
    constructor
    · intro hz
      rcases hz with hz | ⟨hne, rfl⟩
      · exact hz.1
      · obtain ⟨s, hs⟩ := List.exists_mem_of_ne_nil _ hne
        rw [h1c s hs, e1]
        exact (mem_clss l s).1 hs
    · intro hz
      by_cases h2 : z.op = 2
      · obtain ⟨s, rfl⟩ := op_two h2
        have hs := (mem_clss l s).2 hz
        exact .inr ⟨List.ne_nil_of_mem hs, by rw [h1c s hs, e1]⟩
      · exact .inl ⟨hz, h2⟩
theorem manyR_self {r : Re} (h : Good (.star r)) : manyR r = .star r := by
  have h0 := (h.kid (r := .star r) (k := r) (by simp [Re.kids])).2
  unfold manyR
  rw [if_neg (by rintro (e | e); exact h0 e; exact h.fit.2 e), if_neg h.fit.1]
theorem butR_self {x y : Re} (h : Good (.minus x y)) : butR x y = .minus x y := by
  have hx := (h.kid (r := .minus x y) (k := x) (by simp [Re.kids])).2
  have hy := (h.kid (r := .minus x y) (k := y) (by simp [Re.kids])).2
  unfold butR
  rw [if_neg (by rintro (e | e); exact hx e; exact h.fit.1 (Re.key_inj e)), if_neg hy, if_neg h.fit.2]
end Go.Proofs.YtihloigpdcinkaaDoor
