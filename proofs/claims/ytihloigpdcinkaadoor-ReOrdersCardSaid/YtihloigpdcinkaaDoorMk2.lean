/- Plain: how great what the calls make is. -/
import Derived.Test.YtihloigpdcinkaaDoorMk
namespace Go.Proofs.YtihloigpdcinkaaDoor
open Re

theorem sizes_cons (r : Re) (l : List Re) : sizes (r :: l) = r.size + sizes l := rfl
theorem flat1_sizes (o : Nat) (r : Re) : sizes (flat1 o r) ≤ r.size := by
  unfold flat1
  split
  · rw [size_kids r]; omega
  · simp [sizes]
theorem flatL_sizes (o : Nat) (l : List Re) : sizes (flatL o l) ≤ sizes l := by
  induction l with
  | nil => simp [flatL, sizes]
  | cons r l ih =>
    have h1 := flat1_sizes o r
    rw [show flatL o (r :: l) = flat1 o r ++ flatL o l by simp [flatL], sizes_append, sizes_cons]
    omega
theorem filter_sizes (p : Re → Bool) (l : List Re) : sizes (l.filter p) ≤ sizes l := by
  induction l with
  | nil => simp
  | cons r l ih =>
    rw [List.filter_cons, sizes_cons]
    split
    · rw [sizes_cons]; omega
    · omega
theorem ins_sizes (x : Re) (l : List Re) : sizes (ins x l) ≤ x.size + sizes l := by
  induction l with
  | nil => simp [ins, sizes]
  | cons y l ih =>
    unfold ins
    split
    · simp [sizes]
    · split
      · simp [sizes] at ih ⊢; omega
      · simp [sizes]
theorem uniq_sizes (l : List Re) : sizes (uniq l) ≤ sizes l := by
  induction l with
  | nil => simp [uniq]
  | cons x l ih =>
    have := ins_sizes x (uniq l)
    rw [sizes_cons]
    simp only [uniq, List.foldr_cons] at ih this ⊢
    omega
theorem joinGo_sizes (f : CSet → CSet → CSet) : ∀ (l out : List Re) (one : Option CSet), sizes (joinGo f l out one) ≤ sizes l + sizes out + sizes (one.map Re.cls).toList
  | [], out, one => by
    have := uniq_sizes (out ++ (one.map Re.cls).toList)
    rw [sizes_append] at this
    simp [joinGo, sizes]
    omega
  | r :: l, out, one => by
    by_cases h : r.op = 2
    · obtain ⟨s, rfl⟩ : ∃ s, r = .cls s := by cases r <;> first | exact ⟨_, rfl⟩ | simp [Re.op] at h
      cases one with
      | none =>
        have := joinGo_sizes f l out (some s)
        simp [joinGo, sizes, size] at this ⊢
        omega
      | some o =>
        simp only [joinGo]
        split
        · simp [sizes_append, sizes, size]
        · have := joinGo_sizes f l out (some (f o s))
          simp [sizes, size] at this ⊢
          omega
    · rw [joinGo_other _ _ _ _ _ h]
      have := joinGo_sizes f l (out ++ [r]) one
      rw [sizes_append] at this
      simp [sizes] at this ⊢
      omega
theorem joinL_sizes (o : Nat) (f : CSet → CSet → CSet) (l : List Re) : sizes (joinL o f l) ≤ sizes l := by
  have h1 := joinGo_sizes f (flatL o l) [] none
  have h2 := flatL_sizes o l
  simp [sizes] at h1
  unfold joinL
  omega
theorem len_sizes (l : List Re) : l.length ≤ sizes l := length_le_sizes l
theorem packCat_size (l : List Re) : (packCat l).size ≤ 1 + sizes l := by
  match l with
  | [] => simp [packCat, size]
  | [r] => simp [packCat, sizes]
  | a :: b :: l => simp [packCat, size]
theorem packOr_size (l : List Re) : (packOr l).size ≤ 1 + sizes l := by
  match l with
  | [] => simp [packOr, size]
  | [r] => simp [packOr, sizes]
  | a :: b :: l => simp [packOr, size]
theorem packAnd_size (l : List Re) : (packAnd l).size ≤ 2 + sizes l := by
  match l with
  | [] => simp [packAnd, size]
  | [r] => simp [packAnd, sizes]
  | a :: b :: l => simp [packAnd, size]
theorem thenL_size (l : List Re) : (thenL l).size ≤ 1 + sizes l := by
  unfold thenL
  simp only []
  have h1 := filter_sizes (fun r => !isEps r) (flatL 3 l)
  have h2 := flatL_sizes 3 l
  split
  · simp [size]
  · have := packCat_size ((flatL 3 l).filter fun r => !isEps r); omega
theorem anyL_size (l : List Re) : (anyL l).size ≤ 1 + sizes l := by
  unfold anyL
  have h1 := filter_sizes (fun r => !isNone r) (joinL 4 CSet.or l)
  have h2 := joinL_sizes 4 CSet.or l
  have := packOr_size ((joinL 4 CSet.or l).filter fun r => !isNone r)
  omega
theorem bothL_size (l : List Re) : (bothL l).size ≤ 2 + sizes l := by
  unfold bothL
  simp only []
  have h2 := joinL_sizes 6 CSet.and l
  split
  · simp [size]; omega
  · have := packAnd_size (joinL 6 CSet.and l); omega
end Go.Proofs.YtihloigpdcinkaaDoor
