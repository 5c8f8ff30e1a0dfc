/- Plain: what stands behind the bytes of a word, of a word as often as one likes; texts byte by byte. -/
import Derived.Test.YtfpfloahkibcgaaGreatDoorByW2
namespace Go.Proofs.YtfpfloahkibcgaaGreatDoor

/-- Neither a row, nor the empty one, nor none. -/
def Atom (r : Re) : Prop := r.op ≠ 0 ∧ r.op ≠ 1 ∧ r.op ≠ 3
theorem flat_atoms {l : List Re} (h : ∀ k ∈ l, Atom k) : flatL 3 l = l := by
  induction l with
  | nil => rfl
  | cons r l ih =>
    have h1 := (h r (List.mem_cons_self ..)).2.2
    have h2 := ih fun k hk => h k (List.mem_cons_of_mem _ hk)
    unfold flatL at h2 ⊢
    rw [List.flatMap_cons, h2]
    simp [flat1, h1]
theorem keep_atoms {l : List Re} (h : ∀ k ∈ l, Atom k) : l.filter (fun r => !isEps r) = l :=
  List.filter_eq_self.2 fun k hk => by simp [isEps, (h k hk).2.1]
theorem none_atoms {l : List Re} (h : ∀ k ∈ l, Atom k) : Re.none ∉ l := fun hn => (h _ hn).1 rfl
theorem thenL_atoms {l : List Re} (h : ∀ k ∈ l, Atom k) : thenL l = packCat l := by
  rw [thenL_eq l (by rw [flat_atoms h]; exact none_atoms h), flat_atoms h, keep_atoms h]
theorem flat_pack {l : List Re} (h : ∀ k ∈ l, Atom k) : (flat1 3 (packCat l)).filter (fun r => !isEps r) = l ∧ Re.none ∉ flat1 3 (packCat l) := by
  match l, h with
  | [], _ => exact ⟨by simp [packCat, flat1, Re.op, isEps], by simp [packCat, flat1, Re.op]⟩
  | [r], h =>
    have hr := h r (by simp)
    have e : flat1 3 (packCat [r]) = [r] := by simp [packCat, flat1, hr.2.2]
    rw [e]
    exact ⟨keep_atoms h, none_atoms h⟩
  | a :: b :: l, h =>
    have e : flat1 3 (packCat (a :: b :: l)) = a :: b :: l := by simp [packCat, flat1, Re.op, Re.kids]
    rw [e]
    exact ⟨keep_atoms h, none_atoms h⟩
theorem thenL_packs {l m : List Re} (hl : ∀ k ∈ l, Atom k) (hm : ∀ k ∈ m, Atom k) : thenL [packCat l, packCat m] = packCat (l ++ m) := by
  have e : flatL 3 [packCat l, packCat m] = flat1 3 (packCat l) ++ flat1 3 (packCat m) := by simp [flatL]
  have h1 := flat_pack hl
  have h2 := flat_pack hm
  rw [thenL_eq _ (by rw [e, List.mem_append]; exact fun h => h.elim h1.2 h2.2), e, List.filter_append, h1.1, h2.1]
theorem thenL_noneL (r : Re) : thenL [.none, r] = .none := thenL_no _ (by simp [flatL, flat1, Re.op])
/-- Behind a byte in a row that begins with a class. -/
theorem byR_pack (c : Nat) (s : CSet) (ks : List Re) (h : ∀ k ∈ ks, Atom k) : byR c (packCat (.cls s :: ks)) = if s.has c then packCat ks else .none := by
  match ks, h with
  | [], _ => exact byR_cls c s
  | k :: ks, h =>
    have e : packCat (.cls s :: k :: ks) = .cat (.cls s :: k :: ks) := rfl
    have hn : (Re.cls s).null = false := by simp [Re.null]
    rw [e, byR_cat, hn, if_neg (by simp), byR_cls, thenL_atoms h]
    cases s.has c with
    | false => exact thenL_noneL _
    | true =>
      have := thenL_packs (l := []) (m := k :: ks) (fun k hk => by cases hk) h
      exact this
theorem byteR_cls (b : UInt8) : byteR b = .cls (CSet.ofList [b.toNat]) := by
  unfold byteR oneR
  rw [if_neg]
  intro e
  have h : (CSet.ofList [b.toNat]).has b.toNat = true := (CSet.has_ofList _ _ (by simpa using b.toNat_lt) _).2 (.inr (by simp))
  rw [e, CSet.has_zero] at h
  cases h
theorem byte_has (b c : UInt8) : (CSet.ofList [b.toNat]).has c.toNat = decide (c = b) := by
  rw [Bool.eq_iff_iff, decide_eq_true_iff]
  unfold CSet.ofList
  rw [CSet.has_ofList _ _ (by simpa using b.toNat_lt), CSet.has_zero]
  simp [← UInt8.toNat_inj]
theorem bytes_atoms (l : List UInt8) : ∀ k ∈ l.map byteR, Atom k := fun k hk => by
  obtain ⟨b, -, rfl⟩ := List.mem_map.1 hk
  rw [byteR_cls]
  exact ⟨by simp [Re.op], by simp [Re.op], by simp [Re.op]⟩
theorem wordR_pack (l : List UInt8) : wordR l = packCat (l.map byteR) := thenL_atoms (bytes_atoms l)
/-- A word, and what stands behind it. -/
def tailR (l : List UInt8) (m : List Re) : Re := packCat (l.map byteR ++ m)
theorem tail_atoms {l : List UInt8} {m : List Re} (hm : ∀ k ∈ m, Atom k) : ∀ k ∈ l.map byteR ++ m, Atom k := fun k hk => by
  rcases List.mem_append.1 hk with h | h
  · exact bytes_atoms l k h
  · exact hm k h
theorem byR_tail (c b : UInt8) (l : List UInt8) (m : List Re) (hm : ∀ k ∈ m, Atom k) : byR c.toNat (tailR (b :: l) m) = if c = b then tailR l m else .none := by
  unfold tailR
  rw [List.map_cons, List.cons_append, byteR_cls, byR_pack _ _ _ (tail_atoms hm), byte_has]
  by_cases h : c = b <;> simp [h]
theorem wordR_tail (l : List UInt8) : wordR l = tailR l [] := by rw [wordR_pack, tailR, List.append_nil]
/-- What stands behind some bytes. -/
def bysL (r : Re) (t : List UInt8) : Re := t.foldl (fun q c => byR c.toNat q) r
theorem bysL_none (t : List UInt8) : bysL .none t = .none := by
  induction t with
  | nil => rfl
  | cons c t ih => rw [bysL, List.foldl_cons, byR_none]; exact ih
theorem bysL_snoc (r : Re) (t : List UInt8) (c : UInt8) : bysL r (t ++ [c]) = byR c.toNat (bysL r t) := by simp [bysL]
theorem bysL_cons (r : Re) (t : List UInt8) (c : UInt8) : bysL r (c :: t) = bysL (byR c.toNat r) t := rfl
theorem bysL_good {r : Re} (h : Good r) (t : List UInt8) : Good (bysL r t) := by
  induction t generalizing r with
  | nil => exact h
  | cons c t ih => exact ih (byR_good _ _ h)
theorem lang_bys {r : Re} (h : Good r) (t u : List UInt8) : Lang (bysL r t) u ↔ Lang r (t ++ u) := by
  induction t generalizing r with
  | nil => exact Iff.rfl
  | cons c t ih => rw [bysL_cons, ih (byR_good _ _ h), lang_by c r h]; rfl
/-- A word's bytes: the rest, or none. -/
theorem bys_word : ∀ (t l : List UInt8), bysL (wordR l) t = .none ∨ ∃ l', l'.length ≤ l.length ∧ bysL (wordR l) t = wordR l' := by
  intro t
  induction t with
  | nil => exact fun l => .inr ⟨l, Nat.le_refl _, rfl⟩
  | cons c t ih =>
    intro l
    rw [bysL_cons]
    match l with
    | [] =>
      have e : wordR [] = .eps := by rw [wordR_pack]; rfl
      rw [e, byR_eps, bysL_none]
      exact .inl rfl
    | b :: l =>
      rw [wordR_tail, byR_tail c b l [] (fun k hk => by cases hk)]
      by_cases h : c = b
      · rw [if_pos h, ← wordR_tail]
        rcases ih l with h1 | ⟨l', h1, h2⟩
        · exact .inl h1
        · exact .inr ⟨l', by simp; omega, h2⟩
      · rw [if_neg h, bysL_none]; exact .inl rfl
theorem bys_own (l : List UInt8) (k : Nat) : bysL (wordR l) (l.take k) = wordR (l.drop k) := by
  induction k generalizing l with
  | zero => rfl
  | succ k ih =>
    match l with
    | [] => rfl
    | b :: l => rw [List.take_succ_cons, bysL_cons, wordR_tail, byR_tail b b l [] (fun k hk => by cases hk), if_pos rfl, ← wordR_tail, List.drop_succ_cons, ih]
theorem wordR_size (l : List UInt8) : (wordR l).size ≤ 1 + l.length := by
  have := thenL_size (l.map byteR)
  rw [word_sizes] at this
  exact this
theorem bys_word_size (t l : List UInt8) : (bysL (wordR l) t).size ≤ 1 + l.length := by
  rcases bys_word t l with h | ⟨l', h1, h2⟩
  · rw [h]; simp [Re.size]
  · rw [h2]; have := wordR_size l'; omega
theorem tailR_size (l : List UInt8) (m : List Re) (hm : ∀ k ∈ m, Atom k) : (tailR l m).size ≤ 1 + l.length + Re.sizes m := by
  unfold tailR
  rw [← thenL_atoms (tail_atoms hm)]
  have := thenL_size (l.map byteR ++ m)
  rw [Re.sizes_append, word_sizes] at this
  omega
/-- A word as often as one likes: the rest of the word and then the same, or none. -/
theorem many_word (l : List UInt8) : manyR (wordR l) = if l = [] then .eps else .star (wordR l) := by
  match l with
  | [] => rw [wordR_pack]; rfl
  | [b] => rw [wordR_pack]; simp only [List.map_cons, List.map_nil, packCat, byteR_cls]; rfl
  | a :: b :: l => rw [wordR_pack]; rfl
theorem star_atom (x : Re) : ∀ k ∈ [Re.star x], Atom k := fun k hk => by
  rw [List.mem_singleton.1 hk]; exact ⟨by simp [Re.op], by simp [Re.op], by simp [Re.op]⟩
theorem byR_many (c b : UInt8) (l : List UInt8) : byR c.toNat (.star (wordR (b :: l))) = if c = b then tailR l [.star (wordR (b :: l))] else .none := by
  rw [byR_star]
  rw [show byR c.toNat (wordR (b :: l)) = if c = b then wordR l else .none by
    rw [wordR_tail, byR_tail c b l [] (fun k hk => by cases hk), ← wordR_tail]]
  by_cases h : c = b
  · rw [if_pos h, if_pos h, wordR_pack l]
    exact thenL_packs (m := [.star (wordR (b :: l))]) (bytes_atoms l) (star_atom _)
  · rw [if_neg h, if_neg h]; exact thenL_noneL _
theorem bys_many (t l : List UInt8) (hne : l ≠ []) : ∀ l', l'.length ≤ l.length → (bysL (tailR l' [.star (wordR l)]) t = .none ∨ ∃ l'', l''.length ≤ l.length ∧ bysL (tailR l' [.star (wordR l)]) t = tailR l'' [.star (wordR l)]) := by
  induction t with
  | nil => exact fun l' h => .inr ⟨l', h, rfl⟩
  | cons c t ih =>
    intro l' hl'
    rw [bysL_cons]
    match l', hl' with
    | [], _ =>
      match l, hne with
      | b :: l, _ =>
        have e : tailR [] [.star (wordR (b :: l))] = .star (wordR (b :: l)) := rfl
        rw [e, byR_many]
        by_cases h : c = b
        · rw [if_pos h]; exact ih l (by simp)
        · rw [if_neg h, bysL_none]; exact .inl rfl
    | b :: l', hl' =>
      rw [byR_tail c b l' _ (star_atom _)]
      by_cases h : c = b
      · rw [if_pos h]; exact ih l' (by simp at hl'; omega)
      · rw [if_neg h, bysL_none]; exact .inl rfl
theorem bys_many_size (t l : List UInt8) : (bysL (manyR (wordR l)) t).size ≤ 4 + 2 * l.length := by
  rw [many_word]
  by_cases hne : l = []
  · rw [if_pos hne]
    match t with
    | [] => simp [bysL, Re.size]; omega
    | c :: t => rw [bysL_cons, byR_eps, bysL_none]; simp [Re.size]; omega
  · rw [if_neg hne]
    have e : Re.star (wordR l) = tailR [] [.star (wordR l)] := rfl
    have hw := wordR_size l
    rcases bys_many t l hne [] (Nat.zero_le _) with h | ⟨l'', h1, h2⟩
    · rw [e, h]; simp [Re.size]; omega
    · rw [e, h2]
      have := tailR_size l'' [.star (wordR l)] (star_atom _)
      simp only [Re.sizes, Re.size] at this
      omega
end Go.Proofs.YtfpfloahkibcgaaGreatDoor
