/- Plain: settled expressions, and what the makers make of settled ones. -/
import Derived.Test.YtihloigpdcinkaaDoorMk2
namespace Go.Proofs.YtihloigpdcinkaaDoor

namespace CSet
theorem bv_and (x : BitVec 64) : x &&& ~~~(0#64) = x := by rw [BitVec.not_zero, BitVec.and_allOnes]
theorem and_all (s : CSet) : s.and all = s := by
  obtain ⟨a, b, c, d⟩ := s
  show CSet.mk (a &&& ~~~(0#64)) (b &&& ~~~(0#64)) (c &&& ~~~(0#64)) (d &&& ~~~(0#64)) = _
  rw [bv_and, bv_and, bv_and, bv_and]
theorem all_and (s : CSet) : all.and s = s := by rw [and_comm, and_all]
/-- All that stands in one of them. -/
def orL (cs : List CSet) : CSet := cs.foldl or zero
/-- All that stands in each of them. -/
def andL (cs : List CSet) : CSet := cs.foldl and all
theorem foldl_or (cs : List CSet) : ∀ z, cs.foldl or z = z.or (orL cs) := by
  induction cs with
  | nil => intro z; simp [orL, or_zero]
  | cons s l ih => intro z; simp only [List.foldl_cons, orL]; rw [ih, ih (zero.or s), zero_or, or_assoc]
theorem foldl_and (cs : List CSet) : ∀ z, cs.foldl and z = z.and (andL cs) := by
  induction cs with
  | nil => intro z; simp [andL, and_all]
  | cons s l ih => intro z; simp only [List.foldl_cons, andL]; rw [ih, ih (all.and s), all_and, and_assoc]
theorem orL_cons (s : CSet) (cs : List CSet) : orL (s :: cs) = s.or (orL cs) := by rw [orL, List.foldl_cons, foldl_or, zero_or]
theorem andL_cons (s : CSet) (cs : List CSet) : andL (s :: cs) = s.and (andL cs) := by rw [andL, List.foldl_cons, foldl_and, all_and]
theorem orL_append (cs ds : List CSet) : orL (cs ++ ds) = (orL cs).or (orL ds) := by
  induction cs with
  | nil => exact (zero_or _).symm
  | cons s l ih => rw [List.cons_append, orL_cons, orL_cons, ih, or_assoc]
theorem andL_append (cs ds : List CSet) : andL (cs ++ ds) = (andL cs).and (andL ds) := by
  induction cs with
  | nil => exact (all_and _).symm
  | cons s l ih => rw [List.cons_append, andL_cons, andL_cons, ih, and_assoc]
theorem or_absorb {s : CSet} {cs : List CSet} (h : s ∈ cs) : s.or (orL cs) = orL cs := by
  induction cs with
  | nil => cases h
  | cons t l ih =>
    rw [orL_cons]
    rcases List.mem_cons.1 h with e | e
    · rw [e, ← or_assoc, or_self]
    · rw [or_comm t, ← or_assoc, ih e]
theorem and_absorb {s : CSet} {cs : List CSet} (h : s ∈ cs) : s.and (andL cs) = andL cs := by
  induction cs with
  | nil => cases h
  | cons t l ih =>
    rw [andL_cons]
    rcases List.mem_cons.1 h with e | e
    · rw [e, ← and_assoc, and_self]
    · rw [and_comm t, ← and_assoc, ih e]
theorem orL_le {cs ds : List CSet} (h : ∀ s ∈ cs, s ∈ ds) : (orL cs).or (orL ds) = orL ds := by
  induction cs with
  | nil => exact zero_or _
  | cons s l ih => rw [orL_cons, or_assoc, ih (fun x hx => h x (List.mem_cons_of_mem _ hx)), or_absorb (h s (List.mem_cons_self ..))]
theorem andL_le {cs ds : List CSet} (h : ∀ s ∈ cs, s ∈ ds) : (andL cs).and (andL ds) = andL ds := by
  induction cs with
  | nil => exact all_and _
  | cons s l ih => rw [andL_cons, and_assoc, ih (fun x hx => h x (List.mem_cons_of_mem _ hx)), and_absorb (h s (List.mem_cons_self ..))]
theorem orL_congr {cs ds : List CSet} (h : ∀ s, s ∈ cs ↔ s ∈ ds) : orL cs = orL ds := by
  have h1 := orL_le (fun s hs => (h s).1 hs)
  have h2 := orL_le (fun s hs => (h s).2 hs)
  rw [or_comm] at h2
  exact h2.symm.trans h1
theorem andL_congr {cs ds : List CSet} (h : ∀ s, s ∈ cs ↔ s ∈ ds) : andL cs = andL ds := by
  have h1 := andL_le (fun s hs => (h s).1 hs)
  have h2 := andL_le (fun s hs => (h s).2 hs)
  rw [and_comm] at h2
  exact h2.symm.trans h1
theorem or_eq_zero {s t : CSet} (h : s.or t = zero) : s = zero := by
  obtain ⟨a, b, c, d⟩ := s
  obtain ⟨a', b', c', d'⟩ := t
  simp only [or, zero, CSet.mk.injEq] at h ⊢
  refine ⟨?_, ?_, ?_, ?_⟩
  · have := h.1; ext i; have := congrArg (fun x => x.getLsbD i) this; simp at this; simp_all
  · have := h.2.1; ext i; have := congrArg (fun x => x.getLsbD i) this; simp at this; simp_all
  · have := h.2.2.1; ext i; have := congrArg (fun x => x.getLsbD i) this; simp at this; simp_all
  · have := h.2.2.2; ext i; have := congrArg (fun x => x.getLsbD i) this; simp at this; simp_all
end CSet

/-- The sets of the classes among them. -/
def clss : List Re → List CSet
  | [] => []
  | .cls s :: l => s :: clss l
  | _ :: l => clss l
/-- Those that are no class. -/
def oths (l : List Re) : List Re := l.filter fun r => r.op != 2
theorem mem_clss (l : List Re) (s : CSet) : s ∈ clss l ↔ Re.cls s ∈ l := by
  induction l with
  | nil => simp [clss]
  | cons r l ih => cases r <;> simp [clss, ih]
theorem clss_append (l m : List Re) : clss (l ++ m) = clss l ++ clss m := by
  induction l with
  | nil => rfl
  | cons r l ih => cases r <;> simp [clss, ih]
theorem mem_oths (l : List Re) (z : Re) : z ∈ oths l ↔ z ∈ l ∧ z.op ≠ 2 := by simp [oths]
theorem clss_other (r : Re) (l : List Re) (h : r.op ≠ 2) : clss (r :: l) = clss l := by cases r <;> first | rfl | exact absurd rfl h
theorem oths_other (r : Re) (l : List Re) (h : r.op ≠ 2) : oths (r :: l) = r :: oths l := by simp [oths, h]
theorem op_two {r : Re} (h : r.op = 2) : ∃ s, r = .cls s := by cases r <;> first | exact ⟨_, rfl⟩ | (simp [Re.op] at h)
theorem op_zero {r : Re} (h : r.op = 0) : r = .none := by cases r <;> first | rfl | (simp [Re.op] at h)

/-- One class out of those so far and these: none where one is empty. -/
def joinC (f : CSet → CSet → CSet) : Option CSet → List CSet → Option (Option CSet)
  | one, [] => some one
  | none, s :: l => joinC f (some s) l
  | some o, s :: l => if f o s = CSet.zero then none else joinC f (some (f o s)) l
theorem joinGo_eq (f : CSet → CSet → CSet) : ∀ (l out : List Re) (one : Option CSet),
    (∀ o, joinC f one (clss l) = some o → joinGo f l out one = uniq (out ++ oths l ++ (o.map Re.cls).toList)) ∧
    (joinC f one (clss l) = none → ∃ out', joinGo f l out one = out' ++ [.none])
  | [], out, one => ⟨fun o h => by cases h; simp [joinGo, oths], fun h => by cases one <;> simp [clss, joinC] at h⟩
  | r :: l, out, one => by
    by_cases hr : r.op = 2
    · obtain ⟨s, rfl⟩ := op_two hr
      have e1 : clss (.cls s :: l) = s :: clss l := rfl
      have e2 : oths (.cls s :: l) = oths l := by simp [oths, Re.op]
      rw [e1, e2]
      cases one with
      | none => simp only [joinC, joinGo]; exact joinGo_eq f l out (some s)
      | some o =>
        simp only [joinC, joinGo]
        by_cases hz : f o s = CSet.zero
        · rw [if_pos hz, if_pos hz]
          exact ⟨fun _ h => (by cases h), fun _ => ⟨out, rfl⟩⟩
        · rw [if_neg hz, if_neg hz]
          exact joinGo_eq f l out (some (f o s))
    · rw [clss_other r l hr, oths_other r l hr, joinGo_other f r l out one hr]
      have := joinGo_eq f l (out ++ [r]) one
      simpa [List.append_assoc] using this
theorem joinC_or : ∀ (cs : List CSet) (o : CSet), o ≠ CSet.zero → joinC CSet.or (some o) cs = some (some (o.or (CSet.orL cs)))
  | [], o, _ => by simp [joinC, CSet.orL, CSet.or_zero]
  | s :: l, o, h => by
    have hne : ¬ o.or s = CSet.zero := fun e => h (CSet.or_eq_zero e)
    rw [joinC, if_neg hne, joinC_or l _ hne, CSet.orL_cons, CSet.or_assoc]
theorem joinC_or0 (cs : List CSet) (h : ∀ s ∈ cs, s ≠ CSet.zero) : joinC CSet.or none cs = some (if cs = [] then none else some (CSet.orL cs)) := by
  cases cs with
  | nil => rfl
  | cons s l => rw [joinC, joinC_or l s (h s (List.mem_cons_self ..)), if_neg (by simp), CSet.orL_cons]
theorem joinC_and : ∀ (cs : List CSet) (o : CSet), o ≠ CSet.zero → joinC CSet.and (some o) cs = if o.and (CSet.andL cs) = CSet.zero then none else some (some (o.and (CSet.andL cs)))
  | [], o, h => by
    have e : o.and (CSet.andL []) = o := CSet.and_all o
    rw [e, if_neg h, joinC]
  | s :: l, o, h => by
    rw [joinC, CSet.andL_cons, ← CSet.and_assoc]
    by_cases hz : o.and s = CSet.zero
    · rw [if_pos hz, hz, CSet.zero_and, if_pos rfl]
    · rw [if_neg hz, joinC_and l _ hz]
theorem joinC_and0 (cs : List CSet) (h : ∀ s ∈ cs, s ≠ CSet.zero) : joinC CSet.and none cs = if cs = [] then some none else if CSet.andL cs = CSet.zero then none else some (some (CSet.andL cs)) := by
  cases cs with
  | nil => rfl
  | cons s l => rw [joinC, joinC_and l s (h s (List.mem_cons_self ..)), CSet.andL_cons, if_neg (show ¬ (s :: l = []) by simp)]

/-- What an Any holds, of these flat ones. -/
def AnyMem (F : List Re) (z : Re) : Prop := (z ∈ F ∧ z.op ≠ 2 ∧ z.op ≠ 0) ∨ (clss F ≠ [] ∧ z = .cls (CSet.orL (clss F)))
/-- What a Both holds. -/
def BothMem (F : List Re) (z : Re) : Prop := (z ∈ F ∧ z.op ≠ 2) ∨ (clss F ≠ [] ∧ z = .cls (CSet.andL (clss F)))
/-- No empty class. -/
def NZ (F : List Re) : Prop := ∀ s ∈ clss F, s ≠ CSet.zero
theorem filter_sorted {l : List Re} (p : Re → Bool) (h : SSorted l) : SSorted (l.filter p) := List.Pairwise.filter p h
theorem anyL_char (rs : List Re) (h : NZ (flatL 4 rs)) : ∃ L, anyL rs = packOr L ∧ SSorted L ∧ ∀ z, z ∈ L ↔ AnyMem (flatL 4 rs) z := by
  have h1 := (joinGo_eq CSet.or (flatL 4 rs) [] none).1 _ (joinC_or0 _ h)
  refine ⟨_, rfl, filter_sorted _ (by unfold joinL; rw [h1]; exact uniq_sorted _), fun z => ?_⟩
  unfold joinL AnyMem
  rw [h1, List.mem_filter, mem_uniq, List.nil_append, List.mem_append, mem_oths]
  have hn : ∀ x : Re, (!isNone x) = true ↔ x.op ≠ 0 := fun x => by simp [isNone]
  rw [hn]
  by_cases hc : clss (flatL 4 rs) = []
  · rw [if_pos hc]
    constructor
    · intro ⟨h2, h3⟩
      rcases h2 with h2 | h2
      · exact .inl ⟨h2.1, h2.2, h3⟩
      · cases h2
    · intro h2
      rcases h2 with h2 | h2
      · exact ⟨.inl ⟨h2.1, h2.2.1⟩, h2.2.2⟩
      · exact absurd hc h2.1
  · rw [if_neg hc, Option.map_some, Option.toList_some, List.mem_singleton]
    constructor
    · intro ⟨h2, h3⟩
      rcases h2 with h2 | h2
      · exact .inl ⟨h2.1, h2.2, h3⟩
      · exact .inr ⟨hc, h2⟩
    · intro h2
      rcases h2 with h2 | h2
      · exact ⟨.inl ⟨h2.1, h2.2.1⟩, h2.2.2⟩
      · exact ⟨.inr h2.2, by rw [h2.2]; simp [Re.op]⟩
/-- Is a Both of these nothing? -/
def BothNo (F : List Re) : Prop := Re.none ∈ F ∨ (clss F ≠ [] ∧ CSet.andL (clss F) = CSet.zero)
theorem bothL_no (rs : List Re) (h : NZ (flatL 6 rs)) (hn : BothNo (flatL 6 rs)) : bothL rs = .none := by
  unfold bothL
  by_cases hz : clss (flatL 6 rs) ≠ [] ∧ CSet.andL (clss (flatL 6 rs)) = CSet.zero
  · obtain ⟨out, e⟩ := (joinGo_eq CSet.and (flatL 6 rs) [] none).2 (by rw [joinC_and0 _ h, if_neg hz.1, if_pos hz.2])
    unfold joinL
    rw [e, if_pos (by simp [isNone, Re.op])]
  · have hm : Re.none ∈ flatL 6 rs := hn.resolve_right hz
    have : ∃ o, joinC CSet.and none (clss (flatL 6 rs)) = some o := by
      rw [joinC_and0 _ h]
      by_cases hc : clss (flatL 6 rs) = []
      · rw [if_pos hc]; exact ⟨_, rfl⟩
      · rw [if_neg hc, if_neg (fun e => hz ⟨hc, e⟩)]; exact ⟨_, rfl⟩
    obtain ⟨o, ho⟩ := this
    have h1 := (joinGo_eq CSet.and (flatL 6 rs) [] none).1 o ho
    unfold joinL
    rw [h1, if_pos]
    rw [List.any_eq_true]
    exact ⟨.none, by rw [mem_uniq]; simp [mem_oths, hm, Re.op], rfl⟩
theorem bothL_char (rs : List Re) (h : NZ (flatL 6 rs)) (hn : ¬ BothNo (flatL 6 rs)) : ∃ L, bothL rs = packAnd L ∧ SSorted L ∧ ∀ z, z ∈ L ↔ BothMem (flatL 6 rs) z := by
  have hno : Re.none ∉ flatL 6 rs := fun e => hn (.inl e)
  have hz : clss (flatL 6 rs) ≠ [] → CSet.andL (clss (flatL 6 rs)) ≠ CSet.zero := fun hc e => hn (.inr ⟨hc, e⟩)
  have ho : joinC CSet.and none (clss (flatL 6 rs)) = some (if clss (flatL 6 rs) = [] then none else some (CSet.andL (clss (flatL 6 rs)))) := by
    rw [joinC_and0 _ h]
    by_cases hc : clss (flatL 6 rs) = []
    · rw [if_pos hc, if_pos hc]
    · rw [if_neg hc, if_neg hc, if_neg (hz hc)]
  have h1 := (joinGo_eq CSet.and (flatL 6 rs) [] none).1 _ ho
  have hmem : ∀ z, z ∈ joinL 6 CSet.and rs ↔ BothMem (flatL 6 rs) z := fun z => by
    unfold joinL BothMem
    rw [h1, mem_uniq, List.nil_append, List.mem_append, mem_oths]
    by_cases hc : clss (flatL 6 rs) = []
    · simp [hc]
    · simp [hc]
  refine ⟨joinL 6 CSet.and rs, ?_, by unfold joinL; rw [h1]; exact uniq_sorted _, hmem⟩
  unfold bothL
  simp only []
  rw [if_neg]
  rw [List.any_eq_true]
  rintro ⟨z, hz1, hz2⟩
  have hz0 : z = .none := op_zero (by simpa [isNone] using hz2)
  subst hz0
  rcases (hmem _).1 hz1 with h | h
  · exact hno h.1
  · exact absurd h.2 (by intro e; cases e)
theorem thenL_no (l : List Re) (h : Re.none ∈ flatL 3 l) : thenL l = .none := by
  unfold thenL
  simp only []
  rw [if_pos]
  rw [List.any_eq_true]
  exact ⟨.none, List.mem_filter.2 ⟨h, rfl⟩, rfl⟩
theorem thenL_eq (l : List Re) (h : Re.none ∉ flatL 3 l) : thenL l = packCat ((flatL 3 l).filter fun r => !isEps r) := by
  unfold thenL
  simp only []
  rw [if_neg]
  rw [List.any_eq_true]
  intro ⟨z, hz1, hz2⟩
  have hz : z = .none := op_zero (by simpa [isNone] using hz2)
  subst hz
  exact h (List.mem_filter.1 hz1).1
end Go.Proofs.YtihloigpdcinkaaDoor
