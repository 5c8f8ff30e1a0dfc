/- Cells of a row by a function; a number that a world has. -/
import Derived.Test.YtfpfloahkibcgaaGreatDoorDfaP
namespace Go.Proofs.YtfpfloahkibcgaaGreatDoor
open Go.RowKit Go.Maps

/-- Cells of a row, by a function. -/
def fnA (n : Nat) (g : Nat → Value) : Array Value := ((List.range n).map g).toArray
theorem fnA_size (n : Nat) (g : Nat → Value) : (fnA n g).size = n := by simp [fnA]
theorem fnA_get {n i : Nat} {g : Nat → Value} (h : i < n) : (fnA n g)[i]? = some (g i) := by simp [fnA, h]
theorem fnA_set {n : Nat} {g : Nat → Value} (i : Nat) (v : Value) : (fnA n g).setIfInBounds i v = fnA n (fun j => if j = i then v else g j) := by
  apply Array.ext_getElem?
  intro j
  rw [Array.getElem?_setIfInBounds, fnA_size]
  by_cases hij : i = j
  · subst hij
    by_cases hi : i < n
    · rw [fnA_get (g := fun j => if j = i then v else g j) hi]; simp [hi]
    · simp [hi, fnA]
  · by_cases hj : j < n
    · rw [fnA_get hj, fnA_get (g := fun j => if j = i then v else g j) hj]; simp [hij, Ne.symm hij]
    · simp [hij, hj, fnA]
theorem fnA_ext {n : Nat} {g g' : Nat → Value} (h : ∀ i, i < n → g i = g' i) : fnA n g = fnA n g' := by
  unfold fnA
  congr 1
  exact List.map_congr_left fun i hi => h i (List.mem_range.1 hi)
/-- A made row's block. -/
theorem made_fn {w : World} {t : TypeId} {z : Value} {base n g : Nat} (hz : z.cells = #[z]) (h : w.ownsRow base t 1 (.slice (some ⟨g, 0, none⟩) n n) n (madeCells z.cells (n * 1)).toList) : w.heap[g]? = some (.cells (fnA n fun _ => z) t (0, 0)) := by
  have h0 : (madeCells z.cells (n * 1)).toList = (fnA n fun _ => z).toList := by
    have h : ∀ i : Nat, z.cells[i % z.cells.size]! = z := fun i => by
      have e : i % z.cells.size = 0 := by rw [hz]; show i % 1 = 0; omega
      rw [e, hz]
      rfl
    unfold madeCells
    simp only [h, Nat.mul_one]
    apply List.ext_getElem?
    intro i
    simp [fnA]
  rcases h.2 with ⟨h1, h2⟩ | ⟨g', cap, cur, h1, hb, hh, hn, hm, hs, ht⟩
  · cases h1
  · cases h1
    rw [hh]
    have e : cur.toList = (fnA n fun _ => z).toList := by
      rw [← h0, ← ht, List.take_of_length_le (by rw [Array.length_toList, hs]; exact Nat.le_refl _)]
    have e2 : cur = fnA n fun _ => z := by rw [← Array.toArray_toList (xs := cur), e]
    rw [e2]
theorem filter_le {α : Type} (l : List α) (f g : α → Bool) (h : ∀ x, f x = true → g x = true) : (l.filter f).length ≤ (l.filter g).length := by
  induction l with
  | nil => exact Nat.le_refl _
  | cons x l ih =>
    simp only [List.filter_cons]
    cases hf : f x
    · cases hg : g x <;> simp <;> omega
    · rw [h x hf]; simp; omega
theorem filter_lt {α : Type} (l : List α) (f g : α → Bool) (h : ∀ x, f x = true → g x = true) (z : α) (hz : z ∈ l) (h1 : f z = false) (h2 : g z = true) : (l.filter f).length < (l.filter g).length := by
  induction l with
  | nil => cases hz
  | cons x l ih =>
    rcases List.mem_cons.1 hz with rfl | hz
    · simp only [List.filter_cons, h1, h2]
      have := filter_le l f g h
      simp; omega
    · have := ih hz
      simp only [List.filter_cons]
      cases hf : f x
      · cases hg : g x <;> simp <;> omega
      · rw [h x hf]; simp; omega
/-- A number that a world has, by a property that holds of one alone. -/
noncomputable def ghost (R : World → Nat → Prop) (w : World) : Nat := open Classical in if h : ∃ k, R w k then Classical.choose h else 0
theorem ghost_eq {R : World → Nat → Prop} {w : World} {k : Nat} (h : R w k) (hu : ∀ k', R w k' → k' = k) : ghost R w = k := by
  unfold ghost
  have he : ∃ k, R w k := ⟨k, h⟩
  rw [dif_pos he]
  exact hu _ (Classical.choose_spec he)
theorem nodup_le' {l : List Nat} {c : Nat} (hn : l.Nodup) (hs : ∀ x ∈ l, x < c) : l.length ≤ c := by
  have := hn.length_le_of_subset (l₂ := List.range c) fun x hx => List.mem_range.2 (hs x hx)
  simpa using this
end Go.Proofs.YtfpfloahkibcgaaGreatDoor
