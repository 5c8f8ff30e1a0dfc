/- The walks of deriv.Sets and of law 05's sets. -/
import Derived.Test.YtfpfloahkibcgaaGreatDoorSetRow
namespace Go.Proofs.YtfpfloahkibcgaaGreatDoor
open Go.RowKit

/-- All sets of an expression, from the left on. -/
def setsR : Re → List CSet
  | .cls s => [s]
  | .cat l => setsL l
  | .or l => setsL l
  | .star x => setsR x
  | .and l => setsL l
  | .minus x y => setsR x ++ setsR y
  | _ => []
where setsL : List Re → List CSet
  | [] => []
  | r :: l => setsR r ++ setsL l
theorem setsL_eq (l : List Re) : setsR.setsL l = l.flatMap setsR := by
  induction l with
  | nil => rfl
  | cons r l ih => rw [setsR.setsL, ih, List.flatMap_cons]
theorem setsR_kids {r : Re} (h : r.op ≠ 2) : setsR r = r.kids.flatMap setsR := by
  cases r with
  | cls s => exact absurd rfl h
  | none => rfl
  | eps => rfl
  | cat l => rw [setsR, setsL_eq]; rfl
  | or l => rw [setsR, setsL_eq]; rfl
  | and l => rw [setsR, setsL_eq]; rfl
  | star x => rw [setsR]; simp [Re.kids]
  | minus x y => rw [setsR]; simp [Re.kids]
theorem setsR_len (r : Re) : (setsR r).length ≤ r.size := by
  induction r using Re.ind_ with
  | h r ih =>
    by_cases h2 : r.op = 2
    · obtain ⟨s, rfl⟩ := op_two h2
      simp [setsR, Re.size]
    · rw [setsR_kids h2, Re.size_kids]
      have : ∀ l : List Re, (∀ k ∈ l, (setsR k).length ≤ k.size) → (l.flatMap setsR).length ≤ Re.sizes l := fun l => by
        induction l with
        | nil => intro _; simp
        | cons r l ihl =>
          intro h
          have h1 := h r (List.mem_cons_self ..)
          have h2 := ihl fun k hk => h k (List.mem_cons_of_mem _ hk)
          simp only [List.flatMap_cons, List.length_append, Re.sizes]
          omega
      have := this r.kids ih
      omega
theorem sets_take {l : List Re} {k : Nat} {x : Re} (hx : l[k]? = some x) : (l.take (k + 1)).flatMap setsR = (l.take k).flatMap setsR ++ setsR x := by
  obtain ⟨l1, e1⟩ := List.getElem?_eq_some_iff.1 hx
  rw [List.take_succ_eq_append_getElem l1, e1, List.flatMap_append]
  simp
theorem sets_take_len (l : List Re) (k : Nat) : ((l.take k).flatMap setsR).length ≤ Re.sizes l := by
  have h1 : ∀ l : List Re, (l.flatMap setsR).length ≤ Re.sizes l := fun l => by
    induction l with
    | nil => simp
    | cons r l ih =>
      have := setsR_len r
      simp only [List.flatMap_cons, List.length_append, Re.sizes]
      omega
  exact Nat.le_trans (h1 _) (Re.sizes_take l k)

end Go.Proofs.YtfpfloahkibcgaaGreatDoor
