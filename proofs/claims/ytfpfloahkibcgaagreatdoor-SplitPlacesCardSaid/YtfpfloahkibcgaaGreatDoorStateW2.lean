/- The closure's contract; the rows of a Dfa. -/
import Derived.Test.YtfpfloahkibcgaaGreatDoorStateW
namespace Go.Proofs.YtfpfloahkibcgaaGreatDoor
open Go.RowKit Go.Maps

theorem stAdd_len {all : List Re} {left : Nat} {x : Re} {all' : List Re} {left' q : Nat} (h : stAdd all left x = some (all', left', q)) : all'.length + left' = all.length + left ∧ left' ≤ left ∧ (∀ (i : Nat) y, all[i]? = some y → all'[i]? = some y) ∧ (all' = all ∨ all' = all ++ [x] ∧ x.size ≤ 20000) := by
  unfold stAdd at h
  cases hq : idxK all x with
  | some i =>
    rw [hq] at h
    simp only [Option.some.injEq, Prod.mk.injEq] at h
    obtain ⟨rfl, rfl, rfl⟩ := h
    exact ⟨rfl, Nat.le_refl _, fun _ _ h => h, .inl rfl⟩
  | none =>
    rw [hq] at h
    simp only at h
    split at h
    · cases h
    · split at h
      · cases h
      · next h1 h2 =>
        simp only [Option.some.injEq, Prod.mk.injEq] at h
        obtain ⟨rfl, rfl, rfl⟩ := h
        refine ⟨by simp; omega, by omega, fun i y hi => ?_, .inr ⟨rfl, by omega⟩⟩
        rw [List.getElem?_append_left (List.getElem?_eq_some_iff.1 hi).1]
        exact hi
theorem state_any (w : World) (p : Pl) (all : List Re) (left used : Nat) (f : Nat → Nat) (vh vn : Value) (os : List (Option Nat)) (va vy : Value) (bs : List Nat) (h : StAt w p all left used f vh vn os va vy bs)
    (x : Re) (bx : Nat) (hx : ReAt w (XD p va vy os) x bx) (hsz : x.size ≤ 549755813888) (hbud : left + used ≤ 4611686018427387904) (hlen : all.length ≤ 1000000) :
    Calls Tryz.prog 108 #[ptr bx, ptr p.bM, ptr p.bB, ptr p.bA, ptr p.bD] w (StRet w p all left used f vh vn os va vy x) := by
  have hXB : XS p va vy p.B := .inl rfl
  cases hq : idxK all x with
  | some q =>
    refine (state_yes w p all left used f vh vn os va vy bs h x bx hx hsz q hq).mono fun e w' hh => ?_
    obtain ⟨rfl, rfl⟩ := hh
    refine ⟨KeepX.drewN w 1, ?_⟩
    have e : stAdd all left x = some (all, left, q) := by unfold stAdd; rw [hq]
    rw [e]
    exact ⟨rfl, va, vy, bs, by rw [Nat.sub_self, Nat.add_zero]; exact h.below (below_drewN _ _ _)⟩
  | none =>
    by_cases hb : 20000 < x.size
    · refine (state_big w p all left used f vh vn os va vy bs h x bx hx hsz hq hb).mono fun e w' hh => ?_
      obtain ⟨rfl, rfl⟩ := hh
      have e : stAdd all left x = none := by unfold stAdd; rw [hq]; simp only; rw [if_pos hb]
      refine ⟨KeepX.drewN w 1, ?_⟩
      rw [e]
      exact ⟨⟨0, rfl⟩, left, h.hB⟩
    · by_cases hl : left = 0
      · subst hl
        refine (state_out w p all used f vh vn os va vy bs h x bx hx hq (by omega)).mono fun e w' hh => ?_
        obtain ⟨rfl, rfl⟩ := hh
        have e : stAdd all 0 x = none := by unfold stAdd; rw [hq]; simp only; rw [if_neg hb, if_pos trivial]
        refine ⟨(KeepX.drewN (X := XS p va vy) w 1).trans (KeepX.set_ (X := XS p va vy) _ ⟨p.B, 0, none⟩ _ hXB) fun _ _ h => h, ?_⟩
        rw [e]
        exact ⟨⟨0, rfl⟩, 0, BudAt.set0 (w := w.drewN 1) h.hB 0⟩
      · refine (state_new w p all left used f vh vn os va vy bs h x bx hx hq (by omega) (by omega) hbud hlen).mono fun e w' hh => ?_
        obtain ⟨rfl, hk, hs⟩ := hh
        have e : stAdd all left x = some (all ++ [x], left - 1, all.length) := by unfold stAdd; rw [hq]; simp only; rw [if_neg hb, if_neg hl]
        refine ⟨hk, ?_⟩
        rw [e]
        refine ⟨rfl, ?_⟩
        have e2 : used + (left - (left - 1)) = used + 1 := by omega
        rw [e2]
        exact hs
/-- One state's row. -/
def rowGo (r : Re) : List Nat → List Re → Nat → List Nat → Option (List Re × Nat × List Nat)
  | [], all, left, row => some (all, left, row)
  | h :: hs, all, left, row => match stAdd all left (byR h r) with
    | none => none
    | some (all', left', q) => rowGo r hs all' left' (row ++ [q])
/-- The states behind number q. -/
def buildGo (hs : List Nat) : Nat → Nat → List Re → Nat → List (List Nat) → Option (List Re × List (List Nat) × Nat)
  | 0, _, _, _, _ => none
  | fuel + 1, q, all, left, nx => match all[q]? with
    | none => some (all, nx, left)
    | some r => match rowGo r hs all left [] with
      | none => none
      | some (all', left', row) => buildGo hs fuel (q + 1) all' left' (nx ++ [row])
/-- dfa.Build: the states, their rows, what is left of the budget. -/
def buildR (hs : List Nat) (r : Re) (left : Nat) : Option (List Re × List (List Nat) × Nat) := match stAdd [] left r with
  | none => none
  | some (all, left', _) => buildGo hs (left + 1) 0 all left' []
end Go.Proofs.YtfpfloahkibcgaaGreatDoor
