/- Plain: with more granted the same states are made; with as many as there are, too; with less none. -/
import Derived.Test.YtaplejpjmaocdaaGreatDoorDfaPlain
namespace Go.Proofs.YtaplejpjmaocdaaGreatDoor
open Go.RowKit Go.Maps

theorem stAdd_up {all : List Re} {l : Nat} {x : Re} {a : List Re} {l' q : Nat} (h : stAdd all l x = some (a, l', q)) (d : Nat) : stAdd all (l + d) x = some (a, l' + d, q) := by
  unfold stAdd at h ⊢
  cases hq : idxK all x with
  | some i =>
    rw [hq] at h
    simp only [Option.some.injEq, Prod.mk.injEq] at h ⊢
    exact ⟨h.1, by omega, h.2.2⟩
  | none =>
    rw [hq] at h
    simp only at h ⊢
    split at h
    · cases h
    · next h1 =>
      split at h
      · cases h
      · next h2 =>
        rw [if_neg h1, if_neg (by omega)]
        simp only [Option.some.injEq, Prod.mk.injEq] at h ⊢
        exact ⟨h.1, by omega, h.2.2⟩
theorem stAdd_down {all : List Re} {l d : Nat} {x : Re} {a : List Re} {l' q : Nat} (h : stAdd all (l + d) x = some (a, l' + d, q)) : stAdd all l x = some (a, l', q) := by
  unfold stAdd at h ⊢
  cases hq : idxK all x with
  | some i =>
    rw [hq] at h
    simp only [Option.some.injEq, Prod.mk.injEq] at h ⊢
    exact ⟨h.1, by omega, h.2.2⟩
  | none =>
    rw [hq] at h
    simp only at h ⊢
    split at h
    · cases h
    · next h1 =>
      split at h
      · cases h
      · next h2 =>
        simp only [Option.some.injEq, Prod.mk.injEq] at h
        rw [if_neg h1, if_neg (by omega)]
        simp only [Option.some.injEq, Prod.mk.injEq]
        exact ⟨h.1, by omega, h.2.2⟩
theorem rowGo_up {r : Re} (d : Nat) : ∀ {hs : List Nat} {all : List Re} {l : Nat} {row : List Nat} {a : List Re} {l' : Nat} {row' : List Nat}, rowGo r hs all l row = some (a, l', row') → rowGo r hs all (l + d) row = some (a, l' + d, row')
  | [], all, l, row, a, l', row', h => by
    simp only [rowGo, Option.some.injEq, Prod.mk.injEq] at h ⊢
    exact ⟨h.1, by omega, h.2.2⟩
  | x :: hs, all, l, row, a, l', row', h => by
    unfold rowGo at h ⊢
    cases hq : stAdd all l (byR x r) with
    | none => rw [hq] at h; cases h
    | some t =>
      obtain ⟨a1, l1, q⟩ := t
      rw [hq] at h
      rw [stAdd_up hq d]
      exact rowGo_up d h
theorem rowGo_down {r : Re} (d : Nat) : ∀ {hs : List Nat} {all : List Re} {l : Nat} {row : List Nat} {a : List Re} {l' : Nat} {row' : List Nat}, rowGo r hs all (l + d) row = some (a, l' + d, row') → rowGo r hs all l row = some (a, l', row')
  | [], all, l, row, a, l', row', h => by
    simp only [rowGo, Option.some.injEq, Prod.mk.injEq] at h ⊢
    exact ⟨h.1, by omega, h.2.2⟩
  | x :: hs, all, l, row, a, l', row', h => by
    unfold rowGo at h ⊢
    cases hq : stAdd all (l + d) (byR x r) with
    | none => rw [hq] at h; cases h
    | some t =>
      obtain ⟨a1, l1, q⟩ := t
      rw [hq] at h
      have hl := (rowGo_len h).2.1
      obtain ⟨m, rfl⟩ : ∃ m, l1 = m + d := ⟨l1 - d, by omega⟩
      rw [stAdd_down hq]
      exact rowGo_down d h
theorem buildGo_up {hs : List Nat} (d k : Nat) : ∀ {fuel q : Nat} {all : List Re} {l : Nat} {nx : List (List Nat)} {a : List Re} {nx' : List (List Nat)} {l' : Nat}, buildGo hs fuel q all l nx = some (a, nx', l') → buildGo hs (fuel + k) q all (l + d) nx = some (a, nx', l' + d)
  | 0, q, all, l, nx, a, nx', l', h => by cases h
  | fuel + 1, q, all, l, nx, a, nx', l', h => by
    rw [show fuel + 1 + k = fuel + k + 1 by omega]
    unfold buildGo at h ⊢
    cases hx : all[q]? with
    | none =>
      rw [hx] at h
      simp only [Option.some.injEq, Prod.mk.injEq] at h ⊢
      exact ⟨h.1, h.2.1, by omega⟩
    | some r =>
      rw [hx] at h
      simp only at h ⊢
      cases hr : rowGo r hs all l [] with
      | none => rw [hr] at h; cases h
      | some t =>
        obtain ⟨a1, l1, row⟩ := t
        rw [hr] at h
        rw [rowGo_up d hr]
        exact buildGo_up d k h
theorem buildGo_mono {hs : List Nat} : ∀ {fuel q : Nat} {all : List Re} {l : Nat} {nx : List (List Nat)} {a : List Re} {nx' : List (List Nat)} {l' : Nat}, buildGo hs fuel q all l nx = some (a, nx', l') → l' ≤ l ∧ all.length ≤ a.length
  | 0, q, all, l, nx, a, nx', l', h => by cases h
  | fuel + 1, q, all, l, nx, a, nx', l', h => by
    unfold buildGo at h
    cases hx : all[q]? with
    | none =>
      rw [hx] at h
      simp only [Option.some.injEq, Prod.mk.injEq] at h
      obtain ⟨rfl, rfl, rfl⟩ := h
      exact ⟨Nat.le_refl _, Nat.le_refl _⟩
    | some r =>
      rw [hx] at h
      simp only at h
      cases hr : rowGo r hs all l [] with
      | none => rw [hr] at h; cases h
      | some t =>
        obtain ⟨a1, l1, row⟩ := t
        rw [hr] at h
        have h1 := buildGo_mono h
        have h2 := rowGo_len hr
        omega
theorem buildGo_down {hs : List Nat} (d : Nat) : ∀ {fuel f' q : Nat} {all : List Re} {l : Nat} {nx : List (List Nat)} {a : List Re} {nx' : List (List Nat)} {l' : Nat}, buildGo hs fuel q all (l + d) nx = some (a, nx', l' + d) → q ≤ all.length → a.length < q + f' → buildGo hs f' q all l nx = some (a, nx', l')
  | 0, f', q, all, l, nx, a, nx', l', h, _, _ => by cases h
  | fuel + 1, f', q, all, l, nx, a, nx', l', h, hq, hf => by
    have hm := (buildGo_mono h).2
    obtain ⟨f, rfl⟩ : ∃ f, f' = f + 1 := ⟨f' - 1, by omega⟩
    unfold buildGo at h ⊢
    cases hx : all[q]? with
    | none =>
      rw [hx] at h
      simp only [Option.some.injEq, Prod.mk.injEq] at h ⊢
      exact ⟨h.1, h.2.1, by omega⟩
    | some r =>
      rw [hx] at h
      simp only at h ⊢
      cases hr : rowGo r hs all (l + d) [] with
      | none => rw [hr] at h; cases h
      | some t =>
        obtain ⟨a1, l1, row⟩ := t
        rw [hr] at h
        have h1 := buildGo_mono h
        have h2 := rowGo_len hr
        have hql : q < all.length := (List.getElem?_eq_some_iff.1 hx).1
        obtain ⟨m, rfl⟩ : ∃ m, l1 = m + d := ⟨l1 - d, by omega⟩
        rw [rowGo_down d hr]
        exact buildGo_down d h (by omega) (by omega)
theorem buildR_up {hs : List Nat} {r : Re} {l : Nat} {a : List Re} {nx : List (List Nat)} {l' : Nat} (h : buildR hs r l = some (a, nx, l')) (d : Nat) : buildR hs r (l + d) = some (a, nx, l' + d) := by
  unfold buildR at h ⊢
  cases hq : stAdd [] l r with
  | none => rw [hq] at h; cases h
  | some t =>
    obtain ⟨a1, l1, q⟩ := t
    rw [hq] at h
    rw [stAdd_up hq d, show l + d + 1 = l + 1 + d by omega]
    exact buildGo_up d d h
/-- WITH AS MANY AS THERE ARE, AND WITH LESS. -/
theorem buildR_exact {hs : List Nat} {r : Re} {l : Nat} {all : List Re} {nx : List (List Nat)} {l' : Nat} (h : buildR hs r l = some (all, nx, l')) : buildR hs r all.length = some (all, nx, 0) ∧ ∀ k, k < all.length → buildR hs r k = none := by
  have hlen := (build_ok h).2.2.2
  refine ⟨?_, fun k hk => ?_⟩
  · subst hlen
    unfold buildR at h ⊢
    cases hq : stAdd [] (all.length + l') r with
    | none => rw [hq] at h; cases h
    | some t =>
      obtain ⟨a1, l1, q⟩ := t
      rw [hq] at h
      have h1 := buildGo_mono h
      obtain ⟨m, rfl⟩ : ∃ m, l1 = m + l' := ⟨l1 - l', by omega⟩
      rw [stAdd_down hq]
      refine buildGo_down l' (l' := 0) (by simpa using h) (Nat.zero_le _) (by omega)
  · cases hb : buildR hs r k with
    | none => rfl
    | some t =>
      obtain ⟨a2, n2, l2⟩ := t
      have h2 := (build_ok hb).2.2.2
      have h3 := buildR_up hb (l - k)
      rw [show k + (l - k) = l by omega, h] at h3
      simp only [Option.some.injEq, Prod.mk.injEq] at h3
      obtain ⟨rfl, -, -⟩ := h3
      omega
/-- The known expressions are told apart by their keys. -/
def Dis (all : List Re) : Prop := ∀ (i j : Nat) (y z : Re), all[i]? = some y → all[j]? = some z → y.key = z.key → i = j
theorem Dis.one (r : Re) : Dis [r] := fun i j y z h1 h2 _ => by
  have := (List.getElem?_eq_some_iff.1 h1).1
  have := (List.getElem?_eq_some_iff.1 h2).1
  simp at *
  omega
/-- Where an expression was met last among the first ones. -/
def LastAt (all : List Re) (x : Re) (k : Nat) (to : Int) : Prop := (to = -1 ∧ ∀ (i : Nat) y, i < k → all[i]? = some y → y.key ≠ x.key) ∨ ∃ (i : Nat) (y : Re), to = i ∧ i < k ∧ all[i]? = some y ∧ y.key = x.key
theorem LastAt.start (all : List Re) (x : Re) : LastAt all x 0 (-1) := .inl ⟨rfl, fun i y h => by omega⟩
theorem LastAt.yes {all : List Re} {x y : Re} {k : Nat} (hy : all[k]? = some y) (hk : y.key = x.key) : LastAt all x (k + 1) k := .inr ⟨k, y, rfl, Nat.lt_succ_self k, hy, hk⟩
theorem LastAt.no {all : List Re} {x y : Re} {k : Nat} {to : Int} (h : LastAt all x k to) (hy : all[k]? = some y) (hk : y.key ≠ x.key) : LastAt all x (k + 1) to := by
  rcases h with ⟨h1, h2⟩ | ⟨i, z, h1, h2, h3, h4⟩
  · refine .inl ⟨h1, fun i z hi hz => ?_⟩
    by_cases e : i = k
    · subst e
      rw [hy] at hz
      cases hz
      exact hk
    · exact h2 i z (by omega) hz
  · exact .inr ⟨i, z, h1, by omega, h3, h4⟩
theorem LastAt.done {all : List Re} {x : Re} {to : Int} (hd : Dis all) (h : LastAt all x all.length to) : (to = -1 ∧ idxK all x = none) ∨ ∃ i : Nat, to = i ∧ i < all.length ∧ idxK all x = some i := by
  rcases h with ⟨h1, h2⟩ | ⟨i, z, h1, h2, h3, h4⟩
  · refine .inl ⟨h1, ?_⟩
    cases hq : idxK all x with
    | none => rfl
    | some j =>
      obtain ⟨y, hy, hk⟩ := idxK_some hq
      exact absurd hk (h2 j y (List.getElem?_eq_some_iff.1 hy).1 hy)
  · refine .inr ⟨i, h1, h2, ?_⟩
    have ha : (all.any fun y => y.key == x.key) = true := List.any_eq_true.2 ⟨z, List.mem_of_getElem? h3, by simp [h4]⟩
    rw [idxK_any] at ha
    cases hq : idxK all x with
    | none => rw [hq] at ha; cases ha
    | some j =>
      obtain ⟨y, hy, hk⟩ := idxK_some hq
      rw [hd i j z y h3 hy (h4.trans hk.symm)]
theorem Dis.add {all : List Re} {x : Re} (h : Dis all) (hx : idxK all x = none) : Dis (all ++ [x]) := by
  have hno : ∀ (i : Nat) y, all[i]? = some y → y.key ≠ x.key := fun i y hy hk => by
    have ha : (all.any fun y => y.key == x.key) = true := List.any_eq_true.2 ⟨y, List.mem_of_getElem? hy, by simp [hk]⟩
    rw [idxK_any, hx] at ha
    cases ha
  have hcase : ∀ (i : Nat) y, (all ++ [x])[i]? = some y → all[i]? = some y ∨ i = all.length ∧ y = x := fun i y hy => by
    by_cases hi : i < all.length
    · rw [List.getElem?_append_left hi] at hy
      exact .inl hy
    · rw [List.getElem?_append_right (by omega)] at hy
      have hi0 : i - all.length = 0 := by
        have := (List.getElem?_eq_some_iff.1 hy).1
        simp at this
        omega
      rw [hi0] at hy
      exact .inr ⟨by omega, by simpa using hy.symm⟩
  intro i j y z hy hz hk
  rcases hcase i y hy with h1 | ⟨h1, rfl⟩ <;> rcases hcase j z hz with h2 | ⟨h2, rfl⟩
  · exact h i j y z h1 h2 hk
  · exact absurd hk (hno i y h1)
  · exact absurd hk.symm (hno j z h2)
  · omega
end Go.Proofs.YtaplejpjmaocdaaGreatDoor
