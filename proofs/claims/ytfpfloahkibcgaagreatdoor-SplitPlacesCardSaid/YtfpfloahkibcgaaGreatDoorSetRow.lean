/- Rows of sets: how they lie in memory; append. -/
import Derived.Test.YtfpfloahkibcgaaGreatDoorMatchW
namespace Go.Proofs.YtfpfloahkibcgaaGreatDoor
open Go.RowKit

/-- The cells of a set, of sets. -/
def c4 (s : CSet) : List Value := [.int .u64 s.a.toNat, .int .u64 s.b.toNat, .int .u64 s.c.toNat, .int .u64 s.d.toNat]
def cellsC (xs : List CSet) : List Value := xs.flatMap c4
theorem cellsC_len (xs : List CSet) : (cellsC xs).length = xs.length * 4 := by
  induction xs with
  | nil => rfl
  | cons s l ih => simp only [cellsC, List.flatMap_cons, List.length_append, List.length_cons] at *; rw [ih]; simp [c4]; omega
theorem cellsC_append (xs ys : List CSet) : cellsC (xs ++ ys) = cellsC xs ++ cellsC ys := by simp [cellsC]
theorem cellsC_get {xs : List CSet} {k : Nat} {s : CSet} (h : xs[k]? = some s) : ∀ r, r < 4 → (cellsC xs)[k * 4 + r]? = (c4 s)[r]? := by
  induction xs generalizing k with
  | nil => simp at h
  | cons x l ih =>
    intro r hr
    have e : cellsC (x :: l) = c4 x ++ cellsC l := by simp [cellsC]
    rw [e]
    cases k with
    | zero =>
      have hx : x = s := by simpa using h
      subst hx
      rw [List.getElem?_append_left (by simp [c4]; omega)]
      simp
    | succ k =>
      rw [List.getElem?_append_right (by simp [c4]; omega)]
      have := ih (k := k) (by simpa using h) r hr
      rw [← this]
      congr 1
      simp [c4]; omega
/-- The slice value '.slice A n c' holds the sets xs. -/
def RdC (w : World) (A : Option Addr) (n : Nat) (xs : List CSet) : Prop :=
  xs.length = n ∧ (0 < n → ∃ g o, A = some ⟨g, o, none⟩ ∧ g < w.heap.size ∧ ∀ j u, (cellsC xs)[j]? = some u → w.cell? ⟨g, o + j, none⟩ = some u)
theorem RdC.nil {w : World} {A : Option Addr} : RdC w A 0 [] := ⟨rfl, fun h => absurd h (by omega)⟩
theorem RdC.below {w w' : World} {A : Option Addr} {n : Nat} {xs : List CSet} (h : RdC w A n xs) (hk : Below w.heap.size w w') : RdC w' A n xs := by
  refine ⟨h.1, fun hn => ?_⟩
  obtain ⟨g, o, e, hg, hc⟩ := h.2 hn
  exact ⟨g, o, e, Nat.lt_of_lt_of_le hg hk.size, fun j u hu => (hk.cell (p := ⟨g, o + j, none⟩) hg).trans (hc j u hu)⟩
theorem RdC.at_ {w : World} {A : Option Addr} {n : Nat} {xs : List CSet} (h : RdC w A n xs) {k : Nat} (hk : k < n) :
    ∃ g o s, A = some ⟨g, o, none⟩ ∧ xs[k]? = some s ∧ g < w.heap.size ∧ w.cell? ⟨g, o + k * 4, none⟩ = some (.int .u64 s.a.toNat) ∧ w.cell? ⟨g, o + k * 4 + 1, none⟩ = some (.int .u64 s.b.toNat) ∧
      w.cell? ⟨g, o + k * 4 + 2, none⟩ = some (.int .u64 s.c.toNat) ∧ w.cell? ⟨g, o + k * 4 + 3, none⟩ = some (.int .u64 s.d.toNat) := by
  obtain ⟨g, o, e, hg, hc⟩ := h.2 (by omega)
  have hx : xs[k]? = some (xs[k]'(by have := h.1; omega)) := List.getElem?_eq_getElem _
  have hr : ∀ r, r < 4 → w.cell? ⟨g, o + k * 4 + r, none⟩ = (c4 (xs[k]'(by have := h.1; omega)))[r]? := fun r hr => by
    have h1 := cellsC_get hx r hr
    obtain ⟨u, hu⟩ : ∃ u, (c4 (xs[k]'(by have := h.1; omega)))[r]? = some u := ⟨_, List.getElem?_eq_getElem (show r < (c4 (xs[k]'(by have := h.1; omega))).length from hr)⟩
    rw [hu] at h1 ⊢
    rw [Nat.add_assoc]
    exact hc _ u h1
  exact ⟨g, o, _, e, hx, hg, (hr 0 (by omega)).trans rfl, (hr 1 (by omega)).trans rfl, (hr 2 (by omega)).trans rfl, (hr 3 (by omega)).trans rfl⟩
/-- The call's own row of sets. -/
def OwnC (w : World) (base : Nat) (v : Value) (xs : List CSet) : Prop := w.ownsRow base 87 4 v xs.length (cellsC xs)
theorem OwnC.nil (w : World) (base : Nat) : OwnC w base (.slice none 0 0) [] := World.ownsRow_nil w base _ 4
theorem OwnC.kept {w w' : World} {base : Nat} {v : Value} {xs : List CSet} (h : OwnC w base v xs) (hk : Below w.heap.size w w') : OwnC w' base v xs := by
  unfold OwnC at h ⊢
  refine h.kept (row := none) ⟨hk.os, hk.tape, hk.output, hk.size, fun k hk' _ => hk.block k hk'⟩ ?_
  cases hv : v.ownBlock <;> simp
theorem OwnC.form {w : World} {base : Nat} {v : Value} {xs : List CSet} (h : OwnC w base v xs) : ∃ A c, v = .slice A xs.length c := by
  unfold OwnC at h
  rcases h.2 with ⟨h1, h2⟩ | ⟨g, cap, cur, h1, _⟩
  · exact ⟨none, 0, by rw [h1, h2]⟩
  · exact ⟨_, _, h1⟩
theorem OwnC.lt {w : World} {base : Nat} {v : Value} {xs : List CSet} (h : OwnC w base v xs) : ∀ k, v.ownBlock = some k → base ≤ k ∧ k < w.heap.size := World.ownsRow.lt h
theorem OwnC.rd {w : World} {base : Nat} {A : Option Addr} {n c : Nat} {xs : List CSet} (h : OwnC w base (.slice A n c) xs) : n = xs.length ∧ CapOk n A c ∧ RdC w A n xs := by
  unfold OwnC at h
  rcases h.2 with ⟨h1, h2⟩ | ⟨g, cap, cur, h1, hb, hh, hn, hm, hs, ht⟩
  · cases h1
    exact ⟨h2.symm, ⟨Nat.le_refl _, fun _ => rfl⟩, h2, fun h => absurd h (by omega)⟩
  · cases h1
    refine ⟨rfl, ⟨hn, fun h => by cases h⟩, rfl, fun _ => ⟨g, 0, rfl, lt_of_heap hh, fun j u hu => ?_⟩⟩
    rw [cell_of_row w g (0 + j) _ _ _ hh, Nat.zero_add, ← hu, ← ht]
    have hj : j < xs.length * 4 := by
      have := (List.getElem?_eq_some_iff.1 hu).1
      rwa [cellsC_len] at this
    rw [List.getElem?_take, if_pos hj, Array.getElem?_toList]
theorem OwnC.mono {w : World} {base base' : Nat} {v : Value} {xs : List CSet} (h : OwnC w base v xs) (hb : base' ≤ base) : OwnC w base' v xs := by
  unfold OwnC at h ⊢
  refine ⟨h.1, ?_⟩
  rcases h.2 with h2 | ⟨g, cap, cur, h1, hb', hr⟩
  · exact .inl h2
  · exact .inr ⟨g, cap, cur, h1, Nat.le_trans hb hb', hr⟩
theorem OwnC.below {w wr w2 : World} {v : Value} {xs : List CSet} (hb : Below w.heap.size w wr) (ho : OwnC wr w.heap.size v xs) (hg : wr.grownBy w2 v.ownBlock) : Below w.heap.size w w2 :=
  ⟨hg.os.trans hb.os, hg.tape.trans hb.tape, hg.output.trans hb.output, Nat.le_trans hb.size hg.size, fun k hk => (hg.block k (Nat.lt_of_lt_of_le hk hb.size) (fun e => by have := (ho.lt k e.symm).1; omega)).trans (hb.block k hk)⟩
theorem OwnC.one (w : World) (s : CSet) (base : Nat) (hb : base ≤ w.heap.size) : OwnC (w.alloc (.cells #[.int .u64 s.a.toNat, .int .u64 s.b.toNat, .int .u64 s.c.toNat, .int .u64 s.d.toNat] 87)) base (.slice (some ⟨w.heap.size, 0, none⟩) 1 1) [s] :=
  World.ownsRow_lit w #[.int .u64 s.a.toNat, .int .u64 s.b.toNat, .int .u64 s.c.toNat, .int .u64 s.d.toNat] 1 hb (by decide) rfl
theorem info_set : (Tryz.prog.info? 87).map (fun i => (i.zero, i.size, i.bytes)) = some (some (.agg #[.int .u64 0, .int .u64 0, .int .u64 0, .int .u64 0]), 4, 32) := by kernel_rfl
theorem wpList_app_set {ops : Array Oper} {rest : List Oper} {o : Oper} {a : Act} {Q : Exit → Act → World → Prop} (w : World) (hgd : o.guard = none) (s x : Operand)
    (ho : o.op = .call { callee := .builtin .append, args := #[s, x], argTypes := #[53, 53] })
    (base : Nat) (v : Value) (xs : List CSet) (hs : a.eval s = v) (hown : OwnC w base v xs)
    (A : Option Addr) (n c : Nat) (ys : List CSet) (hx : a.eval x = .slice A n c) (hr : RdC w A n ys) (hc0 : A = none → c = 0)
    (hn : xs.length + ys.length ≤ 1099511627776) (hbase : base ≤ w.heap.size)
    (h : ∀ v' w', OwnC w' base v' (xs ++ ys) → w.grownBy w' v.ownBlock → wpList Tryz.prog ops Q rest (a.put o.dst v') w') :
    wpList Tryz.prog ops Q (o :: rest) a w := by
  have hnl : ys.length = n := hr.1
  obtain ⟨i0, hi, hz0, hz1, hz2⟩ := info_parts info_set
  cases A with
  | none =>
    have h0 : n = 0 := by
      rcases Nat.eq_zero_or_pos n with h | h
      · exact h
      · obtain ⟨_, _, e, _⟩ := hr.2 h
        cases e
    subst h0
    have hcs : ys = [] := List.eq_nil_of_length_eq_zero hnl
    subst hcs
    obtain rfl := hc0 rfl
    refine wpList_append_own_none hgd s x 53 ho base 87 i0 4 Tryz.underlying53 hi v _ _ hs hown hx ?_
    exact h v w (by simpa using hown) (World.grownBy.refl w _)
  | some ad =>
    refine wpList_append_own_at w hgd s x 53 ho base 87 i0 _ 4 32 Tryz.underlying53 hi hz0 hz1 hz2 rfl (by decide) v _ _ hs hown ad n c (cellsC ys) hx (by rw [cellsC_len, hnl]) ?_ ?_ ?_ ?_ hbase ?_
    · intro j u hj
      have hj' := (List.getElem?_eq_some_iff.1 hj).1
      rw [cellsC_len] at hj'
      obtain ⟨g, o', e, _, hc⟩ := hr.2 (by omega)
      cases e
      have := hc j u hj
      unfold Addr.add
      by_cases h0 : j = 0
      · subst h0; simpa using this
      · simpa [h0] using this
    · intro u hu
      simp only [cellsC, List.mem_flatMap] at hu
      obtain ⟨s, -, hs⟩ := hu
      simp only [c4, List.mem_cons, List.not_mem_nil, or_false] at hs
      rcases hs with e | e | e | e <;> rw [e] <;> rfl
    · unfold maxLen; omega
    · omega
    · intro v' w' h1 h2 _ _
      exact h v' w' (by unfold OwnC; rw [cellsC_append, List.length_append, hnl]; exact h1) h2
/-- What a call that makes a row of sets comes to. -/
def RetSets (w : World) (xs : List CSet) (e : Ending) (w' : World) : Prop := ∃ v, e = .returned v ∧ OwnC w' w.heap.size v xs ∧ Below w.heap.size w w'
end Go.Proofs.YtfpfloahkibcgaaGreatDoor
