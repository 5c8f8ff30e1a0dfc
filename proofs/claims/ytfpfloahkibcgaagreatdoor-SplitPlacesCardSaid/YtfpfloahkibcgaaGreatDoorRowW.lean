/- The rows of a Dfa's states: how they lie while they are made. -/
import Derived.Test.YtfpfloahkibcgaaGreatDoorBuildW
import Derived.Test.YtfpfloahkibcgaaGreatDoorLiveP
namespace Go.Proofs.YtfpfloahkibcgaaGreatDoor
open Go.RowKit Go.Maps

/-- A row of n numbers of which the first ones are written. -/
def rowA (n : Nat) (row : List Nat) : Array Value := ((row ++ List.replicate (n - row.length) 0).map fun (x : Nat) => Value.int .i64 (x : Int)).toArray
theorem rowA_size {n : Nat} {row : List Nat} (h : row.length ≤ n) : (rowA n row).size = n := by simp [rowA]; omega
theorem rowA_get {n i : Nat} {row : List Nat} (h : i < row.length) : (rowA n row)[i]? = some (.int .i64 (row.getD i 0 : Nat)) := by
  unfold rowA
  rw [List.getElem?_toArray, List.getElem?_map, List.getElem?_append_left h, List.getD_eq_getElem?_getD, List.getElem?_eq_getElem h]
  rfl
theorem rowA_some {n i : Nat} {row : List Nat} (h : i < n) (hr : row.length ≤ n) : ∃ v, (rowA n row)[i]? = some v := ⟨_, Array.getElem?_eq_getElem (by rw [rowA_size hr]; exact h)⟩
theorem rowA_set {n q : Nat} {row : List Nat} (h : row.length < n) : (rowA n row).setIfInBounds row.length (.int .i64 (q : Int)) = rowA n (row ++ [q]) := by
  have e : n - row.length = (n - (row ++ [q]).length) + 1 := by simp; omega
  apply Array.ext_getElem?
  intro i
  rw [Array.getElem?_setIfInBounds, rowA_size (Nat.le_of_lt h)]
  unfold rowA
  rw [List.getElem?_toArray, List.getElem?_toArray, List.getElem?_map, List.getElem?_map, e, List.replicate_succ]
  by_cases hi : row.length = i
  · subst hi
    rw [if_pos rfl, if_pos h]
    simp
  · rw [if_neg hi]
    rcases Nat.lt_or_gt_of_ne hi with hl | hl
    · rw [List.getElem?_append_right (Nat.le_of_lt hl), List.append_assoc, List.getElem?_append_right (Nat.le_of_lt hl)]
      obtain ⟨d, hd⟩ : ∃ d, i - row.length = d + 1 := ⟨i - row.length - 1, by omega⟩
      rw [hd]
      rfl
    · rw [List.getElem?_append_left hl, List.append_assoc, List.getElem?_append_left hl]
theorem rowA_nil (n : Nat) : (rowA n []).toList = (madeCells (Value.int .i64 0).cells (n * 1)).toList := by
  have h : ∀ i : Nat, (Value.int .i64 0).cells[i % (Value.int .i64 0).cells.size]! = Value.int .i64 0 := fun i => by
    have e : i % (Value.int .i64 0).cells.size = 0 := by show i % 1 = 0; omega
    rw [e]
    rfl
  unfold madeCells
  simp only [h, Nat.mul_one]
  apply List.ext_getElem?
  intro i
  simp only [rowA, List.nil_append, List.length_nil, Nat.sub_zero, List.map_replicate, Array.toList_map, Array.toList_range, List.getElem?_map, List.getElem?_replicate]
  by_cases hi : i < n
  · rw [if_pos hi, List.getElem?_range hi]; rfl
  · rw [if_neg hi, List.getElem?_eq_none (by simp; omega)]; rfl
section
variable {w w' : World} {p : Pl} {ms all : List Re} {ys : List Bool} {left used : Nat} {f : Nat → Nat} {vh vn : Value} {os : List (Option Nat)} {va vy : Value} {bs : List Nat}
/-- A new block of another row. -/
theorem StG.fresh {g : Nat} (h : StG w p ms all ys left used f vh vn os va vy bs) (hb : Below w.heap.size w w') (hg : w.heap.size ≤ g) (hg' : g < w'.heap.size) : StG w' p ms all ys left used f vh vn (some g :: os) va vy bs :=
  have h2 := h.below hb
  { h2 with
    hels := (h.hels.also (Y := XD p va vy (some g :: os)) fun k e hlt => by
      rcases e with e | e
      · exact .inl e
      · rcases List.mem_cons.1 e with e | e
        · cases e; omega
        · exact .inr e).below hb
    oth := fun k e => by
      rcases List.mem_cons.1 e with e | e
      · cases e
        exact ⟨Nat.le_trans h.o8 hg, hg', fun e => by have := (h.rowA _ e).2; omega, fun e => by have := (h.rowY _ e).2; omega⟩
      · exact h2.oth k e }
/-- Another row is written. -/
theorem StG.osw {g : Nat} (h : StG w p ms all ys left used f vh vn os va vy bs) (hg : some g ∈ os) (hk : KeepX (fun k => k = g) w w') : StG w' p ms all ys left used f vh vn os va vy bs :=
  have o1 := h.o1; have o2 := h.o2; have o3 := h.o3; have o4 := h.o4; have o5 := h.o5; have o6 := h.o6; have o7 := h.o7
  have hgb := (h.oth g hg).1
  { hbM := hk.at_ h.hbM (by omega), hM := h.hM.kept (hk.blk _ h.hM.lt (by omega)), hbB := hk.at_ h.hbB (by omega), hB := hk.at_ h.hB (by omega), hbA := hk.at_ h.hbA (by omega)
    hA := row_blk h.hA fun k e => hk.blk k (h.rowA k e).2 (fun e2 => (h.oth g hg).2.2.1 (by rw [← e2]; exact e))
    hels := h.hels.keep hk.keeps fun k e => .inr (by rw [e]; exact hg)
    hbD := hk.at_ h.hbD (by omega), hD := hk.at_ h.hD (by omega)
    hY := row_blk h.hY fun k e => hk.blk k (h.rowY k e).2 (fun e2 => (h.oth g hg).2.2.2 (by rw [← e2]; exact e))
    o1 := o1, o2 := o2, o3 := o3, o4 := o4, o5 := o5, o6 := o6, o7 := o7, o8 := Nat.le_trans h.o8 hk.size, ne := h.ne
    oth := fun k e => ⟨(h.oth k e).1, Nat.lt_of_lt_of_le (h.oth k e).2.1 hk.size, (h.oth k e).2.2⟩ }
/-- The row of rows grows. -/
theorem StG.next {vn' : Value} (h : StG w p ms all ys left used f vh vn (vn.ownBlock :: os) va vy bs) (hk : KeepX (fun k => k = p.D ∨ vn.ownBlock = some k) w w') (hat : vn'.ownBlock = vn.ownBlock ∨ vn'.ownBlock = some w.heap.size)
    (hsz : ∀ k, vn'.ownBlock = some k → k < w'.heap.size) (hc : w'.heap[p.D]? = some (.cells (dfaA f vh vn' vy) 171 (0, 0))) : StG w' p ms all ys left used f vh vn' (vn'.ownBlock :: os) va vy bs :=
  have o1 := h.o1; have o2 := h.o2; have o3 := h.o3; have o4 := h.o4; have o5 := h.o5; have o6 := h.o6; have o7 := h.o7; have o8 := h.o8
  have hown : ∀ k, vn.ownBlock = some k → p.base ≤ k ∧ k < w.heap.size ∧ va.ownBlock ≠ some k ∧ vy.ownBlock ≠ some k := fun k e => h.oth k (by rw [← e]; exact List.mem_cons_self ..)
  have hno : ∀ k, k < p.base → k ≠ p.D → ¬ (k = p.D ∨ vn.ownBlock = some k) := fun k h1 h2 h3 => by
    rcases h3 with h3 | h3
    · exact h2 h3
    · have := (hown k h3).1; omega
  { hbM := hk.at_ h.hbM (hno _ (by omega) (by omega)), hM := h.hM.kept (hk.blk _ h.hM.lt (hno _ (by omega) (by omega))), hbB := hk.at_ h.hbB (hno _ (by omega) (by omega)), hB := hk.at_ h.hB (hno _ (by omega) (by omega)), hbA := hk.at_ h.hbA (hno _ (by omega) (by omega))
    hA := row_blk h.hA fun k e => hk.blk k (h.rowA k e).2 (fun h3 => by
      rcases h3 with h3 | h3
      · have := (h.rowA k e).1; omega
      · exact (hown k h3).2.2.1 e)
    hels := ((h.hels.also (Y := fun k => XD p va vy (vn.ownBlock :: os) k ∨ w.heap.size ≤ k) fun k e hlt => e.resolve_right (by omega)).keep hk.keeps fun k e => .inl (by
      rcases e with e | e
      · exact .inl (.inr (.inr (.inr (.inl e))))
      · exact .inr (by rw [← e]; exact List.mem_cons_self ..))).also fun k e _ => by
        rcases e with e | e
        · exact .inl (.inl e)
        · rcases List.mem_cons.1 e with e | e
          · rcases hat with e' | e'
            · exact .inl (.inr (by rw [e, e']; exact List.mem_cons_self ..))
            · rw [e'] at e; cases e; exact .inr (Nat.le_refl _)
          · exact .inl (.inr (List.mem_cons_of_mem _ e))
    hbD := hk.at_ h.hbD (hno _ (by omega) (by omega)), hD := hc
    hY := row_blk h.hY fun k e => hk.blk k (h.rowY k e).2 (fun h3 => by
      rcases h3 with h3 | h3
      · have := (h.rowY k e).1; omega
      · exact (hown k h3).2.2.2 e)
    o1 := o1, o2 := o2, o3 := o3, o4 := o4, o5 := o5, o6 := o6, o7 := o7, o8 := Nat.le_trans h.o8 hk.size, ne := h.ne
    oth := fun k e => by
      rcases List.mem_cons.1 e with e | e
      · rcases hat with e' | e'
        · have := hown k (by rw [← e', ← e]); exact ⟨this.1, Nat.lt_of_lt_of_le this.2.1 hk.size, this.2.2⟩
        · have hk' : k = w.heap.size := by rw [e'] at e; cases e; rfl
          exact ⟨by omega, hsz k e.symm, fun e => by have := (h.rowA _ e).2; omega, fun e => by have := (h.rowY _ e).2; omega⟩
      · have := h.oth k (List.mem_cons_of_mem _ e); exact ⟨this.1, Nat.lt_of_lt_of_le this.2.1 hk.size, this.2.2⟩ }
end
/-- A made row's block. -/
theorem made_row {w : World} {base n g : Nat} (h : w.ownsRow base 3 1 (.slice (some ⟨g, 0, none⟩) n n) n (madeCells (Value.int .i64 0).cells (n * 1)).toList) : w.heap[g]? = some (.cells (rowA n []) 3 (0, 0)) := by
  rcases h.2 with ⟨h1, h2⟩ | ⟨g', cap, cur, h1, hb, hh, hn, hm, hs, ht⟩
  · cases h1
  · cases h1
    rw [hh]
    have e : cur.toList = (rowA n []).toList := by
      rw [rowA_nil, ← ht, List.take_of_length_le (by rw [Array.length_toList, hs]; exact Nat.le_refl _)]
    have e2 : cur = rowA n [] := by rw [← Array.toArray_toList (xs := cur), e]
    rw [e2]
/-- The finished rows. -/
def rowVs (n : Nat) (gs : List Nat) : List Value := gs.map fun g => Value.slice (some ⟨g, 0, none⟩) n n
structure NxAt (w : World) (base n : Nat) (vn : Value) (gs : List Nat) (nx : List (List Nat)) : Prop where
  hN : w.ownsRow base 25 1 vn (rowVs n gs).length (rowVs n gs)
  len : gs.length = nx.length
  row : ∀ (i g : Nat) (row : List Nat), gs[i]? = some g → nx[i]? = some row → w.heap[g]? = some (.cells (rowA n row) 3 (0, 0)) ∧ row.length = n
  ne : ∀ g ∈ gs, vn.ownBlock ≠ some g
theorem NxAt.keep {w w' : World} {base n : Nat} {vn : Value} {gs : List Nat} {nx : List (List Nat)} {Y : Nat → Prop} (h : NxAt w base n vn gs nx) (hk : KeepX Y w w') (hv : ∀ k, vn.ownBlock = some k → ¬ Y k) (hg : ∀ g ∈ gs, ¬ Y g) : NxAt w' base n vn gs nx where
  hN := row_blk h.hN fun k e => hk.blk k (World.ownsRow.lt h.hN k e).2 (hv k e)
  len := h.len
  row i g row e1 e2 := ⟨(hk.at_ (h.row i g row e1 e2).1 (hg g (List.mem_of_getElem? e1))), (h.row i g row e1 e2).2⟩
  ne := h.ne
/-- Values to be read through a slice. -/
def RdV (w : World) (v : Value) (xs : List Value) : Prop := ∃ A c, v = .slice A xs.length c ∧ Rd w A xs.length xs ∧ CapOk xs.length A c
theorem rdV_of {w : World} {base : Nat} {e : TypeId} {v : Value} {xs : List Value} (h : w.ownsRow base e 1 v xs.length xs) : RdV w v xs := by
  rcases h.2 with ⟨h1, h2⟩ | ⟨g, cap, cur, h1, hb, hh, hn, hm, hs, ht⟩
  · have hx : xs = [] := List.eq_nil_of_length_eq_zero h2
    subst hx
    exact ⟨none, 0, h1, ⟨rfl, fun h => absurd h (by simp)⟩, ⟨Nat.le_refl _, fun _ => rfl⟩⟩
  · refine ⟨_, _, h1, ⟨rfl, fun _ => ⟨g, 0, rfl, lt_of_heap hh, fun j u hu => ?_⟩⟩, ⟨hn, fun h => by cases h⟩⟩
    rw [cell_of_row w g (0 + j) _ _ _ hh, Nat.zero_add, ← hu, ← ht, Nat.mul_one]
    have hj : j < xs.length := (List.getElem?_eq_some_iff.1 hu).1
    rw [List.getElem?_take, if_pos hj, Array.getElem?_toList]
theorem RdV.below {w w' : World} {v : Value} {xs : List Value} (h : RdV w v xs) (hb : Below w.heap.size w w') : RdV w' v xs := by
  obtain ⟨A, c, e, hr, hc⟩ := h
  exact ⟨A, c, e, hr.below hb, hc⟩
/-- The once of a Dfa, and what it made. -/
def LvOk (w : World) (D : Nat) (nx : List (List Nat)) (ys : List Bool) : Prop :=
  ∃ (d : Nat) (vl : Value), w.cell? ⟨D, 259, none⟩ = some (.int .u32 d) ∧ w.cell? ⟨D, 260, none⟩ = some (.int .i32 0) ∧ w.cell? ⟨D, 262, none⟩ = some vl ∧ (∀ i, w.frozen? ⟨D, i, none⟩ = false) ∧
    (d = 0 ∨ d = 1 ∧ ∃ (g c : Nat) (l : Nat → Bool), g ≠ D ∧ vl = .slice (some ⟨g, 0, none⟩) ys.length c ∧ Bits1 w g ys.length l ∧ ∀ q, q < ys.length → (l q = true ↔ Liv nx (fun q => ys.getD q false) q))
/-- A Dfa's own cells. -/
structure DfaK (w : World) (D : Nat) (F : Nat → Nat) (nx : List (List Nat)) (ys : List Bool) (vh vn vy : Value) : Prop where
  lt : D < w.heap.size
  k6 : w.cell? ⟨D, 256, none⟩ = some vh
  k7 : w.cell? ⟨D, 257, none⟩ = some vn
  k8 : w.cell? ⟨D, 258, none⟩ = some vy
  kb : ∀ b, b < 256 → w.cell? ⟨D, b, none⟩ = some (.int .u8 (F b))
  lv : LvOk w D nx ys
  n6 : vh.ownBlock ≠ some D
  n7 : vn.ownBlock ≠ some D
  n8 : vy.ownBlock ≠ some D
theorem DfaK.below {w w' : World} {D : Nat} {F : Nat → Nat} {nx : List (List Nat)} {ys : List Bool} {vh vn vy : Value} (h : DfaK w D F nx ys vh vn vy) (hb : Below w.heap.size w w') : DfaK w' D F nx ys vh vn vy := by
  have hc : ∀ i, w'.cell? ⟨D, i, none⟩ = w.cell? ⟨D, i, none⟩ := fun i => hb.cell (p := ⟨D, i, none⟩) h.lt
  obtain ⟨d, vl, h1, h2, h3, h4, h5⟩ := h.lv
  refine ⟨Nat.lt_of_lt_of_le h.lt hb.size, (hc _).trans h.k6, (hc _).trans h.k7, (hc _).trans h.k8, fun b hb' => (hc _).trans (h.kb b hb'), ⟨d, vl, (hc _).trans h1, (hc _).trans h2, (hc _).trans h3, fun i => ((bcell hb).2 D i h.lt).trans (h4 i), ?_⟩, h.n6, h.n7, h.n8⟩
  rcases h5 with h5 | ⟨h5, g, c, l, h6, h7, h8, h9⟩
  · exact .inl h5
  · exact .inr ⟨h5, g, c, l, h6, h7, h8.below hb, h9⟩
theorem DfaK.start {w : World} {D : Nat} {F : Nat → Nat} {nx : List (List Nat)} {ys : List Bool} {vh vn vy : Value} (h : w.heap[D]? = some (.cells (dfaA F vh vn vy) 171 (0, 0))) (n6 : vh.ownBlock ≠ some D) (n7 : vn.ownBlock ≠ some D) (n8 : vy.ownBlock ≠ some D) : DfaK w D F nx ys vh vn vy := by
  have hs := atF_size F
  have hl : ∀ i, (hi : 256 ≤ i) → (dfaA F vh vn vy)[i]? = #[vh, vn, vy, Value.int .u32 0, Value.int .i32 0, Value.int .u32 0, Value.slice none 0 0][i - 256]? := fun i hi => by
    unfold dfaA
    rw [Array.getElem?_append_right (by omega), hs]
  refine ⟨lt_of_heap h, (blk_cell h 256).trans (dfaA_get F vh vn vy).1, (blk_cell h 257).trans (dfaA_get F vh vn vy).2.1, (blk_cell h 258).trans (dfaA_get F vh vn vy).2.2.1, fun b hb => (blk_cell h b).trans ((dfaA_get F vh vn vy).2.2.2 b hb), ⟨0, .slice none 0 0, (blk_cell h 259).trans (hl 259 (by omega)), (blk_cell h 260).trans (hl 260 (by omega)), (blk_cell h 262).trans (hl 262 (by omega)), fun i => blk_free h i, .inl rfl⟩, n6, n7, n8⟩
/-- A Dfa in its block. -/
def DfaAt (w : World) (D : Nat) (F : Nat → Nat) (hs : List Nat) (nx : List (List Nat)) (ys : List Bool) : Prop :=
  ∃ (vh vn vy : Value) (gs : List Nat), DfaK w D F nx ys vh vn vy ∧ RdV w vh (u8s hs) ∧ RdV w vn (rowVs hs.length gs) ∧ RdV w vy (ys.map Value.bool) ∧ gs.length = nx.length ∧
    ∀ (i g : Nat) (row : List Nat), gs[i]? = some g → nx[i]? = some row → w.heap[g]? = some (.cells (rowA hs.length row) 3 (0, 0)) ∧ row.length = hs.length
theorem DfaAt.below {w w' : World} {D : Nat} {F : Nat → Nat} {hs : List Nat} {nx : List (List Nat)} {ys : List Bool} (h : DfaAt w D F hs nx ys) (hb : Below w.heap.size w w') : DfaAt w' D F hs nx ys := by
  obtain ⟨vh, vn, vy, gs, h1, h2, h3, h4, h5, h6⟩ := h
  exact ⟨vh, vn, vy, gs, h1.below hb, h2.below hb, h3.below hb, h4.below hb, h5, fun i g row e1 e2 => ⟨blk_below (h6 i g row e1 e2).1 hb, (h6 i g row e1 e2).2⟩⟩
/-- WHAT A CALL OF Build COMES TO. -/
def BuildRet (w : World) (B left used : Nat) (r : Re) (ps : List CSet) (e : Ending) (w' : World) : Prop :=
  KeepX (fun k => k = B) w w' ∧ match buildR (ps.map leastN) r left with
    | none => e = .returned (.tuple #[.pointer none, .int .i64 5]) ∧ ∃ l' u', BudAt w' B l' u' ∧ u' ≤ used + left
    | some (all, nx, left') => BudAt w' B left' (used + (left - left')) ∧ ∃ D, e = .returned (.tuple #[ptr D, .int .i64 0]) ∧ w.heap.size ≤ D ∧ DfaAt w' D (atN ps ps.length) (ps.map leastN) nx (all.map Re.null)
/-- A Dfa that stays where it is when the budget is written. -/
def DfaSt (w : World) (B D : Nat) (F : Nat → Nat) (hs : List Nat) (nx : List (List Nat)) (ys : List Bool) : Prop := ∀ w', KeepX (fun k => k = B) w w' → DfaAt w' D F hs nx ys
theorem DfaSt.now {w : World} {B D : Nat} {F : Nat → Nat} {hs : List Nat} {nx : List (List Nat)} {ys : List Bool} (h : DfaSt w B D F hs nx ys) : DfaAt w D F hs nx ys := h w (KeepX.refl _ _)
/-- .. of Build, with the Dfa that stays. -/
def BuildSt (w : World) (B left used : Nat) (r : Re) (ps : List CSet) (e : Ending) (w' : World) : Prop :=
  KeepX (fun k => k = B) w w' ∧ match buildR (ps.map leastN) r left with
    | none => e = .returned (.tuple #[.pointer none, .int .i64 5]) ∧ ∃ l' u', BudAt w' B l' u' ∧ u' ≤ used + left
    | some (all, nx, left') => BudAt w' B left' (used + (left - left')) ∧ ∃ D, e = .returned (.tuple #[ptr D, .int .i64 0]) ∧ w.heap.size ≤ D ∧ DfaSt w' B D (atN ps ps.length) (ps.map leastN) nx (all.map Re.null)
theorem BuildSt.ret {w w' : World} {B left used : Nat} {r : Re} {ps : List CSet} {e : Ending} (h : BuildSt w B left used r ps e w') : BuildRet w B left used r ps e w' := by
  obtain ⟨h1, h2⟩ := h
  refine ⟨h1, ?_⟩
  cases hq : buildR (ps.map leastN) r left with
  | none => rw [hq] at h2; exact h2
  | some t =>
    obtain ⟨all, nx, left'⟩ := t
    rw [hq] at h2
    obtain ⟨h3, D, h4, h5, h6⟩ := h2
    exact ⟨h3, D, h4, h5, h6.now⟩
theorem rd_keep {w w' : World} {A : Option Addr} {n : Nat} {xs : List Value} {X : Nat → Prop} (h : Rd w A n xs) (hk : KeepX X w w') (hx : ∀ g o, A = some ⟨g, o, none⟩ → ¬ X g) : Rd w' A n xs := by
  refine ⟨h.1, fun hn => ?_⟩
  obtain ⟨g, o, e, hg, hc⟩ := h.2 hn
  have hb := hk.blk g hg (hx g o e)
  refine ⟨g, o, e, Nat.lt_of_lt_of_le hg hk.size, fun j u hu => ?_⟩
  rw [← hc j u hu]
  unfold World.cell?
  rw [hb]
theorem rdV_keep {w w' : World} {X : Nat → Prop} {v : Value} {xs : List Value} (h : RdV w v xs) (hk : KeepX X w w') (hx : ∀ g, v.ownBlock = some g → ¬ X g) : RdV w' v xs := by
  obtain ⟨A, c, rfl, hr, hc⟩ := h
  exact ⟨A, c, rfl, rd_keep hr hk fun g o e => hx g (by rw [e]; rfl), hc⟩
theorem rowGo_len {r : Re} : ∀ {hs : List Nat} {all : List Re} {left : Nat} {row : List Nat} {all' : List Re} {left' : Nat} {row' : List Nat}, rowGo r hs all left row = some (all', left', row') → all'.length + left' = all.length + left ∧ left' ≤ left ∧ row'.length = row.length + hs.length
  | [], all, left, row, all', left', row', h => by
    simp only [rowGo, Option.some.injEq, Prod.mk.injEq] at h
    obtain ⟨rfl, rfl, rfl⟩ := h
    exact ⟨rfl, Nat.le_refl _, rfl⟩
  | x :: hs, all, left, row, all', left', row', h => by
    unfold rowGo at h
    cases hq : stAdd all left (byR x r) with
    | none => rw [hq] at h; cases h
    | some t =>
      obtain ⟨a1, l1, q⟩ := t
      rw [hq] at h
      have h1 := rowGo_len h
      have h2 := stAdd_len hq
      simp only [List.length_append, List.length_cons, List.length_nil] at h1 ⊢
      omega
end Go.Proofs.YtfpfloahkibcgaaGreatDoor
