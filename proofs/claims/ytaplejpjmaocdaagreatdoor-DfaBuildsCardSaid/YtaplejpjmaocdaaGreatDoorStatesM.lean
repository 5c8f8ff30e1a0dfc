/- How the states that law 06 counts lie while they are made. -/
import Derived.Test.YtaplejpjmaocdaaGreatDoorStatesP
namespace Go.Proofs.YtaplejpjmaocdaaGreatDoor
open Go.RowKit Go.Maps

def ints (row : List Nat) : List Value := row.map fun (n : Nat) => Value.int .i64 (n : Int)
theorem ints_len (row : List Nat) : (ints row).length = row.length := by simp [ints]
theorem blk_eq_cell {w w' : World} {g : Nat} (h : w'.heap[g]? = w.heap[g]?) (i : Nat) : w'.cell? ⟨g, i, none⟩ = w.cell? ⟨g, i, none⟩ := by
  simp only [World.cell?, h]
/-- A finished row of numbers. -/
def RowI (w : World) (X : Nat → Prop) (u : Value) (r : List Nat) : Prop := ∃ A c, u = .slice A r.length c ∧ CapOk r.length A c ∧
  (0 < r.length → ∃ g o, A = some ⟨g, o, none⟩ ∧ g < w.heap.size ∧ ¬ X g ∧ ∀ (j n : Nat), r[j]? = some n → w.cell? ⟨g, o + j, none⟩ = some (.int .i64 (n : Int)))
theorem RowI.step {w w' : World} {X X' Y : Nat → Prop} {u : Value} {r : List Nat} (h : RowI w X u r) (hk : KeepX Y w w') (hY : ∀ k, Y k → X k) (hX : ∀ k, X' k → X k ∨ w.heap.size ≤ k) : RowI w' X' u r := by
  obtain ⟨A, c, e, hc, hr⟩ := h
  refine ⟨A, c, e, hc, fun h0 => ?_⟩
  obtain ⟨g, o, e, hg, hx, hj⟩ := hr h0
  refine ⟨g, o, e, Nat.lt_of_lt_of_le hg hk.size, fun hx' => ?_, fun j n hn => ?_⟩
  · rcases hX g hx' with h | h
    · exact hx h
    · omega
  · rw [← hj j n hn]
    exact blk_eq_cell (hk.blk g hg fun hy => hx (hY g hy)) _
theorem RowI.under {w w' : World} {X : Nat → Prop} {u : Value} {r : List Nat} (h : RowI w X u r) (hb : Below w.heap.size w w') : RowI w' X u r :=
  h.step (Y := fun _ => False) (KeepX.of_below hb) (fun _ e => e.elim) fun _ e => .inl e
theorem Els.step {w w' : World} {X X' Y : Nat → Prop} {rs : List Re} {bs : List Nat} (h : Els w X rs bs) (hk : KeepX Y w w') (hY : ∀ k, Y k → X k) (hX : ∀ k, X' k → X k ∨ w.heap.size ≤ k) : Els w' X' rs bs :=
  ((h.also (Y := fun k => X k ∨ w.heap.size ≤ k) fun k e hlt => e.resolve_right (by omega)).keep hk.keeps fun k e => .inl (hY k e)).also fun k e _ => hX k e
/-- The blocks that are written. -/
def XW (va vr vw : Value) : Nat → Prop := fun k => va.ownBlock = some k ∨ vr.ownBlock = some k ∨ vw.ownBlock = some k
structure SvInv (w : World) (base : Nat) (va vr vw : Value) (all : List Re) (bs : List Nat) (us : List Value) (rows : List (List Nat)) (row : List Nat) : Prop where
  hA : OwnP w base va bs
  hE : Els w (XW va vr vw) all bs
  hR : w.ownsRow base 25 1 vr us.length us
  hUl : us.length = rows.length
  hU : ∀ (i : Nat) (u : Value) (r : List Nat), us[i]? = some u → rows[i]? = some r → RowI w (XW va vr vw) u r
  hW : w.ownsRow base 3 1 vw (ints row).length (ints row)
  n1 : ∀ k, va.ownBlock = some k → vr.ownBlock ≠ some k
  n2 : ∀ k, va.ownBlock = some k → vw.ownBlock ≠ some k
  n3 : ∀ k, vr.ownBlock = some k → vw.ownBlock ≠ some k
  bz : base ≤ w.heap.size
section
variable {w w' : World} {base : Nat} {va vr vw : Value} {all : List Re} {bs : List Nat} {us : List Value} {rows : List (List Nat)} {row : List Nat}
theorem SvInv.lt (h : SvInv w base va vr vw all bs us rows row) : ∀ k, XW va vr vw k → base ≤ k ∧ k < w.heap.size := fun k e => by
  rcases e with e | e | e
  · exact World.ownsRow.lt h.hA k e
  · exact World.ownsRow.lt h.hR k e
  · exact World.ownsRow.lt h.hW k e
theorem SvInv.below (h : SvInv w base va vr vw all bs us rows row) (hb : Below w.heap.size w w') : SvInv w' base va vr vw all bs us rows row where
  hA := row_blk h.hA fun k e => hb.block k (World.ownsRow.lt h.hA k e).2
  hE := h.hE.below hb
  hR := row_blk h.hR fun k e => hb.block k (World.ownsRow.lt h.hR k e).2
  hUl := h.hUl
  hU i u r h1 h2 := (h.hU i u r h1 h2).under hb
  hW := row_blk h.hW fun k e => hb.block k (World.ownsRow.lt h.hW k e).2
  n1 := h.n1
  n2 := h.n2
  n3 := h.n3
  bz := Nat.le_trans h.bz hb.size
/-- A state more. -/
theorem SvInv.appA {va' : Value} {x : Re} {b : Nat} (h : SvInv w base va vr vw all bs us rows row) (hg : w.grownBy w' va.ownBlock) (hA : OwnP w' base va' (bs ++ [b])) (hat : va'.ownBlock = va.ownBlock ∨ va'.ownBlock = some w.heap.size)
    (hx : ReAt w (XW va vr vw) x b) : SvInv w' base va' vr vw (all ++ [x]) (bs ++ [b]) us rows row :=
  have hk : KeepX (fun k => va.ownBlock = some k) w w' := KeepX.of_grown hg fun k e => e
  have hX : ∀ k, XW va' vr vw k → XW va vr vw k ∨ w.heap.size ≤ k := fun k e => by
    rcases e with e | e
    · rcases hat with h' | h'
      · exact .inl (.inl (h' ▸ e))
      · rw [h'] at e; cases e; exact .inr (Nat.le_refl _)
    · exact .inl (.inr e)
  { hA := hA
    hE := (h.hE.append (Els.one hx)).step hk (fun k e => .inl e) hX
    hR := row_blk h.hR fun k e => hk.blk k (World.ownsRow.lt h.hR k e).2 fun e2 => h.n1 k e2 e
    hUl := h.hUl
    hU := fun i u r h1 h2 => (h.hU i u r h1 h2).step hk (fun k e => .inl e) hX
    hW := row_blk h.hW fun k e => hk.blk k (World.ownsRow.lt h.hW k e).2 fun e2 => h.n2 k e2 e
    n1 := fun k e1 e2 => by
      rcases hat with h' | h'
      · exact h.n1 k (h' ▸ e1) e2
      · rw [h'] at e1; cases e1; have := (World.ownsRow.lt h.hR _ e2).2; omega
    n2 := fun k e1 e2 => by
      rcases hat with h' | h'
      · exact h.n2 k (h' ▸ e1) e2
      · rw [h'] at e1; cases e1; have := (World.ownsRow.lt h.hW _ e2).2; omega
    n3 := h.n3
    bz := Nat.le_trans h.bz hk.size }
theorem SvInv.last {x : Re} {b : Nat} (h : SvInv w base va vr vw (all ++ [x]) (bs ++ [b]) us rows row) : ReAt w (XW va vr vw) x b := by
  have hl := h.hE.1
  simp only [List.length_append, List.length_singleton, Nat.add_right_cancel_iff] at hl
  exact h.hE.2 all.length x b (by simp) (by rw [hl]; simp)
/-- A number more. -/
theorem SvInv.appW {vw' : Value} {q : Nat} (h : SvInv w base va vr vw all bs us rows row) (hg : w.grownBy w' vw.ownBlock) (hW : w'.ownsRow base 3 1 vw' (ints row ++ [Value.int .i64 (q : Int)]).length (ints row ++ [Value.int .i64 (q : Int)]))
    (hat : vw'.ownBlock = vw.ownBlock ∨ vw'.ownBlock = some w.heap.size) : SvInv w' base va vr vw' all bs us rows (row ++ [q]) :=
  have hk : KeepX (fun k => vw.ownBlock = some k) w w' := KeepX.of_grown hg fun k e => e
  have hX : ∀ k, XW va vr vw' k → XW va vr vw k ∨ w.heap.size ≤ k := fun k e => by
    rcases e with e | e | e
    · exact .inl (.inl e)
    · exact .inl (.inr (.inl e))
    · rcases hat with h' | h'
      · exact .inl (.inr (.inr (h' ▸ e)))
      · rw [h'] at e; cases e; exact .inr (Nat.le_refl _)
  { hA := row_blk h.hA fun k e => hk.blk k (World.ownsRow.lt h.hA k e).2 fun e2 => h.n2 k e e2
    hE := h.hE.step hk (fun k e => .inr (.inr e)) hX
    hR := row_blk h.hR fun k e => hk.blk k (World.ownsRow.lt h.hR k e).2 fun e2 => h.n3 k e e2
    hUl := h.hUl
    hU := fun i u r h1 h2 => (h.hU i u r h1 h2).step hk (fun k e => .inr (.inr e)) hX
    hW := by
      have e : ints (row ++ [q]) = ints row ++ [Value.int .i64 (q : Int)] := by simp [ints]
      rw [e]
      exact hW
    n1 := h.n1
    n2 := fun k e1 e2 => by
      rcases hat with h' | h'
      · exact h.n2 k e1 (h' ▸ e2)
      · rw [h'] at e2; cases e2; have := (World.ownsRow.lt h.hA _ e1).2; omega
    n3 := fun k e1 e2 => by
      rcases hat with h' | h'
      · exact h.n3 k e1 (h' ▸ e2)
      · rw [h'] at e2; cases e2; have := (World.ownsRow.lt h.hR _ e1).2; omega
    bz := Nat.le_trans h.bz hk.size }
theorem rowI_of {w : World} {base : Nat} {vw : Value} {row : List Nat} {X : Nat → Prop} (h : w.ownsRow base 3 1 vw (ints row).length (ints row)) (hX : ∀ k, vw.ownBlock = some k → ¬ X k) : RowI w X vw row := by
  rcases h.2 with ⟨h1, h2⟩ | ⟨g, cap, cur, h1, hb, hh, hn, hm, hs, ht⟩
  · have h2 : row.length = 0 := by rw [← ints_len]; exact h2
    exact ⟨none, 0, by rw [h2]; exact h1, ⟨by omega, fun _ => rfl⟩, fun h => by omega⟩
  · rw [ints_len] at h1 hn
    refine ⟨_, _, h1, ⟨hn, fun h => by cases h⟩, fun _ => ⟨g, 0, rfl, lt_of_heap hh, hX g (by rw [h1]; rfl), fun j n hj => ?_⟩⟩
    have hu : (ints row)[j]? = some (.int .i64 (n : Int)) := by unfold ints; rw [List.getElem?_map, hj]; rfl
    rw [cell_of_row w g (0 + j) _ _ _ hh, Nat.zero_add, ← hu, ← ht, Nat.mul_one]
    have hj : j < (ints row).length := (List.getElem?_eq_some_iff.1 hu).1
    rw [List.getElem?_take, if_pos hj, Array.getElem?_toList]
/-- A row is done. -/
theorem SvInv.appR {vr' : Value} (h : SvInv w base va vr vw all bs us rows row) (hg : w.grownBy w' vr.ownBlock) (hR : w'.ownsRow base 25 1 vr' (us ++ [vw]).length (us ++ [vw])) (hat : vr'.ownBlock = vr.ownBlock ∨ vr'.ownBlock = some w.heap.size) :
    SvInv w' base va vr' nilV all bs (us ++ [vw]) (rows ++ [row]) [] :=
  have hk : KeepX (fun k => vr.ownBlock = some k) w w' := KeepX.of_grown hg fun k e => e
  have hX : ∀ k, XW va vr' nilV k → XW va vr vw k ∨ w.heap.size ≤ k := fun k e => by
    rcases e with e | e | e
    · exact .inl (.inl e)
    · rcases hat with h' | h'
      · exact .inl (.inr (.inl (h' ▸ e)))
      · rw [h'] at e; cases e; exact .inr (Nat.le_refl _)
    · cases e
  { hA := row_blk h.hA fun k e => hk.blk k (World.ownsRow.lt h.hA k e).2 fun e2 => h.n1 k e e2
    hE := h.hE.step hk (fun k e => .inr (.inl e)) hX
    hR := hR
    hUl := by simp [h.hUl]
    hU := fun i u r h1 h2 => by
      by_cases hi : i < us.length
      · rw [List.getElem?_append_left hi] at h1
        rw [List.getElem?_append_left (by rw [← h.hUl]; exact hi)] at h2
        exact (h.hU i u r h1 h2).step hk (fun k e => .inr (.inl e)) hX
      · rw [List.getElem?_append_right (by omega)] at h1
        rw [List.getElem?_append_right (by rw [← h.hUl]; omega)] at h2
        have hi0 : i - us.length = 0 := by
          have := (List.getElem?_eq_some_iff.1 h1).1
          simp at this
          omega
        rw [hi0] at h1
        rw [← h.hUl, hi0] at h2
        have e1 : vw = u := by simpa using h1
        have e2 : row = r := by simpa using h2
        subst e1
        subst e2
        refine rowI_of (row_blk h.hW fun k e => hk.blk k (World.ownsRow.lt h.hW k e).2 fun e2 => h.n3 k e2 e) fun k e hx => ?_
        rcases hx with hx | hx | hx
        · exact h.n2 k hx e
        · rcases hat with h' | h'
          · exact h.n3 k (h' ▸ hx) e
          · rw [h'] at hx; cases hx; have := (World.ownsRow.lt h.hW _ e).2; omega
        · cases hx
    hW := World.ownsRow_nil _ _ _ 1
    n1 := fun k e1 e2 => by
      rcases hat with h' | h'
      · exact h.n1 k e1 (h' ▸ e2)
      · rw [h'] at e2; cases e2; have := (World.ownsRow.lt h.hA _ e1).2; omega
    n2 := fun k e1 e2 => by cases e2
    n3 := fun k e1 e2 => by cases e2
    bz := Nat.le_trans h.bz hk.size }
/-- A new row. -/
theorem SvInv.newW {v : Value} (h : SvInv w base va vr nilV all bs us rows []) (hb : Below w.heap.size w w') (hW : w'.ownsRow base 3 1 v 0 []) (hv : ∀ k, v.ownBlock = some k → w.heap.size ≤ k) : SvInv w' base va vr v all bs us rows [] :=
  have hX : ∀ k, XW va vr v k → XW va vr nilV k ∨ w.heap.size ≤ k := fun k e => by
    rcases e with e | e | e
    · exact .inl (.inl e)
    · exact .inl (.inr (.inl e))
    · exact .inr (hv k e)
  { h.below hb with
    hE := h.hE.step (Y := fun _ => False) (KeepX.of_below hb) (fun _ e => e.elim) hX
    hU := fun i u r h1 h2 => (h.hU i u r h1 h2).step (Y := fun _ => False) (KeepX.of_below hb) (fun _ e => e.elim) hX
    hW := hW
    n2 := fun k e1 e2 => by have := (World.ownsRow.lt h.hA _ e1).2; have := hv k e2; omega
    n3 := fun k e1 e2 => by have := (World.ownsRow.lt h.hR _ e1).2; have := hv k e2; omega }
end
end Go.Proofs.YtaplejpjmaocdaaGreatDoor
