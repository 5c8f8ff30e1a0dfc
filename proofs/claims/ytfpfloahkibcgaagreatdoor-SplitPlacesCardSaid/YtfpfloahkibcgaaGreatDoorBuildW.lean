/- The walk of dfa.Build. -/
import Derived.Test.YtfpfloahkibcgaaGreatDoorStateW2
namespace Go.Proofs.YtfpfloahkibcgaaGreatDoor
open Go.RowKit Go.Maps

abbrev nilV : Value := .slice none 0 0
set_option maxRecDepth 100000 in
theorem built_dfa (f : Nat → Nat) : Tryz.prog.built 171 [(0, .agg (atF f))] = some (dfaA f nilV nilV nilV) := by kernel_rfl
set_option maxRecDepth 100000 in
theorem fold_dfa (f : Nat → Nat) : Array.foldl (fun cs (x : Value × Nat) => cs.setIfInBounds x.snd x.fst) Tryz.zeroCells171 (atF f).zipIdx 0 256 = dfaA f nilV nilV nilV := by kernel_rfl
/-- Bytes as cells. -/
def u8s (hs : List Nat) : List Value := hs.map fun (h : Nat) => Value.int .u8 (h : Int)
/-- How the heads lie while they are gathered. -/
structure HdAt (w : World) (D : Nat) (F : Nat → Nat) (vh : Value) (hs : List Nat) : Prop where
  hD : w.heap[D]? = some (.cells (dfaA F vh nilV nilV) 171 (0, 0))
  hbD : w.heap[D + 1]? = some (.cells #[ptr D] 104 (0, 0))
  hH : w.ownsRow (D + 2) 5 1 vh (u8s hs).length (u8s hs)
  hz : D + 2 ≤ w.heap.size
theorem HdAt.below {w w' : World} {D : Nat} {F : Nat → Nat} {vh : Value} {hs : List Nat} (h : HdAt w D F vh hs) (hb : Below w.heap.size w w') : HdAt w' D F vh hs :=
  ⟨blk_below h.hD hb, blk_below h.hbD hb, row_blk h.hH fun k e => hb.block k (World.ownsRow.lt h.hH k e).2, Nat.le_trans h.hz hb.size⟩
theorem HdAt.app2 {w W w7 : World} {D : Nat} {F : Nat → Nat} {vh v7 : Value} {hs : List Nat} {x : Nat} (h : HdAt w D F vh hs) (hb : Below w.heap.size w W) (hg : W.grownBy w7 vh.ownBlock)
    (hy : w7.ownsRow (D + 2) 5 1 v7 (u8s hs ++ [Value.int .u8 x]).length (u8s hs ++ [Value.int .u8 x])) :
    w7.cell? ⟨D + 1, 0, none⟩ = some (ptr D) ∧ w7.cell? ⟨D, 256, none⟩ = some vh ∧ w7.frozen? ⟨D, 256, none⟩ = false ∧ HdAt (w7.setCell ⟨D, 256, none⟩ v7) D F v7 (hs ++ [x]) ∧ Below D w (w7.setCell ⟨D, 256, none⟩ v7) := by
  have hW := h.below hb
  have hz := h.hz
  have hne : ∀ k, k < D + 2 → vh.ownBlock ≠ some k := fun k hk e => by have := (World.ownsRow.lt h.hH k e).1; omega
  have hbD := (hg.block _ (lt_of_heap hW.hbD) (fun e => hne _ (by omega) e.symm)).trans hW.hbD
  have hD := (hg.block _ (lt_of_heap hW.hD) (fun e => hne _ (by omega) e.symm)).trans hW.hD
  refine ⟨(blk_cell hbD 0).trans (by rfl), (blk_cell hD 256).trans (dfaA_get F vh nilV nilV).1, blk_free hD 256, ⟨?_, ?_, ?_, ?_⟩, ?_⟩
  · rw [blk_set hD 256 v7, dfaA_setH]
  · exact (Below.heap_setCell _ _ _ _ (show D + 1 ≠ D by omega)).trans hbD
  · have : w7.ownsRow (D + 2) 5 1 v7 (u8s (hs ++ [x])).length (u8s (hs ++ [x])) := by
      have e : u8s (hs ++ [x]) = u8s hs ++ [Value.int .u8 x] := by simp [u8s]
      rw [e]; exact hy
    exact row_blk this fun k e => Below.heap_setCell _ _ _ _ (by have := (World.ownsRow.lt this k e).1; simp; omega)
  · have := hW.hz; have := hg.size; simp [World.setCell]; omega
  · have h1 : Below D w W := hb.mono (by omega)
    exact h1.trans ⟨hg.os, hg.tape, hg.output, by have := hg.size; simpa [World.setCell] using this, fun k hk => (Below.heap_setCell _ _ _ _ (show k ≠ D by omega)).trans (hg.block k (by have := hW.hz; omega) (fun e => hne _ (by omega) e.symm))⟩
end Go.Proofs.YtfpfloahkibcgaaGreatDoor
