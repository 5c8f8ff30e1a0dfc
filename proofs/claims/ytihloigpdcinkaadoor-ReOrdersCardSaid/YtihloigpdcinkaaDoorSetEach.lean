/- The walk of set.each: a set made of two, by words, by whatever function of words. -/
import Derived.Test.YtihloigpdcinkaaDoorHeap
namespace Go.Proofs.YtihloigpdcinkaaDoor
open Go.RowKit

def partCells (x0 x1 x2 x3 : BitVec 64) : Nat → Array Value
  | 0 => #[.int .u64 0, .int .u64 0, .int .u64 0, .int .u64 0]
  | 1 => #[.int .u64 x0.toNat, .int .u64 0, .int .u64 0, .int .u64 0]
  | 2 => #[.int .u64 x0.toNat, .int .u64 x1.toNat, .int .u64 0, .int .u64 0]
  | 3 => #[.int .u64 x0.toNat, .int .u64 x1.toNat, .int .u64 x2.toNat, .int .u64 0]
  | _ => #[.int .u64 x0.toNat, .int .u64 x1.toNat, .int .u64 x2.toNat, .int .u64 x3.toNat]

/-- What stands at the head of round k. -/
def EachRel (w : World) (s t : CSet) (x0 x1 x2 x3 : BitVec 64) (k : Nat) (wr : World) : Prop :=
  wr.heap.size = w.heap.size + 4 ∧ wr.heap[w.heap.size]? = some (.cells #[.int .u64 s.a.toNat, .int .u64 s.b.toNat, .int .u64 s.c.toNat, .int .u64 s.d.toNat] 42 (0, 0)) ∧
  wr.heap[w.heap.size + 1]? = some (.cells #[.int .u64 t.a.toNat, .int .u64 t.b.toNat, .int .u64 t.c.toNat, .int .u64 t.d.toNat] 42 (0, 0)) ∧
  wr.heap[w.heap.size + 1 + 1]? = some (.cells #[.int .u64 0, .int .u64 0, .int .u64 0, .int .u64 0] 42 (0, 0)) ∧
  wr.heap[w.heap.size + 1 + 1 + 1]? = some (.cells (partCells x0 x1 x2 x3 k) 42 (0, 0)) ∧ Below w.heap.size w wr
theorem EachRel.step {w wr : World} {s t : CSet} {x0 x1 x2 x3 : BitVec 64} {k j : Nat} (h : EachRel w s t x0 x1 x2 x3 k wr) (u : Value)
    (hu : (partCells x0 x1 x2 x3 k).setIfInBounds j u = partCells x0 x1 x2 x3 (k + 1)) : EachRel w s t x0 x1 x2 x3 (k + 1) (wr.setCell ⟨w.heap.size + 1 + 1 + 1, j, none⟩ u).drew := by
  obtain ⟨h0, h1, h2, h3, h4, h5⟩ := h
  refine ⟨by rw [← h0]; exact size_setCell _ _ _, blk_far h1 _ _ (by show _ ≠ w.heap.size + 1 + 1 + 1; omega), blk_far h2 _ _ (by show _ ≠ w.heap.size + 1 + 1 + 1; omega), blk_far h3 _ _ (by show _ ≠ w.heap.size + 1 + 1 + 1; omega), ?_, (h5.setCell (p := ⟨w.heap.size + 1 + 1 + 1, j, none⟩) (by show w.heap.size ≤ w.heap.size + 1 + 1 + 1; omega) u).drew⟩
  rw [← hu]
  exact blk_set h4 j u

set_option maxHeartbeats 2000000 in
theorem each_any (s t : CSet) (f : BitVec 64 → BitVec 64 → BitVec 64) (g : Nat) (w : World)
    (eg : ∀ (args : Array Value) (W : World), (callFunc g args).run Tryd.prog W = .ok (.enter g args) W)
    (hf : ∀ (x y : BitVec 64) (W : World), Calls Tryd.prog g #[.int .u64 x.toNat, .int .u64 y.toNat] W fun e W' => e = .returned (.int .u64 (f x y).toNat) ∧ W = W') :
    Calls Tryd.prog 70 #[cv s, cv t, .func (.func g) #[] #[]] w fun e w' => e = .returned (cv ⟨f s.a t.a, f s.b t.b, f s.c t.c, f s.d t.d⟩) ∧ Below w.heap.size w w' := by
  have HF := hid hf
  clear hf
  unfold cv
  go_enter Tryd.func70, Tryd.ntmps70
  go_wp2_with fail
  go_loopw [9] (fun i wr => ∃ k : Nat, k ≤ 4 ∧ i = .int .i64 k ∧ EachRel w s t (f s.a t.a) (f s.b t.b) (f s.c t.c) (f s.d t.d) k wr) (fun i _ => 4 - (intOf i).toNat)
  case atStart =>
    exact ⟨0, by omega, rfl, by simp, blk_alloc (blk_alloc (blk_alloc (blk_new _ _) _) _) _, blk_alloc (blk_alloc (by simpa using blk_new (w.alloc _) _) _) _, blk_alloc (by simpa using blk_new ((w.alloc _).alloc _) _) _, by simpa [partCells] using blk_new (((w.alloc _).alloc _).alloc _) _,
      (((((Below.refl _ _).alloc (Nat.le_refl _) _).alloc (by simp) _).alloc (by simp; omega) _).alloc (by simp; omega) _)⟩
  case round =>
    obtain ⟨k, hk, rfl, hr⟩ := hrel
    obtain ⟨h0, h1, h2, h3, h4, h5⟩ := id hr
    have HR := hid hr
    clear hr
    have c4 := blk_cell h4; have f4 := blk_free h4; have f3 := blk_free h3
    rcases (by omega : k = 0 ∨ k = 1 ∨ k = 2 ∨ k = 3 ∨ k = 4) with rfl | rfl | rfl | rfl | rfl
    · have a1 := blk_cell h1 0; have a2 := blk_cell h2 0; have a4 := c4 0; have g4 := f4 0
      clear h1 h2 h3 h4 h0 c4 f4 f3 h5
      simp at a1 a2
      simp [partCells] at a4
      go_wp2_with fail
      go_region_with ((refine (HF.out _ _ _).mono ?_; rintro e w' ⟨rfl, rfl⟩))
      all_goals go_wp2_with fail
      all_goals go_roundw
      all_goals first | exact ⟨1, by omega, rfl, HR.out.step _ rfl⟩ | (simp [intOf]; done)
    · have a1 := blk_cell h1 1; have a2 := blk_cell h2 1; have a4 := c4 1; have g4 := f4 1
      clear h1 h2 h3 h4 h0 c4 f4 f3 h5
      simp at a1 a2
      simp [partCells] at a4
      go_wp2_with fail
      go_region_with ((refine (HF.out _ _ _).mono ?_; rintro e w' ⟨rfl, rfl⟩))
      all_goals go_wp2_with fail
      all_goals go_roundw
      all_goals first | exact ⟨2, by omega, rfl, HR.out.step _ rfl⟩ | (simp [intOf]; done)
    · have a1 := blk_cell h1 2; have a2 := blk_cell h2 2; have a4 := c4 2; have g4 := f4 2
      clear h1 h2 h3 h4 h0 c4 f4 f3 h5
      simp at a1 a2
      simp [partCells] at a4
      go_wp2_with fail
      go_region_with ((refine (HF.out _ _ _).mono ?_; rintro e w' ⟨rfl, rfl⟩))
      all_goals go_wp2_with fail
      all_goals go_roundw
      all_goals first | exact ⟨3, by omega, rfl, HR.out.step _ rfl⟩ | (simp [intOf]; done)
    · have a1 := blk_cell h1 3; have a2 := blk_cell h2 3; have a4 := c4 3; have g4 := f4 3
      clear h1 h2 h3 h4 h0 c4 f4 f3 h5
      simp at a1 a2
      simp [partCells] at a4
      go_wp2_with fail
      go_region_with ((refine (HF.out _ _ _).mono ?_; rintro e w' ⟨rfl, rfl⟩))
      all_goals go_wp2_with fail
      all_goals go_roundw
      all_goals first | exact ⟨4, by omega, rfl, HR.out.step _ rfl⟩ | (simp [intOf]; done)
    · have b0 := c4 0; have b1 := c4 1; have b2 := c4 2; have b3 := c4 3
      have e3 := blk_cell h3
      have d0 := e3 0; have d1 := e3 1; have d2 := e3 2; have d3 := e3 3
      have g0 := f3 0; have g1 := f3 1; have g2 := f3 2; have g3 := f3 3
      simp [partCells] at b0 b1 b2 b3
      simp at d0 d1 d2 d3
      have HB := hid h5
      clear h1 h2 h3 h4 h0 c4 f4 f3 h5 e3
      go_wp2_with fail
      have hW := blk_set (blk_set (blk_set (blk_set (HR.out.2.2.2.1) 0 (.int .u64 (f s.a t.a).toNat)) 1 (.int .u64 (f s.b t.b).toNat)) 2 (.int .u64 (f s.c t.c).toNat)) 3 (.int .u64 (f s.d t.d).toNat)
      have k0 := blk_cell hW 0; have k1 := blk_cell hW 1; have k2 := blk_cell hW 2; have k3 := blk_cell hW 3
      simp only [Array.setIfInBounds] at k0 k1 k2 k3
      simp at k0 k1 k2 k3
      refine bodyPost_ret (v := .agg #[.int .u64 (f s.a t.a).toNat, .int .u64 (f s.b t.b).toNat, .int .u64 (f s.c t.c).toNat, .int .u64 (f s.d t.d).toNat]) (by simp [results, Tryd.results70, go_sem, k0, k1, k2, k3]) rfl ⟨rfl, ?_⟩
      exact ((((HB.out.setCell (by show w.heap.size ≤ w.heap.size + 1 + 1; omega) _).setCell (by show w.heap.size ≤ w.heap.size + 1 + 1; omega) _).setCell (by show w.heap.size ≤ w.heap.size + 1 + 1; omega) _).setCell (by show w.heap.size ≤ w.heap.size + 1 + 1; omega) _)
end Go.Proofs.YtihloigpdcinkaaDoor
