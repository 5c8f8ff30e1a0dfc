/- The walks of dfa.Grant, Budget.Take, Budget.Used, over sync/atomic's Int64. -/
import Derived.Test.YtfpfloahkibcgaaGreatDoorLeastW
import Derived.Laws.LoneSync
namespace Go.Proofs.YtfpfloahkibcgaaGreatDoor
open Go.RowKit

theorem load_any (b off : Nat) (x : Int) (w : World) (h : w.cell? ⟨b, off, none⟩ = some (.int .i64 x)) :
    Calls Tryz.prog 141 #[.pointer (some ⟨b, off, none⟩)] w fun e w' => e = .returned (.int .i64 x) ∧ w = w' := by
  have hl := run_call_load (P := Tryz.prog) Tryz.func156 (by kernel_rfl) (by kernel_rfl) (by kernel_rfl) .i64 (by kernel_rfl) h
  go_enter Tryz.func141, Tryz.ntmps141
  go_wp2
  go_ret
  exact ⟨rfl, rfl⟩
theorem store_any (b off : Nat) (x y : Int) (w : World) (h : w.cell? ⟨b, off, none⟩ = some (.int .i64 x)) (hf : w.frozen? ⟨b, off, none⟩ = false) :
    Calls Tryz.prog 71 #[.pointer (some ⟨b, off, none⟩), .int .i64 y] w fun e w' => e = .returned (.tuple #[]) ∧ w' = w.setCell ⟨b, off, none⟩ (.int .i64 y) := by
  have hl := run_call_store (P := Tryz.prog) Tryz.func113 (by kernel_rfl) (by kernel_rfl) (by kernel_rfl) (by kernel_rfl) (k := .i64) (y := y) h hf
  go_enter Tryz.func71, Tryz.ntmps71
  go_wp2
  go_end0
  exact ⟨rfl, rfl⟩
theorem cas_any (b off : Nat) (x y : Int) (w : World) (h : w.cell? ⟨b, off, none⟩ = some (.int .i64 x)) (hf : w.frozen? ⟨b, off, none⟩ = false) :
    Calls Tryz.prog 142 #[.pointer (some ⟨b, off, none⟩), .int .i64 x, .int .i64 y] w fun e w' => e = .returned (.bool true) ∧ w' = w.setCell ⟨b, off, none⟩ (.int .i64 y) := by
  have hl := run_call_cas_hit (P := Tryz.prog) Tryz.func157 (by kernel_rfl) (by kernel_rfl) (by kernel_rfl) .i64 (by kernel_rfl) (y := y) h hf
  go_enter Tryz.func142, Tryz.ntmps142
  go_wp2
  go_ret
  exact ⟨rfl, rfl⟩
theorem add_any (b off : Nat) (x y s : Int) (w : World) (h : w.cell? ⟨b, off, none⟩ = some (.int .i64 x)) (hf : w.frozen? ⟨b, off, none⟩ = false) (hs : wrap64 (x + y) = s) :
    Calls Tryz.prog 143 #[.pointer (some ⟨b, off, none⟩), .int .i64 y] w fun e w' => e = .returned (.int .i64 s) ∧ w' = w.setCell ⟨b, off, none⟩ (.int .i64 s) := by
  have hl := run_call_add (P := Tryz.prog) Tryz.func158 (by kernel_rfl) (by kernel_rfl) (by kernel_rfl) .i64 (by kernel_rfl) (y := y) (s := s) h hf (by rw [← hs]; simp [go_sem, wrap64, IntKind.wrap_i64])
  go_enter Tryz.func143, Tryz.ntmps143
  go_wp2
  go_ret
  exact ⟨rfl, rfl⟩
/-- A budget in its block. -/
def BudAt (w : World) (B left used : Nat) : Prop := w.heap[B]? = some (.cells #[.int .i64 left, .int .i64 used] 118 (0, 0))
theorem BudAt.cells {w : World} {B left used : Nat} (h : BudAt w B left used) : w.cell? ⟨B, 0, none⟩ = some (.int .i64 left) ∧ w.cell? ⟨B, 1, none⟩ = some (.int .i64 used) ∧ w.frozen? ⟨B, 0, none⟩ = false ∧ w.frozen? ⟨B, 1, none⟩ = false := by
  unfold BudAt at h
  simp [World.cell?, World.frozen?, h]
theorem BudAt.set0 {w : World} {B left used : Nat} (h : BudAt w B left used) (y : Nat) : BudAt (w.setCell ⟨B, 0, none⟩ (.int .i64 y)) B y used := by
  unfold BudAt at h ⊢
  simp [World.setCell, h, Array.getElem?_modify]
theorem BudAt.set1 {w : World} {B left used : Nat} (h : BudAt w B left used) (y : Nat) : BudAt (w.setCell ⟨B, 1, none⟩ (.int .i64 y)) B left y := by
  unfold BudAt at h ⊢
  simp [World.setCell, h, Array.getElem?_modify]
theorem take_nil (n : Nat) (w : World) : Calls Tryz.prog 110 #[.pointer none, .int .i64 n] w fun e w' => e = .returned (.int .i64 5) ∧ w = w' := by
  go_enter Tryz.func110, Tryz.ntmps110
  go_wp2
  go_ret
  exact ⟨rfl, rfl⟩
theorem take_neg (B : Nat) (n : Int) (hn : n < 0) (w : World) : Calls Tryz.prog 110 #[ptr B, .int .i64 n] w fun e w' => e = .returned (.int .i64 5) ∧ w = w' := by
  unfold ptr
  go_enter Tryz.func110, Tryz.ntmps110
  go_wp2
  go_ret
  exact ⟨rfl, rfl⟩
set_option maxRecDepth 100000 in
set_option maxHeartbeats 1000000 in
theorem take_yes (B left used n : Nat) (w : World) (h : BudAt w B left used) (hn : n ≤ left) (hb : left + used ≤ 4611686018427387904) :
    Calls Tryz.prog 110 #[ptr B, .int .i64 n] w fun e w' => e = .returned (.int .i64 0) ∧ w' = (w.setCell ⟨B, 0, none⟩ (.int .i64 ((left - n : Nat) : Int))).setCell ⟨B, 1, none⟩ (.int .i64 ((used + n : Nat) : Int)) := by
  obtain ⟨h0, h1, f0, -⟩ := h.cells
  have hs0 := h.set0 (left - n)
  obtain ⟨-, g1, -, f1⟩ := hs0.cells
  have HL := hid (load_any B 0 left w h0)
  have HC := hid (cas_any B 0 left ((left - n : Nat) : Int) w h0 f0)
  have HA := hid (add_any B 1 used n ((used + n : Nat) : Int) _ g1 f1 (by unfold wrap64; omega))
  have hsub : (left : Int) - (n : Int) = ((left - n : Nat) : Int) := by omega
  have hlt : ¬ (left : Int) < (n : Int) := by omega
  have hn0 : ¬ (n : Int) < 0 := by omega
  clear h h0 h1 f0 hs0 g1 f1
  generalize left - n = m at *
  generalize used + n = u at *
  unfold ptr
  go_enter Tryz.func110, Tryz.ntmps110
  go_wp2_with fail
  go_loopw [5] (fun _ wr => wr = w) (fun _ _ => 0)
  case atStart => rfl
  case round =>
    subst hrel
    go_wp2_with (first | (go_at_call 141; refine HL.out.mono ?_; rintro e w2 ⟨rfl, rfl⟩) | (go_at_call 142; refine HC.out.mono ?_; rintro e w3 ⟨rfl, rfl⟩) | (go_at_call 143; refine HA.out.mono ?_; rintro e w4 ⟨rfl, rfl⟩))
    go_ret
    exact ⟨rfl, rfl⟩
set_option maxRecDepth 100000 in
set_option maxHeartbeats 1000000 in
theorem take_no (B left used n : Nat) (w : World) (h : BudAt w B left used) (hn : left < n) :
    Calls Tryz.prog 110 #[ptr B, .int .i64 n] w fun e w' => e = .returned (.int .i64 5) ∧ w' = w.setCell ⟨B, 0, none⟩ (.int .i64 ((0 : Nat) : Int)) := by
  obtain ⟨h0, h1, f0, -⟩ := h.cells
  have HL := hid (load_any B 0 left w h0)
  have HC := hid (cas_any B 0 left 0 w h0 f0)
  have hlt : (left : Int) < (n : Int) := by omega
  have hn0 : ¬ (n : Int) < 0 := by omega
  clear h h0 h1 f0
  unfold ptr
  go_enter Tryz.func110, Tryz.ntmps110
  go_wp2_with fail
  go_loopw [5] (fun _ wr => wr = w) (fun _ _ => 0)
  case atStart => rfl
  case round =>
    subst hrel
    go_wp2_with (first | (go_at_call 141; refine HL.out.mono ?_; rintro e w2 ⟨rfl, rfl⟩) | (go_at_call 142; refine HC.out.mono ?_; rintro e w3 ⟨rfl, rfl⟩))
    go_ret
    exact ⟨rfl, rfl⟩
set_option maxRecDepth 100000 in
theorem grant_any (n : Int) (m : Nat) (hm : m = n.toNat) (w : World) : Calls Tryz.prog 19 #[.int .i64 n] w fun e w' => e = .returned (ptr w.heap.size) ∧ BudAt w' w.heap.size m 0 ∧ Below w.heap.size w w' := by
  have h1 : BudAt (w.alloc (.cells #[.int .i64 0, .int .i64 0] 118)) w.heap.size 0 0 := blk_new w _
  obtain ⟨c0, -, f0, -⟩ := h1.cells
  have hmax : ((m : Nat) : Int) = max n 0 := by omega
  have HS := hid (store_any w.heap.size 0 0 m _ c0 f0)
  have HM := hid hmax
  rw [hmax] at HS
  clear h1 c0 f0 hmax hm
  unfold ptr
  go_enter Tryz.func19, Tryz.ntmps19
  go_wp2_with (first | (go_at_call 71; refine HS.out.mono ?_; rintro e w2 ⟨rfl, rfl⟩))
  go_ret
  exact ⟨rfl, by unfold BudAt; rw [HM.out]; exact blk_new w _, (Below.refl _ _).alloc (Nat.le_refl _) _⟩
end Go.Proofs.YtfpfloahkibcgaaGreatDoor
