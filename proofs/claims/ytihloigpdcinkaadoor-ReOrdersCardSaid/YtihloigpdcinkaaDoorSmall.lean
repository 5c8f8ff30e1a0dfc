/- The walks of the small functions of package re. -/
import Derived.Test.YtihloigpdcinkaaDoorMadeCls
import Derived.Test.YtihloigpdcinkaaDoorMk
import Derived.Test.YtihloigpdcinkaaDoorSetMore
namespace Go.Proofs.YtihloigpdcinkaaDoor
open Go.RowKit


set_option maxHeartbeats 400000 in
theorem one_any (s : CSet) (X : Nat → Prop) (w : World) (hX : ∀ k, X k → k < w.heap.size) : Calls Tryd.prog 44 #[cv s] w (RetRe w X (oneR s)) := by
  have HE := hid (fun W => setEmpty_any s W)
  have H0 : Hid (∀ W, w.heap.size ≤ W.heap.size → Calls Tryd.prog 35 #[] W (RetRe W X .none)) := fun W h => nothing_any X W (fun k hk => Nat.lt_of_lt_of_le (hX k hk) h)
  have H1 : Hid (∀ W, w.heap.size ≤ W.heap.size → Calls Tryd.prog 54 #[.int .i64 2, cv s, .bool false, .slice none 0 0] W (RetRe W X (.cls s))) := fun W h => made_cls s X W (fun k hk => Nat.lt_of_lt_of_le (hX k hk) h)
  clear hX
  unfold oneR
  by_cases hs : s = CSet.zero
  · rw [if_pos hs]
    have hd : decide (s = CSet.zero) = true := decide_eq_true hs
    clear hs
    rw [hd] at HE
    clear hd
    unfold cv at *
    go_enter Tryd.func44, Tryd.ntmps44
    go_wp2_with (first | (go_at_call 62; refine (HE.out _).mono ?_; rintro e w1 ⟨rfl, hb1⟩; have hz : w.heap.size ≤ w1.heap.size := (by have := hb1.size; simp at this; omega)) | (go_at_call 35; refine (H0.out _ hz).mono ?_; rintro e w' ⟨b, rfl, h1, h2⟩))
    go_ret
    exact ⟨b, rfl, h1, (((Below.refl _ _).alloc (Nat.le_refl _) _).trans (hb1.mono (by simp))).trans (h2.mono hz)⟩
  · rw [if_neg hs]
    have hd : decide (s = CSet.zero) = false := decide_eq_false hs
    clear hs
    rw [hd] at HE
    clear hd
    unfold cv at *
    go_enter Tryd.func44, Tryd.ntmps44
    go_wp2_with (first | (go_at_call 62; refine (HE.out _).mono ?_; rintro e w1 ⟨rfl, hb1⟩; have hz : w.heap.size ≤ w1.heap.size := (by have := hb1.size; simp at this; omega); obtain ⟨hc, hf⟩ := bcell hb1) | (go_at_call 54; refine (H1.out _ hz).mono ?_; rintro e w' ⟨b, rfl, h1, h2⟩))
    go_ret
    exact ⟨b, rfl, h1, (((Below.refl _ _).alloc (Nat.le_refl _) _).trans (hb1.mono (by simp))).trans (h2.mono hz)⟩

theorem key_any (r : Re) (X : Nat → Prop) (b : Nat) (w : World) (h : ReAt w X r b) : Calls Tryd.prog 28 #[ptr b] w fun e w' => e = .returned (.string ⟨r.key.toArray⟩) ∧ w = w' := by
  obtain ⟨A, c, bs, hb, -, -⟩ := h.row
  obtain ⟨-, -, -, -, -, -, -, hk, -⟩ := cellsOf hb
  clear h hb
  unfold ptr
  go_enter Tryd.func28, Tryd.ntmps28
  go_wp2
  go_ret
  exact ⟨rfl, rfl⟩
theorem size_any (r : Re) (X : Nat → Prop) (b : Nat) (w : World) (h : ReAt w X r b) : Calls Tryd.prog 23 #[ptr b] w fun e w' => e = .returned (.int .i64 r.size) ∧ w = w' := by
  obtain ⟨A, c, bs, hb, -, -⟩ := h.row
  obtain ⟨-, -, -, -, -, -, -, -, hk⟩ := cellsOf hb
  clear h hb
  unfold ptr
  go_enter Tryd.func23, Tryd.ntmps23
  go_wp2
  go_ret
  exact ⟨rfl, rfl⟩
theorem null_any (r : Re) (X : Nat → Prop) (b : Nat) (w : World) (h : ReAt w X r b) : Calls Tryd.prog 21 #[ptr b] w fun e w' => e = .returned (.bool r.null) ∧ w = w' := by
  obtain ⟨A, c, bs, hb, -, -⟩ := h.row
  obtain ⟨-, -, -, -, -, -, hk, -, -⟩ := cellsOf hb
  clear h hb
  unfold ptr
  go_enter Tryd.func21, Tryd.ntmps21
  go_wp2
  go_ret
  exact ⟨rfl, rfl⟩
theorem key_nil (w : World) : Calls Tryd.prog 28 #[.pointer none] w fun e w' => e = .returned (.string ⟨#[]⟩) ∧ w = w' := by
  go_enter Tryd.func28, Tryd.ntmps28
  go_wp2
  go_ret
  exact ⟨rfl, rfl⟩
theorem size_nil (w : World) : Calls Tryd.prog 23 #[.pointer none] w fun e w' => e = .returned (.int .i64 0) ∧ w = w' := by
  go_enter Tryd.func23, Tryd.ntmps23
  go_wp2
  go_ret
  exact ⟨rfl, rfl⟩
theorem null_nil (w : World) : Calls Tryd.prog 21 #[.pointer none] w fun e w' => e = .returned (.bool false) ∧ w = w' := by
  go_enter Tryd.func21, Tryd.ntmps21
  go_wp2
  go_ret
  exact ⟨rfl, rfl⟩
theorem same_any (r s : Re) (X Y : Nat → Prop) (b c : Nat) (w : World) (h : ReAt w X r b) (h' : ReAt w Y s c) : Calls Tryd.prog 15 #[ptr b, ptr c] w fun e w' => e = .returned (.bool (r.key == s.key)) ∧ w = w' := by
  have H1 := hid (key_any r X b w h)
  have H2 := hid (key_any s Y c w h')
  clear h h'
  unfold ptr at *
  go_enter Tryd.func15, Tryd.ntmps15
  go_wp2_with fail
  refine H1.out.mono ?_
  rintro e w' ⟨rfl, rfl⟩
  go_wp2_with fail
  refine H2.out.mono ?_
  rintro e w' ⟨rfl, rfl⟩
  go_wp2_with fail
  go_ret
  exact ⟨by simp, rfl⟩
theorem op_beq (r : Re) (k : Nat) : ((r.op : Int) == (k : Int)) = (r.op == k) := by
  rw [Bool.eq_iff_iff]; simp only [beq_iff_eq]; omega
theorem isEps_any (r : Re) (X : Nat → Prop) (b : Nat) (w : World) (h : ReAt w X r b) : Calls Tryd.prog 59 #[ptr b] w fun e w' => e = .returned (.bool (r.op == 1)) ∧ w = w' := by
  obtain ⟨A, c, bs, hb, -, -⟩ := h.row
  obtain ⟨hk, -⟩ := cellsOf hb
  clear h hb
  unfold ptr
  go_enter Tryd.func59, Tryd.ntmps59
  go_wp2
  go_ret
  rw [← op_beq r 1]
  exact ⟨rfl, rfl⟩
theorem isNone_any (r : Re) (X : Nat → Prop) (b : Nat) (w : World) (h : ReAt w X r b) : Calls Tryd.prog 53 #[ptr b] w fun e w' => e = .returned (.bool (r.op == 0)) ∧ w = w' := by
  obtain ⟨A, c, bs, hb, -, -⟩ := h.row
  obtain ⟨hk, -⟩ := cellsOf hb
  clear h hb
  unfold ptr
  go_enter Tryd.func53, Tryd.ntmps53
  go_wp2
  go_ret
  rw [← op_beq r 0]
  exact ⟨rfl, rfl⟩
end Go.Proofs.YtihloigpdcinkaaDoor
