/- The walks of re.Many and re.But. -/
import Derived.Test.YtihloigpdcinkaaDoorAny
namespace Go.Proofs.YtihloigpdcinkaaDoor
open Go.RowKit

theorem op_int (r : Re) (k : Nat) : (((r.op : Int) == (k : Int)) = decide (r.op = k)) := by rw [op_beq]; rfl
theorem Rd.two_new (w : World) (a b : Nat) (T : TypeId) : Rd (w.alloc (.cells #[.pointer (some ⟨a, 0, none⟩), .pointer (some ⟨b, 0, none⟩)] T)) (some ⟨w.heap.size, 0, none⟩) 2 ([a, b].map ptr) :=
  ⟨rfl, fun _ => ⟨w.heap.size, 0, rfl, by simp, fun j u hj => by
    have hb := blk_new w (.cells #[.pointer (some ⟨a, 0, none⟩), .pointer (some ⟨b, 0, none⟩)] T)
    match j, hj with
    | 0, hj => simp at hj; subst hj; exact (blk_cell hb 0).trans (by simp)
    | 1, hj => simp at hj; subst hj; exact (blk_cell hb 1).trans (by simp)⟩⟩
theorem made_star (r : Re) (X : Nat → Prop) (b : Nat) (w : World) (h : ReAt w X r b) (hsz : r.size ≤ 549755813888) (hX : ∀ k, X k → k < w.heap.size) :
    Calls Tryd.prog 54 #[.int .i64 5, .agg #[.int .u64 0, .int .u64 0, .int .u64 0, .int .u64 0], .bool true, .slice (some ⟨w.heap.size, 0, none⟩) 1 1] (w.alloc (.cells #[.pointer (some ⟨b, 0, none⟩)] 27)) (RetRe (w.alloc (.cells #[.pointer (some ⟨b, 0, none⟩)] 27)) X (.star r)) :=
  made_kids (.star r) X (some ⟨w.heap.size, 0, none⟩) 1 [b] _ ⟨Rd.one_new w b _, Els.alloc (Els.one h) _, fun a _ e hx => by cases e; have := hX _ hx; simp at this⟩ ⟨Nat.le_refl _, fun h => by cases h⟩ (by simp [Re.size]; omega) (fun k hk => by have := hX k hk; simp; omega) (by simp [Re.op]) 5 rfl
theorem made_minus (r s : Re) (X : Nat → Prop) (a b : Nat) (w : World) (h : ReAt w X r a) (h' : ReAt w X s b) (hsz : r.size + s.size ≤ 549755813888) (hX : ∀ k, X k → k < w.heap.size) :
    Calls Tryd.prog 54 #[.int .i64 7, .agg #[.int .u64 0, .int .u64 0, .int .u64 0, .int .u64 0], .bool (r.null && !s.null), .slice (some ⟨w.heap.size, 0, none⟩) 2 2] (w.alloc (.cells #[.pointer (some ⟨a, 0, none⟩), .pointer (some ⟨b, 0, none⟩)] 27)) (RetRe (w.alloc (.cells #[.pointer (some ⟨a, 0, none⟩), .pointer (some ⟨b, 0, none⟩)] 27)) X (.minus r s)) :=
  made_kids (.minus r s) X (some ⟨w.heap.size, 0, none⟩) 2 [a, b] _ ⟨Rd.two_new w a b _, Els.alloc (Els.append (Els.one h) (Els.one h')) _, fun a _ e hx => by cases e; have := hX _ hx; simp at this⟩ ⟨Nat.le_refl _, fun h => by cases h⟩ (by simp [Re.size]; omega) (fun k hk => by have := hX k hk; simp; omega) (by simp [Re.op]) 7 rfl

set_option maxHeartbeats 1000000 in
theorem many_any (r : Re) (X : Nat → Prop) (b : Nat) (w : World) (h : ReAt w X r b) (hX : ∀ k, X k → k < w.heap.size) (hsz : r.size ≤ 549755813888) :
    Calls Tryd.prog 26 #[ptr b] w (RetRe w X (manyR r)) := by
  have HE := hid (empty_any X w hX)
  have HM := hid (made_star r X b w h hsz hX)
  have HAT := hid h
  obtain ⟨A, c, bs, hb, -, -⟩ := h.row
  obtain ⟨k0, -⟩ := cellsOf hb
  have e0 := op_int r 0
  have e1 := op_int r 1
  have e5 := op_int r 5
  simp only [Int.natCast_zero, Int.natCast_one, show ((5 : Nat) : Int) = 5 from rfl] at e0 e1 e5
  clear h hX hb
  unfold manyR ptr
  by_cases h0 : r.op = 0
  · rw [if_pos (.inl h0)]
    rw [decide_eq_true h0] at e0
    clear h0 e1 e5
    go_enter Tryd.func26, Tryd.ntmps26
    go_wp2_with (go_at_call 37; refine HE.out.mono ?_; rintro e w3 hre; have HRE := hid hre; obtain ⟨bn, rfl, -⟩ := hre)
    go_ret
    exact HRE.out
  · rw [decide_eq_false h0] at e0
    by_cases h1 : r.op = 1
    · rw [if_pos (.inr h1)]
      rw [decide_eq_true h1] at e1
      clear h0 h1 e5
      go_enter Tryd.func26, Tryd.ntmps26
      go_wp2_with (go_at_call 37; refine HE.out.mono ?_; rintro e w3 hre; have HRE := hid hre; obtain ⟨bn, rfl, -⟩ := hre)
      go_ret
      exact HRE.out
    · rw [if_neg (by simp [h0, h1])]
      rw [decide_eq_false h1] at e1
      by_cases h5 : r.op = 5
      · rw [if_pos h5]
        rw [decide_eq_true h5] at e5
        clear h0 h1 h5
        go_enter Tryd.func26, Tryd.ntmps26
        go_wp2_with fail
        go_ret
        exact ⟨b, rfl, HAT.out, Below.refl _ _⟩
      · rw [if_neg h5]
        rw [decide_eq_false h5] at e5
        clear h0 h1 h5
        go_enter Tryd.func26, Tryd.ntmps26
        go_wp2_with (go_at_call 54; refine HM.out.mono ?_; rintro e w3 hre; have HRE := hid hre; obtain ⟨bn, rfl, -⟩ := hre)
        go_ret
        exact HRE.out.trans ((Below.refl _ _).alloc (Nat.le_refl _) _)

set_option maxHeartbeats 1000000 in
theorem but_any (r s : Re) (X : Nat → Prop) (a b : Nat) (w : World) (h : ReAt w X r a) (h' : ReAt w X s b) (hX : ∀ k, X k → k < w.heap.size) (hsz : r.size + s.size ≤ 549755813888) :
    Calls Tryd.prog 27 #[ptr a, ptr b] w (RetRe w X (butR r s)) := by
  have HN := hid (nothing_any X w hX)
  have HM := hid (made_minus r s X a b w h h' hsz hX)
  have HAT := hid h
  have HS := hid (same_any r s X X a b w h h')
  have HX := hid hX
  obtain ⟨A, c, bs, hb, -, -⟩ := h.row
  obtain ⟨k0, k1, k2, k3, k4, -, k6, -⟩ := cellsOf hb
  obtain ⟨A', c', bs', hb', -, -⟩ := h'.row
  obtain ⟨j0, j1, j2, j3, j4, -, j6, -⟩ := cellsOf hb'
  have e0 := op_int r 0
  have e2 := op_int r 2
  have f0 := op_int s 0
  have f2 := op_int s 2
  simp only [Int.natCast_zero, show ((2 : Nat) : Int) = 2 from rfl] at e0 e2 f0 f2
  clear h hX hb h' hb'
  unfold butR
  unfold ptr at *
  by_cases h0 : r.op = 0
  · rw [if_pos (.inl h0)]
    rw [decide_eq_true h0] at e0
    clear h0 e2 f0 f2
    go_enter Tryd.func27, Tryd.ntmps27
    go_wp2_with (go_at_call 35; refine HN.out.mono ?_; rintro e w3 hre; have HRE := hid hre; obtain ⟨bn, rfl, -⟩ := hre)
    go_ret
    exact HRE.out
  · rw [decide_eq_false h0] at e0
    by_cases hk : r.key = s.key
    · rw [if_pos (.inr hk)]
      have hkb : (r.key == s.key) = true := by simpa using hk
      rw [hkb] at HS
      clear h0 hk hkb e2 f0 f2
      go_enter Tryd.func27, Tryd.ntmps27
      go_wp2_with (first | (go_at_call 15; refine HS.out.mono ?_; rintro e w3 ⟨rfl, rfl⟩) | (go_at_call 35; refine HN.out.mono ?_; rintro e w3 hre; have HRE := hid hre; obtain ⟨bn, rfl, -⟩ := hre))
      go_ret
      exact HRE.out
    · rw [if_neg (by simp [h0, hk])]
      have hkb : (r.key == s.key) = false := by simpa using hk
      rw [hkb] at HS
      clear hk hkb
      by_cases g0 : s.op = 0
      · rw [if_pos g0]
        rw [decide_eq_true g0] at f0
        clear h0 g0 e2 f2
        go_enter Tryd.func27, Tryd.ntmps27
        go_wp2_with (go_at_call 15; refine HS.out.mono ?_; rintro e w3 ⟨rfl, rfl⟩)
        go_ret
        exact ⟨a, rfl, HAT.out, Below.refl _ _⟩
      · rw [if_neg g0]
        rw [decide_eq_false g0] at f0
        by_cases h2 : r.op = 2
        · rw [decide_eq_true h2] at e2
          by_cases g2 : s.op = 2
          · rw [if_pos ⟨h2, g2⟩]
            rw [decide_eq_true g2] at f2
            have HF := hid (fun W => setMinus_any r.set s.set W)
            have HO : Hid (∀ W, w.heap.size ≤ W.heap.size → Calls Tryd.prog 44 #[cv (r.set.minus s.set)] W (RetRe W X (oneR (r.set.minus s.set)))) := fun W h => one_any _ X W (fun k hk => Nat.lt_of_lt_of_le (HX.out k hk) h)
            generalize r.set.minus s.set = u at HF HO ⊢
            unfold cv at HF HO
            clear h0 g0 h2 g2
            go_enter Tryd.func27, Tryd.ntmps27
            go_wp2_with (go_at_call 15; refine HS.out.mono ?_; rintro e w3 ⟨rfl, rfl⟩)
            go_region_with (first | (go_at_call 63; refine (HF.out _).mono ?_; rintro e w2 ⟨rfl, hb2⟩; have hz2 : w.heap.size ≤ w2.heap.size := hb2.size; have HB2 := hid hb2; clear hb2) | (go_at_call 44; refine (HO.out _ hz2).mono ?_; rintro e w3 hre; have HRE := hid hre; obtain ⟨bn, rfl, -⟩ := hre))
            all_goals
              go_wp2_with fail
              go_ret
              exact HRE.out.trans ((Below.refl _ w).drew.trans (HB2.out.mono (Nat.le_refl _)))
          · rw [if_neg (by simp [g2])]
            rw [decide_eq_false g2] at f2
            clear h0 g0 h2 g2
            cases hn : r.null with
            | true =>
              rw [hn] at HM k6
              clear hn
              rw [Bool.true_and] at HM
              generalize s.null = q at *
              go_enter Tryd.func27, Tryd.ntmps27
              go_wp2_with (first | (go_at_call 15; refine HS.out.mono ?_; rintro e w3 ⟨rfl, rfl⟩) | (go_at_call 54; refine HM.out.mono ?_; rintro e w3 hre; have HRE := hid hre; obtain ⟨bn, rfl, -⟩ := hre))
              go_ret
              exact HRE.out.trans ((Below.refl _ _).alloc (Nat.le_refl _) _)
            | false =>
              rw [hn] at HM k6
              clear hn
              rw [Bool.false_and] at HM
              go_enter Tryd.func27, Tryd.ntmps27
              go_wp2_with (first | (go_at_call 15; refine HS.out.mono ?_; rintro e w3 ⟨rfl, rfl⟩) | (go_at_call 54; refine HM.out.mono ?_; rintro e w3 hre; have HRE := hid hre; obtain ⟨bn, rfl, -⟩ := hre))
              go_ret
              exact HRE.out.trans ((Below.refl _ _).alloc (Nat.le_refl _) _)
        · rw [if_neg (by simp [h2])]
          rw [decide_eq_false h2] at e2
          clear h0 g0 h2 f2
          cases hn : r.null with
          | true =>
            rw [hn] at HM k6
            clear hn
            rw [Bool.true_and] at HM
            generalize s.null = q at *
            go_enter Tryd.func27, Tryd.ntmps27
            go_wp2_with (first | (go_at_call 15; refine HS.out.mono ?_; rintro e w3 ⟨rfl, rfl⟩) | (go_at_call 54; refine HM.out.mono ?_; rintro e w3 hre; have HRE := hid hre; obtain ⟨bn, rfl, -⟩ := hre))
            go_ret
            exact HRE.out.trans ((Below.refl _ _).alloc (Nat.le_refl _) _)
          | false =>
            rw [hn] at HM k6
            clear hn
            rw [Bool.false_and] at HM
            go_enter Tryd.func27, Tryd.ntmps27
            go_wp2_with (first | (go_at_call 15; refine HS.out.mono ?_; rintro e w3 ⟨rfl, rfl⟩) | (go_at_call 54; refine HM.out.mono ?_; rintro e w3 hre; have HRE := hid hre; obtain ⟨bn, rfl, -⟩ := hre))
            go_ret
            exact HRE.out.trans ((Below.refl _ _).alloc (Nat.le_refl _) _)
end Go.Proofs.YtihloigpdcinkaaDoor
