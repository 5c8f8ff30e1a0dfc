/- The walk of deriv.By: a row; the contract of all. -/
import Derived.Test.YtfpfloahkibcgaaGreatDoorByW
namespace Go.Proofs.YtfpfloahkibcgaaGreatDoor
open Go.RowKit

set_option maxRecDepth 100000 in
set_option maxHeartbeats 4000000 in
theorem by_cat (y : Nat) (x : Re) (l : List Re) (ihx : ByFn y x) (ihr : x.null = true → ByFn y (thenL l)) (hlen : 1 ≤ l.length) (hs0 : Re.sizes l ≤ 549755813888) (hs1 : (byR y x).size + (thenL l).size ≤ 549755813888)
    (hs2 : x.null = true → (thenL [byR y x, thenL l]).size + (byR y (thenL l)).size ≤ 549755813888) : ByFn y (.cat (x :: l)) := by
  intro X b w h hX
  obtain ⟨A, c, bs, hbc, hcap, hrow⟩ := h.row
  obtain ⟨k0, k1, k2, k3, k4, k5, -⟩ := cellsOf hbc
  have hbl := lt_of_heap hbc
  simp only [Re.op, Re.kids] at k0 k5 hrow hcap
  obtain ⟨n, hn⟩ : ∃ n, n = (x :: l).length := ⟨_, rfl⟩
  rw [← hn] at k5 hrow hcap
  have hn1 : n = l.length + 1 := by rw [hn]; rfl
  obtain ⟨g, o, x', bx, rfl, c0, hx, -, hax, hg⟩ := hrow.at_ (k := 0) (by omega)
  have hx : x = x' := by simpa using hx
  subst hx
  rw [Nat.add_zero] at c0
  have hc2 : 2 ≤ c := by have := hcap.1; omega
  have hnc := hcap.1
  have HXl := hid hX
  have hc1 : ¬ c = 1 := by omega
  have HXW : Hid (∀ W, Below w.heap.size w W → ∀ k, X k → k < W.heap.size) := fun W hW k hk => Nat.lt_of_lt_of_le (hX k hk) hW.size
  have HT0 : Hid (∀ W, Below w.heap.size w W → Calls Tryz.prog 53 #[.slice (some ⟨g, o + 1, none⟩) (n - 1) (c - 1)] W (RetRe W X (thenL l))) := fun W hW => by
    have := row_drop (hrow.below hW) 1
    exact then_any _ _ _ _ _ X W this (HXW.out W hW) hs0
  have HC := hid (fun W (hW : Below w.heap.size w W) => ihx X bx W (hax.under hW) (HXW.out W hW))
  have HC2 := hid (fun (hnu : x.null = true) W b (hW : Below w.heap.size w W) (hb : ReAt W X (thenL l) b) => ihr hnu X b W hb (HXW.out W hW))
  have HT : Hid (∀ W a b, Below w.heap.size w W → ReAt W X (byR y x) a → ReAt W X (thenL l) b → Calls Tryz.prog 53 #[.slice (some ⟨W.heap.size, 0, none⟩) 2 2] (W.alloc (.cells #[ptr a, ptr b] 32)) (RetRe W X (thenL [byR y x, thenL l]))) := fun W a b hW ha hb =>
    then_two _ _ X W a b ha hb (HXW.out W hW) hs1
  have HA : Hid (x.null = true → ∀ W a b, Below w.heap.size w W → ReAt W X (thenL [byR y x, thenL l]) a → ReAt W X (byR y (thenL l)) b → Calls Tryz.prog 52 #[.slice (some ⟨W.heap.size, 0, none⟩) 2 2] (W.alloc (.cells #[ptr a, ptr b] 32)) (RetRe W X (anyL [thenL [byR y x, thenL l], byR y (thenL l)]))) := fun hnu W a b hW ha hb =>
    any_two _ _ X W a b ha hb (HXW.out W hW) (hs2 hnu)
  have HN : Hid (∀ W, Below w.heap.size w W → Calls Tryz.prog 56 #[ptr bx] W fun e w' => e = .returned (.bool x.null) ∧ W = w') := fun W hW => null_any x X bx W (hax.under hW)
  rw [byR_cat]
  generalize thenL [byR y x, thenL l] = p1 at *
  generalize hpr : thenL l = pr at *
  have i0 : (0 : Int) < (n : Int) := by omega
  have i6 : 0 < n := by omega
  have i1 : (1 : Int) ≤ (n : Int) := by omega
  have i2 : (n : Int) ≤ (c : Int) := by omega
  generalize x.null = nb at *
  clear h hbc hcap hrow k1 k2 k3 k4 ihx ihr hax hs0 hs1 hs2 hX hn hn1 hlen hpr
  unfold ptr at *
  cases nb
  · rw [if_neg (by simp)]
    go_enter Tryz.func78, Tryz.ntmps78
    go_wp2_with fail
    go_region_held3 (fun w' => w'.cell? ⟨b, 5, none⟩ = some (.slice (some ⟨g, o, none⟩) n c) ∧ w'.cell? ⟨g, o, none⟩ = some (.pointer (some ⟨bx, 0, none⟩))) (first | exact ⟨d5, d1⟩ | go_keep)
      (first | (go_at_call 53; refine (HT0.out _ (by first | exact Below.refl _ _ | exact (Below.refl _ _).drew)).mono ?_; rintro e w2 ⟨b2, rfl, h2, hb1⟩; (first | (have hb1 := undrew hb1) | skip); have H2 := hid h2; have HB2 := hid hb1; have d5 := (hb1.cell (p := ⟨b, 5, none⟩) hbl).trans k5; have d1 := (hb1.cell (p := ⟨g, o, none⟩) hg).trans c0; clear h2 hb1))
    all_goals
      go_wp2_with (first | (go_at_call 78; refine (HC.out _ HB2.out).mono ?_; rintro e w3 ⟨b3, rfl, h3, hb1⟩; have H3 := hid h3; have H2 := hid (H2.out.under hb1); have HB3 := hid (HB2.out.trans (hb1.mono HB2.out.size)); clear h3 hb1 HC) | (go_at_call 53; refine (HT.out _ _ _ HB3.out H3.out H2.out).mono ?_; rintro e w4 ⟨b4, rfl, h4, hb1⟩; have H4 := hid h4; have H2 := hid (H2.out.under hb1); have HB4 := hid (HB3.out.trans (hb1.mono HB3.out.size)); clear h4 hb1 HT) | (go_at_call 56; refine (HN.out _ HB4.out).mono ?_; rintro e w4' ⟨rfl, rfl⟩))
      go_ret
      exact RetRe.ret H4.out HB4.out
  · rw [if_pos rfl]
    have HCR := hid (HC2.out rfl)
    have HAR := hid (HA.out rfl)
    clear HC2 HA
    go_enter Tryz.func78, Tryz.ntmps78
    go_wp2_with fail
    go_region_held3 (fun w' => w'.cell? ⟨b, 5, none⟩ = some (.slice (some ⟨g, o, none⟩) n c) ∧ w'.cell? ⟨g, o, none⟩ = some (.pointer (some ⟨bx, 0, none⟩))) (first | exact ⟨d5, d1⟩ | go_keep)
      (first | (go_at_call 53; refine (HT0.out _ (by first | exact Below.refl _ _ | exact (Below.refl _ _).drew)).mono ?_; rintro e w2 ⟨b2, rfl, h2, hb1⟩; (first | (have hb1 := undrew hb1) | skip); have H2 := hid h2; have HB2 := hid hb1; have d5 := (hb1.cell (p := ⟨b, 5, none⟩) hbl).trans k5; have d1 := (hb1.cell (p := ⟨g, o, none⟩) hg).trans c0; clear h2 hb1))
    all_goals
      go_wp2_with (first | (go_at_call 78; refine (HC.out _ HB2.out).mono ?_; rintro e w3 ⟨b3, rfl, h3, hb1⟩; have H3 := hid h3; have H2 := hid (H2.out.under hb1); have HB3 := hid (HB2.out.trans (hb1.mono HB2.out.size)); clear h3 hb1 HC) | (go_at_call 53; refine (HT.out _ _ _ HB3.out H3.out H2.out).mono ?_; rintro e w4 ⟨b4, rfl, h4, hb1⟩; have H4 := hid h4; have H2 := hid (H2.out.under hb1); have HB4 := hid (HB3.out.trans (hb1.mono HB3.out.size)); clear h4 hb1 HT) | (go_at_call 56; refine (HN.out _ HB4.out).mono ?_; rintro e w4' ⟨rfl, rfl⟩) | (go_at_call 78; refine (HCR.out _ _ HB4.out H2.out).mono ?_; rintro e w5 ⟨b5, rfl, h5, hb1⟩; have H5 := hid h5; have H4 := hid (H4.out.under hb1); have HB5 := hid (HB4.out.trans (hb1.mono HB4.out.size)); clear h5 hb1) | (go_at_call 52; refine (HAR.out _ _ _ HB5.out H4.out H5.out).mono ?_; rintro e w6 hre; have HRE := hid (hre.trans HB5.out); obtain ⟨bn, rfl, -⟩ := hre))
      go_ret
      exact HRE.out

theorem sz400 {n : Nat} (h : n ≤ 400000) : n * n ≤ 160000000000 := Nat.le_trans (Nat.mul_le_mul h h) (by decide)
/-- BY: whatever the expression. -/
theorem by_any (y : Nat) (hy : y < 256) (r : Re) : Good r → r.size ≤ 400000 → ByFn y r := by
  induction r using Re.indBy with
  | h r ih =>
    intro hg hsz
    have hk : ∀ k ∈ r.kids, ByFn y k := fun k hk => ih k (kid_size hk) (hg.kid hk).1 (by have := kid_size hk; omega)
    have hl : r.kids.length ≤ 549755813888 := by
      have := Re.length_le_sizes r.kids
      have := Re.size_kids r
      omega
    have hq := sz400 hsz
    have hks : ∀ l : List Re, Re.sizes l ≤ r.size → Re.sizes (l.map (byR y)) ≤ 549755813888 := fun l hl => by
      have h1 := sizes_by y l fun k _ => byR_size y k
      have h2 := Nat.mul_le_mul hl hl
      omega
    cases r with
    | none => exact by_none y
    | eps => exact by_eps y
    | cls u => exact by_cls y hy u
    | cat l =>
      match l with
      | [] => have := hg.fit.1; simp at this
      | x :: l =>
        have hrest : Good (thenL l) := thenL_good fun k hk => (hg.kid (k := k) (by simp [Re.kids, hk])).1
        have h1 := rest_size x l
        have h2 := byR_size y x
        have h3 := byR_size y (thenL l)
        have h4 := thenL_size [byR y x, thenL l]
        have h5 : x.size < (Re.cat (x :: l)).size := kid_size (by simp [Re.kids])
        have h6 : Re.sizes l ≤ (Re.cat (x :: l)).size := by simp only [Re.size, Re.sizes]; omega
        have h7 := sz400 (n := x.size) (by omega)
        have h8 := sz400 (n := (thenL l).size) (by omega)
        have h9 : (Re.cat (x :: l)).size = 1 + (x.size + Re.sizes l) := by simp only [Re.size, Re.sizes]
        have h10 := thenL_size l
        have hsum : x.size * x.size + (thenL l).size * (thenL l).size ≤ 160000000000 := by
          have e := sq_add x.size (1 + Re.sizes l)
          have e2 : x.size + (1 + Re.sizes l) = (Re.cat (x :: l)).size := by rw [h9]; omega
          rw [e2] at e
          have := sq_lt h10
          omega
        simp only [Re.sizes] at h4
        exact by_cat y x l (hk x (by simp [Re.kids])) (fun _ => ih _ h1 hrest (by omega)) (by have := hg.fit.1; simp at this; exact this) (by omega) (by omega) (fun _ => by omega)
    | or l => exact by_kids y (.or l) (.inl rfl) hk (by have := hg.fit.1; simp only [Re.kids]; omega) hl (hks l (by simp only [Re.size]; omega))
    | star x =>
      have h5 : x.size < (Re.star x).size := kid_size (by simp [Re.kids])
      have h2 := byR_size y x
      have h7 := sz400 (n := x.size) (by omega)
      exact by_star y x (hk x (by simp [Re.kids])) (by omega)
    | and l => exact by_kids y (.and l) (.inr (.inl rfl)) hk (by have := hg.fit.1; simp only [Re.kids]; omega) hl (hks l (by simp only [Re.size]; omega))
    | minus a b => exact by_kids y (.minus a b) (.inr (.inr rfl)) hk (by simp [Re.kids]) hl (hks [a, b] (by simp only [Re.size, Re.sizes]; omega))
end Go.Proofs.YtfpfloahkibcgaaGreatDoor
