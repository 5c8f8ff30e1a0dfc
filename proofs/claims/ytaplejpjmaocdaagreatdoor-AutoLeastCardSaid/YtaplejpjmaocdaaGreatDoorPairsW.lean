/- The functions that AutoPairs hands on; Outside, Shared and Unlike with new budgets. -/
import Derived.Test.YtaplejpjmaocdaaGreatDoorLawWit
namespace Go.Proofs.YtaplejpjmaocdaaGreatDoor
open Go.RowKit Go.Maps

/-- A shape in its box. -/
def BoxAt (w : World) (g : Nat) (s : Shp) (A : Option Addr) (c : Nat) : Prop := w.cell? ⟨g, 0, none⟩ = some (.int .i64 s.op) ∧ w.cell? ⟨g, 1, none⟩ = some (.int .u8 s.low) ∧ w.cell? ⟨g, 2, none⟩ = some (.int .u8 s.high) ∧ w.cell? ⟨g, 3, none⟩ = some (.string s.text) ∧ w.cell? ⟨g, 4, none⟩ = some (.slice A s.kids.length c)
open Classical in
set_option maxRecDepth 100000 in
set_option maxHeartbeats 2000000 in
theorem pair1_any (s u : Shp) (A B : Option Addr) (c d g1 g2 : Nat) (t : ByteArray) (ht : t.size ≤ 1000000) (w : World) (hs : ShAt w s (A, c)) (hu : ShAt w u (B, d)) (hbx : ∀ W, Below w.heap.size w W → BoxAt W g1 s A c ∧ BoxAt W g2 u B d) :
    Calls Tryz.prog 38 #[.string t, ptr g1, ptr g2] w fun e w' => e = .returned (.bool (decide (s.InS t.data.toList ∧ ¬ u.InS t.data.toList))) ∧ Below w.heap.size w w' := by
  have HI1 := hid (fun W (hW : Below w.heap.size w W) => in_any s t A c W (hs.under hW) ht); have HI2 := hid (fun W (hW : Below w.heap.size w W) => in_any u t B d W (hu.under hW) ht); have HBX := hid hbx; obtain ⟨⟨y0, y1, y2, y3, y4⟩, ⟨z0, z1, z2, z3, z4⟩⟩ := hbx w (Below.refl _ _); obtain ⟨p, hp⟩ : ∃ p, p = decide (s.InS t.data.toList) := ⟨_, rfl⟩; obtain ⟨q, hq⟩ : ∃ q, q = decide (u.InS t.data.toList) := ⟨_, rfl⟩; rw [← hp] at HI1; rw [← hq] at HI2; unfold Shp.val at HI1 HI2; have HNOW : Hid (Below w.heap.size w w) := Below.refl _ _; clear hs hu hbx
  have hr : decide (s.InS t.data.toList ∧ ¬ u.InS t.data.toList) = (p && !q) := by rw [hp, hq]; by_cases h1 : s.InS t.data.toList <;> by_cases h2 : u.InS t.data.toList <;> simp [h1, h2]
  rw [hr]
  clear hr hp hq
  unfold ptr
  cases p <;> cases q
  all_goals
    go_enter Tryz.func38, Tryz.ntmps38
    go_wp2_with (first | (go_at_call 18; (with_reducible refine (HI1.out _ (by first | exact HNOW.out | exact HNOW.out.drew)).mono ?_); rintro e w3 ⟨rfl, hb1⟩; (first | (have hb1 := undrew hb1) | skip); have HNOW := hid (HNOW.out.trans (hb1.mono HNOW.out.size)); obtain ⟨⟨y0, y1, y2, y3, y4⟩, ⟨z0, z1, z2, z3, z4⟩⟩ := HBX.out _ HNOW.out; clear hb1) | (go_at_call 18; (with_reducible refine (HI2.out _ (by first | exact HNOW.out | exact HNOW.out.drew)).mono ?_); rintro e w3 ⟨rfl, hb1⟩; (first | (have hb1 := undrew hb1) | skip); have HNOW := hid (HNOW.out.trans (hb1.mono HNOW.out.size)); obtain ⟨⟨y0, y1, y2, y3, y4⟩, ⟨z0, z1, z2, z3, z4⟩⟩ := HBX.out _ HNOW.out; clear hb1))
    go_ret
    exact ⟨rfl, HNOW.out⟩
open Classical in
set_option maxRecDepth 100000 in
set_option maxHeartbeats 2000000 in
theorem pair2_any (s u : Shp) (A B : Option Addr) (c d g1 g2 : Nat) (t : ByteArray) (ht : t.size ≤ 1000000) (w : World) (hs : ShAt w s (A, c)) (hu : ShAt w u (B, d)) (hbx : ∀ W, Below w.heap.size w W → BoxAt W g1 s A c ∧ BoxAt W g2 u B d) :
    Calls Tryz.prog 39 #[.string t, ptr g1, ptr g2] w fun e w' => e = .returned (.bool (decide (s.InS t.data.toList ∧ u.InS t.data.toList))) ∧ Below w.heap.size w w' := by
  have HI1 := hid (fun W (hW : Below w.heap.size w W) => in_any s t A c W (hs.under hW) ht); have HI2 := hid (fun W (hW : Below w.heap.size w W) => in_any u t B d W (hu.under hW) ht); have HBX := hid hbx; obtain ⟨⟨y0, y1, y2, y3, y4⟩, ⟨z0, z1, z2, z3, z4⟩⟩ := hbx w (Below.refl _ _); obtain ⟨p, hp⟩ : ∃ p, p = decide (s.InS t.data.toList) := ⟨_, rfl⟩; obtain ⟨q, hq⟩ : ∃ q, q = decide (u.InS t.data.toList) := ⟨_, rfl⟩; rw [← hp] at HI1; rw [← hq] at HI2; unfold Shp.val at HI1 HI2; have HNOW : Hid (Below w.heap.size w w) := Below.refl _ _; clear hs hu hbx
  have hr : decide (s.InS t.data.toList ∧ u.InS t.data.toList) = (p && q) := by rw [hp, hq]; by_cases h1 : s.InS t.data.toList <;> by_cases h2 : u.InS t.data.toList <;> simp [h1, h2]
  rw [hr]
  clear hr hp hq
  unfold ptr
  cases p <;> cases q
  all_goals
    go_enter Tryz.func39, Tryz.ntmps39
    go_wp2_with (first | (go_at_call 18; (with_reducible refine (HI1.out _ (by first | exact HNOW.out | exact HNOW.out.drew)).mono ?_); rintro e w3 ⟨rfl, hb1⟩; (first | (have hb1 := undrew hb1) | skip); have HNOW := hid (HNOW.out.trans (hb1.mono HNOW.out.size)); obtain ⟨⟨y0, y1, y2, y3, y4⟩, ⟨z0, z1, z2, z3, z4⟩⟩ := HBX.out _ HNOW.out; clear hb1) | (go_at_call 18; (with_reducible refine (HI2.out _ (by first | exact HNOW.out | exact HNOW.out.drew)).mono ?_); rintro e w3 ⟨rfl, hb1⟩; (first | (have hb1 := undrew hb1) | skip); have HNOW := hid (HNOW.out.trans (hb1.mono HNOW.out.size)); obtain ⟨⟨y0, y1, y2, y3, y4⟩, ⟨z0, z1, z2, z3, z4⟩⟩ := HBX.out _ HNOW.out; clear hb1))
    go_ret
    exact ⟨rfl, HNOW.out⟩
open Classical in
set_option maxRecDepth 100000 in
set_option maxHeartbeats 2000000 in
theorem pair3_any (s u : Shp) (A B : Option Addr) (c d g1 g2 : Nat) (t : ByteArray) (ht : t.size ≤ 1000000) (w : World) (hs : ShAt w s (A, c)) (hu : ShAt w u (B, d)) (hbx : ∀ W, Below w.heap.size w W → BoxAt W g1 s A c ∧ BoxAt W g2 u B d) :
    Calls Tryz.prog 40 #[.string t, ptr g1, ptr g2] w fun e w' => e = .returned (.bool (decide ((s.InS t.data.toList ∧ ¬ u.InS t.data.toList) ∨ (u.InS t.data.toList ∧ ¬ s.InS t.data.toList)))) ∧ Below w.heap.size w w' := by
  have HI1 := hid (fun W (hW : Below w.heap.size w W) => in_any s t A c W (hs.under hW) ht); have HI2 := hid (fun W (hW : Below w.heap.size w W) => in_any u t B d W (hu.under hW) ht); have HBX := hid hbx; obtain ⟨⟨y0, y1, y2, y3, y4⟩, ⟨z0, z1, z2, z3, z4⟩⟩ := hbx w (Below.refl _ _); obtain ⟨p, hp⟩ : ∃ p, p = decide (s.InS t.data.toList) := ⟨_, rfl⟩; obtain ⟨q, hq⟩ : ∃ q, q = decide (u.InS t.data.toList) := ⟨_, rfl⟩; rw [← hp] at HI1; rw [← hq] at HI2; unfold Shp.val at HI1 HI2; have HNOW : Hid (Below w.heap.size w w) := Below.refl _ _; clear hs hu hbx
  have hr : decide ((s.InS t.data.toList ∧ ¬ u.InS t.data.toList) ∨ (u.InS t.data.toList ∧ ¬ s.InS t.data.toList)) = (p != q) := by rw [hp, hq]; by_cases h1 : s.InS t.data.toList <;> by_cases h2 : u.InS t.data.toList <;> simp [h1, h2]
  rw [hr]
  clear hr hp hq
  unfold ptr
  go_enter Tryz.func40, Tryz.ntmps40
  go_wp2_with fail
  go_region_held3 (fun w' => (w'.cell? ⟨g1, 0, none⟩ = some (.int .i64 s.op) ∧ w'.cell? ⟨g1, 1, none⟩ = some (.int .u8 s.low) ∧ w'.cell? ⟨g1, 2, none⟩ = some (.int .u8 s.high) ∧ w'.cell? ⟨g1, 3, none⟩ = some (.string s.text) ∧ w'.cell? ⟨g1, 4, none⟩ = some (.slice A s.kids.length c)) ∧ (w'.cell? ⟨g2, 0, none⟩ = some (.int .i64 u.op) ∧ w'.cell? ⟨g2, 1, none⟩ = some (.int .u8 u.low) ∧ w'.cell? ⟨g2, 2, none⟩ = some (.int .u8 u.high) ∧ w'.cell? ⟨g2, 3, none⟩ = some (.string u.text) ∧ w'.cell? ⟨g2, 4, none⟩ = some (.slice B u.kids.length d))) (first | exact ⟨⟨y0, y1, y2, y3, y4⟩, ⟨z0, z1, z2, z3, z4⟩⟩ | go_keep) (first | (go_at_call 18; (with_reducible refine (HI1.out _ (by first | exact HNOW.out | exact HNOW.out.drew)).mono ?_); rintro e w3 ⟨rfl, hb1⟩; (first | (have hb1 := undrew hb1) | skip); have HNOW := hid (HNOW.out.trans (hb1.mono HNOW.out.size)); obtain ⟨⟨y0, y1, y2, y3, y4⟩, ⟨z0, z1, z2, z3, z4⟩⟩ := HBX.out _ HNOW.out; clear hb1) | (go_at_call 18; (with_reducible refine (HI2.out _ (by first | exact HNOW.out | exact HNOW.out.drew)).mono ?_); rintro e w3 ⟨rfl, hb1⟩; (first | (have hb1 := undrew hb1) | skip); have HNOW := hid (HNOW.out.trans (hb1.mono HNOW.out.size)); obtain ⟨⟨y0, y1, y2, y3, y4⟩, ⟨z0, z1, z2, z3, z4⟩⟩ := HBX.out _ HNOW.out; clear hb1))
  all_goals
    go_wp2_with fail
    go_ret
    exact ⟨rfl, HNOW.out⟩
section
variable (x y : Re) (gx : Good x) (gy : Good y) (sx : x.size ≤ 200000) (sy : y.size ≤ 200000) (left : Nat) (hl : left ≤ 1000000)
/-- What such a call comes to. -/
def NewRet (F : Nat) (r : Re) (x y : Re) (left : Nat) (k : Int) : Prop := ∀ (w0 W : World) (a b : Nat), ReAt w0 X0 x a → ReAt w0 X0 y b → Below w0.heap.size w0 W → BudAt W w0.heap.size left 0 → Tab W →
  Calls Tryz.prog F #[ptr a, ptr b, ptr w0.heap.size] W fun e w' => Below w0.heap.size w0 w' ∧ ∃ (t : ByteArray) (v : Bool), e = .returned (.tuple #[.string t, .bool v, .int .i64 k]) ∧ (k = 0 → Wit (Lang r) t v) ∧ (k = 5 → t = ⟨#[]⟩)
include gx gy sx sy hl
theorem outside_new : ∃ k : Int, (k = 0 ∨ k = 5) ∧ NewRet 35 (butR x y) x y left k := by
  obtain ⟨k, hk⟩ : ∃ k : Int, k = (if (buildR ((refineR (setsR (butR x y))).map leastN) (butR x y) left).isSome then 0 else 5) := ⟨_, rfl⟩; refine ⟨k, (by rw [hk]; split; exact .inl rfl; exact .inr rfl), fun w0 W a b hx hy hb hB hT => (outside_any x y a b w0.heap.size left W ((hx.also (Y := fun k => k = w0.heap.size) fun k e hlt => by omega).under hb) ((hy.also (Y := fun k => k = w0.heap.size) fun k e hlt => by omega).under hb) gx gy (by omega) (by omega) hB hl hT).mono fun e w' hh => ?_⟩; obtain ⟨hkp, hw⟩ := hh; refine ⟨hb.trans (hkp.below hb.size fun k hk e => by omega), ?_⟩; unfold WitRet at hw; cases hq : buildR ((refineR (setsR (butR x y))).map leastN) (butR x y) left with | none => rw [hq] at hw hk; exact ⟨_, _, (by rw [hk]; exact hw), fun e => (by rw [hk] at e; cases e), fun _ => rfl⟩ | some q => rw [hq] at hw hk; obtain ⟨t, v, rfl, hw⟩ := hw; exact ⟨t, v, (by rw [hk]; rfl), fun _ => hw, fun e => (by rw [hk] at e; cases e)⟩
theorem shared_new : ∃ k : Int, (k = 0 ∨ k = 5) ∧ NewRet 36 (bothL [x, y]) x y left k := by
  obtain ⟨k, hk⟩ : ∃ k : Int, k = (if (buildR ((refineR (setsR (bothL [x, y]))).map leastN) (bothL [x, y]) left).isSome then 0 else 5) := ⟨_, rfl⟩; refine ⟨k, (by rw [hk]; split; exact .inl rfl; exact .inr rfl), fun w0 W a b hx hy hb hB hT => (shared_any x y a b w0.heap.size left W ((hx.also (Y := fun k => k = w0.heap.size) fun k e hlt => by omega).under hb) ((hy.also (Y := fun k => k = w0.heap.size) fun k e hlt => by omega).under hb) gx gy (by omega) (by omega) hB hl hT).mono fun e w' hh => ?_⟩; obtain ⟨hkp, hw⟩ := hh; refine ⟨hb.trans (hkp.below hb.size fun k hk e => by omega), ?_⟩; unfold WitRet at hw; cases hq : buildR ((refineR (setsR (bothL [x, y]))).map leastN) (bothL [x, y]) left with | none => rw [hq] at hw hk; exact ⟨_, _, (by rw [hk]; exact hw), fun e => (by rw [hk] at e; cases e), fun _ => rfl⟩ | some q => rw [hq] at hw hk; obtain ⟨t, v, rfl, hw⟩ := hw; exact ⟨t, v, (by rw [hk]; rfl), fun _ => hw, fun e => (by rw [hk] at e; cases e)⟩
theorem unlike_new : ∃ k : Int, (k = 0 ∨ k = 5) ∧ NewRet 37 (anyL [butR x y, butR y x]) x y left k := by
  obtain ⟨k, hk⟩ : ∃ k : Int, k = (if (buildR ((refineR (setsR (anyL [butR x y, butR y x]))).map leastN) (anyL [butR x y, butR y x]) left).isSome then 0 else 5) := ⟨_, rfl⟩; refine ⟨k, (by rw [hk]; split; exact .inl rfl; exact .inr rfl), fun w0 W a b hx hy hb hB hT => (unlike_any x y a b w0.heap.size left W ((hx.also (Y := fun k => k = w0.heap.size) fun k e hlt => by omega).under hb) ((hy.also (Y := fun k => k = w0.heap.size) fun k e hlt => by omega).under hb) gx gy (by omega) (by omega) hB hl hT).mono fun e w' hh => ?_⟩; obtain ⟨hkp, hw⟩ := hh; refine ⟨hb.trans (hkp.below hb.size fun k hk e => by omega), ?_⟩; unfold WitRet at hw; cases hq : buildR ((refineR (setsR (anyL [butR x y, butR y x]))).map leastN) (anyL [butR x y, butR y x]) left with | none => rw [hq] at hw hk; exact ⟨_, _, (by rw [hk]; exact hw), fun e => (by rw [hk] at e; cases e), fun _ => rfl⟩ | some q => rw [hq] at hw hk; obtain ⟨t, v, rfl, hw⟩ := hw; exact ⟨t, v, (by rw [hk]; rfl), fun _ => hw, fun e => (by rw [hk] at e; cases e)⟩
end
end Go.Proofs.YtaplejpjmaocdaaGreatDoor
