/- The walk of SplitPlaces. -/
import Derived.Test.YtfpfloahkibcgaaGreatDoorPkX
import Derived.Test.YtfpfloahkibcgaaGreatDoorPkK
namespace Go.Proofs.YtfpfloahkibcgaaGreatDoor
open Go.RowKit Go.Maps

theorem plB_at (f g : Nat → Bool) : ∀ (k i : Nat), i < k → f i = true → g i = true → (plB f g k)[(plB f g i).length]? = some i
  | 0, i, h, _, _ => absurd h (Nat.not_lt_zero _)
  | k + 1, i, h, hf, hg => by
    rw [plB_succ]
    by_cases e : i = k
    · subst e
      rw [hf, hg, List.getElem?_append_right (Nat.le_refl _), Nat.sub_self]
      rfl
    · have ih := plB_at f g k i (by omega) hf hg
      rw [List.getElem?_append_left (List.getElem?_eq_some_iff.1 ih).1, ih]
theorem plB_mem {f g : Nat → Bool} {k i : Nat} (h : i ∈ plB f g k) : i < k := List.mem_range.1 (List.mem_filter.1 h).1
theorem langB_in (s : Shp) (t : Txt) : langB s.make t = @decide (s.InS t) (Classical.propDecidable _) := by
  rw [Bool.eq_iff_iff, langB_iff, @decide_eq_true_iff _ (Classical.propDecidable _)]
  exact make_lang s t
theorem count_few' {s : Shp} {m : Nat} (h : s.count 0 ≤ m) (hm : m ≤ 30) : s.few = true := decide_eq_true (Nat.le_trans h hm)
def BoxP (w : World) (g : Nat) (s : Shp) (A : Option Addr) (c : Nat) : Prop := w.cell? ⟨g, 0, none⟩ = some (.int .i64 s.op) ∧ w.cell? ⟨g, 1, none⟩ = some (.int .u8 s.low) ∧ w.cell? ⟨g, 2, none⟩ = some (.int .u8 s.high) ∧ w.cell? ⟨g, 3, none⟩ = some (.string s.text) ∧ w.cell? ⟨g, 4, none⟩ = some (.slice A s.kids.length c)
set_option maxRecDepth 100000 in
set_option maxHeartbeats 40000000 in
theorem splitPlaces_any (s : Shp) (A : Option Addr) (c : Nat) (u : Shp) (B : Option Addr) (d : Nat) (zs : List Int) (N : Option Addr) (m z : Nat) (n : Int) (w : World) (hs : ShAt w s (A, c)) (hu : ShAt w u (B, d)) (hz : Nums w N m zs) (hm : m ≤ 9223372036854775807) (hT : Tab w) :
    Calls Tryz.prog 3 #[s.val A c, u.val B d, .slice N m z, .int .i64 n] w fun e w' => e = .returned (.bool true) ∧ Below w.heap.size w w' := by
  have HC1 : Hid (∀ W, Below w.heap.size w W → Calls Tryz.prog 16 #[s.val A c, .int .i64 0] W fun e w' => e = .returned (.int .i64 (s.count 0)) ∧ Below W.heap.size W w') := hid (fun W (hW : Below w.heap.size w W) => count_any s A c 0 W (hs.under hW) (by omega))
  have HC2 : Hid (∀ W, Below w.heap.size w W → Calls Tryz.prog 16 #[u.val B d, .int .i64 0] W fun e w' => e = .returned (.int .i64 (u.count 0)) ∧ Below W.heap.size W w') := hid (fun W (hW : Below w.heap.size w W) => count_any u B d 0 W (hu.under hW) (by omega))
  obtain ⟨q1, hq1⟩ : ∃ q, q = s.count 0 := ⟨_, rfl⟩
  obtain ⟨q2, hq2⟩ : ∃ q, q = u.count 0 := ⟨_, rfl⟩
  have HQ1 := hid hq1
  have HQ2 := hid hq2
  rw [← hq1] at HC1
  rw [← hq2] at HC2
  have HS := hid hs
  have HU := hid hu
  have HZ := hid hz
  have HT := hid hT
  clear hs hu hz hq1 hq2 hT
  unfold Shp.val at *
  go_enter Tryz.func3, Tryz.ntmps3
  go_wp2_with fail
  obtain ⟨w2, hw2⟩ : ∃ w2 : World, w2 = (w.alloc (.cells #[Value.int IntKind.i64 s.op, Value.int IntKind.u8 ↑s.low, Value.int IntKind.u8 ↑s.high, Value.string s.text, Value.slice A s.kids.length c] 24)).alloc (.cells #[Value.int IntKind.i64 u.op, Value.int IntKind.u8 ↑u.low, Value.int IntKind.u8 ↑u.high, Value.string u.text, Value.slice B u.kids.length d] 24) := ⟨_, rfl⟩
  obtain ⟨g1, hg1⟩ : ∃ g, g = w.heap.size := ⟨_, rfl⟩
  rw [← hw2, ← hg1]
  have HB2 : Hid (Below w.heap.size w w2) := hid (by rw [hw2]; exact ((Below.refl _ _).alloc (Nat.le_refl _) _).alloc (by simp) _)
  have hk1 : w2.heap[g1]? = some (.cells #[Value.int IntKind.i64 s.op, Value.int IntKind.u8 ↑s.low, Value.int IntKind.u8 ↑s.high, Value.string s.text, Value.slice A s.kids.length c] 24) := by rw [hw2, hg1]; exact blk_alloc (blk_new w _) _
  have hk2 : w2.heap[g1 + 1]? = some (.cells #[Value.int IntKind.i64 u.op, Value.int IntKind.u8 ↑u.low, Value.int IntKind.u8 ↑u.high, Value.string u.text, Value.slice B u.kids.length d] 24) := by
    rw [hw2, hg1]
    have := blk_new (w.alloc (.cells #[Value.int IntKind.i64 s.op, Value.int IntKind.u8 ↑s.low, Value.int IntKind.u8 ↑s.high, Value.string s.text, Value.slice A s.kids.length c] 24)) (.cells #[Value.int IntKind.i64 u.op, Value.int IntKind.u8 ↑u.low, Value.int IntKind.u8 ↑u.high, Value.string u.text, Value.slice B u.kids.length d] 24)
    simpa using this
  obtain ⟨g2, hg2⟩ : ∃ g, g = g1 + 1 := ⟨_, rfl⟩
  rw [← hg2] at hk2 ⊢
  have HBX : Hid (∀ W, Below w2.heap.size w2 W → BoxP W g1 s A c ∧ BoxP W g2 u B d) := hid (fun W hW => by
    have h1 := blk_below hk1 hW
    have h2 := blk_below hk2 hW
    exact ⟨⟨(blk_cell h1 0).trans (by simp), (blk_cell h1 1).trans (by simp), (blk_cell h1 2).trans (by simp), (blk_cell h1 3).trans (by simp), (blk_cell h1 4).trans (by simp)⟩, ⟨(blk_cell h2 0).trans (by simp), (blk_cell h2 1).trans (by simp), (blk_cell h2 2).trans (by simp), (blk_cell h2 3).trans (by simp), (blk_cell h2 4).trans (by simp)⟩⟩)
  have HNOW : Hid (Below w2.heap.size w2 w2) := Below.refl _ _
  have HHE := hid (head9_any w2 (HT.out.below HB2.out))
  clear hw2 hk1 hk2 hg1 hg2
  by_cases h15 : 15 < q1
  · have hd1 : (15 : Int) < (q1 : Int) := by omega
    go_wp2_with (first | (go_at_call 15; refine HHE.out.mono ?_; rintro e w3 ⟨rfl, hb1⟩; (first | (have hb1 := undrew hb1) | skip); have HNOW := hid (HNOW.out.trans (hb1.mono HNOW.out.size)); obtain ⟨⟨x0, x1, x2, x3, x4⟩, ⟨y0, y1, y2, y3, y4⟩⟩ := HBX.out _ HNOW.out; (first | (have HK1 := hid (HK1.out.under hb1)) | skip); (first | (have HK2 := hid (HK2.out.under hb1)) | skip); clear hb1) | (go_at_call 16; (with_reducible refine (HC1.out _ (HB2.out.trans (HNOW.out.mono HB2.out.size))).mono ?_); rintro e w4 ⟨rfl, hb1⟩; (first | (have hb1 := undrew hb1) | skip); have HNOW := hid (HNOW.out.trans (hb1.mono HNOW.out.size)); obtain ⟨⟨x0, x1, x2, x3, x4⟩, ⟨y0, y1, y2, y3, y4⟩⟩ := HBX.out _ HNOW.out; (first | (have HK1 := hid (HK1.out.under hb1)) | skip); (first | (have HK2 := hid (HK2.out.under hb1)) | skip); clear hb1) | (go_at_call 16; (with_reducible refine (HC2.out _ (HB2.out.trans (HNOW.out.mono HB2.out.size))).mono ?_); rintro e w4 ⟨rfl, hb1⟩; (first | (have hb1 := undrew hb1) | skip); have HNOW := hid (HNOW.out.trans (hb1.mono HNOW.out.size)); obtain ⟨⟨x0, x1, x2, x3, x4⟩, ⟨y0, y1, y2, y3, y4⟩⟩ := HBX.out _ HNOW.out; (first | (have HK1 := hid (HK1.out.under hb1)) | skip); (first | (have HK2 := hid (HK2.out.under hb1)) | skip); clear hb1))
    go_ret
    exact ⟨rfl, HB2.out.trans (HNOW.out.mono HB2.out.size)⟩
  have hd1 : ¬ (15 : Int) < (q1 : Int) := by omega
  by_cases h16 : 15 < q2
  · have hd2 : (15 : Int) < (q2 : Int) := by omega
    go_wp2_with (first | (go_at_call 15; refine HHE.out.mono ?_; rintro e w3 ⟨rfl, hb1⟩; (first | (have hb1 := undrew hb1) | skip); have HNOW := hid (HNOW.out.trans (hb1.mono HNOW.out.size)); obtain ⟨⟨x0, x1, x2, x3, x4⟩, ⟨y0, y1, y2, y3, y4⟩⟩ := HBX.out _ HNOW.out; (first | (have HK1 := hid (HK1.out.under hb1)) | skip); (first | (have HK2 := hid (HK2.out.under hb1)) | skip); clear hb1) | (go_at_call 16; (with_reducible refine (HC1.out _ (HB2.out.trans (HNOW.out.mono HB2.out.size))).mono ?_); rintro e w4 ⟨rfl, hb1⟩; (first | (have hb1 := undrew hb1) | skip); have HNOW := hid (HNOW.out.trans (hb1.mono HNOW.out.size)); obtain ⟨⟨x0, x1, x2, x3, x4⟩, ⟨y0, y1, y2, y3, y4⟩⟩ := HBX.out _ HNOW.out; (first | (have HK1 := hid (HK1.out.under hb1)) | skip); (first | (have HK2 := hid (HK2.out.under hb1)) | skip); clear hb1) | (go_at_call 16; (with_reducible refine (HC2.out _ (HB2.out.trans (HNOW.out.mono HB2.out.size))).mono ?_); rintro e w4 ⟨rfl, hb1⟩; (first | (have hb1 := undrew hb1) | skip); have HNOW := hid (HNOW.out.trans (hb1.mono HNOW.out.size)); obtain ⟨⟨x0, x1, x2, x3, x4⟩, ⟨y0, y1, y2, y3, y4⟩⟩ := HBX.out _ HNOW.out; (first | (have HK1 := hid (HK1.out.under hb1)) | skip); (first | (have HK2 := hid (HK2.out.under hb1)) | skip); clear hb1))
    go_ret
    exact ⟨rfl, HB2.out.trans (HNOW.out.mono HB2.out.size)⟩
  have hd2 : ¬ (15 : Int) < (q2 : Int) := by omega
  by_cases hm6 : 6 < m
  · have hd3 : (6 : Int) < (m : Int) := by omega
    go_wp2_with (first | (go_at_call 15; refine HHE.out.mono ?_; rintro e w3 ⟨rfl, hb1⟩; (first | (have hb1 := undrew hb1) | skip); have HNOW := hid (HNOW.out.trans (hb1.mono HNOW.out.size)); obtain ⟨⟨x0, x1, x2, x3, x4⟩, ⟨y0, y1, y2, y3, y4⟩⟩ := HBX.out _ HNOW.out; (first | (have HK1 := hid (HK1.out.under hb1)) | skip); (first | (have HK2 := hid (HK2.out.under hb1)) | skip); clear hb1) | (go_at_call 16; (with_reducible refine (HC1.out _ (HB2.out.trans (HNOW.out.mono HB2.out.size))).mono ?_); rintro e w4 ⟨rfl, hb1⟩; (first | (have hb1 := undrew hb1) | skip); have HNOW := hid (HNOW.out.trans (hb1.mono HNOW.out.size)); obtain ⟨⟨x0, x1, x2, x3, x4⟩, ⟨y0, y1, y2, y3, y4⟩⟩ := HBX.out _ HNOW.out; (first | (have HK1 := hid (HK1.out.under hb1)) | skip); (first | (have HK2 := hid (HK2.out.under hb1)) | skip); clear hb1) | (go_at_call 16; (with_reducible refine (HC2.out _ (HB2.out.trans (HNOW.out.mono HB2.out.size))).mono ?_); rintro e w4 ⟨rfl, hb1⟩; (first | (have hb1 := undrew hb1) | skip); have HNOW := hid (HNOW.out.trans (hb1.mono HNOW.out.size)); obtain ⟨⟨x0, x1, x2, x3, x4⟩, ⟨y0, y1, y2, y3, y4⟩⟩ := HBX.out _ HNOW.out; (first | (have HK1 := hid (HK1.out.under hb1)) | skip); (first | (have HK2 := hid (HK2.out.under hb1)) | skip); clear hb1))
    go_ret
    exact ⟨rfl, HB2.out.trans (HNOW.out.mono HB2.out.size)⟩
  have hd3 : ¬ (6 : Int) < (m : Int) := by omega
  have hf1 : s.few = true := count_few' (m := 15) (by rw [← HQ1.out]; omega) (by decide)
  have hf2 : u.few = true := count_few' (m := 15) (by rw [← HQ2.out]; omega) (by decide)
  have hss := Shp.few_small hf1
  have hsu := Shp.few_small hf2
  have HM1 : Hid (∀ W, Below w.heap.size w W → Calls Tryz.prog 18 #[.agg #[.int .i64 s.op, .int .u8 s.low, .int .u8 s.high, .string s.text, .slice A s.kids.length c]] W (RetRe W X0 s.make)) := fun W hW => make_any s A c X0 W (HS.out.under hW) (X0_lt W) hss.2 (Nat.le_trans hss.1 (by decide))
  have HM2 : Hid (∀ W, Below w.heap.size w W → Calls Tryz.prog 18 #[.agg #[.int .i64 u.op, .int .u8 u.low, .int .u8 u.high, .string u.text, .slice B u.kids.length d]] W (RetRe W X0 u.make)) := fun W hW => make_any u B d X0 W (HU.out.under hW) (X0_lt W) hsu.2 (Nat.le_trans hsu.1 (by decide))
  have hx1 : s.make.size ≤ 660 := few_size hf1
  have hx2 : u.make.size ≤ 660 := few_size hf2
  have HGR := hid (fun W => grant_any 400 400 rfl W)
  have HBA := hid (fun w0 W b (h : ReAt w0 X0 s.make b) hb hB hT => side_any s.make (Shp.make_good s) (by omega) 400 (by omega) w0 W b h hb hB hT)
  have HBB := hid (fun w0 W b (h : ReAt w0 X0 u.make b) hb hB hT => side_any u.make (Shp.make_good u) (by omega) 400 (by omega) w0 W b h hb hB hT)
  clear hss hsu hf1 hf2 hx1 hx2
  obtain ⟨v1, hv1⟩ : ∃ v, v = sideB s.make 400 := ⟨_, rfl⟩
  obtain ⟨v2, hv2⟩ : ∃ v, v = sideB u.make 400 := ⟨_, rfl⟩
  rw [← hv1] at HBA
  rw [← hv2] at HBB
  clear hv1 hv2
  unfold ptr at *
  cases v1
  · simp only [Bool.false_eq_true, if_false] at HBA
    cases v2
    · simp only [Bool.false_eq_true, if_false] at HBB
      go_wp2_with (first | (go_at_call 15; refine HHE.out.mono ?_; rintro e w3 ⟨rfl, hb1⟩; (first | (have hb1 := undrew hb1) | skip); have HNOW := hid (HNOW.out.trans (hb1.mono HNOW.out.size)); obtain ⟨⟨x0, x1, x2, x3, x4⟩, ⟨y0, y1, y2, y3, y4⟩⟩ := HBX.out _ HNOW.out; (first | (have HK1 := hid (HK1.out.under hb1)) | skip); (first | (have HK2 := hid (HK2.out.under hb1)) | skip); clear hb1) | (go_at_call 16; (with_reducible refine (HC1.out _ (HB2.out.trans (HNOW.out.mono HB2.out.size))).mono ?_); rintro e w4 ⟨rfl, hb1⟩; (first | (have hb1 := undrew hb1) | skip); have HNOW := hid (HNOW.out.trans (hb1.mono HNOW.out.size)); obtain ⟨⟨x0, x1, x2, x3, x4⟩, ⟨y0, y1, y2, y3, y4⟩⟩ := HBX.out _ HNOW.out; (first | (have HK1 := hid (HK1.out.under hb1)) | skip); (first | (have HK2 := hid (HK2.out.under hb1)) | skip); clear hb1) | (go_at_call 16; (with_reducible refine (HC2.out _ (HB2.out.trans (HNOW.out.mono HB2.out.size))).mono ?_); rintro e w4 ⟨rfl, hb1⟩; (first | (have hb1 := undrew hb1) | skip); have HNOW := hid (HNOW.out.trans (hb1.mono HNOW.out.size)); obtain ⟨⟨x0, x1, x2, x3, x4⟩, ⟨y0, y1, y2, y3, y4⟩⟩ := HBX.out _ HNOW.out; (first | (have HK1 := hid (HK1.out.under hb1)) | skip); (first | (have HK2 := hid (HK2.out.under hb1)) | skip); clear hb1) | (go_at_call 18; (with_reducible refine (HM1.out _ (HB2.out.trans (HNOW.out.mono HB2.out.size))).mono ?_); rintro e w5 ⟨bx, rfl, hre, hb1⟩; (first | (have hb1 := undrew hb1) | skip); have HNOW := hid (HNOW.out.trans (hb1.mono HNOW.out.size)); obtain ⟨⟨x0, x1, x2, x3, x4⟩, ⟨y0, y1, y2, y3, y4⟩⟩ := HBX.out _ HNOW.out; (first | (have HK1 := hid (HK1.out.under hb1)) | skip); (first | (have HK2 := hid (HK2.out.under hb1)) | skip); clear hb1; have HRX := hid hre; clear hre HM1) | (go_at_call 19; refine (HGR.out _).mono ?_; rintro e w6 ⟨rfl, h6, hb1⟩; have HBD1 := hid (HBA.out _ _ _ HRX.out hb1 h6 (HT.out.below (HB2.out.trans (HNOW.out.mono HB2.out.size)))); clear h6 hb1 HRX HBA) | (go_at_call 17; refine HBD1.out.mono ?_; rintro e w7 ⟨hb1, rfl⟩; (first | (have hb1 := undrew hb1) | skip); have HNOW := hid (HNOW.out.trans (hb1.mono HNOW.out.size)); obtain ⟨⟨x0, x1, x2, x3, x4⟩, ⟨y0, y1, y2, y3, y4⟩⟩ := HBX.out _ HNOW.out; (first | (have HK1 := hid (HK1.out.under hb1)) | skip); (first | (have HK2 := hid (HK2.out.under hb1)) | skip); clear hb1; clear HBD1) | (go_at_call 18; (with_reducible refine (HM2.out _ (HB2.out.trans (HNOW.out.mono HB2.out.size))).mono ?_); rintro e w5 ⟨bx2, rfl, hre, hb1⟩; (first | (have hb1 := undrew hb1) | skip); have HNOW := hid (HNOW.out.trans (hb1.mono HNOW.out.size)); obtain ⟨⟨x0, x1, x2, x3, x4⟩, ⟨y0, y1, y2, y3, y4⟩⟩ := HBX.out _ HNOW.out; (first | (have HK1 := hid (HK1.out.under hb1)) | skip); (first | (have HK2 := hid (HK2.out.under hb1)) | skip); clear hb1; have HRX := hid hre; clear hre HM2) | (go_at_call 19; refine (HGR.out _).mono ?_; rintro e w6 ⟨rfl, h6, hb1⟩; have HBD2 := hid (HBB.out _ _ _ HRX.out hb1 h6 (HT.out.below (HB2.out.trans (HNOW.out.mono HB2.out.size)))); clear h6 hb1 HRX HBB) | (go_at_call 17; refine HBD2.out.mono ?_; rintro e w7 ⟨hb1, rfl⟩; (first | (have hb1 := undrew hb1) | skip); have HNOW := hid (HNOW.out.trans (hb1.mono HNOW.out.size)); obtain ⟨⟨x0, x1, x2, x3, x4⟩, ⟨y0, y1, y2, y3, y4⟩⟩ := HBX.out _ HNOW.out; (first | (have HK1 := hid (HK1.out.under hb1)) | skip); (first | (have HK2 := hid (HK2.out.under hb1)) | skip); clear hb1; clear HBD2))
      go_ret
      exact ⟨rfl, HB2.out.trans (HNOW.out.mono HB2.out.size)⟩
    · simp only [if_true] at HBB
      go_wp2_with (first | (go_at_call 15; refine HHE.out.mono ?_; rintro e w3 ⟨rfl, hb1⟩; (first | (have hb1 := undrew hb1) | skip); have HNOW := hid (HNOW.out.trans (hb1.mono HNOW.out.size)); obtain ⟨⟨x0, x1, x2, x3, x4⟩, ⟨y0, y1, y2, y3, y4⟩⟩ := HBX.out _ HNOW.out; (first | (have HK1 := hid (HK1.out.under hb1)) | skip); (first | (have HK2 := hid (HK2.out.under hb1)) | skip); clear hb1) | (go_at_call 16; (with_reducible refine (HC1.out _ (HB2.out.trans (HNOW.out.mono HB2.out.size))).mono ?_); rintro e w4 ⟨rfl, hb1⟩; (first | (have hb1 := undrew hb1) | skip); have HNOW := hid (HNOW.out.trans (hb1.mono HNOW.out.size)); obtain ⟨⟨x0, x1, x2, x3, x4⟩, ⟨y0, y1, y2, y3, y4⟩⟩ := HBX.out _ HNOW.out; (first | (have HK1 := hid (HK1.out.under hb1)) | skip); (first | (have HK2 := hid (HK2.out.under hb1)) | skip); clear hb1) | (go_at_call 16; (with_reducible refine (HC2.out _ (HB2.out.trans (HNOW.out.mono HB2.out.size))).mono ?_); rintro e w4 ⟨rfl, hb1⟩; (first | (have hb1 := undrew hb1) | skip); have HNOW := hid (HNOW.out.trans (hb1.mono HNOW.out.size)); obtain ⟨⟨x0, x1, x2, x3, x4⟩, ⟨y0, y1, y2, y3, y4⟩⟩ := HBX.out _ HNOW.out; (first | (have HK1 := hid (HK1.out.under hb1)) | skip); (first | (have HK2 := hid (HK2.out.under hb1)) | skip); clear hb1) | (go_at_call 18; (with_reducible refine (HM1.out _ (HB2.out.trans (HNOW.out.mono HB2.out.size))).mono ?_); rintro e w5 ⟨bx, rfl, hre, hb1⟩; (first | (have hb1 := undrew hb1) | skip); have HNOW := hid (HNOW.out.trans (hb1.mono HNOW.out.size)); obtain ⟨⟨x0, x1, x2, x3, x4⟩, ⟨y0, y1, y2, y3, y4⟩⟩ := HBX.out _ HNOW.out; (first | (have HK1 := hid (HK1.out.under hb1)) | skip); (first | (have HK2 := hid (HK2.out.under hb1)) | skip); clear hb1; have HRX := hid hre; clear hre HM1) | (go_at_call 19; refine (HGR.out _).mono ?_; rintro e w6 ⟨rfl, h6, hb1⟩; have HBD1 := hid (HBA.out _ _ _ HRX.out hb1 h6 (HT.out.below (HB2.out.trans (HNOW.out.mono HB2.out.size)))); clear h6 hb1 HRX HBA) | (go_at_call 17; refine HBD1.out.mono ?_; rintro e w7 ⟨hb1, rfl⟩; (first | (have hb1 := undrew hb1) | skip); have HNOW := hid (HNOW.out.trans (hb1.mono HNOW.out.size)); obtain ⟨⟨x0, x1, x2, x3, x4⟩, ⟨y0, y1, y2, y3, y4⟩⟩ := HBX.out _ HNOW.out; (first | (have HK1 := hid (HK1.out.under hb1)) | skip); (first | (have HK2 := hid (HK2.out.under hb1)) | skip); clear hb1; clear HBD1) | (go_at_call 18; (with_reducible refine (HM2.out _ (HB2.out.trans (HNOW.out.mono HB2.out.size))).mono ?_); rintro e w5 ⟨bx2, rfl, hre, hb1⟩; (first | (have hb1 := undrew hb1) | skip); have HNOW := hid (HNOW.out.trans (hb1.mono HNOW.out.size)); obtain ⟨⟨x0, x1, x2, x3, x4⟩, ⟨y0, y1, y2, y3, y4⟩⟩ := HBX.out _ HNOW.out; (first | (have HK1 := hid (HK1.out.under hb1)) | skip); (first | (have HK2 := hid (HK2.out.under hb1)) | skip); clear hb1; have HRX := hid hre; clear hre HM2) | (go_at_call 19; refine (HGR.out _).mono ?_; rintro e w6 ⟨rfl, h6, hb1⟩; have HBD2 := hid (HBB.out _ _ _ HRX.out hb1 h6 (HT.out.below (HB2.out.trans (HNOW.out.mono HB2.out.size)))); clear h6 hb1 HRX HBB) | (go_at_call 17; refine HBD2.out.mono ?_; rintro e w7 ⟨hb1, S2, rfl, hk2⟩; (first | (have hb1 := undrew hb1) | skip); have HNOW := hid (HNOW.out.trans (hb1.mono HNOW.out.size)); obtain ⟨⟨x0, x1, x2, x3, x4⟩, ⟨y0, y1, y2, y3, y4⟩⟩ := HBX.out _ HNOW.out; (first | (have HK1 := hid (HK1.out.under hb1)) | skip); (first | (have HK2 := hid (HK2.out.under hb1)) | skip); clear hb1; have HK2 := hid hk2; clear hk2 HBD2))
      go_ret
      exact ⟨rfl, HB2.out.trans (HNOW.out.mono HB2.out.size)⟩
  simp only [if_true] at HBA
  cases v2
  · simp only [Bool.false_eq_true, if_false] at HBB
    go_wp2_with (first | (go_at_call 15; refine HHE.out.mono ?_; rintro e w3 ⟨rfl, hb1⟩; (first | (have hb1 := undrew hb1) | skip); have HNOW := hid (HNOW.out.trans (hb1.mono HNOW.out.size)); obtain ⟨⟨x0, x1, x2, x3, x4⟩, ⟨y0, y1, y2, y3, y4⟩⟩ := HBX.out _ HNOW.out; (first | (have HK1 := hid (HK1.out.under hb1)) | skip); (first | (have HK2 := hid (HK2.out.under hb1)) | skip); clear hb1) | (go_at_call 16; (with_reducible refine (HC1.out _ (HB2.out.trans (HNOW.out.mono HB2.out.size))).mono ?_); rintro e w4 ⟨rfl, hb1⟩; (first | (have hb1 := undrew hb1) | skip); have HNOW := hid (HNOW.out.trans (hb1.mono HNOW.out.size)); obtain ⟨⟨x0, x1, x2, x3, x4⟩, ⟨y0, y1, y2, y3, y4⟩⟩ := HBX.out _ HNOW.out; (first | (have HK1 := hid (HK1.out.under hb1)) | skip); (first | (have HK2 := hid (HK2.out.under hb1)) | skip); clear hb1) | (go_at_call 16; (with_reducible refine (HC2.out _ (HB2.out.trans (HNOW.out.mono HB2.out.size))).mono ?_); rintro e w4 ⟨rfl, hb1⟩; (first | (have hb1 := undrew hb1) | skip); have HNOW := hid (HNOW.out.trans (hb1.mono HNOW.out.size)); obtain ⟨⟨x0, x1, x2, x3, x4⟩, ⟨y0, y1, y2, y3, y4⟩⟩ := HBX.out _ HNOW.out; (first | (have HK1 := hid (HK1.out.under hb1)) | skip); (first | (have HK2 := hid (HK2.out.under hb1)) | skip); clear hb1) | (go_at_call 18; (with_reducible refine (HM1.out _ (HB2.out.trans (HNOW.out.mono HB2.out.size))).mono ?_); rintro e w5 ⟨bx, rfl, hre, hb1⟩; (first | (have hb1 := undrew hb1) | skip); have HNOW := hid (HNOW.out.trans (hb1.mono HNOW.out.size)); obtain ⟨⟨x0, x1, x2, x3, x4⟩, ⟨y0, y1, y2, y3, y4⟩⟩ := HBX.out _ HNOW.out; (first | (have HK1 := hid (HK1.out.under hb1)) | skip); (first | (have HK2 := hid (HK2.out.under hb1)) | skip); clear hb1; have HRX := hid hre; clear hre HM1) | (go_at_call 19; refine (HGR.out _).mono ?_; rintro e w6 ⟨rfl, h6, hb1⟩; have HBD1 := hid (HBA.out _ _ _ HRX.out hb1 h6 (HT.out.below (HB2.out.trans (HNOW.out.mono HB2.out.size)))); clear h6 hb1 HRX HBA) | (go_at_call 17; refine HBD1.out.mono ?_; rintro e w7 ⟨hb1, S1, rfl, hk1⟩; (first | (have hb1 := undrew hb1) | skip); have HNOW := hid (HNOW.out.trans (hb1.mono HNOW.out.size)); obtain ⟨⟨x0, x1, x2, x3, x4⟩, ⟨y0, y1, y2, y3, y4⟩⟩ := HBX.out _ HNOW.out; (first | (have HK1 := hid (HK1.out.under hb1)) | skip); (first | (have HK2 := hid (HK2.out.under hb1)) | skip); clear hb1; have HK1 := hid hk1; clear hk1 HBD1) | (go_at_call 18; (with_reducible refine (HM2.out _ (HB2.out.trans (HNOW.out.mono HB2.out.size))).mono ?_); rintro e w5 ⟨bx2, rfl, hre, hb1⟩; (first | (have hb1 := undrew hb1) | skip); have HNOW := hid (HNOW.out.trans (hb1.mono HNOW.out.size)); obtain ⟨⟨x0, x1, x2, x3, x4⟩, ⟨y0, y1, y2, y3, y4⟩⟩ := HBX.out _ HNOW.out; (first | (have HK1 := hid (HK1.out.under hb1)) | skip); (first | (have HK2 := hid (HK2.out.under hb1)) | skip); clear hb1; have HRX := hid hre; clear hre HM2) | (go_at_call 19; refine (HGR.out _).mono ?_; rintro e w6 ⟨rfl, h6, hb1⟩; have HBD2 := hid (HBB.out _ _ _ HRX.out hb1 h6 (HT.out.below (HB2.out.trans (HNOW.out.mono HB2.out.size)))); clear h6 hb1 HRX HBB) | (go_at_call 17; refine HBD2.out.mono ?_; rintro e w7 ⟨hb1, rfl⟩; (first | (have hb1 := undrew hb1) | skip); have HNOW := hid (HNOW.out.trans (hb1.mono HNOW.out.size)); obtain ⟨⟨x0, x1, x2, x3, x4⟩, ⟨y0, y1, y2, y3, y4⟩⟩ := HBX.out _ HNOW.out; (first | (have HK1 := hid (HK1.out.under hb1)) | skip); (first | (have HK2 := hid (HK2.out.under hb1)) | skip); clear hb1; clear HBD2))
    go_ret
    exact ⟨rfl, HB2.out.trans (HNOW.out.mono HB2.out.size)⟩
  simp only [if_true] at HBB
  obtain ⟨tx, htx⟩ : ∃ tx : ByteArray, tx = ⟨(letters zs).toArray⟩ := ⟨_, rfl⟩
  have hts : tx.size = m := by
    have h1 : tx.size = (letters zs).length := by rw [htx]; rfl
    have h2 : (letters zs).length = zs.length := by simp [letters]
    have h3 : zs.length = m := HZ.out.1
    omega
  have HSO : Hid (∀ W, Below w.heap.size w W → Calls Tryz.prog 20 #[.slice N m z] W fun e w' => e = .returned (.string tx) ∧ Below W.heap.size W w') := fun W hW => by
    rw [htx]; exact some_any N m z zs W (HZ.out.below hW) (by omega)
  clear htx
  have HF1 := hid (fun W => fill_any (2 * ((m : Int) + 1)) (2 * (m + 1)) (by omega) W)
  go_wp2_with (first | (go_at_call 15; refine HHE.out.mono ?_; rintro e w3 ⟨rfl, hb1⟩; (first | (have hb1 := undrew hb1) | skip); have HNOW := hid (HNOW.out.trans (hb1.mono HNOW.out.size)); obtain ⟨⟨x0, x1, x2, x3, x4⟩, ⟨y0, y1, y2, y3, y4⟩⟩ := HBX.out _ HNOW.out; (first | (have HK1 := hid (HK1.out.under hb1)) | skip); (first | (have HK2 := hid (HK2.out.under hb1)) | skip); clear hb1) | (go_at_call 16; (with_reducible refine (HC1.out _ (HB2.out.trans (HNOW.out.mono HB2.out.size))).mono ?_); rintro e w4 ⟨rfl, hb1⟩; (first | (have hb1 := undrew hb1) | skip); have HNOW := hid (HNOW.out.trans (hb1.mono HNOW.out.size)); obtain ⟨⟨x0, x1, x2, x3, x4⟩, ⟨y0, y1, y2, y3, y4⟩⟩ := HBX.out _ HNOW.out; (first | (have HK1 := hid (HK1.out.under hb1)) | skip); (first | (have HK2 := hid (HK2.out.under hb1)) | skip); clear hb1) | (go_at_call 16; (with_reducible refine (HC2.out _ (HB2.out.trans (HNOW.out.mono HB2.out.size))).mono ?_); rintro e w4 ⟨rfl, hb1⟩; (first | (have hb1 := undrew hb1) | skip); have HNOW := hid (HNOW.out.trans (hb1.mono HNOW.out.size)); obtain ⟨⟨x0, x1, x2, x3, x4⟩, ⟨y0, y1, y2, y3, y4⟩⟩ := HBX.out _ HNOW.out; (first | (have HK1 := hid (HK1.out.under hb1)) | skip); (first | (have HK2 := hid (HK2.out.under hb1)) | skip); clear hb1) | (go_at_call 18; (with_reducible refine (HM1.out _ (HB2.out.trans (HNOW.out.mono HB2.out.size))).mono ?_); rintro e w5 ⟨bx, rfl, hre, hb1⟩; (first | (have hb1 := undrew hb1) | skip); have HNOW := hid (HNOW.out.trans (hb1.mono HNOW.out.size)); obtain ⟨⟨x0, x1, x2, x3, x4⟩, ⟨y0, y1, y2, y3, y4⟩⟩ := HBX.out _ HNOW.out; (first | (have HK1 := hid (HK1.out.under hb1)) | skip); (first | (have HK2 := hid (HK2.out.under hb1)) | skip); clear hb1; have HRX := hid hre; clear hre HM1) | (go_at_call 19; refine (HGR.out _).mono ?_; rintro e w6 ⟨rfl, h6, hb1⟩; have HBD1 := hid (HBA.out _ _ _ HRX.out hb1 h6 (HT.out.below (HB2.out.trans (HNOW.out.mono HB2.out.size)))); clear h6 hb1 HRX HBA) | (go_at_call 17; refine HBD1.out.mono ?_; rintro e w7 ⟨hb1, S1, rfl, hk1⟩; (first | (have hb1 := undrew hb1) | skip); have HNOW := hid (HNOW.out.trans (hb1.mono HNOW.out.size)); obtain ⟨⟨x0, x1, x2, x3, x4⟩, ⟨y0, y1, y2, y3, y4⟩⟩ := HBX.out _ HNOW.out; (first | (have HK1 := hid (HK1.out.under hb1)) | skip); (first | (have HK2 := hid (HK2.out.under hb1)) | skip); clear hb1; have HK1 := hid hk1; clear hk1 HBD1) | (go_at_call 18; (with_reducible refine (HM2.out _ (HB2.out.trans (HNOW.out.mono HB2.out.size))).mono ?_); rintro e w5 ⟨bx2, rfl, hre, hb1⟩; (first | (have hb1 := undrew hb1) | skip); have HNOW := hid (HNOW.out.trans (hb1.mono HNOW.out.size)); obtain ⟨⟨x0, x1, x2, x3, x4⟩, ⟨y0, y1, y2, y3, y4⟩⟩ := HBX.out _ HNOW.out; (first | (have HK1 := hid (HK1.out.under hb1)) | skip); (first | (have HK2 := hid (HK2.out.under hb1)) | skip); clear hb1; have HRX := hid hre; clear hre HM2) | (go_at_call 19; refine (HGR.out _).mono ?_; rintro e w6 ⟨rfl, h6, hb1⟩; have HBD2 := hid (HBB.out _ _ _ HRX.out hb1 h6 (HT.out.below (HB2.out.trans (HNOW.out.mono HB2.out.size)))); clear h6 hb1 HRX HBB) | (go_at_call 17; refine HBD2.out.mono ?_; rintro e w7 ⟨hb1, S2, rfl, hk2⟩; (first | (have hb1 := undrew hb1) | skip); have HNOW := hid (HNOW.out.trans (hb1.mono HNOW.out.size)); obtain ⟨⟨x0, x1, x2, x3, x4⟩, ⟨y0, y1, y2, y3, y4⟩⟩ := HBX.out _ HNOW.out; (first | (have HK1 := hid (HK1.out.under hb1)) | skip); (first | (have HK2 := hid (HK2.out.under hb1)) | skip); clear hb1; have HK2 := hid hk2; clear hk2 HBD2) | (go_at_call 20; refine (HSO.out _ (HB2.out.trans (HNOW.out.mono HB2.out.size))).mono ?_; rintro e w8 ⟨rfl, hb1⟩; (first | (have hb1 := undrew hb1) | skip); have HNOW := hid (HNOW.out.trans (hb1.mono HNOW.out.size)); obtain ⟨⟨x0, x1, x2, x3, x4⟩, ⟨y0, y1, y2, y3, y4⟩⟩ := HBX.out _ HNOW.out; (first | (have HK1 := hid (HK1.out.under hb1)) | skip); (first | (have HK2 := hid (HK2.out.under hb1)) | skip); clear hb1))
  obtain ⟨f, hf⟩ : ∃ f : Nat → Bool, f = fun i => langB s.make (tx.data.toList.take i) := ⟨_, rfl⟩
  obtain ⟨g, hg⟩ : ∃ g : Nat → Bool, g = fun i => langB u.make (tx.data.toList.drop i) := ⟨_, rfl⟩
  have HF := hid hf
  have HG := hid hg
  clear hf hg
  have HPL := hid (fun (F y : Nat) (W : World) (hF : w8.heap.size ≤ F) (hFu : FuelAt W F y 0) (hy : y ≤ 1000000) (hW : Below w8.heap.size w8 W) =>
    places_any S1 S2 F y 0 f g tx (by omega) W hFu (by omega) (by omega) (fun W' hW' => by rw [HF.out]; exact HK1.out.heads tx W' (by omega) (hW.trans (hW'.mono hF))) (fun W' hW' => by rw [HG.out]; exact HK2.out.tails tx W' (by omega) (hW.trans (hW'.mono hF))))
  simp only [hts] at HPL
  have HPL0 := HPL
  unfold PlRet at HPL
  have HB8 := hid (HB2.out.trans (HNOW.out.mono HB2.out.size))
  have HBX8 : Hid (∀ W, Below w8.heap.size w8 W → BoxP W g1 s A c ∧ BoxP W g2 u B d) := hid (fun W hW => HBX.out W (HNOW.out.trans (hW.mono HNOW.out.size)))
  clear HBX HNOW HSO HHE HC1 HC2 HQ1 HQ2 hd1 hd2 hd3 h15 h16
  have HBX := HBX8
  have HNOW : Hid (Below w8.heap.size w8 w8) := Below.refl _ _
  clear HBX8
  have HUS : Hid (∀ W F left, FuelAt W F left (0 + 2 * (m + 1)) → Calls Tryz.prog 23 #[ptr F] W fun e w' => e = .returned (.int .i64 (2 * ((m : Int) + 1))) ∧ W = w') := hid (fun W F left h => by
    have h2 := fused_any F left (0 + 2 * (m + 1)) W h
    rw [show ((0 + 2 * (m + 1) : Nat) : Int) = 2 * ((m : Int) + 1) by omega] at h2
    exact h2)
  have HNL := hid (natsV_len (plB f g (m + 1)))
  unfold ptr at *
  go_wp2_with (first
    | (go_at_call 21; refine (HF1.out _).mono ?_; rintro e w10 ⟨rfl, h10, hb1⟩; have HFU := hid h10; have HNOW := hid (HNOW.out.trans hb1); obtain ⟨⟨x0, x1, x2, x3, x4⟩, ⟨y0, y1, y2, y3, y4⟩⟩ := HBX.out _ HNOW.out; clear hb1; clear h10)
    | (go_at_call 22; refine (HPL.out _ _ _ (Nat.le_refl _) HFU.out (by omega) HNOW.out).mono ?_; rintro e w11 ⟨hb1, hret⟩; rw [if_pos (Nat.le_refl _)] at hret; obtain ⟨hfu, v, rfl, G, cp, rfl, hrd, -⟩ := hret; rw [HNL.out]; have HFU := hid hfu; have HRD := hid hrd; have HNOW := hid (HNOW.out.trans hb1); obtain ⟨⟨x0, x1, x2, x3, x4⟩, ⟨y0, y1, y2, y3, y4⟩⟩ := HBX.out _ HNOW.out; clear hb1; clear hfu hrd)
    | (go_at_call 23; refine (HUS.out _ _ _ HFU.out).mono ?_; rintro e w12 ⟨rfl, rfl⟩))
  have HB11 := hid (HB8.out.trans (HNOW.out.mono HB8.out.size))
  have HBX11 : Hid (∀ W, Below w11.heap.size w11 W → BoxP W g1 s A c ∧ BoxP W g2 u B d) := hid (fun W hW => HBX.out W (HNOW.out.trans (hW.mono HNOW.out.size)))
  have HPL : Hid (∀ (F y : Nat) (W : World), w11.heap.size ≤ F → FuelAt W F y 0 → y ≤ 1000000 → Below w11.heap.size w11 W → Calls Tryz.prog 22 #[.pointer (some ⟨S1, 0, none⟩), .pointer (some ⟨S2, 0, none⟩), .string tx, .pointer (some ⟨F, 0, none⟩)] W (PlRet W F y 0 m (plB f g (m + 1)))) := hid (fun F y W hF hFu hy hW => HPL0.out F y W (Nat.le_trans HNOW.out.size hF) hFu hy (HNOW.out.trans (hW.mono HNOW.out.size)))
  have HK1 := hid (HK1.out.under HNOW.out)
  have HRC : Hid (∀ (W : World) (j i : Nat), Below w11.heap.size w11 W → (plB f g (m + 1))[j]? = some i → ∃ gb o, G = some ⟨gb, o, none⟩ ∧ W.cell? ⟨gb, o + j, none⟩ = some (.int .i64 (i : Int))) := hid (fun W j i hW hj => by
    have hlt := (List.getElem?_eq_some_iff.1 hj).1
    obtain ⟨gb, o, rfl, hgb, hc⟩ := HRD.out.2 (by rw [natsV_len]; omega)
    exact ⟨gb, o, rfl, (hW.cell (p := ⟨gb, o + j, none⟩) hgb).trans (hc j (.int .i64 (i : Int)) (by rw [natsV, List.getElem?_map, hj]; rfl))⟩)
  have HB8s := HNOW.out.size
  clear HBX HNOW HPL0 HRD HFU HUS HF1
  have HBX := HBX11
  have HNOW : Hid (Below w11.heap.size w11 w11) := Below.refl _ _
  clear HBX11
  have HIN1 := hid (fun (i : Nat) (hi : i ≤ m) (W : World) (hW : Below w11.heap.size w11 W) => in_any s (tx.extract 0 i) A c W (HS.out.under (HB11.out.trans (hW.mono HB11.out.size))) (by rw [ByteArray.size_extract]; omega))
  have HIN2 := hid (fun (i : Nat) (hi : i ≤ m) (W : World) (hW : Below w11.heap.size w11 W) => in_any u (tx.extract i m) B d W (HU.out.under (HB11.out.trans (hW.mono HB11.out.size))) (by rw [ByteArray.size_extract]; omega))
  have e1 : ∀ i, @decide (s.InS (tx.extract 0 i).data.toList) (Classical.propDecidable _) = f i := fun i => by
    rw [HF.out, take_txt]
    exact (langB_in s _).symm
  have e2 : ∀ i, @decide (u.InS (tx.extract i m).data.toList) (Classical.propDecidable _) = g i := fun i => by
    rw [HG.out, ← hts, drop_txt]
    exact (langB_in u _).symm
  have HI1 : Hid (∀ i, i ≤ m → ∀ W, Below w11.heap.size w11 W → Calls Tryz.prog 24 #[s.val A c, .string (tx.extract 0 i)] W fun e w' => e = .returned (.bool (f i)) ∧ Below W.heap.size W w') := hid (fun i hi W hW =>
    (HIN1.out i hi W hW).mono fun e w' h => ⟨h.1.trans (congrArg (fun b => Ending.returned (Value.bool b)) (e1 i)), h.2⟩)
  have HI2 : Hid (∀ i, i ≤ m → ∀ W, Below w11.heap.size w11 W → Calls Tryz.prog 24 #[u.val B d, .string (tx.extract i m)] W fun e w' => e = .returned (.bool (g i)) ∧ Below W.heap.size W w') := hid (fun i hi W hW =>
    (HIN2.out i hi W hW).mono fun e w' h => ⟨h.1.trans (congrArg (fun b => Ending.returned (Value.bool b)) (e2 i)), h.2⟩)
  unfold Shp.val at HI1 HI2
  clear HIN1 HIN2 HF HG e1 e2
  go_loopw [18, 19] (fun nv iv wr => ∃ i : Nat, i ≤ m + 1 ∧ iv = .int .i64 i ∧ nv = .int .i64 ((plB f g i).length : Nat) ∧ Hid (Below w11.heap.size w11 wr)) (fun _ iv _ => m + 1 - (intOf iv).toNat)
  case atStart => exact ⟨0, Nat.zero_le _, rfl, rfl, Below.refl _ _⟩
  case round =>
    obtain ⟨i, hi, rfl, rfl, hin⟩ := hrel
    obtain ⟨wi, hwi⟩ : ∃ W : World, W = wr := ⟨_, rfl⟩
    subst hwi
    by_cases hlt : i ≤ m
    · have HJ1 := hid (HI1.out i hlt)
      have HJ2 := hid (HI2.out i hlt)
      have HSU := hid (plB_succ f g i)
      have HAT := hid (plB_at f g (m + 1) i (by omega))
      obtain ⟨b1, hb1⟩ : ∃ b, b = f i := ⟨_, rfl⟩
      obtain ⟨b2, hb2⟩ : ∃ b, b = g i := ⟨_, rfl⟩
      rw [← hb1] at HJ1 HSU HAT
      rw [← hb2] at HJ2 HSU HAT
      have HNOW := hin
      obtain ⟨⟨x0, x1, x2, x3, x4⟩, ⟨y0, y1, y2, y3, y4⟩⟩ := HBX.out _ HNOW.out
      have hi0 : (0 : Int) ≤ (i : Int) := by omega
      have hi1 : (i : Int) ≤ (m : Int) := by omega
      clear hb1 hb2 HPL
      cases b1
      · go_wp2_with fail
        first | (go_region_with (first | (go_at_call 24; (with_reducible refine (HJ1.out _ (by first | exact HNOW.out | exact HNOW.out.drew)).mono ?_); rintro e w14 ⟨rfl, hb1⟩; (first | (have hb1 := undrew hb1) | skip); have HNOW := hid (HNOW.out.trans (hb1.mono HNOW.out.size)); obtain ⟨⟨x0, x1, x2, x3, x4⟩, ⟨y0, y1, y2, y3, y4⟩⟩ := HBX.out _ HNOW.out; (first | (have c1 := HR2.out _ HNOW.out) | skip); clear hb1))) | fail
        all_goals
          go_wp2_with fail
          go_roundw
          case rel => exact ⟨i + 1, by omega, by go_num, (by rw [HSU.out]; simp), (by first | exact HNOW.out | exact HNOW.out.trans (below_drewN _ _ _) | exact HNOW.out.drew)⟩
          case measure => simp [intOf]; omega
      · cases b2
        · go_wp2_with fail
          go_region_held3 (fun w' => (w'.cell? ⟨g1, 0, none⟩ = some (.int .i64 s.op) ∧ w'.cell? ⟨g1, 1, none⟩ = some (.int .u8 s.low) ∧ w'.cell? ⟨g1, 2, none⟩ = some (.int .u8 s.high) ∧ w'.cell? ⟨g1, 3, none⟩ = some (.string s.text) ∧ w'.cell? ⟨g1, 4, none⟩ = some (.slice A s.kids.length c)) ∧ (w'.cell? ⟨g2, 0, none⟩ = some (.int .i64 u.op) ∧ w'.cell? ⟨g2, 1, none⟩ = some (.int .u8 u.low) ∧ w'.cell? ⟨g2, 2, none⟩ = some (.int .u8 u.high) ∧ w'.cell? ⟨g2, 3, none⟩ = some (.string u.text) ∧ w'.cell? ⟨g2, 4, none⟩ = some (.slice B u.kids.length d))) (first | exact ⟨⟨x0, x1, x2, x3, x4⟩, ⟨y0, y1, y2, y3, y4⟩⟩ | go_keep) (first | (go_at_call 24; (with_reducible refine (HJ1.out _ (by first | exact HNOW.out | exact HNOW.out.drew)).mono ?_); rintro e w14 ⟨rfl, hb1⟩; (first | (have hb1 := undrew hb1) | skip); have HNOW := hid (HNOW.out.trans (hb1.mono HNOW.out.size)); obtain ⟨⟨x0, x1, x2, x3, x4⟩, ⟨y0, y1, y2, y3, y4⟩⟩ := HBX.out _ HNOW.out; (first | (have c1 := HR2.out _ HNOW.out) | skip); clear hb1) | (go_at_call 24; (with_reducible refine (HJ2.out _ (by first | exact HNOW.out | exact HNOW.out.drew)).mono ?_); rintro e w14 ⟨rfl, hb1⟩; (first | (have hb1 := undrew hb1) | skip); have HNOW := hid (HNOW.out.trans (hb1.mono HNOW.out.size)); obtain ⟨⟨x0, x1, x2, x3, x4⟩, ⟨y0, y1, y2, y3, y4⟩⟩ := HBX.out _ HNOW.out; (first | (have c1 := HR2.out _ HNOW.out) | skip); clear hb1))
          all_goals
            go_wp2_with fail
            go_roundw
            case rel => exact ⟨i + 1, by omega, by go_num, (by rw [HSU.out]; simp), (by first | exact HNOW.out | exact HNOW.out.trans (below_drewN _ _ _) | exact HNOW.out.drew)⟩
            case measure => simp [intOf]; omega
        · have hat := HAT.out rfl rfl
          have hlt2 := (List.getElem?_eq_some_iff.1 hat).1
          obtain ⟨gb, o, hG, c1⟩ := HRC.out _ _ _ HNOW.out hat
          subst hG
          have HR2 : Hid (∀ W, Below w11.heap.size w11 W → W.cell? ⟨gb, o + (plB f g i).length, none⟩ = some (.int .i64 (i : Int))) := hid (fun W hW => by
            obtain ⟨gb', o', e, h⟩ := HRC.out W _ _ hW hat
            cases e
            exact h)
          have hlb : ((plB f g i).length : Int) ≤ 100 := by have := plB_len f g i; omega
          have hll : ((plB f g i).length : Int) < ((plB f g (m + 1)).length : Int) := by omega
          have hll2 : ¬ ((plB f g (m + 1)).length : Int) ≤ ((plB f g i).length : Int) := by omega
          have HLS : Hid ((plB f g (i + 1)).length = (plB f g i).length + 1) := hid (by rw [HSU.out]; simp)
          clear hat HAT HSU hlt2
          go_wp2_with fail
          go_region_held3 (fun w' => (w'.cell? ⟨g1, 0, none⟩ = some (.int .i64 s.op) ∧ w'.cell? ⟨g1, 1, none⟩ = some (.int .u8 s.low) ∧ w'.cell? ⟨g1, 2, none⟩ = some (.int .u8 s.high) ∧ w'.cell? ⟨g1, 3, none⟩ = some (.string s.text) ∧ w'.cell? ⟨g1, 4, none⟩ = some (.slice A s.kids.length c)) ∧ (w'.cell? ⟨g2, 0, none⟩ = some (.int .i64 u.op) ∧ w'.cell? ⟨g2, 1, none⟩ = some (.int .u8 u.low) ∧ w'.cell? ⟨g2, 2, none⟩ = some (.int .u8 u.high) ∧ w'.cell? ⟨g2, 3, none⟩ = some (.string u.text) ∧ w'.cell? ⟨g2, 4, none⟩ = some (.slice B u.kids.length d))) (first | exact ⟨⟨x0, x1, x2, x3, x4⟩, ⟨y0, y1, y2, y3, y4⟩⟩ | go_keep) (first | (go_at_call 24; (with_reducible refine (HJ1.out _ (by first | exact HNOW.out | exact HNOW.out.drew)).mono ?_); rintro e w14 ⟨rfl, hb1⟩; (first | (have hb1 := undrew hb1) | skip); have HNOW := hid (HNOW.out.trans (hb1.mono HNOW.out.size)); obtain ⟨⟨x0, x1, x2, x3, x4⟩, ⟨y0, y1, y2, y3, y4⟩⟩ := HBX.out _ HNOW.out; (first | (have c1 := HR2.out _ HNOW.out) | skip); clear hb1) | (go_at_call 24; (with_reducible refine (HJ2.out _ (by first | exact HNOW.out | exact HNOW.out.drew)).mono ?_); rintro e w14 ⟨rfl, hb1⟩; (first | (have hb1 := undrew hb1) | skip); have HNOW := hid (HNOW.out.trans (hb1.mono HNOW.out.size)); obtain ⟨⟨x0, x1, x2, x3, x4⟩, ⟨y0, y1, y2, y3, y4⟩⟩ := HBX.out _ HNOW.out; (first | (have c1 := HR2.out _ HNOW.out) | skip); clear hb1))
          all_goals
            go_wp2_with fail
            go_roundw
            case rel => exact ⟨i + 1, by omega, by go_num, (by rw [HLS.out]; go_num), (by first | exact HNOW.out | exact HNOW.out.trans (below_drewN _ _ _) | exact HNOW.out.drew)⟩
            case measure => simp [intOf]; omega
    · have him : i = m + 1 := by omega
      subst him
      have HNOW := hin
      obtain ⟨⟨x0, x1, x2, x3, x4⟩, ⟨y0, y1, y2, y3, y4⟩⟩ := HBX.out _ HNOW.out
      have h31 := i64_and31' n
      obtain ⟨y, hy⟩ : ∃ y : Nat, n % 32 = (y : Int) := ⟨(n % 32).toNat, by omega⟩
      have hy31 : y ≤ 31 := by omega
      rw [hy] at h31
      have HFY := hid (fun W => fill_any (y : Int) y rfl W)
      have HCA := hid (fun (F : Nat) (W : World) (hF : w11.heap.size ≤ F) (hFu : FuelAt W F y 0) (hW : Below w11.heap.size w11 W) => cat_split (.pointer (some ⟨S1, 0, none⟩)) (.pointer (some ⟨S2, 0, none⟩)) (.pointer (some ⟨F, 0, none⟩)) F y 0 (plB f g (m + 1)) tx (fun j hj => by have := plB_mem hj; omega) (by have := plB_len f g (m + 1); omega) W (by rw [hts]; exact HPL.out F y W hF hFu (by omega) hW))
      unfold CatRet at HCA
      simp only [hts] at HCA
      clear hy HPL hi hlt hin
      by_cases hyn : y < 2 * (m + 1)
      · simp only [if_neg (show ¬ 2 * (m + 1) ≤ y by omega)] at HCA
        have hy2 : (y : Int) < 2 * ((m : Int) + 1) := by omega
        go_wp2_with (first | (go_at_call 21; (with_reducible refine (HFY.out _).mono ?_); rintro e w15 ⟨rfl, h15, hb1⟩; have HZF := hid HNOW.out.size; have HFC := hid h15; have HNOW := hid (HNOW.out.trans (hb1.mono HNOW.out.size)); obtain ⟨⟨x0, x1, x2, x3, x4⟩, ⟨y0, y1, y2, y3, y4⟩⟩ := HBX.out _ HNOW.out; (first | (have c1 := HR2.out _ HNOW.out) | skip); clear hb1; clear h15 HFY) | (go_at_call 25; refine (HCA.out _ _ HZF.out HFC.out HNOW.out).mono ?_; rintro e w16 ⟨hb1, hret⟩; obtain ⟨-, rfl⟩ := hret; have HNOW := hid (HNOW.out.trans (hb1.mono HZF.out)); obtain ⟨⟨x0, x1, x2, x3, x4⟩, ⟨y0, y1, y2, y3, y4⟩⟩ := HBX.out _ HNOW.out; (first | (have c1 := HR2.out _ HNOW.out) | skip); clear hb1; clear HZF HFC HCA))
        go_ret
        exact ⟨rfl, HB11.out.trans (HNOW.out.mono HB11.out.size)⟩
      simp only [if_pos (show 2 * (m + 1) ≤ y by omega)] at HCA
      have hy2 : ¬ (y : Int) < 2 * ((m : Int) + 1) := by omega
      by_cases hl1 : (plB f g (m + 1)).length = 1
      · obtain ⟨j, hj⟩ : ∃ j, plB f g (m + 1) = [j] := List.length_eq_one_iff.1 hl1
        have hjm : j < m + 1 := plB_mem (by rw [hj]; exact List.mem_singleton.2 rfl)
        obtain ⟨gb, o, hG, -⟩ := HRC.out w11 0 j (Below.refl _ _) (by rw [hj]; rfl)
        subst hG
        have HR2 : Hid (∀ W, Below w11.heap.size w11 W → W.cell? ⟨gb, o, none⟩ = some (.int .i64 (j : Int))) := hid (fun W hW => by
          obtain ⟨gb', o', e, h⟩ := HRC.out W 0 j hW (by rw [hj]; rfl)
          cases e
          exact h)
        have c1 := HR2.out _ HNOW.out
        have HJJ := hid hj
        obtain ⟨v, hv⟩ : ∃ v, v = langB s.make tx.data.toList := ⟨_, rfl⟩
        have HG1 := hid (fun W => fill_any ((m : Int) + 1) (m + 1) (by omega) W)
        have HG0 := hid (fun W => fill_any (m : Int) m rfl W)
        have HT1 : Hid (∀ (F : Nat) (W : World), w11.heap.size ≤ F → FuelAt W F (m + 1) 0 → Below w11.heap.size w11 W → Calls Tryz.prog 26 #[.pointer (some ⟨S1, 0, none⟩), .string tx, .pointer (some ⟨F, 0, none⟩)] W fun e w' => Below F W w' ∧ e = .returned (.tuple #[.bool v, .int .i64 0])) := hid (fun F W hF hFu hW =>
          (HK1.out.mat tx F (m + 1) 0 W (by omega) hW hF hFu (by omega) (by omega)).mono fun e w' ⟨h1, h2⟩ => by
            rw [if_pos (by omega)] at h2
            rw [hv]
            exact ⟨h1, h2.2⟩)
        have HT0 : Hid (∀ (F : Nat) (W : World), w11.heap.size ≤ F → FuelAt W F m 0 → Below w11.heap.size w11 W → Calls Tryz.prog 26 #[.pointer (some ⟨S1, 0, none⟩), .string tx, .pointer (some ⟨F, 0, none⟩)] W fun e w' => Below F W w' ∧ e = .returned (.tuple #[.bool false, .int .i64 31])) := hid (fun F W hF hFu hW =>
          (HK1.out.mat tx F m 0 W (by omega) hW hF hFu (by omega) (by omega)).mono fun e w' ⟨h1, h2⟩ => by
            rw [if_neg (by omega)] at h2
            exact ⟨h1, h2.2⟩)
        have HJ1 : Hid (∀ W, Below w11.heap.size w11 W → Calls Tryz.prog 24 #[s.val A c, .string tx] W fun e w' => e = .returned (.bool v) ∧ Below W.heap.size W w') := hid (fun W hW => by
          have h := in_any s tx A c W (HS.out.under (HB11.out.trans (hW.mono HB11.out.size))) (by omega)
          exact h.mono fun e w' h => ⟨h.1.trans (congrArg (fun b => Ending.returned (Value.bool b)) ((langB_in s _).symm.trans hv.symm)), h.2⟩)
        unfold Shp.val at HJ1
        have hj0 : (0 : Int) ≤ (j : Int) := by omega
        have hj1 : (j : Int) ≤ (m : Int) := by omega
        rw [hl1]
        clear hj hl1 hv HRC hyn
        go_wp2_with (first | (go_at_call 21; (with_reducible refine (HFY.out _).mono ?_); rintro e w15 ⟨rfl, h15, hb1⟩; have HZF := hid HNOW.out.size; have HFC := hid h15; have HNOW := hid (HNOW.out.trans (hb1.mono HNOW.out.size)); obtain ⟨⟨x0, x1, x2, x3, x4⟩, ⟨y0, y1, y2, y3, y4⟩⟩ := HBX.out _ HNOW.out; (first | (have c1 := HR2.out _ HNOW.out) | skip); clear hb1; clear h15 HFY) | (go_at_call 25; refine (HCA.out _ _ HZF.out HFC.out HNOW.out).mono ?_; rintro e w16 ⟨hb1, hret⟩; obtain ⟨-, hret, -⟩ := hret; have hret := hret j HJJ.out; subst hret; have HNOW := hid (HNOW.out.trans (hb1.mono HZF.out)); obtain ⟨⟨x0, x1, x2, x3, x4⟩, ⟨y0, y1, y2, y3, y4⟩⟩ := HBX.out _ HNOW.out; (first | (have c1 := HR2.out _ HNOW.out) | skip); clear hb1; clear HZF HFC HCA) | (go_at_call 21; (with_reducible refine (HG1.out _).mono ?_); rintro e w15 ⟨rfl, h15, hb1⟩; have HZF := hid HNOW.out.size; have HF1 := hid h15; have HNOW := hid (HNOW.out.trans (hb1.mono HNOW.out.size)); obtain ⟨⟨x0, x1, x2, x3, x4⟩, ⟨y0, y1, y2, y3, y4⟩⟩ := HBX.out _ HNOW.out; (first | (have c1 := HR2.out _ HNOW.out) | skip); clear hb1; clear h15 HG1) | (go_at_call 26; refine (HT1.out _ _ HZF.out HF1.out HNOW.out).mono ?_; rintro e w17 ⟨hb1, rfl⟩; have HNOW := hid (HNOW.out.trans (hb1.mono HZF.out)); obtain ⟨⟨x0, x1, x2, x3, x4⟩, ⟨y0, y1, y2, y3, y4⟩⟩ := HBX.out _ HNOW.out; (first | (have c1 := HR2.out _ HNOW.out) | skip); clear hb1; clear HZF HT1 HF1) | (go_at_call 21; (with_reducible refine (HG0.out _).mono ?_); rintro e w15 ⟨rfl, h15, hb1⟩; have HZF := hid HNOW.out.size; have HF0 := hid h15; have HNOW := hid (HNOW.out.trans (hb1.mono HNOW.out.size)); obtain ⟨⟨x0, x1, x2, x3, x4⟩, ⟨y0, y1, y2, y3, y4⟩⟩ := HBX.out _ HNOW.out; (first | (have c1 := HR2.out _ HNOW.out) | skip); clear hb1; clear h15 HG0) | (go_at_call 26; refine (HT0.out _ _ HZF.out HF0.out HNOW.out).mono ?_; rintro e w17 ⟨hb1, rfl⟩; have HNOW := hid (HNOW.out.trans (hb1.mono HZF.out)); obtain ⟨⟨x0, x1, x2, x3, x4⟩, ⟨y0, y1, y2, y3, y4⟩⟩ := HBX.out _ HNOW.out; (first | (have c1 := HR2.out _ HNOW.out) | skip); clear hb1; clear HZF HT0 HF0) | (go_at_call 24; (with_reducible refine (HJ1.out _ (by first | exact HNOW.out | exact HNOW.out.drew)).mono ?_); rintro e w14 ⟨rfl, hb1⟩; (first | (have hb1 := undrew hb1) | skip); have HNOW := hid (HNOW.out.trans (hb1.mono HNOW.out.size)); obtain ⟨⟨x0, x1, x2, x3, x4⟩, ⟨y0, y1, y2, y3, y4⟩⟩ := HBX.out _ HNOW.out; (first | (have c1 := HR2.out _ HNOW.out) | skip); clear hb1))
        go_ret
        exact ⟨by first | rfl | simp, HB11.out.trans (HNOW.out.mono HB11.out.size)⟩
      · have hl2 : ¬ ((plB f g (m + 1)).length : Int) = 1 := by omega
        go_wp2_with (first | (go_at_call 21; (with_reducible refine (HFY.out _).mono ?_); rintro e w15 ⟨rfl, h15, hb1⟩; have HZF := hid HNOW.out.size; have HFC := hid h15; have HNOW := hid (HNOW.out.trans (hb1.mono HNOW.out.size)); obtain ⟨⟨x0, x1, x2, x3, x4⟩, ⟨y0, y1, y2, y3, y4⟩⟩ := HBX.out _ HNOW.out; (first | (have c1 := HR2.out _ HNOW.out) | skip); clear hb1; clear h15 HFY) | (go_at_call 25; refine (HCA.out _ _ HZF.out HFC.out HNOW.out).mono ?_; rintro e w16 ⟨hb1, hret⟩; obtain ⟨-, -, hret⟩ := hret; have hret := hret hl1; subst hret; have HNOW := hid (HNOW.out.trans (hb1.mono HZF.out)); obtain ⟨⟨x0, x1, x2, x3, x4⟩, ⟨y0, y1, y2, y3, y4⟩⟩ := HBX.out _ HNOW.out; (first | (have c1 := HR2.out _ HNOW.out) | skip); clear hb1; clear HZF HFC HCA))
        go_ret
        exact ⟨rfl, HB11.out.trans (HNOW.out.mono HB11.out.size)⟩
end Go.Proofs.YtfpfloahkibcgaaGreatDoor
