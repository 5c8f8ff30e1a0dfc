/- The walk of ReTexts. -/
import Derived.Test.YtihloigpdcinkaaDoorPkK
namespace Go.Proofs.YtihloigpdcinkaaDoor
open Go.RowKit

theorem lang_bool (s : Shp) (t : Txt) [Decidable (Lang s.make t)] [Decidable (s.InS t)] : decide (Lang s.make t) = decide (s.InS t) := decide_eq_decide.2 (make_lang s t)

open Classical in
set_option maxRecDepth 100000 in
set_option maxHeartbeats 2000000 in
theorem reTexts_any (s : Shp) (A : Option Addr) (c : Nat) (zs : List Int) (B : Option Addr) (m d : Nat) (w : World) (hs : ShAt w s (A, c)) (hz : Nums w B m zs) (hm : m ≤ 9223372036854775807) :
    Calls Tryd.prog 4 #[s.val A c, .slice B m d] w fun e w' => e = .returned (.bool true) ∧ Below w.heap.size w w' := by
  have HHE := hid head3_any
  have HFE := hid (fun W (hW : Below w.heap.size w W) => few_any s A c W (hs.under hW))
  obtain ⟨fs, hfs⟩ : ∃ b, b = s.few := ⟨_, rfl⟩
  have HFS := hid hfs
  rw [← hfs] at HFE
  have HW := hid hs
  have HZ := hid hz
  clear hs hz hfs
  unfold Shp.val at *
  go_enter Tryd.func4, Tryd.ntmps4
  go_wp2_with fail
  obtain ⟨w2, hw2⟩ : ∃ w2 : World, w2 = w.alloc (.cells #[Value.int IntKind.i64 s.op, Value.int IntKind.u8 ↑s.low, Value.int IntKind.u8 ↑s.high, Value.string s.text, Value.slice A s.kids.length c] 26) := ⟨_, rfl⟩
  rw [← hw2]
  have HB2 : Hid (Below w.heap.size w w2) := hid (by rw [hw2]; exact (Below.refl _ _).alloc (Nat.le_refl _) _)
  have hk1 : w2.heap[w.heap.size]? = some (.cells #[Value.int IntKind.i64 s.op, Value.int IntKind.u8 ↑s.low, Value.int IntKind.u8 ↑s.high, Value.string s.text, Value.slice A s.kids.length c] 26) := by rw [hw2]; exact blk_new w _
  have HBX : Hid (∀ W, Below w2.heap.size w2 W → W.cell? ⟨w.heap.size, 0, none⟩ = some (.int .i64 s.op) ∧ W.cell? ⟨w.heap.size, 1, none⟩ = some (.int .u8 s.low) ∧ W.cell? ⟨w.heap.size, 2, none⟩ = some (.int .u8 s.high) ∧ W.cell? ⟨w.heap.size, 3, none⟩ = some (.string s.text) ∧ W.cell? ⟨w.heap.size, 4, none⟩ = some (.slice A s.kids.length c)) := fun W hW => by
    have h1 := blk_below hk1 hW
    exact ⟨(blk_cell h1 0).trans (by simp), (blk_cell h1 1).trans (by simp), (blk_cell h1 2).trans (by simp), (blk_cell h1 3).trans (by simp), (blk_cell h1 4).trans (by simp)⟩
  have HNOW : Hid (Below w2.heap.size w2 w2) := Below.refl _ _
  clear hw2 hk1
  cases fs
  · go_wp2_with (first | (go_at_call 11; refine (HHE.out _).mono ?_; rintro e w3 ⟨rfl, hb1⟩; (first | (have hb1 := undrew hb1) | skip); have HNOW := hid (HNOW.out.trans (hb1.mono HNOW.out.size)); obtain ⟨x0, x1, x2, x3, x4⟩ := HBX.out _ HNOW.out; clear hb1) | (go_at_call 12; refine (HFE.out _ (HB2.out.trans (HNOW.out.mono HB2.out.size))).mono ?_; rintro e w4 ⟨rfl, hb1⟩; (first | (have hb1 := undrew hb1) | skip); have HNOW := hid (HNOW.out.trans (hb1.mono HNOW.out.size)); obtain ⟨x0, x1, x2, x3, x4⟩ := HBX.out _ HNOW.out; clear hb1))
    go_ret
    exact ⟨rfl, HB2.out.trans (HNOW.out.mono HB2.out.size)⟩
  by_cases hm6 : 6 < m
  · have hd : (6 : Int) < (m : Int) := by omega
    go_wp2_with (first | (go_at_call 11; refine (HHE.out _).mono ?_; rintro e w3 ⟨rfl, hb1⟩; (first | (have hb1 := undrew hb1) | skip); have HNOW := hid (HNOW.out.trans (hb1.mono HNOW.out.size)); obtain ⟨x0, x1, x2, x3, x4⟩ := HBX.out _ HNOW.out; clear hb1) | (go_at_call 12; refine (HFE.out _ (HB2.out.trans (HNOW.out.mono HB2.out.size))).mono ?_; rintro e w4 ⟨rfl, hb1⟩; (first | (have hb1 := undrew hb1) | skip); have HNOW := hid (HNOW.out.trans (hb1.mono HNOW.out.size)); obtain ⟨x0, x1, x2, x3, x4⟩ := HBX.out _ HNOW.out; clear hb1))
    go_ret
    exact ⟨rfl, HB2.out.trans (HNOW.out.mono HB2.out.size)⟩
  have hd : ¬ (6 : Int) < (m : Int) := by omega
  obtain ⟨tx, htx⟩ : ∃ tx : ByteArray, tx = ⟨(letters zs).toArray⟩ := ⟨_, rfl⟩
  have htl : tx.data.toList = letters zs := by rw [htx]
  have hts : tx.size ≤ 1000000 := by
    have h1 : tx.size = (letters zs).length := by rw [htx]; rfl
    have h2 : (letters zs).length = zs.length := by simp [letters]
    have h3 : zs.length = m := HZ.out.1
    omega
  have HSO : Hid (∀ W, Below w.heap.size w W → Calls Tryd.prog 18 #[.slice B m d] W fun e w' => e = .returned (.string tx) ∧ Below W.heap.size W w') := fun W hW => by
    rw [htx]; exact some_any B m d zs W (HZ.out.below hW) (by omega)
  have HMS : Hid (∀ W, Below w.heap.size w W → Calls Tryd.prog 13 #[.agg #[.int .i64 s.op, .int .u8 s.low, .int .u8 s.high, .string s.text, .slice A s.kids.length c]] W (RetRe W X0 s.make)) := fun W hW => make_any s A c X0 W (HW.out.under hW) (X0_lt W) (Shp.few_small HFS.out.symm).2 (Nat.le_trans (Shp.few_small HFS.out.symm).1 (by decide))
  have hxs : s.make.size ≤ 660 := few_size HFS.out.symm
  have HTS := hid hts
  have HXS := hid hxs
  clear htx htl hts hxs
  go_wp2_with (first | (go_at_call 11; refine (HHE.out _).mono ?_; rintro e w3 ⟨rfl, hb1⟩; (first | (have hb1 := undrew hb1) | skip); have HNOW := hid (HNOW.out.trans (hb1.mono HNOW.out.size)); obtain ⟨x0, x1, x2, x3, x4⟩ := HBX.out _ HNOW.out; clear hb1) | (go_at_call 12; refine (HFE.out _ (HB2.out.trans (HNOW.out.mono HB2.out.size))).mono ?_; rintro e w4 ⟨rfl, hb1⟩; (first | (have hb1 := undrew hb1) | skip); have HNOW := hid (HNOW.out.trans (hb1.mono HNOW.out.size)); obtain ⟨x0, x1, x2, x3, x4⟩ := HBX.out _ HNOW.out; clear hb1) | (go_at_call 13; refine (HMS.out _ (HB2.out.trans (HNOW.out.mono HB2.out.size))).mono ?_; rintro e w5 ⟨bx, rfl, hre, hb1⟩; have HRX := hid hre; (first | (have hb1 := undrew hb1) | skip); have HNOW := hid (HNOW.out.trans (hb1.mono HNOW.out.size)); obtain ⟨x0, x1, x2, x3, x4⟩ := HBX.out _ HNOW.out; clear hb1; clear hre) | (go_at_call 18; refine (HSO.out _ (HB2.out.trans (HNOW.out.mono HB2.out.size))).mono ?_; rintro e w6 ⟨rfl, hb1⟩; have HRX := hid (HRX.out.under hb1); (first | (have hb1 := undrew hb1) | skip); have HNOW := hid (HNOW.out.trans (hb1.mono HNOW.out.size)); obtain ⟨x0, x1, x2, x3, x4⟩ := HBX.out _ HNOW.out; clear hb1))
  obtain ⟨v, hv⟩ : ∃ v, v = decide (s.InS tx.data.toList) := ⟨_, rfl⟩
  obtain ⟨u, hu⟩ : ∃ u, u = decide (s.InS []) := ⟨_, rfl⟩
  obtain ⟨z, hz⟩ : ∃ z, z = s.make.size := ⟨_, rfl⟩
  have HHAS : Hid (∀ W, Below w6.heap.size w6 W → Calls Tryd.prog 19 #[ptr bx, .string tx] W fun e w' => e = .returned (.bool v) ∧ Below W.heap.size W w') := fun W hW => by
    have := has_any_re s.make (Nat.le_trans HXS.out (by decide)) tx X0 bx W (HRX.out.under hW) HTS.out
    rw [lang_bool, ← hv] at this
    exact this
  have HIN1 : Hid (∀ W, Below w6.heap.size w6 W → Calls Tryd.prog 20 #[.agg #[.int .i64 s.op, .int .u8 s.low, .int .u8 s.high, .string s.text, .slice A s.kids.length c], .string tx] W fun e w' => e = .returned (.bool v) ∧ Below W.heap.size W w') := fun W hW => by
    have := in_any s tx A c W ((HW.out.under HB2.out).under (HNOW.out.trans (hW.mono HNOW.out.size))) HTS.out
    rw [← hv] at this
    exact this
  have HNUL : Hid (∀ W, Below w6.heap.size w6 W → Calls Tryd.prog 21 #[ptr bx] W fun e w' => e = .returned (.bool u) ∧ Below W.heap.size W w') := fun W hW =>
    (null_any s.make X0 bx W (HRX.out.under hW)).mono fun e w' h => ⟨by
      rw [h.1, hu]
      congr 2
      rw [Bool.eq_iff_iff, null_lang, decide_eq_true_iff, make_lang], h.2 ▸ Below.refl _ _⟩
  have HIN2 : Hid (∀ W, Below w6.heap.size w6 W → Calls Tryd.prog 20 #[.agg #[.int .i64 s.op, .int .u8 s.low, .int .u8 s.high, .string s.text, .slice A s.kids.length c], .string ⟨#[]⟩] W fun e w' => e = .returned (.bool u) ∧ Below W.heap.size W w') := fun W hW => by
    have := in_any s ⟨#[]⟩ A c W ((HW.out.under HB2.out).under (HNOW.out.trans (hW.mono HNOW.out.size))) (by decide)
    rw [hu]
    exact this
  have HSET : Hid (∀ W, Below w6.heap.size w6 W → Calls Tryd.prog 22 #[ptr bx] W fun e w' => e = .returned (.bool true) ∧ Below W.heap.size W w') := fun W hW =>
    settled_any s.make (Shp.make_good s) (Nat.le_trans HXS.out (by decide)) X0 bx W (HRX.out.under hW)
  have HSI1 : Hid (∀ W, Below w6.heap.size w6 W → Calls Tryd.prog 23 #[ptr bx] W fun e w' => e = .returned (.int .i64 z) ∧ Below W.heap.size W w') := fun W hW =>
    (size_any s.make X0 bx W (HRX.out.under hW)).mono fun e w' h => ⟨by rw [h.1, hz], h.2 ▸ Below.refl _ _⟩
  have HSI2 : Hid (∀ W, Below w6.heap.size w6 W → Calls Tryd.prog 24 #[ptr bx] W fun e w' => e = .returned (.int .i64 z) ∧ Below W.heap.size W w') := fun W hW =>
    (sz_any s.make X0 bx W (HRX.out.under hW) (Nat.le_trans HXS.out (by decide))).mono fun e w' h => ⟨by rw [h.1, hz], h.2 ▸ Below.refl _ _⟩
  have HB6 := hid (HB2.out.trans (HNOW.out.mono HB2.out.size))
  have HBX : Hid (∀ W, Below w6.heap.size w6 W → W.cell? ⟨w.heap.size, 0, none⟩ = some (.int .i64 s.op) ∧ W.cell? ⟨w.heap.size, 1, none⟩ = some (.int .u8 s.low) ∧ W.cell? ⟨w.heap.size, 2, none⟩ = some (.int .u8 s.high) ∧ W.cell? ⟨w.heap.size, 3, none⟩ = some (.string s.text) ∧ W.cell? ⟨w.heap.size, 4, none⟩ = some (.slice A s.kids.length c)) := fun W hW => HBX.out W (HNOW.out.trans (hW.mono HNOW.out.size))
  have HNOW : Hid (Below w6.heap.size w6 w6) := Below.refl _ _
  clear hv hu hz
  unfold ptr at *
  go_region_held3 (fun w' => w'.cell? ⟨w.heap.size, 0, none⟩ = some (.int .i64 s.op) ∧ w'.cell? ⟨w.heap.size, 1, none⟩ = some (.int .u8 s.low) ∧ w'.cell? ⟨w.heap.size, 2, none⟩ = some (.int .u8 s.high) ∧ w'.cell? ⟨w.heap.size, 3, none⟩ = some (.string s.text) ∧ w'.cell? ⟨w.heap.size, 4, none⟩ = some (.slice A s.kids.length c)) (first | exact ⟨x0, x1, x2, x3, x4⟩ | go_keep)
    (first | (go_at_call 19; with_reducible refine (HHAS.out _ (by first | exact HNOW.out | exact HNOW.out.drew)).mono ?_; rintro e w7 ⟨rfl, hb1⟩; (first | (have hb1 := undrew hb1) | skip); have HNOW := hid (HNOW.out.trans (hb1.mono HNOW.out.size)); obtain ⟨x0, x1, x2, x3, x4⟩ := HBX.out _ HNOW.out; clear hb1) | (go_at_call 20; with_reducible refine (HIN1.out _ (by first | exact HNOW.out | exact HNOW.out.drew)).mono ?_; rintro e w7 ⟨rfl, hb1⟩; (first | (have hb1 := undrew hb1) | skip); have HNOW := hid (HNOW.out.trans (hb1.mono HNOW.out.size)); obtain ⟨x0, x1, x2, x3, x4⟩ := HBX.out _ HNOW.out; clear hb1) | (go_at_call 20; with_reducible refine (HIN2.out _ (by first | exact HNOW.out | exact HNOW.out.drew)).mono ?_; rintro e w7 ⟨rfl, hb1⟩; (first | (have hb1 := undrew hb1) | skip); have HNOW := hid (HNOW.out.trans (hb1.mono HNOW.out.size)); obtain ⟨x0, x1, x2, x3, x4⟩ := HBX.out _ HNOW.out; clear hb1) | (go_at_call 21; with_reducible refine (HNUL.out _ (by first | exact HNOW.out | exact HNOW.out.drew)).mono ?_; rintro e w7 ⟨rfl, hb1⟩; (first | (have hb1 := undrew hb1) | skip); have HNOW := hid (HNOW.out.trans (hb1.mono HNOW.out.size)); obtain ⟨x0, x1, x2, x3, x4⟩ := HBX.out _ HNOW.out; clear hb1) | (go_at_call 22; with_reducible refine (HSET.out _ (by first | exact HNOW.out | exact HNOW.out.drew)).mono ?_; rintro e w7 ⟨rfl, hb1⟩; (first | (have hb1 := undrew hb1) | skip); have HNOW := hid (HNOW.out.trans (hb1.mono HNOW.out.size)); obtain ⟨x0, x1, x2, x3, x4⟩ := HBX.out _ HNOW.out; clear hb1) | (go_at_call 23; with_reducible refine (HSI1.out _ (by first | exact HNOW.out | exact HNOW.out.drew)).mono ?_; rintro e w7 ⟨rfl, hb1⟩; (first | (have hb1 := undrew hb1) | skip); have HNOW := hid (HNOW.out.trans (hb1.mono HNOW.out.size)); obtain ⟨x0, x1, x2, x3, x4⟩ := HBX.out _ HNOW.out; clear hb1) | (go_at_call 24; with_reducible refine (HSI2.out _ (by first | exact HNOW.out | exact HNOW.out.drew)).mono ?_; rintro e w7 ⟨rfl, hb1⟩; (first | (have hb1 := undrew hb1) | skip); have HNOW := hid (HNOW.out.trans (hb1.mono HNOW.out.size)); obtain ⟨x0, x1, x2, x3, x4⟩ := HBX.out _ HNOW.out; clear hb1))
  all_goals
    go_wp2_with fail
    go_ret
    exact ⟨by simp, HB6.out.trans (HNOW.out.mono HB6.out.size)⟩
end Go.Proofs.YtihloigpdcinkaaDoor
