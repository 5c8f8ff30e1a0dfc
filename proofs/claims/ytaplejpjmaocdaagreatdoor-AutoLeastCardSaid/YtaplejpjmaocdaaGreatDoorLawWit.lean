/- The walk of AutoWitness. -/
import Derived.Test.YtaplejpjmaocdaaGreatDoorPkS
import Derived.Test.YtaplejpjmaocdaaGreatDoorPkT
import Derived.Test.YtaplejpjmaocdaaGreatDoorPkK
namespace Go.Proofs.YtaplejpjmaocdaaGreatDoor
open Go.RowKit Go.Maps

/-- Witness with a new budget. -/
theorem wit_new (r : Re) (hg : Good r) (hsz : r.size ≤ 1000000) (left : Nat) (hl : left ≤ 1000000) (w0 w : World) (b : Nat) (h : ReAt w0 X0 r b) (hb : Below w0.heap.size w0 w) (hB : BudAt w w0.heap.size left 0) (hT : Tab w) :
    Calls Tryz.prog 33 #[ptr b, ptr w0.heap.size] w fun e w' => Below w0.heap.size w0 w' ∧ WitRet r left e :=
  (witness_any r b w0.heap.size left w ((h.also (Y := fun k => k = w0.heap.size) fun k e hlt => by omega).under hb) hg hsz hB hl hT).mono fun e w' hh => ⟨hb.trans (hh.1.below hb.size fun k hk e => by omega), hh.2⟩
theorem Wit.mono {P Q : Txt → Prop} (h : ∀ t, P t ↔ Q t) {t : ByteArray} {v : Bool} (hw : Wit P t v) : Wit Q t v where
  yes e := ⟨(h _).1 (hw.yes e).1, fun u hu => (hw.yes e).2 u ((h u).2 hu)⟩
  no e := ⟨(hw.no e).1, fun u hu => (hw.no e).2 u ((h u).2 hu)⟩
theorem count_few {s : Shp} {m : Nat} (h : s.count 0 ≤ m) (hm : m ≤ 30) : s.few = true := decide_eq_true (Nat.le_trans h hm)
open Classical in
set_option maxRecDepth 100000 in
set_option maxHeartbeats 4000000 in
theorem autoWitness_any (s : Shp) (A : Option Addr) (c : Nat) (w : World) (hs : ShAt w s (A, c)) (hT : Tab w) :
    Calls Tryz.prog 6 #[s.val A c] w fun e w' => e = .returned (.bool true) ∧ Below w.heap.size w w' := by
  have HCO := hid (fun W (hW : Below w.heap.size w W) => count_any s A c 0 W (hs.under hW) (by omega))
  obtain ⟨q, hq⟩ : ∃ q, q = s.count 0 := ⟨_, rfl⟩
  have HQ := hid hq
  rw [← hq] at HCO
  have HW := hid hs
  have HT := hid hT
  clear hs hq hT
  unfold Shp.val at *
  go_enter Tryz.func6, Tryz.ntmps6
  go_wp2_with fail
  obtain ⟨w2, hw2⟩ : ∃ w2 : World, w2 = w.alloc (.cells #[Value.int IntKind.i64 s.op, Value.int IntKind.u8 ↑s.low, Value.int IntKind.u8 ↑s.high, Value.string s.text, Value.slice A s.kids.length c] 24) := ⟨_, rfl⟩
  rw [← hw2]
  have HB2 : Hid (Below w.heap.size w w2) := hid (by rw [hw2]; exact (Below.refl _ _).alloc (Nat.le_refl _) _)
  have hk1 : w2.heap[w.heap.size]? = some (.cells #[Value.int IntKind.i64 s.op, Value.int IntKind.u8 ↑s.low, Value.int IntKind.u8 ↑s.high, Value.string s.text, Value.slice A s.kids.length c] 24) := by rw [hw2]; exact blk_new w _
  have HBX : Hid (∀ W, Below w2.heap.size w2 W → W.cell? ⟨w.heap.size, 0, none⟩ = some (.int .i64 s.op) ∧ W.cell? ⟨w.heap.size, 1, none⟩ = some (.int .u8 s.low) ∧ W.cell? ⟨w.heap.size, 2, none⟩ = some (.int .u8 s.high) ∧ W.cell? ⟨w.heap.size, 3, none⟩ = some (.string s.text) ∧ W.cell? ⟨w.heap.size, 4, none⟩ = some (.slice A s.kids.length c)) := fun W hW => by
    have h1 := blk_below hk1 hW
    exact ⟨(blk_cell h1 0).trans (by simp), (blk_cell h1 1).trans (by simp), (blk_cell h1 2).trans (by simp), (blk_cell h1 3).trans (by simp), (blk_cell h1 4).trans (by simp)⟩
  have HNOW : Hid (Below w2.heap.size w2 w2) := Below.refl _ _
  have HHE := hid (head7_any w2 (HT.out.below HB2.out))
  clear hw2 hk1
  have hqb := Shp.count_le s 0
  rw [← HQ.out] at hqb
  by_cases h15 : 15 < q
  · have hd : (15 : Int) < (q : Int) := by omega
    go_wp2_with (first | (go_at_call 30; refine HHE.out.mono ?_; rintro e w3 ⟨rfl, hb1⟩; (first | (have hb1 := undrew hb1) | skip); have HNOW := hid (HNOW.out.trans (hb1.mono HNOW.out.size)); obtain ⟨x0, x1, x2, x3, x4⟩ := HBX.out _ HNOW.out; clear hb1) | (go_at_call 31; refine (HCO.out _ (HB2.out.trans (HNOW.out.mono HB2.out.size))).mono ?_; rintro e w4 ⟨rfl, hb1⟩; (first | (have hb1 := undrew hb1) | skip); have HNOW := hid (HNOW.out.trans (hb1.mono HNOW.out.size)); obtain ⟨x0, x1, x2, x3, x4⟩ := HBX.out _ HNOW.out; clear hb1))
    go_ret
    exact ⟨rfl, HB2.out.trans (HNOW.out.mono HB2.out.size)⟩
  have hd : ¬ (15 : Int) < (q : Int) := by omega
  have hfew : s.few = true := count_few (m := 15) (by rw [← HQ.out]; omega) (by decide)
  have hfs := Shp.few_small hfew
  have HPU := hid (fun W (hW : Below w.heap.size w W) => pure_any s A c W (HW.out.under hW) hfs.2)
  unfold Shp.val at HPU
  cases hp : s.pure
  · rw [hp] at HPU
    clear hp
    go_wp2_with (first | (go_at_call 30; refine HHE.out.mono ?_; rintro e w3 ⟨rfl, hb1⟩; (first | (have hb1 := undrew hb1) | skip); have HNOW := hid (HNOW.out.trans (hb1.mono HNOW.out.size)); obtain ⟨x0, x1, x2, x3, x4⟩ := HBX.out _ HNOW.out; clear hb1) | (go_at_call 31; refine (HCO.out _ (HB2.out.trans (HNOW.out.mono HB2.out.size))).mono ?_; rintro e w4 ⟨rfl, hb1⟩; (first | (have hb1 := undrew hb1) | skip); have HNOW := hid (HNOW.out.trans (hb1.mono HNOW.out.size)); obtain ⟨x0, x1, x2, x3, x4⟩ := HBX.out _ HNOW.out; clear hb1) | (go_at_call 32; refine (HPU.out _ (HB2.out.trans (HNOW.out.mono HB2.out.size))).mono ?_; rintro e w4 ⟨rfl, hb1⟩; (first | (have hb1 := undrew hb1) | skip); have HNOW := hid (HNOW.out.trans (hb1.mono HNOW.out.size)); obtain ⟨x0, x1, x2, x3, x4⟩ := HBX.out _ HNOW.out; clear hb1))
    go_ret
    exact ⟨rfl, HB2.out.trans (HNOW.out.mono HB2.out.size)⟩
  rw [hp] at HPU
  have HMS : Hid (∀ W, Below w.heap.size w W → Calls Tryz.prog 14 #[.agg #[.int .i64 s.op, .int .u8 s.low, .int .u8 s.high, .string s.text, .slice A s.kids.length c]] W (RetRe W X0 s.make)) := fun W hW => make_any s A c X0 W (HW.out.under hW) (X0_lt W) hfs.2 (Nat.le_trans hfs.1 (by decide))
  have hxs : s.make.size ≤ 660 := few_size hfew
  have hgd : Good s.make := Shp.make_good s
  have HGR := hid (fun W => grant_any 400 400 rfl W)
  have HWI := hid (fun w0 W b (h : ReAt w0 X0 s.make b) hb hB hT => wit_new s.make hgd (by omega) 400 (by omega) w0 W b h hb hB hT)
  unfold WitRet at HWI
  have HPL := hid (pure_in s hp)
  clear hp hfs hfew hxs hgd
  cases hq : buildR ((refineR (setsR s.make)).map leastN) s.make 400 with
  | none =>
    rw [hq] at HWI
    clear hq
    go_wp2_with (first | (go_at_call 30; refine HHE.out.mono ?_; rintro e w3 ⟨rfl, hb1⟩; (first | (have hb1 := undrew hb1) | skip); have HNOW := hid (HNOW.out.trans (hb1.mono HNOW.out.size)); obtain ⟨x0, x1, x2, x3, x4⟩ := HBX.out _ HNOW.out; clear hb1) | (go_at_call 31; refine (HCO.out _ (HB2.out.trans (HNOW.out.mono HB2.out.size))).mono ?_; rintro e w4 ⟨rfl, hb1⟩; (first | (have hb1 := undrew hb1) | skip); have HNOW := hid (HNOW.out.trans (hb1.mono HNOW.out.size)); obtain ⟨x0, x1, x2, x3, x4⟩ := HBX.out _ HNOW.out; clear hb1) | (go_at_call 32; refine (HPU.out _ (HB2.out.trans (HNOW.out.mono HB2.out.size))).mono ?_; rintro e w4 ⟨rfl, hb1⟩; (first | (have hb1 := undrew hb1) | skip); have HNOW := hid (HNOW.out.trans (hb1.mono HNOW.out.size)); obtain ⟨x0, x1, x2, x3, x4⟩ := HBX.out _ HNOW.out; clear hb1) | (go_at_call 14; refine (HMS.out _ (HB2.out.trans (HNOW.out.mono HB2.out.size))).mono ?_; rintro e w5 ⟨bx, rfl, hre, hb1⟩; have HRX := hid hre; (first | (have hb1 := undrew hb1) | skip); have HNOW := hid (HNOW.out.trans (hb1.mono HNOW.out.size)); obtain ⟨x0, x1, x2, x3, x4⟩ := HBX.out _ HNOW.out; clear hb1; have HN5 := HNOW; clear hre) | (go_at_call 15; refine (HGR.out _).mono ?_; rintro e w6 ⟨rfl, h6, hb1⟩; have HBD := hid (HWI.out _ _ _ HRX.out hb1 h6 (HT.out.below (HB2.out.trans ((HNOW.out.trans (hb1.mono HNOW.out.size)).mono HB2.out.size)))); clear h6 hb1) | (go_at_call 33; refine HBD.out.mono ?_; rintro e w7 ⟨hb1, rfl⟩; have HNOW := HN5; (first | (have hb1 := undrew hb1) | skip); have HNOW := hid (HNOW.out.trans (hb1.mono HNOW.out.size)); obtain ⟨x0, x1, x2, x3, x4⟩ := HBX.out _ HNOW.out; clear hb1))
    go_ret
    exact ⟨rfl, HB2.out.trans (HNOW.out.mono HB2.out.size)⟩
  | some t =>
    rw [hq] at HWI
    clear hq
    have HLA := hid (fun x v (hx : x.size ≤ 1000000) (hw : Wit (Lang s.make) x v) W (hW : Below w2.heap.size w2 W) => leastIn_any s.InS HPL.out x v hx (hw.mono (make_lang s)) (.agg #[.int .i64 s.op, .int .u8 s.low, .int .u8 s.high, .string s.text, .slice A s.kids.length c]) W fun W' t hW' ht => in_any s t A c W' (((HW.out.under HB2.out).under hW).under hW') ht)
    go_wp2_with (first | (go_at_call 30; refine HHE.out.mono ?_; rintro e w3 ⟨rfl, hb1⟩; (first | (have hb1 := undrew hb1) | skip); have HNOW := hid (HNOW.out.trans (hb1.mono HNOW.out.size)); obtain ⟨x0, x1, x2, x3, x4⟩ := HBX.out _ HNOW.out; clear hb1) | (go_at_call 31; refine (HCO.out _ (HB2.out.trans (HNOW.out.mono HB2.out.size))).mono ?_; rintro e w4 ⟨rfl, hb1⟩; (first | (have hb1 := undrew hb1) | skip); have HNOW := hid (HNOW.out.trans (hb1.mono HNOW.out.size)); obtain ⟨x0, x1, x2, x3, x4⟩ := HBX.out _ HNOW.out; clear hb1) | (go_at_call 32; refine (HPU.out _ (HB2.out.trans (HNOW.out.mono HB2.out.size))).mono ?_; rintro e w4 ⟨rfl, hb1⟩; (first | (have hb1 := undrew hb1) | skip); have HNOW := hid (HNOW.out.trans (hb1.mono HNOW.out.size)); obtain ⟨x0, x1, x2, x3, x4⟩ := HBX.out _ HNOW.out; clear hb1) | (go_at_call 14; refine (HMS.out _ (HB2.out.trans (HNOW.out.mono HB2.out.size))).mono ?_; rintro e w5 ⟨bx, rfl, hre, hb1⟩; have HRX := hid hre; (first | (have hb1 := undrew hb1) | skip); have HNOW := hid (HNOW.out.trans (hb1.mono HNOW.out.size)); obtain ⟨x0, x1, x2, x3, x4⟩ := HBX.out _ HNOW.out; clear hb1; have HN5 := HNOW; clear hre) | (go_at_call 15; refine (HGR.out _).mono ?_; rintro e w6 ⟨rfl, h6, hb1⟩; have HBD := hid (HWI.out _ _ _ HRX.out hb1 h6 (HT.out.below (HB2.out.trans ((HNOW.out.trans (hb1.mono HNOW.out.size)).mono HB2.out.size)))); clear h6 hb1) | (go_at_call 33; refine HBD.out.mono ?_; rintro e w7 ⟨hb1, x, v, rfl, hw⟩; have HNOW := HN5; (first | (have hb1 := undrew hb1) | skip); have HNOW := hid (HNOW.out.trans (hb1.mono HNOW.out.size)); obtain ⟨x0, x1, x2, x3, x4⟩ := HBX.out _ HNOW.out; clear hb1; have HWT := hid hw; clear hw) | (go_at_call 34; refine (HLA.out _ _ (by omega) HWT.out _ HNOW.out).mono ?_; rintro e w8 ⟨rfl, hb1⟩; (first | (have hb1 := undrew hb1) | skip); have HNOW := hid (HNOW.out.trans (hb1.mono HNOW.out.size)); obtain ⟨x0, x1, x2, x3, x4⟩ := HBX.out _ HNOW.out; clear hb1))
    all_goals
      go_ret
      exact ⟨rfl, HB2.out.trans (HNOW.out.mono HB2.out.size)⟩
end Go.Proofs.YtaplejpjmaocdaaGreatDoor
