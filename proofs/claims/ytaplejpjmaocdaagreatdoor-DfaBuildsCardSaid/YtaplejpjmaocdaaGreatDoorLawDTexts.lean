/- The walk of DfaTexts. -/
import Derived.Test.YtaplejpjmaocdaaGreatDoorHead6
import Derived.Test.YtaplejpjmaocdaaGreatDoorPkK
import Derived.Test.YtaplejpjmaocdaaGreatDoorDfaPlain
namespace Go.Proofs.YtaplejpjmaocdaaGreatDoor
open Go.RowKit Go.Maps

/-- What a call of Build with a new budget comes to. -/
def BuiltRet (w0 : World) (r : Re) (left : Nat) (e : Ending) (w' : World) : Prop :=
  Below w0.heap.size w0 w' ∧ match buildR ((refineR (setsR r)).map leastN) r left with
    | none => e = .returned (.tuple #[.pointer none, .int .i64 5]) ∧ ∃ l' u', BudAt w' w0.heap.size l' u' ∧ u' ≤ left
    | some (all, nx, left') => BudAt w' w0.heap.size left' (left - left') ∧ ∃ D, e = .returned (.tuple #[ptr D, .int .i64 0]) ∧ DfaAt w' D (atN (refineR (setsR r)) (refineR (setsR r)).length) ((refineR (setsR r)).map leastN) nx (all.map Re.null)
theorem built_any (r : Re) (hg : Good r) (hsz : r.size ≤ 1000000) (left : Nat) (hl : left ≤ 1000000) (w0 w : World) (b : Nat) (h : ReAt w0 X0 r b) (hb : Below w0.heap.size w0 w) (hB : BudAt w w0.heap.size left 0) (hT : Tab w) :
    Calls Tryz.prog 13 #[ptr b, ptr w0.heap.size] w (BuiltRet w0 r left) :=
  (build_any r b w0.heap.size left 0 w ((h.also (Y := fun k => k = w0.heap.size) fun k e hlt => by omega).under hb) hg hsz hB hl (by omega) hT).mono fun e w' hh => by
    obtain ⟨hk, hh⟩ := hh
    refine ⟨hb.trans (hk.below hb.size fun k hk e => by omega), ?_⟩
    cases hq : buildR ((refineR (setsR r)).map leastN) r left with
    | none => rw [hq] at hh; obtain ⟨h1, l', u', h2, h3⟩ := hh; exact ⟨h1, l', u', h2, by omega⟩
    | some t =>
      obtain ⟨all, nx, left'⟩ := t
      rw [hq] at hh
      obtain ⟨h1, D, h2, -, h3⟩ := hh
      rw [Nat.zero_add] at h1
      exact ⟨h1, D, h2, h3⟩
theorem lang_bool (s : Shp) (t : Txt) [Decidable (Lang s.make t)] [Decidable (s.InS t)] : decide (Lang s.make t) = decide (s.InS t) := decide_eq_decide.2 (make_lang s t)
open Classical in
set_option maxRecDepth 100000 in
set_option maxHeartbeats 4000000 in
theorem dfaTexts_any (s : Shp) (A : Option Addr) (c : Nat) (zs : List Int) (B : Option Addr) (m d : Nat) (n : Int) (w : World) (hs : ShAt w s (A, c)) (hz : Nums w B m zs) (hm : m ≤ 9223372036854775807) (hT : Tab w) :
    Calls Tryz.prog 3 #[s.val A c, .slice B m d, .int .i64 n] w fun e w' => e = .returned (.bool true) ∧ Below w.heap.size w w' := by
  have HFE := hid (fun W (hW : Below w.heap.size w W) => few_any s A c W (hs.under hW))
  obtain ⟨fs, hfs⟩ : ∃ b, b = s.few := ⟨_, rfl⟩
  have HFS := hid hfs
  rw [← hfs] at HFE
  have HW := hid hs
  have HZ := hid hz
  have HT := hid hT
  clear hs hz hfs hT
  unfold Shp.val at *
  go_enter Tryz.func3, Tryz.ntmps3
  go_wp2_with fail
  obtain ⟨w2, hw2⟩ : ∃ w2 : World, w2 = w.alloc (.cells #[Value.int IntKind.i64 s.op, Value.int IntKind.u8 ↑s.low, Value.int IntKind.u8 ↑s.high, Value.string s.text, Value.slice A s.kids.length c] 24) := ⟨_, rfl⟩
  rw [← hw2]
  have HB2 : Hid (Below w.heap.size w w2) := hid (by rw [hw2]; exact (Below.refl _ _).alloc (Nat.le_refl _) _)
  have hk1 : w2.heap[w.heap.size]? = some (.cells #[Value.int IntKind.i64 s.op, Value.int IntKind.u8 ↑s.low, Value.int IntKind.u8 ↑s.high, Value.string s.text, Value.slice A s.kids.length c] 24) := by rw [hw2]; exact blk_new w _
  have HBX : Hid (∀ W, Below w2.heap.size w2 W → W.cell? ⟨w.heap.size, 0, none⟩ = some (.int .i64 s.op) ∧ W.cell? ⟨w.heap.size, 1, none⟩ = some (.int .u8 s.low) ∧ W.cell? ⟨w.heap.size, 2, none⟩ = some (.int .u8 s.high) ∧ W.cell? ⟨w.heap.size, 3, none⟩ = some (.string s.text) ∧ W.cell? ⟨w.heap.size, 4, none⟩ = some (.slice A s.kids.length c)) := fun W hW => by
    have h1 := blk_below hk1 hW
    exact ⟨(blk_cell h1 0).trans (by simp), (blk_cell h1 1).trans (by simp), (blk_cell h1 2).trans (by simp), (blk_cell h1 3).trans (by simp), (blk_cell h1 4).trans (by simp)⟩
  have HNOW : Hid (Below w2.heap.size w2 w2) := Below.refl _ _
  have HHE := hid (head6_any w2 (HT.out.below HB2.out))
  clear hw2 hk1
  cases fs
  · go_wp2_with (first | (go_at_call 11; refine HHE.out.mono ?_; rintro e w3 ⟨rfl, hb1⟩; (first | (have hb1 := undrew hb1) | skip); have HNOW := hid (HNOW.out.trans (hb1.mono HNOW.out.size)); obtain ⟨x0, x1, x2, x3, x4⟩ := HBX.out _ HNOW.out; clear hb1) | (go_at_call 12; refine (HFE.out _ (HB2.out.trans (HNOW.out.mono HB2.out.size))).mono ?_; rintro e w4 ⟨rfl, hb1⟩; (first | (have hb1 := undrew hb1) | skip); have HNOW := hid (HNOW.out.trans (hb1.mono HNOW.out.size)); obtain ⟨x0, x1, x2, x3, x4⟩ := HBX.out _ HNOW.out; clear hb1))
    go_ret
    exact ⟨rfl, HB2.out.trans (HNOW.out.mono HB2.out.size)⟩
  by_cases hm6 : 6 < m
  · have hd : (6 : Int) < (m : Int) := by omega
    go_wp2_with (first | (go_at_call 11; refine HHE.out.mono ?_; rintro e w3 ⟨rfl, hb1⟩; (first | (have hb1 := undrew hb1) | skip); have HNOW := hid (HNOW.out.trans (hb1.mono HNOW.out.size)); obtain ⟨x0, x1, x2, x3, x4⟩ := HBX.out _ HNOW.out; clear hb1) | (go_at_call 12; refine (HFE.out _ (HB2.out.trans (HNOW.out.mono HB2.out.size))).mono ?_; rintro e w4 ⟨rfl, hb1⟩; (first | (have hb1 := undrew hb1) | skip); have HNOW := hid (HNOW.out.trans (hb1.mono HNOW.out.size)); obtain ⟨x0, x1, x2, x3, x4⟩ := HBX.out _ HNOW.out; clear hb1))
    go_ret
    exact ⟨rfl, HB2.out.trans (HNOW.out.mono HB2.out.size)⟩
  have hd : ¬ (6 : Int) < (m : Int) := by omega
  have HMS : Hid (∀ W, Below w.heap.size w W → Calls Tryz.prog 14 #[.agg #[.int .i64 s.op, .int .u8 s.low, .int .u8 s.high, .string s.text, .slice A s.kids.length c]] W (RetRe W X0 s.make)) := fun W hW => make_any s A c X0 W (HW.out.under hW) (X0_lt W) (Shp.few_small HFS.out.symm).2 (Nat.le_trans (Shp.few_small HFS.out.symm).1 (by decide))
  have hxs : s.make.size ≤ 660 := few_size HFS.out.symm
  have hgd : Good s.make := Shp.make_good s
  have HGR := hid (fun W => grant_any 400 400 rfl W)
  have HBU := hid (fun w0 W b (h : ReAt w0 X0 s.make b) hb hB hT => built_any s.make hgd (by omega) 400 (by omega) w0 W b h hb hB hT)
  unfold BuiltRet at HBU
  have hxs2 := hid hxs
  cases hq : buildR ((refineR (setsR s.make)).map leastN) s.make 400 with
  | none =>
    rw [hq] at HBU
    go_wp2_with (first | (go_at_call 11; refine HHE.out.mono ?_; rintro e w3 ⟨rfl, hb1⟩; (first | (have hb1 := undrew hb1) | skip); have HNOW := hid (HNOW.out.trans (hb1.mono HNOW.out.size)); obtain ⟨x0, x1, x2, x3, x4⟩ := HBX.out _ HNOW.out; clear hb1) | (go_at_call 12; refine (HFE.out _ (HB2.out.trans (HNOW.out.mono HB2.out.size))).mono ?_; rintro e w4 ⟨rfl, hb1⟩; (first | (have hb1 := undrew hb1) | skip); have HNOW := hid (HNOW.out.trans (hb1.mono HNOW.out.size)); obtain ⟨x0, x1, x2, x3, x4⟩ := HBX.out _ HNOW.out; clear hb1) | (go_at_call 14; refine (HMS.out _ (HB2.out.trans (HNOW.out.mono HB2.out.size))).mono ?_; rintro e w5 ⟨bx, rfl, hre, hb1⟩; have HRX := hid hre; (first | (have hb1 := undrew hb1) | skip); have HNOW := hid (HNOW.out.trans (hb1.mono HNOW.out.size)); obtain ⟨x0, x1, x2, x3, x4⟩ := HBX.out _ HNOW.out; clear hb1; have HN5 := HNOW; clear hre) | (go_at_call 15; refine (HGR.out _).mono ?_; rintro e w6 ⟨rfl, h6, hb1⟩; have HBD := hid (HBU.out _ _ _ HRX.out hb1 h6 (HT.out.below (HB2.out.trans ((HNOW.out.trans (hb1.mono HNOW.out.size)).mono HB2.out.size)))); (first | (have hb1 := undrew hb1) | skip); have HNOW := hid (HNOW.out.trans (hb1.mono HNOW.out.size)); obtain ⟨x0, x1, x2, x3, x4⟩ := HBX.out _ HNOW.out; clear hb1; clear h6) | (go_at_call 13; refine HBD.out.mono ?_; rintro e w7 ⟨hb7, rfl, -⟩; have HB7 := hid hb7; clear hb7))
    go_ret
    exact ⟨rfl, HB2.out.trans ((HN5.out.trans (HB7.out.mono HN5.out.size)).mono HB2.out.size)⟩
  | some t =>
    obtain ⟨all, nx, left'⟩ := t
    rw [hq] at HBU
    have hok := dfa_ok hq (by omega)
    have hma := dfa_match hgd hq
    obtain ⟨F, hF⟩ : ∃ F, F = atN (refineR (setsR s.make)) (refineR (setsR s.make)).length := ⟨_, rfl⟩
    obtain ⟨hs, hhs⟩ : ∃ hs, hs = (refineR (setsR s.make)).map leastN := ⟨_, rfl⟩
    obtain ⟨ys, hys⟩ : ∃ ys, ys = all.map Re.null := ⟨_, rfl⟩
    simp only [← hF, ← hhs, ← hys] at HBU hok hma
    obtain ⟨tx, htx⟩ : ∃ tx : ByteArray, tx = ⟨(letters zs).toArray⟩ := ⟨_, rfl⟩
    have htl : tx.data.toList = letters zs := by rw [htx]
    have hts : tx.size = m := by
      have h1 : tx.size = (letters zs).length := by rw [htx]; rfl
      have h2 : (letters zs).length = zs.length := by simp [letters]
      have h3 : zs.length = m := HZ.out.1
      omega
    have HSO : Hid (∀ W, Below w.heap.size w W → Calls Tryz.prog 16 #[.slice B m d] W fun e w' => e = .returned (.string tx) ∧ Below W.heap.size W w') := fun W hW => by
      rw [htx]; exact some_any B m d zs W (HZ.out.below hW) (by omega)
    have h255 := i64_and255 n
    obtain ⟨a, ha⟩ : ∃ a : Nat, n % 256 = (a : Int) := ⟨(n % 256).toNat, by omega⟩
    have ha255 : a ≤ 255 := by omega
    rw [ha] at h255
    have hcv : a % (m + 1) ≤ m := by have := Nat.mod_lt a (show 0 < m + 1 by omega); omega
    have hrem : (a : Int) % ((m : Int) + 1) = ((a % (m + 1) : Nat) : Int) := by
      rw [Int.natCast_emod]
      rfl
    have htm : tx.size ≤ 6 := by omega
    generalize a % (m + 1) = cv at *
    clear ha htl hF hhs hys htx
    go_wp2_with (first | (go_at_call 11; refine HHE.out.mono ?_; rintro e w3 ⟨rfl, hb1⟩; (first | (have hb1 := undrew hb1) | skip); have HNOW := hid (HNOW.out.trans (hb1.mono HNOW.out.size)); obtain ⟨x0, x1, x2, x3, x4⟩ := HBX.out _ HNOW.out; clear hb1) | (go_at_call 12; refine (HFE.out _ (HB2.out.trans (HNOW.out.mono HB2.out.size))).mono ?_; rintro e w4 ⟨rfl, hb1⟩; (first | (have hb1 := undrew hb1) | skip); have HNOW := hid (HNOW.out.trans (hb1.mono HNOW.out.size)); obtain ⟨x0, x1, x2, x3, x4⟩ := HBX.out _ HNOW.out; clear hb1) | (go_at_call 14; refine (HMS.out _ (HB2.out.trans (HNOW.out.mono HB2.out.size))).mono ?_; rintro e w5 ⟨bx, rfl, hre, hb1⟩; have HRX := hid hre; (first | (have hb1 := undrew hb1) | skip); have HNOW := hid (HNOW.out.trans (hb1.mono HNOW.out.size)); obtain ⟨x0, x1, x2, x3, x4⟩ := HBX.out _ HNOW.out; clear hb1; have HN5 := HNOW; clear hre) | (go_at_call 15; refine (HGR.out _).mono ?_; rintro e w6 ⟨rfl, h6, hb1⟩; have HBD := hid (HBU.out _ _ _ HRX.out hb1 h6 (HT.out.below (HB2.out.trans ((HNOW.out.trans (hb1.mono HNOW.out.size)).mono HB2.out.size)))); (first | (have hb1 := undrew hb1) | skip); have HNOW := hid (HNOW.out.trans (hb1.mono HNOW.out.size)); obtain ⟨x0, x1, x2, x3, x4⟩ := HBX.out _ HNOW.out; clear hb1; clear h6) | (go_at_call 13; refine HBD.out.mono ?_; rintro e w7 ⟨hb7, -, D, rfl, hd7⟩; have HDA := hid hd7; have HNOW := HN5; have hb1 := hb7; (first | (have hb1 := undrew hb1) | skip); have HNOW := hid (HNOW.out.trans (hb1.mono HNOW.out.size)); obtain ⟨x0, x1, x2, x3, x4⟩ := HBX.out _ HNOW.out; clear hb1; clear hb7 hd7) | (go_at_call 16; refine (HSO.out _ (HB2.out.trans (HNOW.out.mono HB2.out.size))).mono ?_; rintro e w8 ⟨rfl, hb1⟩; have HDA := hid (HDA.out.below hb1); (first | (have hb1 := undrew hb1) | skip); have HNOW := hid (HNOW.out.trans (hb1.mono HNOW.out.size)); obtain ⟨x0, x1, x2, x3, x4⟩ := HBX.out _ HNOW.out; clear hb1))
    rw [hrem]
    obtain ⟨v, hv⟩ : ∃ v, v = decide (s.InS tx.data.toList) := ⟨_, rfl⟩
    obtain ⟨q1, hq1⟩ : ∃ q, q = runD F nx 0 (tx.extract 0 cv).data.toList := ⟨_, rfl⟩
    obtain ⟨q2, hq2⟩ : ∃ q, q = runD F nx 0 tx.data.toList := ⟨_, rfl⟩
    have hsp : runD F nx q1 (tx.extract cv tx.size).data.toList = q2 := by
      rw [hq1, hq2, runD_append]
      congr 1
      simp only [ByteArray.data_extract, Array.toList_extract, List.extract_eq_take_drop, List.drop_zero, Nat.sub_zero]
      rw [List.take_of_length_le (l := tx.data.toList.drop cv) (by simp)]
      exact List.take_append_drop cv tx.data.toList
    have hts6 : tx.size ≤ 1000000 := by omega
    have hcs : cv ≤ tx.size := by omega
    have hHM : Hid (∀ W, Below w8.heap.size w8 W → Calls Tryz.prog 17 #[ptr D, .string tx] W fun e w' => e = .returned (.bool v) ∧ Below W.heap.size W w') := fun W hW => by
      have := dmatch_any D tx hts6 F hs nx ys hok W (HDA.out.below hW)
      rw [hma, lang_bool, ← hv] at this
      exact this
    have HIN : Hid (∀ W, Below w8.heap.size w8 W → Calls Tryz.prog 18 #[.agg #[.int .i64 s.op, .int .u8 s.low, .int .u8 s.high, .string s.text, .slice A s.kids.length c], .string tx] W fun e w' => e = .returned (.bool v) ∧ Below W.heap.size W w') := fun W hW => by
      have := in_any s tx A c W ((HW.out.under HB2.out).under (HNOW.out.trans (hW.mono HNOW.out.size))) hts6
      rw [← hv] at this
      exact this
    have HR1 : Hid (∀ W, Below w8.heap.size w8 W → Calls Tryz.prog 19 #[ptr D, .int .i64 0, .string (tx.extract 0 cv)] W fun e w' => e = .returned (.int .i64 q1) ∧ Below W.heap.size W w') := fun W hW => by
      have := drun_any D 0 (tx.extract 0 cv) (by rw [ByteArray.size_extract]; omega) F hs nx ys hok W (HDA.out.below hW)
      rw [← hq1] at this
      exact this
    have HR2 : Hid (∀ W, Below w8.heap.size w8 W → Calls Tryz.prog 19 #[ptr D, .int .i64 q1, .string (tx.extract cv m)] W fun e w' => e = .returned (.int .i64 q2) ∧ Below W.heap.size W w') := fun W hW => by
      have := drun_any D q1 (tx.extract cv tx.size) (by rw [ByteArray.size_extract]; omega) F hs nx ys hok W (HDA.out.below hW)
      rw [hsp, hts] at this
      exact this
    have HR3 : Hid (∀ W, Below w8.heap.size w8 W → Calls Tryz.prog 19 #[ptr D, .int .i64 0, .string tx] W fun e w' => e = .returned (.int .i64 q2) ∧ Below W.heap.size W w') := fun W hW => by
      have := drun_any D 0 tx hts6 F hs nx ys hok W (HDA.out.below hW)
      rw [← hq2] at this
      exact this
    have HR4 : Hid (∀ W, Below w8.heap.size w8 W → Calls Tryz.prog 19 #[ptr D, .int .i64 0, .string ⟨#[]⟩] W fun e w' => e = .returned (.int .i64 0) ∧ Below W.heap.size W w') := fun W hW =>
      drun_any D 0 ⟨#[]⟩ (by decide) F hs nx ys hok W (HDA.out.below hW)
    have HB8 := hid (HB2.out.trans (HNOW.out.mono HB2.out.size))
    have HBX : Hid (∀ W, Below w8.heap.size w8 W → W.cell? ⟨w.heap.size, 0, none⟩ = some (.int .i64 s.op) ∧ W.cell? ⟨w.heap.size, 1, none⟩ = some (.int .u8 s.low) ∧ W.cell? ⟨w.heap.size, 2, none⟩ = some (.int .u8 s.high) ∧ W.cell? ⟨w.heap.size, 3, none⟩ = some (.string s.text) ∧ W.cell? ⟨w.heap.size, 4, none⟩ = some (.slice A s.kids.length c)) := fun W hW => HBX.out W (HNOW.out.trans (hW.mono HNOW.out.size))
    have HNOW : Hid (Below w8.heap.size w8 w8) := Below.refl _ _
    clear hv hq1 hq2 hsp hma hok HBD HBU HGR HMS HFE HHE hq
    unfold ptr at *
    go_region_held3 (fun w' => w'.cell? ⟨w.heap.size, 0, none⟩ = some (.int .i64 s.op) ∧ w'.cell? ⟨w.heap.size, 1, none⟩ = some (.int .u8 s.low) ∧ w'.cell? ⟨w.heap.size, 2, none⟩ = some (.int .u8 s.high) ∧ w'.cell? ⟨w.heap.size, 3, none⟩ = some (.string s.text) ∧ w'.cell? ⟨w.heap.size, 4, none⟩ = some (.slice A s.kids.length c)) (first | exact ⟨x0, x1, x2, x3, x4⟩ | go_keep)
      (first | (go_at_call 17; with_reducible refine (hHM.out _ (by first | exact HNOW.out | exact HNOW.out.drew)).mono ?_; rintro e w9 ⟨rfl, hb1⟩; (first | (have hb1 := undrew hb1) | skip); have HNOW := hid (HNOW.out.trans (hb1.mono HNOW.out.size)); obtain ⟨x0, x1, x2, x3, x4⟩ := HBX.out _ HNOW.out; clear hb1) | (go_at_call 18; with_reducible refine (HIN.out _ (by first | exact HNOW.out | exact HNOW.out.drew)).mono ?_; rintro e w9 ⟨rfl, hb1⟩; (first | (have hb1 := undrew hb1) | skip); have HNOW := hid (HNOW.out.trans (hb1.mono HNOW.out.size)); obtain ⟨x0, x1, x2, x3, x4⟩ := HBX.out _ HNOW.out; clear hb1) | (go_at_call 19; with_reducible refine (HR1.out _ (by first | exact HNOW.out | exact HNOW.out.drew)).mono ?_; rintro e w9 ⟨rfl, hb1⟩; (first | (have hb1 := undrew hb1) | skip); have HNOW := hid (HNOW.out.trans (hb1.mono HNOW.out.size)); obtain ⟨x0, x1, x2, x3, x4⟩ := HBX.out _ HNOW.out; clear hb1) | (go_at_call 19; with_reducible refine (HR2.out _ (by first | exact HNOW.out | exact HNOW.out.drew)).mono ?_; rintro e w9 ⟨rfl, hb1⟩; (first | (have hb1 := undrew hb1) | skip); have HNOW := hid (HNOW.out.trans (hb1.mono HNOW.out.size)); obtain ⟨x0, x1, x2, x3, x4⟩ := HBX.out _ HNOW.out; clear hb1) | (go_at_call 19; with_reducible refine (HR3.out _ (by first | exact HNOW.out | exact HNOW.out.drew)).mono ?_; rintro e w9 ⟨rfl, hb1⟩; (first | (have hb1 := undrew hb1) | skip); have HNOW := hid (HNOW.out.trans (hb1.mono HNOW.out.size)); obtain ⟨x0, x1, x2, x3, x4⟩ := HBX.out _ HNOW.out; clear hb1) | (go_at_call 19; with_reducible refine (HR4.out _ (by first | exact HNOW.out | exact HNOW.out.drew)).mono ?_; rintro e w9 ⟨rfl, hb1⟩; (first | (have hb1 := undrew hb1) | skip); have HNOW := hid (HNOW.out.trans (hb1.mono HNOW.out.size)); obtain ⟨x0, x1, x2, x3, x4⟩ := HBX.out _ HNOW.out; clear hb1))
    all_goals
      go_wp2_with fail
      go_ret
      exact ⟨by simp, HB8.out.trans (HNOW.out.mono HB8.out.size)⟩
end Go.Proofs.YtaplejpjmaocdaaGreatDoor
