/- The walk of DfaBuilds. -/
import Derived.Test.YtaplejpjmaocdaaGreatDoorLawDBytes
import Derived.Test.YtaplejpjmaocdaaGreatDoorStatesW
namespace Go.Proofs.YtaplejpjmaocdaaGreatDoor
open Go.RowKit Go.Maps

theorem conv_u8s {w : World} {A : Option Addr} {n c : Nat} {hs : List Nat} (hn : 0 < n) (hl : hs.length = n) (h : Rd w A n (u8s hs)) :
    (convert 42 9 (.slice A n c)).run Tryz.prog w = .ok (.string (strOfNums (hs.map fun (h : Nat) => (h : Int)))) w := by
  obtain ⟨g, o, rfl, -, hc⟩ := h.2 hn
  refine run_convert_bytes_arg w 42 5 Tryz.underlying42 Tryz.underlying5 g o n c _ (by rw [List.length_map, hl]) (fun i hi => ?_) 9 Tryz.underlying9
  have hi2 : i < hs.length := by omega
  rw [hc i (.int .u8 (hs[i] : Nat)) (by unfold u8s; rw [List.getElem?_map, List.getElem?_eq_getElem hi2]; rfl), List.getD_eq_getElem?_getD, List.getElem?_map, List.getElem?_eq_getElem hi2]
  rfl
theorem stepD_row {ps : List CSet} {r : Re} {left : Nat} {all : List Re} {nx : List (List Nat)} {left' : Nat} (hps : ps = refineR (setsR r)) (h : buildR (ps.map leastN) r left = some (all, nx, left')) {q j h0 : Nat} {row : List Nat} {p : CSet} (hrow : nx[q]? = some row) (hp : ps[j]? = some p) (hh : h0 = leastN p) {t : Nat} (ht : row[j]? = some t) :
    stepD (atN ps ps.length) nx q h0 = (t : Int) := by
  subst hps
  subst hh
  obtain ⟨hsee, hout, hcov⟩ := refine_facts (setsR r)
  have hl := least_has p (hout.ne p (List.mem_of_getElem? hp))
  obtain ⟨p', h1, h2, -⟩ := at_facts (setsR r) hl.2
  have hF := fi_of hout ⟨p', h1, h2⟩ hp hl.1
  have hq := (List.getElem?_eq_some_iff.1 hrow).1
  unfold stepD
  have e1 : nx.getD q [] = row := by rw [List.getD_eq_getElem?_getD, hrow]; rfl
  have e2 : row.getD j 0 = t := by rw [List.getD_eq_getElem?_getD, ht]; rfl
  rw [if_pos ⟨by omega, by omega⟩, show ((q : Int)).toNat = q from rfl, hF, e1, e2]
theorem yesD_at {all : List Re} {q : Nat} {x : Re} (h : all[q]? = some x) : yesD (all.map Re.null) q = x.null := by
  have hq := (List.getElem?_eq_some_iff.1 h).1
  unfold yesD
  rw [decide_eq_true (show (0 : Int) ≤ (q : Int) ∧ (q : Int) < ((all.map Re.null).length : Int) by rw [List.length_map]; omega), Bool.true_and, show ((q : Int)).toNat = q from rfl, List.getD_eq_getElem?_getD, List.getElem?_map, h]
  rfl
set_option maxRecDepth 100000 in
set_option maxHeartbeats 4000000 in
theorem dfaBuilds_any (s : Shp) (A : Option Addr) (c : Nat) (w : World) (hs : ShAt w s (A, c)) (hT : Tab w) :
    Calls Tryz.prog 5 #[s.val A c] w fun e w' => e = .returned (.bool true) ∧ Below w.heap.size w w' := by
  have HFE := hid (fun W (hW : Below w.heap.size w W) => few_any s A c W (hs.under hW))
  obtain ⟨fs, hfs⟩ : ∃ b, b = s.few := ⟨_, rfl⟩
  have HFS := hid hfs
  rw [← hfs] at HFE
  have HW := hid hs
  have HT := hid hT
  clear hs hfs hT
  unfold Shp.val at *
  go_enter Tryz.func5, Tryz.ntmps5
  go_wp2_with fail
  obtain ⟨w2, hw2⟩ : ∃ w2 : World, w2 = w.alloc (.cells #[Value.int IntKind.i64 s.op, Value.int IntKind.u8 ↑s.low, Value.int IntKind.u8 ↑s.high, Value.string s.text, Value.slice A s.kids.length c] 24) := ⟨_, rfl⟩
  rw [← hw2]
  have HB2 : Hid (Below w.heap.size w w2) := hid (by rw [hw2]; exact (Below.refl _ _).alloc (Nat.le_refl _) _)
  have hk1 : w2.heap[w.heap.size]? = some (.cells #[Value.int IntKind.i64 s.op, Value.int IntKind.u8 ↑s.low, Value.int IntKind.u8 ↑s.high, Value.string s.text, Value.slice A s.kids.length c] 24) := by rw [hw2]; exact blk_new w _
  have HBX : Hid (∀ W, Below w2.heap.size w2 W → W.cell? ⟨w.heap.size, 0, none⟩ = some (.int .i64 s.op) ∧ W.cell? ⟨w.heap.size, 1, none⟩ = some (.int .u8 s.low) ∧ W.cell? ⟨w.heap.size, 2, none⟩ = some (.int .u8 s.high) ∧ W.cell? ⟨w.heap.size, 3, none⟩ = some (.string s.text) ∧ W.cell? ⟨w.heap.size, 4, none⟩ = some (.slice A s.kids.length c)) := fun W hW => by
    have h1 := blk_below hk1 hW
    exact ⟨(blk_cell h1 0).trans (by simp), (blk_cell h1 1).trans (by simp), (blk_cell h1 2).trans (by simp), (blk_cell h1 3).trans (by simp), (blk_cell h1 4).trans (by simp)⟩
  have HNOW : Hid (Below w2.heap.size w2 w2) := Below.refl _ _
  have HHE := hid (head6_any w2 (HT.out.below HB2.out))
  clear hw2 hk1
  cases fs
  · go_wp2_with (first | (go_at_call 11; refine HHE.out.mono ?_; rintro e w3 ⟨rfl, hb1⟩; (first | (have hb1 := undrew hb1) | skip); have HNOW := hid (HNOW.out.trans (hb1.mono HNOW.out.size)); obtain ⟨x0, x1, x2, x3, x4⟩ := HBX.out _ HNOW.out; clear hb1) | (go_at_call 12; refine (HFE.out _ (HB2.out.trans (HNOW.out.mono HB2.out.size))).mono ?_; rintro e w4 ⟨rfl, hb1⟩; (first | (have hb1 := undrew hb1) | skip); have HNOW := hid (HNOW.out.trans (hb1.mono HNOW.out.size)); obtain ⟨x0, x1, x2, x3, x4⟩ := HBX.out _ HNOW.out; clear hb1))
    go_ret
    exact ⟨rfl, HB2.out.trans (HNOW.out.mono HB2.out.size)⟩
  have HMS : Hid (∀ W, Below w.heap.size w W → Calls Tryz.prog 14 #[.agg #[.int .i64 s.op, .int .u8 s.low, .int .u8 s.high, .string s.text, .slice A s.kids.length c]] W (RetRe W X0 s.make)) := fun W hW => make_any s A c X0 W (HW.out.under hW) (X0_lt W) (Shp.few_small HFS.out.symm).2 (Nat.le_trans (Shp.few_small HFS.out.symm).1 (by decide))
  have hxs : s.make.size ≤ 660 := few_size HFS.out.symm
  have hgd : Good s.make := Shp.make_good s
  have HST := hid (fun W b (h : ReAt W X0 s.make b) hT => states_any s.make b W h hgd (by omega) 200 (by decide) (by decide) hT)
  unfold StRes at HST
  have HGRN := hid (fun n (w : World) => grant_any (n : Nat) n rfl w)
  have HBUN := hid (fun n (hn : n ≤ 1000000) w0 W b (h : ReAt w0 X0 s.make b) hb hB hT => built_any s.make hgd (by omega) n hn w0 W b h hb hB hT)
  unfold BuiltRet at HBUN
  cases hq : buildR ((refineR (setsR s.make)).map leastN) s.make 200 with
  | none =>
    have HBU := hid (HBUN.out 200 (by decide))
    have HGR := hid (HGRN.out 200)
    rw [hq] at HST HBU
    clear hq HBUN HGRN
    go_wp2_with (first | (go_at_call 11; refine HHE.out.mono ?_; rintro e w3 ⟨rfl, hb1⟩; (first | (have hb1 := undrew hb1) | skip); have HNOW := hid (HNOW.out.trans (hb1.mono HNOW.out.size)); obtain ⟨x0, x1, x2, x3, x4⟩ := HBX.out _ HNOW.out; clear hb1) | (go_at_call 12; refine (HFE.out _ (HB2.out.trans (HNOW.out.mono HB2.out.size))).mono ?_; rintro e w4 ⟨rfl, hb1⟩; (first | (have hb1 := undrew hb1) | skip); have HNOW := hid (HNOW.out.trans (hb1.mono HNOW.out.size)); obtain ⟨x0, x1, x2, x3, x4⟩ := HBX.out _ HNOW.out; clear hb1) | (go_at_call 14; refine (HMS.out _ (HB2.out.trans (HNOW.out.mono HB2.out.size))).mono ?_; rintro e w5 ⟨bx, rfl, hre, hb1⟩; have HRX := hid hre; (first | (have hb1 := undrew hb1) | skip); have HNOW := hid (HNOW.out.trans (hb1.mono HNOW.out.size)); obtain ⟨x0, x1, x2, x3, x4⟩ := HBX.out _ HNOW.out; clear hb1; have HN5 := HNOW; clear hre) | (go_at_call 26; refine (HST.out _ _ HRX.out (HT.out.below (HB2.out.trans (HNOW.out.mono HB2.out.size)))).mono ?_; rintro e w6 ⟨hb1, rfl⟩; have HRX := hid (HRX.out.under hb1); (first | (have hb1 := undrew hb1) | skip); have HNOW := hid (HNOW.out.trans (hb1.mono HNOW.out.size)); obtain ⟨x0, x1, x2, x3, x4⟩ := HBX.out _ HNOW.out; clear hb1; have HN6 := HNOW) | (go_at_call 15; refine (HGR.out _).mono ?_; rintro e w7 ⟨rfl, h7, hb1⟩; have HBD := hid (HBU.out _ _ _ HRX.out hb1 h7 (HT.out.below (HB2.out.trans ((HNOW.out.trans (hb1.mono HNOW.out.size)).mono HB2.out.size)))); clear h7 hb1) | (go_at_call 13; refine HBD.out.mono ?_; rintro e w8 ⟨hb1, rfl, l8, u8, hbud, hu8⟩; have HRX := hid (HRX.out.under hb1); have hu2 : (u8 : Int) ≤ 200 := (by omega); (first | (have hb1 := undrew hb1) | skip); have HNOW := hid (HNOW.out.trans (hb1.mono HNOW.out.size)); obtain ⟨x0, x1, x2, x3, x4⟩ := HBX.out _ HNOW.out; clear hb1; have HUSED := hid (used_any _ l8 u8 w8 hbud); clear hbud) | (go_at_call 27; refine HUSED.out.mono ?_; rintro e w9 ⟨rfl, rfl⟩))
    go_ret
    exact ⟨rfl, HB2.out.trans (HNOW.out.mono HB2.out.size)⟩
  | some t =>
    obtain ⟨all, nx, left'⟩ := t
    obtain ⟨he, hless⟩ := buildR_exact hq
    have hbo := build_ok hq
    have hnl : nx.length = all.length := hbo.1
    have hn1 : 1 ≤ all.length := by have := (List.getElem?_eq_some_iff.1 hbo.2.2.1).1; omega
    have hn2 : all.length ≤ 200 := by have := hbo.2.2.2; omega
    have hle := hless (all.length - 1) (by omega)
    have HBU := hid (HBUN.out all.length (by omega))
    have HBU2 := hid (HBUN.out (all.length - 1) (by omega))
    have HGR := hid (HGRN.out all.length)
    have HGR2 := hid (fun w => grant_any ((all.length : Int) - 1) (all.length - 1) (by omega) w)
    rw [hq] at HST
    rw [he] at HBU
    rw [hle] at HBU2
    have hok := dfa_ok he (by omega)
    obtain ⟨ps, hps⟩ : ∃ ps, ps = refineR (setsR s.make) := ⟨_, rfl⟩
    rw [← hps] at HST HBU hok he
    have HROW := hid (fun q j h0 row p t h1 h2 h3 h4 => stepD_row (q := q) (j := j) (h0 := h0) (row := row) (p := p) (t := t) hps he h1 h2 h3 h4)
    obtain ⟨-, hout, hcov⟩ := refine_facts (setsR s.make)
    rw [← hps] at hout hcov
    have hlen := out_len hout hcov
    have HNE := hid hout.ne
    obtain ⟨F, hF⟩ : ∃ F, F = atN ps ps.length := ⟨_, rfl⟩
    obtain ⟨hs, hhs⟩ : ∃ hs, hs = ps.map leastN := ⟨_, rfl⟩
    obtain ⟨ys, hys⟩ : ∃ ys, ys = all.map Re.null := ⟨_, rfl⟩
    simp only [← hF, ← hhs, ← hys] at HBU hok
    rw [← hF] at HROW
    simp only [← hhs] at HST
    have hhl : hs.length = ps.length := by rw [hhs, List.length_map]
    have hyl : ys.length = all.length := by rw [hys, List.length_map]
    have HYES := hid (fun q x (h : all[q]? = some x) => yesD_at h)
    rw [← hys] at HYES
    have HRL : Hid (∀ row ∈ nx, row.length = ps.length) := hid (fun row hr => (hok.row row hr).trans hhl)
    have HHS := hid hhs
    have HOK := hid hok
    have HLN := hid hlen
    have HHD : Hid (∀ W D, DfaAt W D F hs nx ys → Calls Tryz.prog 22 #[ptr D] W fun e w' => ∃ A c, e = .returned (.slice A ps.length c) ∧ Rd w' A ps.length (u8s hs) ∧ Below W.heap.size W w') := fun W D h => (dheads_any D F hs nx ys hok (by rw [hhl]; exact hlen) W h).mono fun e w' hh => by
      obtain ⟨A, c, h1, h2, -, h3⟩ := hh
      rw [hhl] at h1 h2
      exact ⟨A, c, h1, h2, h3⟩
    have HDL : Hid (∀ W D, DfaAt W D F hs nx ys → Calls Tryz.prog 24 #[ptr D] W fun e w' => e = .returned (.int .i64 (all.length : Int)) ∧ W = w') := fun W D h => by
      have := dlen_any D F hs nx ys W h
      rw [hyl] at this
      exact this
    have HNL := hid hnl
    have HHL := hid hhl
    have HYL := hid hyl
    have HALL : Hid (∀ W D (q : Int), DfaAt W D F hs nx ys → Calls Tryz.prog 28 #[ptr D, .int .i64 q] W fun e w' => e = .returned (.bool (yesD ys q)) ∧ W = w') := fun W D q h => dyes_any D q F hs nx ys W h
    rw [hnl] at HST
    clear hok hps hhs hys hF hout hcov hlen hq he hless hbo hle HBUN HGRN hnl hyl hhl
    generalize hnn : all.length = n at *
    go_wp2_with (first | (go_at_call 11; refine HHE.out.mono ?_; rintro e w3 ⟨rfl, hb1⟩; (first | (have hb1 := undrew hb1) | skip); have HNOW := hid (HNOW.out.trans (hb1.mono HNOW.out.size)); obtain ⟨x0, x1, x2, x3, x4⟩ := HBX.out _ HNOW.out; clear hb1) | (go_at_call 12; refine (HFE.out _ (HB2.out.trans (HNOW.out.mono HB2.out.size))).mono ?_; rintro e w4 ⟨rfl, hb1⟩; (first | (have hb1 := undrew hb1) | skip); have HNOW := hid (HNOW.out.trans (hb1.mono HNOW.out.size)); obtain ⟨x0, x1, x2, x3, x4⟩ := HBX.out _ HNOW.out; clear hb1) | (go_at_call 14; refine (HMS.out _ (HB2.out.trans (HNOW.out.mono HB2.out.size))).mono ?_; rintro e w5 ⟨bx, rfl, hre, hb1⟩; have HRX := hid hre; (first | (have hb1 := undrew hb1) | skip); have HNOW := hid (HNOW.out.trans (hb1.mono HNOW.out.size)); obtain ⟨x0, x1, x2, x3, x4⟩ := HBX.out _ HNOW.out; clear hb1; have HN5 := HNOW; clear hre) | (go_at_call 26; refine (HST.out _ _ HRX.out (HT.out.below (HB2.out.trans (HNOW.out.mono HB2.out.size)))).mono ?_; rintro e w6 ⟨hb1, Aa, Ah, Ar, ca, ch, cr, bs, us, rfl, ha, he, hh, hr, hro⟩; have HRX := hid (HRX.out.under hb1); (first | (have hb1 := undrew hb1) | skip); have HNOW := hid (HNOW.out.trans (hb1.mono HNOW.out.size)); obtain ⟨x0, x1, x2, x3, x4⟩ := HBX.out _ HNOW.out; clear hb1; have HN6 := HNOW; have HA := hid ha; have HE := hid he; have HH := hid hh; have HRW := hid hr; have HRO := hid hro; clear ha he hh hr hro) | (go_at_call 15; refine (HGR.out _).mono ?_; rintro e w7 ⟨rfl, h7, hb1⟩; have HBD := hid (HBU.out _ _ _ HRX.out hb1 h7 (HT.out.below (HB2.out.trans ((HNOW.out.trans (hb1.mono HNOW.out.size)).mono HB2.out.size)))); clear h7 hb1) | (go_at_call 13; refine HBD.out.mono ?_; rintro e w8 ⟨hb1, hbud, D, rfl, hd7⟩; rw [Nat.sub_zero] at hbud; have HB68 := hid hb1; have HRX := hid (HRX.out.under hb1); (first | (have hb1 := undrew hb1) | skip); have HNOW := hid (HNOW.out.trans (hb1.mono HNOW.out.size)); obtain ⟨x0, x1, x2, x3, x4⟩ := HBX.out _ HNOW.out; clear hb1; have HUSED := hid (used_any _ _ _ w8 hbud); have HBUD := hid hbud; have HDA := hid hd7; clear hbud hd7))
    obtain ⟨B, hB⟩ : ∃ B, B = w6.heap.size := ⟨_, rfl⟩
    rw [← hB] at HUSED HBUD ⊢
    have HB8 := hid (HB2.out.trans (HNOW.out.mono HB2.out.size))
    have HN8 : Hid (Below w8.heap.size w8 w8) := Below.refl _ _
    have HUSE := hid (fun W (hW : Below w8.heap.size w8 W) => used_any B 0 n W (blk_below HBUD.out hW))
    have HAk := hid (HA.out.below HB68.out)
    have HEk := hid (HE.out.below HB68.out)
    have HHk := hid (HH.out.below HB68.out)
    have HRk := hid (HRW.out.below HB68.out)
    have HOk := hid (fun i u row h1 h2 => (HRO.out i u row h1 h2).under HB68.out)
    have hpos : 0 < ps.length := by rw [← HHL.out]; exact Nat.lt_of_le_of_lt (Nat.zero_le _) (HOK.out.at_ 0 (by omega))
    obtain ⟨tx, htx⟩ : ∃ tx, tx = strOfNums (hs.map fun (h : Nat) => (h : Int)) := ⟨_, rfl⟩
    have HCV := hid (fun W A c (h : Rd W A ps.length (u8s hs)) => conv_u8s (c := c) hpos HHL.out h)
    rw [← htx] at HCV
    have hcv0 := HCV.out w8.drew Ah ch (HHk.out.below (Below.refl _ _).drew)
    clear htx hB HA HE HH HRW HRO HUSED
    unfold ptr at *
    go_region_with (first | (go_at_call 24; refine (HDL.out _ _ (HDA.out.below (by first | exact HN8.out | exact HN8.out.drew))).mono ?_; rintro e w9 ⟨rfl, rfl⟩) | (go_at_call 27; refine (HUSE.out _ (by first | exact HN8.out | exact HN8.out.drew)).mono ?_; rintro e w9 ⟨rfl, rfl⟩) | (go_at_call 22; refine (HHD.out _ _ (HDA.out.below (by first | exact HN8.out | exact HN8.out.drew))).mono ?_; rintro e w10 ⟨A10, c10, rfl, h10, hb1⟩; (first | (have hb1 := undrew hb1) | skip); have HN8 := hid (HN8.out.trans (hb1.mono HN8.out.size)); have hcv1 := HCV.out w10 A10 c10 h10; have hcv2 := HCV.out w10 Ah ch (HHk.out.below HN8.out); clear hb1 h10))
    all_goals
      clear hcv0 hcv1 hcv2
      go_wp2_with fail
      go_loopw [90] (fun i wr => ∃ q : Nat, q ≤ n ∧ i = .int .i64 q ∧ Hid (Below w8.heap.size w8 wr)) (fun i _ => n - (intOf i).toNat)
      case atStart => exact ⟨0, Nat.zero_le _, rfl, HN8.out⟩
      case round =>
        obtain ⟨q, hq, rfl, hbel⟩ := hrel
        obtain ⟨wq, hwq⟩ : ∃ W : World, W = wr := ⟨_, rfl⟩
        subst hwq
        by_cases hlt : q < n
        · obtain ⟨x, hx⟩ : ∃ x, all[q]? = some x := ⟨_, List.getElem?_eq_getElem (by omega)⟩
          obtain ⟨bx', hbx⟩ : ∃ b, bs[q]? = some b := ⟨_, List.getElem?_eq_getElem (by rw [← HEk.out.1]; omega)⟩
          have HXR := hid (HEk.out.2 q x bx' hx hbx)
          obtain ⟨ga, oa, rfl, hga, hca⟩ := HAk.out.2 (by omega)
          have xa := (hbel.out.cell (p := ⟨ga, oa + q, none⟩) hga).trans (hca q (ptr bx') (by rw [List.getElem?_map, hbx]; rfl))
          obtain ⟨row, hrow⟩ : ∃ row, nx[q]? = some row := ⟨_, List.getElem?_eq_getElem (by rw [HNL.out]; exact hlt)⟩
          obtain ⟨u, hu⟩ : ∃ u, us[q]? = some u := ⟨_, List.getElem?_eq_getElem (by rw [HRk.out.1]; exact hlt)⟩
          obtain ⟨gr, ro, rfl, hgr, hcr⟩ := HRk.out.2 (by omega)
          have xr := (hbel.out.cell (p := ⟨gr, ro + q, none⟩) hgr).trans (hcr q u hu)
          obtain ⟨Aw, cw, hue, -, hrw⟩ := HOk.out q u row hu hrow
          have hrl := HRL.out row (List.mem_of_getElem? hrow)
          rw [hrl] at hue hrw
          obtain ⟨gw, ow, rfl, hgw, -, hcw⟩ := hrw hpos
          subst hue
          have HCW := hid hcw
          have HROWQ := hid hrow
          have HRLQ := hid hrl
          have HYQ : Hid (∀ W, Below w8.heap.size w8 W → Calls Tryz.prog 28 #[ptr D, .int .i64 q] W fun e w' => e = .returned (.bool x.null) ∧ W = w') := fun W hW => by
            have := HALL.out W D q (HDA.out.below hW)
            rw [HYES.out q x hx] at this
            exact this
          have HNU : Hid (∀ W, Below w8.heap.size w8 W → Calls Tryz.prog 29 #[ptr bx'] W fun e w' => e = .returned (.bool x.null) ∧ W = w') := fun W hW => null_any x X0 bx' W (HXR.out.under hW)
          generalize x.null = y at *
          clear hx hbx hca hcr hrow hu hrw hcw hrl
          have HNQ := hbel
          unfold ptr at *
          go_wp2_with fail
          go_region_held3 (fun w' => w'.cell? ⟨ga, oa + q, none⟩ = some (.pointer (some ⟨bx', 0, none⟩))) (first | exact xa | go_keep) (first | (go_at_call 28; refine (HYQ.out _ (by first | exact HNQ.out | exact HNQ.out.drew)).mono ?_; rintro e w11 ⟨rfl, rfl⟩) | (go_at_call 29; refine (HNU.out _ (by first | exact HNQ.out | exact HNQ.out.drew)).mono ?_; rintro e w12 ⟨rfl, rfl⟩))
          all_goals
            go_wp2_with fail
            go_loopw [106] (fun i wj => ∃ j : Nat, j ≤ ps.length ∧ i = .int .i64 j ∧ Hid (Below w8.heap.size w8 wj)) (fun i _ => ps.length - (intOf i).toNat)
            case atStart => exact ⟨0, Nat.zero_le _, rfl, (by first | exact HNQ.out | exact HNQ.out.drew)⟩
            case round =>
              obtain ⟨j, hj, rfl, hbj⟩ := hrel
              have hpl : ps.length ≤ 256 := HLN.out
              by_cases hlt2 : j < ps.length
              · obtain ⟨pj, hpj⟩ : ∃ p, ps[j]? = some p := ⟨_, List.getElem?_eq_getElem hlt2⟩
                obtain ⟨h0, hh0⟩ : ∃ h0, h0 = leastN pj := ⟨_, rfl⟩
                have hsj : hs[j]? = some h0 := by rw [HHS.out, List.getElem?_map, hpj, hh0]; rfl
                have h256 : h0 < 256 := by rw [hh0]; exact (least_has pj (HNE.out pj (List.mem_of_getElem? hpj))).2
                obtain ⟨t, ht⟩ : ∃ t, row[j]? = some t := ⟨_, List.getElem?_eq_getElem (by rw [HRLQ.out]; exact hlt2)⟩
                obtain ⟨gh, oh, rfl, hgh, hch⟩ := HHk.out.2 hpos
                have xh := (hbj.out.cell (p := ⟨gh, oh + j, none⟩) hgh).trans (hch j (.int .u8 h0) (by unfold u8s; rw [List.getElem?_map, hsj]; rfl))
                have hw8 := HCW.out j t ht
                have HXW := hid (fun W (hW : Below w8.heap.size w8 W) => (hW.cell (p := ⟨gw, ow + j, none⟩) hgw).trans hw8)
                have xw := HXW.out _ hbj.out
                have HSJ : Hid (∀ W, Below w8.heap.size w8 W → Calls Tryz.prog 25 #[ptr D, .int .i64 q, .int .u8 h0] W fun e w' => e = .returned (.int .i64 t) ∧ Below W.heap.size W w') := fun W hW => by
                  have := dstep_any D q h0 h256 F hs nx ys HOK.out W (HDA.out.below hW)
                  rw [HROW.out q j h0 row pj t HROWQ.out hpj hh0 ht] at this
                  exact this
                clear hpj hh0 hsj ht hch hw8
                have HNJ := hbj
                unfold ptr at *
                go_wp2_with fail
                go_region_held3 (fun w' => w'.cell? ⟨gw, ow + j, none⟩ = some (.int .i64 t)) (first | exact xw | go_keep) (first | (go_at_call 25; refine (HSJ.out _ (by first | exact HNJ.out | exact HNJ.out.drew)).mono ?_; rintro e w14 ⟨rfl, hb1⟩; (first | (have hb1 := undrew hb1) | skip); have HNJ := hid (HNJ.out.trans (hb1.mono HNJ.out.size)); have xw := HXW.out _ HNJ.out; clear hb1))
                all_goals
                  go_wp2_with fail
                  go_roundw
                  case rel => exact ⟨j + 1, by omega, by go_num, HNJ.out⟩
                  case measure => simp [intOf]; omega
              · go_wp2_with fail
                go_roundw
                case rel => exact ⟨q + 1, by omega, by go_num, hbj.out⟩
                case measure => simp [intOf]; omega
        · have hqn : q = n := by omega
          subst hqn
          have HRX2 := hid (HRX.out.under hbel.out)
          have HT2 := hid (HT.out.below (HB8.out.trans (hbel.out.mono HB8.out.size)))
          have HSM : Hid (∀ W, Below w8.heap.size w8 W → Calls Tryz.prog 25 #[ptr D, .int .i64 (-1), .int .u8 97] W fun e w' => e = .returned (.int .i64 (-1)) ∧ Below W.heap.size W w') := fun W hW => dstep_any D (-1) 97 (by decide) F hs nx ys HOK.out W (HDA.out.below hW)
          have HSN : Hid (∀ W, Below w8.heap.size w8 W → Calls Tryz.prog 25 #[ptr D, .int .i64 q, .int .u8 97] W fun e w' => e = .returned (.int .i64 (-1)) ∧ Below W.heap.size W w') := fun W hW => by
            have h := dstep_any D q 97 (by decide) F hs nx ys HOK.out W (HDA.out.below hW)
            rw [show stepD F nx q 97 = -1 by unfold stepD; rw [if_neg (by rw [HNL.out]; omega)]] at h
            exact h
          have HYM : Hid (∀ W, Below w8.heap.size w8 W → Calls Tryz.prog 28 #[ptr D, .int .i64 (-1)] W fun e w' => e = .returned (.bool false) ∧ W = w') := fun W hW => HALL.out W D (-1) (HDA.out.below hW)
          have hw1 : wrap64 ((q : Int) - 1) = (q : Int) - 1 := by unfold wrap64; omega
          unfold ptr at *
          go_wp2_with (first | (go_at_call 15; refine (HGR2.out _).mono ?_; rintro e w20 ⟨rfl, h20, hb1⟩; have HBD2 := hid (HBU2.out _ _ _ HRX2.out hb1 h20 (HT2.out.below hb1)); clear h20 hb1) | (go_at_call 13; refine HBD2.out.mono ?_; rintro e w21 ⟨hb1, rfl, l21, u21, hbud, hu21⟩; have hu22 : (u21 : Int) ≤ (q : Int) - 1 := (by omega); have HN21 := hid (hbel.out.trans (hb1.mono hbel.out.size)); have HUSED2 := hid (used_any _ l21 u21 w21 hbud); clear hb1 hbud) | (go_at_call 27; refine HUSED2.out.mono ?_; rintro e w22 ⟨rfl, rfl⟩) | (go_at_call 25; with_reducible refine (HSM.out _ HN21.out).mono ?_; rintro e w23 ⟨rfl, hb1⟩; have HN21 := hid (HN21.out.trans (hb1.mono HN21.out.size)); clear hb1) | (go_at_call 25; with_reducible refine (HSN.out _ HN21.out).mono ?_; rintro e w23 ⟨rfl, hb1⟩; have HN21 := hid (HN21.out.trans (hb1.mono HN21.out.size)); clear hb1) | (go_at_call 28; refine (HYM.out _ HN21.out).mono ?_; rintro e w24 ⟨rfl, rfl⟩))
          go_ret
          exact ⟨rfl, HB8.out.trans (HN21.out.mono HB8.out.size)⟩
end Go.Proofs.YtaplejpjmaocdaaGreatDoor
