/- The walk of DfaBytes. -/
import Derived.Test.YtaplejpjmaocdaaGreatDoorLawDTexts
namespace Go.Proofs.YtaplejpjmaocdaaGreatDoor
open Go.RowKit Go.Maps

theorem fi_of {ps : List CSet} (h : Out ps) {F : Nat → Nat} {b k : Nat} {p : CSet} (hF : ∃ q, ps[F b]? = some q ∧ q.has b = true) (hp : ps[k]? = some p) (hb : p.has b = true) : F b = k := by
  obtain ⟨q, hq, hqb⟩ := hF
  exact out_unique h hq hp hqb hb
theorem stepD_same {F : Nat → Nat} {b d : Nat} (h : F b = F d) (nx : List (List Nat)) (q : Int) : stepD F nx q b = stepD F nx q d := by
  unfold stepD
  rw [h]
set_option maxRecDepth 100000 in
set_option maxHeartbeats 4000000 in
theorem dfaBytes_any (s : Shp) (A : Option Addr) (c : Nat) (w : World) (hs : ShAt w s (A, c)) (hT : Tab w) :
    Calls Tryz.prog 4 #[s.val A c] w fun e w' => e = .returned (.bool true) ∧ Below w.heap.size w w' := by
  have HFE := hid (fun W (hW : Below w.heap.size w W) => few_any s A c W (hs.under hW))
  obtain ⟨fs, hfs⟩ : ∃ b, b = s.few := ⟨_, rfl⟩
  have HFS := hid hfs
  rw [← hfs] at HFE
  have HW := hid hs
  have HT := hid hT
  clear hs hfs hT
  unfold Shp.val at *
  go_enter Tryz.func4, Tryz.ntmps4
  go_wp2_with fail
  obtain ⟨w2, hw2⟩ : ∃ w2 : World, w2 = w.alloc (.cells #[Value.int IntKind.i64 s.op, Value.int IntKind.u8 ↑s.low, Value.int IntKind.u8 ↑s.high, Value.string s.text, Value.slice A s.kids.length c] 24) := ⟨_, rfl⟩
  rw [← hw2]
  have HB2 : Hid (Below w.heap.size w w2) := hid (by rw [hw2]; exact (Below.refl _ _).alloc (Nat.le_refl _) _)
  have hk1 : w2.heap[w.heap.size]? = some (.cells #[Value.int IntKind.i64 s.op, Value.int IntKind.u8 ↑s.low, Value.int IntKind.u8 ↑s.high, Value.string s.text, Value.slice A s.kids.length c] 24) := by rw [hw2]; exact blk_new w _
  have HBX : Hid (∀ W, Below w2.heap.size w2 W → W.cell? ⟨w.heap.size, 0, none⟩ = some (.int .i64 s.op) ∧ W.cell? ⟨w.heap.size, 1, none⟩ = some (.int .u8 s.low) ∧ W.cell? ⟨w.heap.size, 2, none⟩ = some (.int .u8 s.high) ∧ W.cell? ⟨w.heap.size, 3, none⟩ = some (.string s.text) ∧ W.cell? ⟨w.heap.size, 4, none⟩ = some (.slice A s.kids.length c)) := fun W hW => by
    have h1 := blk_below hk1 hW
    exact ⟨(blk_cell h1 0).trans (by simp), (blk_cell h1 1).trans (by simp), (blk_cell h1 2).trans (by simp), (blk_cell h1 3).trans (by simp), (blk_cell h1 4).trans (by simp)⟩
  have HNOW : Hid (Below w2.heap.size w2 w2) := Below.refl _ _
  have HHE := hid (head6_any w2 (HT.out.below HB2.out))
  clear hw2 hk1
  cases fs
  · go_wp2_with (first | (go_at_call 11; refine HHE.out.mono ?_; rintro e w3 ⟨rfl, hb1⟩; (first | (have hb1 := undrew hb1) | skip); have HNOW := hid (HNOW.out.trans (hb1.mono HNOW.out.size)); obtain ⟨x0, x1, x2, x3, x4⟩ := HBX.out _ HNOW.out; clear hb1) | (go_at_call 12; refine (HFE.out _ (HB2.out.trans (HNOW.out.mono HB2.out.size))).mono ?_; rintro e w4 ⟨rfl, hb1⟩; (first | (have hb1 := undrew hb1) | skip); have HNOW := hid (HNOW.out.trans (hb1.mono HNOW.out.size)); obtain ⟨x0, x1, x2, x3, x4⟩ := HBX.out _ HNOW.out; clear hb1))
    go_ret
    exact ⟨rfl, HB2.out.trans (HNOW.out.mono HB2.out.size)⟩
  have HMS : Hid (∀ W, Below w.heap.size w W → Calls Tryz.prog 14 #[.agg #[.int .i64 s.op, .int .u8 s.low, .int .u8 s.high, .string s.text, .slice A s.kids.length c]] W (RetRe W X0 s.make)) := fun W hW => make_any s A c X0 W (HW.out.under hW) (X0_lt W) (Shp.few_small HFS.out.symm).2 (Nat.le_trans (Shp.few_small HFS.out.symm).1 (by decide))
  have hxs : s.make.size ≤ 660 := few_size HFS.out.symm
  have hgd : Good s.make := Shp.make_good s
  have HGR := hid (fun W => grant_any 300 300 rfl W)
  have HBU := hid (fun w0 W b (h : ReAt w0 X0 s.make b) hb hB hT => built_any s.make hgd (by omega) 300 (by omega) w0 W b h hb hB hT)
  unfold BuiltRet at HBU
  have hxs2 := hid hxs
  cases hq : buildR ((refineR (setsR s.make)).map leastN) s.make 300 with
  | none =>
    rw [hq] at HBU
    go_wp2_with (first | (go_at_call 11; refine HHE.out.mono ?_; rintro e w3 ⟨rfl, hb1⟩; (first | (have hb1 := undrew hb1) | skip); have HNOW := hid (HNOW.out.trans (hb1.mono HNOW.out.size)); obtain ⟨x0, x1, x2, x3, x4⟩ := HBX.out _ HNOW.out; clear hb1) | (go_at_call 12; refine (HFE.out _ (HB2.out.trans (HNOW.out.mono HB2.out.size))).mono ?_; rintro e w4 ⟨rfl, hb1⟩; (first | (have hb1 := undrew hb1) | skip); have HNOW := hid (HNOW.out.trans (hb1.mono HNOW.out.size)); obtain ⟨x0, x1, x2, x3, x4⟩ := HBX.out _ HNOW.out; clear hb1) | (go_at_call 14; refine (HMS.out _ (HB2.out.trans (HNOW.out.mono HB2.out.size))).mono ?_; rintro e w5 ⟨bx, rfl, hre, hb1⟩; have HRX := hid hre; (first | (have hb1 := undrew hb1) | skip); have HNOW := hid (HNOW.out.trans (hb1.mono HNOW.out.size)); obtain ⟨x0, x1, x2, x3, x4⟩ := HBX.out _ HNOW.out; clear hb1; have HN5 := HNOW; clear hre) | (go_at_call 15; refine (HGR.out _).mono ?_; rintro e w6 ⟨rfl, h6, hb1⟩; have HBD := hid (HBU.out _ _ _ HRX.out hb1 h6 (HT.out.below (HB2.out.trans ((HNOW.out.trans (hb1.mono HNOW.out.size)).mono HB2.out.size)))); (first | (have hb1 := undrew hb1) | skip); have HNOW := hid (HNOW.out.trans (hb1.mono HNOW.out.size)); obtain ⟨x0, x1, x2, x3, x4⟩ := HBX.out _ HNOW.out; clear hb1; clear h6) | (go_at_call 13; refine HBD.out.mono ?_; rintro e w7 ⟨hb7, rfl, -⟩; have HB7 := hid hb7; clear hb7))
    go_ret
    exact ⟨rfl, HB2.out.trans ((HN5.out.trans (HB7.out.mono HN5.out.size)).mono HB2.out.size)⟩
  | some t =>
    obtain ⟨all, nx, left'⟩ := t
    rw [hq] at HBU
    have hok := dfa_ok hq (by omega)
    obtain ⟨F, hF⟩ : ∃ F, F = atN (refineR (setsR s.make)) (refineR (setsR s.make)).length := ⟨_, rfl⟩
    have hFs : ∀ b, b < 256 → ∃ q, (refineR (setsR s.make))[F b]? = some q ∧ q.has b = true := fun b hb => by
      obtain ⟨p, h1, h2, -⟩ := at_facts (setsR s.make) hb
      rw [hF]
      exact ⟨p, h1, h2⟩
    have HSE := hid (fun W b (h : ReAt W X0 s.make b) => dsets_any s.make _ b W h (by omega))
    have HRF := hid (fun W A n c (hr : RdC W A n (setsR s.make)) => refine_any A n c (setsR s.make) W hr (by have := hr.1; have := setsR_len s.make; omega))
    obtain ⟨hsee, hout, hcov⟩ := refine_facts (setsR s.make)
    have hlen := out_len hout hcov
    obtain ⟨hs, hhs⟩ : ∃ hs, hs = (refineR (setsR s.make)).map leastN := ⟨_, rfl⟩
    obtain ⟨ys, hys⟩ : ∃ ys, ys = all.map Re.null := ⟨_, rfl⟩
    simp only [← hF, ← hhs, ← hys] at HBU hok
    clear hsee hcov hq hF
    generalize refineR (setsR s.make) = ps at *
    have hhl : hs.length = ps.length := by rw [hhs, List.length_map]
    have HHS := hid hhs
    have HOUT := hid hout
    have HFS := hid hFs
    have HOK := hid hok
    have HLN := hid hlen
    have HHD : Hid (∀ W D, DfaAt W D F hs nx ys → Calls Tryz.prog 22 #[ptr D] W fun e w' => ∃ A c, e = .returned (.slice A ps.length c) ∧ Rd w' A ps.length (u8s hs) ∧ Below W.heap.size W w') := fun W D h => (dheads_any D F hs nx ys hok (by rw [hhl]; exact hlen) W h).mono fun e w' hh => by
      obtain ⟨A, c, h1, h2, -, h3⟩ := hh
      rw [hhl] at h1 h2
      exact ⟨A, c, h1, h2, h3⟩
    clear hok hout hFs hlen hhs hys hhl
    go_wp2_with (first | (go_at_call 11; refine HHE.out.mono ?_; rintro e w3 ⟨rfl, hb1⟩; (first | (have hb1 := undrew hb1) | skip); have HNOW := hid (HNOW.out.trans (hb1.mono HNOW.out.size)); obtain ⟨x0, x1, x2, x3, x4⟩ := HBX.out _ HNOW.out; clear hb1) | (go_at_call 12; refine (HFE.out _ (HB2.out.trans (HNOW.out.mono HB2.out.size))).mono ?_; rintro e w4 ⟨rfl, hb1⟩; (first | (have hb1 := undrew hb1) | skip); have HNOW := hid (HNOW.out.trans (hb1.mono HNOW.out.size)); obtain ⟨x0, x1, x2, x3, x4⟩ := HBX.out _ HNOW.out; clear hb1) | (go_at_call 14; refine (HMS.out _ (HB2.out.trans (HNOW.out.mono HB2.out.size))).mono ?_; rintro e w5 ⟨bx, rfl, hre, hb1⟩; have HRX := hid hre; (first | (have hb1 := undrew hb1) | skip); have HNOW := hid (HNOW.out.trans (hb1.mono HNOW.out.size)); obtain ⟨x0, x1, x2, x3, x4⟩ := HBX.out _ HNOW.out; clear hb1; have HN5 := HNOW; clear hre) | (go_at_call 15; refine (HGR.out _).mono ?_; rintro e w6 ⟨rfl, h6, hb1⟩; have HBD := hid (HBU.out _ _ _ HRX.out hb1 h6 (HT.out.below (HB2.out.trans ((HNOW.out.trans (hb1.mono HNOW.out.size)).mono HB2.out.size)))); (first | (have hb1 := undrew hb1) | skip); have HNOW := hid (HNOW.out.trans (hb1.mono HNOW.out.size)); obtain ⟨x0, x1, x2, x3, x4⟩ := HBX.out _ HNOW.out; clear hb1; clear h6) | (go_at_call 13; refine HBD.out.mono ?_; rintro e w7 ⟨hb7, -, D, rfl, hd7⟩; have HDA := hid hd7; have HRX := hid (HRX.out.under hb7); have HNOW := HN5; have hb1 := hb7; (first | (have hb1 := undrew hb1) | skip); have HNOW := hid (HNOW.out.trans (hb1.mono HNOW.out.size)); obtain ⟨x0, x1, x2, x3, x4⟩ := HBX.out _ HNOW.out; clear hb1; clear hb7 hd7) | (go_at_call 21; refine (HSE.out _ _ HRX.out).mono ?_; rintro e w8 ⟨v8, rfl, h8, hb1⟩; have HDA := hid (HDA.out.below hb1); (first | (have hb1 := undrew hb1) | skip); have HNOW := hid (HNOW.out.trans (hb1.mono HNOW.out.size)); obtain ⟨x0, x1, x2, x3, x4⟩ := HBX.out _ HNOW.out; clear hb1; obtain ⟨A8, c8, hv8⟩ := h8.form; subst hv8; have HS8 := hid h8.rd.2.2; clear h8) | (go_at_call 20; refine (HRF.out _ _ _ _ HS8.out).mono ?_; rintro e w9 ⟨v9, rfl, h9, hb1⟩; have HDA := hid (HDA.out.below hb1); (first | (have hb1 := undrew hb1) | skip); have HNOW := hid (HNOW.out.trans (hb1.mono HNOW.out.size)); obtain ⟨x0, x1, x2, x3, x4⟩ := HBX.out _ HNOW.out; clear hb1; obtain ⟨A9, c9, hv9⟩ := h9.form; subst hv9; have HS9 := hid h9.rd.2.2; clear h9) | (go_at_call 22; refine (HHD.out _ _ HDA.out).mono ?_; rintro e w10 ⟨A10, c10, rfl, h10, hb1⟩; have HDA := hid (HDA.out.below hb1); have HS9 := hid (HS9.out.below hb1); (first | (have hb1 := undrew hb1) | skip); have HNOW := hid (HNOW.out.trans (hb1.mono HNOW.out.size)); obtain ⟨x0, x1, x2, x3, x4⟩ := HBX.out _ HNOW.out; clear hb1; have HH10 := hid h10; clear h10))
    have HB10 := hid (HB2.out.trans (HNOW.out.mono HB2.out.size))
    have HDL := hid (fun W (hW : Below w10.heap.size w10 W) => dlen_any D F hs nx ys W (HDA.out.below hW))
    have hpl : ps.length ≤ 256 := HLN.out
    clear x0 x1 x2 x3 x4 HNOW HHD HRF HSE HBD HBU HGR HMS HFE HHE
    generalize hyl : ys.length = n at *
    have hn : n ≤ 1000000 := by rw [← hyl]; exact HOK.out.small
    clear hyl
    go_loopw [41] (fun i wr => ∃ k : Nat, k ≤ ps.length ∧ i = .int .i64 k ∧ Hid (Below w10.heap.size w10 wr)) (fun i _ => ps.length - (intOf i).toNat)
    case atStart => exact ⟨0, Nat.zero_le _, rfl, Below.refl _ _⟩
    case round =>
      obtain ⟨k, hk, rfl, hbel⟩ := hrel
      by_cases hlt : k < ps.length
      · obtain ⟨g, o, p, rfl, hp, hgl, a0, a1, a2, a3⟩ := HS9.out.at_ (k := k) hlt
        have ha := fun i => hbel.out.cell (p := ⟨g, i, none⟩) hgl
        have a0 := (ha _).trans a0; have a1 := (ha _).trans a1; have a2 := (ha _).trans a2; have a3 := (ha _).trans a3
        have HP := hid hp
        have HHAS0 := hid (fun b (hb : b < 256) W => has_any p b W hb)
        unfold cv at HHAS0
        obtain ⟨l, hl⟩ : ∃ l, l = leastN p := ⟨_, rfl⟩
        have hll := least_has p (HOUT.out.ne p (List.mem_of_getElem? hp))
        rw [← hl] at hll
        obtain ⟨gh, oh, rfl, hghl, hcl⟩ := HH10.out.2 (by omega)
        have hx0 := hcl k (.int .u8 l) (by unfold u8s; rw [HHS.out, List.getElem?_map, List.getElem?_map, hp, hl]; rfl)
        have HX0 := hid (fun W (hW : Below w10.heap.size w10 W) => (hW.cell (p := ⟨gh, oh + k, none⟩) hghl).trans hx0)
        have HLL := hid hll
        clear ha hp hl hll hcl hx0
        go_wp2_with fail
        obtain ⟨w11, hw11⟩ : ∃ W : World, W = wr.alloc (.cells #[Value.int IntKind.u64 ↑p.a.toNat, Value.int IntKind.u64 ↑p.b.toNat, Value.int IntKind.u64 ↑p.c.toNat, Value.int IntKind.u64 ↑p.d.toNat] 46) := ⟨_, rfl⟩
        rw [← hw11]
        have HB11 : Hid (Below wr.heap.size wr w11) := hid (by rw [hw11]; exact (Below.refl _ _).alloc (Nat.le_refl _) _)
        obtain ⟨g7, hg7⟩ : ∃ g7, g7 = wr.heap.size := ⟨_, rfl⟩
        have hs7 : w11.heap[g7]? = some (.cells (setCellsA p) 46 (0, 0)) := by rw [hw11, hg7]; exact blk_new wr _
        rw [← hg7]
        have HPC : Hid (∀ W, Below w11.heap.size w11 W → W.cell? ⟨g7, 0, none⟩ = some (.int .u64 p.a.toNat) ∧ W.cell? ⟨g7, 1, none⟩ = some (.int .u64 p.b.toNat) ∧ W.cell? ⟨g7, 2, none⟩ = some (.int .u64 p.c.toNat) ∧ W.cell? ⟨g7, 3, none⟩ = some (.int .u64 p.d.toNat)) := fun W hW => by
          have h1 := blk_below hs7 hW
          exact ⟨(blk_cell h1 0).trans (by rfl), (blk_cell h1 1).trans (by rfl), (blk_cell h1 2).trans (by rfl), (blk_cell h1 3).trans (by rfl)⟩
        have HB1011 := hid (hbel.out.trans (HB11.out.mono hbel.out.size))
        clear hw11 hg7 hs7 a0 a1 a2 a3
        go_loopw [10] (fun bv wb => ∃ b : Nat, b ≤ 256 ∧ bv = .int .i64 b ∧ Hid (Below w11.heap.size w11 wb)) (fun bv _ => 256 - (intOf bv).toNat)
        case atStart => exact ⟨0, Nat.zero_le _, rfl, Below.refl _ _⟩
        case round =>
          obtain ⟨b, hb, rfl, hbb⟩ := hrel
          obtain ⟨x0, x1, x2, x3⟩ := HPC.out _ hbb.out
          have HN11 := hbb
          by_cases hb2 : b < 256
          · have HHAS := hid (HHAS0.out b hb2)
            cases hpb : p.has b with
            | false =>
              rw [hpb] at HHAS
              clear hpb
              go_wp2_with (first | (go_at_call 23; refine (HHAS.out _).mono ?_; rintro e w13 ⟨rfl, hb1⟩; (first | (have hb1 := undrew hb1) | skip); have HN11 := hid (HN11.out.trans (hb1.mono HN11.out.size)); clear hb1))
              go_roundw
              case rel => exact ⟨b + 1, by omega, by go_num, HN11.out⟩
              case measure => simp [intOf]; omega
            | true =>
              rw [hpb] at HHAS
              have hFF : F b = F l := (fi_of HOUT.out (HFS.out b hb2) HP.out hpb).trans (fi_of HOUT.out (HFS.out l HLL.out.2) HP.out HLL.out.1).symm
              have HST := hid (fun q => stepD_same hFF nx q)
              have HL2 : Hid (l < 256) := HLL.out.2
              have HB2 : Hid (b < 256) := hb2
              clear hpb hFF
              go_wp2_with (first | (go_at_call 23; refine (HHAS.out _).mono ?_; rintro e w13 ⟨rfl, hb1⟩; (first | (have hb1 := undrew hb1) | skip); have HN11 := hid (HN11.out.trans (hb1.mono HN11.out.size)); clear hb1))
              have HB1013 := hid (HB1011.out.trans (HN11.out.mono HB1011.out.size))
              go_loopw [11] (fun qv wq => ∃ q : Nat, q ≤ 20 ∧ qv = .int .i64 q ∧ Hid (Below w13.heap.size w13 wq)) (fun qv _ => 20 - (intOf qv).toNat)
              case atStart => exact ⟨0, Nat.zero_le _, rfl, Below.refl _ _⟩
              case round =>
                obtain ⟨q, hq, rfl, hbq⟩ := hrel
                have HB10q := hid (HB1013.out.trans (hbq.out.mono HB1013.out.size))
                have hx5 := HX0.out _ HB10q.out
                by_cases hq2 : q < n ∧ q < 20
                · obtain ⟨hqn, hq20⟩ := hq2
                  have hmn : (q : Int) < min (n : Int) 20 := by omega
                  have hwb : IntKind.u8.wrap (b : Int) = (b : Int) := by have := HB2.out; rw [IntKind.wrap_u8]; omega
                  have HS1 := hid (fun W (hW : Below w10.heap.size w10 W) => dstep_any D (q : Int) b HB2.out F hs nx ys HOK.out W (HDA.out.below hW))
                  have HS2 := hid (fun W (hW : Below w10.heap.size w10 W) => dstep_any D (q : Int) l HL2.out F hs nx ys HOK.out W (HDA.out.below hW))
                  rw [← HST.out (q : Int)] at HS2
                  generalize stepD F nx (q : Int) b = v at *
                  have HNOW := HB10q
                  have HNQ : Hid (Below wr.heap.size wr wr) := Below.refl _ _
                  go_wp2_with (first | (go_at_call 24; refine (HDL.out _ (HB10q.out)).mono ?_; rintro e w15 ⟨rfl, rfl⟩))
                  go_region_held3 (fun w' => w'.cell? ⟨gh, oh + k, none⟩ = some (.int .u8 l)) (first | exact hx5 | go_keep)
                    (first | (go_at_call 25; with_reducible refine (HS1.out _ (by first | exact HNOW.out | exact HNOW.out.drew)).mono ?_; rintro e w16 ⟨rfl, hb1⟩; (first | (have hb1 := undrew hb1) | skip); have HNOW := hid (HNOW.out.trans (hb1.mono HNOW.out.size)); have HNQ := hid (HNQ.out.trans (hb1.mono HNQ.out.size)); have hx5 := HX0.out _ HNOW.out; clear hb1) | (go_at_call 25; with_reducible refine (HS2.out _ (by first | exact HNOW.out | exact HNOW.out.drew)).mono ?_; rintro e w16 ⟨rfl, hb1⟩; (first | (have hb1 := undrew hb1) | skip); have HNOW := hid (HNOW.out.trans (hb1.mono HNOW.out.size)); have HNQ := hid (HNQ.out.trans (hb1.mono HNQ.out.size)); have hx5 := HX0.out _ HNOW.out; clear hb1))
                  all_goals
                    go_wp2_with fail
                    go_roundw
                    case rel => exact ⟨q + 1, by omega, by go_num, hbq.out.trans ((HNQ.out).mono hbq.out.size)⟩
                    case measure => simp [intOf]; omega
                · have hmn : ¬ (q : Int) < min (n : Int) 20 := by omega
                  go_wp2_with (first | (go_at_call 24; refine (HDL.out _ (HB10q.out)).mono ?_; rintro e w15 ⟨rfl, rfl⟩))
                  go_roundw
                  case rel => exact ⟨b + 1, by omega, by go_num, HN11.out.trans (hbq.out.mono HN11.out.size)⟩
                  case measure => simp [intOf]; omega
          · have hbb2 : b = 256 := by omega
            subst hbb2
            go_wp2_with fail
            go_roundw
            case rel => exact ⟨k + 1, by omega, by go_num, HB1011.out.trans (hbb.out.mono HB1011.out.size)⟩
            case measure => simp [intOf]; omega
      · go_wp2_with fail
        go_ret
        exact ⟨rfl, HB10.out.trans (hbel.out.mono HB10.out.size)⟩
end Go.Proofs.YtaplejpjmaocdaaGreatDoor
