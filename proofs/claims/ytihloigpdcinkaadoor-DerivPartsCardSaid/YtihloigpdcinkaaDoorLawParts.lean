/- The walk of DerivParts. -/
import Derived.Test.YtihloigpdcinkaaDoorLeastW
import Derived.Test.YtihloigpdcinkaaDoorHead5
namespace Go.Proofs.YtihloigpdcinkaaDoor
open Go.RowKit

theorem cntL_take {ps : List CSet} {k : Nat} {p : CSet} (h : ps[k]? = some p) (n : Nat) : cntL (ps.take (k + 1)) n = cntL (ps.take k) n + cntB p n := by
  obtain ⟨hl, e⟩ := List.getElem?_eq_some_iff.1 h
  rw [List.take_succ_eq_append_getElem hl, e]
  simp [cntL]
theorem cntL_take_le {ps : List CSet} (k n : Nat) : cntL (ps.take k) n ≤ cntL ps n := by
  induction ps generalizing k with
  | nil => simp [cntL]
  | cons p ps ih =>
    cases k with
    | zero => simp [cntL]
    | succ k =>
      have := ih k
      simp only [cntL, List.take_succ_cons, List.map_cons, List.sum_cons] at *
      omega
theorem mod5_yes {b : Nat} (h : b % 5 = 0) : (((b : Int).tmod 5) == 0) = true ∧ ((b : Int) % 5 == 0) = true := by
  have : (b : Int).tmod 5 = (b : Int) % 5 := Int.tmod_eq_emod_of_nonneg (by omega)
  rw [this]
  have : (b : Int) % 5 = 0 := by omega
  rw [this]
  exact ⟨rfl, rfl⟩
theorem mod5_no {b : Nat} (h : ¬ b % 5 = 0) : (((b : Int).tmod 5) == 0) = false ∧ ((b : Int) % 5 == 0) = false := by
  have : (b : Int).tmod 5 = (b : Int) % 5 := Int.tmod_eq_emod_of_nonneg (by omega)
  rw [this]
  have : ¬ (b : Int) % 5 = 0 := by omega
  simp [this]
theorem Out.sees_at {S : List CSet} {r : Re} (h : ∀ p ∈ S, ∀ b d, p.has b = true → p.has d = true → byR b r = byR d r) {p : CSet} (hp : p ∈ S) : ∀ b d, p.has b = true → p.has d = true → byR b r = byR d r := h p hp
set_option maxRecDepth 100000 in
set_option maxHeartbeats 4000000 in
theorem derivParts_any (s : Shp) (A : Option Addr) (c : Nat) (w : World) (hs : ShAt w s (A, c)) (hT : Tab w) :
    Calls Tryd.prog 10 #[s.val A c] w fun e w' => e = .returned (.bool true) ∧ Below w.heap.size w w' := by
  have HHE := hid head5_any
  have HFE := hid (fun W (hW : Below w.heap.size w W) => few_any s A c W (hs.under hW))
  obtain ⟨fs, hfs⟩ : ∃ b, b = s.few := ⟨_, rfl⟩
  have HFS := hid hfs
  rw [← hfs] at HFE
  have HW := hid hs
  have HT := hid hT
  clear hs hfs hT
  unfold Shp.val at *
  go_enter Tryd.func10, Tryd.ntmps10
  go_wp2_with fail
  obtain ⟨w2, hw2⟩ : ∃ w2 : World, w2 = w.alloc (.cells #[Value.int IntKind.i64 s.op, Value.int IntKind.u8 ↑s.low, Value.int IntKind.u8 ↑s.high, Value.string s.text, Value.slice A s.kids.length c] 26) := ⟨_, rfl⟩
  rw [← hw2]
  have HB2 : Hid (Below w.heap.size w w2) := hid (by rw [hw2]; exact (Below.refl _ _).alloc (Nat.le_refl _) _)
  have hk1 : w2.heap[w.heap.size]? = some (.cells #[Value.int IntKind.i64 s.op, Value.int IntKind.u8 ↑s.low, Value.int IntKind.u8 ↑s.high, Value.string s.text, Value.slice A s.kids.length c] 26) := by rw [hw2]; exact blk_new w _
  have HBX : Hid (∀ W, Below w2.heap.size w2 W → W.cell? ⟨w.heap.size, 0, none⟩ = some (.int .i64 s.op) ∧ W.cell? ⟨w.heap.size, 1, none⟩ = some (.int .u8 s.low) ∧ W.cell? ⟨w.heap.size, 2, none⟩ = some (.int .u8 s.high) ∧ W.cell? ⟨w.heap.size, 3, none⟩ = some (.string s.text) ∧ W.cell? ⟨w.heap.size, 4, none⟩ = some (.slice A s.kids.length c)) := fun W hW => by
    have h1 := blk_below hk1 hW
    exact ⟨(blk_cell h1 0).trans (by simp), (blk_cell h1 1).trans (by simp), (blk_cell h1 2).trans (by simp), (blk_cell h1 3).trans (by simp), (blk_cell h1 4).trans (by simp)⟩
  have HNOW : Hid (Below w2.heap.size w2 w2) := Below.refl _ _
  clear hw2 hk1
  cases fs
  · go_wp2_with (first | (go_at_call 31; refine (HHE.out _).mono ?_; rintro e w3 ⟨rfl, hb1⟩; (first | (have hb1 := undrew hb1) | skip); have HNOW := hid (HNOW.out.trans (hb1.mono HNOW.out.size)); obtain ⟨x0, x1, x2, x3, x4⟩ := HBX.out _ HNOW.out; (first | (have HRX := hid (HRX.out.under hb1)) | skip); clear hb1) | (go_at_call 12; refine (HFE.out _ (HB2.out.trans (HNOW.out.mono HB2.out.size))).mono ?_; rintro e w4 ⟨rfl, hb1⟩; (first | (have hb1 := undrew hb1) | skip); have HNOW := hid (HNOW.out.trans (hb1.mono HNOW.out.size)); obtain ⟨x0, x1, x2, x3, x4⟩ := HBX.out _ HNOW.out; (first | (have HRX := hid (HRX.out.under hb1)) | skip); clear hb1))
    go_ret
    exact ⟨rfl, HB2.out.trans (HNOW.out.mono HB2.out.size)⟩
  have HMS : Hid (∀ W, Below w.heap.size w W → Calls Tryd.prog 13 #[.agg #[.int .i64 s.op, .int .u8 s.low, .int .u8 s.high, .string s.text, .slice A s.kids.length c]] W (RetRe W X0 s.make)) := fun W hW => make_any s A c X0 W (HW.out.under hW) X0X (Shp.few_small HFS.out.symm).2 (Nat.le_trans (Shp.few_small HFS.out.symm).1 (by decide))
  have hxs : s.make.size ≤ 660 := few_size HFS.out.symm
  have hgd : Good s.make := Shp.make_good s
  generalize s.make = r at *
  have HPA : Hid (∀ W b, ReAt W X0 r b → Calls Tryd.prog 40 #[ptr b] W (RetSets W (refineR (firstsR r)))) := fun W b h => parts_any r X0 b W h (by omega)
  have HRF := hid (fun W A n c (hr : RdC W A n (firstsR r)) => refine_any A n c (firstsR r) W hr (by have := hr.1; have := firstsR_len r; omega))
  obtain ⟨hsee, hout, hcov⟩ := refine_facts (firstsR r)
  have HCG : Hid (∀ p ∈ refineR (firstsR r), ∀ b d, p.has b = true → p.has d = true → byR b r = byR d r) := fun p hp b d hb hd => byR_congr b d r hgd fun s hs => hsee p hp s hs b d hb hd
  have hall := cntL_all hout hcov 256 (Nat.le_refl _)
  have hlen := out_len hout hcov
  generalize refineR (firstsR r) = S at *
  have HNE := hid hout.ne
  have HALL := hid hall
  have HLN := hid hlen
  have HXS := hid hxs
  have HSAME : Hid (∀ W (x : Re) a b, ReAt W X0 x a → ReAt W X0 x b → Calls Tryd.prog 15 #[ptr a, ptr b] W fun e w' => e = .returned (.bool true) ∧ W = w') := fun W x a b ha hb => (same_any _ _ X0 X0 a b W ha hb).mono fun e w' h => ⟨by rw [h.1, beq_self_eq_true], h.2⟩
  have HGD := hid hgd
  clear hsee hout hcov hall hlen hxs hgd
  go_wp2_with (first | (go_at_call 31; refine (HHE.out _).mono ?_; rintro e w3 ⟨rfl, hb1⟩; (first | (have hb1 := undrew hb1) | skip); have HNOW := hid (HNOW.out.trans (hb1.mono HNOW.out.size)); obtain ⟨x0, x1, x2, x3, x4⟩ := HBX.out _ HNOW.out; (first | (have HRX := hid (HRX.out.under hb1)) | skip); clear hb1) | (go_at_call 12; refine (HFE.out _ (HB2.out.trans (HNOW.out.mono HB2.out.size))).mono ?_; rintro e w4 ⟨rfl, hb1⟩; (first | (have hb1 := undrew hb1) | skip); have HNOW := hid (HNOW.out.trans (hb1.mono HNOW.out.size)); obtain ⟨x0, x1, x2, x3, x4⟩ := HBX.out _ HNOW.out; (first | (have HRX := hid (HRX.out.under hb1)) | skip); clear hb1) | (go_at_call 13; refine (HMS.out _ (HB2.out.trans (HNOW.out.mono HB2.out.size))).mono ?_; rintro e w5 ⟨bx, rfl, hre, hb1⟩; (first | (have hb1 := undrew hb1) | skip); have HNOW := hid (HNOW.out.trans (hb1.mono HNOW.out.size)); obtain ⟨x0, x1, x2, x3, x4⟩ := HBX.out _ HNOW.out; (first | (have HRX := hid (HRX.out.under hb1)) | skip); clear hb1; have HRX := hid hre; clear hre) | (go_at_call 40; refine (HPA.out _ _ HRX.out).mono ?_; rintro e w6 ⟨v6, rfl, h6, hb1⟩; (first | (have hb1 := undrew hb1) | skip); have HNOW := hid (HNOW.out.trans (hb1.mono HNOW.out.size)); obtain ⟨x0, x1, x2, x3, x4⟩ := HBX.out _ HNOW.out; (first | (have HRX := hid (HRX.out.under hb1)) | skip); clear hb1; obtain ⟨A6, c6, hv6⟩ := h6.form; subst hv6; have HS6 := hid h6.rd.2.2; clear h6 x0 x1 x2 x3 x4))
  have HB6 := hid (HB2.out.trans (HNOW.out.mono HB2.out.size))
  have HT6 := hid (HT.out.below HB6.out)
  clear HNOW HPA HMS HFE HHE HBX
  go_loopw [5, 25] (fun nv i wr => ∃ k m : Nat, k ≤ S.length ∧ i = .int .i64 k ∧ nv = .int .i64 m ∧ Hid (m = cntL (S.take k) 256) ∧ Hid (Below w6.heap.size w6 wr)) (fun _ i _ => S.length - (intOf i).toNat)
  case atStart => exact ⟨0, 0, Nat.zero_le _, rfl, rfl, rfl, Below.refl _ _⟩
  case round =>
    obtain ⟨k, m, hk, rfl, rfl, hm, hbel⟩ := hrel
    by_cases hlt : k < S.length
    · obtain ⟨g, o, p, rfl, hp, hg, a0, a1, a2, a3⟩ := HS6.out.at_ (k := k) hlt
      have ha := fun i => hbel.out.cell (p := ⟨g, i, none⟩) hg
      have a0 := (ha _).trans a0; have a1 := (ha _).trans a1; have a2 := (ha _).trans a2; have a3 := (ha _).trans a3
      have HP := hid hp
      clear ha hp
      have hpm : p ∈ S := List.mem_of_getElem? HP.out
      have HPS := hid (Out.sees_at HCG.out hpm)
      have HLH := hid (least_has p (HNE.out p hpm))
      have HLE := hid (fun W (hW : Below w6.heap.size w6 W) => least_any p (HNE.out p hpm) W (HT6.out.below hW))
      have HHAS0 := hid (fun b (hb : b < 256) W => has_any p b W hb)
      unfold cv at HLE HHAS0
      generalize leastN p = l at *
      have hl256 : l < 256 := HLH.out.2
      have HBY := hid (fun W (h : ReAt W X0 r bx) => by_any l hl256 r HGD.out (Nat.le_trans HXS.out (by decide)) X0 bx W h X0X)
      clear hpm
      go_wp2_with fail
      obtain ⟨w7, hw7⟩ : ∃ w7 : World, w7 = wr.alloc (.cells #[Value.int IntKind.u64 ↑p.a.toNat, Value.int IntKind.u64 ↑p.b.toNat, Value.int IntKind.u64 ↑p.c.toNat, Value.int IntKind.u64 ↑p.d.toNat] 42) := ⟨_, rfl⟩
      rw [← hw7]
      have HB7 : Hid (Below wr.heap.size wr w7) := hid (by rw [hw7]; exact (Below.refl _ _).alloc (Nat.le_refl _) _)
      obtain ⟨g7, hg7⟩ : ∃ g7, g7 = wr.heap.size := ⟨_, rfl⟩
      have hs7 : w7.heap[g7]? = some (.cells (setCellsA p) 42 (0, 0)) := by rw [hw7, hg7]; exact blk_new wr _
      rw [← hg7]
      have HPC : Hid (∀ W, Below w7.heap.size w7 W → W.cell? ⟨g7, 0, none⟩ = some (.int .u64 p.a.toNat) ∧ W.cell? ⟨g7, 1, none⟩ = some (.int .u64 p.b.toNat) ∧ W.cell? ⟨g7, 2, none⟩ = some (.int .u64 p.c.toNat) ∧ W.cell? ⟨g7, 3, none⟩ = some (.int .u64 p.d.toNat)) := fun W hW => by
        have h1 := blk_below hs7 hW
        exact ⟨(blk_cell h1 0).trans (by rfl), (blk_cell h1 1).trans (by rfl), (blk_cell h1 2).trans (by rfl), (blk_cell h1 3).trans (by rfl)⟩
      have HB67 := hid (hbel.out.trans (HB7.out.mono hbel.out.size))
      have HRX := hid ((HRX.out.under hbel.out).under HB7.out)
      have HLE := hid (fun W (hW : Below w7.heap.size w7 W) => HLE.out W (HB67.out.trans (hW.mono HB67.out.size)))
      have HNOW : Hid (Below w7.heap.size w7 w7) := Below.refl _ _
      obtain ⟨x0, x1, x2, x3⟩ := HPC.out _ HNOW.out
      clear hw7 hg7 hs7 a0 a1 a2 a3
      go_wp2_with (first | (go_at_call 41; refine (HLE.out _ HNOW.out).mono ?_; rintro e w8 ⟨rfl, hb1⟩; (first | (have hb1 := undrew hb1) | skip); have HNOW := hid (HNOW.out.trans (hb1.mono HNOW.out.size)); (first | (have HRX := hid (HRX.out.under hb1)) | skip); (first | (have HRB := hid (HRB.out.under hb1)) | skip); (first | (have HRC := hid (HRC.out.under hb1)) | skip); (first | (have HSW := hid (HSW.out.below hb1)) | skip); (first | (have HS6 := hid (HS6.out.below hb1)) | skip); (first | (obtain ⟨x0, x1, x2, x3⟩ := HPC.out _ HNOW.out) | skip); (first | (have HQ := hid (HQ.out.trans (hb1.mono HQ.out.size))) | skip); clear hb1) | (go_at_call 33; (with_reducible refine (HBY.out _ HRX.out).mono ?_); rintro e w9 ⟨b9, rfl, hw, hb1⟩; (first | (have hb1 := undrew hb1) | skip); have HNOW := hid (HNOW.out.trans (hb1.mono HNOW.out.size)); (first | (have HRX := hid (HRX.out.under hb1)) | skip); (first | (have HRB := hid (HRB.out.under hb1)) | skip); (first | (have HRC := hid (HRC.out.under hb1)) | skip); (first | (have HSW := hid (HSW.out.below hb1)) | skip); (first | (have HS6 := hid (HS6.out.below hb1)) | skip); (first | (obtain ⟨x0, x1, x2, x3⟩ := HPC.out _ HNOW.out) | skip); (first | (have HQ := hid (HQ.out.trans (hb1.mono HQ.out.size))) | skip); clear hb1; have HRB := hid hw; clear hw))
      obtain ⟨wo, hwo⟩ : ∃ wo : World, wo = w9 := ⟨_, rfl⟩
      go_loopw [5, 11] (fun nv i wq => ∃ b q : Nat, b ≤ 256 ∧ i = .int .i64 b ∧ nv = .int .i64 q ∧ Hid (q = cntL (S.take k) 256 + cntB p b) ∧ Hid (Below w9.heap.size w9 wq)) (fun _ i _ => 256 - (intOf i).toNat)
      case atStart => exact ⟨0, m, Nat.zero_le _, rfl, rfl, by show _ = _; rw [hm.out]; rfl, Below.refl _ _⟩
      case round =>
        obtain ⟨b, q, hb, rfl, rfl, hq, hbq⟩ := hrel
        have HNOW := hid (HNOW.out.trans (hbq.out.mono HNOW.out.size))
        have HQ := hid hbq.out
        obtain ⟨x0, x1, x2, x3⟩ := HPC.out _ HNOW.out
        have HRX := hid (HRX.out.under hbq.out)
        have HRB := hid (HRB.out.under hbq.out)
        by_cases hb2 : b < 256
        · have HHAS := hid (HHAS0.out b hb2)
          have HCB := hid (cntB_succ p b)
          cases hpb : p.has b with
          | false =>
            rw [hpb] at HHAS HCB
            clear hpb
            go_wp2_with (first | (go_at_call 36; refine (HHAS.out _).mono ?_; rintro e w10 ⟨rfl, hb1⟩; (first | (have hb1 := undrew hb1) | skip); have HNOW := hid (HNOW.out.trans (hb1.mono HNOW.out.size)); (first | (have HRX := hid (HRX.out.under hb1)) | skip); (first | (have HRB := hid (HRB.out.under hb1)) | skip); (first | (have HRC := hid (HRC.out.under hb1)) | skip); (first | (have HSW := hid (HSW.out.below hb1)) | skip); (first | (have HS6 := hid (HS6.out.below hb1)) | skip); (first | (obtain ⟨x0, x1, x2, x3⟩ := HPC.out _ HNOW.out) | skip); (first | (have HQ := hid (HQ.out.trans (hb1.mono HQ.out.size))) | skip); clear hb1))
            go_roundw
            case rel => exact ⟨b + 1, q, by omega, by go_num, rfl, by show _ = _; rw [hq.out, HCB.out]; rfl, HQ.out⟩
            case measure => simp [intOf]; omega
          | true =>
            rw [hpb] at HHAS HCB
            have HEQ := hid (HPS.out b l hpb HLH.out.1)
            have HBY2 := hid (fun W (h : ReAt W X0 r bx) => by_any b hb2 r HGD.out (Nat.le_trans HXS.out (by decide)) X0 bx W h X0X)
            rw [HEQ.out] at HBY2
            have hqb : q ≤ 65792 := by
              have h1 := cntL_take_le (ps := S) k 256
              have h2 := cntB_le p b
              have := hq.out
              have := HALL.out
              omega
            clear hpb
            by_cases h5 : b % 5 = 0
            · obtain ⟨hm5, hn5⟩ := mod5_yes h5
              go_wp2_with (first | (go_at_call 36; refine (HHAS.out _).mono ?_; rintro e w10 ⟨rfl, hb1⟩; (first | (have hb1 := undrew hb1) | skip); have HNOW := hid (HNOW.out.trans (hb1.mono HNOW.out.size)); (first | (have HRX := hid (HRX.out.under hb1)) | skip); (first | (have HRB := hid (HRB.out.under hb1)) | skip); (first | (have HRC := hid (HRC.out.under hb1)) | skip); (first | (have HSW := hid (HSW.out.below hb1)) | skip); (first | (have HS6 := hid (HS6.out.below hb1)) | skip); (first | (obtain ⟨x0, x1, x2, x3⟩ := HPC.out _ HNOW.out) | skip); (first | (have HQ := hid (HQ.out.trans (hb1.mono HQ.out.size))) | skip); clear hb1) | (go_at_call 33; (with_reducible refine (HBY2.out _ HRX.out).mono ?_); rintro e w11 ⟨b11, rfl, hw, hb1⟩; (first | (have hb1 := undrew hb1) | skip); have HNOW := hid (HNOW.out.trans (hb1.mono HNOW.out.size)); (first | (have HRX := hid (HRX.out.under hb1)) | skip); (first | (have HRB := hid (HRB.out.under hb1)) | skip); (first | (have HRC := hid (HRC.out.under hb1)) | skip); (first | (have HSW := hid (HSW.out.below hb1)) | skip); (first | (have HS6 := hid (HS6.out.below hb1)) | skip); (first | (obtain ⟨x0, x1, x2, x3⟩ := HPC.out _ HNOW.out) | skip); (first | (have HQ := hid (HQ.out.trans (hb1.mono HQ.out.size))) | skip); clear hb1; have HRC := hid hw; clear hw) | (go_at_call 15; refine (HSAME.out _ _ _ _ HRC.out HRB.out).mono ?_; rintro e w12 ⟨rfl, rfl⟩))
              go_roundw
              case rel => exact ⟨b + 1, q + 1, by omega, by go_num, by go_num, by show _ = _; rw [HCB.out, hq.out, if_pos trivial, Nat.add_assoc], HQ.out⟩
              case measure => simp [intOf]; omega
            · obtain ⟨hm5, hn5⟩ := mod5_no h5
              go_wp2_with (first | (go_at_call 36; refine (HHAS.out _).mono ?_; rintro e w10 ⟨rfl, hb1⟩; (first | (have hb1 := undrew hb1) | skip); have HNOW := hid (HNOW.out.trans (hb1.mono HNOW.out.size)); (first | (have HRX := hid (HRX.out.under hb1)) | skip); (first | (have HRB := hid (HRB.out.under hb1)) | skip); (first | (have HRC := hid (HRC.out.under hb1)) | skip); (first | (have HSW := hid (HSW.out.below hb1)) | skip); (first | (have HS6 := hid (HS6.out.below hb1)) | skip); (first | (obtain ⟨x0, x1, x2, x3⟩ := HPC.out _ HNOW.out) | skip); (first | (have HQ := hid (HQ.out.trans (hb1.mono HQ.out.size))) | skip); clear hb1))
              go_roundw
              case rel => exact ⟨b + 1, q + 1, by omega, by go_num, by go_num, by show _ = _; rw [HCB.out, hq.out, if_pos trivial, Nat.add_assoc], HQ.out⟩
              case measure => simp [intOf]; omega
        · have hbb : b = 256 := by omega
          subst hbb
          have hln : S.length ≤ 256 := HLN.out
          go_wp2_with fail
          go_roundw
          case rel => exact ⟨k + 1, q, by omega, by go_num, rfl, by show _ = _; rw [hq.out, cntL_take HP.out], HB67.out.trans (HNOW.out.mono HB67.out.size)⟩
          case measure => simp [intOf]; omega
    · have hkn : k = S.length := by omega
      subst hkn
      have hm' : m = 256 := by rw [hm.out, List.take_length]; exact HALL.out
      subst hm'
      have HFI := hid (fun W (h : ReAt W X0 r bx) => firsts_any r X0 bx W h (Nat.le_trans HXS.out (by decide)))
      have HRX := hid (HRX.out.under hbel.out)
      have HS6 := hid (HS6.out.below hbel.out)
      have HNOW := hid hbel.out
      go_wp2_with (first | (go_at_call 43; refine (HFI.out _ HRX.out).mono ?_; rintro e w13 ⟨v13, rfl, h13, hb1⟩; (first | (have hb1 := undrew hb1) | skip); have HNOW := hid (HNOW.out.trans (hb1.mono HNOW.out.size)); (first | (have HRX := hid (HRX.out.under hb1)) | skip); (first | (have HRB := hid (HRB.out.under hb1)) | skip); (first | (have HRC := hid (HRC.out.under hb1)) | skip); (first | (have HSW := hid (HSW.out.below hb1)) | skip); (first | (have HS6 := hid (HS6.out.below hb1)) | skip); (first | (obtain ⟨x0, x1, x2, x3⟩ := HPC.out _ HNOW.out) | skip); (first | (have HQ := hid (HQ.out.trans (hb1.mono HQ.out.size))) | skip); clear hb1; obtain ⟨A13, c13, hv13⟩ := h13.form; subst hv13; have HF13 := hid h13.rd.2.2; clear h13) | (go_at_call 42; refine (HRF.out _ _ _ _ HF13.out).mono ?_; rintro e w14 ⟨v14, rfl, h14, hb1⟩; (first | (have hb1 := undrew hb1) | skip); have HNOW := hid (HNOW.out.trans (hb1.mono HNOW.out.size)); (first | (have HRX := hid (HRX.out.under hb1)) | skip); (first | (have HRB := hid (HRB.out.under hb1)) | skip); (first | (have HRC := hid (HRC.out.under hb1)) | skip); (first | (have HSW := hid (HSW.out.below hb1)) | skip); (first | (have HS6 := hid (HS6.out.below hb1)) | skip); (first | (obtain ⟨x0, x1, x2, x3⟩ := HPC.out _ HNOW.out) | skip); (first | (have HQ := hid (HQ.out.trans (hb1.mono HQ.out.size))) | skip); clear hb1; obtain ⟨A14, c14, hv14⟩ := h14.form; subst hv14; have HSW := hid h14.rd.2.2; clear h14))
      have hSn : S.length ≤ 256 := HLN.out
      go_loopw [76] (fun i wq => ∃ (k' : Nat), k' ≤ S.length ∧ i = .int .i64 k' ∧ Hid (Below w14.heap.size w14 wq)) (fun i _ => S.length - (intOf i).toNat)
      case atStart => exact ⟨0, Nat.zero_le _, rfl, Below.refl _ _⟩
      case round =>
        obtain ⟨k', hk', rfl, hbq⟩ := hrel
        by_cases hlt' : k' < S.length
        · obtain ⟨g1, o1, s1, rfl, hs1, hg1, a0, a1, a2, a3⟩ := HS6.out.at_ (k := k') hlt'
          obtain ⟨g2, o2, s2, rfl, hs2, hg2, b0, b1, b2, b3⟩ := HSW.out.at_ (k := k') hlt'
          rw [hs1] at hs2
          have hs2 : s1 = s2 := by simpa using hs2
          subst hs2
          have ha := fun i => hbq.out.cell (p := ⟨g1, i, none⟩) hg1
          have hb := fun i => hbq.out.cell (p := ⟨g2, i, none⟩) hg2
          have a0 := (ha _).trans a0; have a1 := (ha _).trans a1; have a2 := (ha _).trans a2; have a3 := (ha _).trans a3
          have b0 := (hb _).trans b0; have b1 := (hb _).trans b1; have b2 := (hb _).trans b2; have b3 := (hb _).trans b3
          have hqq : ∀ W, (binOp .neq 42 (.agg #[.int .u64 s1.a.toNat, .int .u64 s1.b.toNat, .int .u64 s1.c.toNat, .int .u64 s1.d.toNat]) (.agg #[.int .u64 s1.a.toNat, .int .u64 s1.b.toNat, .int .u64 s1.c.toNat, .int .u64 s1.d.toNat])).run Tryd.prog W = .ok (.bool false) W := fun W => (run_neq_set s1 s1 W).trans (by rw [decide_eq_true rfl]; rfl)
          have hmm : ∀ (op : BinOp) (x y : Operand) (xs ys : Array Value) (W : World), (eqGuard op 42 x y (.agg xs) (.agg ys)).run Tryd.prog W = .ok () W := fun op x y xs ys W => run_eqGuard_agg W op _ x y xs ys (by kernel_rfl)
          clear hs1 ha hb
          go_wp2_with fail
          go_quiet (fail)
          go_wp2_with fail
          go_roundw
          case rel => exact ⟨k' + 1, by omega, by go_num, hbq.out.trans (below_drewN _ _ _)⟩
          case measure => simp [intOf]; omega
        · have HNOW := hid (HNOW.out.trans (hbq.out.mono HNOW.out.size))
          go_wp2_with fail
          go_ret
          exact ⟨rfl, HB6.out.trans (HNOW.out.mono HB6.out.size)⟩
end Go.Proofs.YtihloigpdcinkaaDoor
