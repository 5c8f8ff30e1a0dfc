/- The walk of DerivRules. -/
import Derived.Test.YtihloigpdcinkaaDoorSetsW2
import Derived.Test.YtihloigpdcinkaaDoorHead5
namespace Go.Proofs.YtihloigpdcinkaaDoor
open Go.RowKit

theorem by97 (q : Nat) (hq : q < 4) (r : Re) (hg : Good r) (hsz : r.size ≤ 400000) (X : Nat → Prop) (b : Nat) (w : World) (h : ReAt w X r b) (hX : ∀ k, X k → k < w.heap.size) : Calls Tryd.prog 33 #[ptr b, .int .u8 (97 + (q : Int))] w (RetRe w X (byR (97 + q) r)) := by
  have := by_any (97 + q) (by omega) r hg hsz X b w h hX
  have e : ((97 + q : Nat) : Int) = 97 + (q : Int) := by omega
  rw [e] at this
  exact this
set_option maxRecDepth 100000 in
set_option maxHeartbeats 4000000 in
theorem derivRules_any (s : Shp) (A : Option Addr) (c : Nat) (more : Nat) (w : World) (hs : ShAt w s (A, c)) (hm : more < 256) :
    Calls Tryd.prog 9 #[s.val A c, .int .u8 more] w fun e w' => e = .returned (.bool true) ∧ Below w.heap.size w w' := by
  have HHE := hid head5_any
  have HNO := hid (fun W => nothing_any X0 W X0X)
  have HFE := hid (fun W (hW : Below w.heap.size w W) => few_any s A c W (hs.under hW))
  have hand := and3_u8 more hm
  have hx4 := Nat.mod_lt more (show 4 > 0 by decide)
  generalize more % 4 = q at *
  obtain ⟨fs, hfs⟩ : ∃ b, b = s.few := ⟨_, rfl⟩
  have HFS := hid hfs
  rw [← hfs] at HFE
  have HW := hid hs
  clear hs hfs
  unfold Shp.val at *
  go_enter Tryd.func9, Tryd.ntmps9
  go_wp2_with fail
  obtain ⟨w2, hw2⟩ : ∃ w2 : World, w2 = w.alloc (.cells #[Value.int IntKind.i64 s.op, Value.int IntKind.u8 ↑s.low, Value.int IntKind.u8 ↑s.high, Value.string s.text, Value.slice A s.kids.length c] 26) := ⟨_, rfl⟩
  rw [← hw2]
  have HB2 : Hid (Below w.heap.size w w2) := hid (by rw [hw2]; exact (Below.refl _ _).alloc (Nat.le_refl _) _)
  have hk1 : w2.heap[w.heap.size]? = some (.cells #[Value.int IntKind.i64 s.op, Value.int IntKind.u8 ↑s.low, Value.int IntKind.u8 ↑s.high, Value.string s.text, Value.slice A s.kids.length c] 26) := by rw [hw2]; exact blk_new w _
  have HBX : Hid (∀ W, Below w2.heap.size w2 W → W.cell? ⟨w.heap.size, 0, none⟩ = some (.int .i64 s.op) ∧ W.cell? ⟨w.heap.size, 1, none⟩ = some (.int .u8 s.low) ∧ W.cell? ⟨w.heap.size, 2, none⟩ = some (.int .u8 s.high) ∧ W.cell? ⟨w.heap.size, 3, none⟩ = some (.string s.text) ∧ W.cell? ⟨w.heap.size, 4, none⟩ = some (.slice A s.kids.length c)) := fun W hW => by
    have h1 := blk_below hk1 hW
    exact ⟨(blk_cell h1 0).trans (by simp), (blk_cell h1 1).trans (by simp), (blk_cell h1 2).trans (by simp), (blk_cell h1 3).trans (by simp), (blk_cell h1 4).trans (by simp)⟩
  have HNOW : Hid (Below w2.heap.size w2 w2) := Below.refl _ _
  clear hw2 hk1
  cases fs
  · go_wp2_with (first | (go_at_call 31; refine (HHE.out _).mono ?_; rintro e w3 ⟨rfl, hb1⟩; (first | (have hb1 := undrew hb1) | skip); have HNOW := hid (HNOW.out.trans (hb1.mono HNOW.out.size)); obtain ⟨x0, x1, x2, x3, x4⟩ := HBX.out _ HNOW.out; (first | (have HRX := hid (HRX.out.under hb1)) | skip); clear hb1) | (go_at_call 12; refine (HFE.out _ (HB2.out.trans (HNOW.out.mono HB2.out.size))).mono ?_; rintro e w4 ⟨rfl, hb1⟩; (first | (have hb1 := undrew hb1) | skip); have HNOW := hid (HNOW.out.trans (hb1.mono HNOW.out.size)); obtain ⟨x0, x1, x2, x3, x4⟩ := HBX.out _ HNOW.out; (first | (have HRX := hid (HRX.out.under hb1)) | skip); clear hb1))
    go_ret
    exact ⟨rfl, HB2.out.trans (HNOW.out.mono HB2.out.size)⟩
  have HMS : Hid (∀ W, Below w.heap.size w W → Calls Tryd.prog 13 #[.agg #[.int .i64 s.op, .int .u8 s.low, .int .u8 s.high, .string s.text, .slice A s.kids.length c]] W (RetRe W X0 s.make)) := fun W hW => make_any s A c X0 W (HW.out.under hW) X0X (Shp.few_small HFS.out.symm).2 (Nat.le_trans (Shp.few_small HFS.out.symm).1 (by decide))
  have hxs : s.make.size ≤ 660 := few_size HFS.out.symm
  have hgd : Good s.make := Shp.make_good s
  generalize s.make = r at *
  have HSAME : Hid (∀ W (x : Re) a b, ReAt W X0 x a → ReAt W X0 x b → Calls Tryd.prog 15 #[ptr a, ptr b] W fun e w' => e = .returned (.bool true) ∧ W = w') := fun W x a b ha hb => (same_any _ _ X0 X0 a b W ha hb).mono fun e w' h => ⟨by rw [h.1, beq_self_eq_true], h.2⟩
  go_wp2_with (first | (go_at_call 31; refine (HHE.out _).mono ?_; rintro e w3 ⟨rfl, hb1⟩; (first | (have hb1 := undrew hb1) | skip); have HNOW := hid (HNOW.out.trans (hb1.mono HNOW.out.size)); obtain ⟨x0, x1, x2, x3, x4⟩ := HBX.out _ HNOW.out; (first | (have HRX := hid (HRX.out.under hb1)) | skip); clear hb1) | (go_at_call 12; refine (HFE.out _ (HB2.out.trans (HNOW.out.mono HB2.out.size))).mono ?_; rintro e w4 ⟨rfl, hb1⟩; (first | (have hb1 := undrew hb1) | skip); have HNOW := hid (HNOW.out.trans (hb1.mono HNOW.out.size)); obtain ⟨x0, x1, x2, x3, x4⟩ := HBX.out _ HNOW.out; (first | (have HRX := hid (HRX.out.under hb1)) | skip); clear hb1) | (go_at_call 13; refine (HMS.out _ (HB2.out.trans (HNOW.out.mono HB2.out.size))).mono ?_; rintro e w5 ⟨bx, rfl, hre, hb1⟩; (first | (have hb1 := undrew hb1) | skip); have HNOW := hid (HNOW.out.trans (hb1.mono HNOW.out.size)); obtain ⟨x0, x1, x2, x3, x4⟩ := HBX.out _ HNOW.out; (first | (have HRX := hid (HRX.out.under hb1)) | skip); clear hb1; have HRX := hid hre; clear hre) | (go_at_call 35; refine (HNO.out _).mono ?_; rintro e w6 ⟨b0, rfl, hre, hb1⟩; (first | (have hb1 := undrew hb1) | skip); have HNOW := hid (HNOW.out.trans (hb1.mono HNOW.out.size)); obtain ⟨x0, x1, x2, x3, x4⟩ := HBX.out _ HNOW.out; (first | (have HRX := hid (HRX.out.under hb1)) | skip); clear hb1; have HWT := hid hre; clear hre; obtain ⟨Ak, ck, bsk, hbk, hcapk, hrowk⟩ := HRX.out.row; obtain ⟨k0, k1, k2, k3, k4, k5, -⟩ := cellsOf hbk; have hbl := lt_of_heap hbk; have HROWK := hid hrowk; have HCAPK := hid hcapk; have xn := World.new_ne _ _ k5; have hb6 : Below w6.heap.size w6 w6 := Below.refl _ _; clear hbk hrowk hcapk x0 x1 x2 x3 x4))
  have HB6 := hid (HB2.out.trans (HNOW.out.mono HB2.out.size))
  have HGD := hid hgd
  have hq97 : q < 4 := hx4
  obtain ⟨n, hn⟩ : ∃ n, n = r.kids.length := ⟨_, rfl⟩
  have HN := hid hn
  have hn1 : n ≤ 660 := by have := Re.length_le_sizes r.kids; have := Re.size_kids r; omega
  rw [← hn] at k5 HROWK HCAPK ⊢
  clear hn HBX HNOW
  go_loopw [7, 31] (fun v i wr => ∃ (k : Nat) (cs : List Nat), k ≤ n ∧ i = .int .i64 k ∧ Hid (OwnP wr w6.heap.size v cs) ∧ Hid (Els wr (Xo X0 v) ((r.kids.take k).map (byR (97 + q))) cs) ∧ Hid (Below w6.heap.size w6 wr)) (fun _ i _ => n - (intOf i).toNat)
  case atStart => exact ⟨0, [], Nat.zero_le _, rfl, World.ownsRow_lit w6 #[] 0 (Nat.le_refl _) (by decide) rfl, Els.nil, (Below.refl _ _).alloc (Nat.le_refl _) _⟩
  case round =>
    obtain ⟨k, cs, hk, rfl, hown, hels, hbel⟩ := hrel
    have hszr : w6.heap.size ≤ wr.heap.size := hbel.out.size
    by_cases hlt : k < n
    · obtain ⟨g, o, x, bk, rfl, c1, hx, -, hax, hg⟩ := HROWK.out.at_ (k := k) hlt
      have hc1 := (hbel.out.cell (p := ⟨g, o + k, none⟩) hg).trans c1
      have hxl : ∀ k, Xo X0 u7 k → k < wr.heap.size := fun k hk => by
        rcases hk with hk | hk
        · exact hk.elim
        · exact (hown.out.lt k hk).2
      have hal : ReAt wr (Xo X0 u7) x bk := (hax.also (Y := Xo X0 u7) fun j hj hlj => hj.elim id fun e => absurd (hown.out.lt j e).1 (by omega)).under hbel.out
      have hxk : x ∈ r.kids := List.mem_of_getElem? hx
      have HC := hid (by97 q hq97 x (HGD.out.kid hxk).1 (by have := kid_size hxk; omega) (Xo X0 u7) bk wr hal hxl)
      have HSN : Hid ((r.kids.take (k + 1)).map (byR (97 + q)) = (r.kids.take k).map (byR (97 + q)) ++ [byR (97 + q) x]) := hid (by
        obtain ⟨hl, e⟩ := List.getElem?_eq_some_iff.1 hx
        rw [List.take_succ_eq_append_getElem hl, e, List.map_append]
        rfl)
      have hbn : cs.length + [k].length ≤ 1099511627776 := by
        have := hels.out.1
        simp at this ⊢
        omega
      unfold ptr at hc1 HC
      clear hx hax hal hxl c1 hxk
      go_wp2_with (first | (go_at_call 33; refine HC.out.mono ?_; rintro e w3 ⟨bn, rfl, h3, hb3⟩; have H3 := hid h3; have HB3 := hid hb3; have hz3 : w6.heap.size ≤ w3.heap.size := Nat.le_trans hszr hb3.size; clear h3 hb3; have HO3 := hid (OwnP.kept hown.out HB3.out); have HE3 := hid (Els.below hels.out HB3.out); have HB13 := hid (hbel.out.trans (HB3.out.mono hszr))) | (at_builtin; refine wpList_app_ptr _ rfl (.tmp 35) (.tmp 39) rfl w6.heap.size _ cs rfl (HO3.out.alloc _) (some ⟨w3.heap.size, 0, none⟩) 1 1 [bn] rfl (Rd.one_new _ _ _) (fun h => by cases h) hbn (le_alloc hz3 _) ?_; intro v' w4 ho4 hg4 hat4; have HO4 := hid ho4; have HG4 := hid hg4; have HT4 := hid hat4; clear ho4 hg4 hat4))
      go_roundw
      case rel => exact ⟨k + 1, cs ++ [bn], by omega, by go_num, HO4.out, by show Els _ _ _ _; rw [HSN.out]; exact ((HE3.out.alloc _).append (Els.one H3.out |>.alloc _)).grown HG4.out HT4.out, below_app (HB13.out.alloc HB13.out.size _) (HO3.out.alloc _) HG4.out⟩
      case measure => simp [intOf]; omega
    · have hkn : k = n := by omega
      subst hkn
      have hown' := hown.out
      have hels' := hels.out
      rw [List.take_of_length_le (by rw [← HN.out]; exact Nat.le_refl _)] at hels'
      obtain ⟨A1, c1, hv⟩ := hown'.form
      have hcl : cs.length = k := by rw [← hels'.1, List.length_map, ← HN.out]
      rw [hcl] at hv
      subst hv
      obtain ⟨hrw, hcp, -⟩ := hown'.row hels' (fun _ h => h.elim)
      have HRW := hid hrw
      have HRX := hid (HRX.out.under hbel.out)
      have HWT := hid (HWT.out.under hbel.out)
      have HBE := hid (HB6.out.trans (hbel.out.mono HB6.out.size))
      have HCL : Hid (∀ W, Below wr.heap.size wr W → W.cell? ⟨bx, 0, none⟩ = some (.int .i64 r.op) ∧ W.cell? ⟨bx, 1, none⟩ = some (.int .u64 r.set.a.toNat) ∧ W.cell? ⟨bx, 2, none⟩ = some (.int .u64 r.set.b.toNat) ∧ W.cell? ⟨bx, 3, none⟩ = some (.int .u64 r.set.c.toNat) ∧ W.cell? ⟨bx, 4, none⟩ = some (.int .u64 r.set.d.toNat) ∧ W.cell? ⟨bx, 5, none⟩ = some (.slice Ak k ck)) := fun W hW => by
        have h := hbel.out.trans (hW.mono hszr)
        exact ⟨(h.cell (p := ⟨bx, 0, none⟩) hbl).trans k0, (h.cell (p := ⟨bx, 1, none⟩) hbl).trans k1, (h.cell (p := ⟨bx, 2, none⟩) hbl).trans k2, (h.cell (p := ⟨bx, 3, none⟩) hbl).trans k3, (h.cell (p := ⟨bx, 4, none⟩) hbl).trans k4, (h.cell (p := ⟨bx, 5, none⟩) hbl).trans k5⟩
      have hsl : (setsR r).length ≤ 660 := Nat.le_trans (setsR_len r) hxs
      have HSE : Hid (∀ W, Below wr.heap.size wr W → Calls Tryd.prog 38 #[ptr bx] W (RetSets W (setsR r))) := fun W hW => sets_any r X0 bx W (HRX.out.under hW) (by omega)
      have HDS : Hid (∀ W, Below wr.heap.size wr W → Calls Tryd.prog 39 #[ptr bx] W (RetSets W (setsR r))) := fun W hW => dsets_any r X0 bx W (HRX.out.under hW) (by omega)
      have HBN : Hid (∀ W, Calls Tryd.prog 33 #[.pointer none, .int .u8 (97 + (q : Int))] W (RetRe W X0 .none)) := fun W => by
        have := by_nil (97 + q) X0 W X0X
        have e : ((97 + q : Nat) : Int) = 97 + (q : Int) := by omega
        rw [e] at this
        exact this
      obtain ⟨D, hD⟩ : ∃ D, D = byR (97 + q) r := ⟨_, rfl⟩
      have HBY : Hid (∀ W, Below wr.heap.size wr W → Calls Tryd.prog 33 #[ptr bx, .int .u8 (97 + (q : Int))] W (RetRe W X0 D)) := fun W hW => by
        rw [hD]; exact by97 q hq97 r HGD.out (by omega) X0 bx W (HRX.out.under hW) X0X
      have HDD := hid hD
      have HEM : Hid (∀ W, Calls Tryd.prog 37 #[] W (RetRe W X0 .eps)) := fun W => empty_any X0 W X0X
      obtain ⟨S, hS⟩ : ∃ S, S = setsR r := ⟨_, rfl⟩
      rw [← hS] at HSE HDS hsl
      have HNOW : Hid (Below wr.heap.size wr wr) := Below.refl _ _
      obtain ⟨x0, x1, x2, x3, x4, x5⟩ := HCL.out wr HNOW.out
      clear hown' hels' hlt hown hels hrw hD hS k0 k1 k2 k3 k4 k5 hbl HB6 xn
      have ho := op_lt r
      have hrk := Re.size_kids r
      have hsr := hxs
      rcases (by omega : r.op = 0 ∨ r.op = 1 ∨ r.op = 2 ∨ r.op = 3 ∨ r.op = 4 ∨ r.op = 5 ∨ r.op = 6 ∨ r.op = 7) with hop | hop | hop | hop | hop | hop | hop | hop
      · have hr : r = .none := by cases r <;> first | rfl | (simp [Re.op] at hop)
        subst hr
        have hd : D = .none := HDD.out.trans (byR_none _)
        subst hd
        simp only [Re.op] at HCL x0
        clear hop ho hrk hsr hxs hgd HMS HN
        unfold ptr at *
        go_wp2_with (first | (go_at_call 38; refine (HSE.out _ HNOW.out).mono ?_; rintro e w7 ⟨va, rfl, h7, hb1⟩; (first | (have hb1 := undrew hb1) | skip); have HNOW := hid (HNOW.out.trans (hb1.mono HNOW.out.size)); (first | (have HWT := hid (HWT.out.under hb1)) | skip); (first | (have HRS := hid (HRS.out.under hb1)) | skip); (first | (have HRB := hid (HRB.out.under hb1)) | skip); (first | (have HNB := hid (HNB.out.under hb1)) | skip); (first | (have HSA := hid (HSA.out.below hb1)) | skip); (first | (obtain ⟨x0, x1, x2, x3, x4, x5⟩ := HCL.out _ HNOW.out) | skip); (first | (obtain ⟨y0, y1⟩ := HKC.out _ HNOW.out) | skip); clear hb1; obtain ⟨Aa, ca, hva⟩ := h7.form; subst hva; have HSA := hid h7.rd.2.2; clear h7) | (go_at_call 39; refine (HDS.out _ HNOW.out).mono ?_; rintro e w8 ⟨vb, rfl, h8, hb1⟩; (first | (have hb1 := undrew hb1) | skip); have HNOW := hid (HNOW.out.trans (hb1.mono HNOW.out.size)); (first | (have HWT := hid (HWT.out.under hb1)) | skip); (first | (have HRS := hid (HRS.out.under hb1)) | skip); (first | (have HRB := hid (HRB.out.under hb1)) | skip); (first | (have HNB := hid (HNB.out.under hb1)) | skip); (first | (have HSA := hid (HSA.out.below hb1)) | skip); (first | (obtain ⟨x0, x1, x2, x3, x4, x5⟩ := HCL.out _ HNOW.out) | skip); (first | (obtain ⟨y0, y1⟩ := HKC.out _ HNOW.out) | skip); clear hb1; obtain ⟨Ab, cb, hvb⟩ := h8.form; subst hvb; have HSB := hid h8.rd.2.2; clear h8))
        go_loopw [108] (fun i wq => ∃ (k' : Nat), k' ≤ S.length ∧ i = .int .i64 k' ∧ Hid (Below w8.heap.size w8 wq)) (fun i _ => S.length - (intOf i).toNat)
        case atStart => exact ⟨0, Nat.zero_le _, rfl, Below.refl _ _⟩
        case round =>
          obtain ⟨k', hk', rfl, hbq⟩ := hrel
          by_cases hlt' : k' < S.length
          · obtain ⟨g1, o1, s1, rfl, hs1, hg1, a0, a1, a2, a3⟩ := HSA.out.at_ (k := k') hlt'
            obtain ⟨g2, o2, s2, rfl, hs2, hg2, b0, b1, b2, b3⟩ := HSB.out.at_ (k := k') hlt'
            rw [hs1] at hs2
            have hs2 : s1 = s2 := by simpa using hs2
            subst hs2
            have ha := fun i => hbq.out.cell (p := ⟨g1, i, none⟩) hg1
            have hb := fun i => hbq.out.cell (p := ⟨g2, i, none⟩) hg2
            have a0 := (ha _).trans a0; have a1 := (ha _).trans a1; have a2 := (ha _).trans a2; have a3 := (ha _).trans a3
            have b0 := (hb _).trans b0; have b1 := (hb _).trans b1; have b2 := (hb _).trans b2; have b3 := (hb _).trans b3
            have hqq : ∀ W, (binOp .neq 42 (.agg #[.int .u64 s1.a.toNat, .int .u64 s1.b.toNat, .int .u64 s1.c.toNat, .int .u64 s1.d.toNat]) (.agg #[.int .u64 s1.a.toNat, .int .u64 s1.b.toNat, .int .u64 s1.c.toNat, .int .u64 s1.d.toNat])).run Tryd.prog W = .ok (.bool false) W := fun W => (run_neq_set s1 s1 W).trans (by rw [decide_eq_true rfl]; rfl)
            have hmm : ∀ (op : BinOp) (x y : Operand) (xs ys : Array Value) (W : World), (eqGuard op 42 x y (.agg xs) (.agg ys)).run Tryd.prog W = .ok () W := fun op x y xs ys W => run_eqGuard_agg W op _ x y xs ys (by kernel_rfl)
            clear hs1 ha hb
            go_wp2_with fail
            go_quiet (fail)
            go_wp2_with fail
            go_roundw
            case rel => exact ⟨k' + 1, by omega, by go_num, hbq.out.trans (below_drewN _ _ _)⟩
            case measure => simp [intOf]; omega
          · have HNOW := hid (HNOW.out.trans (hbq.out.mono HNOW.out.size))
            have HWT := hid (HWT.out.under hbq.out)
            clear HSA HSB
            go_wp2_with (first | (go_at_call 33; (with_reducible refine (HBY.out _ HNOW.out).mono ?_); rintro e w9 ⟨b9, rfl, hw, hb1⟩; (first | (have hb1 := undrew hb1) | skip); have HNOW := hid (HNOW.out.trans (hb1.mono HNOW.out.size)); (first | (have HWT := hid (HWT.out.under hb1)) | skip); (first | (have HRS := hid (HRS.out.under hb1)) | skip); (first | (have HRB := hid (HRB.out.under hb1)) | skip); (first | (have HNB := hid (HNB.out.under hb1)) | skip); (first | (have HSA := hid (HSA.out.below hb1)) | skip); (first | (obtain ⟨x0, x1, x2, x3, x4, x5⟩ := HCL.out _ HNOW.out) | skip); (first | (obtain ⟨y0, y1⟩ := HKC.out _ HNOW.out) | skip); clear hb1; have HRB := hid hw; clear hw HBY) | (go_at_call 15; refine (HSAME.out _ _ _ _ HRB.out HWT.out).mono ?_; rintro e w10 ⟨rfl, rfl⟩; clear HRB) | (go_at_call 33; (with_reducible refine (HBN.out _).mono ?_); rintro e w11 ⟨b11, rfl, hw, hb1⟩; (first | (have hb1 := undrew hb1) | skip); have HNOW := hid (HNOW.out.trans (hb1.mono HNOW.out.size)); (first | (have HWT := hid (HWT.out.under hb1)) | skip); (first | (have HRS := hid (HRS.out.under hb1)) | skip); (first | (have HRB := hid (HRB.out.under hb1)) | skip); (first | (have HNB := hid (HNB.out.under hb1)) | skip); (first | (have HSA := hid (HSA.out.below hb1)) | skip); (first | (obtain ⟨x0, x1, x2, x3, x4, x5⟩ := HCL.out _ HNOW.out) | skip); (first | (obtain ⟨y0, y1⟩ := HKC.out _ HNOW.out) | skip); clear hb1; have HNB := hid hw; clear hw) | (go_at_call 35; refine (HNO.out _).mono ?_; rintro e w12 ⟨b12, rfl, hw, hb1⟩; (first | (have hb1 := undrew hb1) | skip); have HNOW := hid (HNOW.out.trans (hb1.mono HNOW.out.size)); (first | (have HWT := hid (HWT.out.under hb1)) | skip); (first | (have HRS := hid (HRS.out.under hb1)) | skip); (first | (have HRB := hid (HRB.out.under hb1)) | skip); (first | (have HNB := hid (HNB.out.under hb1)) | skip); (first | (have HSA := hid (HSA.out.below hb1)) | skip); (first | (obtain ⟨x0, x1, x2, x3, x4, x5⟩ := HCL.out _ HNOW.out) | skip); (first | (obtain ⟨y0, y1⟩ := HKC.out _ HNOW.out) | skip); clear hb1; have HNC := hid hw; clear hw) | (go_at_call 15; refine (HSAME.out _ _ _ _ HNB.out HNC.out).mono ?_; rintro e w13 ⟨rfl, rfl⟩) | (go_at_call 39; refine (dsets_nil _).mono ?_; rintro e w14 ⟨rfl, rfl⟩))
            go_ret
            exact ⟨rfl, HBE.out.trans (HNOW.out.mono HBE.out.size)⟩
      · have hr : r = .eps := by cases r <;> first | rfl | (simp [Re.op] at hop)
        subst hr
        have hd : D = .none := HDD.out.trans (byR_eps _)
        subst hd
        simp only [Re.op] at HCL x0
        clear hop ho hrk hsr hxs hgd HMS HN
        unfold ptr at *
        go_wp2_with (first | (go_at_call 38; refine (HSE.out _ HNOW.out).mono ?_; rintro e w7 ⟨va, rfl, h7, hb1⟩; (first | (have hb1 := undrew hb1) | skip); have HNOW := hid (HNOW.out.trans (hb1.mono HNOW.out.size)); (first | (have HWT := hid (HWT.out.under hb1)) | skip); (first | (have HRS := hid (HRS.out.under hb1)) | skip); (first | (have HRB := hid (HRB.out.under hb1)) | skip); (first | (have HNB := hid (HNB.out.under hb1)) | skip); (first | (have HSA := hid (HSA.out.below hb1)) | skip); (first | (obtain ⟨x0, x1, x2, x3, x4, x5⟩ := HCL.out _ HNOW.out) | skip); (first | (obtain ⟨y0, y1⟩ := HKC.out _ HNOW.out) | skip); clear hb1; obtain ⟨Aa, ca, hva⟩ := h7.form; subst hva; have HSA := hid h7.rd.2.2; clear h7) | (go_at_call 39; refine (HDS.out _ HNOW.out).mono ?_; rintro e w8 ⟨vb, rfl, h8, hb1⟩; (first | (have hb1 := undrew hb1) | skip); have HNOW := hid (HNOW.out.trans (hb1.mono HNOW.out.size)); (first | (have HWT := hid (HWT.out.under hb1)) | skip); (first | (have HRS := hid (HRS.out.under hb1)) | skip); (first | (have HRB := hid (HRB.out.under hb1)) | skip); (first | (have HNB := hid (HNB.out.under hb1)) | skip); (first | (have HSA := hid (HSA.out.below hb1)) | skip); (first | (obtain ⟨x0, x1, x2, x3, x4, x5⟩ := HCL.out _ HNOW.out) | skip); (first | (obtain ⟨y0, y1⟩ := HKC.out _ HNOW.out) | skip); clear hb1; obtain ⟨Ab, cb, hvb⟩ := h8.form; subst hvb; have HSB := hid h8.rd.2.2; clear h8))
        go_loopw [108] (fun i wq => ∃ (k' : Nat), k' ≤ S.length ∧ i = .int .i64 k' ∧ Hid (Below w8.heap.size w8 wq)) (fun i _ => S.length - (intOf i).toNat)
        case atStart => exact ⟨0, Nat.zero_le _, rfl, Below.refl _ _⟩
        case round =>
          obtain ⟨k', hk', rfl, hbq⟩ := hrel
          by_cases hlt' : k' < S.length
          · obtain ⟨g1, o1, s1, rfl, hs1, hg1, a0, a1, a2, a3⟩ := HSA.out.at_ (k := k') hlt'
            obtain ⟨g2, o2, s2, rfl, hs2, hg2, b0, b1, b2, b3⟩ := HSB.out.at_ (k := k') hlt'
            rw [hs1] at hs2
            have hs2 : s1 = s2 := by simpa using hs2
            subst hs2
            have ha := fun i => hbq.out.cell (p := ⟨g1, i, none⟩) hg1
            have hb := fun i => hbq.out.cell (p := ⟨g2, i, none⟩) hg2
            have a0 := (ha _).trans a0; have a1 := (ha _).trans a1; have a2 := (ha _).trans a2; have a3 := (ha _).trans a3
            have b0 := (hb _).trans b0; have b1 := (hb _).trans b1; have b2 := (hb _).trans b2; have b3 := (hb _).trans b3
            have hqq : ∀ W, (binOp .neq 42 (.agg #[.int .u64 s1.a.toNat, .int .u64 s1.b.toNat, .int .u64 s1.c.toNat, .int .u64 s1.d.toNat]) (.agg #[.int .u64 s1.a.toNat, .int .u64 s1.b.toNat, .int .u64 s1.c.toNat, .int .u64 s1.d.toNat])).run Tryd.prog W = .ok (.bool false) W := fun W => (run_neq_set s1 s1 W).trans (by rw [decide_eq_true rfl]; rfl)
            have hmm : ∀ (op : BinOp) (x y : Operand) (xs ys : Array Value) (W : World), (eqGuard op 42 x y (.agg xs) (.agg ys)).run Tryd.prog W = .ok () W := fun op x y xs ys W => run_eqGuard_agg W op _ x y xs ys (by kernel_rfl)
            clear hs1 ha hb
            go_wp2_with fail
            go_quiet (fail)
            go_wp2_with fail
            go_roundw
            case rel => exact ⟨k' + 1, by omega, by go_num, hbq.out.trans (below_drewN _ _ _)⟩
            case measure => simp [intOf]; omega
          · have HNOW := hid (HNOW.out.trans (hbq.out.mono HNOW.out.size))
            have HWT := hid (HWT.out.under hbq.out)
            clear HSA HSB
            go_wp2_with (first | (go_at_call 33; (with_reducible refine (HBY.out _ HNOW.out).mono ?_); rintro e w9 ⟨b9, rfl, hw, hb1⟩; (first | (have hb1 := undrew hb1) | skip); have HNOW := hid (HNOW.out.trans (hb1.mono HNOW.out.size)); (first | (have HWT := hid (HWT.out.under hb1)) | skip); (first | (have HRS := hid (HRS.out.under hb1)) | skip); (first | (have HRB := hid (HRB.out.under hb1)) | skip); (first | (have HNB := hid (HNB.out.under hb1)) | skip); (first | (have HSA := hid (HSA.out.below hb1)) | skip); (first | (obtain ⟨x0, x1, x2, x3, x4, x5⟩ := HCL.out _ HNOW.out) | skip); (first | (obtain ⟨y0, y1⟩ := HKC.out _ HNOW.out) | skip); clear hb1; have HRB := hid hw; clear hw HBY) | (go_at_call 15; refine (HSAME.out _ _ _ _ HRB.out HWT.out).mono ?_; rintro e w10 ⟨rfl, rfl⟩; clear HRB) | (go_at_call 33; (with_reducible refine (HBN.out _).mono ?_); rintro e w11 ⟨b11, rfl, hw, hb1⟩; (first | (have hb1 := undrew hb1) | skip); have HNOW := hid (HNOW.out.trans (hb1.mono HNOW.out.size)); (first | (have HWT := hid (HWT.out.under hb1)) | skip); (first | (have HRS := hid (HRS.out.under hb1)) | skip); (first | (have HRB := hid (HRB.out.under hb1)) | skip); (first | (have HNB := hid (HNB.out.under hb1)) | skip); (first | (have HSA := hid (HSA.out.below hb1)) | skip); (first | (obtain ⟨x0, x1, x2, x3, x4, x5⟩ := HCL.out _ HNOW.out) | skip); (first | (obtain ⟨y0, y1⟩ := HKC.out _ HNOW.out) | skip); clear hb1; have HNB := hid hw; clear hw) | (go_at_call 35; refine (HNO.out _).mono ?_; rintro e w12 ⟨b12, rfl, hw, hb1⟩; (first | (have hb1 := undrew hb1) | skip); have HNOW := hid (HNOW.out.trans (hb1.mono HNOW.out.size)); (first | (have HWT := hid (HWT.out.under hb1)) | skip); (first | (have HRS := hid (HRS.out.under hb1)) | skip); (first | (have HRB := hid (HRB.out.under hb1)) | skip); (first | (have HNB := hid (HNB.out.under hb1)) | skip); (first | (have HSA := hid (HSA.out.below hb1)) | skip); (first | (obtain ⟨x0, x1, x2, x3, x4, x5⟩ := HCL.out _ HNOW.out) | skip); (first | (obtain ⟨y0, y1⟩ := HKC.out _ HNOW.out) | skip); clear hb1; have HNC := hid hw; clear hw) | (go_at_call 15; refine (HSAME.out _ _ _ _ HNB.out HNC.out).mono ?_; rintro e w13 ⟨rfl, rfl⟩) | (go_at_call 39; refine (dsets_nil _).mono ?_; rintro e w14 ⟨rfl, rfl⟩))
            go_ret
            exact ⟨rfl, HBE.out.trans (HNOW.out.mono HBE.out.size)⟩
      · obtain ⟨s', hr⟩ := op_two hop
        subst hr
        have HHAS : Hid (∀ W, Calls Tryd.prog 36 #[cv s', .int .u8 (97 + (q : Int))] W fun e w' => e = .returned (.bool (s'.has (97 + q))) ∧ Below W.heap.size W w') := fun W => by
          have := has_any s' (97 + q) W (by omega)
          have e : ((97 + q : Nat) : Int) = 97 + (q : Int) := by omega
          rw [e] at this
          exact this
        have hd := HDD.out.trans (byR_cls _ _)
        simp only [Re.op, Re.set] at HCL x0 x1 x2 x3 x4
        unfold cv at HHAS
        generalize s'.has (97 + q) = hb at *
        clear hop ho hrk hsr hxs hgd HMS HN
        unfold ptr at *
        cases hb
        · rw [if_neg (by simp)] at hd
          subst hd
          go_wp2_with (first | (go_at_call 36; refine (HHAS.out _).mono ?_; rintro e w20 ⟨rfl, hb1⟩; (first | (have hb1 := undrew hb1) | skip); have HNOW := hid (HNOW.out.trans (hb1.mono HNOW.out.size)); (first | (have HWT := hid (HWT.out.under hb1)) | skip); (first | (have HRS := hid (HRS.out.under hb1)) | skip); (first | (have HRB := hid (HRB.out.under hb1)) | skip); (first | (have HNB := hid (HNB.out.under hb1)) | skip); (first | (have HSA := hid (HSA.out.below hb1)) | skip); (first | (obtain ⟨x0, x1, x2, x3, x4, x5⟩ := HCL.out _ HNOW.out) | skip); (first | (obtain ⟨y0, y1⟩ := HKC.out _ HNOW.out) | skip); clear hb1) | (go_at_call 38; refine (HSE.out _ HNOW.out).mono ?_; rintro e w7 ⟨va, rfl, h7, hb1⟩; (first | (have hb1 := undrew hb1) | skip); have HNOW := hid (HNOW.out.trans (hb1.mono HNOW.out.size)); (first | (have HWT := hid (HWT.out.under hb1)) | skip); (first | (have HRS := hid (HRS.out.under hb1)) | skip); (first | (have HRB := hid (HRB.out.under hb1)) | skip); (first | (have HNB := hid (HNB.out.under hb1)) | skip); (first | (have HSA := hid (HSA.out.below hb1)) | skip); (first | (obtain ⟨x0, x1, x2, x3, x4, x5⟩ := HCL.out _ HNOW.out) | skip); (first | (obtain ⟨y0, y1⟩ := HKC.out _ HNOW.out) | skip); clear hb1; obtain ⟨Aa, ca, hva⟩ := h7.form; subst hva; have HSA := hid h7.rd.2.2; clear h7) | (go_at_call 39; refine (HDS.out _ HNOW.out).mono ?_; rintro e w8 ⟨vb, rfl, h8, hb1⟩; (first | (have hb1 := undrew hb1) | skip); have HNOW := hid (HNOW.out.trans (hb1.mono HNOW.out.size)); (first | (have HWT := hid (HWT.out.under hb1)) | skip); (first | (have HRS := hid (HRS.out.under hb1)) | skip); (first | (have HRB := hid (HRB.out.under hb1)) | skip); (first | (have HNB := hid (HNB.out.under hb1)) | skip); (first | (have HSA := hid (HSA.out.below hb1)) | skip); (first | (obtain ⟨x0, x1, x2, x3, x4, x5⟩ := HCL.out _ HNOW.out) | skip); (first | (obtain ⟨y0, y1⟩ := HKC.out _ HNOW.out) | skip); clear hb1; obtain ⟨Ab, cb, hvb⟩ := h8.form; subst hvb; have HSB := hid h8.rd.2.2; clear h8))
          go_loopw [108] (fun i wq => ∃ (k' : Nat), k' ≤ S.length ∧ i = .int .i64 k' ∧ Hid (Below w8.heap.size w8 wq)) (fun i _ => S.length - (intOf i).toNat)
          case atStart => exact ⟨0, Nat.zero_le _, rfl, Below.refl _ _⟩
          case round =>
            obtain ⟨k', hk', rfl, hbq⟩ := hrel
            by_cases hlt' : k' < S.length
            · obtain ⟨g1, o1, s1, rfl, hs1, hg1, a0, a1, a2, a3⟩ := HSA.out.at_ (k := k') hlt'
              obtain ⟨g2, o2, s2, rfl, hs2, hg2, b0, b1, b2, b3⟩ := HSB.out.at_ (k := k') hlt'
              rw [hs1] at hs2
              have hs2 : s1 = s2 := by simpa using hs2
              subst hs2
              have ha := fun i => hbq.out.cell (p := ⟨g1, i, none⟩) hg1
              have hb := fun i => hbq.out.cell (p := ⟨g2, i, none⟩) hg2
              have a0 := (ha _).trans a0; have a1 := (ha _).trans a1; have a2 := (ha _).trans a2; have a3 := (ha _).trans a3
              have b0 := (hb _).trans b0; have b1 := (hb _).trans b1; have b2 := (hb _).trans b2; have b3 := (hb _).trans b3
              have hqq : ∀ W, (binOp .neq 42 (.agg #[.int .u64 s1.a.toNat, .int .u64 s1.b.toNat, .int .u64 s1.c.toNat, .int .u64 s1.d.toNat]) (.agg #[.int .u64 s1.a.toNat, .int .u64 s1.b.toNat, .int .u64 s1.c.toNat, .int .u64 s1.d.toNat])).run Tryd.prog W = .ok (.bool false) W := fun W => (run_neq_set s1 s1 W).trans (by rw [decide_eq_true rfl]; rfl)
              have hmm : ∀ (op : BinOp) (x y : Operand) (xs ys : Array Value) (W : World), (eqGuard op 42 x y (.agg xs) (.agg ys)).run Tryd.prog W = .ok () W := fun op x y xs ys W => run_eqGuard_agg W op _ x y xs ys (by kernel_rfl)
              clear hs1 ha hb
              go_wp2_with fail
              go_quiet (fail)
              go_wp2_with fail
              go_roundw
              case rel => exact ⟨k' + 1, by omega, by go_num, hbq.out.trans (below_drewN _ _ _)⟩
              case measure => simp [intOf]; omega
            · have HNOW := hid (HNOW.out.trans (hbq.out.mono HNOW.out.size))
              have HWT := hid (HWT.out.under hbq.out)
              clear HSA HSB
              go_wp2_with (first | (go_at_call 33; (with_reducible refine (HBY.out _ HNOW.out).mono ?_); rintro e w9 ⟨b9, rfl, hw, hb1⟩; (first | (have hb1 := undrew hb1) | skip); have HNOW := hid (HNOW.out.trans (hb1.mono HNOW.out.size)); (first | (have HWT := hid (HWT.out.under hb1)) | skip); (first | (have HRS := hid (HRS.out.under hb1)) | skip); (first | (have HRB := hid (HRB.out.under hb1)) | skip); (first | (have HNB := hid (HNB.out.under hb1)) | skip); (first | (have HSA := hid (HSA.out.below hb1)) | skip); (first | (obtain ⟨x0, x1, x2, x3, x4, x5⟩ := HCL.out _ HNOW.out) | skip); (first | (obtain ⟨y0, y1⟩ := HKC.out _ HNOW.out) | skip); clear hb1; have HRB := hid hw; clear hw HBY) | (go_at_call 15; refine (HSAME.out _ _ _ _ HRB.out HWT.out).mono ?_; rintro e w10 ⟨rfl, rfl⟩; clear HRB) | (go_at_call 33; (with_reducible refine (HBN.out _).mono ?_); rintro e w11 ⟨b11, rfl, hw, hb1⟩; (first | (have hb1 := undrew hb1) | skip); have HNOW := hid (HNOW.out.trans (hb1.mono HNOW.out.size)); (first | (have HWT := hid (HWT.out.under hb1)) | skip); (first | (have HRS := hid (HRS.out.under hb1)) | skip); (first | (have HRB := hid (HRB.out.under hb1)) | skip); (first | (have HNB := hid (HNB.out.under hb1)) | skip); (first | (have HSA := hid (HSA.out.below hb1)) | skip); (first | (obtain ⟨x0, x1, x2, x3, x4, x5⟩ := HCL.out _ HNOW.out) | skip); (first | (obtain ⟨y0, y1⟩ := HKC.out _ HNOW.out) | skip); clear hb1; have HNB := hid hw; clear hw) | (go_at_call 35; refine (HNO.out _).mono ?_; rintro e w12 ⟨b12, rfl, hw, hb1⟩; (first | (have hb1 := undrew hb1) | skip); have HNOW := hid (HNOW.out.trans (hb1.mono HNOW.out.size)); (first | (have HWT := hid (HWT.out.under hb1)) | skip); (first | (have HRS := hid (HRS.out.under hb1)) | skip); (first | (have HRB := hid (HRB.out.under hb1)) | skip); (first | (have HNB := hid (HNB.out.under hb1)) | skip); (first | (have HSA := hid (HSA.out.below hb1)) | skip); (first | (obtain ⟨x0, x1, x2, x3, x4, x5⟩ := HCL.out _ HNOW.out) | skip); (first | (obtain ⟨y0, y1⟩ := HKC.out _ HNOW.out) | skip); clear hb1; have HNC := hid hw; clear hw) | (go_at_call 15; refine (HSAME.out _ _ _ _ HNB.out HNC.out).mono ?_; rintro e w13 ⟨rfl, rfl⟩) | (go_at_call 39; refine (dsets_nil _).mono ?_; rintro e w14 ⟨rfl, rfl⟩))
              go_ret
              exact ⟨rfl, HBE.out.trans (HNOW.out.mono HBE.out.size)⟩
        · rw [if_pos rfl] at hd
          subst hd
          go_wp2_with (first | (go_at_call 36; refine (HHAS.out _).mono ?_; rintro e w20 ⟨rfl, hb1⟩; (first | (have hb1 := undrew hb1) | skip); have HNOW := hid (HNOW.out.trans (hb1.mono HNOW.out.size)); (first | (have HWT := hid (HWT.out.under hb1)) | skip); (first | (have HRS := hid (HRS.out.under hb1)) | skip); (first | (have HRB := hid (HRB.out.under hb1)) | skip); (first | (have HNB := hid (HNB.out.under hb1)) | skip); (first | (have HSA := hid (HSA.out.below hb1)) | skip); (first | (obtain ⟨x0, x1, x2, x3, x4, x5⟩ := HCL.out _ HNOW.out) | skip); (first | (obtain ⟨y0, y1⟩ := HKC.out _ HNOW.out) | skip); clear hb1) | (go_at_call 37; refine (HEM.out _).mono ?_; rintro e w21 ⟨b21, rfl, hw, hb1⟩; clear HWT; (first | (have hb1 := undrew hb1) | skip); have HNOW := hid (HNOW.out.trans (hb1.mono HNOW.out.size)); (first | (have HWT := hid (HWT.out.under hb1)) | skip); (first | (have HRS := hid (HRS.out.under hb1)) | skip); (first | (have HRB := hid (HRB.out.under hb1)) | skip); (first | (have HNB := hid (HNB.out.under hb1)) | skip); (first | (have HSA := hid (HSA.out.below hb1)) | skip); (first | (obtain ⟨x0, x1, x2, x3, x4, x5⟩ := HCL.out _ HNOW.out) | skip); (first | (obtain ⟨y0, y1⟩ := HKC.out _ HNOW.out) | skip); clear hb1; have HWT := hid hw; clear hw) | (go_at_call 38; refine (HSE.out _ HNOW.out).mono ?_; rintro e w7 ⟨va, rfl, h7, hb1⟩; (first | (have hb1 := undrew hb1) | skip); have HNOW := hid (HNOW.out.trans (hb1.mono HNOW.out.size)); (first | (have HWT := hid (HWT.out.under hb1)) | skip); (first | (have HRS := hid (HRS.out.under hb1)) | skip); (first | (have HRB := hid (HRB.out.under hb1)) | skip); (first | (have HNB := hid (HNB.out.under hb1)) | skip); (first | (have HSA := hid (HSA.out.below hb1)) | skip); (first | (obtain ⟨x0, x1, x2, x3, x4, x5⟩ := HCL.out _ HNOW.out) | skip); (first | (obtain ⟨y0, y1⟩ := HKC.out _ HNOW.out) | skip); clear hb1; obtain ⟨Aa, ca, hva⟩ := h7.form; subst hva; have HSA := hid h7.rd.2.2; clear h7) | (go_at_call 39; refine (HDS.out _ HNOW.out).mono ?_; rintro e w8 ⟨vb, rfl, h8, hb1⟩; (first | (have hb1 := undrew hb1) | skip); have HNOW := hid (HNOW.out.trans (hb1.mono HNOW.out.size)); (first | (have HWT := hid (HWT.out.under hb1)) | skip); (first | (have HRS := hid (HRS.out.under hb1)) | skip); (first | (have HRB := hid (HRB.out.under hb1)) | skip); (first | (have HNB := hid (HNB.out.under hb1)) | skip); (first | (have HSA := hid (HSA.out.below hb1)) | skip); (first | (obtain ⟨x0, x1, x2, x3, x4, x5⟩ := HCL.out _ HNOW.out) | skip); (first | (obtain ⟨y0, y1⟩ := HKC.out _ HNOW.out) | skip); clear hb1; obtain ⟨Ab, cb, hvb⟩ := h8.form; subst hvb; have HSB := hid h8.rd.2.2; clear h8))
          go_loopw [108] (fun i wq => ∃ (k' : Nat), k' ≤ S.length ∧ i = .int .i64 k' ∧ Hid (Below w8.heap.size w8 wq)) (fun i _ => S.length - (intOf i).toNat)
          case atStart => exact ⟨0, Nat.zero_le _, rfl, Below.refl _ _⟩
          case round =>
            obtain ⟨k', hk', rfl, hbq⟩ := hrel
            by_cases hlt' : k' < S.length
            · obtain ⟨g1, o1, s1, rfl, hs1, hg1, a0, a1, a2, a3⟩ := HSA.out.at_ (k := k') hlt'
              obtain ⟨g2, o2, s2, rfl, hs2, hg2, b0, b1, b2, b3⟩ := HSB.out.at_ (k := k') hlt'
              rw [hs1] at hs2
              have hs2 : s1 = s2 := by simpa using hs2
              subst hs2
              have ha := fun i => hbq.out.cell (p := ⟨g1, i, none⟩) hg1
              have hb := fun i => hbq.out.cell (p := ⟨g2, i, none⟩) hg2
              have a0 := (ha _).trans a0; have a1 := (ha _).trans a1; have a2 := (ha _).trans a2; have a3 := (ha _).trans a3
              have b0 := (hb _).trans b0; have b1 := (hb _).trans b1; have b2 := (hb _).trans b2; have b3 := (hb _).trans b3
              have hqq : ∀ W, (binOp .neq 42 (.agg #[.int .u64 s1.a.toNat, .int .u64 s1.b.toNat, .int .u64 s1.c.toNat, .int .u64 s1.d.toNat]) (.agg #[.int .u64 s1.a.toNat, .int .u64 s1.b.toNat, .int .u64 s1.c.toNat, .int .u64 s1.d.toNat])).run Tryd.prog W = .ok (.bool false) W := fun W => (run_neq_set s1 s1 W).trans (by rw [decide_eq_true rfl]; rfl)
              have hmm : ∀ (op : BinOp) (x y : Operand) (xs ys : Array Value) (W : World), (eqGuard op 42 x y (.agg xs) (.agg ys)).run Tryd.prog W = .ok () W := fun op x y xs ys W => run_eqGuard_agg W op _ x y xs ys (by kernel_rfl)
              clear hs1 ha hb
              go_wp2_with fail
              go_quiet (fail)
              go_wp2_with fail
              go_roundw
              case rel => exact ⟨k' + 1, by omega, by go_num, hbq.out.trans (below_drewN _ _ _)⟩
              case measure => simp [intOf]; omega
            · have HNOW := hid (HNOW.out.trans (hbq.out.mono HNOW.out.size))
              have HWT := hid (HWT.out.under hbq.out)
              clear HSA HSB
              go_wp2_with (first | (go_at_call 33; (with_reducible refine (HBY.out _ HNOW.out).mono ?_); rintro e w9 ⟨b9, rfl, hw, hb1⟩; (first | (have hb1 := undrew hb1) | skip); have HNOW := hid (HNOW.out.trans (hb1.mono HNOW.out.size)); (first | (have HWT := hid (HWT.out.under hb1)) | skip); (first | (have HRS := hid (HRS.out.under hb1)) | skip); (first | (have HRB := hid (HRB.out.under hb1)) | skip); (first | (have HNB := hid (HNB.out.under hb1)) | skip); (first | (have HSA := hid (HSA.out.below hb1)) | skip); (first | (obtain ⟨x0, x1, x2, x3, x4, x5⟩ := HCL.out _ HNOW.out) | skip); (first | (obtain ⟨y0, y1⟩ := HKC.out _ HNOW.out) | skip); clear hb1; have HRB := hid hw; clear hw HBY) | (go_at_call 15; refine (HSAME.out _ _ _ _ HRB.out HWT.out).mono ?_; rintro e w10 ⟨rfl, rfl⟩; clear HRB) | (go_at_call 33; (with_reducible refine (HBN.out _).mono ?_); rintro e w11 ⟨b11, rfl, hw, hb1⟩; (first | (have hb1 := undrew hb1) | skip); have HNOW := hid (HNOW.out.trans (hb1.mono HNOW.out.size)); (first | (have HWT := hid (HWT.out.under hb1)) | skip); (first | (have HRS := hid (HRS.out.under hb1)) | skip); (first | (have HRB := hid (HRB.out.under hb1)) | skip); (first | (have HNB := hid (HNB.out.under hb1)) | skip); (first | (have HSA := hid (HSA.out.below hb1)) | skip); (first | (obtain ⟨x0, x1, x2, x3, x4, x5⟩ := HCL.out _ HNOW.out) | skip); (first | (obtain ⟨y0, y1⟩ := HKC.out _ HNOW.out) | skip); clear hb1; have HNB := hid hw; clear hw) | (go_at_call 35; refine (HNO.out _).mono ?_; rintro e w12 ⟨b12, rfl, hw, hb1⟩; (first | (have hb1 := undrew hb1) | skip); have HNOW := hid (HNOW.out.trans (hb1.mono HNOW.out.size)); (first | (have HWT := hid (HWT.out.under hb1)) | skip); (first | (have HRS := hid (HRS.out.under hb1)) | skip); (first | (have HRB := hid (HRB.out.under hb1)) | skip); (first | (have HNB := hid (HNB.out.under hb1)) | skip); (first | (have HSA := hid (HSA.out.below hb1)) | skip); (first | (obtain ⟨x0, x1, x2, x3, x4, x5⟩ := HCL.out _ HNOW.out) | skip); (first | (obtain ⟨y0, y1⟩ := HKC.out _ HNOW.out) | skip); clear hb1; have HNC := hid hw; clear hw) | (go_at_call 15; refine (HSAME.out _ _ _ _ HNB.out HNC.out).mono ?_; rintro e w13 ⟨rfl, rfl⟩) | (go_at_call 39; refine (dsets_nil _).mono ?_; rintro e w14 ⟨rfl, rfl⟩))
              go_ret
              exact ⟨rfl, HBE.out.trans (HNOW.out.mono HBE.out.size)⟩
      · obtain ⟨l, hr⟩ : ∃ l, r = .cat l := by cases r <;> first | exact ⟨_, rfl⟩ | (simp [Re.op] at hop)
        subst hr
        match l, HGD.out.fit.1 with
        | x :: x2 :: l', _ =>
          generalize hm : x2 :: l' = m at *
          have hml : 1 ≤ m.length := by rw [← hm]; simp
          have hkm : k = m.length + 1 := HN.out
          obtain ⟨g, o, x', bf, rfl, c0, hx, -, hax, hg⟩ := HROWK.out.at_ (k := 0) (by omega)
          have hx : x = x' := by simpa [Re.kids] using hx
          subst hx
          obtain ⟨g1, o1, z, bz, rfl, d0, hz, -, haz, hg1⟩ := HRW.out.at_ (k := 0) (by omega)
          have hz : byR (97 + q) x = z := by simpa [Re.kids] using hz
          subst hz
          rw [Nat.add_zero] at c0 d0
          have hck : 2 ≤ ck := by have := HCAPK.out.1; omega
          have hck1 : ¬ ck = 1 := by omega
          have hnc := HCAPK.out.1
          have hgm : Goods m := fun j hj => (HGD.out.kid (k := j) (by simp [Re.kids, hj])).1
          have hgx : Good x := (HGD.out.kid (k := x) (by simp [Re.kids])).1
          have hrest : Good (thenL m) := thenL_good hgm
          have hs1 := rest_size x m
          have hs2 := byR_size (97 + q) x
          have hs3 := byR_size (97 + q) (thenL m)
          have hs4 := thenL_size [byR (97 + q) x, thenL m]
          have hs5 : x.size < (Re.cat (x :: m)).size := kid_size (by simp [Re.kids])
          have hs6 : Re.sizes m ≤ (Re.cat (x :: m)).size := by simp only [Re.size, Re.sizes]; omega
          have hs7 := sz400 (n := x.size) (by omega)
          have hs8 := sz400 (n := (thenL m).size) (by omega)
          have hs9 : x.size * x.size ≤ 660 * 660 := Nat.mul_le_mul (by omega) (by omega)
          have hs10 : (thenL m).size * (thenL m).size ≤ 660 * 660 := Nat.mul_le_mul (by omega) (by omega)
          simp only [Re.sizes] at hs4
          have HT0 : Hid (∀ W, Below wr.heap.size wr W → Calls Tryd.prog 17 #[.slice (some ⟨g, o + 1, none⟩) (k - 1) (ck - 1)] W (RetRe W X0 (thenL m))) := fun W hW => by
            have := row_drop (HROWK.out.below (hbel.out.trans (hW.mono hszr))) 1
            exact then_any _ _ _ _ _ X0 W this X0X (by omega)
          have HT2 : Hid (∀ W b, Below wr.heap.size wr W → ReAt W X0 (thenL m) b → Calls Tryd.prog 17 #[.slice (some ⟨W.heap.size, 0, none⟩) 2 2] (W.alloc (.cells #[ptr bz, ptr b] 27)) (RetRe W X0 (thenL [byR (97 + q) x, thenL m]))) := fun W b hW hb =>
            then_two _ _ X0 W bz b (haz.under hW) hb X0X (by omega)
          have HBR : Hid (∀ W b, ReAt W X0 (thenL m) b → Calls Tryd.prog 33 #[ptr b, .int .u8 (97 + (q : Int))] W (RetRe W X0 (byR (97 + q) (thenL m)))) := fun W b hb => by97 q hq97 _ hrest (by omega) X0 b W hb X0X
          have HAN : Hid (∀ W a b, ReAt W X0 (thenL [byR (97 + q) x, thenL m]) a → ReAt W X0 (byR (97 + q) (thenL m)) b → Calls Tryd.prog 14 #[.slice (some ⟨W.heap.size, 0, none⟩) 2 2] (W.alloc (.cells #[ptr a, ptr b] 27)) (RetRe W X0 (anyL [thenL [byR (97 + q) x, thenL m], byR (97 + q) (thenL m)]))) := fun W a b ha hb => any_two _ _ X0 W a b ha hb X0X (by omega)
          have HNU : Hid (∀ W, Below wr.heap.size wr W → Calls Tryd.prog 21 #[ptr bf] W fun e w' => e = .returned (.bool x.null) ∧ W = w') := fun W hW => null_any x X0 bf W (hax.under (hbel.out.trans (hW.mono hszr)))
          have HKC : Hid (∀ W, Below wr.heap.size wr W → W.cell? ⟨g, o, none⟩ = some (ptr bf) ∧ W.cell? ⟨g1, o1, none⟩ = some (ptr bz)) := fun W hW => ⟨((hbel.out.trans (hW.mono hszr)).cell (p := ⟨g, o, none⟩) hg).trans c0, (hW.cell (p := ⟨g1, o1, none⟩) hg1).trans d0⟩
          obtain ⟨y0, y1⟩ := HKC.out wr HNOW.out
          have hd := HDD.out.trans (byR_cat _ _ _)
          simp only [Re.op] at HCL x0
          have i0 : (0 : Int) < (k : Int) := by omega
          have i6 : 0 < k := by omega
          have i1 : (1 : Int) ≤ (k : Int) := by omega
          have i2 : (k : Int) ≤ (ck : Int) := by omega
          generalize thenL [byR (97 + q) x, thenL m] = p1 at *
          generalize thenL m = pr at *
          generalize x.null = nb at *
          clear hop ho hrk hsr hxs hgd HMS HN c0 d0 hax haz hgm hgx hrest hs1 hs2 hs3 hs4 hs5 hs6 hs7 hs8 hs9 hs10 hkm hml hm
          unfold ptr at *
          cases nb
          · rw [if_neg (by simp)] at hd
            subst hd
            go_wp2_with (first | (go_at_call 17; (with_reducible refine (HT0.out _ HNOW.out).mono ?_); rintro e w22 ⟨b22, rfl, hw, hb1⟩; (first | (have hb1 := undrew hb1) | skip); have HNOW := hid (HNOW.out.trans (hb1.mono HNOW.out.size)); (first | (have HWT := hid (HWT.out.under hb1)) | skip); (first | (have HRS := hid (HRS.out.under hb1)) | skip); (first | (have HRB := hid (HRB.out.under hb1)) | skip); (first | (have HNB := hid (HNB.out.under hb1)) | skip); (first | (have HSA := hid (HSA.out.below hb1)) | skip); (first | (obtain ⟨x0, x1, x2, x3, x4, x5⟩ := HCL.out _ HNOW.out) | skip); (first | (obtain ⟨y0, y1⟩ := HKC.out _ HNOW.out) | skip); clear hb1; have HRS := hid hw; clear hw HT0) | (go_at_call 17; (with_reducible refine (HT2.out _ _ HNOW.out HRS.out).mono ?_); rintro e w23 ⟨b23, rfl, hw, hb1⟩; clear HWT; (first | (have hb1 := undrew hb1) | skip); have HNOW := hid (HNOW.out.trans (hb1.mono HNOW.out.size)); (first | (have HWT := hid (HWT.out.under hb1)) | skip); (first | (have HRS := hid (HRS.out.under hb1)) | skip); (first | (have HRB := hid (HRB.out.under hb1)) | skip); (first | (have HNB := hid (HNB.out.under hb1)) | skip); (first | (have HSA := hid (HSA.out.below hb1)) | skip); (first | (obtain ⟨x0, x1, x2, x3, x4, x5⟩ := HCL.out _ HNOW.out) | skip); (first | (obtain ⟨y0, y1⟩ := HKC.out _ HNOW.out) | skip); clear hb1; have HWT := hid hw; clear hw) | (go_at_call 21; refine (HNU.out _ HNOW.out).mono ?_; rintro e w24 ⟨rfl, rfl⟩) | (go_at_call 38; refine (HSE.out _ HNOW.out).mono ?_; rintro e w7 ⟨va, rfl, h7, hb1⟩; (first | (have hb1 := undrew hb1) | skip); have HNOW := hid (HNOW.out.trans (hb1.mono HNOW.out.size)); (first | (have HWT := hid (HWT.out.under hb1)) | skip); (first | (have HRS := hid (HRS.out.under hb1)) | skip); (first | (have HRB := hid (HRB.out.under hb1)) | skip); (first | (have HNB := hid (HNB.out.under hb1)) | skip); (first | (have HSA := hid (HSA.out.below hb1)) | skip); (first | (obtain ⟨x0, x1, x2, x3, x4, x5⟩ := HCL.out _ HNOW.out) | skip); (first | (obtain ⟨y0, y1⟩ := HKC.out _ HNOW.out) | skip); clear hb1; obtain ⟨Aa, ca, hva⟩ := h7.form; subst hva; have HSA := hid h7.rd.2.2; clear h7) | (go_at_call 39; refine (HDS.out _ HNOW.out).mono ?_; rintro e w8 ⟨vb, rfl, h8, hb1⟩; (first | (have hb1 := undrew hb1) | skip); have HNOW := hid (HNOW.out.trans (hb1.mono HNOW.out.size)); (first | (have HWT := hid (HWT.out.under hb1)) | skip); (first | (have HRS := hid (HRS.out.under hb1)) | skip); (first | (have HRB := hid (HRB.out.under hb1)) | skip); (first | (have HNB := hid (HNB.out.under hb1)) | skip); (first | (have HSA := hid (HSA.out.below hb1)) | skip); (first | (obtain ⟨x0, x1, x2, x3, x4, x5⟩ := HCL.out _ HNOW.out) | skip); (first | (obtain ⟨y0, y1⟩ := HKC.out _ HNOW.out) | skip); clear hb1; obtain ⟨Ab, cb, hvb⟩ := h8.form; subst hvb; have HSB := hid h8.rd.2.2; clear h8))
            go_loopw [108] (fun i wq => ∃ (k' : Nat), k' ≤ S.length ∧ i = .int .i64 k' ∧ Hid (Below w8.heap.size w8 wq)) (fun i _ => S.length - (intOf i).toNat)
            case atStart => exact ⟨0, Nat.zero_le _, rfl, Below.refl _ _⟩
            case round =>
              obtain ⟨k', hk', rfl, hbq⟩ := hrel
              by_cases hlt' : k' < S.length
              · obtain ⟨g1, o1, s1, rfl, hs1, hg1, a0, a1, a2, a3⟩ := HSA.out.at_ (k := k') hlt'
                obtain ⟨g2, o2, s2, rfl, hs2, hg2, b0, b1, b2, b3⟩ := HSB.out.at_ (k := k') hlt'
                rw [hs1] at hs2
                have hs2 : s1 = s2 := by simpa using hs2
                subst hs2
                have ha := fun i => hbq.out.cell (p := ⟨g1, i, none⟩) hg1
                have hb := fun i => hbq.out.cell (p := ⟨g2, i, none⟩) hg2
                have a0 := (ha _).trans a0; have a1 := (ha _).trans a1; have a2 := (ha _).trans a2; have a3 := (ha _).trans a3
                have b0 := (hb _).trans b0; have b1 := (hb _).trans b1; have b2 := (hb _).trans b2; have b3 := (hb _).trans b3
                have hqq : ∀ W, (binOp .neq 42 (.agg #[.int .u64 s1.a.toNat, .int .u64 s1.b.toNat, .int .u64 s1.c.toNat, .int .u64 s1.d.toNat]) (.agg #[.int .u64 s1.a.toNat, .int .u64 s1.b.toNat, .int .u64 s1.c.toNat, .int .u64 s1.d.toNat])).run Tryd.prog W = .ok (.bool false) W := fun W => (run_neq_set s1 s1 W).trans (by rw [decide_eq_true rfl]; rfl)
                have hmm : ∀ (op : BinOp) (x y : Operand) (xs ys : Array Value) (W : World), (eqGuard op 42 x y (.agg xs) (.agg ys)).run Tryd.prog W = .ok () W := fun op x y xs ys W => run_eqGuard_agg W op _ x y xs ys (by kernel_rfl)
                clear hs1 ha hb
                go_wp2_with fail
                go_quiet (fail)
                go_wp2_with fail
                go_roundw
                case rel => exact ⟨k' + 1, by omega, by go_num, hbq.out.trans (below_drewN _ _ _)⟩
                case measure => simp [intOf]; omega
              · have HNOW := hid (HNOW.out.trans (hbq.out.mono HNOW.out.size))
                have HWT := hid (HWT.out.under hbq.out)
                clear HSA HSB
                go_wp2_with (first | (go_at_call 33; (with_reducible refine (HBY.out _ HNOW.out).mono ?_); rintro e w9 ⟨b9, rfl, hw, hb1⟩; (first | (have hb1 := undrew hb1) | skip); have HNOW := hid (HNOW.out.trans (hb1.mono HNOW.out.size)); (first | (have HWT := hid (HWT.out.under hb1)) | skip); (first | (have HRS := hid (HRS.out.under hb1)) | skip); (first | (have HRB := hid (HRB.out.under hb1)) | skip); (first | (have HNB := hid (HNB.out.under hb1)) | skip); (first | (have HSA := hid (HSA.out.below hb1)) | skip); (first | (obtain ⟨x0, x1, x2, x3, x4, x5⟩ := HCL.out _ HNOW.out) | skip); (first | (obtain ⟨y0, y1⟩ := HKC.out _ HNOW.out) | skip); clear hb1; have HRB := hid hw; clear hw HBY) | (go_at_call 15; refine (HSAME.out _ _ _ _ HRB.out HWT.out).mono ?_; rintro e w10 ⟨rfl, rfl⟩; clear HRB) | (go_at_call 33; (with_reducible refine (HBN.out _).mono ?_); rintro e w11 ⟨b11, rfl, hw, hb1⟩; (first | (have hb1 := undrew hb1) | skip); have HNOW := hid (HNOW.out.trans (hb1.mono HNOW.out.size)); (first | (have HWT := hid (HWT.out.under hb1)) | skip); (first | (have HRS := hid (HRS.out.under hb1)) | skip); (first | (have HRB := hid (HRB.out.under hb1)) | skip); (first | (have HNB := hid (HNB.out.under hb1)) | skip); (first | (have HSA := hid (HSA.out.below hb1)) | skip); (first | (obtain ⟨x0, x1, x2, x3, x4, x5⟩ := HCL.out _ HNOW.out) | skip); (first | (obtain ⟨y0, y1⟩ := HKC.out _ HNOW.out) | skip); clear hb1; have HNB := hid hw; clear hw) | (go_at_call 35; refine (HNO.out _).mono ?_; rintro e w12 ⟨b12, rfl, hw, hb1⟩; (first | (have hb1 := undrew hb1) | skip); have HNOW := hid (HNOW.out.trans (hb1.mono HNOW.out.size)); (first | (have HWT := hid (HWT.out.under hb1)) | skip); (first | (have HRS := hid (HRS.out.under hb1)) | skip); (first | (have HRB := hid (HRB.out.under hb1)) | skip); (first | (have HNB := hid (HNB.out.under hb1)) | skip); (first | (have HSA := hid (HSA.out.below hb1)) | skip); (first | (obtain ⟨x0, x1, x2, x3, x4, x5⟩ := HCL.out _ HNOW.out) | skip); (first | (obtain ⟨y0, y1⟩ := HKC.out _ HNOW.out) | skip); clear hb1; have HNC := hid hw; clear hw) | (go_at_call 15; refine (HSAME.out _ _ _ _ HNB.out HNC.out).mono ?_; rintro e w13 ⟨rfl, rfl⟩) | (go_at_call 39; refine (dsets_nil _).mono ?_; rintro e w14 ⟨rfl, rfl⟩))
                go_ret
                exact ⟨rfl, HBE.out.trans (HNOW.out.mono HBE.out.size)⟩
          · rw [if_pos rfl] at hd
            subst hd
            go_wp2_with (first | (go_at_call 17; (with_reducible refine (HT0.out _ HNOW.out).mono ?_); rintro e w22 ⟨b22, rfl, hw, hb1⟩; (first | (have hb1 := undrew hb1) | skip); have HNOW := hid (HNOW.out.trans (hb1.mono HNOW.out.size)); (first | (have HWT := hid (HWT.out.under hb1)) | skip); (first | (have HRS := hid (HRS.out.under hb1)) | skip); (first | (have HRB := hid (HRB.out.under hb1)) | skip); (first | (have HNB := hid (HNB.out.under hb1)) | skip); (first | (have HSA := hid (HSA.out.below hb1)) | skip); (first | (obtain ⟨x0, x1, x2, x3, x4, x5⟩ := HCL.out _ HNOW.out) | skip); (first | (obtain ⟨y0, y1⟩ := HKC.out _ HNOW.out) | skip); clear hb1; have HRS := hid hw; clear hw HT0) | (go_at_call 17; (with_reducible refine (HT2.out _ _ HNOW.out HRS.out).mono ?_); rintro e w23 ⟨b23, rfl, hw, hb1⟩; clear HWT; (first | (have hb1 := undrew hb1) | skip); have HNOW := hid (HNOW.out.trans (hb1.mono HNOW.out.size)); (first | (have HWT := hid (HWT.out.under hb1)) | skip); (first | (have HRS := hid (HRS.out.under hb1)) | skip); (first | (have HRB := hid (HRB.out.under hb1)) | skip); (first | (have HNB := hid (HNB.out.under hb1)) | skip); (first | (have HSA := hid (HSA.out.below hb1)) | skip); (first | (obtain ⟨x0, x1, x2, x3, x4, x5⟩ := HCL.out _ HNOW.out) | skip); (first | (obtain ⟨y0, y1⟩ := HKC.out _ HNOW.out) | skip); clear hb1; have HWT := hid hw; clear hw) | (go_at_call 21; refine (HNU.out _ HNOW.out).mono ?_; rintro e w24 ⟨rfl, rfl⟩) | (go_at_call 33; (with_reducible refine (HBR.out _ _ HRS.out).mono ?_); rintro e w25 ⟨b25, rfl, hw, hb1⟩; (first | (have hb1 := undrew hb1) | skip); have HNOW := hid (HNOW.out.trans (hb1.mono HNOW.out.size)); (first | (have HWT := hid (HWT.out.under hb1)) | skip); (first | (have HRS := hid (HRS.out.under hb1)) | skip); (first | (have HRB := hid (HRB.out.under hb1)) | skip); (first | (have HNB := hid (HNB.out.under hb1)) | skip); (first | (have HSA := hid (HSA.out.below hb1)) | skip); (first | (obtain ⟨x0, x1, x2, x3, x4, x5⟩ := HCL.out _ HNOW.out) | skip); (first | (obtain ⟨y0, y1⟩ := HKC.out _ HNOW.out) | skip); clear hb1; have HRS := hid hw; clear hw HBR) | (go_at_call 14; (with_reducible refine (HAN.out _ _ _ HWT.out HRS.out).mono ?_); rintro e w26 ⟨b26, rfl, hw, hb1⟩; clear HWT HRS; (first | (have hb1 := undrew hb1) | skip); have HNOW := hid (HNOW.out.trans (hb1.mono HNOW.out.size)); (first | (have HWT := hid (HWT.out.under hb1)) | skip); (first | (have HRS := hid (HRS.out.under hb1)) | skip); (first | (have HRB := hid (HRB.out.under hb1)) | skip); (first | (have HNB := hid (HNB.out.under hb1)) | skip); (first | (have HSA := hid (HSA.out.below hb1)) | skip); (first | (obtain ⟨x0, x1, x2, x3, x4, x5⟩ := HCL.out _ HNOW.out) | skip); (first | (obtain ⟨y0, y1⟩ := HKC.out _ HNOW.out) | skip); clear hb1; have HWT := hid hw; clear hw) | (go_at_call 38; refine (HSE.out _ HNOW.out).mono ?_; rintro e w7 ⟨va, rfl, h7, hb1⟩; (first | (have hb1 := undrew hb1) | skip); have HNOW := hid (HNOW.out.trans (hb1.mono HNOW.out.size)); (first | (have HWT := hid (HWT.out.under hb1)) | skip); (first | (have HRS := hid (HRS.out.under hb1)) | skip); (first | (have HRB := hid (HRB.out.under hb1)) | skip); (first | (have HNB := hid (HNB.out.under hb1)) | skip); (first | (have HSA := hid (HSA.out.below hb1)) | skip); (first | (obtain ⟨x0, x1, x2, x3, x4, x5⟩ := HCL.out _ HNOW.out) | skip); (first | (obtain ⟨y0, y1⟩ := HKC.out _ HNOW.out) | skip); clear hb1; obtain ⟨Aa, ca, hva⟩ := h7.form; subst hva; have HSA := hid h7.rd.2.2; clear h7) | (go_at_call 39; refine (HDS.out _ HNOW.out).mono ?_; rintro e w8 ⟨vb, rfl, h8, hb1⟩; (first | (have hb1 := undrew hb1) | skip); have HNOW := hid (HNOW.out.trans (hb1.mono HNOW.out.size)); (first | (have HWT := hid (HWT.out.under hb1)) | skip); (first | (have HRS := hid (HRS.out.under hb1)) | skip); (first | (have HRB := hid (HRB.out.under hb1)) | skip); (first | (have HNB := hid (HNB.out.under hb1)) | skip); (first | (have HSA := hid (HSA.out.below hb1)) | skip); (first | (obtain ⟨x0, x1, x2, x3, x4, x5⟩ := HCL.out _ HNOW.out) | skip); (first | (obtain ⟨y0, y1⟩ := HKC.out _ HNOW.out) | skip); clear hb1; obtain ⟨Ab, cb, hvb⟩ := h8.form; subst hvb; have HSB := hid h8.rd.2.2; clear h8))
            go_loopw [108] (fun i wq => ∃ (k' : Nat), k' ≤ S.length ∧ i = .int .i64 k' ∧ Hid (Below w8.heap.size w8 wq)) (fun i _ => S.length - (intOf i).toNat)
            case atStart => exact ⟨0, Nat.zero_le _, rfl, Below.refl _ _⟩
            case round =>
              obtain ⟨k', hk', rfl, hbq⟩ := hrel
              by_cases hlt' : k' < S.length
              · obtain ⟨g1, o1, s1, rfl, hs1, hg1, a0, a1, a2, a3⟩ := HSA.out.at_ (k := k') hlt'
                obtain ⟨g2, o2, s2, rfl, hs2, hg2, b0, b1, b2, b3⟩ := HSB.out.at_ (k := k') hlt'
                rw [hs1] at hs2
                have hs2 : s1 = s2 := by simpa using hs2
                subst hs2
                have ha := fun i => hbq.out.cell (p := ⟨g1, i, none⟩) hg1
                have hb := fun i => hbq.out.cell (p := ⟨g2, i, none⟩) hg2
                have a0 := (ha _).trans a0; have a1 := (ha _).trans a1; have a2 := (ha _).trans a2; have a3 := (ha _).trans a3
                have b0 := (hb _).trans b0; have b1 := (hb _).trans b1; have b2 := (hb _).trans b2; have b3 := (hb _).trans b3
                have hqq : ∀ W, (binOp .neq 42 (.agg #[.int .u64 s1.a.toNat, .int .u64 s1.b.toNat, .int .u64 s1.c.toNat, .int .u64 s1.d.toNat]) (.agg #[.int .u64 s1.a.toNat, .int .u64 s1.b.toNat, .int .u64 s1.c.toNat, .int .u64 s1.d.toNat])).run Tryd.prog W = .ok (.bool false) W := fun W => (run_neq_set s1 s1 W).trans (by rw [decide_eq_true rfl]; rfl)
                have hmm : ∀ (op : BinOp) (x y : Operand) (xs ys : Array Value) (W : World), (eqGuard op 42 x y (.agg xs) (.agg ys)).run Tryd.prog W = .ok () W := fun op x y xs ys W => run_eqGuard_agg W op _ x y xs ys (by kernel_rfl)
                clear hs1 ha hb
                go_wp2_with fail
                go_quiet (fail)
                go_wp2_with fail
                go_roundw
                case rel => exact ⟨k' + 1, by omega, by go_num, hbq.out.trans (below_drewN _ _ _)⟩
                case measure => simp [intOf]; omega
              · have HNOW := hid (HNOW.out.trans (hbq.out.mono HNOW.out.size))
                have HWT := hid (HWT.out.under hbq.out)
                clear HSA HSB
                go_wp2_with (first | (go_at_call 33; (with_reducible refine (HBY.out _ HNOW.out).mono ?_); rintro e w9 ⟨b9, rfl, hw, hb1⟩; (first | (have hb1 := undrew hb1) | skip); have HNOW := hid (HNOW.out.trans (hb1.mono HNOW.out.size)); (first | (have HWT := hid (HWT.out.under hb1)) | skip); (first | (have HRS := hid (HRS.out.under hb1)) | skip); (first | (have HRB := hid (HRB.out.under hb1)) | skip); (first | (have HNB := hid (HNB.out.under hb1)) | skip); (first | (have HSA := hid (HSA.out.below hb1)) | skip); (first | (obtain ⟨x0, x1, x2, x3, x4, x5⟩ := HCL.out _ HNOW.out) | skip); (first | (obtain ⟨y0, y1⟩ := HKC.out _ HNOW.out) | skip); clear hb1; have HRB := hid hw; clear hw HBY) | (go_at_call 15; refine (HSAME.out _ _ _ _ HRB.out HWT.out).mono ?_; rintro e w10 ⟨rfl, rfl⟩; clear HRB) | (go_at_call 33; (with_reducible refine (HBN.out _).mono ?_); rintro e w11 ⟨b11, rfl, hw, hb1⟩; (first | (have hb1 := undrew hb1) | skip); have HNOW := hid (HNOW.out.trans (hb1.mono HNOW.out.size)); (first | (have HWT := hid (HWT.out.under hb1)) | skip); (first | (have HRS := hid (HRS.out.under hb1)) | skip); (first | (have HRB := hid (HRB.out.under hb1)) | skip); (first | (have HNB := hid (HNB.out.under hb1)) | skip); (first | (have HSA := hid (HSA.out.below hb1)) | skip); (first | (obtain ⟨x0, x1, x2, x3, x4, x5⟩ := HCL.out _ HNOW.out) | skip); (first | (obtain ⟨y0, y1⟩ := HKC.out _ HNOW.out) | skip); clear hb1; have HNB := hid hw; clear hw) | (go_at_call 35; refine (HNO.out _).mono ?_; rintro e w12 ⟨b12, rfl, hw, hb1⟩; (first | (have hb1 := undrew hb1) | skip); have HNOW := hid (HNOW.out.trans (hb1.mono HNOW.out.size)); (first | (have HWT := hid (HWT.out.under hb1)) | skip); (first | (have HRS := hid (HRS.out.under hb1)) | skip); (first | (have HRB := hid (HRB.out.under hb1)) | skip); (first | (have HNB := hid (HNB.out.under hb1)) | skip); (first | (have HSA := hid (HSA.out.below hb1)) | skip); (first | (obtain ⟨x0, x1, x2, x3, x4, x5⟩ := HCL.out _ HNOW.out) | skip); (first | (obtain ⟨y0, y1⟩ := HKC.out _ HNOW.out) | skip); clear hb1; have HNC := hid hw; clear hw) | (go_at_call 15; refine (HSAME.out _ _ _ _ HNB.out HNC.out).mono ?_; rintro e w13 ⟨rfl, rfl⟩) | (go_at_call 39; refine (dsets_nil _).mono ?_; rintro e w14 ⟨rfl, rfl⟩))
                go_ret
                exact ⟨rfl, HBE.out.trans (HNOW.out.mono HBE.out.size)⟩
      · skip
        have HWI : Hid (∀ W, Below wr.heap.size wr W → Calls Tryd.prog 25 #[ptr bx, .slice A1 k c1] W (RetRe W X0 D)) := fun W hW => by
          have hsz := sizes_by (97 + q) r.kids fun j _ => byR_size (97 + q) j
          have hsq : Re.sizes r.kids * Re.sizes r.kids ≤ 660 * 660 := Nat.mul_le_mul (by omega) (by omega)
          have := with_any r bx A1 k c1 (r.kids.map (byR (97 + q))) cs X0 W (HRX.out.under hW) (HRW.out.below hW) X0X (by omega)
          rw [withR_by (97 + q) (by omega), ← HDD.out] at this
          exact this
        rw [hop] at HCL x0
        clear hop ho hrk hsr hxs hgd HMS HN HDD
        unfold ptr at *
        go_wp2_with (first | (go_at_call 25; (with_reducible refine (HWI.out _ HNOW.out).mono ?_); rintro e w28 ⟨b28, rfl, hw, hb1⟩; clear HWT; (first | (have hb1 := undrew hb1) | skip); have HNOW := hid (HNOW.out.trans (hb1.mono HNOW.out.size)); (first | (have HWT := hid (HWT.out.under hb1)) | skip); (first | (have HRS := hid (HRS.out.under hb1)) | skip); (first | (have HRB := hid (HRB.out.under hb1)) | skip); (first | (have HNB := hid (HNB.out.under hb1)) | skip); (first | (have HSA := hid (HSA.out.below hb1)) | skip); (first | (obtain ⟨x0, x1, x2, x3, x4, x5⟩ := HCL.out _ HNOW.out) | skip); (first | (obtain ⟨y0, y1⟩ := HKC.out _ HNOW.out) | skip); clear hb1; have HWT := hid hw; clear hw) | (go_at_call 38; refine (HSE.out _ HNOW.out).mono ?_; rintro e w7 ⟨va, rfl, h7, hb1⟩; (first | (have hb1 := undrew hb1) | skip); have HNOW := hid (HNOW.out.trans (hb1.mono HNOW.out.size)); (first | (have HWT := hid (HWT.out.under hb1)) | skip); (first | (have HRS := hid (HRS.out.under hb1)) | skip); (first | (have HRB := hid (HRB.out.under hb1)) | skip); (first | (have HNB := hid (HNB.out.under hb1)) | skip); (first | (have HSA := hid (HSA.out.below hb1)) | skip); (first | (obtain ⟨x0, x1, x2, x3, x4, x5⟩ := HCL.out _ HNOW.out) | skip); (first | (obtain ⟨y0, y1⟩ := HKC.out _ HNOW.out) | skip); clear hb1; obtain ⟨Aa, ca, hva⟩ := h7.form; subst hva; have HSA := hid h7.rd.2.2; clear h7) | (go_at_call 39; refine (HDS.out _ HNOW.out).mono ?_; rintro e w8 ⟨vb, rfl, h8, hb1⟩; (first | (have hb1 := undrew hb1) | skip); have HNOW := hid (HNOW.out.trans (hb1.mono HNOW.out.size)); (first | (have HWT := hid (HWT.out.under hb1)) | skip); (first | (have HRS := hid (HRS.out.under hb1)) | skip); (first | (have HRB := hid (HRB.out.under hb1)) | skip); (first | (have HNB := hid (HNB.out.under hb1)) | skip); (first | (have HSA := hid (HSA.out.below hb1)) | skip); (first | (obtain ⟨x0, x1, x2, x3, x4, x5⟩ := HCL.out _ HNOW.out) | skip); (first | (obtain ⟨y0, y1⟩ := HKC.out _ HNOW.out) | skip); clear hb1; obtain ⟨Ab, cb, hvb⟩ := h8.form; subst hvb; have HSB := hid h8.rd.2.2; clear h8))
        go_loopw [108] (fun i wq => ∃ (k' : Nat), k' ≤ S.length ∧ i = .int .i64 k' ∧ Hid (Below w8.heap.size w8 wq)) (fun i _ => S.length - (intOf i).toNat)
        case atStart => exact ⟨0, Nat.zero_le _, rfl, Below.refl _ _⟩
        case round =>
          obtain ⟨k', hk', rfl, hbq⟩ := hrel
          by_cases hlt' : k' < S.length
          · obtain ⟨g1, o1, s1, rfl, hs1, hg1, a0, a1, a2, a3⟩ := HSA.out.at_ (k := k') hlt'
            obtain ⟨g2, o2, s2, rfl, hs2, hg2, b0, b1, b2, b3⟩ := HSB.out.at_ (k := k') hlt'
            rw [hs1] at hs2
            have hs2 : s1 = s2 := by simpa using hs2
            subst hs2
            have ha := fun i => hbq.out.cell (p := ⟨g1, i, none⟩) hg1
            have hb := fun i => hbq.out.cell (p := ⟨g2, i, none⟩) hg2
            have a0 := (ha _).trans a0; have a1 := (ha _).trans a1; have a2 := (ha _).trans a2; have a3 := (ha _).trans a3
            have b0 := (hb _).trans b0; have b1 := (hb _).trans b1; have b2 := (hb _).trans b2; have b3 := (hb _).trans b3
            have hqq : ∀ W, (binOp .neq 42 (.agg #[.int .u64 s1.a.toNat, .int .u64 s1.b.toNat, .int .u64 s1.c.toNat, .int .u64 s1.d.toNat]) (.agg #[.int .u64 s1.a.toNat, .int .u64 s1.b.toNat, .int .u64 s1.c.toNat, .int .u64 s1.d.toNat])).run Tryd.prog W = .ok (.bool false) W := fun W => (run_neq_set s1 s1 W).trans (by rw [decide_eq_true rfl]; rfl)
            have hmm : ∀ (op : BinOp) (x y : Operand) (xs ys : Array Value) (W : World), (eqGuard op 42 x y (.agg xs) (.agg ys)).run Tryd.prog W = .ok () W := fun op x y xs ys W => run_eqGuard_agg W op _ x y xs ys (by kernel_rfl)
            clear hs1 ha hb
            go_wp2_with fail
            go_quiet (fail)
            go_wp2_with fail
            go_roundw
            case rel => exact ⟨k' + 1, by omega, by go_num, hbq.out.trans (below_drewN _ _ _)⟩
            case measure => simp [intOf]; omega
          · have HNOW := hid (HNOW.out.trans (hbq.out.mono HNOW.out.size))
            have HWT := hid (HWT.out.under hbq.out)
            clear HSA HSB
            go_wp2_with (first | (go_at_call 33; (with_reducible refine (HBY.out _ HNOW.out).mono ?_); rintro e w9 ⟨b9, rfl, hw, hb1⟩; (first | (have hb1 := undrew hb1) | skip); have HNOW := hid (HNOW.out.trans (hb1.mono HNOW.out.size)); (first | (have HWT := hid (HWT.out.under hb1)) | skip); (first | (have HRS := hid (HRS.out.under hb1)) | skip); (first | (have HRB := hid (HRB.out.under hb1)) | skip); (first | (have HNB := hid (HNB.out.under hb1)) | skip); (first | (have HSA := hid (HSA.out.below hb1)) | skip); (first | (obtain ⟨x0, x1, x2, x3, x4, x5⟩ := HCL.out _ HNOW.out) | skip); (first | (obtain ⟨y0, y1⟩ := HKC.out _ HNOW.out) | skip); clear hb1; have HRB := hid hw; clear hw HBY) | (go_at_call 15; refine (HSAME.out _ _ _ _ HRB.out HWT.out).mono ?_; rintro e w10 ⟨rfl, rfl⟩; clear HRB) | (go_at_call 33; (with_reducible refine (HBN.out _).mono ?_); rintro e w11 ⟨b11, rfl, hw, hb1⟩; (first | (have hb1 := undrew hb1) | skip); have HNOW := hid (HNOW.out.trans (hb1.mono HNOW.out.size)); (first | (have HWT := hid (HWT.out.under hb1)) | skip); (first | (have HRS := hid (HRS.out.under hb1)) | skip); (first | (have HRB := hid (HRB.out.under hb1)) | skip); (first | (have HNB := hid (HNB.out.under hb1)) | skip); (first | (have HSA := hid (HSA.out.below hb1)) | skip); (first | (obtain ⟨x0, x1, x2, x3, x4, x5⟩ := HCL.out _ HNOW.out) | skip); (first | (obtain ⟨y0, y1⟩ := HKC.out _ HNOW.out) | skip); clear hb1; have HNB := hid hw; clear hw) | (go_at_call 35; refine (HNO.out _).mono ?_; rintro e w12 ⟨b12, rfl, hw, hb1⟩; (first | (have hb1 := undrew hb1) | skip); have HNOW := hid (HNOW.out.trans (hb1.mono HNOW.out.size)); (first | (have HWT := hid (HWT.out.under hb1)) | skip); (first | (have HRS := hid (HRS.out.under hb1)) | skip); (first | (have HRB := hid (HRB.out.under hb1)) | skip); (first | (have HNB := hid (HNB.out.under hb1)) | skip); (first | (have HSA := hid (HSA.out.below hb1)) | skip); (first | (obtain ⟨x0, x1, x2, x3, x4, x5⟩ := HCL.out _ HNOW.out) | skip); (first | (obtain ⟨y0, y1⟩ := HKC.out _ HNOW.out) | skip); clear hb1; have HNC := hid hw; clear hw) | (go_at_call 15; refine (HSAME.out _ _ _ _ HNB.out HNC.out).mono ?_; rintro e w13 ⟨rfl, rfl⟩) | (go_at_call 39; refine (dsets_nil _).mono ?_; rintro e w14 ⟨rfl, rfl⟩))
            go_ret
            exact ⟨rfl, HBE.out.trans (HNOW.out.mono HBE.out.size)⟩
      · obtain ⟨x, hr⟩ : ∃ x, r = .star x := by cases r <;> first | exact ⟨_, rfl⟩ | (simp [Re.op] at hop)
        subst hr
        have hkm : k = 1 := HN.out
        obtain ⟨g1, o1, z, bz, rfl, d0, hz, -, haz, hg1⟩ := HRW.out.at_ (k := 0) (by omega)
        have hz : byR (97 + q) x = z := by simpa [Re.kids] using hz
        subst hz
        rw [Nat.add_zero] at d0
        have hs2 := byR_size (97 + q) x
        have hs5 : x.size < (Re.star x).size := kid_size (by simp [Re.kids])
        have hs9 : x.size * x.size ≤ 660 * 660 := Nat.mul_le_mul (by omega) (by omega)
        have HTS : Hid (∀ W, Below wr.heap.size wr W → Calls Tryd.prog 17 #[.slice (some ⟨W.heap.size, 0, none⟩) 2 2] (W.alloc (.cells #[ptr bz, ptr bx] 27)) (RetRe W X0 (thenL [byR (97 + q) x, .star x]))) := fun W hW =>
          then_two _ _ X0 W bz bx (haz.under hW) (HRX.out.under hW) X0X (by omega)
        have HKC : Hid (∀ W, Below wr.heap.size wr W → W.cell? ⟨g1, o1, none⟩ = some (ptr bz) ∧ 0 = 0) := fun W hW => ⟨(hW.cell (p := ⟨g1, o1, none⟩) hg1).trans d0, rfl⟩
        obtain ⟨y0, y1⟩ := HKC.out wr HNOW.out
        have hd := HDD.out.trans (byR_star _ _)
        simp only [Re.op] at HCL x0
        have i0 : (0 : Int) < (k : Int) := by omega
        have i6 : 0 < k := by omega
        clear hop ho hrk hsr hxs hgd HMS HN d0 haz hs2 hs5 hs9 hkm
        subst hd
        unfold ptr at *
        go_wp2_with (first | (go_at_call 17; (with_reducible refine (HTS.out _ HNOW.out).mono ?_); rintro e w27 ⟨b27, rfl, hw, hb1⟩; clear HWT; (first | (have hb1 := undrew hb1) | skip); have HNOW := hid (HNOW.out.trans (hb1.mono HNOW.out.size)); (first | (have HWT := hid (HWT.out.under hb1)) | skip); (first | (have HRS := hid (HRS.out.under hb1)) | skip); (first | (have HRB := hid (HRB.out.under hb1)) | skip); (first | (have HNB := hid (HNB.out.under hb1)) | skip); (first | (have HSA := hid (HSA.out.below hb1)) | skip); (first | (obtain ⟨x0, x1, x2, x3, x4, x5⟩ := HCL.out _ HNOW.out) | skip); (first | (obtain ⟨y0, y1⟩ := HKC.out _ HNOW.out) | skip); clear hb1; have HWT := hid hw; clear hw) | (go_at_call 38; refine (HSE.out _ HNOW.out).mono ?_; rintro e w7 ⟨va, rfl, h7, hb1⟩; (first | (have hb1 := undrew hb1) | skip); have HNOW := hid (HNOW.out.trans (hb1.mono HNOW.out.size)); (first | (have HWT := hid (HWT.out.under hb1)) | skip); (first | (have HRS := hid (HRS.out.under hb1)) | skip); (first | (have HRB := hid (HRB.out.under hb1)) | skip); (first | (have HNB := hid (HNB.out.under hb1)) | skip); (first | (have HSA := hid (HSA.out.below hb1)) | skip); (first | (obtain ⟨x0, x1, x2, x3, x4, x5⟩ := HCL.out _ HNOW.out) | skip); (first | (obtain ⟨y0, y1⟩ := HKC.out _ HNOW.out) | skip); clear hb1; obtain ⟨Aa, ca, hva⟩ := h7.form; subst hva; have HSA := hid h7.rd.2.2; clear h7) | (go_at_call 39; refine (HDS.out _ HNOW.out).mono ?_; rintro e w8 ⟨vb, rfl, h8, hb1⟩; (first | (have hb1 := undrew hb1) | skip); have HNOW := hid (HNOW.out.trans (hb1.mono HNOW.out.size)); (first | (have HWT := hid (HWT.out.under hb1)) | skip); (first | (have HRS := hid (HRS.out.under hb1)) | skip); (first | (have HRB := hid (HRB.out.under hb1)) | skip); (first | (have HNB := hid (HNB.out.under hb1)) | skip); (first | (have HSA := hid (HSA.out.below hb1)) | skip); (first | (obtain ⟨x0, x1, x2, x3, x4, x5⟩ := HCL.out _ HNOW.out) | skip); (first | (obtain ⟨y0, y1⟩ := HKC.out _ HNOW.out) | skip); clear hb1; obtain ⟨Ab, cb, hvb⟩ := h8.form; subst hvb; have HSB := hid h8.rd.2.2; clear h8))
        go_loopw [108] (fun i wq => ∃ (k' : Nat), k' ≤ S.length ∧ i = .int .i64 k' ∧ Hid (Below w8.heap.size w8 wq)) (fun i _ => S.length - (intOf i).toNat)
        case atStart => exact ⟨0, Nat.zero_le _, rfl, Below.refl _ _⟩
        case round =>
          obtain ⟨k', hk', rfl, hbq⟩ := hrel
          by_cases hlt' : k' < S.length
          · obtain ⟨g1, o1, s1, rfl, hs1, hg1, a0, a1, a2, a3⟩ := HSA.out.at_ (k := k') hlt'
            obtain ⟨g2, o2, s2, rfl, hs2, hg2, b0, b1, b2, b3⟩ := HSB.out.at_ (k := k') hlt'
            rw [hs1] at hs2
            have hs2 : s1 = s2 := by simpa using hs2
            subst hs2
            have ha := fun i => hbq.out.cell (p := ⟨g1, i, none⟩) hg1
            have hb := fun i => hbq.out.cell (p := ⟨g2, i, none⟩) hg2
            have a0 := (ha _).trans a0; have a1 := (ha _).trans a1; have a2 := (ha _).trans a2; have a3 := (ha _).trans a3
            have b0 := (hb _).trans b0; have b1 := (hb _).trans b1; have b2 := (hb _).trans b2; have b3 := (hb _).trans b3
            have hqq : ∀ W, (binOp .neq 42 (.agg #[.int .u64 s1.a.toNat, .int .u64 s1.b.toNat, .int .u64 s1.c.toNat, .int .u64 s1.d.toNat]) (.agg #[.int .u64 s1.a.toNat, .int .u64 s1.b.toNat, .int .u64 s1.c.toNat, .int .u64 s1.d.toNat])).run Tryd.prog W = .ok (.bool false) W := fun W => (run_neq_set s1 s1 W).trans (by rw [decide_eq_true rfl]; rfl)
            have hmm : ∀ (op : BinOp) (x y : Operand) (xs ys : Array Value) (W : World), (eqGuard op 42 x y (.agg xs) (.agg ys)).run Tryd.prog W = .ok () W := fun op x y xs ys W => run_eqGuard_agg W op _ x y xs ys (by kernel_rfl)
            clear hs1 ha hb
            go_wp2_with fail
            go_quiet (fail)
            go_wp2_with fail
            go_roundw
            case rel => exact ⟨k' + 1, by omega, by go_num, hbq.out.trans (below_drewN _ _ _)⟩
            case measure => simp [intOf]; omega
          · have HNOW := hid (HNOW.out.trans (hbq.out.mono HNOW.out.size))
            have HWT := hid (HWT.out.under hbq.out)
            clear HSA HSB
            go_wp2_with (first | (go_at_call 33; (with_reducible refine (HBY.out _ HNOW.out).mono ?_); rintro e w9 ⟨b9, rfl, hw, hb1⟩; (first | (have hb1 := undrew hb1) | skip); have HNOW := hid (HNOW.out.trans (hb1.mono HNOW.out.size)); (first | (have HWT := hid (HWT.out.under hb1)) | skip); (first | (have HRS := hid (HRS.out.under hb1)) | skip); (first | (have HRB := hid (HRB.out.under hb1)) | skip); (first | (have HNB := hid (HNB.out.under hb1)) | skip); (first | (have HSA := hid (HSA.out.below hb1)) | skip); (first | (obtain ⟨x0, x1, x2, x3, x4, x5⟩ := HCL.out _ HNOW.out) | skip); (first | (obtain ⟨y0, y1⟩ := HKC.out _ HNOW.out) | skip); clear hb1; have HRB := hid hw; clear hw HBY) | (go_at_call 15; refine (HSAME.out _ _ _ _ HRB.out HWT.out).mono ?_; rintro e w10 ⟨rfl, rfl⟩; clear HRB) | (go_at_call 33; (with_reducible refine (HBN.out _).mono ?_); rintro e w11 ⟨b11, rfl, hw, hb1⟩; (first | (have hb1 := undrew hb1) | skip); have HNOW := hid (HNOW.out.trans (hb1.mono HNOW.out.size)); (first | (have HWT := hid (HWT.out.under hb1)) | skip); (first | (have HRS := hid (HRS.out.under hb1)) | skip); (first | (have HRB := hid (HRB.out.under hb1)) | skip); (first | (have HNB := hid (HNB.out.under hb1)) | skip); (first | (have HSA := hid (HSA.out.below hb1)) | skip); (first | (obtain ⟨x0, x1, x2, x3, x4, x5⟩ := HCL.out _ HNOW.out) | skip); (first | (obtain ⟨y0, y1⟩ := HKC.out _ HNOW.out) | skip); clear hb1; have HNB := hid hw; clear hw) | (go_at_call 35; refine (HNO.out _).mono ?_; rintro e w12 ⟨b12, rfl, hw, hb1⟩; (first | (have hb1 := undrew hb1) | skip); have HNOW := hid (HNOW.out.trans (hb1.mono HNOW.out.size)); (first | (have HWT := hid (HWT.out.under hb1)) | skip); (first | (have HRS := hid (HRS.out.under hb1)) | skip); (first | (have HRB := hid (HRB.out.under hb1)) | skip); (first | (have HNB := hid (HNB.out.under hb1)) | skip); (first | (have HSA := hid (HSA.out.below hb1)) | skip); (first | (obtain ⟨x0, x1, x2, x3, x4, x5⟩ := HCL.out _ HNOW.out) | skip); (first | (obtain ⟨y0, y1⟩ := HKC.out _ HNOW.out) | skip); clear hb1; have HNC := hid hw; clear hw) | (go_at_call 15; refine (HSAME.out _ _ _ _ HNB.out HNC.out).mono ?_; rintro e w13 ⟨rfl, rfl⟩) | (go_at_call 39; refine (dsets_nil _).mono ?_; rintro e w14 ⟨rfl, rfl⟩))
            go_ret
            exact ⟨rfl, HBE.out.trans (HNOW.out.mono HBE.out.size)⟩
      · skip
        have HWI : Hid (∀ W, Below wr.heap.size wr W → Calls Tryd.prog 25 #[ptr bx, .slice A1 k c1] W (RetRe W X0 D)) := fun W hW => by
          have hsz := sizes_by (97 + q) r.kids fun j _ => byR_size (97 + q) j
          have hsq : Re.sizes r.kids * Re.sizes r.kids ≤ 660 * 660 := Nat.mul_le_mul (by omega) (by omega)
          have := with_any r bx A1 k c1 (r.kids.map (byR (97 + q))) cs X0 W (HRX.out.under hW) (HRW.out.below hW) X0X (by omega)
          rw [withR_by (97 + q) (by omega), ← HDD.out] at this
          exact this
        rw [hop] at HCL x0
        clear hop ho hrk hsr hxs hgd HMS HN HDD
        unfold ptr at *
        go_wp2_with (first | (go_at_call 25; (with_reducible refine (HWI.out _ HNOW.out).mono ?_); rintro e w28 ⟨b28, rfl, hw, hb1⟩; clear HWT; (first | (have hb1 := undrew hb1) | skip); have HNOW := hid (HNOW.out.trans (hb1.mono HNOW.out.size)); (first | (have HWT := hid (HWT.out.under hb1)) | skip); (first | (have HRS := hid (HRS.out.under hb1)) | skip); (first | (have HRB := hid (HRB.out.under hb1)) | skip); (first | (have HNB := hid (HNB.out.under hb1)) | skip); (first | (have HSA := hid (HSA.out.below hb1)) | skip); (first | (obtain ⟨x0, x1, x2, x3, x4, x5⟩ := HCL.out _ HNOW.out) | skip); (first | (obtain ⟨y0, y1⟩ := HKC.out _ HNOW.out) | skip); clear hb1; have HWT := hid hw; clear hw) | (go_at_call 38; refine (HSE.out _ HNOW.out).mono ?_; rintro e w7 ⟨va, rfl, h7, hb1⟩; (first | (have hb1 := undrew hb1) | skip); have HNOW := hid (HNOW.out.trans (hb1.mono HNOW.out.size)); (first | (have HWT := hid (HWT.out.under hb1)) | skip); (first | (have HRS := hid (HRS.out.under hb1)) | skip); (first | (have HRB := hid (HRB.out.under hb1)) | skip); (first | (have HNB := hid (HNB.out.under hb1)) | skip); (first | (have HSA := hid (HSA.out.below hb1)) | skip); (first | (obtain ⟨x0, x1, x2, x3, x4, x5⟩ := HCL.out _ HNOW.out) | skip); (first | (obtain ⟨y0, y1⟩ := HKC.out _ HNOW.out) | skip); clear hb1; obtain ⟨Aa, ca, hva⟩ := h7.form; subst hva; have HSA := hid h7.rd.2.2; clear h7) | (go_at_call 39; refine (HDS.out _ HNOW.out).mono ?_; rintro e w8 ⟨vb, rfl, h8, hb1⟩; (first | (have hb1 := undrew hb1) | skip); have HNOW := hid (HNOW.out.trans (hb1.mono HNOW.out.size)); (first | (have HWT := hid (HWT.out.under hb1)) | skip); (first | (have HRS := hid (HRS.out.under hb1)) | skip); (first | (have HRB := hid (HRB.out.under hb1)) | skip); (first | (have HNB := hid (HNB.out.under hb1)) | skip); (first | (have HSA := hid (HSA.out.below hb1)) | skip); (first | (obtain ⟨x0, x1, x2, x3, x4, x5⟩ := HCL.out _ HNOW.out) | skip); (first | (obtain ⟨y0, y1⟩ := HKC.out _ HNOW.out) | skip); clear hb1; obtain ⟨Ab, cb, hvb⟩ := h8.form; subst hvb; have HSB := hid h8.rd.2.2; clear h8))
        go_loopw [108] (fun i wq => ∃ (k' : Nat), k' ≤ S.length ∧ i = .int .i64 k' ∧ Hid (Below w8.heap.size w8 wq)) (fun i _ => S.length - (intOf i).toNat)
        case atStart => exact ⟨0, Nat.zero_le _, rfl, Below.refl _ _⟩
        case round =>
          obtain ⟨k', hk', rfl, hbq⟩ := hrel
          by_cases hlt' : k' < S.length
          · obtain ⟨g1, o1, s1, rfl, hs1, hg1, a0, a1, a2, a3⟩ := HSA.out.at_ (k := k') hlt'
            obtain ⟨g2, o2, s2, rfl, hs2, hg2, b0, b1, b2, b3⟩ := HSB.out.at_ (k := k') hlt'
            rw [hs1] at hs2
            have hs2 : s1 = s2 := by simpa using hs2
            subst hs2
            have ha := fun i => hbq.out.cell (p := ⟨g1, i, none⟩) hg1
            have hb := fun i => hbq.out.cell (p := ⟨g2, i, none⟩) hg2
            have a0 := (ha _).trans a0; have a1 := (ha _).trans a1; have a2 := (ha _).trans a2; have a3 := (ha _).trans a3
            have b0 := (hb _).trans b0; have b1 := (hb _).trans b1; have b2 := (hb _).trans b2; have b3 := (hb _).trans b3
            have hqq : ∀ W, (binOp .neq 42 (.agg #[.int .u64 s1.a.toNat, .int .u64 s1.b.toNat, .int .u64 s1.c.toNat, .int .u64 s1.d.toNat]) (.agg #[.int .u64 s1.a.toNat, .int .u64 s1.b.toNat, .int .u64 s1.c.toNat, .int .u64 s1.d.toNat])).run Tryd.prog W = .ok (.bool false) W := fun W => (run_neq_set s1 s1 W).trans (by rw [decide_eq_true rfl]; rfl)
            have hmm : ∀ (op : BinOp) (x y : Operand) (xs ys : Array Value) (W : World), (eqGuard op 42 x y (.agg xs) (.agg ys)).run Tryd.prog W = .ok () W := fun op x y xs ys W => run_eqGuard_agg W op _ x y xs ys (by kernel_rfl)
            clear hs1 ha hb
            go_wp2_with fail
            go_quiet (fail)
            go_wp2_with fail
            go_roundw
            case rel => exact ⟨k' + 1, by omega, by go_num, hbq.out.trans (below_drewN _ _ _)⟩
            case measure => simp [intOf]; omega
          · have HNOW := hid (HNOW.out.trans (hbq.out.mono HNOW.out.size))
            have HWT := hid (HWT.out.under hbq.out)
            clear HSA HSB
            go_wp2_with (first | (go_at_call 33; (with_reducible refine (HBY.out _ HNOW.out).mono ?_); rintro e w9 ⟨b9, rfl, hw, hb1⟩; (first | (have hb1 := undrew hb1) | skip); have HNOW := hid (HNOW.out.trans (hb1.mono HNOW.out.size)); (first | (have HWT := hid (HWT.out.under hb1)) | skip); (first | (have HRS := hid (HRS.out.under hb1)) | skip); (first | (have HRB := hid (HRB.out.under hb1)) | skip); (first | (have HNB := hid (HNB.out.under hb1)) | skip); (first | (have HSA := hid (HSA.out.below hb1)) | skip); (first | (obtain ⟨x0, x1, x2, x3, x4, x5⟩ := HCL.out _ HNOW.out) | skip); (first | (obtain ⟨y0, y1⟩ := HKC.out _ HNOW.out) | skip); clear hb1; have HRB := hid hw; clear hw HBY) | (go_at_call 15; refine (HSAME.out _ _ _ _ HRB.out HWT.out).mono ?_; rintro e w10 ⟨rfl, rfl⟩; clear HRB) | (go_at_call 33; (with_reducible refine (HBN.out _).mono ?_); rintro e w11 ⟨b11, rfl, hw, hb1⟩; (first | (have hb1 := undrew hb1) | skip); have HNOW := hid (HNOW.out.trans (hb1.mono HNOW.out.size)); (first | (have HWT := hid (HWT.out.under hb1)) | skip); (first | (have HRS := hid (HRS.out.under hb1)) | skip); (first | (have HRB := hid (HRB.out.under hb1)) | skip); (first | (have HNB := hid (HNB.out.under hb1)) | skip); (first | (have HSA := hid (HSA.out.below hb1)) | skip); (first | (obtain ⟨x0, x1, x2, x3, x4, x5⟩ := HCL.out _ HNOW.out) | skip); (first | (obtain ⟨y0, y1⟩ := HKC.out _ HNOW.out) | skip); clear hb1; have HNB := hid hw; clear hw) | (go_at_call 35; refine (HNO.out _).mono ?_; rintro e w12 ⟨b12, rfl, hw, hb1⟩; (first | (have hb1 := undrew hb1) | skip); have HNOW := hid (HNOW.out.trans (hb1.mono HNOW.out.size)); (first | (have HWT := hid (HWT.out.under hb1)) | skip); (first | (have HRS := hid (HRS.out.under hb1)) | skip); (first | (have HRB := hid (HRB.out.under hb1)) | skip); (first | (have HNB := hid (HNB.out.under hb1)) | skip); (first | (have HSA := hid (HSA.out.below hb1)) | skip); (first | (obtain ⟨x0, x1, x2, x3, x4, x5⟩ := HCL.out _ HNOW.out) | skip); (first | (obtain ⟨y0, y1⟩ := HKC.out _ HNOW.out) | skip); clear hb1; have HNC := hid hw; clear hw) | (go_at_call 15; refine (HSAME.out _ _ _ _ HNB.out HNC.out).mono ?_; rintro e w13 ⟨rfl, rfl⟩) | (go_at_call 39; refine (dsets_nil _).mono ?_; rintro e w14 ⟨rfl, rfl⟩))
            go_ret
            exact ⟨rfl, HBE.out.trans (HNOW.out.mono HBE.out.size)⟩
      · skip
        have HWI : Hid (∀ W, Below wr.heap.size wr W → Calls Tryd.prog 25 #[ptr bx, .slice A1 k c1] W (RetRe W X0 D)) := fun W hW => by
          have hsz := sizes_by (97 + q) r.kids fun j _ => byR_size (97 + q) j
          have hsq : Re.sizes r.kids * Re.sizes r.kids ≤ 660 * 660 := Nat.mul_le_mul (by omega) (by omega)
          have := with_any r bx A1 k c1 (r.kids.map (byR (97 + q))) cs X0 W (HRX.out.under hW) (HRW.out.below hW) X0X (by omega)
          rw [withR_by (97 + q) (by omega), ← HDD.out] at this
          exact this
        rw [hop] at HCL x0
        clear hop ho hrk hsr hxs hgd HMS HN HDD
        unfold ptr at *
        go_wp2_with (first | (go_at_call 25; (with_reducible refine (HWI.out _ HNOW.out).mono ?_); rintro e w28 ⟨b28, rfl, hw, hb1⟩; clear HWT; (first | (have hb1 := undrew hb1) | skip); have HNOW := hid (HNOW.out.trans (hb1.mono HNOW.out.size)); (first | (have HWT := hid (HWT.out.under hb1)) | skip); (first | (have HRS := hid (HRS.out.under hb1)) | skip); (first | (have HRB := hid (HRB.out.under hb1)) | skip); (first | (have HNB := hid (HNB.out.under hb1)) | skip); (first | (have HSA := hid (HSA.out.below hb1)) | skip); (first | (obtain ⟨x0, x1, x2, x3, x4, x5⟩ := HCL.out _ HNOW.out) | skip); (first | (obtain ⟨y0, y1⟩ := HKC.out _ HNOW.out) | skip); clear hb1; have HWT := hid hw; clear hw) | (go_at_call 38; refine (HSE.out _ HNOW.out).mono ?_; rintro e w7 ⟨va, rfl, h7, hb1⟩; (first | (have hb1 := undrew hb1) | skip); have HNOW := hid (HNOW.out.trans (hb1.mono HNOW.out.size)); (first | (have HWT := hid (HWT.out.under hb1)) | skip); (first | (have HRS := hid (HRS.out.under hb1)) | skip); (first | (have HRB := hid (HRB.out.under hb1)) | skip); (first | (have HNB := hid (HNB.out.under hb1)) | skip); (first | (have HSA := hid (HSA.out.below hb1)) | skip); (first | (obtain ⟨x0, x1, x2, x3, x4, x5⟩ := HCL.out _ HNOW.out) | skip); (first | (obtain ⟨y0, y1⟩ := HKC.out _ HNOW.out) | skip); clear hb1; obtain ⟨Aa, ca, hva⟩ := h7.form; subst hva; have HSA := hid h7.rd.2.2; clear h7) | (go_at_call 39; refine (HDS.out _ HNOW.out).mono ?_; rintro e w8 ⟨vb, rfl, h8, hb1⟩; (first | (have hb1 := undrew hb1) | skip); have HNOW := hid (HNOW.out.trans (hb1.mono HNOW.out.size)); (first | (have HWT := hid (HWT.out.under hb1)) | skip); (first | (have HRS := hid (HRS.out.under hb1)) | skip); (first | (have HRB := hid (HRB.out.under hb1)) | skip); (first | (have HNB := hid (HNB.out.under hb1)) | skip); (first | (have HSA := hid (HSA.out.below hb1)) | skip); (first | (obtain ⟨x0, x1, x2, x3, x4, x5⟩ := HCL.out _ HNOW.out) | skip); (first | (obtain ⟨y0, y1⟩ := HKC.out _ HNOW.out) | skip); clear hb1; obtain ⟨Ab, cb, hvb⟩ := h8.form; subst hvb; have HSB := hid h8.rd.2.2; clear h8))
        go_loopw [108] (fun i wq => ∃ (k' : Nat), k' ≤ S.length ∧ i = .int .i64 k' ∧ Hid (Below w8.heap.size w8 wq)) (fun i _ => S.length - (intOf i).toNat)
        case atStart => exact ⟨0, Nat.zero_le _, rfl, Below.refl _ _⟩
        case round =>
          obtain ⟨k', hk', rfl, hbq⟩ := hrel
          by_cases hlt' : k' < S.length
          · obtain ⟨g1, o1, s1, rfl, hs1, hg1, a0, a1, a2, a3⟩ := HSA.out.at_ (k := k') hlt'
            obtain ⟨g2, o2, s2, rfl, hs2, hg2, b0, b1, b2, b3⟩ := HSB.out.at_ (k := k') hlt'
            rw [hs1] at hs2
            have hs2 : s1 = s2 := by simpa using hs2
            subst hs2
            have ha := fun i => hbq.out.cell (p := ⟨g1, i, none⟩) hg1
            have hb := fun i => hbq.out.cell (p := ⟨g2, i, none⟩) hg2
            have a0 := (ha _).trans a0; have a1 := (ha _).trans a1; have a2 := (ha _).trans a2; have a3 := (ha _).trans a3
            have b0 := (hb _).trans b0; have b1 := (hb _).trans b1; have b2 := (hb _).trans b2; have b3 := (hb _).trans b3
            have hqq : ∀ W, (binOp .neq 42 (.agg #[.int .u64 s1.a.toNat, .int .u64 s1.b.toNat, .int .u64 s1.c.toNat, .int .u64 s1.d.toNat]) (.agg #[.int .u64 s1.a.toNat, .int .u64 s1.b.toNat, .int .u64 s1.c.toNat, .int .u64 s1.d.toNat])).run Tryd.prog W = .ok (.bool false) W := fun W => (run_neq_set s1 s1 W).trans (by rw [decide_eq_true rfl]; rfl)
            have hmm : ∀ (op : BinOp) (x y : Operand) (xs ys : Array Value) (W : World), (eqGuard op 42 x y (.agg xs) (.agg ys)).run Tryd.prog W = .ok () W := fun op x y xs ys W => run_eqGuard_agg W op _ x y xs ys (by kernel_rfl)
            clear hs1 ha hb
            go_wp2_with fail
            go_quiet (fail)
            go_wp2_with fail
            go_roundw
            case rel => exact ⟨k' + 1, by omega, by go_num, hbq.out.trans (below_drewN _ _ _)⟩
            case measure => simp [intOf]; omega
          · have HNOW := hid (HNOW.out.trans (hbq.out.mono HNOW.out.size))
            have HWT := hid (HWT.out.under hbq.out)
            clear HSA HSB
            go_wp2_with (first | (go_at_call 33; (with_reducible refine (HBY.out _ HNOW.out).mono ?_); rintro e w9 ⟨b9, rfl, hw, hb1⟩; (first | (have hb1 := undrew hb1) | skip); have HNOW := hid (HNOW.out.trans (hb1.mono HNOW.out.size)); (first | (have HWT := hid (HWT.out.under hb1)) | skip); (first | (have HRS := hid (HRS.out.under hb1)) | skip); (first | (have HRB := hid (HRB.out.under hb1)) | skip); (first | (have HNB := hid (HNB.out.under hb1)) | skip); (first | (have HSA := hid (HSA.out.below hb1)) | skip); (first | (obtain ⟨x0, x1, x2, x3, x4, x5⟩ := HCL.out _ HNOW.out) | skip); (first | (obtain ⟨y0, y1⟩ := HKC.out _ HNOW.out) | skip); clear hb1; have HRB := hid hw; clear hw HBY) | (go_at_call 15; refine (HSAME.out _ _ _ _ HRB.out HWT.out).mono ?_; rintro e w10 ⟨rfl, rfl⟩; clear HRB) | (go_at_call 33; (with_reducible refine (HBN.out _).mono ?_); rintro e w11 ⟨b11, rfl, hw, hb1⟩; (first | (have hb1 := undrew hb1) | skip); have HNOW := hid (HNOW.out.trans (hb1.mono HNOW.out.size)); (first | (have HWT := hid (HWT.out.under hb1)) | skip); (first | (have HRS := hid (HRS.out.under hb1)) | skip); (first | (have HRB := hid (HRB.out.under hb1)) | skip); (first | (have HNB := hid (HNB.out.under hb1)) | skip); (first | (have HSA := hid (HSA.out.below hb1)) | skip); (first | (obtain ⟨x0, x1, x2, x3, x4, x5⟩ := HCL.out _ HNOW.out) | skip); (first | (obtain ⟨y0, y1⟩ := HKC.out _ HNOW.out) | skip); clear hb1; have HNB := hid hw; clear hw) | (go_at_call 35; refine (HNO.out _).mono ?_; rintro e w12 ⟨b12, rfl, hw, hb1⟩; (first | (have hb1 := undrew hb1) | skip); have HNOW := hid (HNOW.out.trans (hb1.mono HNOW.out.size)); (first | (have HWT := hid (HWT.out.under hb1)) | skip); (first | (have HRS := hid (HRS.out.under hb1)) | skip); (first | (have HRB := hid (HRB.out.under hb1)) | skip); (first | (have HNB := hid (HNB.out.under hb1)) | skip); (first | (have HSA := hid (HSA.out.below hb1)) | skip); (first | (obtain ⟨x0, x1, x2, x3, x4, x5⟩ := HCL.out _ HNOW.out) | skip); (first | (obtain ⟨y0, y1⟩ := HKC.out _ HNOW.out) | skip); clear hb1; have HNC := hid hw; clear hw) | (go_at_call 15; refine (HSAME.out _ _ _ _ HNB.out HNC.out).mono ?_; rintro e w13 ⟨rfl, rfl⟩) | (go_at_call 39; refine (dsets_nil _).mono ?_; rintro e w14 ⟨rfl, rfl⟩))
            go_ret
            exact ⟨rfl, HBE.out.trans (HNOW.out.mono HBE.out.size)⟩
end Go.Proofs.YtihloigpdcinkaaDoor
