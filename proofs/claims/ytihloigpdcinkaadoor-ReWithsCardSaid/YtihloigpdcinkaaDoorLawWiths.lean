/- The walk of ReWiths. -/
import Derived.Test.YtihloigpdcinkaaDoorLawKeys
import Derived.Test.YtihloigpdcinkaaDoorGood4
namespace Go.Proofs.YtihloigpdcinkaaDoor
open Go.RowKit

theorem withR_self {r : Re} (h : Good r) : withR r r.kids = r := by
  unfold withR
  cases r with
  | cat l => simp [Re.op, Re.kids, thenL_self h]
  | or l => simp [Re.op, Re.kids, anyL_self h]
  | and l => simp [Re.op, Re.kids, bothL_self h]
  | star x => simp [Re.op, Re.kids, manyR_self h]
  | minus x y => simp [Re.op, Re.kids, butR_self h]
  | _ => simp [Re.op]
theorem op_lt (r : Re) : r.op < 8 := by cases r <;> simp [Re.op]
theorem kids_sizes (r : Re) : Re.sizes r.kids ≤ r.size := by rw [Re.size_kids]; omega

set_option maxRecDepth 100000 in
set_option maxHeartbeats 4000000 in
theorem reWiths_any (s : Shp) (A : Option Addr) (c : Nat) (ks : List Shp) (B : Option Addr) (d : Nat) (w : World) (hs : ShAt w s (A, c)) (hks : ShKids w B ks) (hkl : ks.length ≤ 9223372036854775807) :
    Calls Tryd.prog 5 #[s.val A c, .slice B ks.length d] w fun e w' => e = .returned (.bool true) ∧ Below w.heap.size w w' := by
  have HHE := hid (fun W => head3_any W)
  have HFE := hid (fun W (hW : Below w.heap.size w W) => few_any s A c W (hs.under hW))
  have HMS : Hid (s.few = true → ∀ W, Below w.heap.size w W → Calls Tryd.prog 13 #[s.val A c] W (RetRe W X0 s.make)) := fun hf W hW => make_any s A c X0 W (hs.under hW) (X0_lt W) (Shp.few_small hf).2 (Nat.le_trans (Shp.few_small hf).1 (by decide))
  have HSX : Hid (s.few = true → s.make.size ≤ 660) := fun h => few_size h
  obtain ⟨x, hx⟩ : ∃ x, x = s.make := ⟨_, rfl⟩
  have HGX : Hid (Good x) := by rw [hx]; exact Shp.make_good s
  rw [← hx] at HMS HSX
  have HSA : Hid (∀ W a b, ReAt W X0 x a → ReAt W X0 x b → Calls Tryd.prog 15 #[ptr a, ptr b] W fun e w' => e = .returned (.bool true) ∧ W = w') := fun W a b ha hb => (same_any _ _ X0 X0 a b W ha hb).mono fun e w' h => ⟨by rw [h.1, beq_self_eq_true], h.2⟩
  have HWI : Hid (x.size ≤ 660 → ∀ W b Ak ck bk, ReAt W X0 x b → ReRow W X0 Ak x.kids.length x.kids bk → Calls Tryd.prog 25 #[ptr b, .slice Ak x.kids.length ck] W (RetRe W X0 x)) := fun hz W b Ak ck bk ha hr => by
    have := with_any x b Ak x.kids.length ck x.kids bk X0 W ha hr (X0_lt W) (Nat.le_trans (kids_sizes x) (Nat.le_trans hz (by decide)))
    rw [withR_self HGX.out] at this
    exact this
  obtain ⟨fs, hfs⟩ : ∃ b, b = s.few := ⟨_, rfl⟩
  rw [← hfs] at HFE HMS HSX
  have HKS := hid hks
  obtain ⟨n, hn⟩ : ∃ n, n = ks.length := ⟨_, rfl⟩
  have HN := hid hn
  rw [← hn] at hkl ⊢
  clear hs hx hfs hks hn
  unfold ptr Shp.val at *
  go_enter Tryd.func5, Tryd.ntmps5
  go_wp2_with fail
  obtain ⟨w2, hw2⟩ : ∃ w2 : World, w2 = w.alloc (.cells #[Value.int IntKind.i64 s.op, Value.int IntKind.u8 ↑s.low, Value.int IntKind.u8 ↑s.high, Value.string s.text, Value.slice A s.kids.length c] 26) := ⟨_, rfl⟩
  rw [← hw2]
  have HB2 : Hid (Below w.heap.size w w2) := by rw [hw2]; exact (Below.refl _ _).alloc (Nat.le_refl _) _
  have hk1 : w2.heap[w.heap.size]? = some (.cells #[Value.int IntKind.i64 s.op, Value.int IntKind.u8 ↑s.low, Value.int IntKind.u8 ↑s.high, Value.string s.text, Value.slice A s.kids.length c] 26) := by rw [hw2]; exact blk_new w _
  have HBX : Hid (∀ W, Below w2.heap.size w2 W → W.cell? ⟨w.heap.size, 0, none⟩ = some (.int .i64 s.op) ∧ W.cell? ⟨w.heap.size, 1, none⟩ = some (.int .u8 s.low) ∧ W.cell? ⟨w.heap.size, 2, none⟩ = some (.int .u8 s.high) ∧ W.cell? ⟨w.heap.size, 3, none⟩ = some (.string s.text) ∧ W.cell? ⟨w.heap.size, 4, none⟩ = some (.slice A s.kids.length c)) := fun W hW => by
    have h1 := blk_below hk1 hW
    exact ⟨(blk_cell h1 0).trans (by simp), (blk_cell h1 1).trans (by simp), (blk_cell h1 2).trans (by simp), (blk_cell h1 3).trans (by simp), (blk_cell h1 4).trans (by simp)⟩
  have HNOW : Hid (Below w2.heap.size w2 w2) := Below.refl _ _
  have HNW := HB2
  clear hw2 hk1
  cases fs
  · go_wp2_with (first | (go_at_call 11; refine (HHE.out _).mono ?_; rintro e w3 ⟨rfl, hb1⟩; have HNOW := hid (HNOW.out.trans (hb1.mono HNOW.out.size)); obtain ⟨x0, x1, x2, x3, x4⟩ := HBX.out _ HNOW.out; have HNW := hid (HB2.out.trans (HNOW.out.mono HB2.out.size)); (first | (have HRx := hid (HRx.out.under hb1)) | skip); clear hb1) | (go_at_call 12; refine (HFE.out _ HNW.out).mono ?_; rintro e w4 ⟨rfl, hb1⟩; have HNOW := hid (HNOW.out.trans (hb1.mono HNOW.out.size)); obtain ⟨x0, x1, x2, x3, x4⟩ := HBX.out _ HNOW.out; have HNW := hid (HB2.out.trans (HNOW.out.mono HB2.out.size)); (first | (have HRx := hid (HRx.out.under hb1)) | skip); clear hb1) | (go_at_call 13; refine (HMS.out _ HNW.out).mono ?_; rintro e w6 ⟨bx, rfl, hrx, hb1⟩; have HNOW := hid (HNOW.out.trans (hb1.mono HNOW.out.size)); obtain ⟨x0, x1, x2, x3, x4⟩ := HBX.out _ HNOW.out; have HNW := hid (HB2.out.trans (HNOW.out.mono HB2.out.size)); (first | (have HRx := hid (HRx.out.under hb1)) | skip); clear hb1; have HRx := hid hrx; obtain ⟨Ak, ck, bk, hxc, -, hkr⟩ := hrx.row; obtain ⟨z0, -, -, -, -, z5, -⟩ := cellsOf hxc; have HKR := hid hkr; clear hrx hxc hkr) | (go_at_call 25; refine (HWI.out _ _ _ _ _ HRx.out HKR.out).mono ?_; rintro e w7 ⟨bw, rfl, hrw, hb1⟩; have HNOW := hid (HNOW.out.trans (hb1.mono HNOW.out.size)); obtain ⟨x0, x1, x2, x3, x4⟩ := HBX.out _ HNOW.out; have HNW := hid (HB2.out.trans (HNOW.out.mono HB2.out.size)); (first | (have HRx := hid (HRx.out.under hb1)) | skip); clear hb1; have HRw := hid hrw; clear hrw) | (go_at_call 15; refine (HSA.out _ _ _ HRw.out HRx.out).mono ?_; rintro e w8 ⟨rfl, rfl⟩))
    go_ret
    exact ⟨rfl, HNW.out⟩
  · by_cases hn4 : 4 < n
    · go_wp2_with (first | (go_at_call 11; refine (HHE.out _).mono ?_; rintro e w3 ⟨rfl, hb1⟩; have HNOW := hid (HNOW.out.trans (hb1.mono HNOW.out.size)); obtain ⟨x0, x1, x2, x3, x4⟩ := HBX.out _ HNOW.out; have HNW := hid (HB2.out.trans (HNOW.out.mono HB2.out.size)); (first | (have HRx := hid (HRx.out.under hb1)) | skip); clear hb1) | (go_at_call 12; refine (HFE.out _ HNW.out).mono ?_; rintro e w4 ⟨rfl, hb1⟩; have HNOW := hid (HNOW.out.trans (hb1.mono HNOW.out.size)); obtain ⟨x0, x1, x2, x3, x4⟩ := HBX.out _ HNOW.out; have HNW := hid (HB2.out.trans (HNOW.out.mono HB2.out.size)); (first | (have HRx := hid (HRx.out.under hb1)) | skip); clear hb1) | (go_at_call 13; refine (HMS.out _ HNW.out).mono ?_; rintro e w6 ⟨bx, rfl, hrx, hb1⟩; have HNOW := hid (HNOW.out.trans (hb1.mono HNOW.out.size)); obtain ⟨x0, x1, x2, x3, x4⟩ := HBX.out _ HNOW.out; have HNW := hid (HB2.out.trans (HNOW.out.mono HB2.out.size)); (first | (have HRx := hid (HRx.out.under hb1)) | skip); clear hb1; have HRx := hid hrx; obtain ⟨Ak, ck, bk, hxc, -, hkr⟩ := hrx.row; obtain ⟨z0, -, -, -, -, z5, -⟩ := cellsOf hxc; have HKR := hid hkr; clear hrx hxc hkr) | (go_at_call 25; refine (HWI.out _ _ _ _ _ HRx.out HKR.out).mono ?_; rintro e w7 ⟨bw, rfl, hrw, hb1⟩; have HNOW := hid (HNOW.out.trans (hb1.mono HNOW.out.size)); obtain ⟨x0, x1, x2, x3, x4⟩ := HBX.out _ HNOW.out; have HNW := hid (HB2.out.trans (HNOW.out.mono HB2.out.size)); (first | (have HRx := hid (HRx.out.under hb1)) | skip); clear hb1; have HRw := hid hrw; clear hrw) | (go_at_call 15; refine (HSA.out _ _ _ HRw.out HRx.out).mono ?_; rintro e w8 ⟨rfl, rfl⟩))
      go_ret
      exact ⟨rfl, HNW.out⟩
    · replace HMS := hid (HMS.out rfl)
      replace HSX := hid (HSX.out rfl)
      replace HWI := hid (HWI.out HSX.out)
      go_wp2_with (first | (go_at_call 11; refine (HHE.out _).mono ?_; rintro e w3 ⟨rfl, hb1⟩; have HNOW := hid (HNOW.out.trans (hb1.mono HNOW.out.size)); obtain ⟨x0, x1, x2, x3, x4⟩ := HBX.out _ HNOW.out; have HNW := hid (HB2.out.trans (HNOW.out.mono HB2.out.size)); (first | (have HRx := hid (HRx.out.under hb1)) | skip); clear hb1) | (go_at_call 12; refine (HFE.out _ HNW.out).mono ?_; rintro e w4 ⟨rfl, hb1⟩; have HNOW := hid (HNOW.out.trans (hb1.mono HNOW.out.size)); obtain ⟨x0, x1, x2, x3, x4⟩ := HBX.out _ HNOW.out; have HNW := hid (HB2.out.trans (HNOW.out.mono HB2.out.size)); (first | (have HRx := hid (HRx.out.under hb1)) | skip); clear hb1) | (go_at_call 13; refine (HMS.out _ HNW.out).mono ?_; rintro e w6 ⟨bx, rfl, hrx, hb1⟩; have HNOW := hid (HNOW.out.trans (hb1.mono HNOW.out.size)); obtain ⟨x0, x1, x2, x3, x4⟩ := HBX.out _ HNOW.out; have HNW := hid (HB2.out.trans (HNOW.out.mono HB2.out.size)); (first | (have HRx := hid (HRx.out.under hb1)) | skip); clear hb1; have HRx := hid hrx; obtain ⟨Ak, ck, bk, hxc, -, hkr⟩ := hrx.row; obtain ⟨z0, -, -, -, -, z5, -⟩ := cellsOf hxc; have HKR := hid hkr; clear hrx hxc hkr) | (go_at_call 25; refine (HWI.out _ _ _ _ _ HRx.out HKR.out).mono ?_; rintro e w7 ⟨bw, rfl, hrw, hb1⟩; have HNOW := hid (HNOW.out.trans (hb1.mono HNOW.out.size)); obtain ⟨x0, x1, x2, x3, x4⟩ := HBX.out _ HNOW.out; have HNW := hid (HB2.out.trans (HNOW.out.mono HB2.out.size)); (first | (have HRx := hid (HRx.out.under hb1)) | skip); clear hb1; have HRw := hid hrw; clear hrw) | (go_at_call 15; refine (HSA.out _ _ _ HRw.out HRx.out).mono ?_; rintro e w8 ⟨rfl, rfl⟩))
      obtain ⟨rs, hrs⟩ : ∃ rs, rs = ks.map Shp.make := ⟨_, rfl⟩
      have HRS := hid hrs
      have hrl : rs.length = n := by rw [hrs, HN.out]; simp
      have HOWN0 : Hid (OwnP (w7.alloc (.cells #[] 27)) w7.heap.size (.slice (some ⟨w7.heap.size, 0, none⟩) 0 0) []) :=
        World.ownsRow_lit (base := w7.heap.size) (e := 27) (size := 1) w7 #[] 0 (Nat.le_refl _) (by decide) rfl
      clear hrs
      obtain ⟨ob, hob⟩ : ∃ ob, ob = x.op := ⟨_, rfl⟩
      have HOB := hid hob
      rw [← hob] at z0
      clear hob
      go_loopw [6, 34] (fun v i wr => ∃ (k : Nat) (cs : List Nat), k ≤ n ∧ i = .int .i64 k ∧ Hid (OwnP wr w7.heap.size v cs) ∧ Hid (Els wr (Xo X0 v) (rs.take k) cs) ∧ Hid (Below w7.heap.size w7 wr) ∧ Hid (Re.sizes (rs.take k) ≤ 660 * k)) (fun _ i _ => n - (intOf i).toNat)
      case atStart => exact ⟨0, [], Nat.zero_le _, rfl, HOWN0.out, Els.nil, (Below.refl _ _).alloc (Nat.le_refl _) _, Nat.le_refl _⟩
      case round =>
        obtain ⟨k, cs, hk, rfl, hown, hels, hbel, hszs⟩ := hrel
        have hszr : w7.heap.size ≤ wr.heap.size := hbel.out.size
        have hbw : Below w.heap.size w wr := HNW.out.trans (hbel.out.mono HNW.out.size)
        have HBW := hid hbw
        by_cases hlt : k < n
        · obtain ⟨g, o, y, D, cx, rfl, hy, hg, haty, k0, k1, k2, k3, k4⟩ := HKS.out.at_ (k := k) (by rw [← HN.out]; exact hlt)
          have hb := fun i => hbw.cell (p := ⟨g, i, none⟩) hg
          have c0 := (hb _).trans k0; have c1 := (hb _).trans k1; have c2 := (hb _).trans k2; have c3 := (hb _).trans k3; have c4 := (hb _).trans k4
          have HSN : Hid (rs.take (k + 1) = rs.take k ++ [y.make]) := by
            have hyr : rs[k]? = some y.make := by rw [HRS.out, List.getElem?_map, hy]; rfl
            obtain ⟨hl, e⟩ := List.getElem?_eq_some_iff.1 hyr
            show _ = _
            rw [List.take_succ_eq_append_getElem hl, e]
          have hxl : ∀ k, Xo X0 u6 k → k < wr.heap.size := fun k hk => by
            rcases hk with hk | hk
            · exact hk.elim
            · exact (hown.out.lt k hk).2
          have HFY : Hid (∀ W, Below wr.heap.size wr W → Calls Tryd.prog 12 #[y.val D cx] W fun e w' => e = .returned (.bool y.few) ∧ Below W.heap.size W w') := fun W hW => few_any y D cx W ((haty.under hbw).under hW)
          have HMY : Hid (y.few = true → ∀ W, Below wr.heap.size wr W → Calls Tryd.prog 13 #[y.val D cx] W (RetRe W (Xo X0 u6) y.make)) := fun hf W hW =>
            make_any y D cx (Xo X0 u6) W ((haty.under hbw).under hW) (fun k hk => Nat.lt_of_lt_of_le (hxl k hk) hW.size) (Shp.few_small hf).2 (Nat.le_trans (Shp.few_small hf).1 (by decide))
          have HSY : Hid (y.few = true → y.make.size ≤ 660) := fun h => few_size h
          have hbn : cs.length + [k].length ≤ 1099511627776 := by
            have := hels.out.1
            simp at this ⊢
            omega
          obtain ⟨ym, hym⟩ : ∃ ym, ym = y.make := ⟨_, rfl⟩
          obtain ⟨fy, hfy⟩ : ∃ fy, fy = y.few := ⟨_, rfl⟩
          rw [← hym] at HMY HSN HSY
          rw [← hfy] at HMY HFY HSY
          unfold Shp.val at HFY HMY
          clear k0 k1 k2 k3 k4 hb hy haty hxl hbw hym hfy
          cases fy
          · go_wp2_with (first | (go_at_call 12; refine (HFY.out _ (Below.alloc (Below.refl _ _) (Nat.le_refl _) _)).mono ?_; rintro e w3 ⟨rfl, hb3⟩; have HB3 := hid ((Below.alloc (Below.refl wr.heap.size wr) (Nat.le_refl _) _).trans (hb3.mono (by simp))); clear hb3))
            go_ret
            exact ⟨rfl, HBW.out.trans (HB3.out.mono HBW.out.size)⟩
          · replace HMY := hid (HMY.out rfl)
            replace HSY := hid (HSY.out rfl)
            have HCX : Hid (∀ W, Below (wr.heap.size + 1) (wr.alloc (.cells #[Value.int IntKind.i64 y.op, Value.int IntKind.u8 ↑y.low, Value.int IntKind.u8 ↑y.high, Value.string y.text, Value.slice D y.kids.length cx] 26)) W → W.cell? ⟨wr.heap.size, 0, none⟩ = some (.int .i64 y.op) ∧ W.cell? ⟨wr.heap.size, 1, none⟩ = some (.int .u8 y.low) ∧ W.cell? ⟨wr.heap.size, 2, none⟩ = some (.int .u8 y.high) ∧ W.cell? ⟨wr.heap.size, 3, none⟩ = some (.string y.text) ∧ W.cell? ⟨wr.heap.size, 4, none⟩ = some (.slice D y.kids.length cx)) := fun W hW => by
              have h1 := blk_below (blk_new wr (.cells #[Value.int IntKind.i64 y.op, Value.int IntKind.u8 ↑y.low, Value.int IntKind.u8 ↑y.high, Value.string y.text, Value.slice D y.kids.length cx] 26)) (w' := W) (by simpa using hW)
              exact ⟨(blk_cell h1 0).trans (by simp), (blk_cell h1 1).trans (by simp), (blk_cell h1 2).trans (by simp), (blk_cell h1 3).trans (by simp), (blk_cell h1 4).trans (by simp)⟩
            go_wp2_with (first | (go_at_call 12; refine (HFY.out _ (Below.alloc (Below.refl _ _) (Nat.le_refl _) _)).mono ?_; rintro e w3 ⟨rfl, hb3⟩; obtain ⟨v0, v1, v2, v3, v4⟩ := HCX.out _ (by simpa using hb3); have HB3 := hid ((Below.alloc (Below.refl wr.heap.size wr) (Nat.le_refl _) _).trans (hb3.mono (by simp))); clear hb3) | (go_at_call 13; refine (HMY.out _ HB3.out).mono ?_; rintro e w4 ⟨bn, rfl, h3, hb4⟩; have H3 := hid h3; have HB4 := hid (HB3.out.trans (hb4.mono HB3.out.size)); have hz4 : w7.heap.size ≤ w4.heap.size := Nat.le_trans hszr HB4.out.size; clear h3 hb4; have HO4 := hid (OwnP.kept hown.out HB4.out); have HE4 := hid (Els.below hels.out HB4.out); have HB14 := hid (hbel.out.trans (HB4.out.mono hszr))) | (at_builtin; refine wpList_app_ptr _ rfl (.tmp 41) (.tmp 44) rfl w7.heap.size _ cs rfl (HO4.out.alloc _) (some ⟨w4.heap.size, 0, none⟩) 1 1 [bn] rfl (Rd.one_new _ _ _) (fun h => by cases h) hbn (le_alloc hz4 _) ?_; intro v' w5 ho5 hg5 hat5; have HO5 := hid ho5; have HG5 := hid hg5; have HT5 := hid hat5; clear ho5 hg5 hat5))
            go_roundw
            case rel => exact ⟨k + 1, cs ++ [bn], by omega, by go_num, HO5.out, by show Els _ _ _ _; rw [HSN.out]; exact ((HE4.out.alloc _).append (Els.one H3.out |>.alloc _)).grown HG5.out HT5.out, below_app (HB14.out.alloc HB14.out.size _) (HO4.out.alloc _) HG5.out, by show _ ≤ _; rw [HSN.out, Re.sizes_append]; have h1 := hszs.out; have h2 := HSY.out; have h3 : Re.sizes [ym] = ym.size := rfl; rw [h3]; omega⟩
            case measure => simp [intOf]; omega
        · have hkn : k = n := by omega
          subst hkn
          have HT : Hid (rs.take k = rs) := List.take_of_length_le (by omega)
          have hown' := hown.out
          have hels' := hels.out
          have hszs' := hszs.out
          rw [HT.out] at hels' hszs'
          obtain ⟨A1, c1, hv⟩ := hown'.form
          have hcl : cs.length = k := by rw [← hels'.1]; exact hrl
          rw [hcl] at hv
          subst hv
          obtain ⟨hrw, -, -⟩ := hown'.row hels' (X0_lt _)
          have hxr : ReAt wr X0 x bx := HRx.out.under hbel.out
          have hRX := hid hxr
          have HSZ : Hid (Re.sizes rs ≤ 549755813888) := Nat.le_trans hszs' (by omega)
          have HW2 : Hid (∀ W, Below wr.heap.size wr W → Calls Tryd.prog 25 #[ptr bx, .slice A1 k c1] W (RetRe W X0 (withR x rs))) := fun W hW => with_any x bx A1 k c1 rs cs X0 W (hxr.under hW) (hrw.below hW) (X0_lt W) HSZ.out
          have HTH : Hid (∀ W, Below wr.heap.size wr W → Calls Tryd.prog 17 #[.slice A1 k c1] W (RetRe W X0 (thenL rs))) := fun W hW => then_any A1 k c1 rs cs X0 W (hrw.below hW) (X0_lt W) HSZ.out
          have HAN : Hid (∀ W, Below wr.heap.size wr W → Calls Tryd.prog 14 #[.slice A1 k c1] W (RetRe W X0 (anyL rs))) := fun W hW => any_any A1 k c1 rs cs X0 W (hrw.below hW) (X0_lt W) HSZ.out
          have HBO : Hid (∀ W, Below wr.heap.size wr W → Calls Tryd.prog 16 #[.slice A1 k c1] W (RetRe W X0 (bothL rs))) := fun W hW => both_any A1 k c1 rs cs X0 W (hrw.below hW) (X0_lt W) HSZ.out
          have HRC : Hid (∀ W, Below wr.heap.size wr W → W.cell? ⟨bx, 0, none⟩ = some (.int .i64 ob)) := fun W hW => by
            obtain ⟨_, _, _, hc, -, -⟩ := (hxr.under hW).row
            rw [HOB.out]
            exact (cellsOf hc).1
          have HSB : Hid (∀ W a b, ReAt W X0 (withR x rs) a → ReAt W X0 (withR x rs) b → Calls Tryd.prog 15 #[ptr a, ptr b] W fun e w' => e = .returned (.bool true) ∧ W = w') := fun W a b ha hb => (same_any _ _ X0 X0 a b W ha hb).mono fun e w' h => ⟨by rw [h.1, beq_self_eq_true], h.2⟩
          have HNOW : Hid (Below wr.heap.size wr wr) := Below.refl _ _
          have z0 := HRC.out _ HNOW.out
          have HRW := hid hrw
          have hob8 : ob < 8 := by rw [HOB.out]; exact op_lt x
          clear hown' hels' hszs' hxr hrw hlt hown hels
          unfold ptr at HW2 HSB
          have h8 : ob = 3 ∨ ob = 4 ∨ ob = 6 ∨ ob = 5 ∨ ob = 7 ∨ ob = 0 ∨ ob = 1 ∨ ob = 2 := by omega
          clear hob8
          rcases h8 with rfl | rfl | rfl | rfl | rfl | h8
          · have HE : Hid (thenL rs = withR x rs) := by have h := HOB.out; show _ = _; unfold withR; rw [← h]; rfl
            rw [HE.out] at HTH
            go_wp2_with (first | (go_at_call 17; refine (HTH.out _ HNOW.out).mono ?_; rintro e w9 ⟨bq, rfl, hq1, hb1⟩; have HNOW := hid (HNOW.out.trans (hb1.mono HNOW.out.size)); have z0 := HRC.out _ HNOW.out; (first | (obtain ⟨y0, y1⟩ := HK0.out _ HNOW.out) | skip); (first | (obtain ⟨y2, y3⟩ := HK1.out _ HNOW.out) | skip); (first | (have HWA := hid (HWA.out.under hb1)) | skip); clear hb1; have HWA := hid (hq1); clear hq1) | (go_at_call 25; refine (HW2.out _ HNOW.out).mono ?_; rintro e w10 ⟨bz, rfl, hq1, hb1⟩; have HNOW := hid (HNOW.out.trans (hb1.mono HNOW.out.size)); have z0 := HRC.out _ HNOW.out; (first | (obtain ⟨y0, y1⟩ := HK0.out _ HNOW.out) | skip); (first | (obtain ⟨y2, y3⟩ := HK1.out _ HNOW.out) | skip); (first | (have HWA := hid (HWA.out.under hb1)) | skip); clear hb1; have HWZ := hid hq1; clear hq1) | (go_at_call 15; refine (HSB.out _ _ _ HWZ.out HWA.out).mono ?_; rintro e w11 ⟨rfl, rfl⟩))
            go_ret
            exact ⟨rfl, HBW.out.trans (HNOW.out.mono HBW.out.size)⟩
          · have HE : Hid (anyL rs = withR x rs) := by have h := HOB.out; show _ = _; unfold withR; rw [← h]; rfl
            rw [HE.out] at HAN
            go_wp2_with (first | (go_at_call 14; refine (HAN.out _ HNOW.out).mono ?_; rintro e w9 ⟨bq, rfl, hq1, hb1⟩; have HNOW := hid (HNOW.out.trans (hb1.mono HNOW.out.size)); have z0 := HRC.out _ HNOW.out; (first | (obtain ⟨y0, y1⟩ := HK0.out _ HNOW.out) | skip); (first | (obtain ⟨y2, y3⟩ := HK1.out _ HNOW.out) | skip); (first | (have HWA := hid (HWA.out.under hb1)) | skip); clear hb1; have HWA := hid (hq1); clear hq1) | (go_at_call 25; refine (HW2.out _ HNOW.out).mono ?_; rintro e w10 ⟨bz, rfl, hq1, hb1⟩; have HNOW := hid (HNOW.out.trans (hb1.mono HNOW.out.size)); have z0 := HRC.out _ HNOW.out; (first | (obtain ⟨y0, y1⟩ := HK0.out _ HNOW.out) | skip); (first | (obtain ⟨y2, y3⟩ := HK1.out _ HNOW.out) | skip); (first | (have HWA := hid (HWA.out.under hb1)) | skip); clear hb1; have HWZ := hid hq1; clear hq1) | (go_at_call 15; refine (HSB.out _ _ _ HWZ.out HWA.out).mono ?_; rintro e w11 ⟨rfl, rfl⟩))
            go_ret
            exact ⟨rfl, HBW.out.trans (HNOW.out.mono HBW.out.size)⟩
          · have HE : Hid (bothL rs = withR x rs) := by have h := HOB.out; show _ = _; unfold withR; rw [← h]; rfl
            rw [HE.out] at HBO
            go_wp2_with (first | (go_at_call 16; refine (HBO.out _ HNOW.out).mono ?_; rintro e w9 ⟨bq, rfl, hq1, hb1⟩; have HNOW := hid (HNOW.out.trans (hb1.mono HNOW.out.size)); have z0 := HRC.out _ HNOW.out; (first | (obtain ⟨y0, y1⟩ := HK0.out _ HNOW.out) | skip); (first | (obtain ⟨y2, y3⟩ := HK1.out _ HNOW.out) | skip); (first | (have HWA := hid (HWA.out.under hb1)) | skip); clear hb1; have HWA := hid (hq1); clear hq1) | (go_at_call 25; refine (HW2.out _ HNOW.out).mono ?_; rintro e w10 ⟨bz, rfl, hq1, hb1⟩; have HNOW := hid (HNOW.out.trans (hb1.mono HNOW.out.size)); have z0 := HRC.out _ HNOW.out; (first | (obtain ⟨y0, y1⟩ := HK0.out _ HNOW.out) | skip); (first | (obtain ⟨y2, y3⟩ := HK1.out _ HNOW.out) | skip); (first | (have HWA := hid (HWA.out.under hb1)) | skip); clear hb1; have HWZ := hid hq1; clear hq1) | (go_at_call 15; refine (HSB.out _ _ _ HWZ.out HWA.out).mono ?_; rintro e w11 ⟨rfl, rfl⟩))
            go_ret
            exact ⟨rfl, HBW.out.trans (HNOW.out.mono HBW.out.size)⟩
          · by_cases h1 : k = 1
            · subst h1
              obtain ⟨g1, o1, r0, b0, rfl, e0, hr0, -, ha0, hg1⟩ := HRW.out.at_ (k := 0) (by omega)
              have HK0 : Hid (∀ W, Below wr.heap.size wr W → W.cell? ⟨g1, o1, none⟩ = some (ptr b0) ∧ 0 = 0) := fun W hW => ⟨(hW.cell (p := ⟨g1, o1, none⟩) hg1).trans e0, rfl⟩
              have hl1 : rs = [r0] := by
                match rs, hrl, hr0 with
                | [q], _, h => simp at h; rw [h]
              have HE : Hid (manyR r0 = withR x rs) := by have h := HOB.out; show _ = _; unfold withR; rw [← h, hl1]; rfl
              have HM : Hid (∀ W, Below wr.heap.size wr W → Calls Tryd.prog 26 #[ptr b0] W (RetRe W X0 (withR x rs))) := fun W hW => HE.out ▸ many_any r0 X0 b0 W (ha0.under hW) (X0_lt W) (Nat.le_trans (getD_mem_size rs r0 (by rw [hl1]; simp)) HSZ.out)
              obtain ⟨y0, y1⟩ := HK0.out _ HNOW.out
              clear hr0 hl1 ha0 hg1 e0
              unfold ptr at *
              go_wp2_with (first | (go_at_call 26; refine (HM.out _ HNOW.out).mono ?_; rintro e w9 ⟨bq, rfl, hq1, hb1⟩; have HNOW := hid (HNOW.out.trans (hb1.mono HNOW.out.size)); have z0 := HRC.out _ HNOW.out; (first | (obtain ⟨y0, y1⟩ := HK0.out _ HNOW.out) | skip); (first | (obtain ⟨y2, y3⟩ := HK1.out _ HNOW.out) | skip); (first | (have HWA := hid (HWA.out.under hb1)) | skip); clear hb1; have HWA := hid (hq1); clear hq1) | (go_at_call 25; refine (HW2.out _ HNOW.out).mono ?_; rintro e w10 ⟨bz, rfl, hq1, hb1⟩; have HNOW := hid (HNOW.out.trans (hb1.mono HNOW.out.size)); have z0 := HRC.out _ HNOW.out; (first | (obtain ⟨y0, y1⟩ := HK0.out _ HNOW.out) | skip); (first | (obtain ⟨y2, y3⟩ := HK1.out _ HNOW.out) | skip); (first | (have HWA := hid (HWA.out.under hb1)) | skip); clear hb1; have HWZ := hid hq1; clear hq1) | (go_at_call 15; refine (HSB.out _ _ _ HWZ.out HWA.out).mono ?_; rintro e w11 ⟨rfl, rfl⟩))
              go_ret
              exact ⟨rfl, HBW.out.trans (HNOW.out.mono HBW.out.size)⟩
            · have HE : Hid (x = withR x rs) := by
                have h := HOB.out
                show _ = _
                unfold withR
                rw [← h]
                match rs, hrl with
                | [], _ => rfl
                | [_], hl => exact absurd hl.symm h1
                | _ :: _ :: _, _ => rfl
              have HWA : Hid (ReAt wr X0 (withR x rs) bx) := by have := hRX.out; rw [HE.out] at this; exact this
              have hk1 : ((k : Int) == 1) = false := by simp; omega
              go_wp2_with (first | (go_at_call 25; refine (HW2.out _ HNOW.out).mono ?_; rintro e w10 ⟨bz, rfl, hq1, hb1⟩; have HNOW := hid (HNOW.out.trans (hb1.mono HNOW.out.size)); have z0 := HRC.out _ HNOW.out; (first | (obtain ⟨y0, y1⟩ := HK0.out _ HNOW.out) | skip); (first | (obtain ⟨y2, y3⟩ := HK1.out _ HNOW.out) | skip); (first | (have HWA := hid (HWA.out.under hb1)) | skip); clear hb1; have HWZ := hid hq1; clear hq1) | (go_at_call 15; refine (HSB.out _ _ _ HWZ.out HWA.out).mono ?_; rintro e w11 ⟨rfl, rfl⟩))
              go_ret
              exact ⟨rfl, HBW.out.trans (HNOW.out.mono HBW.out.size)⟩
          · by_cases h1 : k = 2
            · subst h1
              obtain ⟨g1, o1, r0, b0, rfl, e0, hr0, -, ha0, hg1⟩ := HRW.out.at_ (k := 0) (by omega)
              obtain ⟨g2, o2, r1, b1, e2, e1, hr1, -, ha1, -⟩ := HRW.out.at_ (k := 1) (by omega)
              cases e2
              have HK0 : Hid (∀ W, Below wr.heap.size wr W → W.cell? ⟨g1, o1, none⟩ = some (ptr b0) ∧ 0 = 0) := fun W hW => ⟨(hW.cell (p := ⟨g1, o1, none⟩) hg1).trans e0, rfl⟩
              have HK1 : Hid (∀ W, Below wr.heap.size wr W → W.cell? ⟨g1, o1 + 1, none⟩ = some (ptr b1) ∧ 0 = 0) := fun W hW => ⟨(hW.cell (p := ⟨g1, o1 + 1, none⟩) hg1).trans e1, rfl⟩
              have hl1 : rs = [r0, r1] := by
                match rs, hrl, hr0, hr1 with
                | [q, q'], _, h, h' => simp at h h'; rw [h, h']
              have HE : Hid (butR r0 r1 = withR x rs) := by have h := HOB.out; show _ = _; unfold withR; rw [← h, hl1]; rfl
              have hz2 : r0.size + r1.size ≤ 549755813888 := by
                have := HSZ.out
                rw [hl1] at this
                simp only [Re.sizes] at this
                omega
              have HM : Hid (∀ W, Below wr.heap.size wr W → Calls Tryd.prog 27 #[ptr b0, ptr b1] W (RetRe W X0 (withR x rs))) := fun W hW => HE.out ▸ but_any r0 r1 X0 b0 b1 W (ha0.under hW) (ha1.under hW) (X0_lt W) hz2
              obtain ⟨y0, y1⟩ := HK0.out _ HNOW.out
              obtain ⟨y2, y3⟩ := HK1.out _ HNOW.out
              clear hr0 hr1 hl1 ha0 ha1 hg1 e0 e1 hz2
              unfold ptr at *
              go_wp2_with fail
              go_region_with (first | (go_at_call 27; refine (HM.out _ (below_drewN _ _ 1)).mono ?_; rintro e w9 ⟨bq, rfl, hq1, hb1⟩; replace hb1 := undrew hb1; have HNOW := hid (HNOW.out.trans (hb1.mono HNOW.out.size)); have z0 := HRC.out _ HNOW.out; (first | (obtain ⟨y0, y1⟩ := HK0.out _ HNOW.out) | skip); (first | (obtain ⟨y2, y3⟩ := HK1.out _ HNOW.out) | skip); (first | (have HWA := hid (HWA.out.under hb1)) | skip); clear hb1; have HWA := hid (hq1); clear hq1) | (go_at_call 27; refine (HM.out _ HNOW.out).mono ?_; rintro e w9 ⟨bq, rfl, hq1, hb1⟩; have HNOW := hid (HNOW.out.trans (hb1.mono HNOW.out.size)); have z0 := HRC.out _ HNOW.out; (first | (obtain ⟨y0, y1⟩ := HK0.out _ HNOW.out) | skip); (first | (obtain ⟨y2, y3⟩ := HK1.out _ HNOW.out) | skip); (first | (have HWA := hid (HWA.out.under hb1)) | skip); clear hb1; have HWA := hid (hq1); clear hq1))
              all_goals
                go_wp2_with (first | (go_at_call 25; refine (HW2.out _ HNOW.out).mono ?_; rintro e w10 ⟨bz, rfl, hq1, hb1⟩; have HNOW := hid (HNOW.out.trans (hb1.mono HNOW.out.size)); have z0 := HRC.out _ HNOW.out; (first | (obtain ⟨y0, y1⟩ := HK0.out _ HNOW.out) | skip); (first | (obtain ⟨y2, y3⟩ := HK1.out _ HNOW.out) | skip); (first | (have HWA := hid (HWA.out.under hb1)) | skip); clear hb1; have HWZ := hid hq1; clear hq1) | (go_at_call 15; refine (HSB.out _ _ _ HWZ.out HWA.out).mono ?_; rintro e w11 ⟨rfl, rfl⟩))
                go_ret
                exact ⟨rfl, HBW.out.trans (HNOW.out.mono HBW.out.size)⟩
            · have HE : Hid (x = withR x rs) := by
                have h := HOB.out
                show _ = _
                unfold withR
                rw [← h]
                match rs, hrl with
                | [], _ => rfl
                | [_], _ => rfl
                | [_, _], hl => exact absurd hl.symm h1
                | _ :: _ :: _ :: _, _ => rfl
              have HWA : Hid (ReAt wr X0 (withR x rs) bx) := by have := hRX.out; rw [HE.out] at this; exact this
              have hk1 : ((k : Int) == 2) = false := by simp; omega
              go_wp2_with (first | (go_at_call 25; refine (HW2.out _ HNOW.out).mono ?_; rintro e w10 ⟨bz, rfl, hq1, hb1⟩; have HNOW := hid (HNOW.out.trans (hb1.mono HNOW.out.size)); have z0 := HRC.out _ HNOW.out; (first | (obtain ⟨y0, y1⟩ := HK0.out _ HNOW.out) | skip); (first | (obtain ⟨y2, y3⟩ := HK1.out _ HNOW.out) | skip); (first | (have HWA := hid (HWA.out.under hb1)) | skip); clear hb1; have HWZ := hid hq1; clear hq1) | (go_at_call 15; refine (HSB.out _ _ _ HWZ.out HWA.out).mono ?_; rintro e w11 ⟨rfl, rfl⟩))
              go_ret
              exact ⟨rfl, HBW.out.trans (HNOW.out.mono HBW.out.size)⟩
          · have HE : Hid (x = withR x rs) := by
              have h := HOB.out
              show _ = _
              unfold withR
              rw [← h]
              rcases h8 with e | e | e <;> rw [e] <;> rfl
            have HWA : Hid (ReAt wr X0 (withR x rs) bx) := by have := hRX.out; rw [HE.out] at this; exact this
            rcases h8 with rfl | rfl | rfl
            all_goals
              go_wp2_with (first | (go_at_call 25; refine (HW2.out _ HNOW.out).mono ?_; rintro e w10 ⟨bz, rfl, hq1, hb1⟩; have HNOW := hid (HNOW.out.trans (hb1.mono HNOW.out.size)); have z0 := HRC.out _ HNOW.out; (first | (obtain ⟨y0, y1⟩ := HK0.out _ HNOW.out) | skip); (first | (obtain ⟨y2, y3⟩ := HK1.out _ HNOW.out) | skip); (first | (have HWA := hid (HWA.out.under hb1)) | skip); clear hb1; have HWZ := hid hq1; clear hq1) | (go_at_call 15; refine (HSB.out _ _ _ HWZ.out HWA.out).mono ?_; rintro e w11 ⟨rfl, rfl⟩))
              go_ret
              exact ⟨rfl, HBW.out.trans (HNOW.out.mono HBW.out.size)⟩
end Go.Proofs.YtihloigpdcinkaaDoor
