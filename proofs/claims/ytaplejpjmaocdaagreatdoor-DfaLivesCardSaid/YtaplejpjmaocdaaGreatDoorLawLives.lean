/- The walk of DfaLives. -/
import Derived.Test.YtaplejpjmaocdaaGreatDoorLiveW
import Derived.Test.YtaplejpjmaocdaaGreatDoorPkV
import Derived.Test.YtaplejpjmaocdaaGreatDoorHead6
namespace Go.Proofs.YtaplejpjmaocdaaGreatDoor
open Go.RowKit Go.Maps

/-- What a call of Build with a new budget comes to. -/
def LBuilt (w0 : World) (r : Re) (left : Nat) (e : Ending) (w' : World) : Prop :=
  Below w0.heap.size w0 w' ∧ match buildR ((refineR (setsR r)).map leastN) r left with
    | none => e = .returned (.tuple #[.pointer none, .int .i64 5])
    | some (all, nx, _) => ∃ D, e = .returned (.tuple #[ptr D, .int .i64 0]) ∧ w0.heap.size ≤ D ∧ DfaAt w' D (Fr r) ((refineR (setsR r)).map leastN) nx (all.map Re.null)
theorem lbuilt_any (r : Re) (hg : Good r) (hsz : r.size ≤ 1000000) (left : Nat) (hl : left ≤ 1000000) (w0 w : World) (b : Nat) (h : ReAt w0 X0 r b) (hb : Below w0.heap.size w0 w) (hB : BudAt w w0.heap.size left 0) (hT : Tab w) :
    Calls Tryz.prog 13 #[ptr b, ptr w0.heap.size] w (LBuilt w0 r left) :=
  (build_any r b w0.heap.size left 0 w ((h.also (Y := fun k => k = w0.heap.size) fun k e hlt => by omega).under hb) hg hsz hB hl (by omega) hT).mono fun e w' hh => by
    obtain ⟨hk, hh⟩ := hh
    refine ⟨hb.trans (hk.below hb.size fun k hk e => by omega), ?_⟩
    cases hq : buildR ((refineR (setsR r)).map leastN) r left with
    | none => rw [hq] at hh; obtain ⟨h1, l', u', h2, h3⟩ := hh; exact h1
    | some t =>
      obtain ⟨all, nx, left'⟩ := t
      rw [hq] at hh
      obtain ⟨h1, D, h2, h4, h3⟩ := hh
      exact ⟨D, h2, Nat.le_trans hb.size h4, h3⟩
/-- The law's search: how its list and its marks lie. -/
structure LI (w5 w : World) (gs base n : Nat) (vl : Value) (L : List Nat) (seen : Nat → Bool) : Prop where
  bits : Bits1 w gs n seen
  own : w.ownsRow base 3 1 vl (natsV L).length (natsV L)
  kp : Below w5.heap.size w5 w
  o1 : w5.heap.size ≤ gs
  o2 : gs < base
  o3 : base ≤ w.heap.size
section
variable {w5 w w1 W w' : World} {gs base n : Nat} {vl vl' : Value} {L : List Nat} {seen : Nat → Bool}
theorem LI.below (h : LI w5 w gs base n vl L seen) (hb : Below w.heap.size w w') : LI w5 w' gs base n vl L seen where
  bits := h.bits.below hb
  own := row_blk h.own fun k e => hb.block k (World.ownsRow.lt h.own k e).2
  kp := h.kp.trans (hb.mono h.kp.size)
  o1 := h.o1
  o2 := h.o2
  o3 := Nat.le_trans h.o3 hb.size
theorem LI.mark (h : LI w5 w gs base n vl L seen) {p : Nat} (hp : p < n) : Bits1 (w.setCell ⟨gs, p, none⟩ (.bool true)) gs n (bput seen p) ∧ (w.setCell ⟨gs, p, none⟩ (.bool true)).ownsRow base 3 1 vl (natsV L).length (natsV L) ∧ Below w5.heap.size w5 (w.setCell ⟨gs, p, none⟩ (.bool true)) ∧ base ≤ (w.setCell ⟨gs, p, none⟩ (.bool true)).heap.size :=
  have o1 := h.o1
  have o2 := h.o2
  ⟨h.bits.put hp, row_blk h.own fun k e => Below.heap_setCell _ _ _ _ (by have := (World.ownsRow.lt h.own k e).1; show k ≠ gs; omega),
    h.kp.trans (KeepX.below (KeepX.set_ (X := fun k => k = gs) w ⟨gs, p, none⟩ _ rfl) h.kp.size fun k hk e => by omega), by rw [size_setCell]; exact h.o3⟩
theorem LI.app {to : Nat} (h1 : Bits1 w1 gs n seen) (h3 : Below w5.heap.size w5 w1) (o1 : w5.heap.size ≤ gs) (o2 : gs < base) (o3 : base ≤ w1.heap.size) (ho : w1.ownsRow base 3 1 vl (natsV L).length (natsV L)) (hb : Below w1.heap.size w1 W) (hg : W.grownBy w' vl.ownBlock)
    (hy : w'.ownsRow base 3 1 vl' (natsV L ++ [Value.int .i64 (to : Int)]).length (natsV L ++ [Value.int .i64 (to : Int)])) : LI w5 w' gs base n vl' (L ++ [to]) seen := by
  have hlt : ∀ k, vl.ownBlock = some k → base ≤ k := fun k e => (World.ownsRow.lt ho k e).1
  have hk : KeepX (fun k => vl.ownBlock = some k) W w' := KeepX.of_grown hg fun k e => e
  have hbw : Below base W w' := hk.below (Nat.le_trans o3 hb.size) fun k h e => by have := hlt k e; omega
  have h1b := h1.below hb
  have hgW : gs < W.heap.size := h1b.lt
  refine ⟨⟨Nat.lt_of_lt_of_le hgW hk.size, fun q hq => (blk_same (hbw.block gs o2) q).trans (h1b.cell q hq), fun q => ?_⟩, ?_, ?_, o1, o2, ?_⟩
  · have := hbw.block gs o2
    have h2 := h1b.free q
    unfold World.frozen? at h2 ⊢
    simp only [this]
    exact h2
  · have e : natsV (L ++ [to]) = natsV L ++ [Value.int .i64 (to : Int)] := by simp [natsV]
    rw [e]
    exact hy
  · exact (h3.trans (hb.mono h3.size)).trans (hbw.mono (by omega))
  · exact Nat.le_trans (Nat.le_trans o3 hb.size) hk.size
end
theorem fr_head (r : Re) {j : Nat} {h : Nat} (hj : ((refineR (setsR r)).map leastN)[j]? = some h) : Fr r h = j := by
  obtain ⟨hsee, hout, hcov⟩ := refine_facts (setsR r)
  rw [List.getElem?_map, Option.map_eq_some_iff] at hj
  obtain ⟨p, hp, rfl⟩ := hj
  have hl := least_has p (hout.ne p (List.mem_of_getElem? hp))
  obtain ⟨p', h1, h2, -, -⟩ := at_facts (setsR r) hl.2
  exact out_unique hout h1 hp h2 hl.1
theorem suc_lt {r : Re} {left left' : Nat} {all : List Re} {nx : List (List Nat)} (hok : DOk (Fr r) ((refineR (setsR r)).map leastN) nx (all.map Re.null)) (h : buildR ((refineR (setsR r)).map leastN) r left = some (all, nx, left')) : ∀ q to, Suc nx q to → to < (all.map Re.null).length := fun q to hs => by
  obtain ⟨row, h1, h2⟩ := hs
  obtain ⟨j, hj⟩ := List.getElem?_of_mem h2
  have hlen := hok.row row (List.mem_of_getElem? h1)
  have hjl := (List.getElem?_eq_some_iff.1 hj).1
  obtain ⟨x, hx⟩ : ∃ x, ((refineR (setsR r)).map leastN)[j]? = some x := ⟨_, List.getElem?_eq_getElem (by rw [← hlen]; exact hjl)⟩
  obtain ⟨-, hout, -⟩ := refine_facts (setsR r)
  have h256 : x < 256 := by
    obtain ⟨p, hp, rfl⟩ := List.mem_map.1 (List.mem_of_getElem? hx)
    exact (least_has p (hout.ne p hp)).2
  have hq : q < (all.map Re.null).length := by rw [← hok.len]; exact (List.getElem?_eq_some_iff.1 h1).1
  have := built_closed h q x hq h256
  unfold dN at this
  have e1 : nx.getD q [] = row := by rw [List.getD_eq_getElem?_getD, h1]; rfl
  have e2 : row.getD j 0 = to := by rw [List.getD_eq_getElem?_getD, hj]; rfl
  rw [fr_head r hx, e1, e2] at this
  exact this
set_option maxRecDepth 100000 in
theorem info_bool : (Tryz.prog.info? 4).map (fun i => (i.zero, i.size, i.bytes)) = some (some (.bool false), 1, 1) := by kernel_rfl
open Classical in
set_option maxRecDepth 100000 in
set_option maxHeartbeats 16000000 in
theorem dfaLives_any (s : Shp) (A : Option Addr) (c : Nat) (w : World) (hs : ShAt w s (A, c)) (hT : Tab w) :
    Calls Tryz.prog 10 #[s.val A c] w fun e w' => e = .returned (.bool true) ∧ Below w.heap.size w w' := by
  have HFE := hid (fun W (hW : Below w.heap.size w W) => few_any s A c W (hs.under hW))
  obtain ⟨fs, hfs⟩ : ∃ b, b = s.few := ⟨_, rfl⟩
  have HFS := hid hfs
  rw [← hfs] at HFE
  have HW := hid hs
  have HT := hid hT
  clear hs hfs hT
  unfold Shp.val at *
  go_enter Tryz.func10, Tryz.ntmps10
  go_wp2_with fail
  obtain ⟨w2, hw2⟩ : ∃ w2 : World, w2 = w.alloc (.cells #[Value.int IntKind.i64 s.op, Value.int IntKind.u8 ↑s.low, Value.int IntKind.u8 ↑s.high, Value.string s.text, Value.slice A s.kids.length c] 24) := ⟨_, rfl⟩
  rw [← hw2]
  have HB2 : Hid (Below w.heap.size w w2) := hid (by rw [hw2]; exact (Below.refl _ _).alloc (Nat.le_refl _) _)
  have hk1 : w2.heap[w.heap.size]? = some (.cells #[Value.int IntKind.i64 s.op, Value.int IntKind.u8 ↑s.low, Value.int IntKind.u8 ↑s.high, Value.string s.text, Value.slice A s.kids.length c] 24) := by rw [hw2]; exact blk_new w _
  have HBX : Hid (∀ W, Below w2.heap.size w2 W → W.cell? ⟨w.heap.size, 0, none⟩ = some (.int .i64 s.op) ∧ W.cell? ⟨w.heap.size, 1, none⟩ = some (.int .u8 s.low) ∧ W.cell? ⟨w.heap.size, 2, none⟩ = some (.int .u8 s.high) ∧ W.cell? ⟨w.heap.size, 3, none⟩ = some (.string s.text) ∧ W.cell? ⟨w.heap.size, 4, none⟩ = some (.slice A s.kids.length c)) := fun W hW => by
    have h1 := blk_below hk1 hW
    exact ⟨(blk_cell h1 0).trans (by simp), (blk_cell h1 1).trans (by simp), (blk_cell h1 2).trans (by simp), (blk_cell h1 3).trans (by simp), (blk_cell h1 4).trans (by simp)⟩
  have HNOW : Hid (Below w2.heap.size w2 w2) := Below.refl _ _
  have HHE := hid (head6_any w2 (HT.out.below HB2.out))
  clear hw2 hk1
  cases fs
  · go_wp2_with (first | (go_at_call 11; refine HHE.out.mono ?_; rintro e w3 ⟨rfl, hb1⟩; (first | (have hb1 := undrew hb1) | skip); have HNOW := hid (HNOW.out.trans (hb1.mono HNOW.out.size)); obtain ⟨x0, x1, x2, x3, x4⟩ := HBX.out _ HNOW.out; clear hb1) | (go_at_call 12; refine (HFE.out _ (HB2.out.trans (HNOW.out.mono HB2.out.size))).mono ?_; rintro e w4 ⟨rfl, hb1⟩; (first | (have hb1 := undrew hb1) | skip); have HNOW := hid (HNOW.out.trans (hb1.mono HNOW.out.size)); obtain ⟨x0, x1, x2, x3, x4⟩ := HBX.out _ HNOW.out; clear hb1))
    go_ret
    exact ⟨rfl, HB2.out.trans (HNOW.out.mono HB2.out.size)⟩
  have HMS : Hid (∀ W, Below w.heap.size w W → Calls Tryz.prog 14 #[.agg #[.int .i64 s.op, .int .u8 s.low, .int .u8 s.high, .string s.text, .slice A s.kids.length c]] W (RetRe W X0 s.make)) := fun W hW => make_any s A c X0 W (HW.out.under hW) (X0_lt W) (Shp.few_small HFS.out.symm).2 (Nat.le_trans (Shp.few_small HFS.out.symm).1 (by decide))
  have hxs : s.make.size ≤ 660 := few_size HFS.out.symm
  have hgd : Good s.make := Shp.make_good s
  have HGR := hid (fun (w : World) => grant_any 300 300 rfl w)
  have HBU := hid (fun w0 W b (h : ReAt w0 X0 s.make b) hb hB hT => lbuilt_any s.make hgd (by omega) 300 (by decide) w0 W b h hb hB hT)
  unfold LBuilt at HBU
  cases hq : buildR ((refineR (setsR s.make)).map leastN) s.make 300 with
  | none =>
    rw [hq] at HBU
    clear hq
    go_wp2_with (first | (go_at_call 11; refine HHE.out.mono ?_; rintro e w3 ⟨rfl, hb1⟩; (first | (have hb1 := undrew hb1) | skip); have HNOW := hid (HNOW.out.trans (hb1.mono HNOW.out.size)); obtain ⟨x0, x1, x2, x3, x4⟩ := HBX.out _ HNOW.out; clear hb1) | (go_at_call 12; refine (HFE.out _ (HB2.out.trans (HNOW.out.mono HB2.out.size))).mono ?_; rintro e w4 ⟨rfl, hb1⟩; (first | (have hb1 := undrew hb1) | skip); have HNOW := hid (HNOW.out.trans (hb1.mono HNOW.out.size)); obtain ⟨x0, x1, x2, x3, x4⟩ := HBX.out _ HNOW.out; clear hb1) | (go_at_call 14; refine (HMS.out _ (HB2.out.trans (HNOW.out.mono HB2.out.size))).mono ?_; rintro e w5 ⟨bx, rfl, hre, hb1⟩; have HRX := hid hre; (first | (have hb1 := undrew hb1) | skip); have HNOW := hid (HNOW.out.trans (hb1.mono HNOW.out.size)); obtain ⟨x0, x1, x2, x3, x4⟩ := HBX.out _ HNOW.out; clear hb1; clear hre) | (go_at_call 15; refine (HGR.out _).mono ?_; rintro e w7 ⟨rfl, h7, hb1⟩; have HBD := hid (HBU.out _ _ _ HRX.out hb1 h7 (HT.out.below (HB2.out.trans ((HNOW.out.trans (hb1.mono HNOW.out.size)).mono HB2.out.size)))); clear h7 hb1) | (go_at_call 13; refine HBD.out.mono ?_; rintro e w8 ⟨hb1, rfl⟩; (first | (have hb1 := undrew hb1) | skip); have HNOW := hid (HNOW.out.trans (hb1.mono HNOW.out.size)); obtain ⟨x0, x1, x2, x3, x4⟩ := HBX.out _ HNOW.out; clear hb1))
    go_ret
    exact ⟨rfl, HB2.out.trans (HNOW.out.mono HB2.out.size)⟩
  | some t =>
    obtain ⟨all, nx, left'⟩ := t
    rw [hq] at HBU
    have hok := dfa_ok hq (by omega)
    obtain ⟨-, hout, hcov⟩ := refine_facts (setsR s.make)
    have hlen := out_len hout hcov
    have h1 : 0 < all.length := (List.getElem?_eq_some_iff.1 (build_ok hq).2.2.1).1
    have hnm : all.length ≤ 300 := by have := (build_ok hq).2.2.2; omega
    have hyl : (all.map Re.null).length = all.length := List.length_map ..
    have hpos : 0 < ((refineR (setsR s.make)).map leastN).length := Nat.lt_of_le_of_lt (Nat.zero_le _) (hok.at_ 0 (by omega))
    have hto := suc_lt hok hq
    obtain ⟨n, hn⟩ : ∃ n, n = (all.map Re.null).length := ⟨_, rfl⟩
    have hn1 : 0 < n := by omega
    have hn2 : n ≤ 300 := by omega
    obtain ⟨ys, hys⟩ : ∃ ys, ys = all.map Re.null := ⟨_, rfl⟩
    have HFH := hid (fun j h (hj : ((refineR (setsR s.make)).map leastN)[j]? = some h) => fr_head s.make hj)
    have hcl := built_closed hq
    have HH256 : Hid (∀ x ∈ (refineR (setsR s.make)).map leastN, x < 256) := hid (fun x hx => by
      obtain ⟨p, hp, rfl⟩ := List.mem_map.1 hx
      exact (least_has p (hout.ne p hp)).2)
    have hl256 : ((refineR (setsR s.make)).map leastN).length ≤ 256 := by rw [List.length_map]; exact hlen
    obtain ⟨ls, hls⟩ : ∃ hs, hs = (refineR (setsR s.make)).map leastN := ⟨_, rfl⟩
    obtain ⟨F, hF⟩ : ∃ F, F = Fr s.make := ⟨_, rfl⟩
    obtain ⟨nh, hnh⟩ : ∃ nh, nh = ls.length := ⟨_, rfl⟩
    have hnh2 : nh ≤ 256 := by rw [hnh, hls]; exact hl256
    have hnh1 : 0 < nh := by rw [hnh, hls]; exact hpos
    rw [← hls] at HFH HH256 hok hl256
    simp only [← hls] at HBU
    simp only [← hF] at HBU HFH hok hcl
    rw [← hys] at hok hcl hto hn hyl
    simp only [← hys] at HBU
    rw [← hn] at hto hcl
    have HN := hid hn
    have HNH := hid hnh
    have HOK := hid hok
    have HTO := hid hto
    have HCL := hid hcl
    have HNX : Hid (nx.length = n) := hid (by rw [hok.len, hn])
    have HRL : Hid (∀ (q : Nat) (row : List Nat), nx[q]? = some row → row.length = nh) := hid (fun q row h => by rw [hok.row row (List.mem_of_getElem? h), hnh])
    have HDC0 : Hid (∀ D W, DfaAt W D F ls nx ys → DCon W D n (dN F nx) (yN ys)) := hid (fun D W hD => by
      have hc := hD.con hok (by rw [← hn]; exact hcl)
      rw [← hn] at hc
      exact hc)
    have HHD0 := hid (fun D W (hD : DfaAt W D F ls nx ys) => dheads_new D F ls nx ys hok hl256 W hD)
    have HLV0 := hid (fun D W q (hD : DfaAt W D F ls nx ys) => dlive_any D q F ls nx ys hok hl256 (by rw [← hn]; exact hto) W hD)
    unfold LiveRet at HLV0
    unfold HeadsNew at HHD0
    rw [← hnh] at HHD0
    rw [← hn] at HLV0
    obtain ⟨i1, hj0, hy0, hy1, hy2⟩ := info_parts info_bool
    have hj8 : i1.bytes * n ≤ 281474976710656 := by rw [hy2]; omega
    have HNIL1 := hid (fun W => dlen_nil W)
    have HNIL2 := hid (fun W => dstep_nil 0 97 W)
    have HNIL3 := hid (fun W => dmatch_nil W)
    have HNIL4 := hid (fun W => dheads_nil W)
    have HNIL5 := hid (fun W => dlive_nil 0 W)
    clear hok hout hcov hlen h1 hq hyl hnm hn hpos hys hls hF hnh hgd hxs hto hcl hl256 hy2
    unfold ptr at *
    go_wp2_with (first | (go_at_call 11; refine HHE.out.mono ?_; rintro e w3 ⟨rfl, hb1⟩; (first | (have hb1 := undrew hb1) | skip); have HNOW := hid (HNOW.out.trans (hb1.mono HNOW.out.size)); obtain ⟨x0, x1, x2, x3, x4⟩ := HBX.out _ HNOW.out; clear hb1) | (go_at_call 12; refine (HFE.out _ (HB2.out.trans (HNOW.out.mono HB2.out.size))).mono ?_; rintro e w4 ⟨rfl, hb1⟩; (first | (have hb1 := undrew hb1) | skip); have HNOW := hid (HNOW.out.trans (hb1.mono HNOW.out.size)); obtain ⟨x0, x1, x2, x3, x4⟩ := HBX.out _ HNOW.out; clear hb1) | (go_at_call 14; refine (HMS.out _ (HB2.out.trans (HNOW.out.mono HB2.out.size))).mono ?_; rintro e w5 ⟨bx, rfl, hre, hb1⟩; have HRX := hid hre; (first | (have hb1 := undrew hb1) | skip); have HNOW := hid (HNOW.out.trans (hb1.mono HNOW.out.size)); obtain ⟨x0, x1, x2, x3, x4⟩ := HBX.out _ HNOW.out; clear hb1; clear hre) | (go_at_call 15; refine (HGR.out _).mono ?_; rintro e w7 ⟨rfl, h7, hb1⟩; have HBD := hid (HBU.out _ _ _ HRX.out hb1 h7 (HT.out.below (HB2.out.trans ((HNOW.out.trans (hb1.mono HNOW.out.size)).mono HB2.out.size)))); clear h7 hb1) | (go_at_call 13; refine HBD.out.mono ?_; rintro e w8 ⟨hb1, D, rfl, hD8, hd8⟩; have HDA := hid hd8; have HD8 := hid (Nat.le_trans (Nat.le_trans HB2.out.size HNOW.out.size) hD8); (first | (have hb1 := undrew hb1) | skip); have HNOW := hid (HNOW.out.trans (hb1.mono HNOW.out.size)); obtain ⟨x0, x1, x2, x3, x4⟩ := HBX.out _ HNOW.out; clear hb1; clear hd8 hD8))
    have HBE := hid (HB2.out.trans (HNOW.out.mono HB2.out.size))
    have HDC1 := hid (fun W h => HDC0.out D W h)
    have HHD1 := hid (fun W h => HHD0.out D W h)
    have HLV1 := hid (fun W q h => HLV0.out D W q h)
    clear HDC0 HHD0 HLV0
    unfold ptr at *
    go_loopw [5] (fun qv wr => ∃ q : Nat, q ≤ n ∧ qv = .int .i64 q ∧ Hid (DfaAt wr D F ls nx ys ∧ Below w.heap.size w wr)) (fun qv _ => n - (intOf qv).toNat)
    case atStart => exact ⟨0, Nat.zero_le _, rfl, HDA.out, HBE.out⟩
    case round =>
      obtain ⟨q, hq, rfl, hin⟩ := hrel
      obtain ⟨hda, hbw⟩ := hin.out
      obtain ⟨wq, hwq⟩ : ∃ W : World, W = wr := ⟨_, rfl⟩
      subst hwq
      have HDQ := hid hda
      have HBW := hid hbw
      have HDC := hid (HDC1.out wq hda)
      have HLN := hid HDC.out.len
      unfold ptr at HLN
      clear hin hda hbw
      by_cases hlt : q < n
      · have hqi : (q : Int) < (n : Int) := by omega
        go_wp2_with (first | (go_at_call 24; (with_reducible refine (HLN.out _ (by first | exact (Below.refl _ _) | exact ((Below.refl _ _)).drew)).mono ?_); rintro e w10 ⟨rfl, rfl⟩) | (at_make; refine wpList_make_full _ rfl (.tmp 37) (.tmp 37) 65 rfl wq.heap.size 4 i1 (.bool false) 1 Tryz.underlying65 hj0 hy0 hy1 .i64 .i64 _ _ n rfl rfl rfl rfl hj8 (by unfold maxLen; omega) (Nat.le_refl _) ?_; intro w12 ho hg; have HMK := hid (made_fn (z := .bool false) rfl ho); have HMB := hid (below_none hg); clear ho hg; obtain ⟨gs, hgs⟩ : ∃ g, g = wq.heap.size := ⟨_, rfl⟩; rw [← hgs] at HMK ⊢; have HGS := hid hgs; have d1 := blk_free HMK.out q; obtain ⟨d2, hd2⟩ : ∃ v, w12.cell? ⟨gs, q, none⟩ = some v := ⟨_, (blk_cell HMK.out q).trans (fnA_get hlt)⟩; clear hgs))
        have HB12 : Hid (Below wq.heap.size wq w12) := HMB
        have HLI0 : Hid (∃ seen, LI wq ((w12.setCell ⟨gs, q, none⟩ (.bool true)).alloc (.cells #[Value.int IntKind.i64 ↑q] 3)) gs w12.heap.size n (.slice (some ⟨w12.heap.size, 0, none⟩) 1 1) [q] seen ∧ Srch nx (yN ys) n q [q] seen 0 0 ∧ (false = true ↔ ∃ x ∈ [q].take 0, yN ys x = true)) := hid
          ⟨bput (fun _ => false) q, { bits := ((Bits1.of_fn (l := fun _ => false) HMK.out).put hlt).below ((Below.refl _ _).alloc (Nat.le_refl _) _)
                                      own := by
                                        have h : ((w12.setCell ⟨gs, q, none⟩ (.bool true)).alloc (.cells #[.int .i64 (q : Int)] 3)).ownsRow w12.heap.size 3 1 (.slice (some ⟨(w12.setCell ⟨gs, q, none⟩ (.bool true)).heap.size, 0, none⟩) 1 1) 1 [.int .i64 (q : Int)] := World.ownsRow_lit (w12.setCell ⟨gs, q, none⟩ (.bool true)) #[.int .i64 (q : Int)] 1 (by simp) (by decide) rfl
                                        rw [size_setCell] at h
                                        exact h
                                      kp := (HB12.out.trans (KeepX.below (KeepX.set_ (X := fun k => k = gs) w12 ⟨gs, q, none⟩ _ rfl) HB12.out.size fun k hk e => by have := HGS.out; omega)).alloc (by rw [size_setCell]; exact HB12.out.size) _
                                      o1 := Nat.le_of_eq HGS.out.symm
                                      o2 := lt_of_heap HMK.out
                                      o3 := by simp }, Srch.begin hlt, by simp⟩
        obtain ⟨base, hbase⟩ : ∃ b, b = w12.heap.size := ⟨_, rfl⟩
        rw [← hbase] at HLI0 ⊢
        clear HMB HMK d1 hd2 hbase
        go_loopw [7, 8, 9] (fun lv fv iv wr => ∃ (L : List Nat) (f : Bool) (i : Nat), i ≤ L.length ∧ fv = .bool f ∧ iv = .int .i64 i ∧ Hid (∃ seen, LI wq wr gs base n lv L seen ∧ Srch nx (yN ys) n q L seen i 0 ∧ (f = true ↔ ∃ x ∈ L.take i, yN ys x = true))) (fun _ _ iv _ => n - (intOf iv).toNat)
        case atStart => exact ⟨[q], false, 0, Nat.zero_le _, rfl, rfl, HLI0.out⟩
        case round =>
          obtain ⟨L, f, i, hi, rfl, rfl, hin2⟩ := hrel
          obtain ⟨seen, hli, hsr, hf⟩ := hin2.out
          obtain ⟨wi, hwi⟩ : ∃ W : World, W = wr := ⟨_, rfl⟩
          subst hwi
          obtain ⟨Al, cl, hvl⟩ := own_form hli.own
          rw [natsV_len] at hvl
          subst hvl
          have hLn := hsr.len
          have HLI := hid hli
          have HSR := hid hsr
          have HF := hid hf
          by_cases hlti : i < L.length
          · obtain ⟨x, hx⟩ : ∃ x, L[i]? = some x := ⟨_, List.getElem?_eq_getElem hlti⟩
            have hxn := hsr.lt x (List.mem_of_getElem? hx)
            obtain ⟨A', c', e', hrd, -⟩ := rdV_of hli.own
            rw [natsV_len] at e' hrd
            cases e'
            obtain ⟨gl, ol, rfl, hgl, hcl⟩ := hrd.2 (by omega)
            have x1 := hcl i (.int .i64 (x : Int)) (by unfold natsV; rw [List.getElem?_map, hx]; rfl)
            have HY := hid (fun W (hW : Below wi.heap.size wi W) => HDC.out.yes W x (hli.kp.trans (hW.mono hli.kp.size)) hxn)
            have HHD := hid (fun W (hW : Below wi.heap.size wi W) => HHD1.out W (HDQ.out.below (hli.kp.trans (hW.mono hli.kp.size))))
            have HX := hid hx
            have HF2 : Hid ((f || yN ys x) = true ↔ ∃ z ∈ L.take (i + 1), yN ys z = true) := hid (by
              rw [List.take_add_one, hx, Bool.or_eq_true, hf]
              constructor
              · rintro (⟨z, hz, h⟩ | h)
                · exact ⟨z, List.mem_append_left _ hz, h⟩
                · exact ⟨x, List.mem_append_right _ (by simp), h⟩
              · rintro ⟨z, hz, h⟩
                rcases List.mem_append.1 hz with hz | hz
                · exact .inl ⟨z, hz, h⟩
                · have : z = x := by simpa using hz
                  subst this
                  exact .inr h)
            unfold ptr at HY HHD
            obtain ⟨y, hy⟩ : ∃ y, y = yN ys x := ⟨_, rfl⟩
            rw [← hy] at HY HF2
            obtain ⟨f2, hf2⟩ : ∃ f2, f2 = (f || y) := ⟨_, rfl⟩
            have HFV : Hid (f = true → f2 = true) := hid (fun e => by rw [hf2, e]; rfl)
            have HFW : Hid (f = false → f2 = y) := hid (fun e => by rw [hf2, e]; rfl)
            rw [← hf2] at HF2
            clear hin2 hli hsr hf hx hgl hcl hrd hy hf2
            cases f
            · have e2 := HFW.out rfl
              subst e2
              clear HFV HFW
              go_wp2_with (first | (go_at_call 28; (with_reducible refine (HY.out _ (Below.refl _ _)).mono ?_); rintro e w13 ⟨rfl, rfl⟩) | (go_at_call 22; refine (HHD.out _ (Below.refl _ _)).mono ?_; rintro e w14 ⟨Ah, ch, rfl, hrd, -, hb1, hfr⟩; have HRD := hid hrd; have HBH := hid hb1; have HFR := hid hfr; clear hrd hb1 hfr))
              have HLI2 := hid (HLI.out.below HBH.out)
              have HIN : Hid (∃ seen, LI wq w14 gs base n (.slice (some ⟨gl, ol, none⟩) L.length cl) L seen ∧ Srch nx (yN ys) n q L seen i 0 ∧ Rd w14 Ah nh (u8s ls) ∧ ∀ g o, Ah = some ⟨g, o, none⟩ → g ≠ gs ∧ (Value.slice (some ⟨gl, ol, none⟩) L.length cl).ownBlock ≠ some g) := hid ⟨seen, HLI2.out, HSR.out, HRD.out, fun g o e => by
                have h1 := HFR.out g o e
                have h2 := HLI.out.o2
                have h3 := HLI.out.o3
                refine ⟨by omega, fun e2 => ?_⟩
                have := (World.ownsRow.lt HLI.out.own g e2).2
                omega⟩
              clear HLI HSR HRD HFR HLI2
              go_loopw [7, 62] (fun lv jv wr => ∃ (L2 : List Nat) (j : Nat), j ≤ nh ∧ jv = .int .i64 j ∧ Hid (L <+: L2 ∧ ∃ seen, LI wq wr gs base n lv L2 seen ∧ Srch nx (yN ys) n q L2 seen i j ∧ Rd wr Ah nh (u8s ls) ∧ ∀ g o, Ah = some ⟨g, o, none⟩ → g ≠ gs ∧ lv.ownBlock ≠ some g)) (fun _ jv _ => nh - (intOf jv).toNat)
              case atStart =>
                obtain ⟨sn, h1, h2, h3⟩ := HIN.out
                exact ⟨L, 0, Nat.zero_le _, rfl, List.prefix_refl L, sn, h1, h2, h3⟩
              case round =>
                obtain ⟨L2, j, hj, rfl, hin3⟩ := hrel
                obtain ⟨hpre, sn, hli, hsr, hrd, hne⟩ := hin3.out
                obtain ⟨wj, hwj⟩ : ∃ W : World, W = wr := ⟨_, rfl⟩
                subst hwj
                obtain ⟨Al, cl2, hvl⟩ := own_form hli.own
                rw [natsV_len] at hvl
                subst hvl
                have hx2 : L2[i]? = some x := by
                  obtain ⟨M, rfl⟩ := hpre
                  rw [List.getElem?_append_left hlti]
                  exact HX.out
                have HLI3 := hid hli
                have HSR3 := hid hsr
                have HRD3 := hid hrd
                have HNE3 := hid hne
                have HPRE := hid hpre
                have hL2 := hsr.len
                by_cases hltj : j < nh
                · obtain ⟨h0, hh0⟩ : ∃ h0, ls[j]? = some h0 := ⟨_, List.getElem?_eq_getElem (by rw [← HNH.out]; exact hltj)⟩
                  have h256 := HH256.out h0 (List.mem_of_getElem? hh0)
                  obtain ⟨gh, oh, rfl, hgh, hch⟩ := hrd.2 hnh1
                  have xh := hch j (.int .u8 (h0 : Int)) (by unfold u8s; rw [List.getElem?_map, hh0]; rfl)
                  obtain ⟨A', c', e', hrl, -⟩ := rdV_of hli.own
                  rw [natsV_len] at e' hrl
                  cases e'
                  have hiL2 : i < L2.length := (List.getElem?_eq_some_iff.1 hx2).1
                  obtain ⟨gl2, ol2, rfl, hgl2, hcl2⟩ := hrl.2 (by omega)
                  have x2 := hcl2 i (.int .i64 (x : Int)) (by unfold natsV; rw [List.getElem?_map, hx2]; rfl)
                  obtain ⟨row, hrow⟩ : ∃ row, nx[x]? = some row := ⟨_, List.getElem?_eq_getElem (by rw [HNX.out]; exact hxn)⟩
                  have hrl2 := HRL.out x row hrow
                  obtain ⟨to, hto⟩ : ∃ to, row[j]? = some to := ⟨_, List.getElem?_eq_getElem (by rw [hrl2]; exact hltj)⟩
                  have hdl : dN F nx x h0 = to := by
                    unfold dN
                    rw [HFH.out j h0 hh0, List.getD_eq_getElem?_getD, List.getD_eq_getElem?_getD, hrow]
                    show (row[j]?).getD 0 = to
                    rw [hto]
                    rfl
                  have htn : to < n := by have := HDC.out.closed x h0 hxn h256; rw [hdl] at this; exact this
                  have HS := hid (fun W (hW : Below wj.heap.size wj W) => HDC.out.step W x h0 (hli.kp.trans (hW.mono hli.kp.size)) hxn h256)
                  have HLJN := hid (fun W (hW : Below wj.heap.size wj W) => HDC.out.len W (hli.kp.trans (hW.mono hli.kp.size)))
                  rw [hdl] at HS
                  unfold ptr at HS HLJN
                  have HOLD := hid (fun h => hsr.old hx2 hrow hto htn h)
                  have HNEW := hid (fun h => hsr.new hx2 hrow hto htn h)
                  have hti : (to : Int) < (n : Int) := by omega
                  obtain ⟨b, hb⟩ : ∃ b, b = sn to := ⟨_, rfl⟩
                  rw [← hb] at HOLD HNEW
                  have HBV := hid hb
                  clear hin3 hpre hli hsr hrd hne hx2 hh0 hgh hch hrl hgl2 hcl2 hrow hto hdl hb
                  cases b
                  · go_wp2_with (first | (go_at_call 25; (with_reducible refine (HS.out _ (Below.refl _ _)).mono ?_); rintro e w15 ⟨rfl, hb1⟩; have HLJ := hid (HLI3.out.below hb1); have HRJ := hid (HRD3.out.below hb1); have y1 := HLJ.out.bits.cell to htn; rw [← HBV.out] at y1; have HMRK := hid (HLJ.out.mark htn); obtain ⟨wn, hwn⟩ : ∃ W : World, W = w15.setCell ⟨gs, to, none⟩ (.bool true) := ⟨_, rfl⟩; have HWN := hid hwn; have HSZ : Hid (wn.heap.size = w15.heap.size) := hid (by rw [hwn, size_setCell]); rw [← hwn] at HMRK; clear hwn; have y2 := HLJ.out.bits.free to; have HNJ := hid hb1; clear hb1) | (go_at_call 24; (with_reducible refine (HLJN.out _ HNJ.out).mono ?_); rintro e w10 ⟨rfl, rfl⟩) | (at_builtin; go_loud (rw [← HWN.out]; refine wpList_app_one one_no _ (by rfl) (.tmp 89) (.tmp 91) (by rfl) base (.slice (some ⟨gl2, ol2, none⟩) L2.length cl2) (natsV L2) (by rfl) (row_blk HMRK.out.2.1 fun j e => ((Below.refl _ _ : Below wn.heap.size wn wn).alloc (Nat.le_refl _) (.cells #[Value.int IntKind.i64 ↑to] 3)).block j (World.ownsRow.lt HMRK.out.2.1 j e).2) w15.heap.size 1 (.int .i64 (to : Int)) (by rfl) (by rw [← HSZ.out]; exact cell0_new wn (.int .i64 (to : Int)) 3) (by rfl) (by rw [natsV_len]; omega) (Nat.le_trans HMRK.out.2.2.2 (Below.size ((Below.refl _ _ : Below wn.heap.size wn wn).alloc (Nat.le_refl _) (.cells #[Value.int IntKind.i64 ↑to] 3)))) ?_; intro v9 w9 hy9 hg9 hat9; have HL9 := hid (LI.app HMRK.out.1 HMRK.out.2.2.1 HLJ.out.o1 HLJ.out.o2 HMRK.out.2.2.2 HMRK.out.2.1 ((Below.refl _ _ : Below wn.heap.size wn wn).alloc (Nat.le_refl _) (.cells #[Value.int IntKind.i64 ↑to] 3)) hg9 hy9); have HK9 := hid (KeepX.of_grown (X := fun k => k = gs ∨ (Value.slice (some ⟨gl2, ol2, none⟩) L2.length cl2).ownBlock = some k) hg9 fun k e => .inr e); have HAT9 := hid hat9; clear hy9 hg9 hat9)))
                    go_roundw
                    case rel =>
                      have hk1 : KeepX (fun k => k = gs ∨ (Value.slice (some ⟨gl2, ol2, none⟩) L2.length cl2).ownBlock = some k) w15 wn := by rw [HWN.out]; exact KeepX.set_ w15 ⟨gs, to, none⟩ _ (.inl rfl)
                      have hk9 := (hk1.trans (KeepX.of_below ((Below.refl _ _ : Below wn.heap.size wn wn).alloc (Nat.le_refl _) (.cells #[Value.int IntKind.i64 ↑to] 3))) fun _ _ e => e).trans HK9.out fun _ _ e => e
                      have hgh9 : gh < w15.heap.size := by
                        obtain ⟨g, o, e, hg, -⟩ := HRJ.out.2 hnh1
                        cases e
                        exact hg
                      refine ⟨L2 ++ [to], j + 1, by omega, by go_num, HPRE.out.trans (List.prefix_append _ _), bput sn to, HL9.out, HNEW.out (by trivial), rd_keep HRJ.out hk9 fun g o e h => ?_, fun g o e => ⟨(HNE3.out g o e).1, fun e2 => ?_⟩⟩
                      · obtain ⟨h1, h2⟩ := HNE3.out g o e
                        rcases h with h | h
                        · exact h1 h
                        · exact h2 h
                      · rcases HAT9.out with h | h
                        · rw [h] at e2
                          exact (HNE3.out g o e).2 e2
                        · rw [h] at e2
                          cases e
                          have := Option.some.inj e2
                          have h3 := Below.size ((Below.refl _ _ : Below wn.heap.size wn wn).alloc (Nat.le_refl _) (.cells #[Value.int IntKind.i64 ↑to] 3))
                          have := HSZ.out
                          omega
                    case measure => simp [intOf]; omega
                  · go_wp2_with (first | (go_at_call 25; (with_reducible refine (HS.out _ (Below.refl _ _)).mono ?_); rintro e w15 ⟨rfl, hb1⟩; have HLJ := hid (HLI3.out.below hb1); have HRJ := hid (HRD3.out.below hb1); have y1 := HLJ.out.bits.cell to htn; rw [← HBV.out] at y1; have HMRK := hid (HLJ.out.mark htn); obtain ⟨wn, hwn⟩ : ∃ W : World, W = w15.setCell ⟨gs, to, none⟩ (.bool true) := ⟨_, rfl⟩; have HWN := hid hwn; have HSZ : Hid (wn.heap.size = w15.heap.size) := hid (by rw [hwn, size_setCell]); rw [← hwn] at HMRK; clear hwn; have y2 := HLJ.out.bits.free to; have HNJ := hid hb1; clear hb1) | (go_at_call 24; (with_reducible refine (HLJN.out _ HNJ.out).mono ?_); rintro e w10 ⟨rfl, rfl⟩))
                    go_roundw
                    case rel => exact ⟨L2, j + 1, by omega, by go_num, HPRE.out, sn, HLJ.out, HOLD.out (by first | trivial | rfl), HRJ.out, HNE3.out⟩
                    case measure => simp [intOf]; omega
                · have hjn : j = nh := by omega
                  subst hjn
                  have HTURN := hid (hsr.turn fun x' row h1 h2 => Nat.le_of_eq (HRL.out x' row h2))
                  have HF3 : Hid (∀ v, (v = true ↔ ∃ z ∈ L.take (i + 1), yN ys z = true) → (v = true ↔ ∃ z ∈ L2.take (i + 1), yN ys z = true)) := hid (fun v h => by
                    obtain ⟨M, rfl⟩ := hpre
                    rw [List.take_append_of_le_length (by omega)]
                    exact h)
                  clear hin3 hpre hli hsr hrd hne
                  go_wp2_with fail
                  go_roundw
                  case rel => exact ⟨L2, _, i + 1, (List.getElem?_eq_some_iff.1 hx2).1, rfl, by go_num, sn, HLI3.out, HTURN.out, HF3.out _ (by have h := HF2.out; simpa using h)⟩
                  case measure => simp [intOf]; omega
            · have e2 := HFV.out rfl
              subst e2
              clear HFV HFW
              go_wp2_with (first | (go_at_call 28; (with_reducible refine (HY.out _ (Below.refl _ _)).mono ?_); rintro e w13 ⟨rfl, rfl⟩) | (go_at_call 22; refine (HHD.out _ (Below.refl _ _)).mono ?_; rintro e w14 ⟨Ah, ch, rfl, hrd, -, hb1, hfr⟩; have HRD := hid hrd; have HBH := hid hb1; have HFR := hid hfr; clear hrd hb1 hfr))
              have HLI2 := hid (HLI.out.below HBH.out)
              have HIN : Hid (∃ seen, LI wq w14 gs base n (.slice (some ⟨gl, ol, none⟩) L.length cl) L seen ∧ Srch nx (yN ys) n q L seen i 0 ∧ Rd w14 Ah nh (u8s ls) ∧ ∀ g o, Ah = some ⟨g, o, none⟩ → g ≠ gs ∧ (Value.slice (some ⟨gl, ol, none⟩) L.length cl).ownBlock ≠ some g) := hid ⟨seen, HLI2.out, HSR.out, HRD.out, fun g o e => by
                have h1 := HFR.out g o e
                have h2 := HLI.out.o2
                have h3 := HLI.out.o3
                refine ⟨by omega, fun e2 => ?_⟩
                have := (World.ownsRow.lt HLI.out.own g e2).2
                omega⟩
              clear HLI HSR HRD HFR HLI2
              go_loopw [7, 62] (fun lv jv wr => ∃ (L2 : List Nat) (j : Nat), j ≤ nh ∧ jv = .int .i64 j ∧ Hid (L <+: L2 ∧ ∃ seen, LI wq wr gs base n lv L2 seen ∧ Srch nx (yN ys) n q L2 seen i j ∧ Rd wr Ah nh (u8s ls) ∧ ∀ g o, Ah = some ⟨g, o, none⟩ → g ≠ gs ∧ lv.ownBlock ≠ some g)) (fun _ jv _ => nh - (intOf jv).toNat)
              case atStart =>
                obtain ⟨sn, h1, h2, h3⟩ := HIN.out
                exact ⟨L, 0, Nat.zero_le _, rfl, List.prefix_refl L, sn, h1, h2, h3⟩
              case round =>
                obtain ⟨L2, j, hj, rfl, hin3⟩ := hrel
                obtain ⟨hpre, sn, hli, hsr, hrd, hne⟩ := hin3.out
                obtain ⟨wj, hwj⟩ : ∃ W : World, W = wr := ⟨_, rfl⟩
                subst hwj
                obtain ⟨Al, cl2, hvl⟩ := own_form hli.own
                rw [natsV_len] at hvl
                subst hvl
                have hx2 : L2[i]? = some x := by
                  obtain ⟨M, rfl⟩ := hpre
                  rw [List.getElem?_append_left hlti]
                  exact HX.out
                have HLI3 := hid hli
                have HSR3 := hid hsr
                have HRD3 := hid hrd
                have HNE3 := hid hne
                have HPRE := hid hpre
                have hL2 := hsr.len
                by_cases hltj : j < nh
                · obtain ⟨h0, hh0⟩ : ∃ h0, ls[j]? = some h0 := ⟨_, List.getElem?_eq_getElem (by rw [← HNH.out]; exact hltj)⟩
                  have h256 := HH256.out h0 (List.mem_of_getElem? hh0)
                  obtain ⟨gh, oh, rfl, hgh, hch⟩ := hrd.2 hnh1
                  have xh := hch j (.int .u8 (h0 : Int)) (by unfold u8s; rw [List.getElem?_map, hh0]; rfl)
                  obtain ⟨A', c', e', hrl, -⟩ := rdV_of hli.own
                  rw [natsV_len] at e' hrl
                  cases e'
                  have hiL2 : i < L2.length := (List.getElem?_eq_some_iff.1 hx2).1
                  obtain ⟨gl2, ol2, rfl, hgl2, hcl2⟩ := hrl.2 (by omega)
                  have x2 := hcl2 i (.int .i64 (x : Int)) (by unfold natsV; rw [List.getElem?_map, hx2]; rfl)
                  obtain ⟨row, hrow⟩ : ∃ row, nx[x]? = some row := ⟨_, List.getElem?_eq_getElem (by rw [HNX.out]; exact hxn)⟩
                  have hrl2 := HRL.out x row hrow
                  obtain ⟨to, hto⟩ : ∃ to, row[j]? = some to := ⟨_, List.getElem?_eq_getElem (by rw [hrl2]; exact hltj)⟩
                  have hdl : dN F nx x h0 = to := by
                    unfold dN
                    rw [HFH.out j h0 hh0, List.getD_eq_getElem?_getD, List.getD_eq_getElem?_getD, hrow]
                    show (row[j]?).getD 0 = to
                    rw [hto]
                    rfl
                  have htn : to < n := by have := HDC.out.closed x h0 hxn h256; rw [hdl] at this; exact this
                  have HS := hid (fun W (hW : Below wj.heap.size wj W) => HDC.out.step W x h0 (hli.kp.trans (hW.mono hli.kp.size)) hxn h256)
                  have HLJN := hid (fun W (hW : Below wj.heap.size wj W) => HDC.out.len W (hli.kp.trans (hW.mono hli.kp.size)))
                  rw [hdl] at HS
                  unfold ptr at HS HLJN
                  have HOLD := hid (fun h => hsr.old hx2 hrow hto htn h)
                  have HNEW := hid (fun h => hsr.new hx2 hrow hto htn h)
                  have hti : (to : Int) < (n : Int) := by omega
                  obtain ⟨b, hb⟩ : ∃ b, b = sn to := ⟨_, rfl⟩
                  rw [← hb] at HOLD HNEW
                  have HBV := hid hb
                  clear hin3 hpre hli hsr hrd hne hx2 hh0 hgh hch hrl hgl2 hcl2 hrow hto hdl hb
                  cases b
                  · go_wp2_with (first | (go_at_call 25; (with_reducible refine (HS.out _ (Below.refl _ _)).mono ?_); rintro e w15 ⟨rfl, hb1⟩; have HLJ := hid (HLI3.out.below hb1); have HRJ := hid (HRD3.out.below hb1); have y1 := HLJ.out.bits.cell to htn; rw [← HBV.out] at y1; have HMRK := hid (HLJ.out.mark htn); obtain ⟨wn, hwn⟩ : ∃ W : World, W = w15.setCell ⟨gs, to, none⟩ (.bool true) := ⟨_, rfl⟩; have HWN := hid hwn; have HSZ : Hid (wn.heap.size = w15.heap.size) := hid (by rw [hwn, size_setCell]); rw [← hwn] at HMRK; clear hwn; have y2 := HLJ.out.bits.free to; have HNJ := hid hb1; clear hb1) | (go_at_call 24; (with_reducible refine (HLJN.out _ HNJ.out).mono ?_); rintro e w10 ⟨rfl, rfl⟩) | (at_builtin; go_loud (rw [← HWN.out]; refine wpList_app_one one_no _ (by rfl) (.tmp 89) (.tmp 91) (by rfl) base (.slice (some ⟨gl2, ol2, none⟩) L2.length cl2) (natsV L2) (by rfl) (row_blk HMRK.out.2.1 fun j e => ((Below.refl _ _ : Below wn.heap.size wn wn).alloc (Nat.le_refl _) (.cells #[Value.int IntKind.i64 ↑to] 3)).block j (World.ownsRow.lt HMRK.out.2.1 j e).2) w15.heap.size 1 (.int .i64 (to : Int)) (by rfl) (by rw [← HSZ.out]; exact cell0_new wn (.int .i64 (to : Int)) 3) (by rfl) (by rw [natsV_len]; omega) (Nat.le_trans HMRK.out.2.2.2 (Below.size ((Below.refl _ _ : Below wn.heap.size wn wn).alloc (Nat.le_refl _) (.cells #[Value.int IntKind.i64 ↑to] 3)))) ?_; intro v9 w9 hy9 hg9 hat9; have HL9 := hid (LI.app HMRK.out.1 HMRK.out.2.2.1 HLJ.out.o1 HLJ.out.o2 HMRK.out.2.2.2 HMRK.out.2.1 ((Below.refl _ _ : Below wn.heap.size wn wn).alloc (Nat.le_refl _) (.cells #[Value.int IntKind.i64 ↑to] 3)) hg9 hy9); have HK9 := hid (KeepX.of_grown (X := fun k => k = gs ∨ (Value.slice (some ⟨gl2, ol2, none⟩) L2.length cl2).ownBlock = some k) hg9 fun k e => .inr e); have HAT9 := hid hat9; clear hy9 hg9 hat9)))
                    go_roundw
                    case rel =>
                      have hk1 : KeepX (fun k => k = gs ∨ (Value.slice (some ⟨gl2, ol2, none⟩) L2.length cl2).ownBlock = some k) w15 wn := by rw [HWN.out]; exact KeepX.set_ w15 ⟨gs, to, none⟩ _ (.inl rfl)
                      have hk9 := (hk1.trans (KeepX.of_below ((Below.refl _ _ : Below wn.heap.size wn wn).alloc (Nat.le_refl _) (.cells #[Value.int IntKind.i64 ↑to] 3))) fun _ _ e => e).trans HK9.out fun _ _ e => e
                      have hgh9 : gh < w15.heap.size := by
                        obtain ⟨g, o, e, hg, -⟩ := HRJ.out.2 hnh1
                        cases e
                        exact hg
                      refine ⟨L2 ++ [to], j + 1, by omega, by go_num, HPRE.out.trans (List.prefix_append _ _), bput sn to, HL9.out, HNEW.out (by trivial), rd_keep HRJ.out hk9 fun g o e h => ?_, fun g o e => ⟨(HNE3.out g o e).1, fun e2 => ?_⟩⟩
                      · obtain ⟨h1, h2⟩ := HNE3.out g o e
                        rcases h with h | h
                        · exact h1 h
                        · exact h2 h
                      · rcases HAT9.out with h | h
                        · rw [h] at e2
                          exact (HNE3.out g o e).2 e2
                        · rw [h] at e2
                          cases e
                          have := Option.some.inj e2
                          have h3 := Below.size ((Below.refl _ _ : Below wn.heap.size wn wn).alloc (Nat.le_refl _) (.cells #[Value.int IntKind.i64 ↑to] 3))
                          have := HSZ.out
                          omega
                    case measure => simp [intOf]; omega
                  · go_wp2_with (first | (go_at_call 25; (with_reducible refine (HS.out _ (Below.refl _ _)).mono ?_); rintro e w15 ⟨rfl, hb1⟩; have HLJ := hid (HLI3.out.below hb1); have HRJ := hid (HRD3.out.below hb1); have y1 := HLJ.out.bits.cell to htn; rw [← HBV.out] at y1; have HMRK := hid (HLJ.out.mark htn); obtain ⟨wn, hwn⟩ : ∃ W : World, W = w15.setCell ⟨gs, to, none⟩ (.bool true) := ⟨_, rfl⟩; have HWN := hid hwn; have HSZ : Hid (wn.heap.size = w15.heap.size) := hid (by rw [hwn, size_setCell]); rw [← hwn] at HMRK; clear hwn; have y2 := HLJ.out.bits.free to; have HNJ := hid hb1; clear hb1) | (go_at_call 24; (with_reducible refine (HLJN.out _ HNJ.out).mono ?_); rintro e w10 ⟨rfl, rfl⟩))
                    go_roundw
                    case rel => exact ⟨L2, j + 1, by omega, by go_num, HPRE.out, sn, HLJ.out, HOLD.out (by first | trivial | rfl), HRJ.out, HNE3.out⟩
                    case measure => simp [intOf]; omega
                · have hjn : j = nh := by omega
                  subst hjn
                  have HTURN := hid (hsr.turn fun x' row h1 h2 => Nat.le_of_eq (HRL.out x' row h2))
                  have HF3 : Hid (∀ v, (v = true ↔ ∃ z ∈ L.take (i + 1), yN ys z = true) → (v = true ↔ ∃ z ∈ L2.take (i + 1), yN ys z = true)) := hid (fun v h => by
                    obtain ⟨M, rfl⟩ := hpre
                    rw [List.take_append_of_le_length (by omega)]
                    exact h)
                  clear hin3 hpre hli hsr hrd hne
                  go_wp2_with fail
                  go_roundw
                  case rel => exact ⟨L2, _, i + 1, (List.getElem?_eq_some_iff.1 hx2).1, rfl, by go_num, sn, HLI3.out, HTURN.out, HF3.out _ (by have h := HF2.out; simpa using h)⟩
                  case measure => simp [intOf]; omega
          · have hiL : i = L.length := by omega
            subst hiL
            have hdn : f = true ↔ Liv nx (yN ys) q := by
              rw [hf, List.take_length]
              exact hsr.done
            have HDN := hid hdn
            have HLV := hid (HLV1.out wi (q : Int) (HDQ.out.below hli.kp))
            have HBI := hid (HBW.out.trans (hli.kp.mono HBW.out.size))
            unfold ptr at HLV
            clear hin2 hli hsr hf hdn
            go_wp2_with (go_at_call 46; refine HLV.out.mono ?_; rintro e w16 ⟨hda, hkp, b, rfl, hbv⟩; have hbf : b = f := (by have h1 := HDN.out; have h2 : (b = true ↔ Liv nx (yN ys) q) := ⟨fun h => (hbv.1 h).2.2, fun h => hbv.2 ⟨by omega, hqi, h⟩⟩; have h3 := h2.trans h1.symm; cases b <;> cases f <;> simp at h3 <;> rfl); subst hbf; have HDA2 := hid hda; have HBB := hid (HBI.out.trans (hkp.below HBI.out.size fun k hk e => by have := HD8.out; omega)); clear hda hkp hbv)
            go_roundw
            case rel => exact ⟨q + 1, by omega, by go_num, HDA2.out, HBB.out⟩
            case measure => simp [intOf]; omega
      · have hqn : q = n := by omega
        subst hqn
        have HL1 : Hid (∀ W, DfaAt W D F ls nx ys → Below w.heap.size w W → Calls Tryz.prog 46 #[.pointer (some ⟨D, 0, none⟩), .int .i64 (-1)] W fun e w' => e = .returned (.bool false) ∧ DfaAt w' D F ls nx ys ∧ Below w.heap.size w w') := hid (fun W hD hB => (HLV1.out W (-1) hD).mono fun e w' hh => by
          obtain ⟨h1, h2, b, rfl, hb⟩ := hh
          have : b = false := by
            cases b
            · rfl
            · have := (hb.1 rfl).1; omega
          subst this
          exact ⟨rfl, h1, hB.trans (h2.below hB.size fun k hk e => by have := HD8.out; omega)⟩)
        have HL2 : Hid (∀ W, DfaAt W D F ls nx ys → Below w.heap.size w W → Calls Tryz.prog 46 #[.pointer (some ⟨D, 0, none⟩), .int .i64 (q : Int)] W fun e w' => e = .returned (.bool false) ∧ DfaAt w' D F ls nx ys ∧ Below w.heap.size w w') := hid (fun W hD hB => (HLV1.out W (q : Int) hD).mono fun e w' hh => by
          obtain ⟨h1, h2, b, rfl, hb⟩ := hh
          have : b = false := by
            cases b
            · rfl
            · have := (hb.1 rfl).2.1; omega
          subst this
          exact ⟨rfl, h1, hB.trans (h2.below hB.size fun k hk e => by have := HD8.out; omega)⟩)
        go_wp2_with (first | (go_at_call 24; (with_reducible refine (HLN.out _ (by first | exact (Below.refl _ _) | exact ((Below.refl _ _)).drew)).mono ?_); rintro e w10 ⟨rfl, rfl⟩) | (go_at_call 46; (with_reducible refine (HL1.out _ HDQ.out HBW.out).mono ?_); rintro e w16 ⟨rfl, hda, hbw⟩; have HDA3 := hid hda; have HBW3 := hid hbw; have HLN3 := hid (HDC1.out _ hda).len; unfold ptr at HLN3; clear hda hbw) | (go_at_call 24; (with_reducible refine (HLN3.out _ (by first | exact (Below.refl _ _) | exact ((Below.refl _ _)).drew)).mono ?_); rintro e w10 ⟨rfl, rfl⟩) | (go_at_call 46; (with_reducible refine (HL2.out _ HDA3.out HBW3.out).mono ?_); rintro e w16 ⟨rfl, hda, hbw⟩; have HBW4 := hid hbw; clear hda hbw) | (go_at_call 24; refine (HNIL1.out _).mono ?_; rintro e w17 ⟨rfl, rfl⟩) | (go_at_call 25; refine (HNIL2.out _).mono ?_; rintro e w17 ⟨rfl, rfl⟩) | (go_at_call 17; refine (HNIL3.out _).mono ?_; rintro e w17 ⟨rfl, hb1⟩; have HBW5 := hid (HBW4.out.trans (hb1.mono HBW4.out.size)); clear hb1) | (go_at_call 22; refine (HNIL4.out _).mono ?_; rintro e w17 ⟨rfl, rfl⟩) | (go_at_call 46; refine (HNIL5.out _).mono ?_; rintro e w17 ⟨rfl, rfl⟩))
        go_ret
        exact ⟨rfl, HBW5.out⟩
end Go.Proofs.YtaplejpjmaocdaaGreatDoor
