/- The walk of AutoGroups. -/
import Derived.Test.YtaplejpjmaocdaaGreatDoorPkV
import Derived.Test.YtaplejpjmaocdaaGreatDoorFixP
import Derived.BigQuiet
namespace Go.Proofs.YtaplejpjmaocdaaGreatDoor
open Go.RowKit Go.Maps

theorem least_some (r : Re) (hg : Good r) (hsz : r.size ≤ 1000000) (left : Nat) (hl : left ≤ 1000000) {all : List Re} {nx : List (List Nat)} {l' : Nat} (hq : buildR ((refineR (setsR r)).map leastN) r left = some (all, nx, l')) (w0 W : World) (b : Nat) (hx : ReAt w0 X0 r b) (hb : Below w0.heap.size w0 W) (hB : BudAt W w0.heap.size left 0) (hT : Tab W) :
    Calls Tryz.prog 42 #[ptr b, ptr w0.heap.size] W fun e w' => Below w0.heap.size w0 w' ∧ ∃ al G : List Nat, e = .returned (.tuple #[.int .i64 (G.length : Int), .int .i64 0]) ∧ GroupsOk (dN (Fr r) nx) (yN (all.map Re.null)) ((refineR (setsR r)).map leastN) all.length al G :=
  (aleast_any r b w0.heap.size left W ((hx.also (Y := fun k => k = w0.heap.size) fun k e hlt => by omega).under hb) hg hsz hB hl hT).mono fun e w' hh => by
    obtain ⟨hkp, hw⟩ := hh
    refine ⟨hb.trans (hkp.below hb.size fun k hk e => by omega), ?_⟩
    unfold ALRet at hw
    rw [hq] at hw
    exact hw
/-- What a call of Build with a new budget comes to. -/
def GBuilt (w0 : World) (r : Re) (left : Nat) (e : Ending) (w' : World) : Prop :=
  Below w0.heap.size w0 w' ∧ match buildR ((refineR (setsR r)).map leastN) r left with
    | none => e = .returned (.tuple #[.pointer none, .int .i64 5]) ∧ ∃ l' u', BudAt w' w0.heap.size l' u' ∧ u' ≤ left
    | some (all, nx, left') => BudAt w' w0.heap.size left' (left - left') ∧ ∃ D, e = .returned (.tuple #[ptr D, .int .i64 0]) ∧ DfaAt w' D (Fr r) ((refineR (setsR r)).map leastN) nx (all.map Re.null)
theorem gbuilt_any (r : Re) (hg : Good r) (hsz : r.size ≤ 1000000) (left : Nat) (hl : left ≤ 1000000) (w0 w : World) (b : Nat) (h : ReAt w0 X0 r b) (hb : Below w0.heap.size w0 w) (hB : BudAt w w0.heap.size left 0) (hT : Tab w) :
    Calls Tryz.prog 13 #[ptr b, ptr w0.heap.size] w (GBuilt w0 r left) :=
  (build_any r b w0.heap.size left 0 w ((h.also (Y := fun k => k = w0.heap.size) fun k e hlt => by omega).under hb) hg hsz hB hl (by omega) hT).mono fun e w' hh => by
    obtain ⟨hk, hh⟩ := hh
    refine ⟨hb.trans (hk.below hb.size fun k hk e => by omega), ?_⟩
    cases hq : buildR ((refineR (setsR r)).map leastN) r left with
    | none => rw [hq] at hh; obtain ⟨h1, l', u', h2, h3⟩ := hh; exact ⟨h1, l', u', h2, by omega⟩
    | some t =>
      obtain ⟨all, nx, left'⟩ := t
      rw [hq] at hh
      obtain ⟨h1, D, h2, -, h3⟩ := hh
      rw [Nat.zero_add] at h1
      exact ⟨h1, D, h2, h3⟩
set_option maxRecDepth 100000 in
theorem info_bools : (Tryz.prog.info? 65).map (fun i => (i.zero, i.size, i.bytes)) = some (some (.slice none 0 0), 1, 24) := by kernel_rfl
set_option maxRecDepth 100000 in
theorem info_bool : (Tryz.prog.info? 4).map (fun i => (i.zero, i.size, i.bytes)) = some (some (.bool false), 1, 1) := by kernel_rfl
/-- How the rows lie while they are made. -/
structure GM (w5 w : World) (g n k : Nat) (f : Nat → Nat) (m : Bits) (V : Nat → Nat → Prop) (yes : Nat → Bool) : Prop where
  mat : MatU w g n k f m
  val : ∀ p q, V p q → m p q = (yes p != yes q)
  kp : Below w5.heap.size w5 w
  og : w5.heap.size ≤ g
  of : ∀ p, p < k → w5.heap.size ≤ f p
/-- .. and when they are made. -/
structure GF (δ : Nat → Nat → Nat) (yes : Nat → Bool) (hs : List Nat) (w5 w : World) (g n : Nat) (f : Nat → Nat) (m : Bits) : Prop where
  mat : Mat w g n f m
  kp : Below w5.heap.size w5 w
  of : ∀ p, p < n → w5.heap.size ≤ f p
section
variable {δ : Nat → Nat → Nat} {yes : Nat → Bool} {hs : List Nat} {n k : Nat} {w5 w w' : World} {g : Nat} {f : Nat → Nat} {m : Bits} {V : Nat → Nat → Prop}
theorem GM.below (h : GM w5 w g n k f m V yes) (hb : Below w.heap.size w w') : GM w5 w' g n k f m V yes := { h with mat := h.mat.below hb, kp := h.kp.trans (hb.mono h.kp.size) }
theorem GF.below (h : GF δ yes hs w5 w g n f m) (hb : Below w.heap.size w w') : GF δ yes hs w5 w' g n f m := { h with mat := h.mat.below hb, kp := h.kp.trans (hb.mono h.kp.size) }
theorem GF.put (h : GF δ yes hs w5 w g n f m) {p q : Nat} (hp : p < n) : GF δ yes hs w5 (w.setCell ⟨f p, q, none⟩ (.bool true)) g n f (bset m p q) :=
  ⟨h.mat.put hp, h.kp.trans (set_below (f := f) q (.bool true) (h.of p hp) h.kp.size), h.of⟩
theorem GM.more (h : GM w5 w g n k f m V yes) (hb : Below w.heap.size w w') (b : Nat) (hbk : w.heap.size ≤ b) (h1 : w'.heap[b]? = some (.cells (fnA n fun _ => .bool false) 4 (0, 0))) (hV : ∀ p q, V p q → p < k) :
    GM w5 (w'.setCell ⟨g, k, none⟩ (.slice (some ⟨b, 0, none⟩) n n)) g n (k + 1) (fun p => if p = k then b else f p) (fun p q => if p = k then false else m p q) V yes where
  mat := h.mat.more hb b hbk h1
  val p q hv := by
    have := hV p q hv
    have e : ¬ p = k := by omega
    simp only [e, if_false]
    exact h.val p q hv
  kp := (h.kp.trans (hb.mono h.kp.size)).trans (KeepX.below (KeepX.set_ (X := fun j => j = g) w' ⟨g, k, none⟩ _ rfl) (Nat.le_trans h.kp.size hb.size) fun j hj e => by have := h.og; omega)
  og := h.og
  of p hp := by
    have h0 := h.kp.size
    by_cases e : p = k <;> simp only [e, if_true, if_false]
    · omega
    · exact h.of p (by omega)
theorem GM.put {q : Nat} (h : GM w5 w g n (k + 1) f m (fun p q' => p < k ∧ q' < n ∨ p = k ∧ q' < q) yes) : GM w5 (w.setCell ⟨f k, q, none⟩ (.bool (yes k != yes q))) g n (k + 1) f (fun x y => if x = k ∧ y = q then (yes k != yes q) else m x y) (fun p q' => p < k ∧ q' < n ∨ p = k ∧ q' < q + 1) yes where
  mat := h.mat.put _
  val p q' hv := by
    by_cases e : p = k ∧ q' = q
    · rw [if_pos e, e.1, e.2]
    · simp only [e, if_false]
      exact h.val p q' (by omega)
  kp := h.kp.trans (set_below (f := f) q _ (h.of k (by omega)) h.kp.size)
  og := h.og
  of := h.of
end
theorem rd_set {w : World} {A : Option Addr} {n : Nat} {xs : List Value} (h : Rd w A n xs) (b i : Nat) (v : Value) (hb : ∀ g o, A = some ⟨g, o, none⟩ → g ≠ b) : Rd (w.setCell ⟨b, i, none⟩ v) A n xs := by
  refine ⟨h.1, fun hn => ?_⟩
  obtain ⟨g, o, e, hg, hc⟩ := h.2 hn
  exact ⟨g, o, e, by rw [size_setCell]; exact hg, fun j u hu => (World.cell?_setCell_other w ⟨b, i, none⟩ ⟨g, o + j, none⟩ v (fun e' => hb g o e (congrArg Addr.block e').symm)).trans (hc j u hu)⟩
theorem cnt_step {δ : Nat → Nat → Nat} {yes : Nat → Bool} {hs : List Nat} {n p c : Nat} {al G : List Nat} (h : Cnt G p c) (ho : GroupsOk δ yes hs n al G) (hp : p < n) (hc : c ≤ p) : aN al p ≤ c ∧ ∃ c', c' = (if aN al p = c then c + 1 else c) ∧ Cnt G (p + 1) c' ∧ c' ≤ p + 1 := by
  have hg : al[p]? = some (aN al p) := by
    have hl : p < al.length := by rw [ho.len]; exact hp
    unfold aN
    rw [List.getD_eq_getElem?_getD, List.getElem?_eq_getElem hl]
    rfl
  obtain ⟨h1, h2⟩ := h.step ho hp hg
  exact ⟨h1, _, rfl, h2, by split <;> omega⟩
open Classical in
set_option maxRecDepth 100000 in
set_option maxHeartbeats 16000000 in
theorem autoGroups_any (s : Shp) (A : Option Addr) (c : Nat) (w : World) (hs : ShAt w s (A, c)) (hT : Tab w) :
    Calls Tryz.prog 8 #[s.val A c] w fun e w' => e = .returned (.bool true) ∧ Below w.heap.size w w' := by
  have HFE := hid (fun W (hW : Below w.heap.size w W) => few_any s A c W (hs.under hW))
  obtain ⟨fs, hfs⟩ : ∃ b, b = s.few := ⟨_, rfl⟩
  have HFS := hid hfs
  rw [← hfs] at HFE
  have HW := hid hs
  have HT := hid hT
  clear hs hfs hT
  unfold Shp.val at *
  go_enter Tryz.func8, Tryz.ntmps8
  go_wp2_with fail
  obtain ⟨w2, hw2⟩ : ∃ w2 : World, w2 = w.alloc (.cells #[Value.int IntKind.i64 s.op, Value.int IntKind.u8 ↑s.low, Value.int IntKind.u8 ↑s.high, Value.string s.text, Value.slice A s.kids.length c] 24) := ⟨_, rfl⟩
  rw [← hw2]
  have HB2 : Hid (Below w.heap.size w w2) := hid (by rw [hw2]; exact (Below.refl _ _).alloc (Nat.le_refl _) _)
  have hk1 : w2.heap[w.heap.size]? = some (.cells #[Value.int IntKind.i64 s.op, Value.int IntKind.u8 ↑s.low, Value.int IntKind.u8 ↑s.high, Value.string s.text, Value.slice A s.kids.length c] 24) := by rw [hw2]; exact blk_new w _
  have HBX : Hid (∀ W, Below w2.heap.size w2 W → W.cell? ⟨w.heap.size, 0, none⟩ = some (.int .i64 s.op) ∧ W.cell? ⟨w.heap.size, 1, none⟩ = some (.int .u8 s.low) ∧ W.cell? ⟨w.heap.size, 2, none⟩ = some (.int .u8 s.high) ∧ W.cell? ⟨w.heap.size, 3, none⟩ = some (.string s.text) ∧ W.cell? ⟨w.heap.size, 4, none⟩ = some (.slice A s.kids.length c)) := fun W hW => by
    have h1 := blk_below hk1 hW
    exact ⟨(blk_cell h1 0).trans (by simp), (blk_cell h1 1).trans (by simp), (blk_cell h1 2).trans (by simp), (blk_cell h1 3).trans (by simp), (blk_cell h1 4).trans (by simp)⟩
  have HNOW : Hid (Below w2.heap.size w2 w2) := Below.refl _ _
  have HHE := hid (head7_any w2 (HT.out.below HB2.out))
  clear hw2 hk1
  cases fs
  · go_wp2_with (first | (go_at_call 30; refine HHE.out.mono ?_; rintro e w3 ⟨rfl, hb1⟩; (first | (have hb1 := undrew hb1) | skip); have HNOW := hid (HNOW.out.trans (hb1.mono HNOW.out.size)); obtain ⟨x0, x1, x2, x3, x4⟩ := HBX.out _ HNOW.out; clear hb1) | (go_at_call 12; refine (HFE.out _ (HB2.out.trans (HNOW.out.mono HB2.out.size))).mono ?_; rintro e w4 ⟨rfl, hb1⟩; (first | (have hb1 := undrew hb1) | skip); have HNOW := hid (HNOW.out.trans (hb1.mono HNOW.out.size)); obtain ⟨x0, x1, x2, x3, x4⟩ := HBX.out _ HNOW.out; clear hb1))
    go_ret
    exact ⟨rfl, HB2.out.trans (HNOW.out.mono HB2.out.size)⟩
  have HMS : Hid (∀ W, Below w.heap.size w W → Calls Tryz.prog 14 #[.agg #[.int .i64 s.op, .int .u8 s.low, .int .u8 s.high, .string s.text, .slice A s.kids.length c]] W (RetRe W X0 s.make)) := fun W hW => make_any s A c X0 W (HW.out.under hW) (X0_lt W) (Shp.few_small HFS.out.symm).2 (Nat.le_trans (Shp.few_small HFS.out.symm).1 (by decide))
  have hxs : s.make.size ≤ 660 := few_size HFS.out.symm
  have hgd : Good s.make := Shp.make_good s
  have HGR := hid (fun (w : World) => grant_any 40 40 rfl w)
  have HBU := hid (fun w0 W b (h : ReAt w0 X0 s.make b) hb hB hT => gbuilt_any s.make hgd (by omega) 40 (by decide) w0 W b h hb hB hT)
  unfold GBuilt at HBU
  cases hq : buildR ((refineR (setsR s.make)).map leastN) s.make 40 with
  | none =>
    rw [hq] at HBU
    clear hq
    go_wp2_with (first | (go_at_call 30; refine HHE.out.mono ?_; rintro e w3 ⟨rfl, hb1⟩; (first | (have hb1 := undrew hb1) | skip); have HNOW := hid (HNOW.out.trans (hb1.mono HNOW.out.size)); obtain ⟨x0, x1, x2, x3, x4⟩ := HBX.out _ HNOW.out; clear hb1) | (go_at_call 12; refine (HFE.out _ (HB2.out.trans (HNOW.out.mono HB2.out.size))).mono ?_; rintro e w4 ⟨rfl, hb1⟩; (first | (have hb1 := undrew hb1) | skip); have HNOW := hid (HNOW.out.trans (hb1.mono HNOW.out.size)); obtain ⟨x0, x1, x2, x3, x4⟩ := HBX.out _ HNOW.out; clear hb1) | (go_at_call 14; refine (HMS.out _ (HB2.out.trans (HNOW.out.mono HB2.out.size))).mono ?_; rintro e w5 ⟨bx, rfl, hre, hb1⟩; have HRX := hid hre; (first | (have hb1 := undrew hb1) | skip); have HNOW := hid (HNOW.out.trans (hb1.mono HNOW.out.size)); obtain ⟨x0, x1, x2, x3, x4⟩ := HBX.out _ HNOW.out; clear hb1; clear hre) | (go_at_call 15; refine (HGR.out _).mono ?_; rintro e w7 ⟨rfl, h7, hb1⟩; have HBD := hid (HBU.out _ _ _ HRX.out hb1 h7 (HT.out.below (HB2.out.trans ((HNOW.out.trans (hb1.mono HNOW.out.size)).mono HB2.out.size)))); clear h7 hb1) | (go_at_call 13; refine HBD.out.mono ?_; rintro e w8 ⟨hb1, rfl, l8, u8, hbud, hu8⟩; (first | (have hb1 := undrew hb1) | skip); have HNOW := hid (HNOW.out.trans (hb1.mono HNOW.out.size)); obtain ⟨x0, x1, x2, x3, x4⟩ := HBX.out _ HNOW.out; clear hb1; clear hbud))
    go_ret
    exact ⟨rfl, HB2.out.trans (HNOW.out.mono HB2.out.size)⟩
  | some t =>
    obtain ⟨all, nx, left'⟩ := t
    rw [hq] at HBU
    have hok := dfa_ok hq (by omega)
    obtain ⟨-, hout, hcov⟩ := refine_facts (setsR s.make)
    have hlen := out_len hout hcov
    have h1 : 0 < all.length := (List.getElem?_eq_some_iff.1 (build_ok hq).2.2.1).1
    have hnm : all.length ≤ 40 := by have := (build_ok hq).2.2.2; omega
    have hyl : (all.map Re.null).length = all.length := List.length_map ..
    have hpos : 0 < ((refineR (setsR s.make)).map leastN).length := Nat.lt_of_le_of_lt (Nat.zero_le _) (hok.at_ 0 (by omega))
    have HLS := hid (fun w0 W b (h : ReAt w0 X0 s.make b) hb hB hT => least_some s.make hgd (by omega) 40 (by decide) hq w0 W b h hb hB hT)
    have HGE := hid (fun al al' G G' h1 h2 => Nat.le_antisymm (groups_le hgd hgd (fun _ => Iff.rfl) hq hq (al := al) (al' := al') (G := G) (G' := G') h1 h2) (groups_le hgd hgd (fun _ => Iff.rfl) hq hq h2 h1))
    obtain ⟨n, hn⟩ : ∃ n, n = all.length := ⟨_, rfl⟩
    have HDC0 : Hid (∀ D W, DfaAt W D (Fr s.make) ((refineR (setsR s.make)).map leastN) nx (all.map Re.null) → DCon W D n (dN (Fr s.make) nx) (yN (all.map Re.null))) := hid (fun D W hD => by
      have hc := hD.con hok (built_closed hq)
      rw [hyl, ← hn] at hc
      exact hc)
    have HH256 : Hid (∀ x ∈ (refineR (setsR s.make)).map leastN, x < 256) := hid (fun x hx => by
      obtain ⟨p, hp, rfl⟩ := List.mem_map.1 hx
      exact (least_has p (hout.ne p hp)).2)
    have HHD0 : Hid (∀ D W, DfaAt W D (Fr s.make) ((refineR (setsR s.make)).map leastN) nx (all.map Re.null) → Calls Tryz.prog 22 #[ptr D] W fun e w' => ∃ A c, e = .returned (.slice A ((refineR (setsR s.make)).map leastN).length c) ∧ Rd w' A ((refineR (setsR s.make)).map leastN).length (u8s ((refineR (setsR s.make)).map leastN)) ∧ Below W.heap.size W w') := hid (fun D W hD => (dheads_any D (Fr s.make) ((refineR (setsR s.make)).map leastN) nx (all.map Re.null) hok (by rw [List.length_map]; exact hlen) W hD).mono fun e w' hh => by
          obtain ⟨A, c, h1, h2, -, h3⟩ := hh
          exact ⟨A, c, h1, h2, h3⟩)
    have HGR2 : Hid (∀ D W, DfaAt W D (Fr s.make) ((refineR (setsR s.make)).map leastN) nx (all.map Re.null) → Calls Tryz.prog 41 #[ptr D] W fun e w' => ∃ (g : Nat) (al G : List Nat), e = .returned (.slice (some ⟨g, 0, none⟩) n n) ∧ NumsAt w' g n al ∧ GroupsOk (dN (Fr s.make) nx) (yN (all.map Re.null)) ((refineR (setsR s.make)).map leastN) n al G ∧ Below W.heap.size W w') := hid (fun D W hD =>
      groups_any D n _ (dN (Fr s.make) nx) (yN (all.map Re.null)) ((refineR (setsR s.make)).map leastN) W (HDC0.out D W hD) (by omega) (by omega) rfl hpos (by rw [List.length_map]; exact hlen) HH256.out fun W' hW' => HHD0.out D W' (hD.below hW'))
    have HB8 : Hid (∀ w0 W b, ReAt w0 X0 s.make b → Below w0.heap.size w0 W → BudAt W w0.heap.size 40 0 → Tab W → Calls Tryz.prog 13 #[ptr b, ptr w0.heap.size] W fun e w' => Below w0.heap.size w0 w' ∧ BudAt w' w0.heap.size left' (40 - left') ∧ ∃ D, e = .returned (.tuple #[ptr D, .int .i64 0]) ∧ DfaAt w' D (Fr s.make) ((refineR (setsR s.make)).map leastN) nx (all.map Re.null)) := HBU
    have HBU := HB8
    obtain ⟨δ, hδ⟩ : ∃ δ, δ = dN (Fr s.make) nx := ⟨_, rfl⟩
    obtain ⟨yes, hyes⟩ : ∃ yes, yes = yN (all.map Re.null) := ⟨_, rfl⟩
    have hn1 : 0 < n := by omega
    have hn2 : n ≤ 40 := by omega
    obtain ⟨ls, hls⟩ : ∃ hs, hs = (refineR (setsR s.make)).map leastN := ⟨_, rfl⟩
    obtain ⟨nh, hnh⟩ : ∃ nh, nh = ls.length := ⟨_, rfl⟩
    have hnh2 : nh ≤ 256 := by rw [hnh, hls, List.length_map]; exact hlen
    have hnh1 : 0 < nh := by rw [hnh, hls]; exact hpos
    simp only [← hn, ← hδ, ← hyes, ← hls, ← hnh] at HGR2 HLS HGE HDC0 HHD0 HBU HH256
    have HNH := hid hnh
    obtain ⟨i0, hi0, hz0, hz1, hz2⟩ := info_parts info_bools
    have hi8 : i0.bytes * n ≤ 281474976710656 := by rw [hz2]; omega
    obtain ⟨i1, hj0, hy0, hy1, hy2⟩ := info_parts info_bool
    have hj8 : i1.bytes * n ≤ 281474976710656 := by rw [hy2]; omega
    clear hok hout hcov hlen h1 hq hyl hnm hn hpos hδ hyes hls hnh hgd hxs HB8
    unfold ptr at *
    go_wp2_with (first | (go_at_call 30; refine HHE.out.mono ?_; rintro e w3 ⟨rfl, hb1⟩; (first | (have hb1 := undrew hb1) | skip); have HNOW := hid (HNOW.out.trans (hb1.mono HNOW.out.size)); obtain ⟨x0, x1, x2, x3, x4⟩ := HBX.out _ HNOW.out; clear hb1) | (go_at_call 12; refine (HFE.out _ (HB2.out.trans (HNOW.out.mono HB2.out.size))).mono ?_; rintro e w4 ⟨rfl, hb1⟩; (first | (have hb1 := undrew hb1) | skip); have HNOW := hid (HNOW.out.trans (hb1.mono HNOW.out.size)); obtain ⟨x0, x1, x2, x3, x4⟩ := HBX.out _ HNOW.out; clear hb1) | (go_at_call 14; refine (HMS.out _ (HB2.out.trans (HNOW.out.mono HB2.out.size))).mono ?_; rintro e w5 ⟨bx, rfl, hre, hb1⟩; have HRX := hid hre; (first | (have hb1 := undrew hb1) | skip); have HNOW := hid (HNOW.out.trans (hb1.mono HNOW.out.size)); obtain ⟨x0, x1, x2, x3, x4⟩ := HBX.out _ HNOW.out; clear hb1; clear hre) | (go_at_call 15; refine (HGR.out _).mono ?_; rintro e w7 ⟨rfl, h7, hb1⟩; have HBD := hid (HBU.out _ _ _ HRX.out hb1 h7 (HT.out.below (HB2.out.trans ((HNOW.out.trans (hb1.mono HNOW.out.size)).mono HB2.out.size)))); clear h7 hb1) | (go_at_call 13; refine HBD.out.mono ?_; rintro e w8 ⟨hb1, hbud, D, rfl, hd7⟩; have HRX := hid (HRX.out.under hb1); (first | (have hb1 := undrew hb1) | skip); have HNOW := hid (HNOW.out.trans (hb1.mono HNOW.out.size)); obtain ⟨x0, x1, x2, x3, x4⟩ := HBX.out _ HNOW.out; clear hb1; have HDA := hid hd7; have HG := hid (HGR2.out D w8 hd7); unfold ptr at HG; clear hbud hd7) | (go_at_call 41; refine HG.out.mono ?_; rintro e w9 ⟨ga, al, G, rfl, ha, ho, hb1⟩; have HA := hid ha; have HO := hid ho; have HRX := hid (HRX.out.under hb1); have HDC := hid ((HDC0.out D w8 HDA.out).under hb1); have HDD := hid (HDA.out.below hb1); have HLEN := hid (HDC.out.len w9 (Below.refl _ _)); unfold ptr at HLEN; (first | (have hb1 := undrew hb1) | skip); have HNOW := hid (HNOW.out.trans (hb1.mono HNOW.out.size)); obtain ⟨x0, x1, x2, x3, x4⟩ := HBX.out _ HNOW.out; clear hb1; clear ha ho) | (go_at_call 24; refine HLEN.out.mono ?_; rintro e w10 ⟨rfl, rfl⟩) | (at_make; refine wpList_make_full _ rfl (.tmp 48) (.tmp 48) 64 rfl w9.heap.size 65 i0 (.slice none 0 0) 1 Tryz.underlying64 hi0 hz0 hz1 .i64 .i64 _ _ n rfl rfl rfl rfl hi8 (by unfold maxLen; omega) (Nat.le_refl _) ?_; intro w11 ho hg; have HMK := hid (made_fn (z := .slice none 0 0) rfl ho); have HMB := hid (below_none hg); clear ho hg))
    obtain ⟨ga2, hga2⟩ : ∃ g, g = w9.heap.size := ⟨_, rfl⟩
    rw [← hga2] at HMK ⊢
    have HGM0 : Hid (GM w9 w11 ga2 n 0 (fun _ => 0) (fun _ _ => false) (fun p q => p < 0 ∧ q < n) yes) := hid
      { mat := ⟨HMK.out, fun p hp => absurd hp (Nat.not_lt_zero _), fun p q hp => absurd hp (Nat.not_lt_zero _), fun p hp => absurd hp (Nat.not_lt_zero _)⟩
        val := fun p q h => absurd h.1 (Nat.not_lt_zero _), kp := HMB.out, og := Nat.le_of_eq hga2.symm, of := fun p hp => absurd hp (Nat.not_lt_zero _) }
    clear HMK HMB hga2
    go_loopw [52] (fun kv wr => ∃ k : Nat, k ≤ n ∧ kv = .int .i64 k ∧ Hid (∃ f m, GM w9 wr ga2 n k f m (fun p q => p < k ∧ q < n) yes)) (fun kv _ => n - (intOf kv).toNat)
    case atStart => exact ⟨0, Nat.zero_le _, rfl, _, _, HGM0.out⟩
    case round =>
      obtain ⟨k, hk, rfl, hin⟩ := hrel
      obtain ⟨f, m, hgm⟩ := hin.out
      obtain ⟨wp, hwp⟩ : ∃ W : World, W = wr := ⟨_, rfl⟩
      subst hwp
      have HGM := hid hgm
      clear hin hgm
      by_cases hlt : k < n
      · go_wp2_with ((at_make; refine wpList_make_full _ rfl (.tmp 57) (.tmp 57) 65 rfl wp.heap.size 4 i1 (.bool false) 1 Tryz.underlying65 hj0 hy0 hy1 .i64 .i64 _ _ n rfl rfl rfl rfl hj8 (by unfold maxLen; omega) (Nat.le_refl _) ?_; intro w12 ho hg; have hmk := made_fn (z := .bool false) rfl ho; have hmb := below_none hg; clear ho hg; obtain ⟨gb, hgb⟩ : ∃ g, g = wp.heap.size := ⟨_, rfl⟩; rw [← hgb] at hmk ⊢; have HN2 := hid (HGM.out.more hmb gb (Nat.le_of_eq hgb.symm) hmk (fun p q h => h.1)); have d1 := blk_free (blk_below HGM.out.mat.top hmb) k; obtain ⟨d2, hd2⟩ : ∃ v, w12.cell? ⟨ga2, k, none⟩ = some v := ⟨_, (blk_cell (blk_below HGM.out.mat.top hmb) k).trans (fnA_get hlt)⟩; have d3 : (w12.setCell ⟨ga2, k, none⟩ (.slice (some ⟨gb, 0, none⟩) n n)).cell? ⟨ga2, k, none⟩ = some (.slice (some ⟨gb, 0, none⟩) n n) := (HN2.out.mat.cells (p := k) (q := k) (by omega) (by omega) hlt).1.trans (by simp); clear hmk hmb hgb))
        obtain ⟨f2, hf2⟩ : ∃ f2 : Nat → Nat, f2 = fun p => if p = k then gb else f p := ⟨_, rfl⟩
        rw [← hf2] at HN2
        have HN3 : Hid (∃ m, GM w9 (w12.setCell ⟨ga2, k, none⟩ (.slice (some ⟨gb, 0, none⟩) n n)) ga2 n (k + 1) f2 m (fun p q => p < k ∧ q < n ∨ p = k ∧ q < 0) yes) := hid ⟨_, { HN2.out with val := fun p q h => HN2.out.val p q (by omega) }⟩
        have hgk : f2 k = gb := by rw [hf2]; simp
        clear HN2 hf2 d1 hd2
        go_loopw [65] (fun jv wr => ∃ j : Nat, j ≤ n ∧ jv = .int .i64 j ∧ Hid (∃ m, GM w9 wr ga2 n (k + 1) f2 m (fun p q => p < k ∧ q < n ∨ p = k ∧ q < j) yes)) (fun jv _ => n - (intOf jv).toNat)
        case atStart => exact ⟨0, Nat.zero_le _, rfl, HN3.out⟩
        case round =>
          obtain ⟨j, hj, rfl, hin2⟩ := hrel
          obtain ⟨m2, hgm2⟩ := hin2.out
          obtain ⟨wq, hwq⟩ : ∃ W : World, W = wr := ⟨_, rfl⟩
          subst hwq
          have HGQ := hid hgm2
          clear hin2 hgm2
          by_cases hlt2 : j < n
          · obtain ⟨e1, e2, e3⟩ := HGQ.out.mat.cells (p := k) (q := j) (by omega) (by omega) hlt2
            have HPUT := hid (HGQ.out.put (q := j))
            have HPUTD := hid ((HGQ.out.below (Below.refl _ _).drew).put (q := j))
            have HY1 := hid (fun W (hW : Below wq.heap.size wq W) => HDC.out.yes W k (HGQ.out.kp.trans (hW.mono HGQ.out.kp.size)) hlt)
            have HY2 := hid (fun W (hW : Below wq.heap.size wq W) => HDC.out.yes W j (HGQ.out.kp.trans (hW.mono HGQ.out.kp.size)) hlt2)
            unfold ptr at HY1 HY2
            rw [hgk] at e1 e2 e3 HPUT HPUTD
            have hne := HGQ.out.mat.ne k (by omega)
            rw [hgk] at hne
            have HKEEP : Hid (∀ v, (wq.setCell ⟨gb, j, none⟩ v).cell? ⟨ga2, k, none⟩ = some (.slice (some ⟨gb, 0, none⟩) n n) ∧ (wq.setCell ⟨gb, j, none⟩ v).drew.cell? ⟨ga2, k, none⟩ = some (.slice (some ⟨gb, 0, none⟩) n n)) := hid (fun v => by
              have h := (World.cell?_setCell_other wq ⟨gb, j, none⟩ ⟨ga2, k, none⟩ v (fun e => hne (congrArg Addr.block e))).trans e1
              exact ⟨h, h⟩)
            clear hne
            obtain ⟨yk, hyk⟩ : ∃ b, b = yes k := ⟨_, rfl⟩
            obtain ⟨yj, hyj⟩ : ∃ b, b = yes j := ⟨_, rfl⟩
            rw [← hyk] at HY1 HPUT HPUTD
            rw [← hyj] at HY2 HPUT HPUTD
            clear hyk hyj
            cases yk <;> cases yj
            all_goals
              go_wp2_with fail
              go_region_held3 (fun w' => w'.cell? ⟨ga2, k, none⟩ = some (.slice (some ⟨gb, 0, none⟩) n n)) (first | exact e1 | exact (HKEEP.out _).1 | exact (HKEEP.out _).2 | go_keep) (first | (go_at_call 28; (with_reducible refine (HY1.out _ (by first | exact Below.refl _ _ | exact (Below.refl _ _).drew)).mono ?_); rintro e w13 ⟨rfl, rfl⟩) | (go_at_call 28; (with_reducible refine (HY2.out _ (by first | exact Below.refl _ _ | exact (Below.refl _ _).drew)).mono ?_); rintro e w13 ⟨rfl, rfl⟩))
              all_goals
                go_wp2_with fail
                go_roundw
                case rel => exact ⟨j + 1, by omega, by go_num, _, by first | exact HPUT.out | exact HPUTD.out⟩
                case measure => simp [intOf]; omega
          · go_wp2_with fail
            go_roundw
            case rel => exact ⟨k + 1, by omega, by go_num, f2, m2, { HGQ.out with val := fun p q h => HGQ.out.val p q (by omega) }⟩
            case measure => simp [intOf]; omega
      · have hkn : k = n := by omega
        subst hkn
        have HF0 : Hid (∃ m, GF δ yes ls w9 wp ga2 k f m ∧ Snd δ yes ls k m) := hid ⟨m, ⟨HGM.out.mat.mat, HGM.out.kp, HGM.out.of⟩, Snd.start m fun p q hp hq => HGM.out.val p q ⟨hp, hq⟩⟩
        have HHD := hid (fun W (hW : Below w9.heap.size w9 W) => HHD0.out D W (HDD.out.below hW))
        unfold ptr at HHD
        clear HGM hlt
        go_wp2_with fail
        go_loopw [11] (fun bv wr => ∃ b : Bool, bv = .bool b ∧ Hid (∃ m, GF δ yes ls w9 wr ga2 k f m ∧ Snd δ yes ls k m ∧ (b = false → Clo δ ls k m fun p _ _ => p < k))) (fun bv wr => left_ ga2 k wr + (if bv = .bool true then 1 else 0))
        case atStart =>
          obtain ⟨m0, h1, h2⟩ := HF0.out
          exact ⟨true, rfl, m0, h1, h2, fun e => by cases e⟩
        case round =>
          obtain ⟨b, rfl, hin3⟩ := hrel
          obtain ⟨m3, hgf, hsnd, hclo⟩ := hin3.out
          obtain ⟨ws, hws⟩ : ∃ W : World, W = wr := ⟨_, rfl⟩
          subst hws
          have HGF := hid hgf
          have HSND := hid hsnd
          have HCLO := hid hclo
          clear hin3 hgf hsnd hclo
          cases b
          · have HDN := hid (HSND.out.done (HCLO.out rfl) fun q x hq hx => HDC.out.closed q x hq (HH256.out x hx))
            have HSB := hid HGF.out.kp
            have HC0 : Hid (Cnt G 0 0 ∧ Below ws.heap.size ws ws) := hid ⟨Cnt.start G, Below.refl _ _⟩
            clear HSND HCLO
            go_wp2_with fail
            go_loopw [18, 19] (fun mv pv wr => ∃ c p : Nat, p ≤ k ∧ c ≤ p ∧ mv = .int .i64 c ∧ pv = .int .i64 p ∧ Hid (Cnt G p c ∧ Below ws.heap.size ws wr)) (fun _ pv _ => k - (intOf pv).toNat)
            case atStart => exact ⟨0, 0, Nat.zero_le _, Nat.le_refl _, rfl, rfl, HC0.out⟩
            case round =>
              obtain ⟨c, p, hp, hcp, rfl, rfl, hinA⟩ := hrel
              obtain ⟨hcnt, hbA⟩ := hinA.out
              obtain ⟨wA, hwA⟩ : ∃ W : World, W = wr := ⟨_, rfl⟩
              subst hwA
              have HBA := hid hbA
              by_cases hltA : p < k
              · obtain ⟨h1, c', hc', h2, h3⟩ := cnt_step hcnt HO.out hltA hcp
                have HC' := hid h2
                have HAW := hid (HA.out.below (HSB.out.trans (hbA.mono HSB.out.size)))
                have x1 := HAW.out.cell hltA
                obtain ⟨g, hg⟩ : ∃ g, g = aN al p := ⟨_, rfl⟩
                have HG0 := hid hg
                have x1' : wA.cell? ⟨ga, p, none⟩ = some (.int .i64 (g : Int)) := by rw [hg]; exact x1
                rw [← hg] at h1 hc'
                have HQQ : Hid (∀ W q, Below wA.heap.size wA W → q < k → W.cell? ⟨ga, p, none⟩ = some (.int .i64 (g : Int)) ∧ W.cell? ⟨ga, q, none⟩ = some (.int .i64 (aN al q : Nat)) ∧ W.cell? ⟨ga2, p, none⟩ = some (.slice (some ⟨f p, 0, none⟩) k k) ∧ W.cell? ⟨f p, q, none⟩ = some (.bool (m3 p q)) ∧ ((g = aN al q) ↔ ¬ m3 p q = true)) := hid (fun W q hW hq => by
                  have hA := HAW.out.below hW
                  have hM := HGF.out.mat.below (hbA.trans (hW.mono hbA.size))
                  refine ⟨by rw [HG0.out]; exact hA.cell hltA, hA.cell hq, hM.topc hltA, hM.cell hltA hq, ?_⟩
                  rw [HG0.out, HO.out.ner p q hltA hq, HDN.out p q hltA hq]
                  exact Classical.not_not.symm)
                have i1 : (p : Int) < (k : Int) := by omega
                have i2 : ¬ (c : Int) < (g : Int) := by omega
                have i3 : ¬ (g : Int) < 0 := by omega
                clear hinA hcnt hbA h2 x1 hg
                by_cases hgc : g = c
                · rw [if_pos hgc] at hc'
                  have i4 : (g : Int) = (c : Int) := by omega
                  go_wp2_with fail
                  clear i2 i3 i4
                  go_loopw [20] (fun qv wr => ∃ q : Nat, q ≤ k ∧ qv = .int .i64 q ∧ Hid (Below wA.heap.size wA wr)) (fun qv _ => k - (intOf qv).toNat)
                  case atStart => exact ⟨0, Nat.zero_le _, rfl, Below.refl _ _⟩
                  case round =>
                    obtain ⟨q, hq, rfl, hinB⟩ := hrel
                    obtain ⟨wB, hwB⟩ : ∃ W : World, W = wr := ⟨_, rfl⟩
                    subst hwB
                    by_cases hltB : q < k
                    · obtain ⟨y1, y2, y3, y4, y5⟩ := HQQ.out _ q hinB.out hltB
                      generalize aN al q = g' at *
                      generalize m3 p q = mb at *
                      have j1 : (q : Int) < (k : Int) := by omega
                      cases mb
                      · have eg := y5.2 (by simp)
                        subst eg
                        clear y5
                        go_wp2_with fail
                        go_quiet (fail)
                        go_wp2_with fail
                        go_roundw
                        case rel => exact ⟨q + 1, by omega, by go_num, hinB.out.trans (below_drewN _ _ _)⟩
                        case measure => simp [intOf]; omega
                      · have j2 : ¬ (g : Int) = (g' : Int) := by have := fun e => y5.1 e; intro e; exact this (by omega) rfl
                        go_wp2_with fail
                        go_quiet (fail)
                        go_wp2_with fail
                        go_roundw
                        case rel => exact ⟨q + 1, by omega, by go_num, hinB.out.trans (below_drewN _ _ _)⟩
                        case measure => simp [intOf]; omega
                    · go_wp2_with fail
                      go_roundw
                      case rel => exact ⟨c', p + 1, by omega, h3, (by first | (rw [hc']; done) | (rw [hc']; first | rfl | go_num)), by go_num, HC'.out, HBA.out.trans (hinB.out.mono HBA.out.size)⟩
                      case measure => simp [intOf]; omega
                · rw [if_neg hgc] at hc'
                  have i4 : ¬ (g : Int) = (c : Int) := by omega
                  go_wp2_with fail
                  clear i2 i3 i4
                  go_loopw [20] (fun qv wr => ∃ q : Nat, q ≤ k ∧ qv = .int .i64 q ∧ Hid (Below wA.heap.size wA wr)) (fun qv _ => k - (intOf qv).toNat)
                  case atStart => exact ⟨0, Nat.zero_le _, rfl, Below.refl _ _⟩
                  case round =>
                    obtain ⟨q, hq, rfl, hinB⟩ := hrel
                    obtain ⟨wB, hwB⟩ : ∃ W : World, W = wr := ⟨_, rfl⟩
                    subst hwB
                    by_cases hltB : q < k
                    · obtain ⟨y1, y2, y3, y4, y5⟩ := HQQ.out _ q hinB.out hltB
                      generalize aN al q = g' at *
                      generalize m3 p q = mb at *
                      have j1 : (q : Int) < (k : Int) := by omega
                      cases mb
                      · have eg := y5.2 (by simp)
                        subst eg
                        clear y5
                        go_wp2_with fail
                        go_quiet (fail)
                        go_wp2_with fail
                        go_roundw
                        case rel => exact ⟨q + 1, by omega, by go_num, hinB.out.trans (below_drewN _ _ _)⟩
                        case measure => simp [intOf]; omega
                      · have j2 : ¬ (g : Int) = (g' : Int) := by have := fun e => y5.1 e; intro e; exact this (by omega) rfl
                        go_wp2_with fail
                        go_quiet (fail)
                        go_wp2_with fail
                        go_roundw
                        case rel => exact ⟨q + 1, by omega, by go_num, hinB.out.trans (below_drewN _ _ _)⟩
                        case measure => simp [intOf]; omega
                    · go_wp2_with fail
                      go_roundw
                      case rel => exact ⟨c', p + 1, by omega, h3, (by first | (rw [hc']; done) | (rw [hc']; first | rfl | go_num)), by go_num, HC'.out, HBA.out.trans (hinB.out.mono HBA.out.size)⟩
                      case measure => simp [intOf]; omega
              · have hpk : p = k := by omega
                subst hpk
                have hcg := hcnt.done HO.out
                have HGG := hid (fun al' G' h => HGE.out al al' G G' HO.out h)
                have HTN := hid (HT.out.below (HB2.out.trans ((HNOW.out.trans ((HSB.out.trans (hbA.mono HSB.out.size)).mono HNOW.out.size)).mono HB2.out.size)))
                have HRXA := hid (HRX.out.under (HSB.out.trans (hbA.mono HSB.out.size)))
                have HBE := hid (HB2.out.trans ((HNOW.out.trans ((HSB.out.trans (hbA.mono HSB.out.size)).mono HNOW.out.size)).mono HB2.out.size))
                subst hcg
                clear hinA hcnt hbA HC0
                go_wp2_with (first | (go_at_call 15; refine (HGR.out _).mono ?_; rintro e wB ⟨rfl, h7, hb1⟩; have HLC := hid (HLS.out _ _ _ HRXA.out hb1 h7 (HTN.out.below hb1)); unfold ptr at HLC; clear h7 hb1) | (go_at_call 42; refine HLC.out.mono ?_; rintro e wC ⟨hbC, al', G', rfl, hoC⟩; have HBC := hid hbC; have hgl := HGG.out _ _ hoC; clear hbC hoC))
                go_ret
                exact ⟨by first | rfl | (simp; done) | (rw [hgl]; simp; done), HBE.out.trans (HBC.out.mono HBE.out.size)⟩
          · have HLM := hid HGF.out.mat.left_eq
            obtain ⟨k0, hk0⟩ : ∃ k0, k0 = falses k m3 := ⟨_, rfl⟩
            rw [← hk0] at HLM
            have HR0 : Hid (∃ m, GF δ yes ls w9 ws ga2 k f m ∧ RI δ yes ls k k0 m false (Bef 0 0 0)) := hid ⟨m3, HGF.out, RI.start HSND.out hk0.symm fun p q j _ _ _ h => by omega⟩
            clear HGF HSND HCLO hk0
            go_wp2_with fail
            go_loopw [11, 12] (fun bv pv wr => ∃ (b : Bool) (p : Nat), p ≤ k ∧ bv = .bool b ∧ pv = .int .i64 p ∧ Hid (∃ m, GF δ yes ls w9 wr ga2 k f m ∧ RI δ yes ls k k0 m b (Bef p 0 0))) (fun _ pv _ => k - (intOf pv).toNat)
            case atStart => exact ⟨false, 0, Nat.zero_le _, rfl, rfl, HR0.out⟩
            case round =>
              obtain ⟨b, p, hp, rfl, rfl, hin4⟩ := hrel
              obtain ⟨w4', hw4'⟩ : ∃ W : World, W = wr := ⟨_, rfl⟩
              subst hw4'
              by_cases hlt4 : p < k
              · have HI4 := hin4
                clear hin4
                go_wp2_with fail
                go_loopw [11, 13] (fun bv qv wr => ∃ (b : Bool) (q : Nat), q ≤ k ∧ bv = .bool b ∧ qv = .int .i64 q ∧ Hid (∃ m, GF δ yes ls w9 wr ga2 k f m ∧ RI δ yes ls k k0 m b (Bef p q 0))) (fun _ qv _ => k - (intOf qv).toNat)
                case atStart => exact ⟨b, 0, Nat.zero_le _, rfl, rfl, HI4.out⟩
                case round =>
                  obtain ⟨b, q, hq, rfl, rfl, hin5⟩ := hrel
                  obtain ⟨w5', hw5'⟩ : ∃ W : World, W = wr := ⟨_, rfl⟩
                  subst hw5'
                  by_cases hlt5 : q < k
                  · obtain ⟨m5, hg5, hr5⟩ := hin5.out
                    have HG5 := hid hg5
                    have HR5 := hid hr5
                    have HKP := hid hg5.kp
                    clear hin5 hg5 hr5
                    go_wp2_with ((go_at_call 22; refine (HHD.out _ (by first | exact HKP.out | exact (HKP.out).drew)).mono ?_; rintro e w14 ⟨Ah, ch, rfl, hrd, hb1⟩; have HRD := hid hrd; have HBH := hid hb1; clear hrd hb1))
                    have HI5 : Hid (∃ m, GF δ yes ls w9 w14 ga2 k f m ∧ RI δ yes ls k k0 m b (Bef p q 0)) := hid ⟨m5, HG5.out.below HBH.out, HR5.out⟩
                    clear HG5 HR5 HKP
                    go_loopw [11, 97] (fun bv jv wr => ∃ (b : Bool) (j : Nat), j ≤ nh ∧ bv = .bool b ∧ jv = .int .i64 j ∧ Hid (∃ m, GF δ yes ls w9 wr ga2 k f m ∧ RI δ yes ls k k0 m b (Bef p q j) ∧ Rd wr Ah nh (u8s ls))) (fun _ jv _ => nh - (intOf jv).toNat)
                    case atStart =>
                      obtain ⟨m5, h1, h2⟩ := HI5.out
                      exact ⟨b, 0, Nat.zero_le _, rfl, rfl, m5, h1, h2, HRD.out⟩
                    case round =>
                      obtain ⟨b, j, hj, rfl, rfl, hin6⟩ := hrel
                      obtain ⟨w6', hw6'⟩ : ∃ W : World, W = wr := ⟨_, rfl⟩
                      subst hw6'
                      obtain ⟨m6, hg6, hr6, hrd6⟩ := hin6.out
                      have HG6 := hid hg6
                      have HR6 := hid hr6
                      have HRD6 := hid hrd6
                      clear hin6 hg6 hr6 hrd6
                      by_cases hlt6 : j < nh
                      · obtain ⟨x, hx⟩ : ∃ x, ls[j]? = some x := ⟨_, List.getElem?_eq_getElem (by rw [← HNH.out]; exact hlt6)⟩
                        have hxm := List.mem_of_getElem? hx
                        have h256 := HH256.out x hxm
                        obtain ⟨gh, oh, rfl, hgh, hch⟩ := HRD6.out.2 hnh1
                        have xh := hch j (.int .u8 (x : Int)) (by unfold u8s; rw [List.getElem?_map, hx]; rfl)
                        have hpa := HDC.out.closed p x hlt4 h256
                        have hqa := HDC.out.closed q x hlt5 h256
                        have HS1 := hid (fun W (hW : Below w6'.heap.size w6' W) => HDC.out.step W p x (HG6.out.kp.trans (hW.mono HG6.out.kp.size)) hlt4 h256)
                        have HS2 := hid (fun W (hW : Below w6'.heap.size w6' W) => HDC.out.step W q x (HG6.out.kp.trans (hW.mono HG6.out.kp.size)) hlt5 h256)
                        unfold ptr at HS1 HS2
                        have HSTAY := hid (fun hm => (HR6.out.stay (p := p) (q := q) (j := j) hx hm).mono (Q := Bef p q (j + 1)) fun p' q' j' _ _ _ h => by omega)
                        have HPUTR := hid (fun hm hno => HR6.out.put (Q := Bef p q (j + 1)) hlt4 hlt5 hxm h256 hpa hqa hm hno)
                        have HCELL := hid (fun W (hW : Below w6'.heap.size w6' W) =>
                          have h := HG6.out.mat.below hW
                          (⟨h.topc hlt4, h.cell hlt4 hlt5, h.topc hpa, h.cell hpa hqa, h.free hlt4 q⟩ : W.cell? ⟨ga2, p, none⟩ = some (.slice (some ⟨f p, 0, none⟩) k k) ∧ W.cell? ⟨f p, q, none⟩ = some (.bool (m6 p q)) ∧ W.cell? ⟨ga2, δ p x, none⟩ = some (.slice (some ⟨f (δ p x), 0, none⟩) k k) ∧ W.cell? ⟨f (δ p x), δ q x, none⟩ = some (.bool (m6 (δ p x) (δ q x))) ∧ W.frozen? ⟨f p, q, none⟩ = false))
                        have HPUTG := hid (fun W (hW : Below w6'.heap.size w6' W) => (HG6.out.below hW).put (q := q) hlt4)
                        have HRDK := hid (fun W (hW : Below w6'.heap.size w6' W) => HRD6.out.below hW)
                        have HFP := hid (HG6.out.of p hlt4)
                        have HNE : Hid (¬ gh = f p) := hid (fun e => by
                          have h1 := HG6.out.mat.cell hlt4 (q := oh + j)
                          by_cases hl : oh + j < k
                          · have h2 := h1 hl
                            rw [← e, xh] at h2
                            cases h2
                          · have h3 := blk_cell (HG6.out.mat.row p hlt4) (oh + j)
                            rw [← e, xh] at h3
                            unfold fnA at h3
                            simp [hl] at h3)
                        obtain ⟨a1, ea1⟩ : ∃ a, a = δ p x := ⟨_, rfl⟩
                        obtain ⟨a2, ea2⟩ : ∃ a, a = δ q x := ⟨_, rfl⟩
                        rw [← ea1] at hpa HS1 HSTAY HPUTR HCELL
                        rw [← ea2] at hqa HS2 HSTAY HPUTR HCELL
                        obtain ⟨v1, hv1⟩ : ∃ v, v = m6 p q := ⟨_, rfl⟩
                        obtain ⟨v2, hv2⟩ : ∃ v, v = m6 a1 a2 := ⟨_, rfl⟩
                        rw [← hv1] at HSTAY HPUTR HCELL
                        rw [← hv2] at HSTAY HPUTR HCELL
                        have i1 : (a1 : Int) < (k : Int) := by omega
                        have i2 : (a2 : Int) < (k : Int) := by omega
                        have i3 : (p : Int) < (k : Int) := by omega
                        have i4 : (q : Int) < (k : Int) := by omega
                        have HNJ : Hid (Below w6'.heap.size w6' w6') := Below.refl _ _
                        obtain ⟨c1, c2, c3, c4, c5⟩ := HCELL.out _ HNJ.out
                        clear ea1 ea2 hv1 hv2 hx hxm hch HRD6
                        cases v1 <;> cases v2
                        all_goals
                          go_wp2_with (first | (go_at_call 25; (with_reducible refine (HS1.out _ HNJ.out).mono ?_); rintro e w15 ⟨rfl, hb1⟩; have HNJ := hid (HNJ.out.trans (hb1.mono HNJ.out.size)); obtain ⟨c1, c2, c3, c4, c5⟩ := HCELL.out _ HNJ.out; clear hb1) | (go_at_call 25; (with_reducible refine (HS2.out _ HNJ.out).mono ?_); rintro e w15 ⟨rfl, hb1⟩; have HNJ := hid (HNJ.out.trans (hb1.mono HNJ.out.size)); obtain ⟨c1, c2, c3, c4, c5⟩ := HCELL.out _ HNJ.out; clear hb1))
                          go_roundw
                          case rel => first | exact ⟨b, j + 1, by omega, rfl, by go_num, m6, HG6.out.below HNJ.out, HSTAY.out (by first | exact fun e => e | exact fun _ => rfl | trivial | simp), HRDK.out _ HNJ.out⟩ | exact ⟨true, j + 1, by omega, rfl, by go_num, _, HPUTG.out _ HNJ.out, HPUTR.out (by first | rfl | trivial) (by first | rfl | trivial), rd_set (HRDK.out _ HNJ.out) _ _ _ fun g o e => by cases e; exact HNE.out⟩
                          case measure => simp [intOf]; omega
                      · have hjn : j = nh := by omega
                        subst hjn
                        go_wp2_with fail
                        go_roundw
                        case rel => exact ⟨b, q + 1, by omega, rfl, by go_num, m6, HG6.out, HR6.out.mono fun p' q' j' h1 h2 h3 h4 => by have := HNH.out; omega⟩
                        case measure => simp [intOf]; omega
                  · have HI5 := hin5
                    clear hin5
                    go_wp2_with fail
                    go_roundw
                    case rel =>
                      obtain ⟨m5, h1, h2⟩ := HI5.out
                      exact ⟨b, p + 1, by omega, rfl, by go_num, m5, h1, h2.mono fun p' q' j' _ h _ h4 => by omega⟩
                    case measure => simp [intOf]; omega
              · have HI4 := hin4
                have HKN : Hid (k ≤ p) := hid (by omega)
                clear hin4
                go_wp2_with fail
                go_roundw
                case rel =>
                  obtain ⟨m4, h1, h2⟩ := HI4.out
                  exact ⟨b, rfl, m4, h1, h2.snd, fun e p' q' j' x' hP hp' hq' hj' hm' => h2.no e p' q' j' x' (.inl (by have := HKN.out; omega)) hp' hq' hj' hm'⟩
                case measure =>
                  obtain ⟨m4, h1, h2⟩ := HI4.out
                  have e1 := h1.mat.left_eq
                  have e2 := HLM.out
                  have h3 := h2.le
                  cases b
                  · simp; omega
                  · have := h2.yes_ rfl
                    simp; omega
end Go.Proofs.YtaplejpjmaocdaaGreatDoor
