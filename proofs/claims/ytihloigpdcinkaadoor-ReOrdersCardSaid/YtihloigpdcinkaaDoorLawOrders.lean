/- The walk of ReOrders. -/
import Derived.Test.YtihloigpdcinkaaDoorLawKeys
import Derived.Test.YtihloigpdcinkaaDoorGood4
import Derived.Test.YtihloigpdcinkaaDoorMask
namespace Go.Proofs.YtihloigpdcinkaaDoor
open Go.RowKit

theorem rd_take {w : World} {g o n : Nat} {bs : List Nat} (h : Rd w (some ⟨g, o, none⟩) n (bs.map ptr)) {t : Nat} (ht : t ≤ n) : Rd w (some ⟨g, o, none⟩) t ((bs.take t).map ptr) := by
  have hl : bs.length = n := by simpa using h.1
  refine ⟨by simp; omega, fun h0 => ?_⟩
  obtain ⟨g', o', e, hg, hc⟩ := h.2 (by omega)
  cases e
  refine ⟨_, _, rfl, hg, fun j u hj => hc j u ?_⟩
  rw [List.map_take, List.getElem?_take] at hj
  split at hj
  · exact hj
  · cases hj
theorem rd_drop {w : World} {g o n : Nat} {bs : List Nat} (h : Rd w (some ⟨g, o, none⟩) n (bs.map ptr)) (t : Nat) : Rd w (some ⟨g, o + t, none⟩) (n - t) ((bs.drop t).map ptr) := by
  have hl : bs.length = n := by simpa using h.1
  refine ⟨by simp; omega, fun h0 => ?_⟩
  obtain ⟨g', o', e, hg, hc⟩ := h.2 (by omega)
  cases e
  refine ⟨_, _, rfl, hg, fun j u hj => ?_⟩
  rw [Nat.add_assoc]
  refine hc (t + j) u ?_
  rw [List.map_drop, List.getElem?_drop] at hj
  exact hj

theorem blk_second (w : World) (A B : Obj) : ((w.alloc A).alloc B).heap[w.heap.size + 1]? = some B := by
  have := blk_new (w.alloc A) B
  simpa using this
theorem rd_one_at {W : World} {b b0 : Nat} (h : W.heap[b]? = some (.cells #[.pointer (some ⟨b0, 0, none⟩)] 27 (0, 0))) : Rd W (some ⟨b, 0, none⟩) 1 ([b0].map ptr) :=
  ⟨rfl, fun _ => ⟨b, 0, rfl, lt_of_heap h, fun j u hj => by
    match j, hj with
    | 0, hj => simp at hj; subst hj; exact (blk_cell h 0).trans (by simp)⟩⟩
theorem els_sub {w : World} {X : Nat → Prop} {rs : List Re} {bs : List Nat} (h : Els w X rs bs) (t : Nat) : Els w X (rs.take t) (bs.take t) ∧ Els w X (rs.drop t) (bs.drop t) := by
  refine ⟨⟨by simp [h.1], fun i r b h1 h2 => ?_⟩, ⟨by simp [h.1], fun i r b h1 h2 => h.2 (t + i) r b (by simpa using h1) (by simpa using h2)⟩⟩
  rw [List.getElem?_take] at h1 h2
  split at h1
  · rename_i hi
    rw [if_pos hi] at h2
    exact h.2 i r b h1 h2
  · cases h1
theorem els_rot {w : World} {X : Nat → Prop} {rs : List Re} {bs : List Nat} (h : Els w X rs bs) {r0 : Re} {b0 t : Nat} (hr : rs[0]? = some r0) (hb : bs[0]? = some b0) : Els w X (rs.drop t ++ rs.take t ++ [r0]) (bs.drop t ++ bs.take t ++ [b0]) :=
  (((els_sub h t).2).append (els_sub h t).1).append (Els.one (h.2 0 r0 b0 hr hb))
theorem row_take {w : World} {X : Nat → Prop} {g o n : Nat} {rs : List Re} {bs : List Nat} (h : ReRow w X (some ⟨g, o, none⟩) n rs bs) {t : Nat} (ht : t ≤ n) : ReRow w X (some ⟨g, o, none⟩) t (rs.take t) (bs.take t) :=
  ⟨rd_take h.1 ht, (els_sub h.2.1 t).1, fun a h0 e => by cases e; exact h.2.2 _ (by omega) rfl⟩
theorem row_drop {w : World} {X : Nat → Prop} {g o n : Nat} {rs : List Re} {bs : List Nat} (h : ReRow w X (some ⟨g, o, none⟩) n rs bs) (t : Nat) : ReRow w X (some ⟨g, o + t, none⟩) (n - t) (rs.drop t) (bs.drop t) :=
  ⟨rd_drop h.1 t, (els_sub h.2.1 t).2, fun a h0 e => by cases e; exact h.2.2 ⟨g, o, none⟩ (by omega) rfl⟩
theorem rot_laws {rs : List Re} (hg : Goods rs) {r0 : Re} {t : Nat} (h0 : rs[0]? = some r0) : anyL (rs.drop t ++ rs.take t ++ [r0]) = anyL rs ∧ bothL (rs.drop t ++ rs.take t ++ [r0]) = bothL rs := by
  have hm : ∀ z, z ∈ rs ↔ z ∈ rs.drop t ++ rs.take t ++ [r0] := fun z => by
    have h1 : z ∈ rs ↔ z ∈ rs.take t ++ rs.drop t := by rw [List.take_append_drop]
    have h2 : z = r0 → z ∈ rs := fun e => by rw [e]; exact List.mem_of_getElem? h0
    rw [List.mem_append] at h1
    rw [List.mem_append, List.mem_append, List.mem_singleton]
    constructor
    · intro h
      rcases h1.1 h with h | h
      · exact .inl (.inr h)
      · exact .inl (.inl h)
    · intro h
      rcases h with (h | h) | h
      · exact h1.2 (.inr h)
      · exact h1.2 (.inl h)
      · exact h2 h
  exact ⟨(anyL_congr hg hm).symm, (bothL_congr hg hm).symm⟩
theorem own_empty {W : World} {b base : Nat} (hb : base ≤ b) (h : W.heap[b]? = some (.cells #[] 27 (0, 0))) : OwnP W base (.slice (some ⟨b, 0, none⟩) 0 0) [] :=
  ⟨by simp, .inr ⟨b, 0, #[], rfl, hb, h, Nat.le_refl _, by decide, rfl, by simp⟩⟩

set_option maxRecDepth 100000 in
set_option maxHeartbeats 4000000 in
theorem reOrders_any (ks : List Shp) (B : Option Addr) (d : Nat) (tn : Int) (w : World) (hks : ShKids w B ks) (hkl : ks.length ≤ 9223372036854775807) (_ : (Lit.int .i64 tn).wf = true) :
    Calls Tryd.prog 3 #[.slice B ks.length d, .int .i64 tn] w fun e w' => e = .returned (.bool true) ∧ Below w.heap.size w w' := by
  have HHE := hid (fun W => head3_any W)
  have HKS := hid hks
  obtain ⟨n, hn⟩ : ∃ n, n = ks.length := ⟨_, rfl⟩
  have HN := hid hn
  rw [← hn] at hkl ⊢
  clear hks hn
  go_enter Tryd.func3, Tryd.ntmps3
  by_cases hn5 : 5 < n
  · go_wp2_with (first | (go_at_call 11; refine (HHE.out _).mono ?_; rintro e w7 ⟨rfl, hb1⟩; have HNW := hid hb1; clear hb1))
    go_ret
    exact ⟨rfl, HNW.out⟩
  by_cases hn0 : n = 0
  · subst hn0
    go_wp2_with (first | (go_at_call 11; refine (HHE.out _).mono ?_; rintro e w7 ⟨rfl, hb1⟩; have HNW := hid hb1; clear hb1))
    go_ret
    exact ⟨rfl, HNW.out⟩
  have hnb : ((n : Int) == 0) = false := by simp; omega
  go_wp2_with (first | (go_at_call 11; refine (HHE.out _).mono ?_; rintro e w7 ⟨rfl, hb1⟩; have HNW := hid hb1; clear hb1))
  obtain ⟨rs, hrs⟩ : ∃ rs, rs = ks.map Shp.make := ⟨_, rfl⟩
  have HRS := hid hrs
  have hrl : rs.length = n := by rw [hrs, HN.out]; simp
  have HGO : Hid (Goods rs) := fun z hz => by
    rw [hrs] at hz
    obtain ⟨y, -, rfl⟩ := List.mem_map.1 hz
    exact Shp.make_good y
  have HOWN0 : Hid (OwnP (w7.alloc (.cells #[] 27)) w7.heap.size (.slice (some ⟨w7.heap.size, 0, none⟩) 0 0) []) :=
    World.ownsRow_lit (base := w7.heap.size) (e := 27) (size := 1) w7 #[] 0 (Nat.le_refl _) (by decide) rfl
  clear hrs
  go_loopw [5, 24] (fun v i wr => ∃ (k : Nat) (cs : List Nat), k ≤ n ∧ i = .int .i64 k ∧ Hid (OwnP wr w7.heap.size v cs) ∧ Hid (Els wr (Xo X0 v) (rs.take k) cs) ∧ Hid (Below w7.heap.size w7 wr) ∧ Hid (Re.sizes (rs.take k) ≤ 660 * k)) (fun _ i _ => n - (intOf i).toNat)
  case atStart => exact ⟨0, [], Nat.zero_le _, rfl, HOWN0.out, Els.nil, (Below.refl _ _).alloc (Nat.le_refl _) _, Nat.le_refl _⟩
  case round =>
    obtain ⟨k, cs, hk, rfl, hown, hels, hbel, hszs⟩ := hrel
    have hszr : w7.heap.size ≤ wr.heap.size := hbel.out.size
    have hbw : Below w.heap.size w wr := HNW.out.trans (hbel.out.mono HNW.out.size)
    have HBW := hid hbw
    by_cases hlt : k < n
    · obtain ⟨g, o, y, D, cx, rfl, hy, hg, haty, k0, k1, k2, k3, k4⟩ := HKS.out.at_ (k := k) (by rw [← HN.out]; exact hlt)
      have hb := fun i => hbw.cell (p := ⟨g, i, none⟩) hg
      have c0 := (hb _).trans k0; have c1 := (hb _).trans k1; have c2 := (hb _).trans k2; have c3 := (hb _).trans k3; have c4 := (hb _).trans k4
      have HSN : Hid (rs.take (k + 1) = rs.take k ++ [y.make]) := by
        have hyr : rs[k]? = some y.make := by rw [HRS.out, List.getElem?_map, hy]; rfl
        obtain ⟨hl, e⟩ := List.getElem?_eq_some_iff.1 hyr
        show _ = _
        rw [List.take_succ_eq_append_getElem hl, e]
      have hxl : ∀ k, Xo X0 u5 k → k < wr.heap.size := fun k hk => by
        rcases hk with hk | hk
        · exact hk.elim
        · exact (hown.out.lt k hk).2
      have HFY : Hid (∀ W, Below wr.heap.size wr W → Calls Tryd.prog 12 #[y.val D cx] W fun e w' => e = .returned (.bool y.few) ∧ Below W.heap.size W w') := fun W hW => few_any y D cx W ((haty.under hbw).under hW)
      have HMY : Hid (y.few = true → ∀ W, Below wr.heap.size wr W → Calls Tryd.prog 13 #[y.val D cx] W (RetRe W (Xo X0 u5) y.make)) := fun hf W hW =>
        make_any y D cx (Xo X0 u5) W ((haty.under hbw).under hW) (fun k hk => Nat.lt_of_lt_of_le (hxl k hk) hW.size) (Shp.few_small hf).2 (Nat.le_trans (Shp.few_small hf).1 (by decide))
      have HSY : Hid (y.few = true → y.make.size ≤ 660) := fun h => few_size h
      have hbn : cs.length + [k].length ≤ 1099511627776 := by
        have := hels.out.1
        simp at this ⊢
        omega
      obtain ⟨ym, hym⟩ : ∃ ym, ym = y.make := ⟨_, rfl⟩
      obtain ⟨fy, hfy⟩ : ∃ fy, fy = y.few := ⟨_, rfl⟩
      rw [← hym] at HMY HSN HSY
      rw [← hfy] at HMY HFY HSY
      unfold Shp.val at HFY HMY
      clear k0 k1 k2 k3 k4 hb hy haty hxl hbw hym hfy
      cases fy
      · go_wp2_with (first | (go_at_call 12; refine (HFY.out _ (Below.alloc (Below.refl _ _) (Nat.le_refl _) _)).mono ?_; rintro e w3 ⟨rfl, hb3⟩; have HB3 := hid ((Below.alloc (Below.refl wr.heap.size wr) (Nat.le_refl _) _).trans (hb3.mono (by simp))); clear hb3))
        go_ret
        exact ⟨rfl, HBW.out.trans (HB3.out.mono HBW.out.size)⟩
      · replace HMY := hid (HMY.out rfl)
        replace HSY := hid (HSY.out rfl)
        have HCX : Hid (∀ W, Below (wr.heap.size + 1) (wr.alloc (.cells #[Value.int IntKind.i64 y.op, Value.int IntKind.u8 ↑y.low, Value.int IntKind.u8 ↑y.high, Value.string y.text, Value.slice D y.kids.length cx] 26)) W → W.cell? ⟨wr.heap.size, 0, none⟩ = some (.int .i64 y.op) ∧ W.cell? ⟨wr.heap.size, 1, none⟩ = some (.int .u8 y.low) ∧ W.cell? ⟨wr.heap.size, 2, none⟩ = some (.int .u8 y.high) ∧ W.cell? ⟨wr.heap.size, 3, none⟩ = some (.string y.text) ∧ W.cell? ⟨wr.heap.size, 4, none⟩ = some (.slice D y.kids.length cx)) := fun W hW => by
          have h1 := blk_below (blk_new wr (.cells #[Value.int IntKind.i64 y.op, Value.int IntKind.u8 ↑y.low, Value.int IntKind.u8 ↑y.high, Value.string y.text, Value.slice D y.kids.length cx] 26)) (w' := W) (by simpa using hW)
          exact ⟨(blk_cell h1 0).trans (by simp), (blk_cell h1 1).trans (by simp), (blk_cell h1 2).trans (by simp), (blk_cell h1 3).trans (by simp), (blk_cell h1 4).trans (by simp)⟩
        go_wp2_with (first | (go_at_call 12; refine (HFY.out _ (Below.alloc (Below.refl _ _) (Nat.le_refl _) _)).mono ?_; rintro e w3 ⟨rfl, hb3⟩; obtain ⟨v0, v1, v2, v3, v4⟩ := HCX.out _ (by simpa using hb3); have HB3 := hid ((Below.alloc (Below.refl wr.heap.size wr) (Nat.le_refl _) _).trans (hb3.mono (by simp))); clear hb3) | (go_at_call 13; refine (HMY.out _ HB3.out).mono ?_; rintro e w4 ⟨bn, rfl, h3, hb4⟩; have H3 := hid h3; have HB4 := hid (HB3.out.trans (hb4.mono HB3.out.size)); have hz4 : w7.heap.size ≤ w4.heap.size := Nat.le_trans hszr HB4.out.size; clear h3 hb4; have HO4 := hid (OwnP.kept hown.out HB4.out); have HE4 := hid (Els.below hels.out HB4.out); have HB14 := hid (hbel.out.trans (HB4.out.mono hszr))) | (at_builtin; refine wpList_app_ptr _ rfl (.tmp 31) (.tmp 34) rfl w7.heap.size _ cs rfl (HO4.out.alloc _) (some ⟨w4.heap.size, 0, none⟩) 1 1 [bn] rfl (Rd.one_new _ _ _) (fun h => by cases h) hbn (le_alloc hz4 _) ?_; intro v' w5 ho5 hg5 hat5; have HO5 := hid ho5; have HG5 := hid hg5; have HT5 := hid hat5; clear ho5 hg5 hat5))
        go_roundw
        case rel => exact ⟨k + 1, cs ++ [bn], by omega, by go_num, HO5.out, by show Els _ _ _ _; rw [HSN.out]; exact ((HE4.out.alloc _).append (Els.one H3.out |>.alloc _)).grown HG5.out HT5.out, below_app (HB14.out.alloc HB14.out.size _) (HO4.out.alloc _) HG5.out, by show _ ≤ _; rw [HSN.out, Re.sizes_append]; have h1 := hszs.out; have h2 := HSY.out; have h3 : Re.sizes [ym] = ym.size := rfl; rw [h3]; omega⟩
        case measure => simp [intOf]; omega
    · have hkn : k = n := by omega
      subst hkn
      have HT : Hid (rs.take k = rs) := List.take_of_length_le (by omega)
      have hown' := hown.out
      have hels' := hels.out
      have hszs' := hszs.out
      rw [HT.out] at hels' hszs'
      obtain ⟨A1, c1, hv⟩ := hown'.form
      have hcl : cs.length = k := by rw [← hels'.1]; exact hrl
      rw [hcl] at hv
      subst hv
      obtain ⟨hrw, hcap, -⟩ := hown'.row hels' (X0_lt _)
      have HSZ : Hid (Re.sizes rs ≤ 3300) := Nat.le_trans hszs' (by omega)
      obtain ⟨g1, o1, r0, b0, rfl, e0, hr0, hb0, ha0, hg1⟩ := hrw.at_ (k := 0) (by omega)
      have HRW := hid hrw
      have HR0 := hid hr0
      have HB0 := hid hb0
      obtain ⟨a, ha⟩ : ∃ a : Nat, bits .and .i64 tn 255 = (a : Int) := ⟨(tn % 256).toNat, by rw [i64_and255]; omega⟩
      obtain ⟨t, ht⟩ : ∃ t : Nat, t = a % k := ⟨_, rfl⟩
      have htm : (a : Int).tmod (k : Int) = (t : Int) := by rw [ht]; rfl
      have htk : t < k := by rw [ht]; exact Nat.mod_lt _ (by omega)
      have hkc : k ≤ c1 := hcap.1
      have HHO := hid (World.ownsRow_lit (base := wr.heap.size) (e := 27) (size := 1) wr #[] 0 (Nat.le_refl _) (by decide) rfl)
      have hct : ¬ c1 = t := by omega
      have HRT : Hid (∀ W, Below wr.heap.size wr W → Rd W (some ⟨g1, o1, none⟩) t ((cs.take t).map ptr)) := fun W hW => (rd_take (hrw.1.below hW) (by omega))
      have HRD : Hid (∀ W, Below wr.heap.size wr W → Rd W (some ⟨g1, o1 + t, none⟩) (k - t) ((cs.drop t).map ptr)) := fun W hW => (rd_drop (hrw.1.below hW) t)
      have i1 : (0 : Int) ≤ (t : Int) := by omega
      have i2 : (t : Int) ≤ (k : Int) := by omega
      have i3 : (k : Int) ≤ (c1 : Int) := by omega
      have i5 : (0 : Int) < (k : Int) := by omega
      have i6 : 0 < k := by omega
      have i4 : (t : Int) ≤ (c1 : Int) := by omega
      clear hown' hels' hszs' hrw hlt hown hels ht hr0 hb0 ha0 hcap hszs
      go_wp2_with fail
      go_region_held3 (fun _ => True) (trivial)
        (first
          | (refine step_app_ptr _ (by rfl) (.tmp 42) (.tmp 45) (by rfl) wr.heap.size _ [] (by rfl) (by first | exact HHO.out | exact World.ownsRow.drew HHO.out) (some ⟨g1, o1 + t, none⟩) (k - t) (c1 - t) (cs.drop t) (by rfl) (HRD.out _ (by first | exact (Below.refl _ _).alloc (Nat.le_refl _) _ | exact ((Below.refl _ _).alloc (Nat.le_refl _) _).drew)) (fun h => by cases h) (by simp; omega) (by first | exact le_alloc (Nat.le_refl _) _) ?_
             intro v2 w8 ho8 hg8 hat8
             have HO8 := hid ho8
             have HB8 := hid (below_app (w := wr) (by first | exact (Below.refl _ _).alloc (Nat.le_refl _) _ | exact ((Below.refl _ _).alloc (Nat.le_refl _) _).drew) (show OwnP _ wr.heap.size (.slice (some ⟨wr.heap.size, 0, none⟩) 0 0) [] from (by first | exact HHO.out | exact World.ownsRow.drew HHO.out)) hg8)
             clear ho8 hg8 hat8)
          | (refine step_app_ptr _ (by rfl) (.tmp 46) (.tmp 49) (by rfl) wr.heap.size _ _ (by rfl) HO8.out (some ⟨g1, o1, none⟩) t c1 (cs.take t) (by rfl) (HRT.out _ HB8.out) (fun h => by cases h) (by simp; omega) HB8.out.size ?_
             intro v3 w9 ho9 hg9 hat9
             have HO9 := hid ho9
             have HB9 := hid (below_app HB8.out HO8.out hg9)
             clear ho9 hg9 hat9))
      obtain ⟨bo, hbo⟩ : ∃ bo, bo = cs.drop t ++ cs.take t := ⟨_, rfl⟩
      have HBO' := hid hbo
      have hbl : bo.length = k := by rw [hbo]; simp; omega
      have ho9 := HO9.out
      rw [List.nil_append, ← hbo] at ho9
      obtain ⟨A3, c3, hv3⟩ := ho9.form
      subst hv3
      obtain ⟨-, hcap3, hrd3⟩ := ho9.rd
      have HRO : Hid (∀ W, Below w9.heap.size w9 W → Rd W A3 k (bo.map ptr)) := fun W hW => by rw [← hbl]; exact hrd3.below hW
      rw [hbl] at hcap3
      have HC3 := hid hcap3
      have hcell9 : w9.cell? ⟨g1, o1, none⟩ = some (ptr b0) := (HB9.out.cell (p := ⟨g1, o1, none⟩) hg1).trans e0
      have hg9 : g1 < w9.heap.size := Nat.lt_of_lt_of_le hg1 HB9.out.size
      have hn9 := World.new_ne w9 _ hcell9
      clear hbo ho9 hrd3 hcap3
      unfold ptr at hcell9
      go_wp2_with fail
      go_region_held3 (fun w' => w'.cell? ⟨g1, o1, none⟩ = some (.pointer (some ⟨b0, 0, none⟩))) (first | exact hcell10 | go_keep)
        (first
          | (refine step_app_ptr _ (by rfl) (.tmp 51) (.tmp 52) (by rfl) w9.heap.size _ [] (by rfl) (own_empty (by simp) (by first | exact blk_new _ _ | exact blk_alloc (blk_new _ _) _ | exact blk_second w9 _ _)) A3 k c3 bo (by rfl) (HRO.out _ (by first | exact Below.refl _ _ | exact (Below.refl _ _).drew | exact (Below.refl _ _).alloc (Nat.le_refl _) _ | exact ((Below.refl _ _).alloc (Nat.le_refl _) _).drew | exact ((Below.refl _ _).alloc (Nat.le_refl _) _).alloc (by simp) _ | exact (((Below.refl _ _).alloc (Nat.le_refl _) _).alloc (by simp) _).drew)) HC3.out.2 (by simp; omega) (by first | (simp; done) | (simp; omega)) ?_
             intro v4 w10 ho10 hg10 hat10
             have HO10 := hid ho10
             have HB10 := hid (below_app (w := w9) (by first | exact Below.refl _ _ | exact (Below.refl _ _).drew | exact (Below.refl _ _).alloc (Nat.le_refl _) _ | exact ((Below.refl _ _).alloc (Nat.le_refl _) _).drew | exact ((Below.refl _ _).alloc (Nat.le_refl _) _).alloc (by simp) _ | exact (((Below.refl _ _).alloc (Nat.le_refl _) _).alloc (by simp) _).drew) (own_empty (by simp) (by first | exact blk_new _ _ | exact blk_alloc (blk_new _ _) _ | exact blk_second w9 _ _)) hg10)
             have hcell10 := (HB10.out.cell (p := ⟨g1, o1, none⟩) hg9).trans hcell9
             have hg10' : g1 < w10.heap.size := Nat.lt_of_lt_of_le hg9 HB10.out.size
             have hn10 := World.new_ne w10 _ hcell10
             have HG10 := hid hg10
             clear ho10 hg10 hat10)
          | (refine step_app_ptr _ (by rfl) (.tmp 53) (.tmp 57) (by rfl) w9.heap.size _ _ (by rfl) (by first | exact HO10.out | exact HO10.out.alloc _ | exact World.ownsRow.drew HO10.out | exact World.ownsRow.drew (HO10.out.alloc _)) _ 1 1 [b0] (by rfl) (by first | exact Rd.one_new _ _ _ | exact rd_one_at ((HG10.out.block w9.heap.size (by simp; omega) (by simp [Value.ownBlock])).trans (by first | exact blk_alloc (blk_new _ _) _ | exact blk_new _ _ | exact blk_second w9 _ _ | (simpa using blk_alloc (blk_new w9 _) _))) | exact rd_one_at ((HG10.out.block (w9.heap.size + 1) (by simp) (by simp [Value.ownBlock])).trans (by first | exact blk_alloc (blk_new _ _) _ | exact blk_new _ _ | exact blk_second w9 _ _ | (simpa using blk_alloc (blk_new w9 _) _)))) (fun h => by cases h) (by simp; omega) (by first | exact HB10.out.size | exact le_alloc HB10.out.size _) ?_
             intro v5 w11 ho11 hg11 hat11
             have HO11 := hid ho11
             have HB11 := hid (below_app (w := w9) (by first | exact HB10.out | exact HB10.out.drew | exact HB10.out.alloc HB10.out.size _ | exact (HB10.out.alloc HB10.out.size _).drew) (show OwnP _ w9.heap.size _ _ from (by first | exact HO10.out | exact HO10.out.alloc _ | exact World.ownsRow.drew HO10.out | exact World.ownsRow.drew (HO10.out.alloc _))) hg11)
             have hcell10 := (HB11.out.cell (p := ⟨g1, o1, none⟩) hg9).trans hcell9
             clear ho11 hg11 hat11))
      all_goals
        have ho11 := HO11.out
        rw [List.nil_append] at ho11
        obtain ⟨A5, c5, hv5⟩ := ho11.form
        have hl5 : (bo ++ [b0]).length = k + 1 := by simp [hbl]
        rw [hl5] at hv5
        subst hv5
        obtain ⟨-, hcap5, hrd5⟩ := ho11.rd
        have hbw11 : Below wr.heap.size wr w11 := HB9.out.trans (HB11.out.mono HB9.out.size)
        have hels5 : Els w11 X0 (rs.drop t ++ rs.take t ++ [r0]) (bo ++ [b0]) := by
          rw [HBO'.out]
          exact (els_rot HRW.out.2.1 HR0.out HB0.out).below hbw11
        have hrw5 : ReRow w11 X0 A5 (k + 1) (rs.drop t ++ rs.take t ++ [r0]) (bo ++ [b0]) := ⟨hrd5, hels5, fun _ _ _ h => h⟩
        have hrw11 := HRW.out.below hbw11
        have hrwT := row_take hrw11 (t := t) (by omega)
        have hrwD := row_drop hrw11 t
        have hsT : Re.sizes (rs.take t) ≤ 549755813888 := Nat.le_trans (Re.sizes_take rs t) (Nat.le_trans HSZ.out (by decide))
        have hsD : Re.sizes (rs.drop t) ≤ 549755813888 := by
          have h1 : Re.sizes rs = Re.sizes (rs.take t) + Re.sizes (rs.drop t) := by rw [← Re.sizes_append, List.take_append_drop]
          have h2 := HSZ.out
          omega
        have hs5 : Re.sizes (rs.drop t ++ rs.take t ++ [r0]) ≤ 549755813888 := by
          have h1 : Re.sizes rs = Re.sizes (rs.take t) + Re.sizes (rs.drop t) := by rw [← Re.sizes_append, List.take_append_drop]
          have h2 := HSZ.out
          have h3 := getD_mem_size rs r0 (List.mem_of_getElem? HR0.out)
          rw [Re.sizes_append, Re.sizes_append]
          have h4 : Re.sizes [r0] = r0.size := rfl
          omega
        have hs1 : Re.sizes rs ≤ 549755813888 := Nat.le_trans HSZ.out (by decide)
        have hrot := rot_laws HGO.out HR0.out (t := t)
        have hgT : Goods (rs.take t) := fun z hz => HGO.out z (List.mem_of_mem_take hz)
        have hgD : Goods (rs.drop t) := fun z hz => HGO.out z (List.mem_of_mem_drop hz)
        have HA1 : Hid (∀ W, Below w11.heap.size w11 W → Calls Tryd.prog 14 #[.slice (some ⟨g1, o1, none⟩) k c1] W (RetRe W X0 (anyL rs))) := fun W hW => any_any _ k c1 rs cs X0 W (hrw11.below hW) (X0_lt W) hs1
        have HA2 : Hid (∀ W, Below w11.heap.size w11 W → Calls Tryd.prog 14 #[.slice A5 (k + 1) c5] W (RetRe W X0 (anyL rs))) := fun W hW => hrot.1 ▸ any_any _ (k + 1) c5 _ _ X0 W (hrw5.below hW) (X0_lt W) hs5
        have HB1 : Hid (∀ W, Below w11.heap.size w11 W → Calls Tryd.prog 16 #[.slice (some ⟨g1, o1, none⟩) k c1] W (RetRe W X0 (bothL rs))) := fun W hW => both_any _ k c1 rs cs X0 W (hrw11.below hW) (X0_lt W) hs1
        have HB2 : Hid (∀ W, Below w11.heap.size w11 W → Calls Tryd.prog 16 #[.slice A5 (k + 1) c5] W (RetRe W X0 (bothL rs))) := fun W hW => hrot.2 ▸ both_any _ (k + 1) c5 _ _ X0 W (hrw5.below hW) (X0_lt W) hs5
        have HAT : Hid (∀ W, Below w11.heap.size w11 W → Calls Tryd.prog 14 #[.slice (some ⟨g1, o1, none⟩) t c1] W (RetRe W X0 (anyL (rs.take t)))) := fun W hW => any_any _ t c1 _ _ X0 W (hrwT.below hW) (X0_lt W) hsT
        have HAD : Hid (∀ W, Below w11.heap.size w11 W → Calls Tryd.prog 14 #[.slice (some ⟨g1, o1 + t, none⟩) (k - t) (c1 - t)] W (RetRe W X0 (anyL (rs.drop t)))) := fun W hW => any_any _ (k - t) (c1 - t) _ _ X0 W (hrwD.below hW) (X0_lt W) hsD
        have HTA : Hid (∀ W, Below w11.heap.size w11 W → Calls Tryd.prog 17 #[.slice (some ⟨g1, o1, none⟩) k c1] W (RetRe W X0 (thenL rs))) := fun W hW => then_any _ k c1 rs cs X0 W (hrw11.below hW) (X0_lt W) hs1
        have HTT : Hid (∀ W, Below w11.heap.size w11 W → Calls Tryd.prog 17 #[.slice (some ⟨g1, o1, none⟩) t c1] W (RetRe W X0 (thenL (rs.take t)))) := fun W hW => then_any _ t c1 _ _ X0 W (hrwT.below hW) (X0_lt W) hsT
        have HTD : Hid (∀ W, Below w11.heap.size w11 W → Calls Tryd.prog 17 #[.slice (some ⟨g1, o1 + t, none⟩) (k - t) (c1 - t)] W (RetRe W X0 (thenL (rs.drop t)))) := fun W hW => then_any _ (k - t) (c1 - t) _ _ X0 W (hrwD.below hW) (X0_lt W) hsD
        have hzA : Re.sizes [anyL (rs.take t), anyL (rs.drop t)] ≤ 549755813888 := by
          have h1 : Re.sizes rs = Re.sizes (rs.take t) + Re.sizes (rs.drop t) := by rw [← Re.sizes_append, List.take_append_drop]
          have h2 := HSZ.out
          have h3 := anyL_size (rs.take t)
          have h4 := anyL_size (rs.drop t)
          simp only [Re.sizes]
          omega
        have hzT : Re.sizes [thenL (rs.take t), thenL (rs.drop t)] ≤ 549755813888 := by
          have h1 : Re.sizes rs = Re.sizes (rs.take t) + Re.sizes (rs.drop t) := by rw [← Re.sizes_append, List.take_append_drop]
          have h2 := HSZ.out
          have h3 := thenL_size (rs.take t)
          have h4 := thenL_size (rs.drop t)
          simp only [Re.sizes]
          omega
        have hgA : anyL [anyL (rs.take t), anyL (rs.drop t)] = anyL rs := by rw [anyL_group hgT hgD, List.take_append_drop]
        have hgT' : thenL [thenL (rs.take t), thenL (rs.drop t)] = thenL rs := by rw [thenL_group hgT hgD, List.take_append_drop]
        have HAP : Hid (∀ W a b, ReAt W X0 (anyL (rs.take t)) a → ReAt W X0 (anyL (rs.drop t)) b → Calls Tryd.prog 14 #[.slice (some ⟨W.heap.size, 0, none⟩) 2 2] (W.alloc (.cells #[ptr a, ptr b] 27)) (RetRe W X0 (anyL rs))) := fun W a b ha hb =>
          hgA ▸ (any_any _ 2 2 _ [a, b] X0 _ (ReRow.news ((Els.one ha).append (Els.one hb)) (X0_lt W) _) (X0_lt _) hzA).mono fun _ _ h => h.trans ((Below.refl _ _).alloc (Nat.le_refl _) _)
        have HAPD : Hid (∀ W a b, ReAt W X0 (anyL (rs.take t)) a → ReAt W X0 (anyL (rs.drop t)) b → Calls Tryd.prog 14 #[.slice (some ⟨W.heap.size, 0, none⟩) 2 2] (W.alloc (.cells #[ptr a, ptr b] 27)).drew (RetRe W X0 (anyL rs))) := fun W a b ha hb =>
          hgA ▸ (any_any _ 2 2 _ [a, b] X0 _ ((ReRow.news ((Els.one ha).append (Els.one hb)) (X0_lt W) _).below (Below.refl _ _).drew) (X0_lt _) hzA).mono fun _ _ h => h.trans ((Below.refl _ _).alloc (Nat.le_refl _) _).drew
        have HTP : Hid (∀ W a b, ReAt W X0 (thenL (rs.take t)) a → ReAt W X0 (thenL (rs.drop t)) b → Calls Tryd.prog 17 #[.slice (some ⟨W.heap.size, 0, none⟩) 2 2] (W.alloc (.cells #[ptr a, ptr b] 27)) (RetRe W X0 (thenL rs))) := fun W a b ha hb =>
          hgT' ▸ (then_any _ 2 2 _ [a, b] X0 _ (ReRow.news ((Els.one ha).append (Els.one hb)) (X0_lt W) _) (X0_lt _) hzT).mono fun _ _ h => h.trans ((Below.refl _ _).alloc (Nat.le_refl _) _)
        have HTPD : Hid (∀ W a b, ReAt W X0 (thenL (rs.take t)) a → ReAt W X0 (thenL (rs.drop t)) b → Calls Tryd.prog 17 #[.slice (some ⟨W.heap.size, 0, none⟩) 2 2] (W.alloc (.cells #[ptr a, ptr b] 27)).drew (RetRe W X0 (thenL rs))) := fun W a b ha hb =>
          hgT' ▸ (then_any _ 2 2 _ [a, b] X0 _ ((ReRow.news ((Els.one ha).append (Els.one hb)) (X0_lt W) _).below (Below.refl _ _).drew) (X0_lt _) hzT).mono fun _ _ h => h.trans ((Below.refl _ _).alloc (Nat.le_refl _) _).drew
        have HS : Hid (∀ W z a b, ReAt W X0 z a → ReAt W X0 z b → Calls Tryd.prog 15 #[ptr a, ptr b] W fun e w' => e = .returned (.bool true) ∧ W = w') := fun W z a b ha hb => (same_any _ _ X0 X0 a b W ha hb).mono fun e w' h => ⟨by rw [h.1, beq_self_eq_true], h.2⟩
        have HBW11 := hid (HBW.out.trans (hbw11.mono HBW.out.size))
        have HNOW : Hid (Below w11.heap.size w11 w11) := Below.refl _ _
        have T1 : Hid (0 = 0) := rfl
        have T2 := T1; have T3 := T1; have T4 := T1; have T5 := T1; have T6 := T1
        clear ho11 hcap5 hrd5 hbw11 hels5 hrw5 hrw11 hrwT hrwD hsT hsD hs5 hs1 hrot hgT hgD hzA hzT hgA hgT' hcell9 hn9
        obtain ⟨zA, hzA⟩ : ∃ z, z = anyL rs := ⟨_, rfl⟩
        obtain ⟨zB, hzB⟩ : ∃ z, z = bothL rs := ⟨_, rfl⟩
        obtain ⟨zT, hzT⟩ : ∃ z, z = thenL rs := ⟨_, rfl⟩
        rw [← hzA] at HA1 HA2 HAP HAPD
        rw [← hzB] at HB1 HB2
        rw [← hzT] at HTA HTP HTPD
        clear hzA hzB hzT
        unfold ptr at HS
        go_wp2_with (first | (go_at_call 14; clear T1; refine (HA1.out _ HNOW.out).mono ?_; rintro e w12 ⟨bq, rfl, hq1, hb1⟩; have HNOW := hid (HNOW.out.trans (Below.mono hb1 HNOW.out.size)); (first | (have HQ1 := hid (HQ1.out.under hb1)) | skip); (first | (have HQ2 := hid (HQ2.out.under hb1)) | skip); (first | (have HQ3 := hid (HQ3.out.under hb1)) | skip); (first | (have HQ4 := hid (HQ4.out.under hb1)) | skip); clear hb1; have HQ1 := hid hq1; clear hq1) | (go_at_call 14; clear T2; refine (HA2.out _ HNOW.out).mono ?_; rintro e w12 ⟨bq, rfl, hq1, hb1⟩; have HNOW := hid (HNOW.out.trans (Below.mono hb1 HNOW.out.size)); (first | (have HQ1 := hid (HQ1.out.under hb1)) | skip); (first | (have HQ2 := hid (HQ2.out.under hb1)) | skip); (first | (have HQ3 := hid (HQ3.out.under hb1)) | skip); (first | (have HQ4 := hid (HQ4.out.under hb1)) | skip); clear hb1; have HQ2 := hid hq1; clear hq1) | (go_at_call 15; clear T3; refine (HS.out _ _ _ _ HQ1.out HQ2.out).mono ?_; rintro e w13 ⟨rfl, rfl⟩) | (go_at_call 16; clear T4; refine (HB1.out _ HNOW.out).mono ?_; rintro e w12 ⟨bq, rfl, hq1, hb1⟩; have HNOW := hid (HNOW.out.trans (Below.mono hb1 HNOW.out.size)); (first | (have HQ1 := hid (HQ1.out.under hb1)) | skip); (first | (have HQ2 := hid (HQ2.out.under hb1)) | skip); (first | (have HQ3 := hid (HQ3.out.under hb1)) | skip); (first | (have HQ4 := hid (HQ4.out.under hb1)) | skip); clear hb1; have HQ3 := hid hq1; clear hq1) | (go_at_call 16; clear T5; refine (HB2.out _ HNOW.out).mono ?_; rintro e w12 ⟨bq, rfl, hq1, hb1⟩; have HNOW := hid (HNOW.out.trans (Below.mono hb1 HNOW.out.size)); (first | (have HQ1 := hid (HQ1.out.under hb1)) | skip); (first | (have HQ2 := hid (HQ2.out.under hb1)) | skip); (first | (have HQ3 := hid (HQ3.out.under hb1)) | skip); (first | (have HQ4 := hid (HQ4.out.under hb1)) | skip); clear hb1; have HQ4 := hid hq1; clear hq1) | (go_at_call 15; clear T6; refine (HS.out _ _ _ _ HQ3.out HQ4.out).mono ?_; rintro e w13 ⟨rfl, rfl⟩))
        have U1 : Hid (0 = 0) := rfl
        have U2 := U1; have U3 := U1; have U4 := U1; have U5 := U1; have U6 := U1; have U7 := U1; have U8 := U1; have U9 := U1
        go_region_held3 (fun _ => True) (trivial)
          (first | (go_at_call 14; clear U1; refine (HA1.out _ (by first | exact HNOW.out | exact HNOW.out.drew)).mono ?_; rintro e w12 ⟨bq, rfl, hq1, hb1⟩; (first | (have hb1 := undrew hb1) | skip); have HNOW := hid (HNOW.out.trans (Below.mono hb1 HNOW.out.size)); (first | (have HP1 := hid (HP1.out.under hb1)) | skip); (first | (have HP2 := hid (HP2.out.under hb1)) | skip); (first | (have HP3 := hid (HP3.out.under hb1)) | skip); (first | (have HP4 := hid (HP4.out.under hb1)) | skip); (first | (have HP5 := hid (HP5.out.under hb1)) | skip); (first | (have HP6 := hid (HP6.out.under hb1)) | skip); (first | (have HP7 := hid (HP7.out.under hb1)) | skip); clear hb1; have HP1 := hid hq1; clear hq1) | (go_at_call 14; clear U2; refine (HAT.out _ (by first | exact HNOW.out | exact HNOW.out.drew)).mono ?_; rintro e w12 ⟨bq, rfl, hq1, hb1⟩; (first | (have hb1 := undrew hb1) | skip); have HNOW := hid (HNOW.out.trans (Below.mono hb1 HNOW.out.size)); (first | (have HP1 := hid (HP1.out.under hb1)) | skip); (first | (have HP2 := hid (HP2.out.under hb1)) | skip); (first | (have HP3 := hid (HP3.out.under hb1)) | skip); (first | (have HP4 := hid (HP4.out.under hb1)) | skip); (first | (have HP5 := hid (HP5.out.under hb1)) | skip); (first | (have HP6 := hid (HP6.out.under hb1)) | skip); (first | (have HP7 := hid (HP7.out.under hb1)) | skip); clear hb1; have HP2 := hid hq1; clear hq1) | (go_at_call 14; clear U3; refine (HAD.out _ (by first | exact HNOW.out | exact HNOW.out.drew)).mono ?_; rintro e w12 ⟨bq, rfl, hq1, hb1⟩; (first | (have hb1 := undrew hb1) | skip); have HNOW := hid (HNOW.out.trans (Below.mono hb1 HNOW.out.size)); (first | (have HP1 := hid (HP1.out.under hb1)) | skip); (first | (have HP2 := hid (HP2.out.under hb1)) | skip); (first | (have HP3 := hid (HP3.out.under hb1)) | skip); (first | (have HP4 := hid (HP4.out.under hb1)) | skip); (first | (have HP5 := hid (HP5.out.under hb1)) | skip); (first | (have HP6 := hid (HP6.out.under hb1)) | skip); (first | (have HP7 := hid (HP7.out.under hb1)) | skip); clear hb1; have HP3 := hid hq1; clear hq1) | (go_at_call 14; clear U4; (first | refine (HAP.out _ _ _ HP2.out HP3.out).mono ?_ | refine (HAPD.out _ _ _ HP2.out HP3.out).mono ?_); rintro e w12 ⟨bq, rfl, hq1, hb1⟩; (first | (have hb1 := undrew hb1) | skip); have HNOW := hid (HNOW.out.trans (Below.mono hb1 HNOW.out.size)); (first | (have HP1 := hid (HP1.out.under hb1)) | skip); (first | (have HP2 := hid (HP2.out.under hb1)) | skip); (first | (have HP3 := hid (HP3.out.under hb1)) | skip); (first | (have HP4 := hid (HP4.out.under hb1)) | skip); (first | (have HP5 := hid (HP5.out.under hb1)) | skip); (first | (have HP6 := hid (HP6.out.under hb1)) | skip); (first | (have HP7 := hid (HP7.out.under hb1)) | skip); clear hb1; have HP4 := hid hq1; clear hq1) | (go_at_call 15; clear U5; refine (HS.out _ _ _ _ HP1.out HP4.out).mono ?_; rintro e w13 ⟨rfl, rfl⟩) | (go_at_call 17; clear U6; refine (HTA.out _ (by first | exact HNOW.out | exact HNOW.out.drew)).mono ?_; rintro e w12 ⟨bq, rfl, hq1, hb1⟩; (first | (have hb1 := undrew hb1) | skip); have HNOW := hid (HNOW.out.trans (Below.mono hb1 HNOW.out.size)); (first | (have HP1 := hid (HP1.out.under hb1)) | skip); (first | (have HP2 := hid (HP2.out.under hb1)) | skip); (first | (have HP3 := hid (HP3.out.under hb1)) | skip); (first | (have HP4 := hid (HP4.out.under hb1)) | skip); (first | (have HP5 := hid (HP5.out.under hb1)) | skip); (first | (have HP6 := hid (HP6.out.under hb1)) | skip); (first | (have HP7 := hid (HP7.out.under hb1)) | skip); clear hb1; have HP5 := hid hq1; clear hq1) | (go_at_call 17; clear U7; refine (HTT.out _ (by first | exact HNOW.out | exact HNOW.out.drew)).mono ?_; rintro e w12 ⟨bq, rfl, hq1, hb1⟩; (first | (have hb1 := undrew hb1) | skip); have HNOW := hid (HNOW.out.trans (Below.mono hb1 HNOW.out.size)); (first | (have HP1 := hid (HP1.out.under hb1)) | skip); (first | (have HP2 := hid (HP2.out.under hb1)) | skip); (first | (have HP3 := hid (HP3.out.under hb1)) | skip); (first | (have HP4 := hid (HP4.out.under hb1)) | skip); (first | (have HP5 := hid (HP5.out.under hb1)) | skip); (first | (have HP6 := hid (HP6.out.under hb1)) | skip); (first | (have HP7 := hid (HP7.out.under hb1)) | skip); clear hb1; have HP6 := hid hq1; clear hq1) | (go_at_call 17; clear U8; refine (HTD.out _ (by first | exact HNOW.out | exact HNOW.out.drew)).mono ?_; rintro e w12 ⟨bq, rfl, hq1, hb1⟩; (first | (have hb1 := undrew hb1) | skip); have HNOW := hid (HNOW.out.trans (Below.mono hb1 HNOW.out.size)); (first | (have HP1 := hid (HP1.out.under hb1)) | skip); (first | (have HP2 := hid (HP2.out.under hb1)) | skip); (first | (have HP3 := hid (HP3.out.under hb1)) | skip); (first | (have HP4 := hid (HP4.out.under hb1)) | skip); (first | (have HP5 := hid (HP5.out.under hb1)) | skip); (first | (have HP6 := hid (HP6.out.under hb1)) | skip); (first | (have HP7 := hid (HP7.out.under hb1)) | skip); clear hb1; have HP7 := hid hq1; clear hq1) | (go_at_call 17; clear U9; (first | refine (HTP.out _ _ _ HP6.out HP7.out).mono ?_ | refine (HTPD.out _ _ _ HP6.out HP7.out).mono ?_); rintro e w12 ⟨bq, rfl, hq1, hb1⟩; (first | (have hb1 := undrew hb1) | skip); have HNOW := hid (HNOW.out.trans (Below.mono hb1 HNOW.out.size)); (first | (have HP1 := hid (HP1.out.under hb1)) | skip); (first | (have HP2 := hid (HP2.out.under hb1)) | skip); (first | (have HP3 := hid (HP3.out.under hb1)) | skip); (first | (have HP4 := hid (HP4.out.under hb1)) | skip); (first | (have HP5 := hid (HP5.out.under hb1)) | skip); (first | (have HP6 := hid (HP6.out.under hb1)) | skip); (first | (have HP7 := hid (HP7.out.under hb1)) | skip); clear hb1; have HP8 := hid hq1; clear hq1) | (go_at_call 15; refine (HS.out _ _ _ _ HP5.out HP8.out).mono ?_; rintro e w13 ⟨rfl, rfl⟩))
        all_goals
          go_wp2_with fail
          go_ret
          exact ⟨rfl, HBW11.out.trans (HNOW.out.mono HBW11.out.size)⟩
end Go.Proofs.YtihloigpdcinkaaDoor
