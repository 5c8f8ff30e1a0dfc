/- The walk of Dfa.Live; of none. -/
import Derived.Test.YtaplejpjmaocdaaGreatDoorAliveW
import Derived.Test.YtaplejpjmaocdaaGreatDoorStb
import Derived.Test.YtaplejpjmaocdaaGreatDoorPkV
namespace Go.Proofs.YtaplejpjmaocdaaGreatDoor
open Go.RowKit Go.Maps

theorem DfaAt.rowsD {w : World} {D : Nat} {F : Nat → Nat} {hs gs : List Nat} {nx : List (List Nat)} {ys : List Bool} {vh vn vy : Value} (hk : DfaK w D F nx ys vh vn vy) (hok : DOk F hs nx ys) (hgl : gs.length = nx.length)
    (hrow : ∀ (i g : Nat) (row : List Nat), gs[i]? = some g → nx[i]? = some row → w.heap[g]? = some (.cells (rowA hs.length row) 3 (0, 0)) ∧ row.length = hs.length) : ∀ g ∈ gs, g ≠ D := fun g hg e => by
  subst e
  obtain ⟨i, hi⟩ := List.getElem?_of_mem hg
  obtain ⟨row, hr⟩ : ∃ row, nx[i]? = some row := ⟨_, List.getElem?_eq_getElem (by rw [← hgl]; exact (List.getElem?_eq_some_iff.1 hi).1)⟩
  obtain ⟨h1, h2⟩ := hrow i g row hi hr
  have hp := hok.at_ 0 (by omega)
  have h3 := (blk_cell h1 0).trans (rowA_get (by omega))
  rw [hk.kb 0 (by omega)] at h3
  cases h3
/-- Behind Do. -/
theorem live_set {w W : World} {D : Nat} {F : Nat → Nat} {hs : List Nat} {nx : List (List Nat)} {ys : List Bool} (hok : DOk F hs nx ys) (h : DfaAt w D F hs nx ys) (hA : AliveRet (w.setCell ⟨D, 260, none⟩ (.int .i32 1)) D nx ys W) :
    DfaAt ((W.drew.setCell ⟨D, 259, none⟩ (.int .u32 1)).setCell ⟨D, 260, none⟩ (.int .i32 0)) D F hs nx ys ∧ KeepX (fun k => k = D) w ((W.drew.setCell ⟨D, 259, none⟩ (.int .u32 1)).setCell ⟨D, 260, none⟩ (.int .i32 0)) ∧
    ∃ g c l, ((W.drew.setCell ⟨D, 259, none⟩ (.int .u32 1)).setCell ⟨D, 260, none⟩ (.int .i32 0)).cell? ⟨D, 262, none⟩ = some (.slice (some ⟨g, 0, none⟩) ys.length c) ∧ Bits1 ((W.drew.setCell ⟨D, 259, none⟩ (.int .u32 1)).setCell ⟨D, 260, none⟩ (.int .i32 0)) g ys.length l ∧ ∀ q, q < ys.length → (l q = true ↔ Liv nx (yB ys) q) := by
  obtain ⟨vh, vn, vy, gs, hK, hvh, hvn, hvy, hgl, hrow⟩ := h
  obtain ⟨g, c, l, hai, hl⟩ := hA
  obtain ⟨d, vl, e1, e2, e3, e4, -⟩ := hK.lv
  have hgd := DfaAt.rowsD hK hok hgl hrow
  have k1 : KeepX (fun k => k = D) w W := (KeepX.set_ (X := fun k => k = D) w ⟨D, 260, none⟩ (.int .i32 1) rfl).trans hai.kp fun _ _ e => e
  have k2 : KeepX (fun k => k = D) w ((W.drew.setCell ⟨D, 259, none⟩ (.int .u32 1)).setCell ⟨D, 260, none⟩ (.int .i32 0)) :=
    ((k1.trans (KeepX.drewN (X := fun k => k = D) W 1) fun _ _ e => e).trans (KeepX.set_ (X := fun k => k = D) _ ⟨D, 259, none⟩ _ rfl) fun _ _ e => e).trans (KeepX.set_ (X := fun k => k = D) _ ⟨D, 260, none⟩ _ rfl) fun _ _ e => e
  have c0 : ∀ i, i ≠ 262 → i ≠ 260 → W.cell? ⟨D, i, none⟩ = w.cell? ⟨D, i, none⟩ := fun i h1 h2 => (hai.cell i h1).trans (World.cell?_setCell_other w ⟨D, 260, none⟩ ⟨D, i, none⟩ _ (fun e => h2 (congrArg Addr.off e).symm))
  have far : ∀ i, i ≠ 259 → i ≠ 260 → ((W.drew.setCell ⟨D, 259, none⟩ (.int .u32 1)).setCell ⟨D, 260, none⟩ (.int .i32 0)).cell? ⟨D, i, none⟩ = W.cell? ⟨D, i, none⟩ := fun i h1 h2 =>
    (World.cell?_setCell_other _ ⟨D, 260, none⟩ ⟨D, i, none⟩ _ (fun e => h2 (congrArg Addr.off e).symm)).trans ((World.cell?_setCell_other _ ⟨D, 259, none⟩ ⟨D, i, none⟩ _ (fun e => h1 (congrArg Addr.off e).symm)).trans (World.cell?_drew ..))
  have w59 : W.cell? ⟨D, 259, none⟩ = some (.int .u32 d) := (c0 259 (by omega) (by omega)).trans e1
  have w60 : W.cell? ⟨D, 260, none⟩ = some (.int .i32 1) := (hai.cell 260 (by omega)).trans (World.cell?_setCell_same w _ _ e2)
  have z59 : ((W.drew.setCell ⟨D, 259, none⟩ (.int .u32 1)).setCell ⟨D, 260, none⟩ (.int .i32 0)).cell? ⟨D, 259, none⟩ = some (.int .u32 1) := (World.cell?_setCell_other _ ⟨D, 260, none⟩ ⟨D, 259, none⟩ _ (by simp)).trans (World.cell?_setCell_same _ _ _ (by rw [World.cell?_drew]; exact w59))
  have z60 : ((W.drew.setCell ⟨D, 259, none⟩ (.int .u32 1)).setCell ⟨D, 260, none⟩ (.int .i32 0)).cell? ⟨D, 260, none⟩ = some (.int .i32 0) := World.cell?_setCell_same _ _ _ ((World.cell?_setCell_other _ ⟨D, 259, none⟩ ⟨D, 260, none⟩ _ (by simp)).trans (by rw [World.cell?_drew]; exact w60))
  have z62 : ((W.drew.setCell ⟨D, 259, none⟩ (.int .u32 1)).setCell ⟨D, 260, none⟩ (.int .i32 0)).cell? ⟨D, 262, none⟩ = some (.slice (some ⟨g, 0, none⟩) ys.length c) := (far 262 (by omega) (by omega)).trans hai.lv
  have hlt0 : (w.setCell ⟨D, 260, none⟩ (.int .i32 1)).heap.size = w.heap.size := size_setCell _ _ _
  have hog := hai.og
  have hgne : g ≠ D := by have := hK.lt; omega
  have hbits : Bits1 ((W.drew.setCell ⟨D, 259, none⟩ (.int .u32 1)).setCell ⟨D, 260, none⟩ (.int .i32 0)) g ys.length l := (((hai.bits.below (below_drewN _ W 1)).far ⟨D, 259, none⟩ _ hgne).far ⟨D, 260, none⟩ _ hgne)
  have fz : ∀ i, ((W.drew.setCell ⟨D, 259, none⟩ (.int .u32 1)).setCell ⟨D, 260, none⟩ (.int .i32 0)).frozen? ⟨D, i, none⟩ = false := fun i => by
    have h := hai.fz i
    simp at h ⊢
    rw [h]
    exact e4 i
  refine ⟨⟨vh, vn, vy, gs, ⟨Nat.lt_of_lt_of_le hK.lt k2.size, (far _ (by omega) (by omega)).trans ((c0 _ (by omega) (by omega)).trans hK.k6), (far _ (by omega) (by omega)).trans ((c0 _ (by omega) (by omega)).trans hK.k7), (far _ (by omega) (by omega)).trans ((c0 _ (by omega) (by omega)).trans hK.k8),
    fun b hb => (far _ (by omega) (by omega)).trans ((c0 _ (by omega) (by omega)).trans (hK.kb b hb)), ⟨1, _, z59, z60, z62, fz, .inr ⟨rfl, g, c, l, hgne, rfl, hbits, hl⟩⟩, hK.n6, hK.n7, hK.n8⟩,
    rdV_keep hvh k2 fun k e e2 => hK.n6 (by rw [← e2]; exact e), rdV_keep hvn k2 fun k e e2 => hK.n7 (by rw [← e2]; exact e), rdV_keep hvy k2 fun k e e2 => hK.n8 (by rw [← e2]; exact e), hgl, fun i g row h1 h2 => ⟨k2.at_ (hrow i g row h1 h2).1 (hgd g (List.mem_of_getElem? h1)), (hrow i g row h1 h2).2⟩⟩, k2, g, c, l, z62, hbits, hl⟩
/-- What a call of Live comes to. -/
def LiveRet (w : World) (D : Nat) (q : Int) (F : Nat → Nat) (hs : List Nat) (nx : List (List Nat)) (ys : List Bool) (e : Ending) (w' : World) : Prop :=
  DfaAt w' D F hs nx ys ∧ KeepX (fun k => k = D) w w' ∧ ∃ b : Bool, e = .returned (.bool b) ∧ (b = true ↔ (0 ≤ q ∧ q < ys.length ∧ Liv nx (yB ys) q.toNat))
set_option maxRecDepth 100000 in
set_option maxHeartbeats 1000000 in
theorem dlive_any (D : Nat) (q : Int) (F : Nat → Nat) (hs : List Nat) (nx : List (List Nat)) (ys : List Bool) (hok : DOk F hs nx ys) (hl : hs.length ≤ 256) (hto : ∀ q to, Suc nx q to → to < ys.length) (w : World) (h : DfaAt w D F hs nx ys) :
    Calls Tryz.prog 46 #[ptr D, .int .i64 q] w (LiveRet w D q F hs nx ys) := by
  have HH := hid (dhas_any D q F hs nx ys w h)
  have HDA := hid h
  have hmf : ∀ (fn : Fn) (first cap : Array Value) (w : World), (Instr.makeFunc fn first cap).run Tryz.prog w = .ok (.func fn first cap) w := fun _ _ _ _ => rfl
  by_cases hq : 0 ≤ q ∧ q < ys.length
  · obtain ⟨k, rfl⟩ : ∃ k : Nat, q = k := ⟨q.toNat, by omega⟩
    have hk : k < ys.length := by omega
    rw [decide_eq_true hq] at HH
    obtain ⟨vh, vn, vy, gs, hK, hvh, hvn, hvy, hgl, hrow⟩ := h
    obtain ⟨d, vl, e1, e2, e3, e4, hd⟩ := hK.lv
    have hkn : (k : Int) < (ys.length : Int) := by omega
    rcases hd with rfl | ⟨rfl, g, c, l, hgne, rfl, hbits, hlv⟩
    · have hgd := DfaAt.rowsD hK hok hgl hrow
      have kx : KeepX (fun k => k = D) w (w.setCell ⟨D, 260, none⟩ (.int .i32 1)) := KeepX.set_ (X := fun k => k = D) w ⟨D, 260, none⟩ _ rfl
      have oth : ∀ i, i ≠ 260 → (w.setCell ⟨D, 260, none⟩ (.int .i32 1)).cell? ⟨D, i, none⟩ = w.cell? ⟨D, i, none⟩ := fun i hi => World.cell?_setCell_other w ⟨D, 260, none⟩ ⟨D, i, none⟩ _ (fun e => hi (congrArg Addr.off e).symm)
      have ha := alive_any D hs.length vn vy gs nx ys (w.setCell ⟨D, 260, none⟩ (.int .i32 1)) (by rw [size_setCell]; exact hK.lt) ((oth _ (by omega)).trans hK.k7) ((oth _ (by omega)).trans hK.k8) vl ((oth _ (by omega)).trans e3) (by simp [e4])
        (rdV_keep hvn kx fun k e e2 => hK.n7 (by rw [← e2]; exact e)) (rdV_keep hvy kx fun k e e2 => hK.n8 (by rw [← e2]; exact e)) hK.n7 hK.n8 hgl hok.len (by omega) hok.small hl (fun i g row h1 h2 => ⟨kx.at_ (hrow i g row h1 h2).1 (hgd g (List.mem_of_getElem? h1)), (hrow i g row h1 h2).2⟩) hgd hto
      have HDO := hid (do_first D 259 D (AliveRet (w.setCell ⟨D, 260, none⟩ (.int .i32 1)) D nx ys) w e1 e2 (e4 260) (ha.mono fun e W hh => by
        obtain ⟨h1, h2⟩ := hh
        refine ⟨h1, ?_⟩
        have h3 := h2
        obtain ⟨g, c, l, hai, -⟩ := h3
        refine ⟨(hai.cell 259 (by omega)).trans ((oth _ (by omega)).trans e1), (hai.cell 260 (by omega)).trans (World.cell?_setCell_same w _ _ e2), ?_, ?_, h2⟩
        · rw [hai.fz]; simp [e4]
        · rw [hai.fz]; simp [e4]))
      have HLS := hid (fun W (hA : AliveRet (w.setCell ⟨D, 260, none⟩ (.int .i32 1)) D nx ys W) => live_set hok HDA.out hA)
      obtain ⟨n, hn⟩ : ∃ n, n = ys.length := ⟨_, rfl⟩
      have HN := hid hn
      clear hvh hvn hvy hgl hrow e1 e2 e3 e4 hgd kx oth ha hK HDA
      unfold ptr at *
      go_enter Tryz.func46, Tryz.ntmps46
      go_wp2_with (first | (go_at_call 71; refine HH.out.mono ?_; rintro e w2 ⟨rfl, rfl⟩) | (go_at_call 82; refine HDO.out.mono ?_; rintro e w3 ⟨rfl, W, hR, hw3⟩; obtain ⟨hda, hkp, g, c, l, c1, hb, hlv⟩ := HLS.out W hR; rw [← hw3] at hda hkp c1 hb; have c2 := hb.cell k hk; have HDA := hid hda; have HKP := hid hkp; have HLV := hid hlv; clear hw3 hR hda hkp hlv hb))
      go_ret
      exact ⟨HDA.out, HKP.out, l k, rfl, ⟨fun h => ⟨by omega, hkn, (HLV.out k hk).1 h⟩, fun h => (HLV.out k hk).2 h.2.2⟩⟩
    · have HDO := hid (do_done ⟨D, 259, none⟩ 1 (by decide) (.func (.func 83) #[ptr D] #[]) w e1)
      have c2 := hbits.cell k hk
      have HLV := hid hlv
      clear hvh hvn hvy hgl hrow e1 e2 e4 hK hlv
      unfold ptr at *
      go_enter Tryz.func46, Tryz.ntmps46
      go_wp2_with (first | (go_at_call 71; refine HH.out.mono ?_; rintro e w2 ⟨rfl, rfl⟩) | (go_at_call 82; refine HDO.out.mono ?_; rintro e w3 ⟨rfl, rfl⟩))
      go_ret
      exact ⟨HDA.out, KeepX.refl _ _, l k, rfl, ⟨fun h => ⟨by omega, hkn, (HLV.out k hk).1 h⟩, fun h => (HLV.out k hk).2 h.2.2⟩⟩
  · rw [decide_eq_false hq] at HH
    clear h
    unfold ptr at *
    go_enter Tryz.func46, Tryz.ntmps46
    go_wp2_with (go_at_call 71; refine HH.out.mono ?_; rintro e w2 ⟨rfl, rfl⟩)
    go_ret
    exact ⟨HDA.out, KeepX.refl _ _, false, rfl, ⟨fun h => (by cases h), fun h => absurd ⟨h.1, h.2.1⟩ hq⟩⟩
theorem dhas_nil (q : Int) (w : World) : Calls Tryz.prog 71 #[.pointer none, .int .i64 q] w fun e w' => e = .returned (.bool false) ∧ w = w' := by
  have HL := hid (dlen_nil w)
  by_cases h0 : 0 ≤ q
  · have e0 : decide (0 ≤ q) = true := decide_eq_true h0
    have e1 : ¬ q < 0 := by omega
    go_enter Tryz.func71, Tryz.ntmps71
    go_wp2_with (go_at_call 24; refine HL.out.mono ?_; rintro e w2 ⟨rfl, rfl⟩)
    go_ret
    exact ⟨by simp [e1], rfl⟩
  · have e0 : decide (0 ≤ q) = false := decide_eq_false h0
    go_enter Tryz.func71, Tryz.ntmps71
    go_wp2_with fail
    go_ret
    exact ⟨rfl, rfl⟩
theorem dstep_nil (q : Int) (b : Nat) (w : World) : Calls Tryz.prog 25 #[.pointer none, .int .i64 q, .int .u8 b] w fun e w' => e = .returned (.int .i64 (-1)) ∧ w = w' := by
  have HH := hid (dhas_nil q w)
  go_enter Tryz.func25, Tryz.ntmps25
  go_wp2_with (go_at_call 71; refine HH.out.mono ?_; rintro e w2 ⟨rfl, rfl⟩)
  go_ret
  exact ⟨rfl, rfl⟩
theorem dyes_nil (q : Int) (w : World) : Calls Tryz.prog 28 #[.pointer none, .int .i64 q] w fun e w' => e = .returned (.bool false) ∧ w = w' := by
  have HH := hid (dhas_nil q w)
  go_enter Tryz.func28, Tryz.ntmps28
  go_wp2_with (go_at_call 71; refine HH.out.mono ?_; rintro e w2 ⟨rfl, rfl⟩)
  go_ret
  exact ⟨rfl, rfl⟩
theorem dlive_nil (q : Int) (w : World) : Calls Tryz.prog 46 #[.pointer none, .int .i64 q] w fun e w' => e = .returned (.bool false) ∧ w = w' := by
  have HH := hid (dhas_nil q w)
  go_enter Tryz.func46, Tryz.ntmps46
  go_wp2_with (go_at_call 71; refine HH.out.mono ?_; rintro e w2 ⟨rfl, rfl⟩)
  go_ret
  exact ⟨rfl, rfl⟩
set_option maxRecDepth 100000 in
theorem drun_nil (w : World) : Calls Tryz.prog 19 #[.pointer none, .int .i64 0, .string ⟨#[]⟩] w fun e w' => e = .returned (.int .i64 0) ∧ Below w.heap.size w w' := by
  have HB0 : Hid (Below w.heap.size w w) := Below.refl _ _
  go_enter Tryz.func19, Tryz.ntmps19
  go_wp2_with fail
  go_loopw [1, 7] (fun p i wr => i = .int .i64 0 ∧ p = .int .i64 0 ∧ Hid (Below w.heap.size w wr)) (fun _ i _ => 0)
  case atStart => exact ⟨rfl, rfl, HB0.out⟩
  case round =>
    obtain ⟨rfl, rfl, hbel⟩ := hrel
    go_wp2_with fail
    go_ret
    exact ⟨rfl, hbel.out⟩
set_option maxRecDepth 100000 in
theorem dmatch_nil (w : World) : Calls Tryz.prog 17 #[.pointer none, .string ⟨#[]⟩] w fun e w' => e = .returned (.bool false) ∧ Below w.heap.size w w' := by
  have HR := hid (drun_nil w)
  have HY := hid (fun W => dyes_nil 0 W)
  go_enter Tryz.func17, Tryz.ntmps17
  go_wp2_with (first | (go_at_call 19; refine HR.out.mono ?_; rintro e w2 ⟨rfl, h2⟩; have HB2 := hid h2; clear h2) | (go_at_call 28; refine (HY.out _).mono ?_; rintro e w3 ⟨rfl, rfl⟩))
  go_ret
  exact ⟨rfl, HB2.out⟩
end Go.Proofs.YtaplejpjmaocdaaGreatDoor
