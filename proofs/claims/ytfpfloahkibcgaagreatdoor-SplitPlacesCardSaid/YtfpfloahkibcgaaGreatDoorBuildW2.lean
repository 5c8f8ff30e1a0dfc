/- The walk of dfa.Build. -/
import Derived.Test.YtfpfloahkibcgaaGreatDoorRowW3
namespace Go.Proofs.YtfpfloahkibcgaaGreatDoor
open Go.RowKit Go.Maps

/-- The heads. -/
def headsR (ps : List CSet) : List Nat := ps.map leastN
theorem info_int : (Tryz.prog.info? 3).map (fun i => (i.zero, i.size, i.bytes)) = some (some (.int .i64 0), 1, 8) := by kernel_rfl
set_option maxRecDepth 100000 in
set_option maxHeartbeats 4000000 in
theorem build_st (r : Re) (rb B left used : Nat) (w : World) (h : ReAt w (fun k => k = B) r rb) (hg : Good r) (hsz : r.size ≤ 1000000) (hB : BudAt w B left used) (hl : left ≤ 1000000) (hu : used ≤ 1000000) (hT : Tab w) :
    Calls Tryz.prog 65 #[ptr rb, ptr B] w (BuildSt w B left used r (refineR (setsR r))) := by
  have HSE := hid (fun W (hW : Below w.heap.size w W) => dsets_any r _ rb W (h.under hW) hsz)
  have HRF := hid (fun W A n c (hr : RdC W A n (setsR r)) => refine_any A n c (setsR r) W hr (by have := hr.1; have := setsR_len r; omega))
  obtain ⟨hsee, hout, hcov⟩ := refine_facts (setsR r)
  have hlen := out_len hout hcov
  have HNE := hid hout.ne
  generalize refineR (setsR r) = ps at *
  have HIX := hid (fun W A c (hr : RdC W A ps.length ps) => index_any A ps.length c ps W hr hlen)
  have HR := hid h
  have HBU := hid hB
  have HT := hid hT
  have HLN := hid hlen
  clear h hB hT hsee hout hcov hlen
  obtain ⟨F, hF⟩ : ∃ F, F = atN ps ps.length := ⟨_, rfl⟩
  have HF := hid hF
  rw [← hF] at HIX
  obtain ⟨a0, ha0⟩ : ∃ a0, a0 = atF F := ⟨_, rfl⟩
  have hbu := fold_dfa F
  have hsz0 : a0.size = 256 := by rw [ha0, atF_size]
  rw [← ha0] at HIX hbu
  obtain ⟨d0, hd0⟩ : ∃ d0, d0 = dfaA F nilV nilV nilV := ⟨_, rfl⟩
  have HD0 := hid hd0
  rw [← hd0] at hbu
  have HBLT := hid hbu
  clear hF ha0 hd0 hbu
  unfold ptr at *
  go_enter Tryz.func65, Tryz.ntmps65
  go_wp2_with fail
  obtain ⟨w1, hw1⟩ : ∃ w1 : World, w1 = w.alloc (.cells #[Value.pointer (some ⟨B, 0, none⟩)] 34) := ⟨_, rfl⟩
  rw [← hw1]
  have HB1 : Hid (Below w.heap.size w w1) := hid (by rw [hw1]; exact (Below.refl _ _).alloc (Nat.le_refl _) _)
  have HBX : Hid (w1.heap[w.heap.size]? = some (.cells #[ptr B] 34 (0, 0))) := hid (by rw [hw1]; exact blk_new w _)
  clear hw1
  go_wp2_with (first | (go_at_call 107; refine (HSE.out _ HB1.out).mono ?_; rintro e w2 ⟨v2, rfl, h2, hb2⟩; obtain ⟨A2, c2, hv2⟩ := h2.form; subst hv2; have HS2 := hid h2.rd.2.2; have HB2 := hid (HB1.out.trans (hb2.mono HB1.out.size)); have HC2 := hid hb2; clear h2 hb2) | (go_at_call 46; refine (HRF.out _ _ _ _ HS2.out).mono ?_; rintro e w3 ⟨v3, rfl, h3, hb3⟩; obtain ⟨A3, c3, hv3⟩ := h3.form; subst hv3; have HS3 := hid h3.rd.2.2; have HB3 := hid (HB2.out.trans (hb3.mono HB2.out.size)); have HC3 := hid (HC2.out.trans (hb3.mono HC2.out.size)); clear h3 hb3) | (go_at_call 106; refine (HIX.out _ _ _ HS3.out).mono ?_; rintro e w4 ⟨rfl, hb4⟩; have HS4 := hid (HS3.out.below hb4); have HB4 := hid (HB3.out.trans (hb4.mono HB3.out.size)); have HC4 := hid (HC3.out.trans (hb4.mono HC3.out.size)); clear hb4))
  rw [HBLT.out]
  obtain ⟨D, hDD⟩ : ∃ D, D = w4.heap.size := ⟨_, rfl⟩
  obtain ⟨w6, hw6⟩ : ∃ w6 : World, w6 = (w4.alloc (.cells d0 171)).alloc (.cells #[Value.pointer (some ⟨w4.heap.size, 0, none⟩)] 104) := ⟨_, rfl⟩
  rw [← hw6]
  rw [← hDD]
  have HDD := hid hDD
  have HHD : Hid (HdAt w6 D F nilV []) := hid (by
    rw [hw6, hDD]
    refine ⟨by rw [HD0.out]; exact blk_alloc (blk_new w4 _) _, ?_, World.ownsRow_nil _ _ _ 1, by simp⟩
    have := blk_new (w4.alloc (.cells d0 171)) (.cells #[Value.pointer (some ⟨w4.heap.size, 0, none⟩)] 104)
    simpa using this)
  have HB46 : Hid (Below D w4 w6) := hid (by rw [hw6, hDD]; exact ((Below.refl _ _).alloc (Nat.le_refl _) _).alloc (by simp) _)
  have HT4 := hid (HT.out.below HB4.out)
  clear hw6 hDD
  go_loopw [35] (fun i wr => ∃ (k : Nat) (vh : Value), k ≤ ps.length ∧ i = .int .i64 k ∧ Hid (HdAt wr D F vh ((headsR ps).take k)) ∧ Hid (Below D w4 wr)) (fun i _ => ps.length - (intOf i).toNat)
  case atStart => exact ⟨0, nilV, Nat.zero_le _, rfl, HHD.out, HB46.out⟩
  case round =>
    obtain ⟨k, vh, hk, rfl, hhd, hbel⟩ := hrel
    by_cases hlt : k < ps.length
    · obtain ⟨g, o, p, rfl, hp, hgl, a0', a1', a2', a3'⟩ := HS4.out.at_ (k := k) hlt
      have hbel' : Below w4.heap.size w4 wr := by rw [← HDD.out]; exact hbel.out
      have ha := fun i => hbel'.cell (p := ⟨g, i, none⟩) hgl
      have a0' := (ha _).trans a0'; have a1' := (ha _).trans a1'; have a2' := (ha _).trans a2'; have a3' := (ha _).trans a3'
      have HP := hid hp
      have HNP : Hid (p ≠ CSet.zero) := hid (HNE.out p (List.mem_of_getElem? hp))
      have HLE := hid (fun W (hW : Below w4.heap.size w4 W) => least_any p HNP.out W (HT4.out.below hW))
      unfold cv at HLE
      have hl256 := (least_has p HNP.out).2
      have HTK : Hid ((headsR ps).take (k + 1) = (headsR ps).take k ++ [leastN p]) := hid (by
        have : (headsR ps)[k]? = some (leastN p) := by unfold headsR; rw [List.getElem?_map, hp]; rfl
        rw [List.take_add_one, this]; rfl)
      generalize leastN p = l at *
      clear ha hp
      obtain ⟨Ah, ch, hvh⟩ := own_form hhd.out.hH
      have hlk : (u8s ((headsR ps).take k)).length = k := by unfold u8s headsR; simp; omega
      rw [hlk] at hvh
      subst hvh
      have HLK := hid hlk
      have hk256 : k ≤ 256 := Nat.le_trans hk HLN.out
      go_wp2_with fail
      obtain ⟨w7, hw7⟩ : ∃ w7 : World, w7 = wr.alloc (.cells #[Value.int IntKind.u64 ↑p.a.toNat, Value.int IntKind.u64 ↑p.b.toNat, Value.int IntKind.u64 ↑p.c.toNat, Value.int IntKind.u64 ↑p.d.toNat] 87) := ⟨_, rfl⟩
      rw [← hw7]
      have HB7 : Hid (Below wr.heap.size wr w7) := hid (by rw [hw7]; exact (Below.refl _ _).alloc (Nat.le_refl _) _)
      have HL7 := hid (HLE.out w7 (hbel'.trans (HB7.out.mono hbel'.size)))
      clear hw7 a0' a1' a2' a3' hlk hbel'
      go_wp2_with (go_at_call 90; refine HL7.out.mono ?_; rintro e w8 ⟨rfl, hb8⟩; have HB8 := hid (HB7.out.trans (hb8.mono HB7.out.size)); clear hb8)
      have HH8 := hid (hhd.out.below HB8.out)
      have HHA := hid (fun W (hW : Below w8.heap.size w8 W) => (row_blk HH8.out.hH fun k e => hW.block k (World.ownsRow.lt HH8.out.hH k e).2 : W.ownsRow (D + 2) 5 1 (.slice Ah k ch) (u8s ((headsR ps).take k)).length (u8s ((headsR ps).take k))))
      have e1 := (blk_cell HH8.out.hbD 0).trans (show #[ptr D][0]? = some (Value.pointer (some ⟨D, 0, none⟩)) by rfl)
      have e2 := (blk_cell HH8.out.hD 256).trans (dfaA_get F (.slice Ah k ch) nilV nilV).1
      have e3 : (w8.alloc (.cells #[Value.int IntKind.u8 ↑l] 5)).cell? ⟨D + 1, 0, none⟩ = some (.pointer (some ⟨D, 0, none⟩)) := (((Below.refl _ _).alloc (Nat.le_refl _) _).cell (p := ⟨D + 1, 0, none⟩) (lt_of_heap HH8.out.hbD)).trans e1
      have e4 : (w8.alloc (.cells #[Value.int IntKind.u8 ↑l] 5)).cell? ⟨D, 256, none⟩ = some (.slice Ah k ch) := (((Below.refl _ _).alloc (Nat.le_refl _) _).cell (p := ⟨D, 256, none⟩) (lt_of_heap HH8.out.hD)).trans e2
      have h82 := HH8.out.hz
      clear hk256
      go_region_law (refine step_app_one one_u8 _ (by rfl) (.tmp 48) (.tmp 50) (by rfl) (D + 2) (.slice Ah k ch) (u8s ((headsR ps).take k)) (by rfl) (HHA.out _ (by first | exact Below.refl _ _ | exact (Below.refl _ _).drew | exact (Below.refl _ _).alloc (Nat.le_refl _) _ | exact ((Below.refl _ _).alloc (Nat.le_refl _) _).drew | exact below_drewN _ _ _ | exact ((below_drewN _ _ _).alloc (Nat.le_refl _) _))) w8.heap.size 1 (.int .u8 l) (by rfl) (by exact cell0_new w8 (.int .u8 l) 5) (by rfl) (by have := HLK.out; have := HLN.out; omega) (Nat.le_trans h82 (Below.size (by first | exact Below.refl _ _ | exact (Below.refl _ _).drew | exact (Below.refl _ _).alloc (Nat.le_refl _) _ | exact ((Below.refl _ _).alloc (Nat.le_refl _) _).drew | exact below_drewN _ _ _ | exact ((below_drewN _ _ _).alloc (Nat.le_refl _) _)))) ?_; intro v9 w9 hy9 hg9 hat9; obtain ⟨A9, c9, hv9⟩ := own_form hy9; subst hv9; obtain ⟨t1, t2, t3, hs9, hb9⟩ := HH8.out.app2 (x := l) (by first | exact Below.refl _ _ | exact (Below.refl _ _).drew | exact (Below.refl _ _).alloc (Nat.le_refl _) _ | exact ((Below.refl _ _).alloc (Nat.le_refl _) _).drew | exact below_drewN _ _ _ | exact ((below_drewN _ _ _).alloc (Nat.le_refl _) _)) hg9 hy9; have hll : (u8s ((headsR ps).take k) ++ [Value.int IntKind.u8 ↑l]).length = k + 1 := (by rw [List.length_append, HLK.out]; first | rfl | skip); rw [hll] at hs9 hb9 ⊢; have HS9 := hid hs9; have HB9 := hid hb9; (try unfold ptr at t1); clear hs9 hb9 hy9 hg9 hat9 hll)
      all_goals
        obtain ⟨w10, hw10⟩ : ∃ w10 : World, w10 = w9.setCell ⟨D, 256, none⟩ (.slice A9 (k + 1) c9) := ⟨_, rfl⟩
        rw [← hw10] at HS9 HB9 ⊢
        have hDr := hhd.out.hz
        have hk256 : k ≤ 256 := Nat.le_trans hk HLN.out
        clear hw10 t1 t2 t3 e1 e2 e3 e4
        go_wp2_with fail
        go_roundw
        case rel => exact ⟨k + 1, _, by omega, by go_num, by rw [HTK.out]; exact HS9.out, hbel.out.trans ((HB8.out.mono (by omega)).trans HB9.out)⟩
        case measure => simp [intOf]; omega
    · have hkn : k = ps.length := by omega
      subst hkn
      have htk : (headsR ps).take ps.length = headsR ps := by rw [List.take_of_length_le]; unfold headsR; simp
      rw [htk] at hhd
      clear htk
      have HHD := hid hhd.out
      have HB4r := hid hbel.out
      clear hhd hbel HB46
      have hmm := @run_makeMap Tryz.prog
      have hmf : ∀ (fn : Fn) (first cap : Array Value) (w : World), (Instr.makeFunc fn first cap).run Tryz.prog w = .ok (.func fn first cap) w := fun _ _ _ _ => rfl
      have HBr := hid (HB4.out.trans (HB4r.out.mono (by rw [HDD.out]; exact HB4.out.size)))
      go_wp2_with fail
      obtain ⟨M, hM⟩ : ∃ M, M = wr.heap.size := ⟨_, rfl⟩
      obtain ⟨w20, hw20⟩ : ∃ w20 : World, w20 = ((wr.alloc (.map #[] 0)).alloc (.cells #[Value.map (some wr.heap.size)] 172)).alloc (.cells #[Value.slice none 0 0] 69) := ⟨_, rfl⟩
      rw [← hw20, ← hM]
      have hb20 : Below wr.heap.size wr w20 := by rw [hw20]; exact (((Below.refl _ _).alloc (Nat.le_refl _) _).alloc (by simp) _).alloc (by simp; omega) _
      have hz20 : w20.heap.size = M + 3 := by rw [hw20, hM]; simp
      have g0 : w20.heap[M]? = some (.map #[] 0) := by rw [hw20, hM]; exact blk_alloc (blk_alloc (blk_new wr _) _) _
      have g1 : w20.heap[M + 1]? = some (.cells #[.map (some M)] 172 (0, 0)) := by
        rw [hw20, hM]
        have := blk_new (wr.alloc (.map #[] 0)) (.cells #[Value.map (some wr.heap.size)] 172)
        exact blk_alloc (by simpa using this) _
      have g2 : w20.heap[M + 1 + 1]? = some (.cells #[nilV] 69 (0, 0)) := by
        rw [hw20, hM]
        have := blk_new ((wr.alloc (.map #[] 0)).alloc (.cells #[Value.map (some wr.heap.size)] 172)) (.cells #[Value.slice none 0 0] 69)
        simpa using this
      have HB20 := hid (HBr.out.trans (hb20.mono HBr.out.size))
      have HZ20 := hid hz20
      have hBl : B < w.heap.size := lt_of_heap HBU.out
      have hwD : w.heap.size < D := by rw [HDD.out]; exact Nat.lt_of_lt_of_le (lt_of_heap HBX.out) HC4.out.size
      have hDM : D + 2 ≤ M := by rw [hM]; exact HHD.out.hz
      have hBX : w20.heap[w.heap.size]? = some (.cells #[ptr B] 34 (0, 0)) := by
        have h4 := blk_below HBX.out HC4.out
        have hr := (HB4r.out.block w.heap.size hwD).trans h4
        exact blk_below hr hb20
      have HHD20 := HHD.out.below hb20
      obtain ⟨p, hp⟩ : ∃ p : Pl, p = ⟨M + 1, M, w.heap.size, B, M + 1 + 1, D + 1, D, M + 3⟩ := ⟨_, rfl⟩
      have HST : Hid (StAt w20 p [] left used F vh nilV [nilV.ownBlock] nilV nilV []) := hid (by
        rw [hp]
        exact { hbM := g1, hM := (by have h0 := MapAt.made wr; rw [← hM] at h0; exact h0.kept (by rw [g0, hM]; exact (blk_new wr _).symm)), hbB := hBX, hB := (HB20.out.block B hBl).trans HBU.out, hbA := g2, hA := OwnP.nil _ _, hels := Els.nil, hbD := HHD20.hbD, hD := HHD20.hD, hY := World.ownsRow_nil _ _ _ 1
                o1 := hBl, o2 := hwD, o3 := Nat.lt_succ_self D, o4 := (show D + 1 < M by omega), o5 := Nat.lt_succ_self M, o6 := Nat.lt_succ_self _, o7 := Nat.lt_succ_self _, o8 := (show M + 3 ≤ _ by omega), ne := (fun k e => by cases e), oth := (fun k e => by have e := List.mem_singleton.1 e; cases e) })
      have HXR : Hid (ReAt w20 (XD p nilV nilV [nilV.ownBlock]) r rb) := hid ((HR.out.also (Y := XD p nilV nilV [nilV.ownBlock]) fun k e hlt => by
        rw [hp] at e
        rcases e with (e | e | e | e | e | e) | e
        · exact e
        · exfalso; have e : k = M := e; have : w.heap.size < M := by omega
          omega
        · exfalso; have e : k = M + 1 + 1 := e; omega
        · exfalso; have e : k = D := e; omega
        · cases e
        · cases e
        · have e := List.mem_singleton.1 e; cases e).under HB20.out)
      have HCL := hid (state_any w20 p [] left used F vh nilV [nilV.ownBlock] nilV nilV [] HST.out r rb HXR.out (by omega) (by omega) (by simp))
      have HPE : Hid (p = ⟨M + 1, M, w.heap.size, B, M + 1 + 1, D + 1, D, M + 3⟩) := hid hp
      have HXS : Hid (∀ (k : Nat) (va vy : Value), k < w.heap.size → (∀ j, va.ownBlock = some j → p.base ≤ j) → (∀ j, vy.ownBlock = some j → p.base ≤ j) → XS p va vy k → k = B) := hid (fun k va vy hk h1 h2 e => by
        rw [hp] at e h1 h2
        rcases e with e | e | e | e | e | e
        · exact e
        · exfalso; have e : k = M := e; omega
        · exfalso; have e : k = M + 1 + 1 := e; omega
        · exfalso; have e : k = D := e; omega
        · exfalso; have : M + 3 ≤ k := h1 k e; omega
        · exfalso; have : M + 3 ≤ k := h2 k e; omega)
      have HXB : Hid (∀ k, k < w.heap.size → XB p k → k = B) := hid (fun k hk e => by
        rw [hp] at e
        rcases e with e | e | e | e | e
        · exact e
        · exfalso; have e : k = M := e; omega
        · exfalso; have e : k = M + 1 + 1 := e; omega
        · exfalso; have e : k = D := e; omega
        · exfalso; have e : M + 3 ≤ k := e; omega)
      have HB2r := hid hb20
      have HMM := hid hM
      have HBLT2 : Hid (B < D) := hid (Nat.lt_trans hBl hwD)
      have HKB : Hid (KeepX (fun k => k = B) w w20) := hid (KeepX.of_below HB20.out)
      have HDw : Hid (w.heap.size ≤ D) := hid (Nat.le_of_lt hwD)
      rw [show (ptr p.bM : Value) = ptr (M + 1) by rw [hp], show (ptr p.bB : Value) = ptr w.heap.size by rw [hp], show (ptr p.bA : Value) = ptr (M + 1 + 1) by rw [hp], show (ptr p.bD : Value) = ptr (D + 1) by rw [hp]] at HCL
      clear hw20 hb20 hz20 g0 g1 g2 hBl hwD hDM hBX HHD20 hp hM
      unfold ptr at *
      cases hst : stAdd [] left r with
      | none =>
        go_wp2_with (go_at_call 108; refine HCL.out.mono ?_; rintro e w21 hret; obtain ⟨hk21, hret⟩ := hret; rw [hst] at hret; obtain ⟨⟨z, rfl⟩, l', hb21⟩ := hret)
        refine bodyPost_ret (v := .tuple #[.pointer none, .int .i64 5]) (by simp [results, Tryz.results65, go_sem]) rfl ⟨?_, ?_⟩
        · exact HKB.out.trans hk21 fun k hk e => HXS.out k _ _ hk (fun j e => by cases e) (fun j e => by cases e) e
        · have hbn : buildR (ps.map leastN) r left = none := by unfold buildR; rw [hst]
          rw [hbn]
          rw [HPE.out] at hb21
          exact ⟨rfl, l', used, hb21, by omega⟩
      | some t =>
        obtain ⟨all0, left0, q0⟩ := t
        have HR0 : Hid (buildR (headsR ps) r left = buildGo (headsR ps) (left + 1) 0 all0 left0 []) := hid (by unfold buildR; rw [hst])
        have HA0 := hid (stAdd_len hst)
        go_wp2_with (go_at_call 108; refine HCL.out.mono ?_; rintro e w21 hret; obtain ⟨hk21, hret⟩ := hret; rw [hst] at hret; obtain ⟨rfl, va0, vy0, bs0, hst21⟩ := hret; have HS21 := hid hst21; have HK21 := hid (hk21.mono fun k _ e => XS_XB HST.out k e); clear hst21 hk21)
        have HVH : Hid (∀ W, KeepX (XB p) w20 W → RdV W vh (u8s (headsR ps))) := hid (fun W hW => rdV_of (row_blk HHD.out.hH fun k e => by
          have hk := World.ownsRow.lt HHD.out.hH k e
          exact (hW.blk k (by have := HB2r.out.size; omega) (fun e2 => by
            rw [HPE.out] at e2
            have hm := HMM.out
            have hbl := HBLT2.out
            rcases e2 with e2 | e2 | e2 | e2 | e2
            · have e2 : k = B := e2; omega
            · have e2 : k = M := e2; omega
            · have e2 : k = M + 1 + 1 := e2; omega
            · have e2 : k = D := e2; omega
            · have e2 : M + 3 ≤ k := e2; omega)).trans (HB2r.out.block k hk.2)))
        have HVN : Hid (∀ k, vh.ownBlock = some k → p.D < k) := hid (fun k e => by
          have hk := (World.ownsRow.lt HHD.out.hH _ e).1
          rw [HPE.out]
          show D < k
          omega)
        obtain ⟨Ah, ch, hvh, -, -⟩ := HVH.out w20 (KeepX.refl _ _)
        have hul : (u8s (headsR ps)).length = ps.length := by simp [u8s, headsR]
        rw [hul] at hvh
        have HRH : Hid (∀ W, KeepX (XB p) w20 W → Rd W Ah ps.length (u8s (headsR ps))) := hid (fun W hW => by
          obtain ⟨A', c', e, hr, -⟩ := HVH.out W hW
          rw [hul] at e hr
          rw [hvh] at e
          cases e
          exact hr)
        have HLH : Hid ((headsR ps).length = ps.length) := hid (by simp [headsR])
        have HH256 : Hid (∀ j h0, (headsR ps)[j]? = some h0 → h0 < 256) := hid (fun j h0 hj => by
          unfold headsR at hj
          rw [List.getElem?_map] at hj
          obtain ⟨p0, hp0, rfl⟩ := Option.map_eq_some_iff.1 hj
          exact (least_has p0 (HNE.out p0 (List.mem_of_getElem? hp0))).2)
        subst hvh
        have HO0 : Hid (∃ all left' nx vn gs va vy bs fuel, OutInv w20 w21 p F (.slice Ah ps.length ch) (headsR ps) left used (buildR (headsR ps) r left) 0 all left' nx vn gs va vy bs fuel) := hid ⟨all0, left0, [], nilV, [], va0, vy0, bs0, left + 1,
          { st := HS21.out, nxt := ⟨World.ownsRow_nil _ _ _ 1, rfl, fun i g row e => by simp at e, fun g e => by cases e⟩, hq := rfl, qa := Nat.zero_le _, al := by have := HA0.out.1; simpa using this, go := HR0.out.symm, fl := by omega
            gd := fun y hy => by
              rcases HA0.out.2.2.2 with e | ⟨e, hz⟩
              · rw [e] at hy; cases hy
              · rw [e] at hy
                have e := List.mem_singleton.1 hy
                rw [e]
                exact ⟨hg, hz⟩
            kp := HK21.out }⟩
        go_loopw [17] (fun i wq => ∃ q : Nat, q ≤ left ∧ i = .int .i64 q ∧ Hid (∃ all left' nx vn gs va vy bs fuel, OutInv w20 wq p F (.slice Ah ps.length ch) (headsR ps) left used (buildR (headsR ps) r left) q all left' nx vn gs va vy bs fuel)) (fun i _ => left + 2 - (intOf i).toNat)
        case atStart => exact ⟨0, Nat.zero_le _, rfl, HO0.out⟩
        case round =>
          obtain ⟨q, hq, rfl, hinv⟩ := hrel
          obtain ⟨all, left', nx, vn, gs, va, vy, bs, fuel, hI⟩ := hinv.out
          obtain ⟨Aa, ca, hva⟩ := hI.st.hA.form
          have hbl : bs.length = all.length := hI.st.hels.1.symm
          rw [hbl] at hva
          subst hva
          have HI := hid hI
          have HBL := hid hbl
          have y1 := (blk_cell hI.st.hbA 0).trans (show #[Value.slice Aa all.length ca][0]? = some (Value.slice Aa all.length ca) by rfl)
          rw [HPE.out] at y1
          simp only at y1
          have y2 := (blk_cell hI.st.hbD 0).trans (show #[ptr p.D][0]? = some (ptr p.D) by rfl)
          rw [HPE.out] at y2
          simp only at y2
          unfold ptr at y2
          have hall : all.length ≤ left := by have := hI.al; omega
          clear hI hinv hbl
          by_cases hlt2 : q < all.length
          · obtain ⟨x, hx⟩ : ∃ x, all[q]? = some x := ⟨_, List.getElem?_eq_getElem hlt2⟩
            have HX := hid hx
            obtain ⟨Rr, hRr⟩ : ∃ Rr, Rr = rowGo x (headsR ps) all left' [] := ⟨_, rfl⟩
            have HRr := hid hRr
            obtain ⟨i0, hi0, hz0, hz1, hz2⟩ := info_parts info_int
            have hpl : ps.length ≤ 256 := HLN.out
            have hi8 : i0.bytes * ps.length ≤ 281474976710656 := by rw [hz2]; omega
            clear hx hRr
            have HUSE : Hid (∀ w30 : World, w30.ownsRow wr.heap.size 3 1 (.slice (some ⟨wr.heap.size, 0, none⟩) ps.length ps.length) ps.length (madeCells (Value.int .i64 0).cells (ps.length * 1)).toList → wr.grownBy w30 none → Below wr.heap.size wr w30 ∧ InInv w20 w30 p F (.slice Ah ps.length ch) (headsR ps) left used x q wr.heap.size Rr nx vn gs 0 all left' [] (.slice Aa all.length ca) vy bs) := hid (fun w30 ho30 hg30 => by
              have hb30 := below_none hg30
              have hrow30 := made_row ho30
              refine ⟨hb30, ?_⟩
              rw [HRr.out]
              exact HI.out.begin HX.out hb30 (Nat.le_refl _) (lt_of_heap hrow30) (by rw [HLH.out]; exact hrow30))
            have HCE : Hid (∀ w30 : World, InInv w20 w30 p F (.slice Ah ps.length ch) (headsR ps) left used x q wr.heap.size Rr nx vn gs 0 all left' [] (.slice Aa all.length ca) vy bs → w30.cell? ⟨D + 1, 0, none⟩ = some (Value.pointer (some ⟨D, 0, none⟩)) ∧ w30.cell? ⟨D, 256, none⟩ = some (.slice Ah ps.length ch)) := hid (fun w30 hI => by
              have z1 := (blk_cell hI.st.hbD 0).trans (show #[ptr p.D][0]? = some (ptr p.D) by rfl)
              have z2 := (blk_cell hI.st.hD 256).trans (dfaA_get F (.slice Ah ps.length ch) vn vy).1
              rw [HPE.out] at z1 z2
              exact ⟨z1, z2⟩)
            go_wp2_with (at_make; refine wpList_make_full _ rfl (.tmp 73) (.tmp 73) 25 rfl wr.heap.size 3 i0 (.int .i64 0) 1 Tryz.underlying25 hi0 hz0 hz1 .i64 .i64 _ _ ps.length rfl rfl rfl rfl hi8 (by unfold maxLen; omega) (Nat.le_refl _) ?_; intro w30 ho30 hg30; obtain ⟨hb30, hin⟩ := HUSE.out w30 ho30 hg30; obtain ⟨z1, z2⟩ := HCE.out w30 hin; have HIN := hid hin; clear ho30 hg30 hb30 hin)
            obtain ⟨g, hgg⟩ : ∃ g, g = wr.heap.size := ⟨_, rfl⟩
            rw [← hgg] at HIN ⊢
            clear HUSE HCE hgg
            have HI0 : Hid (∃ all2 left2 tos va2 vy2 bs2, InInv w20 w30 p F (.slice Ah ps.length ch) (headsR ps) left used x q g Rr nx vn gs 0 all2 left2 tos va2 vy2 bs2) := hid ⟨_, _, _, _, _, _, HIN.out⟩
            go_loopw [80] (fun i wi => ∃ j : Nat, j ≤ ps.length ∧ i = .int .i64 j ∧ Hid (∃ all2 left2 tos va2 vy2 bs2, InInv w20 wi p F (.slice Ah ps.length ch) (headsR ps) left used x q g Rr nx vn gs j all2 left2 tos va2 vy2 bs2)) (fun i _ => ps.length - (intOf i).toNat)
            case atStart => exact ⟨0, Nat.zero_le _, rfl, HI0.out⟩
            case round =>
              obtain ⟨j, hj, rfl, hin⟩ := hrel
              obtain ⟨all2, left2, tos, va2, vy2, bs2, hI2⟩ := hin.out
              have HI2 := hid hI2
              clear hin
              have x2 := (blk_cell hI2.st.hbD 0).trans (show #[ptr p.D][0]? = some (ptr p.D) by rfl)
              rw [HPE.out] at x2
              simp only at x2
              unfold ptr at x2
              by_cases hlt3 : j < ps.length
              · obtain ⟨h0, hh0⟩ : ∃ h0, (headsR ps)[j]? = some h0 := ⟨_, List.getElem?_eq_getElem (by rw [HLH.out]; exact hlt3)⟩
                have HH0 := hid hh0
                have h256 := HH256.out j h0 hh0
                obtain ⟨gh, oh, hAh, -, hcl⟩ := (HRH.out _ hI2.kp).2 (by omega)
                have hx0 := hcl j (.int .u8 h0) (by unfold u8s; rw [List.getElem?_map, hh0]; rfl)
                obtain ⟨Aa2, ca2, hva2⟩ := hI2.st.hA.form
                have hbl2 : bs2.length = all2.length := hI2.st.hels.1.symm
                rw [hbl2] at hva2
                have hq2 : q < all2.length := (List.getElem?_eq_some_iff.1 hI2.qx).1
                have HVA := hid hva2
                have hA2 := hI2.st.hA
                rw [hva2] at hA2
                obtain ⟨g2, o2, hAa2, -, hcl2⟩ := hA2.rd.2.2.2 (by omega)
                obtain ⟨bx, hbx, hxre⟩ := hI2.elem
                have x1 := hcl2 q (ptr bx) (by rw [List.getElem?_map, hbx]; rfl)
                unfold ptr at x1
                have x3 := (blk_cell hI2.st.hbA 0).trans (show #[va2][0]? = some va2 by rfl)
                rw [hva2, HPE.out] at x3
                simp only at x3
                have HBY := hid (hI2.by_ h256 hxre)
                have HCS := hid (fun w3 b3 h3 hb => hI2.state (w3 := w3) (b3 := b3) (h0 := h0) hl hu h3 hb)
                rw [show (ptr p.bM : Value) = ptr (M + 1) by rw [HPE.out], show (ptr p.bB : Value) = ptr w.heap.size by rw [HPE.out], show (ptr p.bA : Value) = ptr (M + 1 + 1) by rw [HPE.out], show (ptr p.bD : Value) = ptr (D + 1) by rw [HPE.out]] at HCS
                subst hAh
                subst hAa2
                have hpl2 : ps.length ≤ 256 := HLN.out
                have hal2 : all2.length ≤ 1000000 := by have := hI2.al; omega
                clear hcl hcl2 hA2 hbx hxre hva2 hbl2 hI2 hh0 HIN HI0
                unfold ptr at *
                cases hst2 : stAdd all2 left2 (byR h0 x) with
                | none =>
                  go_wp2_with (first | (go_at_call 78; refine HBY.out.mono ?_; rintro e w31 ⟨b3, rfl, h3, hb3⟩; have HB31 := hid hb3; have HCL2 := hid (HCS.out _ _ h3 hb3); clear h3 hb3) | (go_at_call 108; refine HCL2.out.mono ?_; rintro e w32 hret; obtain ⟨hk32, hret⟩ := hret; rw [hst2] at hret; obtain ⟨⟨z, rfl⟩, l', hb32⟩ := hret; have HK32 := hid (HI2.out.kp2 HB31.out hk32); have HB32 := hid hb32; clear hk32 hb32))
                  refine bodyPost_ret (v := .tuple #[.pointer none, .int .i64 5]) (by simp [results, Tryz.results65, go_sem]) rfl ⟨?_, ?_⟩
                  · exact HKB.out.trans HK32.out fun k hk e => HXB.out k hk e
                  · have hbn : buildR (ps.map leastN) r left = none := HI.out.row_none HX.out (by rw [← HRr.out]; exact HI2.out.fell HH0.out hst2)
                    rw [hbn]
                    have hb32 := HB32.out
                    rw [HPE.out] at hb32
                    exact ⟨rfl, l', _, hb32, by omega⟩
                | some t =>
                  obtain ⟨all3, left3, to⟩ := t
                  go_wp2_with (first | (go_at_call 78; refine HBY.out.mono ?_; rintro e w31 ⟨b3, rfl, h3, hb3⟩; have HB31 := hid hb3; have HCL2 := hid (HCS.out _ _ h3 hb3); clear h3 hb3) | (go_at_call 108; refine HCL2.out.mono ?_; rintro e w32 hret; obtain ⟨hk32, hret⟩ := hret; rw [hst2] at hret; obtain ⟨rfl, va3, vy3, bs3, hs32⟩ := hret; obtain ⟨hrow32, hin32⟩ := (HI2.out.below HB31.out).step HH0.out hk32 hst2 HI2.out.good hs32; obtain ⟨ov, hov⟩ := rowA_some (n := (headsR ps).length) (row := tos) (i := j) (by rw [HLH.out]; exact hlt3) (by rw [HI2.out.hi, HLH.out]; exact hj); have x5 := (blk_cell hrow32 j).trans hov; have x6 := blk_free hrow32 j; have HIN32 := hid hin32; clear hk32 hs32 hrow32 hin32 hov))
                  go_roundw
                  case rel => exact ⟨j + 1, by omega, by go_num, _, _, _, _, _, _, HIN32.out⟩
                  case measure => simp [intOf]; omega
              · have hjn : j = ps.length := by omega
                subst hjn
                have hgl : gs.length = q := by rw [HI.out.nxt.len, HI.out.hq]
                have hgl2 : (rowVs ps.length gs).length = q := by unfold rowVs; rw [List.length_map, hgl]
                have hq1 : q ≤ 1000000 := by omega
                obtain ⟨An, cn, hvn⟩ := own_form hI2.nxt.hN
                rw [HLH.out, hgl2] at hvn
                subst hvn
                have HOWN : Hid (∀ W, Below wr.heap.size wr W → W.ownsRow p.base 25 1 (.slice An q cn) (rowVs ps.length gs).length (rowVs ps.length gs)) := hid (fun W hW => by
                  have := (HI2.out.row_own hW).1
                  rw [HLH.out] at this
                  exact this)
                have hbs := hI2.st.o8
                have hpD : p.D = D := by rw [HPE.out]
                have hpbD : p.bD = D + 1 := by rw [HPE.out]
                have e2 := (blk_cell hI2.st.hD 257).trans (dfaA_get F (.slice Ah ps.length ch) (.slice An q cn) vy2).2.1
                rw [hpD] at e2
                have hlD : D < wr.heap.size := by have := lt_of_heap hI2.st.hD; rw [hpD] at this; exact this
                have hlbD : D + 1 < wr.heap.size := by have := lt_of_heap hI2.st.hbD; rw [hpbD] at this; exact this
                have e3 : (wr.alloc (.cells #[Value.slice (some ⟨g, 0, none⟩) ps.length ps.length] 25)).cell? ⟨D + 1, 0, none⟩ = some (.pointer (some ⟨D, 0, none⟩)) := (((Below.refl _ _).alloc (Nat.le_refl _) _).cell (p := ⟨D + 1, 0, none⟩) hlbD).trans x2
                have e4 : (wr.alloc (.cells #[Value.slice (some ⟨g, 0, none⟩) ps.length ps.length] 25)).cell? ⟨D, 257, none⟩ = some (.slice An q cn) := (((Below.refl _ _).alloc (Nat.le_refl _) _).cell (p := ⟨D, 257, none⟩) hlD).trans e2
                have HEND := hid (fun (W w7 : World) (v7 : Value) h1 h2 h3 h4 => InInv.end_ (W := W) (w7 := w7) (v7 := v7) HLH.out HI.out.fl HI.out.hq (fun all2 left2 row hr => HI.out.row_some HX.out hr) (by rw [← HRr.out]; exact HI2.out) h1 h2 h3 h4)
                rw [hpD, hpbD] at HEND
                clear hI2 HIN HI0
                go_wp2_with fail
                go_region_law (refine step_app_one one_row _ (by rfl) (.tmp 108) (.tmp 110) (by rfl) p.base (.slice An q cn) (rowVs ps.length gs) (by rfl) (HOWN.out _ (by first | exact Below.refl _ _ | exact (Below.refl _ _).drew | exact (Below.refl _ _).alloc (Nat.le_refl _) _ | exact ((Below.refl _ _).alloc (Nat.le_refl _) _).drew | exact below_drewN _ _ _ | exact ((below_drewN _ _ _).alloc (Nat.le_refl _) _))) wr.heap.size 1 (.slice (some ⟨g, 0, none⟩) ps.length ps.length) (by rfl) (by exact cell0_new wr (.slice (some ⟨g, 0, none⟩) ps.length ps.length) 25) (by rfl) (by omega) (Nat.le_trans hbs (Below.size (by first | exact Below.refl _ _ | exact (Below.refl _ _).drew | exact (Below.refl _ _).alloc (Nat.le_refl _) _ | exact ((Below.refl _ _).alloc (Nat.le_refl _) _).drew | exact below_drewN _ _ _ | exact ((below_drewN _ _ _).alloc (Nat.le_refl _) _)))) ?_; intro v40 w40 hy40 hg40 hat40; obtain ⟨A40, c40, hv40⟩ := own_form hy40; subst hv40; obtain ⟨t1, t2, t3, fuel', hs40⟩ := HEND.out _ _ _ (by first | exact Below.refl _ _ | exact (Below.refl _ _).drew | exact (Below.refl _ _).alloc (Nat.le_refl _) _ | exact ((Below.refl _ _).alloc (Nat.le_refl _) _).drew | exact below_drewN _ _ _ | exact ((below_drewN _ _ _).alloc (Nat.le_refl _) _)) hg40 hy40 hat40; have hll : (rowVs ps.length gs ++ [Value.slice (some ⟨g, 0, none⟩) ps.length ps.length]).length = q + 1 := (by rw [List.length_append, hgl2]; first | rfl | skip); rw [hll] at hs40 ⊢; have HS40 := hid hs40; (try unfold ptr at t1); clear hs40 hy40 hg40 hat40 hll)
                all_goals
                  clear t1 t2 t3 e2 e3 e4 x2
                  go_wp2_with fail
                  go_roundw
                  case rel => exact ⟨q + 1, by omega, by go_num, _, _, _, _, _, _, _, _, fuel', HS40.out⟩
                  case measure => simp [intOf]; omega
          · have hqa : q = all.length := by have := HI.out.qa; omega
            subst hqa
            obtain ⟨hRR, hDA⟩ := HI.out.fin (HVH.out _ HI.out.kp) HVN.out
            have HDA := hid hDA
            have HRR := hid hRR
            clear hRR hDA
            go_wp2_with fail
            refine bodyPost_ret (v := .tuple #[.pointer (some ⟨D, 0, none⟩), .int .i64 0]) (by simp [results, Tryz.results65, go_sem]) rfl ⟨?_, ?_⟩
            · exact HKB.out.trans HI.out.kp fun k hk e => HXB.out k hk e
            · rw [show ps.map leastN = headsR ps from rfl, HRR.out]
              have hbu := HI.out.st.hB
              have hda := HDA.out
              rw [HPE.out] at hbu hda
              rw [HF.out] at hda
              exact ⟨hbu, D, rfl, HDw.out, hda⟩
theorem build_any (r : Re) (rb B left used : Nat) (w : World) (h : ReAt w (fun k => k = B) r rb) (hg : Good r) (hsz : r.size ≤ 1000000) (hB : BudAt w B left used) (hl : left ≤ 1000000) (hu : used ≤ 1000000) (hT : Tab w) :
    Calls Tryz.prog 65 #[ptr rb, ptr B] w (BuildRet w B left used r (refineR (setsR r))) := (build_st r rb B left used w h hg hsz hB hl hu hT).mono fun _ _ h => h.ret
end Go.Proofs.YtfpfloahkibcgaaGreatDoor
