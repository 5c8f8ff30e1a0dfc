/- The walk of law 06's states: what is reached from an expression, step by step. -/
import Derived.Test.YtaplejpjmaocdaaGreatDoorStatesS
import Derived.Test.YtaplejpjmaocdaaGreatDoorBuildW2
namespace Go.Proofs.YtaplejpjmaocdaaGreatDoor
open Go.RowKit Go.Maps

theorem one_ptr : OneCell 51 31 (.pointer none) 8 := ⟨Tryz.underlying51, by kernel_rfl, by decide, rfl⟩
theorem one_num : OneCell 25 3 (.int .i64 0) 8 := ⟨Tryz.underlying25, by kernel_rfl, by decide, rfl⟩
/-- How the heads lie while law 06 gathers them. -/
structure HeadsInv (w3 w : World) (g0 : Nat) (vh : Value) (hs : List Nat) : Prop where
  hH : w.ownsRow g0 5 1 vh (u8s hs).length (u8s hs)
  kp : KeepX (fun k => k = g0) w3 w
  new : ∀ k, vh.ownBlock = some k → k = g0 ∨ w3.heap.size ≤ k
  z : g0 < w3.heap.size
theorem HeadsInv.below {w3 w w' : World} {g0 : Nat} {vh : Value} {hs : List Nat} (h : HeadsInv w3 w g0 vh hs) (hb : Below w.heap.size w w') : HeadsInv w3 w' g0 vh hs where
  hH := row_blk h.hH fun k e => hb.block k (World.ownsRow.lt h.hH k e).2
  kp := h.kp.trans (KeepX.of_below (X := fun _ => False) hb) fun _ _ e => e.elim
  new := h.new
  z := h.z
theorem HeadsInv.app {w3 w w' : World} {g0 x : Nat} {vh vh' : Value} {hs : List Nat} (h : HeadsInv w3 w g0 vh hs) (hg : w.grownBy w' vh.ownBlock) (hy : w'.ownsRow g0 5 1 vh' (u8s hs ++ [Value.int .u8 (x : Int)]).length (u8s hs ++ [Value.int .u8 (x : Int)])) (hat : vh'.ownBlock = vh.ownBlock ∨ vh'.ownBlock = some w.heap.size) :
    HeadsInv w3 w' g0 vh' (hs ++ [x]) where
  hH := by
    have e : u8s (hs ++ [x]) = u8s hs ++ [Value.int .u8 (x : Int)] := by simp [u8s]
    rw [e]
    exact hy
  kp := h.kp.trans (KeepX.of_grown (X := fun k => vh.ownBlock = some k) hg fun k e => e) fun j hj e => (h.new j e).resolve_right (by omega)
  new k e := by
    rcases hat with e2 | e2
    · exact h.new k (e2 ▸ e)
    · rw [e2] at e; cases e; exact .inr h.kp.size
  z := h.z
theorem ownP_app {w : World} {base b : Nat} {v : Value} {bs : List Nat} (h : w.ownsRow base 31 1 v (bs.map ptr ++ [ptr b]).length (bs.map ptr ++ [ptr b])) : OwnP w base v (bs ++ [b]) := by
  have e : (bs ++ [b]).map ptr = bs.map ptr ++ [ptr b] := by simp
  have e2 : (bs ++ [b]).length = (bs.map ptr ++ [ptr b]).length := by simp
  unfold OwnP
  rw [e, e2]
  exact h
/-- What a call of states comes to. -/
def StRes (w : World) (ps : List CSet) (R : Option (List Re × List (List Nat) × Nat)) (e : Ending) (w' : World) : Prop :=
  Below w.heap.size w w' ∧ match R with
    | none => e = .returned (.tuple #[nilV, nilV, nilV, .bool false])
    | some (all, nx, _) => ∃ (A Ah Ar : Option Addr) (c ch cr : Nat) (bs : List Nat) (us : List Value), e = .returned (.tuple #[.slice A all.length c, .slice Ah ps.length ch, .slice Ar nx.length cr, .bool true]) ∧
        Rd w' A all.length (bs.map ptr) ∧ Els w' X0 all bs ∧ Rd w' Ah ps.length (u8s (ps.map leastN)) ∧ Rd w' Ar nx.length us ∧ ∀ (i : Nat) (u : Value) (row : List Nat), us[i]? = some u → nx[i]? = some row → RowI w' X0 u row
set_option maxRecDepth 100000 in
set_option maxHeartbeats 4000000 in
theorem states_any (r : Re) (rb : Nat) (w : World) (h : ReAt w X0 r rb) (hg : Good r) (hsz : r.size ≤ 20000) (most : Nat) (hm0 : 1 ≤ most) (hm : most ≤ 1000000) (hT : Tab w) :
    Calls Tryz.prog 26 #[ptr rb, .int .i64 most] w (StRes w (refineR (setsR r)) (buildR ((refineR (setsR r)).map leastN) r most)) := by
  have HSE := hid (fun W (hW : Below w.heap.size w W) => dsets_any r _ rb W (h.under hW) (by omega))
  have HRF := hid (fun W A n c (hr : RdC W A n (setsR r)) => refine_any A n c (setsR r) W hr (by have := hr.1; have := setsR_len r; omega))
  obtain ⟨hsee, hout, hcov⟩ := refine_facts (setsR r)
  have hlen := out_len hout hcov
  have HNE := hid hout.ne
  generalize refineR (setsR r) = ps at *
  have HR := hid h
  have HT := hid hT
  have HLN := hid hlen
  obtain ⟨R, hR⟩ : ∃ R, R = buildR (headsR ps) r most := ⟨_, rfl⟩
  rw [show ps.map leastN = headsR ps from rfl, ← hR]
  have HRD := hid hR
  clear h hT hsee hout hcov hlen hR
  obtain ⟨g0, hg0⟩ : ∃ g0, g0 = w.heap.size := ⟨_, rfl⟩
  have HG0 := hid hg0
  unfold ptr at *
  go_enter Tryz.func26, Tryz.ntmps26
  go_wp2_with fail
  obtain ⟨w1, hw1⟩ : ∃ w1 : World, w1 = w.alloc (.cells #[] 5) := ⟨_, rfl⟩
  rw [← hw1]
  have HB1 : Hid (Below w.heap.size w w1) := hid (by rw [hw1]; exact (Below.refl _ _).alloc (Nat.le_refl _) _)
  have HBX : Hid (w1.heap[g0]? = some (.cells #[] 5 (0, 0))) := hid (by rw [hw1, hg0]; exact blk_new w _)
  rw [← hg0]
  clear hw1 hg0
  go_wp2_with (first | (go_at_call 21; refine (HSE.out _ HB1.out).mono ?_; rintro e w2 ⟨v2, rfl, h2, hb2⟩; obtain ⟨A2, c2, hv2⟩ := h2.form; subst hv2; have HS2 := hid h2.rd.2.2; have HB2 := hid (HB1.out.trans (hb2.mono HB1.out.size)); have HC2 := hid hb2; clear h2 hb2) | (go_at_call 20; refine (HRF.out _ _ _ _ HS2.out).mono ?_; rintro e w3 ⟨v3, rfl, h3, hb3⟩; obtain ⟨A3, c3, hv3⟩ := h3.form; subst hv3; have HS3 := hid h3.rd.2.2; have HB3 := hid (HB2.out.trans (hb3.mono HB2.out.size)); have HC3 := hid (HC2.out.trans (hb3.mono HC2.out.size)); clear h3 hb3))
  have hx3 := blk_below HBX.out HC3.out
  have HX3 := hid hx3
  have HNO : Hid (∀ i, w3.cell? ⟨g0, i, none⟩ = none) := hid (fun i => (blk_cell hx3 i).trans (by simp))
  have HI0 : Hid (HeadsInv w3 w3 g0 (.slice (some ⟨g0, 0, none⟩) 0 0) []) := hid ⟨⟨rfl, .inr ⟨g0, 0, #[], rfl, Nat.le_refl _, hx3, Nat.le_refl _, by omega, rfl, rfl⟩⟩, KeepX.refl _ _, fun k e => .inl (by cases e; rfl), lt_of_heap hx3⟩
  have HT3 := hid (HT.out.below HB3.out)
  clear hx3
  go_loopw [8, 28] (fun vh i wr => ∃ (k : Nat), k ≤ ps.length ∧ i = .int .i64 k ∧ Hid (HeadsInv w3 wr g0 vh ((headsR ps).take k))) (fun _ i _ => ps.length - (intOf i).toNat)
  case atStart => exact ⟨0, Nat.zero_le _, rfl, HI0.out⟩
  case round =>
    obtain ⟨k, hk, rfl, hin⟩ := hrel
    have HIN := hid hin.out
    have hB0 : Below g0 w3 wr := hin.out.kp.below (Nat.le_of_lt hin.out.z) fun j hj e => by omega
    have HBr := hid (HB3.out.trans (by rw [← HG0.out]; exact hB0))
    by_cases hlt : k < ps.length
    · obtain ⟨g, o, p, rfl, hp, hgl, a0', a1', a2', a3'⟩ := HS3.out.at_ (k := k) hlt
      have hgg : g ≠ g0 := fun e => by rw [e, HNO.out] at a0'; cases a0'
      have ha := fun i => blk_eq_cell (hin.out.kp.blk g hgl hgg) i
      have a0' := (ha _).trans a0'; have a1' := (ha _).trans a1'; have a2' := (ha _).trans a2'; have a3' := (ha _).trans a3'
      have HNP : Hid (p ≠ CSet.zero) := hid (HNE.out p (List.mem_of_getElem? hp))
      have HTr := hid (HT.out.below HBr.out)
      have HLE := hid (fun W (hW : Below wr.heap.size wr W) => least_any p HNP.out W (HTr.out.below hW))
      unfold cv at HLE
      have hl256 := (least_has p HNP.out).2
      have HTK : Hid ((headsR ps).take (k + 1) = (headsR ps).take k ++ [leastN p]) := hid (by
        have : (headsR ps)[k]? = some (leastN p) := by unfold headsR; rw [List.getElem?_map, hp]; rfl
        rw [List.take_add_one, this]; rfl)
      generalize leastN p = l at *
      obtain ⟨Ah, ch, hvh⟩ := own_form hin.out.hH
      have hlk : (u8s ((headsR ps).take k)).length = k := by unfold u8s headsR; simp; omega
      rw [hlk] at hvh
      subst hvh
      have HLK := hid hlk
      have hk256 : k ≤ 256 := Nat.le_trans hk HLN.out
      clear ha hp hin hB0 hgg
      go_wp2_with fail
      obtain ⟨w7, hw7⟩ : ∃ w7 : World, w7 = wr.alloc (.cells #[Value.int IntKind.u64 ↑p.a.toNat, Value.int IntKind.u64 ↑p.b.toNat, Value.int IntKind.u64 ↑p.c.toNat, Value.int IntKind.u64 ↑p.d.toNat] 46) := ⟨_, rfl⟩
      rw [← hw7]
      have HB7 : Hid (Below wr.heap.size wr w7) := hid (by rw [hw7]; exact (Below.refl _ _).alloc (Nat.le_refl _) _)
      have HL7 := hid (HLE.out w7 HB7.out)
      clear hw7 a0' a1' a2' a3' hlk
      go_wp2_with (first | (go_at_call 50; refine HL7.out.mono ?_; rintro e w8 ⟨rfl, hb8⟩; have HI8 := hid (HIN.out.below (HB7.out.trans (hb8.mono HB7.out.size))); have hz8 : g0 ≤ w8.heap.size := (Nat.le_trans (Nat.le_of_lt HI8.out.z) HI8.out.kp.size); clear hb8) | (at_builtin; go_loud (refine wpList_app_one one_u8 _ (by rfl) (.tmp 37) (.tmp 39) (by rfl) g0 (.slice Ah k ch) (u8s ((headsR ps).take k)) (by rfl) (by have h := (HI8.out.below (w' := w8.alloc (.cells #[Value.int IntKind.u8 ↑l] 5)) (by first | exact Below.refl _ _ | exact (Below.refl _ _).drew | exact (Below.refl _ _).alloc (Nat.le_refl _) _ | exact ((Below.refl _ _).alloc (Nat.le_refl _) _).drew | exact below_drewN _ _ _ | exact ((below_drewN _ _ _).alloc (Nat.le_refl _) _))).hH; rw [HLK.out] at h ⊢; exact h) w8.heap.size 1 (.int .u8 l) (by rfl) (by exact cell0_new w8 (.int .u8 l) 5) (by rfl) (by have := HLK.out; have := HLN.out; omega) (Nat.le_trans hz8 (Below.size (by first | exact Below.refl _ _ | exact (Below.refl _ _).drew | exact (Below.refl _ _).alloc (Nat.le_refl _) _ | exact ((Below.refl _ _).alloc (Nat.le_refl _) _).drew | exact below_drewN _ _ _ | exact ((below_drewN _ _ _).alloc (Nat.le_refl _) _)))) ?_; intro v9 w9 hy9 hg9 hat9; have HI9 := hid ((HI8.out.below (w' := w8.alloc (.cells #[Value.int IntKind.u8 ↑l] 5)) (by first | exact Below.refl _ _ | exact (Below.refl _ _).drew | exact (Below.refl _ _).alloc (Nat.le_refl _) _ | exact ((Below.refl _ _).alloc (Nat.le_refl _) _).drew | exact below_drewN _ _ _ | exact ((below_drewN _ _ _).alloc (Nat.le_refl _) _))).app (x := l) hg9 hy9 hat9); clear hy9 hg9 hat9)))
      go_roundw
      case rel => exact ⟨k + 1, by omega, by go_num, by rw [HTK.out]; exact HI9.out⟩
      case measure => simp [intOf]; omega
    · have hkn : k = ps.length := by omega
      subst hkn
      have htk : (headsR ps).take ps.length = headsR ps := by rw [List.take_of_length_le]; unfold headsR; simp
      rw [htk] at HIN
      clear htk hin hB0
      obtain ⟨w10, hw10⟩ : ∃ W : World, W = wr := ⟨_, rfl⟩
      subst hw10
      obtain ⟨Ah, ch, hvh⟩ := own_form HIN.out.hH
      have hul : (u8s (headsR ps)).length = ps.length := by simp [u8s, headsR]
      have hrd := rdV_of HIN.out.hH
      rw [hul] at hvh
      subst hvh
      have HRH : Hid (∀ W, Below w10.heap.size w10 W → Rd W Ah ps.length (u8s (headsR ps))) := hid (fun W hW => by
        obtain ⟨A', c', e, hr, -⟩ := hrd
        rw [hul] at e hr
        cases e
        exact hr.below hW)
      have HRr := hid (HR.out.under HBr.out)
      have HLH : Hid ((headsR ps).length = ps.length) := hid (by simp [headsR])
      have HH256 : Hid (∀ j h0, (headsR ps)[j]? = some h0 → h0 < 256) := hid (fun j h0 hj => by
        unfold headsR at hj
        rw [List.getElem?_map] at hj
        obtain ⟨p0, hp0, rfl⟩ := Option.map_eq_some_iff.1 hj
        exact (least_has p0 (HNE.out p0 (List.mem_of_getElem? hp0))).2)
      have hR := HRD.out
      have hgo : buildGo (headsR ps) (most + 1) 0 [r] (most - 1) [] = R := by
        rw [hR]
        unfold buildR stAdd
        rw [show idxK [] r = none from rfl]
        simp only
        rw [if_neg (by omega), if_neg (by omega)]
        rfl
      clear hrd hul hR
      go_wp2_with fail
      obtain ⟨w11, hw11⟩ : ∃ W : World, W = (w10.alloc (.cells #[Value.pointer (some ⟨rb, 0, none⟩)] 31)).alloc (.cells #[] 25) := ⟨_, rfl⟩
      rw [← hw11]
      obtain ⟨base, hbase⟩ : ∃ b, b = w10.heap.size := ⟨_, rfl⟩
      rw [← hbase]
      have hb11 : Below w10.heap.size w10 w11 := by rw [hw11]; exact ((Below.refl _ _).alloc (Nat.le_refl _) _).alloc (by simp) _
      have g1 : w11.heap[base]? = some (.cells #[ptr rb] 31 (0, 0)) := by rw [hw11, hbase]; exact blk_alloc (blk_new w10 _) _
      have g2 : w11.heap[base + 1]? = some (.cells #[] 25 (0, 0)) := by
        rw [hw11, hbase]
        have := blk_new (w10.alloc (.cells #[Value.pointer (some ⟨rb, 0, none⟩)] 31)) (.cells #[] 25)
        simpa using this
      have HO0 : Hid (OutS w10 w11 base (headsR ps) most R 0 (.slice (some ⟨base, 0, none⟩) 1 1) (.slice (some ⟨base + 1, 0, none⟩) 0 0) [r] (most - 1) [] [rb] []) := hid
        { sv := {
            hA := ⟨rfl, .inr ⟨base, 1, #[ptr rb], rfl, Nat.le_refl _, g1, Nat.le_refl _, by decide, rfl, rfl⟩⟩
            hE := Els.one ((HRr.out.also (Y := XW (.slice (some ⟨base, 0, none⟩) 1 1) (.slice (some ⟨base + 1, 0, none⟩) 0 0) nilV) fun k e hlt => by
              rcases e with e | e | e
              · have e : base = k := Option.some.inj e
                omega
              · have e : base + 1 = k := Option.some.inj e
                omega
              · cases e).under hb11)
            hR := ⟨rfl, .inr ⟨base + 1, 0, #[], rfl, by omega, g2, Nat.le_refl _, by decide, rfl, rfl⟩⟩
            hUl := rfl
            hU := fun i u r e => by simp at e
            hW := World.ownsRow_nil _ _ _ 1
            n1 := fun k e1 e2 => by cases e1; cases e2
            n2 := fun k _ e2 => by cases e2
            n3 := fun k _ e2 => by cases e2
            bz := by have := hb11.size; omega }
          kp := by rw [hbase]; exact hb11
          dis := Dis.one r
          al := by simp; omega
          hq := rfl
          qa := Nat.zero_le _
          go := ⟨most + 1, by omega, hgo⟩
          gd := fun y hy => by rw [List.mem_singleton.1 hy]; exact ⟨hg, hsz⟩ }
      have HBS := hid hbase
      clear hw11 hb11 g1 g2 hgo hbase
      go_loopw [13, 14, 15] (fun va vr qv wq => ∃ q : Nat, q ≤ most ∧ qv = .int .i64 q ∧ Hid (∃ all left nx bs us, OutS w10 wq base (headsR ps) most R q va vr all left nx bs us)) (fun _ _ qv _ => most + 2 - (intOf qv).toNat)
      case atStart => exact ⟨0, Nat.zero_le _, rfl, _, _, _, _, _, HO0.out⟩
      case round =>
        obtain ⟨q, hq, rfl, hinv⟩ := hrel
        obtain ⟨all, left, nx, bs, us, hO⟩ := hinv.out
        obtain ⟨wq, hwq⟩ : ∃ W : World, W = wr := ⟨_, rfl⟩
        subst hwq
        have HO := hid hO
        obtain ⟨Aa, ca, hva⟩ := hO.sv.hA.form
        have hbl : bs.length = all.length := hO.sv.hE.1.symm
        rw [hbl] at hva
        obtain ⟨Ar, cr, hvr⟩ := own_form hO.sv.hR
        have husl : us.length = q := by rw [hO.sv.hUl, hO.hq]
        rw [husl] at hvr
        subst hva
        subst hvr
        have HUS := hid husl
        have hal : all.length ≤ most := by have := hO.al; omega
        have hqa : q ≤ all.length := hO.qa
        clear hO hinv hbl husl
        by_cases hlt : q < all.length
        · obtain ⟨x, hx⟩ : ∃ x, all[q]? = some x := ⟨_, List.getElem?_eq_getElem hlt⟩
          have HX := hid hx
          obtain ⟨Rr, hRr⟩ : ∃ Rr, Rr = rowGo x (headsR ps) all left [] := ⟨_, rfl⟩
          have HRr := hid hRr
          clear hx hRr
          go_wp2_with fail
          obtain ⟨w30, hw30⟩ : ∃ W : World, W = wq.alloc (.cells #[] 3) := ⟨_, rfl⟩
          rw [← hw30]
          have HI0 : Hid (InS w10 w30 base (headsR ps) most Rr q x nx us (.slice Ar q cr) 0 (.slice Aa all.length ca) (.slice (some ⟨wq.heap.size, 0, none⟩) 0 0) all left [] bs) := hid (by
            rw [HRr.out]
            have hb30 : Below wq.heap.size wq w30 := by rw [hw30]; exact (Below.refl _ _).alloc (Nat.le_refl _) _
            refine HO.out.begin HX.out hb30 ⟨rfl, .inr ⟨wq.heap.size, 0, #[], rfl, HO.out.sv.bz, by rw [hw30]; exact blk_new wq _, Nat.le_refl _, by decide, rfl, rfl⟩⟩ fun k e => by cases e; exact Nat.le_refl _)
          clear hw30
          generalize wq.heap.size = gw at *
          go_loopw [13, 16, 54] (fun va vw i wi => ∃ j : Nat, j ≤ ps.length ∧ i = .int .i64 j ∧ Hid (∃ all2 left2 row bs2, InS w10 wi base (headsR ps) most Rr q x nx us (.slice Ar q cr) j va vw all2 left2 row bs2)) (fun _ _ i _ => ps.length - (intOf i).toNat)
          case atStart => exact ⟨0, Nat.zero_le _, rfl, _, _, _, _, HI0.out⟩
          case round =>
            obtain ⟨j, hj, rfl, hin⟩ := hrel
            obtain ⟨all2, left2, row, bs2, hI⟩ := hin.out
            obtain ⟨wi, hwi⟩ : ∃ W : World, W = wr := ⟨_, rfl⟩
            subst hwi
            have HI := hid hI
            obtain ⟨Aa2, ca2, hva⟩ := hI.sv.hA.form
            have hbl : bs2.length = all2.length := hI.sv.hE.1.symm
            have HBL := hid hbl
            rw [hbl] at hva
            obtain ⟨Aw, cw, hvw⟩ := own_form hI.sv.hW
            have hrl : row.length = j := hI.rl
            rw [ints_len, hrl] at hvw
            subst hva
            subst hvw
            have HRL := hid hrl
            have hal2 : all2.length ≤ most := by have := hI.al; omega
            have hpl : ps.length ≤ 256 := HLN.out
            clear hin hrl hbl
            by_cases hlt3 : j < ps.length
            · obtain ⟨h0, hh0⟩ : ∃ h0, (headsR ps)[j]? = some h0 := ⟨_, List.getElem?_eq_getElem (by rw [HLH.out]; exact hlt3)⟩
              have HH0 := hid hh0
              have h256 := HH256.out j h0 hh0
              obtain ⟨gh, oh, hAh, -, hcl⟩ := (HRH.out wi (by rw [← HBS.out]; exact hI.kp)).2 (by omega)
              have hx0 := hcl j (.int .u8 h0) (by unfold u8s; rw [List.getElem?_map, hh0]; rfl)
              have hq2 : q < all2.length := (List.getElem?_eq_some_iff.1 hI.qx).1
              obtain ⟨bx, hbx, hxre⟩ := hI.elem
              obtain ⟨g2, o2, hAa2, -, hcl2⟩ := hI.sv.hA.rd.2.2.2 (by omega)
              have x1 := hcl2 q (ptr bx) (by rw [List.getElem?_map, hbx]; rfl)
              have HBY := hid (hI.by_ h256 hxre)
              have HSZ := hid (hI.bysz (h0 := h0)).2
              subst hAh
              subst hAa2
              clear hcl hcl2 hbx hxre hI hh0 HI0
              unfold ptr at *
              go_wp2_with (go_at_call 55; refine HBY.out.mono ?_; rintro e w31 ⟨b3, rfl, h3, hb3⟩; have HB31 := hid hb3; have H3 := hid h3; clear h3 hb3)
              have HI31 := hid (HI.out.below HB31.out)
              obtain ⟨x', hx'⟩ : ∃ x', x' = byR h0 x := ⟨_, rfl⟩
              have HX' := hid hx'
              rw [← hx'] at H3 HSZ
              clear hx'
              go_loopw [20, 66] (fun tov i wk => ∃ (k : Nat) (to : Int), k ≤ all2.length ∧ i = .int .i64 k ∧ tov = .int .i64 to ∧ Hid (LastAt all2 x' k to) ∧ Hid (Below w31.heap.size w31 wk)) (fun _ i _ => all2.length - (intOf i).toNat)
              case atStart => exact ⟨0, -1, Nat.zero_le _, rfl, rfl, LastAt.start _ _, Below.refl _ _⟩
              case round =>
                obtain ⟨k, to, hk, rfl, rfl, hla, hbk⟩ := hrel
                obtain ⟨wk, hwk⟩ : ∃ W : World, W = wr := ⟨_, rfl⟩
                subst hwk
                have HIk := hid (HI31.out.below hbk.out)
                have H3k := hid (H3.out.under hbk.out)
                by_cases hlt4 : k < all2.length
                · obtain ⟨y, hy⟩ : ∃ y, all2[k]? = some y := ⟨_, List.getElem?_eq_getElem hlt4⟩
                  obtain ⟨by', hby⟩ : ∃ b, bs2[k]? = some b := ⟨_, List.getElem?_eq_getElem (by rw [HBL.out]; exact hlt4)⟩
                  have hyre := HIk.out.sv.hE.2 k y by' hy hby
                  obtain ⟨g4, o4, hA4, -, hcl4⟩ := HIk.out.sv.hA.rd.2.2.2 (by omega)
                  cases hA4
                  have x2 := hcl4 k (ptr by') (by rw [List.getElem?_map, hby]; rfl)
                  have HSM := hid (same_any y x' _ _ by' b3 wk hyre H3k.out)
                  have HY := hid hy
                  unfold ptr at *
                  by_cases hkey : y.key = x'.key
                  · rw [show (y.key == x'.key) = true by rw [hkey]; exact beq_self_eq_true _] at HSM
                    have HLA := hid (LastAt.yes HY.out hkey)
                    clear hcl4 hy hby hyre hkey
                    go_wp2_with (go_at_call 72; refine HSM.out.mono ?_; rintro e w33 ⟨rfl, rfl⟩)
                    go_roundw
                    case rel => exact ⟨k + 1, k, by omega, by go_num, rfl, HLA.out, hbk.out⟩
                    case measure => simp [intOf]; omega
                  · rw [show (y.key == x'.key) = false by rw [beq_eq_false_iff_ne]; exact hkey] at HSM
                    have HLA := hid (hla.out.no HY.out hkey)
                    clear hcl4 hy hby hyre hkey
                    go_wp2_with (go_at_call 72; refine HSM.out.mono ?_; rintro e w33 ⟨rfl, rfl⟩)
                    go_roundw
                    case rel => exact ⟨k + 1, to, by omega, by go_num, rfl, HLA.out, hbk.out⟩
                    case measure => simp [intOf]; omega
                · have hkn : k = all2.length := by omega
                  subst hkn
                  have hz : base ≤ wk.heap.size := HIk.out.sv.bz
                  have HBk := hid (HB31.out.trans (hbk.out.mono HB31.out.size))
                  rcases LastAt.done HIk.out.dis hla.out with ⟨rfl, hidx⟩ | ⟨t, rfl, htl, hidx⟩
                  · have HID := hid hidx
                    rw [HX'.out] at HID
                    have HOW := hid (fun W (hW : Below wk.heap.size wk W) => (by have h := (HIk.out.below hW).sv.hA; unfold OwnP at h; rw [← List.length_map (f := ptr)] at h; exact h : W.ownsRow base 31 1 (.slice (some ⟨g2, o2, none⟩) all2.length ca2) (bs2.map ptr).length (bs2.map ptr)))
                    have HBL2 : Hid ((bs2.map ptr).length = all2.length) := hid (by rw [List.length_map, HBL.out])
                    obtain ⟨m2, hm2⟩ : ∃ m, m = all2.length + 1 := ⟨_, rfl⟩
                    have HM2 := hid hm2
                    have HSZF := hid (fun W X (h : ReAt W X x' b3) => size_any x' X b3 W h)
                    unfold ptr at HSZF
                    clear hidx
                    by_cases hl0 : left2 = 0
                    · have hgt : (most : Int) < (m2 : Int) := by have := HI.out.al; omega
                      have hst : stAdd all2 left2 (byR h0 x) = none := by unfold stAdd; rw [HID.out]; simp only; rw [if_pos hl0]; split <;> rfl
                      have hRn : R = none := HO.out.row_none HX.out (by rw [← HRr.out]; exact HI.out.fell HH0.out hst)
                      have HRN := hid hRn
                      clear hst hRn hm2
                      go_wp2_with ((at_builtin; refine wpList_app_one one_ptr _ (by rfl) (.tmp 80) (.tmp 82) (by rfl) base (.slice (some ⟨g2, o2, none⟩) all2.length ca2) (bs2.map ptr) (by rfl) (HOW.out _ (by first | exact Below.refl _ _ | exact (Below.refl _ _).drew | exact (Below.refl _ _).alloc (Nat.le_refl _) _ | exact ((Below.refl _ _).alloc (Nat.le_refl _) _).drew | exact below_drewN _ _ _ | exact ((below_drewN _ _ _).alloc (Nat.le_refl _) _))) wk.heap.size 1 (.pointer (some ⟨b3, 0, none⟩)) (by rfl) (by exact cell0_new wk (.pointer (some ⟨b3, 0, none⟩)) 31) (by rfl) (by rw [HBL2.out]; omega) (Nat.le_trans hz (Below.size (by first | exact Below.refl _ _ | exact (Below.refl _ _).drew | exact (Below.refl _ _).alloc (Nat.le_refl _) _ | exact ((Below.refl _ _).alloc (Nat.le_refl _) _).drew | exact below_drewN _ _ _ | exact ((below_drewN _ _ _).alloc (Nat.le_refl _) _)))) ?_; intro v9 w9 hy9 hg9 hat9; obtain ⟨A9, c9, hv9⟩ := own_form hy9; rw [List.length_append, HBL2.out, List.length_singleton, ← HM2.out] at hv9; subst hv9; have HA9 := hid (HI.out.addA (HBk.out.trans ((Below.refl _ _).alloc HBk.out.size (.cells #[Value.pointer (some ⟨b3, 0, none⟩)] 31))) (by have h := H3k.out.under (w' := wk.alloc (.cells #[Value.pointer (some ⟨b3, 0, none⟩)] 31)) (by first | exact Below.refl _ _ | exact (Below.refl _ _).drew | exact (Below.refl _ _).alloc (Nat.le_refl _) _ | exact ((Below.refl _ _).alloc (Nat.le_refl _) _).drew | exact below_drewN _ _ _ | exact ((below_drewN _ _ _).alloc (Nat.le_refl _) _)); rw [HX'.out] at h; exact h) hg9 (ownP_app hy9) hat9); have hre9 := HA9.out.1.last; rw [← HX'.out] at hre9; have HRE9 := hid hre9; clear hy9 hg9 hat9 hre9))
                      refine bodyPost_ret (v := .tuple #[.slice none 0 0, .slice none 0 0, .slice none 0 0, .bool false]) (by simp [results, Tryz.results26, go_sem]) rfl ⟨HBr.out.trans ((HA9.out.2).mono (by rw [HBS.out]; exact HBr.out.size)), ?_⟩
                      rw [HRN.out]
                    · have hgt : ¬ (most : Int) < (m2 : Int) := by have := HI.out.al; omega
                      by_cases hbig : 20000 < x'.size
                      · have hst : stAdd all2 left2 (byR h0 x) = none := by unfold stAdd; rw [HID.out]; simp only; rw [if_pos (by rw [← HX'.out]; exact hbig)]
                        have hRn : R = none := HO.out.row_none HX.out (by rw [← HRr.out]; exact HI.out.fell HH0.out hst)
                        have HRN := hid hRn
                        have hbig2 : (20000 : Int) < (x'.size : Int) := by omega
                        generalize x'.size = z at *
                        clear hst hRn hbig hm2
                        go_wp2_with (first | (at_builtin; refine wpList_app_one one_ptr _ (by rfl) (.tmp 80) (.tmp 82) (by rfl) base (.slice (some ⟨g2, o2, none⟩) all2.length ca2) (bs2.map ptr) (by rfl) (HOW.out _ (by first | exact Below.refl _ _ | exact (Below.refl _ _).drew | exact (Below.refl _ _).alloc (Nat.le_refl _) _ | exact ((Below.refl _ _).alloc (Nat.le_refl _) _).drew | exact below_drewN _ _ _ | exact ((below_drewN _ _ _).alloc (Nat.le_refl _) _))) wk.heap.size 1 (.pointer (some ⟨b3, 0, none⟩)) (by rfl) (by exact cell0_new wk (.pointer (some ⟨b3, 0, none⟩)) 31) (by rfl) (by rw [HBL2.out]; omega) (Nat.le_trans hz (Below.size (by first | exact Below.refl _ _ | exact (Below.refl _ _).drew | exact (Below.refl _ _).alloc (Nat.le_refl _) _ | exact ((Below.refl _ _).alloc (Nat.le_refl _) _).drew | exact below_drewN _ _ _ | exact ((below_drewN _ _ _).alloc (Nat.le_refl _) _)))) ?_; intro v9 w9 hy9 hg9 hat9; obtain ⟨A9, c9, hv9⟩ := own_form hy9; rw [List.length_append, HBL2.out, List.length_singleton, ← HM2.out] at hv9; subst hv9; have HA9 := hid (HI.out.addA (HBk.out.trans ((Below.refl _ _).alloc HBk.out.size (.cells #[Value.pointer (some ⟨b3, 0, none⟩)] 31))) (by have h := H3k.out.under (w' := wk.alloc (.cells #[Value.pointer (some ⟨b3, 0, none⟩)] 31)) (by first | exact Below.refl _ _ | exact (Below.refl _ _).drew | exact (Below.refl _ _).alloc (Nat.le_refl _) _ | exact ((Below.refl _ _).alloc (Nat.le_refl _) _).drew | exact below_drewN _ _ _ | exact ((below_drewN _ _ _).alloc (Nat.le_refl _) _)); rw [HX'.out] at h; exact h) hg9 (ownP_app hy9) hat9); have hre9 := HA9.out.1.last; rw [← HX'.out] at hre9; have HRE9 := hid hre9; clear hy9 hg9 hat9 hre9) | (go_at_call 53; refine (HSZF.out _ _ HRE9.out).mono ?_; rintro e w10' ⟨rfl, rfl⟩))
                        refine bodyPost_ret (v := .tuple #[.slice none 0 0, .slice none 0 0, .slice none 0 0, .bool false]) (by simp [results, Tryz.results26, go_sem]) rfl ⟨HBr.out.trans ((HA9.out.2).mono (by rw [HBS.out]; exact HBr.out.size)), ?_⟩
                        rw [HRN.out]
                      · have hzz : (byR h0 x).size ≤ 20000 := by rw [← HX'.out]; omega
                        have HZZ := hid hzz
                        have hbig2 : ¬ (20000 : Int) < (x'.size : Int) := by omega
                        generalize x'.size = z at *
                        clear hbig hzz hm2
                        go_wp2_with (first | (at_builtin; refine wpList_app_one one_ptr _ (by rfl) (.tmp 80) (.tmp 82) (by rfl) base (.slice (some ⟨g2, o2, none⟩) all2.length ca2) (bs2.map ptr) (by rfl) (HOW.out _ (by first | exact Below.refl _ _ | exact (Below.refl _ _).drew | exact (Below.refl _ _).alloc (Nat.le_refl _) _ | exact ((Below.refl _ _).alloc (Nat.le_refl _) _).drew | exact below_drewN _ _ _ | exact ((below_drewN _ _ _).alloc (Nat.le_refl _) _))) wk.heap.size 1 (.pointer (some ⟨b3, 0, none⟩)) (by rfl) (by exact cell0_new wk (.pointer (some ⟨b3, 0, none⟩)) 31) (by rfl) (by rw [HBL2.out]; omega) (Nat.le_trans hz (Below.size (by first | exact Below.refl _ _ | exact (Below.refl _ _).drew | exact (Below.refl _ _).alloc (Nat.le_refl _) _ | exact ((Below.refl _ _).alloc (Nat.le_refl _) _).drew | exact below_drewN _ _ _ | exact ((below_drewN _ _ _).alloc (Nat.le_refl _) _)))) ?_; intro v9 w9 hy9 hg9 hat9; obtain ⟨A9, c9, hv9⟩ := own_form hy9; rw [List.length_append, HBL2.out, List.length_singleton, ← HM2.out] at hv9; subst hv9; have HA9 := hid (HI.out.addA (HBk.out.trans ((Below.refl _ _).alloc HBk.out.size (.cells #[Value.pointer (some ⟨b3, 0, none⟩)] 31))) (by have h := H3k.out.under (w' := wk.alloc (.cells #[Value.pointer (some ⟨b3, 0, none⟩)] 31)) (by first | exact Below.refl _ _ | exact (Below.refl _ _).drew | exact (Below.refl _ _).alloc (Nat.le_refl _) _ | exact ((Below.refl _ _).alloc (Nat.le_refl _) _).drew | exact below_drewN _ _ _ | exact ((below_drewN _ _ _).alloc (Nat.le_refl _) _)); rw [HX'.out] at h; exact h) hg9 (ownP_app hy9) hat9); have hre9 := HA9.out.1.last; rw [← HX'.out] at hre9; have HRE9 := hid hre9; clear hy9 hg9 hat9 hre9) | (go_at_call 53; refine (HSZF.out _ _ HRE9.out).mono ?_; rintro e w10' ⟨rfl, rfl⟩) | (at_builtin; refine wpList_app_one one_num _ (by rfl) (.tmp 93) (.tmp 95) (by rfl) base (.slice Aw j cw) (ints row) (by rfl) (by have h := (HA9.out.1.below (w' := w9.alloc (.cells #[Value.int IntKind.i64 ↑(all2.length)] 3)) (by first | exact Below.refl _ _ | exact (Below.refl _ _).drew | exact (Below.refl _ _).alloc (Nat.le_refl _) _ | exact ((Below.refl _ _).alloc (Nat.le_refl _) _).drew | exact below_drewN _ _ _ | exact ((below_drewN _ _ _).alloc (Nat.le_refl _) _))).hW; exact h) w9.heap.size 1 (.int .i64 (all2.length)) (by rfl) (by exact cell0_new w9 (.int .i64 (all2.length)) 3) (by rfl) (by rw [ints_len, HRL.out]; omega) (Nat.le_trans HA9.out.1.bz (Below.size (by first | exact Below.refl _ _ | exact (Below.refl _ _).drew | exact (Below.refl _ _).alloc (Nat.le_refl _) _ | exact ((Below.refl _ _).alloc (Nat.le_refl _) _).drew | exact below_drewN _ _ _ | exact ((below_drewN _ _ _).alloc (Nat.le_refl _) _)))) ?_; intro v12 w12 hy12 hg12 hat12; have HI10 := hid (HI.out.added HH0.out HID.out hl0 HZZ.out HA9.out.1 HA9.out.2 ((Below.refl _ _).alloc (Nat.le_refl _) (.cells #[Value.int IntKind.i64 ↑(all2.length)] 3)) hg12 hy12 hat12); clear hy12 hg12 hat12))
                        go_roundw
                        case rel => exact ⟨j + 1, by omega, by go_num, _, _, _, _, HI10.out⟩
                        case measure => simp [intOf]; omega
                  · have HID := hid hidx
                    rw [HX'.out] at HID
                    clear hidx
                    go_wp2_with (at_builtin; refine wpList_app_one one_num _ (by rfl) (.tmp 93) (.tmp 95) (by rfl) base (.slice Aw j cw) (ints row) (by rfl) (by have h := (HIk.out.below (w' := wk.alloc (.cells #[Value.int IntKind.i64 ↑t] 3)) (by first | exact Below.refl _ _ | exact (Below.refl _ _).drew | exact (Below.refl _ _).alloc (Nat.le_refl _) _ | exact ((Below.refl _ _).alloc (Nat.le_refl _) _).drew | exact below_drewN _ _ _ | exact ((below_drewN _ _ _).alloc (Nat.le_refl _) _))).sv.hW; exact h) wk.heap.size 1 (.int .i64 t) (by rfl) (by exact cell0_new wk (.int .i64 t) 3) (by rfl) (by rw [ints_len, HRL.out]; omega) (Nat.le_trans hz (Below.size (by first | exact Below.refl _ _ | exact (Below.refl _ _).drew | exact (Below.refl _ _).alloc (Nat.le_refl _) _ | exact ((Below.refl _ _).alloc (Nat.le_refl _) _).drew | exact below_drewN _ _ _ | exact ((below_drewN _ _ _).alloc (Nat.le_refl _) _)))) ?_; intro v9 w9 hy9 hg9 hat9; have HI9 := hid (HI.out.found HH0.out HID.out (HBk.out.trans ((Below.refl _ _).alloc HBk.out.size (.cells #[Value.int IntKind.i64 ↑t] 3))) hg9 hy9 hat9); clear hy9 hg9 hat9)
                    go_roundw
                    case rel => exact ⟨j + 1, by omega, by go_num, _, _, _, _, HI9.out⟩
                    case measure => simp [intOf]; omega
            · have hjn : j = ps.length := by omega
              subst hjn
              have hz : base ≤ wi.heap.size := hI.sv.bz
              clear hI HI0
              go_wp2_with (at_builtin; refine wpList_app_one one_row _ (by rfl) (.tmp 98) (.tmp 100) (by rfl) base (.slice Ar q cr) us (by rfl) (by have h := (HI.out.below (w' := wi.alloc (.cells #[Value.slice Aw ps.length cw] 25)) (by first | exact Below.refl _ _ | exact (Below.refl _ _).drew | exact (Below.refl _ _).alloc (Nat.le_refl _) _ | exact ((Below.refl _ _).alloc (Nat.le_refl _) _).drew | exact below_drewN _ _ _ | exact ((below_drewN _ _ _).alloc (Nat.le_refl _) _))).sv.hR; exact h) wi.heap.size 1 (.slice Aw ps.length cw) (by rfl) (by exact cell0_new wi (.slice Aw ps.length cw) 25) (by rfl) (by rw [HUS.out]; omega) (Nat.le_trans hz (Below.size (by first | exact Below.refl _ _ | exact (Below.refl _ _).drew | exact (Below.refl _ _).alloc (Nat.le_refl _) _ | exact ((Below.refl _ _).alloc (Nat.le_refl _) _).drew | exact below_drewN _ _ _ | exact ((below_drewN _ _ _).alloc (Nat.le_refl _) _)))) ?_; intro v9 w9 hy9 hg9 hat9; have HO9 := hid (HI.out.done HO.out HX.out HRr.out HLH.out ((Below.refl _ _).alloc (Nat.le_refl _) (.cells #[Value.slice Aw ps.length cw] 25)) hg9 hy9 hat9); clear hy9 hg9 hat9)
              go_roundw
              case rel => exact ⟨q + 1, by omega, by go_num, _, _, _, _, _, HO9.out⟩
              case measure => simp [intOf]; omega
        · have hqe : q = all.length := by omega
          subst hqe
          have hfin := HO.out.fin rfl
          have hnl : nx.length = all.length := HO.out.hq
          have hu := rdV_of HO.out.sv.hR
          have HU := hid hu
          have HFIN := hid hfin
          have HNL := hid hnl
          clear hfin hnl hu
          go_wp2_with fail
          refine bodyPost_ret (v := .tuple #[.slice Aa all.length ca, .slice Ah ps.length ch, .slice Ar all.length cr, .bool true]) (by simp [results, Tryz.results26, go_sem]) rfl ⟨HBr.out.trans ((HO.out.kp).mono (by rw [HBS.out]; exact HBr.out.size)), ?_⟩
          rw [HFIN.out]
          refine ⟨Aa, Ah, Ar, ca, ch, cr, bs, us, by rw [HNL.out], HO.out.sv.hA.rd.2.2, HO.out.sv.hE.also fun k e _ => e.elim, HRH.out _ (by rw [← HBS.out]; exact HO.out.kp), ?_, fun i u row h1 h2 => (HO.out.sv.hU i u row h1 h2).step (Y := fun _ => False) (KeepX.refl _ _) (fun _ e => e.elim) fun _ e => e.elim⟩
          obtain ⟨A', c', e, hr, -⟩ := HU.out
          rw [HUS.out] at e hr
          cases e
          rw [HNL.out]
          exact hr
end Go.Proofs.YtaplejpjmaocdaaGreatDoor
