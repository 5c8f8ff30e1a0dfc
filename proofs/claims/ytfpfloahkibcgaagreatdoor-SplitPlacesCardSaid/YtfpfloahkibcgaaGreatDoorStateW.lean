/- The walk of Build's closure: one state more. -/
import Derived.Test.YtfpfloahkibcgaaGreatDoorDfaP
import Derived.BigQuiet
import Derived.StillTailTactics
namespace Go.Proofs.YtfpfloahkibcgaaGreatDoor
open Go.RowKit Go.Maps

theorem dfaA_get (f : Nat → Nat) (vh vn vy : Value) : (dfaA f vh vn vy)[256]? = some vh ∧ (dfaA f vh vn vy)[257]? = some vn ∧ (dfaA f vh vn vy)[258]? = some vy ∧ ∀ b, b < 256 → (dfaA f vh vn vy)[b]? = some (.int .u8 (f b)) := by
  have hs := atF_size f
  unfold dfaA
  refine ⟨?_, ?_, ?_, fun b hb => ?_⟩
  · rw [Array.getElem?_append_right (by omega), hs]; rfl
  · rw [Array.getElem?_append_right (by omega), hs]; rfl
  · rw [Array.getElem?_append_right (by omega), hs]; rfl
  · rw [Array.getElem?_append_left (by omega)]; exact atF_get f hb
theorem dfaA_setY (f : Nat → Nat) (vh vn vy u : Value) : (dfaA f vh vn vy).setIfInBounds 258 u = dfaA f vh vn u := by
  have hs := atF_size f
  unfold dfaA
  rw [Array.setIfInBounds_append_right (by omega), hs]
  rfl
theorem dfaA_setN (f : Nat → Nat) (vh vn vy u : Value) : (dfaA f vh vn vy).setIfInBounds 257 u = dfaA f vh u vy := by
  have hs := atF_size f
  unfold dfaA
  rw [Array.setIfInBounds_append_right (by omega), hs]
  rfl
theorem dfaA_setH (f : Nat → Nat) (vh vn vy u : Value) : (dfaA f vh vn vy).setIfInBounds 256 u = dfaA f u vn vy := by
  have hs := atF_size f
  unfold dfaA
  rw [Array.setIfInBounds_append_right (by omega), hs]
  rfl
/-- What a call of the closure comes to. -/
def StRet (w : World) (p : Pl) (all : List Re) (left used : Nat) (f : Nat → Nat) (vh vn : Value) (os : List (Option Nat)) (va vy : Value) (x : Re) (e : Ending) (w' : World) : Prop :=
  KeepX (XS p va vy) w w' ∧ match stAdd all left x with
    | none => (∃ z : Int, e = .returned (.tuple #[.int .i64 z, .int .i64 5])) ∧ ∃ l', BudAt w' p.B l' used
    | some (all', left', q) => e = .returned (.tuple #[.int .i64 q, .int .i64 0]) ∧ ∃ va' vy' bs', StAt w' p all' left' (used + (left - left')) f vh vn os va' vy' bs'
theorem BudAt.drew {w : World} {B l u : Nat} (h : BudAt w B l u) : BudAt w.drew B l u := h
theorem KeepX.drewN {X : Nat → Prop} (w : World) (n : Nat) : KeepX X w (w.drewN n) := ⟨rfl, rfl, rfl, Nat.le_refl _, fun _ _ _ => rfl⟩
set_option maxRecDepth 100000 in
set_option maxHeartbeats 2000000 in
theorem state_yes (w : World) (p : Pl) (all : List Re) (left used : Nat) (f : Nat → Nat) (vh vn : Value) (os : List (Option Nat)) (va vy : Value) (bs : List Nat) (h : StAt w p all left used f vh vn os va vy bs)
    (x : Re) (bx : Nat) (hx : ReAt w (XD p va vy os) x bx) (hsz : x.size ≤ 549755813888) (q : Nat) (hq : idxK all x = some q) :
    Calls Tryz.prog 108 #[ptr bx, ptr p.bM, ptr p.bB, ptr p.bA, ptr p.bD] w fun e w' => e = .returned (.tuple #[.int .i64 q, .int .i64 0]) ∧ w' = w.drewN 1 := by
  obtain ⟨c, hl, hc⟩ := h.hM.look x hsz; have hl1 : ∀ n, (Instr.lookup 172 (.map (some p.M)) (.string ⟨x.key.toArray⟩) true).run Tryz.prog (w.drewN n) = .ok (.tuple #[.int .i64 c, .bool (idxK all x).isSome]) (w.drewN n) := fun n => hl (w.drewN n) rfl; have m0 := (blk_cell h.hbM 0).trans (show #[Value.map (some p.M)][0]? = some (Value.map (some p.M)) by rfl); have HKEY := hid (fun n => key_any x (XD p va vy os) bx (w.drewN n) (hx.under (below_drewN _ w n))); clear hl
  have hcq := hc q hq
  subst hcq
  rw [hq] at hl1
  clear h hx hc hq
  unfold ptr at *
  go_enter Tryz.func108, Tryz.ntmps108
  go_wp2_with fail
  go_region_held3 (fun W => W.cell? ⟨p.bM, 0, none⟩ = some (Value.map (some p.M))) (first | exact m0 | go_keep) (first | (go_at_call 109; refine (HKEY.out 0).mono ?_; rintro e w2 ⟨rfl, rfl⟩) | (go_at_call 109; refine (HKEY.out 1).mono ?_; rintro e w2 ⟨rfl, rfl⟩))
  go_wp2_with fail
  refine bodyPost_ret (v := .tuple #[.int .i64 q, .int .i64 0]) (by simp [results, Tryz.results108, go_sem]) rfl ⟨rfl, rfl⟩
set_option maxRecDepth 100000 in
set_option maxHeartbeats 2000000 in
theorem state_big (w : World) (p : Pl) (all : List Re) (left used : Nat) (f : Nat → Nat) (vh vn : Value) (os : List (Option Nat)) (va vy : Value) (bs : List Nat) (h : StAt w p all left used f vh vn os va vy bs)
    (x : Re) (bx : Nat) (hx : ReAt w (XD p va vy os) x bx) (hsz : x.size ≤ 549755813888) (hq : idxK all x = none) (hbig : 20000 < x.size) :
    Calls Tryz.prog 108 #[ptr bx, ptr p.bM, ptr p.bB, ptr p.bA, ptr p.bD] w fun e w' => e = .returned (.tuple #[.int .i64 0, .int .i64 5]) ∧ w' = w.drewN 1 := by
  obtain ⟨c, hl, hc⟩ := h.hM.look x hsz; have hl1 : ∀ n, (Instr.lookup 172 (.map (some p.M)) (.string ⟨x.key.toArray⟩) true).run Tryz.prog (w.drewN n) = .ok (.tuple #[.int .i64 c, .bool (idxK all x).isSome]) (w.drewN n) := fun n => hl (w.drewN n) rfl; have m0 := (blk_cell h.hbM 0).trans (show #[Value.map (some p.M)][0]? = some (Value.map (some p.M)) by rfl); have HKEY := hid (fun n => key_any x (XD p va vy os) bx (w.drewN n) (hx.under (below_drewN _ w n))); clear hl
  have HSZ := hid (fun n => size_any x (XD p va vy os) bx (w.drewN n) (hx.under (below_drewN _ w n)))
  rw [hq] at hl1
  generalize x.size = z at *
  clear h hx hc hq
  unfold ptr at *
  go_enter Tryz.func108, Tryz.ntmps108
  go_wp2_with fail
  go_region_held3 (fun W => W.cell? ⟨p.bM, 0, none⟩ = some (Value.map (some p.M))) (first | exact m0 | go_keep) (first | (go_at_call 109; refine (HKEY.out 0).mono ?_; rintro e w2 ⟨rfl, rfl⟩) | (go_at_call 109; refine (HKEY.out 1).mono ?_; rintro e w2 ⟨rfl, rfl⟩))
  go_wp2_with (go_at_call 35; refine (HSZ.out 1).mono ?_; rintro e w2 ⟨rfl, rfl⟩)
  refine bodyPost_ret (v := .tuple #[.int .i64 0, .int .i64 5]) (by simp [results, Tryz.results108, go_sem]) rfl ⟨rfl, rfl⟩
set_option maxRecDepth 100000 in
set_option maxHeartbeats 2000000 in
theorem state_out (w : World) (p : Pl) (all : List Re) (used : Nat) (f : Nat → Nat) (vh vn : Value) (os : List (Option Nat)) (va vy : Value) (bs : List Nat) (h : StAt w p all 0 used f vh vn os va vy bs)
    (x : Re) (bx : Nat) (hx : ReAt w (XD p va vy os) x bx) (hq : idxK all x = none) (hbig : x.size ≤ 20000) :
    Calls Tryz.prog 108 #[ptr bx, ptr p.bM, ptr p.bB, ptr p.bA, ptr p.bD] w fun e w' => e = .returned (.tuple #[.int .i64 0, .int .i64 5]) ∧ w' = (w.drewN 1).setCell ⟨p.B, 0, none⟩ (.int .i64 ((0 : Nat) : Int)) := by
  have hsz : x.size ≤ 549755813888 := by omega
  obtain ⟨c, hl, hc⟩ := h.hM.look x hsz; have hl1 : ∀ n, (Instr.lookup 172 (.map (some p.M)) (.string ⟨x.key.toArray⟩) true).run Tryz.prog (w.drewN n) = .ok (.tuple #[.int .i64 c, .bool (idxK all x).isSome]) (w.drewN n) := fun n => hl (w.drewN n) rfl; have m0 := (blk_cell h.hbM 0).trans (show #[Value.map (some p.M)][0]? = some (Value.map (some p.M)) by rfl); have HKEY := hid (fun n => key_any x (XD p va vy os) bx (w.drewN n) (hx.under (below_drewN _ w n))); clear hl
  have HSZ := hid (fun n => size_any x (XD p va vy os) bx (w.drewN n) (hx.under (below_drewN _ w n)))
  have m2 := (blk_cell h.hbB 0).trans (show #[ptr p.B][0]? = some (ptr p.B) by rfl)
  have HTK := hid (fun n => take_no p.B 0 used 1 (w.drewN n) h.hB (by omega))
  rw [hq] at hl1
  have hbig' : ¬ 20000 < x.size := by omega
  generalize x.size = z at *
  clear h hx hc hq
  unfold ptr at *
  go_enter Tryz.func108, Tryz.ntmps108
  go_wp2_with fail
  go_region_held3 (fun W => W.cell? ⟨p.bM, 0, none⟩ = some (Value.map (some p.M))) (first | exact m0 | go_keep) (first | (go_at_call 109; refine (HKEY.out 0).mono ?_; rintro e w2 ⟨rfl, rfl⟩) | (go_at_call 109; refine (HKEY.out 1).mono ?_; rintro e w2 ⟨rfl, rfl⟩))
  go_wp2_with (first | (go_at_call 35; refine (HSZ.out 1).mono ?_; rintro e w2 ⟨rfl, rfl⟩) | (go_at_call 110; refine (HTK.out 1).mono ?_; rintro e w3 ⟨rfl, rfl⟩))
  refine bodyPost_ret (v := .tuple #[.int .i64 0, .int .i64 5]) (by simp [results, Tryz.results108, go_sem]) rfl ⟨rfl, rfl⟩
theorem own_form {w : World} {base : Nat} {e : TypeId} {v : Value} {n : Nat} {xs : List Value} (h : w.ownsRow base e 1 v n xs) : ∃ A c, v = .slice A n c := by
  rcases h.2 with ⟨h1, h2⟩ | ⟨g, cap, cur, h1, _⟩
  · exact ⟨none, 0, by rw [h1, h2]⟩
  · exact ⟨_, _, h1⟩
theorem StG.yes2 {w W w7 : World} {p : Pl} {ms all : List Re} {ys : List Bool} {left used : Nat} {f : Nat → Nat} {vh vn : Value} {os : List (Option Nat)} {va vy v7 : Value} {bs : List Nat} {y : Bool} (h : StG w p ms all ys left used f vh vn os va vy bs)
    (hb : Below w.heap.size w W) (hg : W.grownBy w7 vy.ownBlock) (hy : w7.ownsRow p.base 4 1 v7 (ys.map Value.bool ++ [Value.bool y]).length (ys.map Value.bool ++ [Value.bool y])) (hat : v7.ownBlock = vy.ownBlock ∨ v7.ownBlock = some W.heap.size) :
    w7.cell? ⟨p.bD, 0, none⟩ = some (ptr p.D) ∧ w7.cell? ⟨p.D, 258, none⟩ = some vy ∧ w7.frozen? ⟨p.D, 258, none⟩ = false ∧
      StG (w7.setCell ⟨p.D, 258, none⟩ v7) p ms all (ys ++ [y]) left used f vh vn os va v7 bs ∧ KeepX (fun k => k = p.D ∨ vy.ownBlock = some k) w (w7.setCell ⟨p.D, 258, none⟩ v7) := by
  have hW := h.below hb
  have o3 := h.o3; have o4 := h.o4; have o5 := h.o5; have o6 := h.o6; have o7 := h.o7
  have hne : ∀ k, k < p.base → vy.ownBlock ≠ some k := fun k hk e => by have := (h.rowY k e).1; omega
  have hbD := (hg.block _ (lt_of_heap hW.hbD) (fun e => hne _ (by omega) e.symm)).trans hW.hbD
  have hD := (hg.block _ (lt_of_heap hW.hD) (fun e => hne _ (by omega) e.symm)).trans hW.hD
  have hk : KeepX (fun k => k = p.D ∨ vy.ownBlock = some k) W (w7.setCell ⟨p.D, 258, none⟩ v7) :=
    (KeepX.of_grown (X := fun k => k = p.D ∨ vy.ownBlock = some k) hg fun k e => .inr e).trans (KeepX.set_ (X := fun k => k = p.D ∨ vy.ownBlock = some k) _ ⟨p.D, 258, none⟩ v7 (.inl rfl)) fun _ _ h => h
  refine ⟨(blk_cell hbD 0).trans (by rfl), (blk_cell hD 258).trans (dfaA_get f vh vn vy).2.2.1, blk_free hD 258, hW.yes hk ?_ hat ?_, (KeepX.of_below (X := fun k => k = p.D ∨ vy.ownBlock = some k) hb).trans hk fun _ _ h => h⟩
  · have : OwnB w7 p.base v7 (ys ++ [y]) := by unfold OwnB; simpa using hy
    exact row_blk this fun k e => Below.heap_setCell _ _ _ _ (by have := (World.ownsRow.lt this k e).1; simp; omega)
  · rw [blk_set hD 258 v7, dfaA_setY]
theorem keep_set2 (w : World) (B : Nat) (n : Nat) (u v : Value) : KeepX (fun k => k = B) w (((w.drewN n).setCell ⟨B, 0, none⟩ u).setCell ⟨B, 1, none⟩ v) :=
  ((KeepX.drewN (X := fun k => k = B) w n).trans (KeepX.set_ (X := fun k => k = B) _ ⟨B, 0, none⟩ u rfl) fun _ _ h => h).trans (KeepX.set_ (X := fun k => k = B) _ ⟨B, 1, none⟩ v rfl) fun _ _ h => h
set_option maxRecDepth 100000 in
set_option maxHeartbeats 4000000 in
theorem state_new (w : World) (p : Pl) (all : List Re) (left used : Nat) (f : Nat → Nat) (vh vn : Value) (os : List (Option Nat)) (va vy : Value) (bs : List Nat) (h : StAt w p all left used f vh vn os va vy bs)
    (x : Re) (bx : Nat) (hx : ReAt w (XD p va vy os) x bx) (hq : idxK all x = none) (hbig : x.size ≤ 20000) (hleft : 1 ≤ left) (hbud : left + used ≤ 4611686018427387904) (hlen : all.length ≤ 1000000) :
    Calls Tryz.prog 108 #[ptr bx, ptr p.bM, ptr p.bB, ptr p.bA, ptr p.bD] w fun e w' => e = .returned (.tuple #[.int .i64 all.length, .int .i64 0]) ∧ KeepX (XS p va vy) w w' ∧ ∃ va' vy' bs', StAt w' p (all ++ [x]) (left - 1) (used + 1) f vh vn os va' vy' bs' := by
  have hsz : x.size ≤ 549755813888 := by omega
  obtain ⟨c, hl, hc⟩ := h.hM.look x hsz; have hl1 : ∀ n, (Instr.lookup 172 (.map (some p.M)) (.string ⟨x.key.toArray⟩) true).run Tryz.prog (w.drewN n) = .ok (.tuple #[.int .i64 c, .bool (idxK all x).isSome]) (w.drewN n) := fun n => hl (w.drewN n) rfl; have m0 := (blk_cell h.hbM 0).trans (show #[Value.map (some p.M)][0]? = some (Value.map (some p.M)) by rfl); have HKEY := hid (fun n => key_any x (XD p va vy os) bx (w.drewN n) (hx.under (below_drewN _ w n))); clear hl
  have HSZ := hid (fun n => size_any x (XD p va vy os) bx (w.drewN n) (hx.under (below_drewN _ w n)))
  have m2 := (blk_cell h.hbB 0).trans (show #[ptr p.B][0]? = some (ptr p.B) by rfl)
  have HTK := hid (fun n => take_yes p.B left used 1 (w.drewN n) h.hB hleft hbud)
  have HS := hid h
  have HX := hid hx
  have HB3 := hid (fun n => ((BudAt.set0 (w := w.drewN n) h.hB (left - 1)).set1 (used + 1)))
  rw [hq] at hl1
  have HNQ : Hid ((all.any fun y => y.key == x.key) = false) := hid (by rw [idxK_any, hq]; rfl)
  have hbig' : ¬ 20000 < x.size := by omega
  obtain ⟨z, hz⟩ : ∃ z, z = x.size := ⟨_, rfl⟩
  rw [← hz] at HSZ hbig'
  obtain ⟨A0, c0, hva⟩ := h.hA.form
  obtain ⟨A1, c1, hvy⟩ := own_form h.hY
  simp only [List.length_map] at hvy
  have hbl : bs.length = all.length := h.hels.1.symm
  rw [hbl] at hva
  have HVA := hid hva
  clear h hx hc hq hz hbl
  unfold ptr at *
  go_enter Tryz.func108, Tryz.ntmps108
  go_wp2_with fail
  go_region_held3 (fun W => W.cell? ⟨p.bM, 0, none⟩ = some (Value.map (some p.M))) (first | exact m0 | go_keep) (first | (go_at_call 109; refine (HKEY.out 0).mono ?_; rintro e w2 ⟨rfl, rfl⟩) | (go_at_call 109; refine (HKEY.out 1).mono ?_; rintro e w2 ⟨rfl, rfl⟩))
  go_wp2_with (first | (go_at_call 35; refine (HSZ.out 1).mono ?_; rintro e w2 ⟨rfl, rfl⟩) | (go_at_call 110; refine (HTK.out 1).mono ?_; rintro e w3 ⟨rfl, hw3⟩; have HW3 := hid hw3; clear hw3))
  have HS3 : Hid (StG w3 p all all (all.map Re.null) (left - 1) (used + 1) f vh vn os va vy bs) := hid (by rw [HW3.out]; exact HS.out.bud (keep_set2 w p.B 1 _ _) (HB3.out 1))
  have HK3 : Hid (KeepX (XS p va vy) w w3) := hid (by rw [HW3.out]; exact (keep_set2 w p.B 1 _ _).mono fun k _ e => .inl e)
  have HX3 : Hid (ReAt w3 (XD p va vy os) x bx) := hid (HX.out.keep HK3.out.keeps fun k e => .inl e)
  have HKEY3 := hid (fun n => key_any x (XD p va vy os) bx (w3.drewN n) (HX3.out.under (below_drewN _ w3 n)))
  clear HW3 HB3 HTK HSZ HKEY m0 m2 hl1
  have m0 := (blk_cell HS3.out.hbM 0).trans (show #[Value.map (some p.M)][0]? = some (Value.map (some p.M)) by rfl)
  have m1 := (blk_cell HS3.out.hbA 0).trans (show #[va][0]? = some va by rfl)
  subst hva
  subst hvy
  obtain ⟨D0, hD0, hD1, hD2⟩ := HS3.out.hM
  have hD0' : (w3.drewN 1).ownsMap Tryz.prog 9 (plainElem Tryz.prog 3) p.M all.length D0 := by obtain ⟨es, clock, g1, g2⟩ := hD0; exact ⟨es, clock, g1, g2⟩
  obtain ⟨w4, hup, hown4, hg4⟩ := hD0'.update (val := .int .i64 (all.length : Int)) (d := .lit (.int .i64 (all.length : Int))) (ps := []) (string_keyed Tryz.underlying9) Tryz.underlying172 (by unfold maxLen; omega) (key_of x hsz) (plainElem_int Tryz.underlying3 (WalkArith.wf_i64 (by omega)))
  have HM4 := hid (MapAt.put hD0 hD1 hD2 HNQ.out hown4)
  have HG4 := hid hg4
  have HK34 : Hid (KeepX (fun k => k = p.M) w3 w4) := hid (((KeepX.drewN (X := fun k => k = p.M) w3 1).trans (KeepX.of_grown (X := fun k => k = p.M) hg4 fun k e => (Option.some.inj e).symm) fun _ _ h => h))
  have HS4 : Hid (StG w4 p (all ++ [x]) all (all.map Re.null) (left - 1) (used + 1) f vh vn os (.slice A0 all.length c0) (.slice A1 all.length c1) bs) := hid (HS3.out.map HK34.out HM4.out)
  have q0 := (blk_cell HS4.out.hbM 0).trans (show #[Value.map (some p.M)][0]? = some (Value.map (some p.M)) by rfl)
  have q1 := (blk_cell HS4.out.hbA 0).trans (show #[Value.slice A0 all.length c0][0]? = some (Value.slice A0 all.length c0) by rfl)
  clear hown4 hg4 hD1 hD2 HM4 HG4
  go_region_held3 (fun W => W.cell? ⟨p.bM, 0, none⟩ = some (Value.map (some p.M)) ∧ W.cell? ⟨p.bA, 0, none⟩ = some (.slice A0 all.length c0)) (first | exact ⟨m0, m1⟩ | exact ⟨q0, q1⟩ | go_keep) (first | (go_at_call 109; refine (HKEY3.out 0).mono ?_; rintro e w2 ⟨rfl, rfl⟩) | (go_at_call 109; refine (HKEY3.out 1).mono ?_; rintro e w2 ⟨rfl, rfl⟩))
  have HX4 : Hid (ReAt w4 (XD p (.slice A0 all.length c0) (.slice A1 all.length c1) os) x bx) := hid (HX3.out.keep HK34.out.keeps fun k e => .inl (.inr (.inl e)))
  have HK4 : Hid (KeepX (XS p (.slice A0 all.length c0) (.slice A1 all.length c1)) w w4) := hid (HK3.out.trans HK34.out fun k _ e => .inr (.inl e))
  have HO4 : Hid (∀ o, OwnP (w4.alloc o) p.base (.slice A0 all.length c0) bs) := hid fun o => row_blk HS4.out.hA fun k e => Below.heap_alloc _ _ _ (HS4.out.rowA k e).2
  have HR4 := hid (Rd.news w4 [bx] 32)
  have HL4 : Hid (bs.length = all.length) := hid HS4.out.hels.1.symm
  have hbn : bs.length + [bx].length ≤ 1099511627776 := by rw [HL4.out]; simp; omega
  have h8 := HS4.out.o8
  clear hD0 hD0' hup q0 m0 m1 HKEY3
  go_wp2_with (first | (at_builtin; refine wpList_app_ptr _ rfl (.tmp 33) (.tmp 35) rfl p.base _ bs rfl (HO4.out _) (some ⟨w4.heap.size, 0, none⟩) 1 1 [bx] rfl HR4.out (fun h => by cases h) hbn (le_alloc h8 _) ?_; intro v5 w5 ho5 hg5 hat5; have HO5 := hid ho5; have HG5 := hid hg5; have HAT5 := hid hat5; obtain ⟨A5, c5, hv5⟩ := ho5.form; subst hv5; have hb5 : w5.heap[p.bA]? = some (.cells #[Value.slice A0 all.length c0] 69 (0, 0)) := (hg5.block _ (lt_of_heap (blk_alloc HS4.out.hbA _)) (fun e => by have := (HS4.out.rowA _ e.symm).1; have := HS4.out.o7; omega)).trans (blk_alloc HS4.out.hbA _); have r1 := (blk_cell hb5 0).trans (show #[Value.slice A0 all.length c0][0]? = some (Value.slice A0 all.length c0) by rfl); have f1 := blk_free hb5 0; have HB5 := hid hb5; clear ho5 hg5 hat5 hb5 hbn))
  obtain ⟨w6, hw6⟩ : ∃ w6 : World, w6 = w5.setCell ⟨p.bA, 0, none⟩ (.slice A5 (bs.length + 1) c5) := ⟨_, rfl⟩
  rw [← hw6]
  have hln : (bs ++ [bx]).length = bs.length + 1 := by simp
  rw [hln] at HO5 HAT5
  have HK46 : Hid (KeepX (fun k => k = p.bA ∨ (Value.slice A0 all.length c0).ownBlock = some k) (w4.alloc (.cells ([bx].map ptr).toArray 32)) w6) := hid (by
    rw [hw6]
    exact (KeepX.of_grown (X := fun k => k = p.bA ∨ (Value.slice A0 all.length c0).ownBlock = some k) HG5.out fun k e => .inr e).trans (KeepX.set_ (X := fun k => k = p.bA ∨ (Value.slice A0 all.length c0).ownBlock = some k) _ ⟨p.bA, 0, none⟩ _ (.inl rfl)) fun _ _ h => h)
  have HS6 : Hid (StG w6 p (all ++ [x]) (all ++ [x]) (all.map Re.null) (left - 1) (used + 1) f vh vn os (.slice A5 (bs.length + 1) c5) (.slice A1 all.length c1) (bs ++ [bx])) := hid (by
    refine StG.app (HS4.out.below ((Below.refl _ _).alloc (Nat.le_refl _) _)) HK46.out ?_ HAT5.out ?_ (HX4.out.under ((Below.refl _ _).alloc (Nat.le_refl _) _))
    · rw [hw6]
      exact row_blk HO5.out fun k e => Below.heap_setCell _ _ _ _ (by have := (World.ownsRow.lt HO5.out k e).1; have := HS4.out.o7; simp; omega)
    · rw [hw6]
      exact blk_set HB5.out 0 _)
  have HK6 : Hid (KeepX (XS p (.slice A0 all.length c0) (.slice A1 all.length c1)) w w6) := hid ((HK4.out.trans (KeepX.of_below (X := fun _ => False) ((Below.refl _ _).alloc (Nat.le_refl _) _)) fun _ _ h => h.elim).trans HK46.out fun k _ e => by
    rcases e with e | e
    · exact .inr (.inr (.inl e))
    · exact .inr (.inr (.inr (.inr (.inl e)))))
  have HX6 : Hid (ReAt w6 (XD p (.slice A5 (bs.length + 1) c5) (.slice A1 all.length c1) os) x bx) := hid (HS6.out.hels.2 all.length x bx (by simp) (by rw [List.getElem?_append_right (by rw [HL4.out]; exact Nat.le_refl _), HL4.out]; simp))
  have HNU := hid (fun W (hW : Below w6.heap.size w6 W) => null_any x _ bx W (HX6.out.under hW))
  have HYA := hid (fun W (hW : Below w6.heap.size w6 W) => (row_blk HS6.out.hY fun k e => hW.block k (HS6.out.rowY k e).2 : OwnB W p.base (.slice A1 all.length c1) (all.map Re.null)))
  have e1 := (blk_cell HS6.out.hbD 0).trans (show #[ptr p.D][0]? = some (ptr p.D) by rfl)
  have e2 := (blk_cell HS6.out.hD 258).trans (dfaA_get f vh vn (.slice A1 all.length c1)).2.2.1
  have h86 := HS6.out.o8
  clear hw6 HB5 HG5 HAT5 HO5 HR4 HO4 r1 f1 q1 h8 HK34 HK3 HK4 HX3 HS3
  unfold ptr at *
  have e3 : (w6.alloc (.cells #[Value.bool x.null] 4)).cell? ⟨p.bD, 0, none⟩ = some (.pointer (some ⟨p.D, 0, none⟩)) := (((Below.refl _ _).alloc (Nat.le_refl _) _).cell (p := ⟨p.bD, 0, none⟩) (lt_of_heap HS6.out.hbD)).trans e1
  have e4 : (w6.alloc (.cells #[Value.bool x.null] 4)).cell? ⟨p.D, 258, none⟩ = some (.slice A1 all.length c1) := (((Below.refl _ _).alloc (Nat.le_refl _) _).cell (p := ⟨p.D, 258, none⟩) (lt_of_heap HS6.out.hD)).trans e2
  go_region_law (first
    | (refine step_app_one one_bool _ (by rfl) (.tmp 41) (.tmp 44) (by rfl) p.base (.slice A1 all.length c1) ((all.map Re.null).map Value.bool) (by first | rfl | simp) (HYA.out _ (by first | exact Below.refl _ _ | exact (Below.refl _ _).drew | exact (Below.refl _ _).alloc (Nat.le_refl _) _ | exact ((Below.refl _ _).alloc (Nat.le_refl _) _).drew | exact below_drewN _ _ _ | exact ((below_drewN _ _ _).alloc (Nat.le_refl _) _))) w6.heap.size 1 (.bool x.null) (by rfl) (by exact cell0_new w6 (.bool x.null) 4) (by rfl) (by simp; omega) (Nat.le_trans h86 (Below.size (by first | exact Below.refl _ _ | exact (Below.refl _ _).drew | exact (Below.refl _ _).alloc (Nat.le_refl _) _ | exact ((Below.refl _ _).alloc (Nat.le_refl _) _).drew | exact below_drewN _ _ _ | exact ((below_drewN _ _ _).alloc (Nat.le_refl _) _)))) ?_; intro v7 w7 hy7 hg7 hat7; obtain ⟨A7, c7, hv7⟩ := own_form hy7; subst hv7; obtain ⟨t1, t2, t3, hs8, hk8⟩ := HS6.out.yes2 (y := x.null) (by first | exact Below.refl _ _ | exact (Below.refl _ _).drew | exact (Below.refl _ _).alloc (Nat.le_refl _) _ | exact ((Below.refl _ _).alloc (Nat.le_refl _) _).drew | exact below_drewN _ _ _ | exact ((below_drewN _ _ _).alloc (Nat.le_refl _) _)) hg7 hy7 hat7; simp only [List.length_append, List.length_map, List.length_cons, List.length_nil, Nat.zero_add] at hs8 hk8; have HS8 := hid hs8; have HK8 := hid hk8; (try unfold ptr at t1); clear hs8 hk8 hy7 hg7 hat7)
    | (go_simp; refine (HNU.out _ (by first | exact Below.refl _ _ | exact (Below.refl _ _).drew | exact (Below.refl _ _).alloc (Nat.le_refl _) _ | exact ((Below.refl _ _).alloc (Nat.le_refl _) _).drew | exact below_drewN _ _ _ | exact ((below_drewN _ _ _).alloc (Nat.le_refl _) _))).mono ?_; rintro e w2 ⟨rfl, rfl⟩))
  all_goals
    obtain ⟨w8, hw8⟩ : ∃ w8 : World, w8 = w7.setCell ⟨p.D, 258, none⟩ (.slice A7 (all.length + 1) c7) := ⟨_, rfl⟩
    rw [← hw8] at HS8 HK8 ⊢
    have y1 := (blk_cell HS8.out.hbA 0).trans (show #[Value.slice A5 (bs.length + 1) c5][0]? = some (Value.slice A5 (bs.length + 1) c5) by rfl)
    have hb1 : bs.length ≤ 1000000 := by rw [HL4.out]; exact hlen
    clear hw8 t1 t2 t3 e1 e2 e3 e4
    go_wp2_with fail
    refine bodyPost_ret (v := .tuple #[.int .i64 bs.length, .int .i64 0]) (by simp [results, Tryz.results108, go_sem]) rfl ⟨by rw [HL4.out], ?_, ?_⟩
    · exact HK6.out.trans HK8.out fun k _ e => by
        rcases e with e | e
        · exact .inr (.inr (.inr (.inl e)))
        · exact .inr (.inr (.inr (.inr (.inr e))))
    · exact ⟨_, _, _, by have := HS8.out; rw [show all.map Re.null ++ [x.null] = (all ++ [x]).map Re.null by simp] at this; exact this⟩
end Go.Proofs.YtfpfloahkibcgaaGreatDoor
