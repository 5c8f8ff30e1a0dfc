/- PkJ: CatW, InW, InW2, InW3, InW4, each with its own sentence. -/
import Derived.Test.YtfpfloahkibcgaaGreatDoorPkI
/- The walk of cat, out of the contract of In for each of the list. -/
namespace Go.Proofs.YtfpfloahkibcgaaGreatDoor
open Go.RowKit

/-- What stands in a box of five. -/
theorem boxd {w w2 : World} {v0 v1 v2 v3 v4 : Value} {T : TypeId} (hb : Below (w.alloc (.cells #[v0, v1, v2, v3, v4] T)).heap.size (w.alloc (.cells #[v0, v1, v2, v3, v4] T)) w2) :
    (w2.cell? ⟨w.heap.size, 0, none⟩ = some v0 ∧ w2.cell? ⟨w.heap.size, 1, none⟩ = some v1 ∧ w2.cell? ⟨w.heap.size, 2, none⟩ = some v2 ∧ w2.cell? ⟨w.heap.size, 3, none⟩ = some v3 ∧ w2.cell? ⟨w.heap.size, 4, none⟩ = some v4) ∧ Below w.heap.size w w2 ∧ w.heap.size < w2.heap.size := by
  have h := blk_below (blk_new w (.cells #[v0, v1, v2, v3, v4] T)) hb
  refine ⟨⟨(blk_cell h 0).trans (by simp), (blk_cell h 1).trans (by simp), (blk_cell h 2).trans (by simp), (blk_cell h 3).trans (by simp), (blk_cell h 4).trans (by simp)⟩, ((Below.refl _ _).alloc (Nat.le_refl _) _).trans (hb.mono (by simp)), ?_⟩
  have := hb.size
  simp at this
  omega

open Classical in
/-- What a call of In comes to. -/
def InFn (s : Shp) : Prop := ∀ (t : ByteArray) (A : Option Addr) (c : Nat) (w : World), ShAt w s (A, c) → t.size ≤ 1000000 →
  Calls Tryz.prog 24 #[s.val A c, .string t] w fun e w' => e = .returned (.bool (decide (s.InS t.data.toList))) ∧ Below w.heap.size w w'
theorem shKids_nil {w : World} {A : Option Addr} : ShKids w A [] := ⟨[], ⟨rfl, fun h => absurd h (by simp)⟩, fun j k h e => by simp at e⟩

open Classical in
set_option maxRecDepth 100000 in
set_option maxHeartbeats 4000000 in
theorem cat_any : ∀ (ks : List Shp) (_ : ∀ k ∈ ks, InFn k) (A : Option Addr) (n c : Nat) (s : ByteArray) (w : World), ks.length = n → ShKids w A ks → CapOk n A c → s.size ≤ 1000000 → n ≤ 9223372036854775807 →
    Calls Tryz.prog 74 #[.slice A n c, .string s] w fun e w' => e = .returned (.bool (decide (CatP (ks.map Shp.InS) s.data.toList))) ∧ Below w.heap.size w w'
  | [], _, A, n, c, s, w, hlen, hrow, hcap, hs, hn => by
    have hn0 : n = 0 := by simp at hlen; omega
    subst hn0
    obtain ⟨z, hz⟩ : ∃ z, z = decide (CatP (([] : List Shp).map Shp.InS) s.data.toList) := ⟨_, rfl⟩
    rw [← hz]
    have HZ := hid hz
    clear hz hrow hcap hlen
    go_enter Tryz.func74, Tryz.ntmps74
    go_wp2_with fail
    go_ret
    refine ⟨?_, Below.refl _ _⟩
    rw [HZ.out]
    show Ending.returned (Value.bool s.toList.isEmpty) = _
    congr 2
    have h1 : s.toList = s.data.toList := ByteArray.toList_eq s
    rw [h1]
    cases s.data.toList <;> simp [CatP]
  | x :: ks, hf, A, n, c, s, w, hlen, hrow, hcap, hs, hn => by
    have HF := hid (hf x (List.mem_cons_self ..))
    have HREC := hid (fun A n c s w h0 h1 h2 h3 h4 => cat_any ks (fun x hx => hf x (List.mem_cons_of_mem _ hx)) A n c s w h0 h1 h2 h3 h4)
    have hnl := hlen
    simp only [List.length_cons] at hnl
    obtain ⟨g, o, x0, B, cx, rfl, hx0, hg, hat, e0, e1, e2, e3, e4⟩ := hrow.at_ (k := 0) (by simp)
    have hx0 : x = x0 := by simpa using hx0
    subst hx0
    simp only [Nat.zero_mul, Nat.add_zero] at e0 e1 e2 e3 e4
    obtain ⟨z, hz⟩ : ∃ z, z = decide (CatP ((x :: ks).map Shp.InS) s.data.toList) := ⟨_, rfl⟩
    rw [← hz]
    have HZ := hid hz
    have HAT := hid hat
    have HROW := hid hrow
    have HCELL : Hid (∀ W, Below w.heap.size w W → W.cell? ⟨g, o, none⟩ = some (.int .i64 x.op) ∧ W.cell? ⟨g, o + 1, none⟩ = some (.int .u8 x.low) ∧ W.cell? ⟨g, o + 2, none⟩ = some (.int .u8 x.high) ∧ W.cell? ⟨g, o + 3, none⟩ = some (.string x.text) ∧ W.cell? ⟨g, o + 4, none⟩ = some (.slice B x.kids.length cx)) := fun W hW =>
      ⟨(hW.cell (p := ⟨g, o, none⟩) hg).trans e0, (hW.cell (p := ⟨g, o + 1, none⟩) hg).trans e1, (hW.cell (p := ⟨g, o + 2, none⟩) hg).trans e2, (hW.cell (p := ⟨g, o + 3, none⟩) hg).trans e3, (hW.cell (p := ⟨g, o + 4, none⟩) hg).trans e4⟩
    have hnc := hcap.1
    clear hz hat hrow hcap e0 e1 e2 e3 e4 hlen
    have i0 : (0 : Int) < (n : Int) := by omega
    have i6 : 0 < n := by omega
    have i1 : (1 : Int) ≤ (n : Int) := by omega
    have i2 : (n : Int) ≤ (c : Int) := by omega
    have hn0 : ((n : Int) == 0) = false := by simp; omega
    go_enter Tryz.func74, Tryz.ntmps74
    go_wp2_with fail
    go_loopw [5] (fun i wr => ∃ k : Nat, k ≤ s.size + 1 ∧ i = .int .i64 k ∧ Hid (∀ j, j < k → ¬ (x.InS (s.data.toList.take j) ∧ CatP (ks.map Shp.InS) (s.data.toList.drop j))) ∧ Hid (Below w.heap.size w wr)) (fun i _ => s.size + 1 - (intOf i).toNat)
    case atStart => exact ⟨0, by omega, rfl, fun j hj => absurd hj (by omega), Below.refl _ _⟩
    case round =>
      obtain ⟨k, hk, rfl, hall, hbel⟩ := hrel
      by_cases hlt : k ≤ s.size
      · obtain ⟨q0, q1, q2, q3, q4⟩ := HCELL.out wr hbel.out
        have i3 : (0 : Int) ≤ (k : Int) := by omega
        have i4 : (k : Int) ≤ (s.size : Int) := by omega
        have HC1 : Hid (∀ W, Below wr.heap.size wr W → Calls Tryz.prog 24 #[x.val B cx, .string (s.extract 0 k)] W fun e w' => e = .returned (.bool (decide (x.InS (s.data.toList.take k)))) ∧ Below W.heap.size W w') := fun W hW => by
          have := HF.out (s.extract 0 k) B cx W ((HAT.out.under hbel.out).under hW) (by rw [ByteArray.size_extract]; omega)
          rw [take_txt] at this
          exact this
        unfold Shp.val at HC1
        by_cases h1 : x.InS (s.data.toList.take k)
        · rw [decide_eq_true h1] at HC1
          obtain ⟨A', hA'⟩ : ∃ A', (if c = 1 then some (⟨g, o, none⟩ : Addr) else some ⟨g, o + 5, none⟩) = A' := ⟨_, rfl⟩
          have HC2 : Hid (∀ W, Below wr.heap.size wr W → Calls Tryz.prog 74 #[.slice A' (n - 1) (c - 1), .string (s.extract k s.size)] W fun e w' => e = .returned (.bool (decide (CatP (ks.map Shp.InS) (s.data.toList.drop k)))) ∧ Below W.heap.size W w') := fun W hW => by
            by_cases hc1 : c = 1
            · rw [if_pos hc1] at hA'
              have hks : ks = [] := List.eq_nil_of_length_eq_zero (by omega)
              have := HREC.out A' (n - 1) (c - 1) (s.extract k s.size) W (by omega) (by rw [hks]; exact shKids_nil) ⟨by omega, fun h => by rw [← hA'] at h; cases h⟩ (by rw [ByteArray.size_extract]; omega) (by omega)
              rw [drop_txt] at this
              exact this
            · rw [if_neg hc1] at hA'
              have := HREC.out A' (n - 1) (c - 1) (s.extract k s.size) W (by omega) (by rw [← hA']; exact ((HROW.out.below hbel.out).below hW).drop g o rfl 1) ⟨by omega, fun h => by rw [← hA'] at h; cases h⟩ (by rw [ByteArray.size_extract]; omega) (by omega)
              rw [drop_txt] at this
              exact this
          by_cases h2 : CatP (ks.map Shp.InS) (s.data.toList.drop k)
          · rw [decide_eq_true h2] at HC2
            have hz1 : z = true := HZ.out.trans (decide_eq_true ((catP_cons _ _ _).2 ⟨k, by simpa using hlt, h1, h2⟩))
            have HZ1 := hid hz1
            clear hz1 h1 h2
            go_wp2_with fail
            go_region_held3 (fun w' => w'.cell? ⟨g, o, none⟩ = some (.int .i64 x.op) ∧ w'.cell? ⟨g, o + 1, none⟩ = some (.int .u8 x.low) ∧ w'.cell? ⟨g, o + 2, none⟩ = some (.int .u8 x.high) ∧ w'.cell? ⟨g, o + 3, none⟩ = some (.string x.text) ∧ w'.cell? ⟨g, o + 4, none⟩ = some (.slice B x.kids.length cx)) (first | exact ⟨d0, d1, d2, d3, d4⟩ | go_keep)
          (first | (go_at_call 24; refine (HC1.out _ (by first | exact Below.refl _ _ | exact (Below.refl _ _).drew)).mono ?_; rintro e w2 ⟨rfl, hb1⟩; (first | (have hb1 := undrew hb1) | skip); have HB2 := hid hb1; obtain ⟨d0, d1, d2, d3, d4⟩ := HCELL.out _ (hbel.out.trans (hb1.mono hbel.out.size)); clear hb1) | (go_at_call 74; refine (HC2.out _ (by first | exact HB2.out | exact HB2.out.drew)).mono ?_; rintro e w3 ⟨rfl, hb1⟩; (first | (have hb1 := undrew hb1) | skip); have HB3 := hid (HB2.out.trans (hb1.mono HB2.out.size)); obtain ⟨d0, d1, d2, d3, d4⟩ := HCELL.out _ (hbel.out.trans (HB3.out.mono hbel.out.size)); clear hb1))
            all_goals
              go_wp2_with fail
              go_ret
              exact ⟨by rw [HZ1.out]; rfl, hbel.out.trans (HB3.out.mono hbel.out.size)⟩
          · rw [decide_eq_false h2] at HC2
            have HALL : Hid (∀ j, j < k + 1 → ¬ (x.InS (s.data.toList.take j) ∧ CatP (ks.map Shp.InS) (s.data.toList.drop j))) := fun j hj => by
              rcases Nat.lt_or_ge j k with h | h
              · exact hall.out j h
              · obtain rfl : j = k := by omega
                exact fun h => h2 h.2
            clear h1 h2
            go_wp2_with fail
            go_region_held3 (fun w' => w'.cell? ⟨g, o, none⟩ = some (.int .i64 x.op) ∧ w'.cell? ⟨g, o + 1, none⟩ = some (.int .u8 x.low) ∧ w'.cell? ⟨g, o + 2, none⟩ = some (.int .u8 x.high) ∧ w'.cell? ⟨g, o + 3, none⟩ = some (.string x.text) ∧ w'.cell? ⟨g, o + 4, none⟩ = some (.slice B x.kids.length cx)) (first | exact ⟨d0, d1, d2, d3, d4⟩ | go_keep)
          (first | (go_at_call 24; refine (HC1.out _ (by first | exact Below.refl _ _ | exact (Below.refl _ _).drew)).mono ?_; rintro e w2 ⟨rfl, hb1⟩; (first | (have hb1 := undrew hb1) | skip); have HB2 := hid hb1; obtain ⟨d0, d1, d2, d3, d4⟩ := HCELL.out _ (hbel.out.trans (hb1.mono hbel.out.size)); clear hb1) | (go_at_call 74; refine (HC2.out _ (by first | exact HB2.out | exact HB2.out.drew)).mono ?_; rintro e w3 ⟨rfl, hb1⟩; (first | (have hb1 := undrew hb1) | skip); have HB3 := hid (HB2.out.trans (hb1.mono HB2.out.size)); obtain ⟨d0, d1, d2, d3, d4⟩ := HCELL.out _ (hbel.out.trans (HB3.out.mono hbel.out.size)); clear hb1))
            all_goals
              go_wp2_with fail
              go_roundw
              case rel => exact ⟨k + 1, by omega, by go_num, HALL.out, hbel.out.trans (HB3.out.mono hbel.out.size)⟩
              case measure => simp [intOf]; omega
        · rw [decide_eq_false h1] at HC1
          have HALL : Hid (∀ j, j < k + 1 → ¬ (x.InS (s.data.toList.take j) ∧ CatP (ks.map Shp.InS) (s.data.toList.drop j))) := fun j hj => by
            rcases Nat.lt_or_ge j k with h | h
            · exact hall.out j h
            · obtain rfl : j = k := by omega
              exact fun h => h1 h.1
          clear h1
          go_wp2_with fail
          first | (go_region_with (first | (go_at_call 24; refine (HC1.out _ (by first | exact Below.refl _ _ | exact (Below.refl _ _).drew)).mono ?_; rintro e w2 ⟨rfl, hb1⟩; (first | (have hb1 := undrew hb1) | skip); have HB2 := hid hb1; obtain ⟨d0, d1, d2, d3, d4⟩ := HCELL.out _ (hbel.out.trans (hb1.mono hbel.out.size)); clear hb1))) | fail
          all_goals
            go_wp2_with fail
            go_roundw
            case rel => exact ⟨k + 1, by omega, by go_num, HALL.out, hbel.out.trans (HB2.out.mono hbel.out.size)⟩
            case measure => simp [intOf]; omega
      · have hz0 : z = false := HZ.out.trans (decide_eq_false fun h => by
          obtain ⟨j, hj, h3, h4⟩ := (catP_cons _ _ _).1 h
          exact hall.out j (by simp at hj; omega) ⟨h3, h4⟩)
        have HZ0 := hid hz0
        clear hz0
        go_wp2_with fail
        go_ret
        exact ⟨by rw [HZ0.out]; rfl, hbel.out⟩
end Go.Proofs.YtfpfloahkibcgaaGreatDoor

/- The walk of Shape.In, op by op. -/
namespace Go.Proofs.YtfpfloahkibcgaaGreatDoor
open Go.RowKit

theorem inS_code (s : Shp) (c : Nat) (h : s.code = c) (t : Txt) : s.InS t ↔ InOf c s.lo s.hi s.text.data.toList (s.kids.map Shp.InS) t := by rw [Shp.inS_eq, h]
theorem op_code (s : Shp) (c : Nat) (h : s.code = c) (A : Option Addr) (q : Nat) (hw : s.Wf) : Hid (∀ W, Calls Tryz.prog 68 #[s.val A q] W fun e w' => e = .returned (.int .i64 c) ∧ Below W.heap.size W w') := fun W => by
  have := shOp_any s A q W hw
  rw [h] at this
  exact this
theorem inS_kid0 {s : Shp} {x : Shp} (h : s.kids[0]? = some x) : (s.kids.map Shp.InS).getD 0 NoP = x.InS := by simp [List.getD, List.getElem?_map, h]
theorem inS_kid1 {s : Shp} {x : Shp} (h : s.kids[1]? = some x) : (s.kids.map Shp.InS).getD 1 NoP = x.InS := by simp [List.getD, List.getElem?_map, h]
theorem inS_nokid {s : Shp} {k : Nat} (h : s.kids.length ≤ k) : (s.kids.map Shp.InS).getD k NoP = NoP := by simp [List.getD, List.getElem?_map, List.getElem?_eq_none h]

open Classical in
set_option maxRecDepth 100000 in
set_option maxHeartbeats 4000000 in
theorem in_0 (s : Shp) (hc : s.code = 0) : InFn s := by
  intro t A c w hat ht
  have HOP := op_code s 0 hc A c hat.open_.1
  have hz : decide (s.InS t.data.toList) = false := decide_eq_false fun h => (inS_code s 0 hc _).1 h
  rw [hz]
  clear hz hat
  unfold Shp.val at *
  go_enter Tryz.func24, Tryz.ntmps24
  go_wp2_with (go_at_call 68; refine (HOP.out _).mono ?_; rintro e w2 ⟨rfl, hb1⟩; obtain ⟨⟨d0, d1, d2, d3, d4⟩, hb2, hlt2⟩ := boxd hb1; have HB2 := hid hb2; clear hb1 hb2)
  go_ret
  exact ⟨rfl, HB2.out⟩
open Classical in
set_option maxRecDepth 100000 in
set_option maxHeartbeats 4000000 in
theorem in_1 (s : Shp) (hc : s.code = 1) : InFn s := by
  intro t A c w hat ht
  have HOP := op_code s 1 hc A c hat.open_.1
  obtain ⟨z, hz⟩ : ∃ z, z = decide (s.InS t.data.toList) := ⟨_, rfl⟩
  rw [← hz]
  have HZ := hid hz
  clear hz hat
  unfold Shp.val at *
  go_enter Tryz.func24, Tryz.ntmps24
  go_wp2_with (go_at_call 68; refine (HOP.out _).mono ?_; rintro e w2 ⟨rfl, hb1⟩; obtain ⟨⟨d0, d1, d2, d3, d4⟩, hb2, hlt2⟩ := boxd hb1; have HB2 := hid hb2; clear hb1 hb2)
  go_ret
  refine ⟨?_, HB2.out⟩
  rw [HZ.out]
  show Ending.returned (Value.bool t.toList.isEmpty) = _
  congr 2
  rw [ByteArray.toList_eq, decide_eq_decide.2 (inS_code s 1 hc t.data.toList)]
  rw [Bool.eq_iff_iff, decide_eq_true_iff, List.isEmpty_iff]
  exact Iff.rfl
open Classical in
set_option maxRecDepth 100000 in
set_option maxHeartbeats 4000000 in
theorem in_8 (s : Shp) (hc : s.code = 8) : InFn s := by
  intro t A c w hat ht
  have HOP := op_code s 8 hc A c hat.open_.1
  obtain ⟨z, hz⟩ : ∃ z, z = decide (s.InS t.data.toList) := ⟨_, rfl⟩
  rw [← hz]
  have HZ := hid hz
  clear hz hat
  unfold Shp.val at *
  go_enter Tryz.func24, Tryz.ntmps24
  go_wp2_with (go_at_call 68; refine (HOP.out _).mono ?_; rintro e w2 ⟨rfl, hb1⟩; obtain ⟨⟨d0, d1, d2, d3, d4⟩, hb2, hlt2⟩ := boxd hb1; have HB2 := hid hb2; clear hb1 hb2)
  go_ret
  refine ⟨?_, HB2.out⟩
  rw [HZ.out]
  show Ending.returned (Value.bool (t.toList == s.text.toList)) = _
  congr 2
  rw [decide_eq_decide.2 (inS_code s 8 hc t.data.toList)]
  rw [Bool.eq_iff_iff, decide_eq_true_iff, beq_iff_eq, ByteArray.toList_eq, ByteArray.toList_eq]
  exact Iff.rfl
open Classical in
set_option maxRecDepth 100000 in
set_option maxHeartbeats 4000000 in
theorem in_2 (s : Shp) (hc : s.code = 2) : InFn s := by
  intro t A c w hat ht
  have HOP := op_code s 2 hc A c hat.open_.1
  have HLO := hid (fun W => shLow_any s A c W hat.open_.1)
  obtain ⟨z, hz⟩ : ∃ z, z = decide (s.InS t.data.toList) := ⟨_, rfl⟩
  rw [← hz]
  have HZ : Hid (z = decide (InOf 2 s.lo s.hi s.text.data.toList (s.kids.map Shp.InS) t.data.toList)) := hid (hz.trans (decide_eq_decide.2 (inS_code s 2 hc t.data.toList)))
  have hlo := lo_lt s
  have hhi := hi_lt s
  generalize s.lo = lo at *
  generalize s.hi = hi at *
  clear hz hat
  unfold Shp.val at *
  by_cases h1 : t.size = 1
  · obtain ⟨x, hx⟩ : ∃ x, t.data.toList = [x] := by
      have hlen : t.data.toList.length = t.size := by simp
      match hq : t.data.toList, hlen with
      | [x], _ => exact ⟨x, rfl⟩
      | [], hl => rw [h1] at hl; simp at hl
      | _ :: _ :: _, hl => rw [h1] at hl; simp at hl
    have hidx : ∀ W, (Instr.index 9 (.string t) (.int .i64 0)).run Tryz.prog W = .ok (.int .u8 x.toNat) W := idx_string t 0 x (by rw [hx]; rfl)
    have HZ2 : Hid (z = decide (lo ≤ x.toNat ∧ x.toNat ≤ hi)) := hid (by
      rw [HZ.out, Bool.eq_iff_iff, decide_eq_true_iff, decide_eq_true_iff, hx]
      constructor
      · rintro ⟨b, e, h⟩
        have e : x = b := by simpa using e
        rw [e]; exact h
      · intro h; exact ⟨x, rfl, h⟩)
    have hb1 : ((t.size : Int) == 1) = true := by rw [h1]; rfl
    have i0 : (0 : Int) < (t.size : Int) := by rw [h1]; decide
    have i1 : 0 < t.size := by omega
    clear hx h1 HZ
    generalize x.toNat = y at *
    by_cases h2 : lo ≤ y
    · have hd : decide ((lo : Int) ≤ (y : Int)) = true := decide_eq_true (by omega)
      have HZ3 : Hid (z = decide (y ≤ hi)) := hid (by
        rw [HZ2.out, Bool.eq_iff_iff, decide_eq_true_iff, decide_eq_true_iff]; omega)
      clear HZ2
      go_enter Tryz.func24, Tryz.ntmps24
      go_wp2_with (first | (go_at_call 68; refine (HOP.out _).mono ?_; rintro e w2 ⟨rfl, hb1⟩; obtain ⟨⟨d0, d1, d2, d3, d4⟩, hb2, hlt2⟩ := boxd hb1; have HB2 := hid hb2; clear hb1 hb2) | (go_at_call 69; refine (HLO.out _).mono ?_; rintro e w3 ⟨rfl, hb1⟩; have HB3 := hid (HB2.out.trans (hb1.mono HB2.out.size)); clear hb1))
      go_ret
      exact ⟨by rw [HZ3.out]; rfl, HB3.out⟩
    · have hd : decide ((lo : Int) ≤ (y : Int)) = false := decide_eq_false (by omega)
      have HZ3 : Hid (z = false) := hid (by
        rw [HZ2.out]; exact decide_eq_false (by omega))
      clear HZ2
      go_enter Tryz.func24, Tryz.ntmps24
      go_wp2_with (first | (go_at_call 68; refine (HOP.out _).mono ?_; rintro e w2 ⟨rfl, hb1⟩; obtain ⟨⟨d0, d1, d2, d3, d4⟩, hb2, hlt2⟩ := boxd hb1; have HB2 := hid hb2; clear hb1 hb2) | (go_at_call 69; refine (HLO.out _).mono ?_; rintro e w3 ⟨rfl, hb1⟩; have HB3 := hid (HB2.out.trans (hb1.mono HB2.out.size)); clear hb1))
      go_ret
      exact ⟨by rw [HZ3.out]; rfl, HB3.out⟩
  · have hb1 : ((t.size : Int) == 1) = false := by
      have : ¬ (t.size : Int) = 1 := by omega
      simp [this]
    have HZ3 : Hid (z = false) := hid (by
      rw [HZ.out]
      refine decide_eq_false ?_
      rintro ⟨b, e, -⟩
      have := congrArg List.length e
      simp at this
      exact h1 this)
    clear h1 HZ
    go_enter Tryz.func24, Tryz.ntmps24
    go_wp2_with (first | (go_at_call 68; refine (HOP.out _).mono ?_; rintro e w2 ⟨rfl, hb1⟩; obtain ⟨⟨d0, d1, d2, d3, d4⟩, hb2, hlt2⟩ := boxd hb1; have HB2 := hid hb2; clear hb1 hb2) | (go_at_call 69; refine (HLO.out _).mono ?_; rintro e w3 ⟨rfl, hb1⟩; have HB3 := hid (HB2.out.trans (hb1.mono HB2.out.size)); clear hb1))
    go_ret
    exact ⟨by rw [HZ3.out]; rfl, HB3.out⟩
open Classical in
set_option maxRecDepth 100000 in
set_option maxHeartbeats 4000000 in
theorem in_3 (s : Shp) (hc : s.code = 3) (ih : ∀ k ∈ s.kids, InFn k) : InFn s := by
  intro t A c w hat ht
  have HOP := op_code s 3 hc A c hat.open_.1
  obtain ⟨z, hz⟩ : ∃ z, z = decide (s.InS t.data.toList) := ⟨_, rfl⟩
  rw [← hz]
  have hz' : z = decide (CatP (s.kids.map Shp.InS) t.data.toList) := hz.trans (decide_eq_decide.2 (inS_code s 3 hc t.data.toList))
  have HC : Hid (∀ W, Below w.heap.size w W → Calls Tryz.prog 74 #[.slice A s.kids.length c, .string t] W fun e w' => e = .returned (.bool z) ∧ Below W.heap.size W w') := fun W hW => by
    rw [hz']
    exact cat_any s.kids ih A s.kids.length c t W rfl (hat.open_.2.2.below hW) hat.open_.2.1 ht hat.open_.1.2.2.2.2
  clear hz hz' hat ih
  unfold Shp.val at *
  go_enter Tryz.func24, Tryz.ntmps24
  go_wp2_with (first | (go_at_call 68; refine (HOP.out _).mono ?_; rintro e w2 ⟨rfl, hb1⟩; obtain ⟨⟨d0, d1, d2, d3, d4⟩, hb2, hlt2⟩ := boxd hb1; have HB2 := hid hb2; clear hb1 hb2) | (go_at_call 74; refine (HC.out _ HB2.out).mono ?_; rintro e w3 ⟨rfl, hb1⟩; have HB3 := hid (HB2.out.trans (hb1.mono HB2.out.size)); clear hb1))
  go_ret
  exact ⟨rfl, HB3.out⟩
end Go.Proofs.YtfpfloahkibcgaaGreatDoor

/- The walk of Shape.In: a choice, all of them, one and not the other, a star. -/
namespace Go.Proofs.YtfpfloahkibcgaaGreatDoor
open Go.RowKit

theorem mem_take_succ {α : Type} {l : List α} {k : Nat} {x y : α} (hx : l[k]? = some x) (hy : y ∈ l.take (k + 1)) : y ∈ l.take k ∨ y = x := by
  obtain ⟨l1, e1⟩ := List.getElem?_eq_some_iff.1 hx
  rw [List.take_succ_eq_append_getElem l1, e1] at hy
  rcases List.mem_append.1 hy with h | h
  · exact .inl h
  · exact .inr (by simpa using h)
open Classical in
set_option maxRecDepth 100000 in
set_option maxHeartbeats 4000000 in
theorem in_4 (s : Shp) (hc : s.code = 4) (ih : ∀ k ∈ s.kids, InFn k) : InFn s := by
  intro t A c w hat ht
  have HOP := op_code s 4 hc A c hat.open_.1
  obtain ⟨z, hz⟩ : ∃ z, z = decide (s.InS t.data.toList) := ⟨_, rfl⟩
  rw [← hz]
  have HZ : Hid (z = decide (∃ k ∈ s.kids, k.InS t.data.toList)) := hid (hz.trans (decide_eq_decide.2 ((inS_code s 4 hc t.data.toList).trans (by
    show (∃ P ∈ s.kids.map Shp.InS, P t.data.toList) ↔ _
    constructor
    · rintro ⟨P, hP, h⟩
      obtain ⟨a, ha, rfl⟩ := List.mem_map.1 hP
      exact ⟨a, ha, h⟩
    · rintro ⟨a, ha, h⟩
      exact ⟨_, List.mem_map_of_mem ha, h⟩))))
  have HIH := hid ih
  have HT := hid ht
  have HKIDS := hid hat.open_.2.2
  have hkl := hat.open_.1.2.2.2.2
  obtain ⟨n, hn⟩ : ∃ n, n = s.kids.length := ⟨_, rfl⟩
  have HN := hid hn
  clear hz hat ih ht
  unfold Shp.val at *
  rw [← hn] at hkl HOP ⊢
  clear hn
  go_enter Tryz.func24, Tryz.ntmps24
  go_wp2_with (go_at_call 68; refine (HOP.out _).mono ?_; rintro e w2 ⟨rfl, hb1⟩; obtain ⟨⟨d0, d1, d2, d3, d4⟩, hb2, hlt2⟩ := boxd hb1; have HB2 := hid hb2; clear hb1 hb2)
  go_loopw [53] (fun i wr => ∃ k : Nat, k ≤ n ∧ i = .int .i64 k ∧ Hid (∀ x ∈ s.kids.take k, ¬ x.InS t.data.toList) ∧ Hid (Below w.heap.size w wr)) (fun i _ => n - (intOf i).toNat)
  case atStart => exact ⟨0, Nat.zero_le _, rfl, fun x hx => by simp at hx, HB2.out⟩
  case round =>
    obtain ⟨k, hk, rfl, hall, hbel⟩ := hrel
    by_cases hlt : k < n
    · obtain ⟨g, o, x, B, cx, rfl, hx, hg, hatx, k0, k1, k2, k3, k4⟩ := HKIDS.out.at_ (k := k) (by rw [← HN.out]; exact hlt)
      have hb := fun i => hbel.out.cell (p := ⟨g, i, none⟩) hg
      have c0 := (hb _).trans k0; have c1 := (hb _).trans k1; have c2 := (hb _).trans k2; have c3 := (hb _).trans k3; have c4 := (hb _).trans k4
      have HC : Hid (∀ W, Below wr.heap.size wr W → Calls Tryz.prog 24 #[x.val B cx, .string t] W fun e w' => e = .returned (.bool (decide (x.InS t.data.toList))) ∧ Below W.heap.size W w') := fun W hW => HIH.out x (List.mem_of_getElem? hx) t B cx W ((hatx.under hbel.out).under hW) HT.out
      have HX := hid hx
      unfold Shp.val at HC
      clear k0 k1 k2 k3 k4 hb hx hatx
      by_cases hL : x.InS t.data.toList
      · have HZ1 : Hid (z = true) := hid (HZ.out.trans (decide_eq_true ⟨x, List.mem_of_getElem? HX.out, hL⟩))
        rw [decide_eq_true hL] at HC
        clear hL
        go_wp2_with (go_at_call 24; refine (HC.out _ (Below.alloc (Below.refl _ _) (Nat.le_refl _) _)).mono ?_; rintro e w3 ⟨rfl, hb1⟩; have HB3 := hid ((Below.alloc (Below.refl _ _) (Nat.le_refl _) _).trans (hb1.mono (by simp))); clear hb1)
        go_ret
        exact ⟨by rw [HZ1.out]; rfl, hbel.out.trans (HB3.out.mono hbel.out.size)⟩
      · have HALL : Hid (∀ y ∈ s.kids.take (k + 1), ¬ y.InS t.data.toList) := fun y hy => by
          rcases mem_take_succ HX.out hy with h | h
          · exact hall.out y h
          · rw [h]; exact hL
        rw [decide_eq_false hL] at HC
        clear hL
        go_wp2_with (go_at_call 24; refine (HC.out _ (Below.alloc (Below.refl _ _) (Nat.le_refl _) _)).mono ?_; rintro e w3 ⟨rfl, hb1⟩; have HB3 := hid ((Below.alloc (Below.refl _ _) (Nat.le_refl _) _).trans (hb1.mono (by simp))); clear hb1)
        go_roundw
        case rel => exact ⟨k + 1, by omega, by go_num, HALL.out, hbel.out.trans (HB3.out.mono hbel.out.size)⟩
        case measure => simp [intOf]; omega
    · have HZ0 : Hid (z = false) := hid (HZ.out.trans (decide_eq_false fun h => by
        obtain ⟨x, hx, hL⟩ := h
        exact hall.out x (by rw [List.take_of_length_le (by rw [← HN.out]; omega)]; exact hx) hL))
      go_wp2_with fail
      go_ret
      exact ⟨by rw [HZ0.out]; rfl, hbel.out⟩
open Classical in
set_option maxRecDepth 100000 in
set_option maxHeartbeats 4000000 in
theorem in_6 (s : Shp) (hc : s.code = 6) (ih : ∀ k ∈ s.kids, InFn k) : InFn s := by
  intro t A c w hat ht
  have HOP := op_code s 6 hc A c hat.open_.1
  obtain ⟨z, hz⟩ : ∃ z, z = decide (s.InS t.data.toList) := ⟨_, rfl⟩
  rw [← hz]
  have HZ : Hid (z = decide (∀ k ∈ s.kids, k.InS t.data.toList)) := hid (hz.trans (decide_eq_decide.2 ((inS_code s 6 hc t.data.toList).trans (by
    show (∀ P ∈ s.kids.map Shp.InS, P t.data.toList) ↔ _
    simp))))
  have HIH := hid ih
  have HT := hid ht
  have HKIDS := hid hat.open_.2.2
  have hkl := hat.open_.1.2.2.2.2
  obtain ⟨n, hn⟩ : ∃ n, n = s.kids.length := ⟨_, rfl⟩
  have HN := hid hn
  clear hz hat ih ht
  unfold Shp.val at *
  rw [← hn] at hkl HOP ⊢
  clear hn
  go_enter Tryz.func24, Tryz.ntmps24
  go_wp2_with (go_at_call 68; refine (HOP.out _).mono ?_; rintro e w2 ⟨rfl, hb1⟩; obtain ⟨⟨d0, d1, d2, d3, d4⟩, hb2, hlt2⟩ := boxd hb1; have HB2 := hid hb2; clear hb1 hb2)
  go_loopw [95] (fun i wr => ∃ k : Nat, k ≤ n ∧ i = .int .i64 k ∧ Hid (∀ x ∈ s.kids.take k, x.InS t.data.toList) ∧ Hid (Below w.heap.size w wr)) (fun i _ => n - (intOf i).toNat)
  case atStart => exact ⟨0, Nat.zero_le _, rfl, fun x hx => by simp at hx, HB2.out⟩
  case round =>
    obtain ⟨k, hk, rfl, hall, hbel⟩ := hrel
    by_cases hlt : k < n
    · obtain ⟨g, o, x, B, cx, rfl, hx, hg, hatx, k0, k1, k2, k3, k4⟩ := HKIDS.out.at_ (k := k) (by rw [← HN.out]; exact hlt)
      have hb := fun i => hbel.out.cell (p := ⟨g, i, none⟩) hg
      have c0 := (hb _).trans k0; have c1 := (hb _).trans k1; have c2 := (hb _).trans k2; have c3 := (hb _).trans k3; have c4 := (hb _).trans k4
      have HC : Hid (∀ W, Below wr.heap.size wr W → Calls Tryz.prog 24 #[x.val B cx, .string t] W fun e w' => e = .returned (.bool (decide (x.InS t.data.toList))) ∧ Below W.heap.size W w') := fun W hW => HIH.out x (List.mem_of_getElem? hx) t B cx W ((hatx.under hbel.out).under hW) HT.out
      have HX := hid hx
      unfold Shp.val at HC
      clear k0 k1 k2 k3 k4 hb hx hatx
      by_cases hL : x.InS t.data.toList
      · have HALL : Hid (∀ y ∈ s.kids.take (k + 1), y.InS t.data.toList) := fun y hy => by
          rcases mem_take_succ HX.out hy with h | h
          · exact hall.out y h
          · rw [h]; exact hL
        rw [decide_eq_true hL] at HC
        clear hL
        go_wp2_with (go_at_call 24; refine (HC.out _ (Below.alloc (Below.refl _ _) (Nat.le_refl _) _)).mono ?_; rintro e w3 ⟨rfl, hb1⟩; have HB3 := hid ((Below.alloc (Below.refl _ _) (Nat.le_refl _) _).trans (hb1.mono (by simp))); clear hb1)
        go_roundw
        case rel => exact ⟨k + 1, by omega, by go_num, HALL.out, hbel.out.trans (HB3.out.mono hbel.out.size)⟩
        case measure => simp [intOf]; omega
      · have HZ1 : Hid (z = false) := hid (HZ.out.trans (decide_eq_false fun h => hL (h x (List.mem_of_getElem? HX.out))))
        rw [decide_eq_false hL] at HC
        clear hL
        go_wp2_with (go_at_call 24; refine (HC.out _ (Below.alloc (Below.refl _ _) (Nat.le_refl _) _)).mono ?_; rintro e w3 ⟨rfl, hb1⟩; have HB3 := hid ((Below.alloc (Below.refl _ _) (Nat.le_refl _) _).trans (hb1.mono (by simp))); clear hb1)
        go_ret
        exact ⟨by rw [HZ1.out]; rfl, hbel.out.trans (HB3.out.mono hbel.out.size)⟩
    · have HZ0 : Hid (z = true) := hid (HZ.out.trans (decide_eq_true fun x hx => hall.out x (by rw [List.take_of_length_le (by rw [← HN.out]; omega)]; exact hx)))
      go_wp2_with fail
      go_ret
      exact ⟨by rw [HZ0.out]; rfl, hbel.out⟩
end Go.Proofs.YtfpfloahkibcgaaGreatDoor

/- The walk of Shape.In: one and not the other; a star; all ops. -/
namespace Go.Proofs.YtfpfloahkibcgaaGreatDoor
open Go.RowKit

theorem kid_cells {w : World} {g o : Nat} {x : Shp} {B : Option Addr} {cx : Nat} (hg : g < w.heap.size) (e0 : w.cell? ⟨g, o, none⟩ = some (.int .i64 x.op)) (e1 : w.cell? ⟨g, o + 1, none⟩ = some (.int .u8 x.low)) (e2 : w.cell? ⟨g, o + 2, none⟩ = some (.int .u8 x.high)) (e3 : w.cell? ⟨g, o + 3, none⟩ = some (.string x.text)) (e4 : w.cell? ⟨g, o + 4, none⟩ = some (.slice B x.kids.length cx)) :
    Hid (∀ W, Below w.heap.size w W → W.cell? ⟨g, o, none⟩ = some (.int .i64 x.op) ∧ W.cell? ⟨g, o + 1, none⟩ = some (.int .u8 x.low) ∧ W.cell? ⟨g, o + 2, none⟩ = some (.int .u8 x.high) ∧ W.cell? ⟨g, o + 3, none⟩ = some (.string x.text) ∧ W.cell? ⟨g, o + 4, none⟩ = some (.slice B x.kids.length cx)) := fun _ hW => ⟨(hW.cell (p := ⟨g, _, none⟩) hg).trans e0, (hW.cell (p := ⟨g, _, none⟩) hg).trans e1, (hW.cell (p := ⟨g, _, none⟩) hg).trans e2, (hW.cell (p := ⟨g, _, none⟩) hg).trans e3, (hW.cell (p := ⟨g, _, none⟩) hg).trans e4⟩
/-- The box of a shape, after a call. -/
theorem box_cells {w w2 : World} {v0 v1 v2 v3 v4 : Value} (hlt2 : w.heap.size < w2.heap.size) (d0 : w2.cell? ⟨w.heap.size, 0, none⟩ = some v0) (d1 : w2.cell? ⟨w.heap.size, 1, none⟩ = some v1) (d2 : w2.cell? ⟨w.heap.size, 2, none⟩ = some v2) (d3 : w2.cell? ⟨w.heap.size, 3, none⟩ = some v3) (d4 : w2.cell? ⟨w.heap.size, 4, none⟩ = some v4) :
    Hid (∀ W, Below w2.heap.size w2 W → W.cell? ⟨w.heap.size, 0, none⟩ = some v0 ∧ W.cell? ⟨w.heap.size, 1, none⟩ = some v1 ∧ W.cell? ⟨w.heap.size, 2, none⟩ = some v2 ∧ W.cell? ⟨w.heap.size, 3, none⟩ = some v3 ∧ W.cell? ⟨w.heap.size, 4, none⟩ = some v4) := fun _ hW =>
  ⟨(hW.cell (p := ⟨w.heap.size, 0, none⟩) hlt2).trans d0, (hW.cell (p := ⟨w.heap.size, 1, none⟩) hlt2).trans d1, (hW.cell (p := ⟨w.heap.size, 2, none⟩) hlt2).trans d2, (hW.cell (p := ⟨w.heap.size, 3, none⟩) hlt2).trans d3, (hW.cell (p := ⟨w.heap.size, 4, none⟩) hlt2).trans d4⟩

open Classical in
set_option maxRecDepth 100000 in
set_option maxHeartbeats 4000000 in
theorem in_7 (s : Shp) (hc : s.code = 7) (ih : ∀ k ∈ s.kids, InFn k) : InFn s := by
  intro t A c w hat ht
  have HOP := op_code s 7 hc A c hat.open_.1
  obtain ⟨z, hz⟩ : ∃ z, z = decide (s.InS t.data.toList) := ⟨_, rfl⟩
  rw [← hz]
  have HZ : Hid (z = true ↔ (s.kids.map Shp.InS).getD 0 NoP t.data.toList ∧ ¬ (s.kids.map Shp.InS).getD 1 NoP t.data.toList) := hid (by rw [hz, decide_eq_true_iff]; exact inS_code s 7 hc t.data.toList)
  have hkids := hat.open_.2.2
  have hkl := hat.open_.1.2.2.2.2
  obtain ⟨n, hn⟩ : ∃ n, n = s.kids.length := ⟨_, rfl⟩
  by_cases h0 : n = 0
  · have HZ0 : Hid (z = false) := hid (by
      rw [← Bool.not_eq_true, HZ.out, inS_nokid (by omega)]
      rintro ⟨h, -⟩
      exact h)
    rw [h0] at hn
    unfold Shp.val at *
    rw [← hn] at HOP ⊢
    clear hz hat ih ht hn hkids HZ hkl h0
    go_enter Tryz.func24, Tryz.ntmps24
    go_wp2_with (go_at_call 68; refine (HOP.out _).mono ?_; rintro e w2 ⟨rfl, hb1⟩; obtain ⟨⟨d0, d1, d2, d3, d4⟩, hb2, hlt2⟩ := boxd hb1; have HB2 := hid hb2; clear hb1 hb2 HOP)
    go_ret
    exact ⟨by rw [HZ0.out]; rfl, HB2.out⟩
  obtain ⟨g, o, x, B, cx, rfl, hx, hg, hatx, e0, e1, e2, e3, e4⟩ := hkids.at_ (k := 0) (by omega)
  simp only [Nat.zero_mul, Nat.add_zero] at e0 e1 e2 e3 e4
  have HKX := kid_cells hg e0 e1 e2 e3 e4
  have HCX : Hid (∀ W, Below w.heap.size w W → Calls Tryz.prog 24 #[x.val B cx, .string t] W fun e w' => e = .returned (.bool (decide (x.InS t.data.toList))) ∧ Below W.heap.size W w') := fun W hW => ih x (List.mem_of_getElem? hx) t B cx W (hatx.under hW) ht
  rw [inS_kid0 hx] at HZ
  clear e0 e1 e2 e3 e4 hatx
  have i0 : (0 : Int) < (n : Int) := by omega
  have i6 : 0 < n := by omega
  by_cases hX : x.InS t.data.toList
  · rw [decide_eq_true hX] at HCX
    by_cases h1 : n = 1
    · have HZ0 : Hid (z = true) := hid (by
        rw [HZ.out, inS_nokid (by omega)]
        exact ⟨hX, fun h => h⟩)
      rw [h1] at hn
      unfold Shp.val at *
      rw [← hn] at HOP ⊢
      clear hz hat ih ht hn HZ hkl h0 hx hX hkids h1 i0 i6
      go_enter Tryz.func24, Tryz.ntmps24
      go_wp2_with (first | (go_at_call 68; refine (HOP.out _).mono ?_; rintro e w2 ⟨rfl, hb1⟩; obtain ⟨⟨d0, d1, d2, d3, d4⟩, hb2, hlt2⟩ := boxd hb1; have HB2 := hid hb2; clear hb1 hb2 HOP; have HBOX := box_cells hlt2 d0 d1 d2 d3 d4; obtain ⟨x0, x1, x2, x3, x4⟩ := HKX.out _ HB2.out) | (go_at_call 24; refine (HCX.out _ HB2.out).mono ?_; rintro e w3 ⟨rfl, hb1⟩; have HB3 := hid (HB2.out.trans (hb1.mono HB2.out.size)); obtain ⟨f0, f1, f2, f3, f4⟩ := HBOX.out _ hb1; clear hb1 HCX))
      go_ret
      exact ⟨by rw [HZ0.out]; rfl, HB3.out⟩
    · have i1 : (1 : Int) < (n : Int) := by omega
      have i7 : 1 < n := by omega
      obtain ⟨g', o', y, D, cy, e', hy, -, haty, e0, e1, e2, e3, e4⟩ := hkids.at_ (k := 1) (by omega)
      obtain ⟨rfl, rfl⟩ : g = g' ∧ o = o' := by simpa using e'
      have HKY := kid_cells hg e0 e1 e2 e3 e4
      have HCY : Hid (∀ W, Below w.heap.size w W → Calls Tryz.prog 24 #[y.val D cy, .string t] W fun e w' => e = .returned (.bool (decide (y.InS t.data.toList))) ∧ Below W.heap.size W w') := fun W hW => ih y (List.mem_of_getElem? hy) t D cy W (haty.under hW) ht
      have HZ1 : Hid (z = !decide (y.InS t.data.toList)) := hid (by
        rw [Bool.eq_iff_iff, HZ.out, inS_kid1 hy]
        simp [hX])
      obtain ⟨v, hv⟩ : ∃ v, v = decide (y.InS t.data.toList) := ⟨_, rfl⟩
      rw [← hv] at HCY HZ1
      unfold Shp.val at *
      rw [← hn] at HOP ⊢
      clear hz hat ih ht hn HZ h0 hx hX hkids h1 e' e0 e1 e2 e3 e4 hv hy haty
      go_enter Tryz.func24, Tryz.ntmps24
      go_wp2_with (first | (go_at_call 68; refine (HOP.out _).mono ?_; rintro e w2 ⟨rfl, hb1⟩; obtain ⟨⟨d0, d1, d2, d3, d4⟩, hb2, hlt2⟩ := boxd hb1; have HB2 := hid hb2; clear hb1 hb2 HOP; have HBOX := box_cells hlt2 d0 d1 d2 d3 d4; obtain ⟨x0, x1, x2, x3, x4⟩ := HKX.out _ HB2.out) | ((go_at_call 24; refine (HCX.out _ HB2.out).mono ?_; rintro e w3 ⟨rfl, hb1⟩; have HB3 := hid (HB2.out.trans (hb1.mono HB2.out.size)); obtain ⟨f0, f1, f2, f3, f4⟩ := HBOX.out _ hb1; clear hb1 HCX); obtain ⟨y0, y1, y2, y3, y4⟩ := HKY.out _ HB3.out) | (go_at_call 24; refine (HCY.out _ HB3.out).mono ?_; rintro e w4 ⟨rfl, hb1⟩; have HB4 := hid (HB3.out.trans (hb1.mono HB3.out.size)); clear hb1))
      go_ret
      exact ⟨by rw [HZ1.out]; rfl, HB4.out⟩
  · rw [decide_eq_false hX] at HCX
    have HZ0 : Hid (z = false) := hid (by
      rw [← Bool.not_eq_true, HZ.out]
      exact fun h => hX h.1)
    unfold Shp.val at *
    rw [← hn] at HOP ⊢
    clear hz hat ih ht hn HZ h0 hx hX hkids
    go_enter Tryz.func24, Tryz.ntmps24
    go_wp2_with (first | (go_at_call 68; refine (HOP.out _).mono ?_; rintro e w2 ⟨rfl, hb1⟩; obtain ⟨⟨d0, d1, d2, d3, d4⟩, hb2, hlt2⟩ := boxd hb1; have HB2 := hid hb2; clear hb1 hb2 HOP; have HBOX := box_cells hlt2 d0 d1 d2 d3 d4; obtain ⟨x0, x1, x2, x3, x4⟩ := HKX.out _ HB2.out) | (go_at_call 24; refine (HCX.out _ HB2.out).mono ?_; rintro e w3 ⟨rfl, hb1⟩; have HB3 := hid (HB2.out.trans (hb1.mono HB2.out.size)); obtain ⟨f0, f1, f2, f3, f4⟩ := HBOX.out _ hb1; clear hb1 HCX))
    go_ret
    exact ⟨by rw [HZ0.out]; rfl, HB3.out⟩
end Go.Proofs.YtfpfloahkibcgaaGreatDoor

/- The walk of Shape.In: a star; the contract of all. -/
namespace Go.Proofs.YtfpfloahkibcgaaGreatDoor
open Go.RowKit

open Classical in
set_option maxRecDepth 100000 in
set_option maxHeartbeats 4000000 in
theorem in_5 (s : Shp) (hc : s.code = 5) (ih : ∀ k ∈ s.kids, InFn k) : InFn s := by
  intro t
  obtain ⟨N, hN⟩ : ∃ N, N = t.size := ⟨_, rfl⟩
  induction N using Nat.strongRecOn generalizing t with
  | ind N ihN =>
    intro A c w hat ht
    have HOP := op_code s 5 hc A c hat.open_.1
    obtain ⟨z, hz⟩ : ∃ z, z = decide (s.InS t.data.toList) := ⟨_, rfl⟩
    rw [← hz]
    have HIS : ∀ u, s.InS u ↔ StarP ((s.kids.map Shp.InS).getD 0 NoP) u := inS_code s 5 hc
    have HZ : Hid (z = true ↔ StarP ((s.kids.map Shp.InS).getD 0 NoP) t.data.toList) := hid (by rw [hz, decide_eq_true_iff]; exact HIS _)
    have hkids := hat.open_.2.2
    have hkl := hat.open_.1.2.2.2.2
    have HREC := hid (fun (t' : ByteArray) (hlt : t'.size < t.size) (W : World) (hW : Below w.heap.size w W) => ihN t'.size (by omega) t' rfl A c W (hat.under hW) (by omega))
    obtain ⟨n, hn⟩ : ∃ n, n = s.kids.length := ⟨_, rfl⟩
    by_cases he : t.size = 0
    · have e0 : t.toList = [] := by
        rw [ByteArray.toList_eq]
        exact List.eq_nil_of_length_eq_zero (by simpa using he)
      have HZ1 : Hid (z = true) := hid (HZ.out.2 (by rw [← ByteArray.toList_eq, e0]; exact .nil))
      have e1 : t.toList.isEmpty = true := by rw [e0]; rfl
      clear he e0 hz HZ HIS hat hkids hkl HREC hn hN ih ihN
      unfold Shp.val at *
      go_enter Tryz.func24, Tryz.ntmps24
      go_wp2_with (go_at_call 68; refine (HOP.out _).mono ?_; rintro e w2 ⟨rfl, hb1⟩; obtain ⟨⟨d0, d1, d2, d3, d4⟩, hb2, hlt2⟩ := boxd hb1; have HB2 := hid hb2; clear hb1 hb2 HOP)
      go_ret
      exact ⟨by rw [HZ1.out]; rfl, HB2.out⟩
    have e1 : t.toList.isEmpty = false := by
      rw [ByteArray.toList_eq]
      cases hq : t.data.toList with
      | nil => exact absurd (by simpa using congrArg List.length hq) he
      | cons _ _ => rfl
    have hpos : 1 ≤ t.size := by omega
    have HNE : Hid (t.data.toList ≠ []) := fun e => he (by simpa using congrArg List.length e)
    clear he hN ihN
    by_cases h0 : n = 0
    · have HZ0 : Hid (z = false) := hid (by
        rw [← Bool.not_eq_true, HZ.out, inS_nokid (by omega), starP_cut]
        rintro (h | ⟨i, h1, h2, h3, h4⟩)
        · exact HNE.out h
        · exact h3)
      rw [h0] at hn
      clear hz HZ HIS hat hkids hkl HREC ih h0
      unfold Shp.val at *
      rw [← hn] at HOP ⊢
      clear hn
      go_enter Tryz.func24, Tryz.ntmps24
      go_wp2_with (go_at_call 68; refine (HOP.out _).mono ?_; rintro e w2 ⟨rfl, hb1⟩; obtain ⟨⟨d0, d1, d2, d3, d4⟩, hb2, hlt2⟩ := boxd hb1; have HB2 := hid hb2; clear hb1 hb2 HOP)
      go_ret
      exact ⟨by rw [HZ0.out]; rfl, HB2.out⟩
    obtain ⟨g, o, x, B, cx, rfl, hx, hg, hatx, e0, e2, e3, e4, e5⟩ := hkids.at_ (k := 0) (by omega)
    simp only [Nat.zero_mul, Nat.add_zero] at e0 e2 e3 e4 e5
    have HKX := kid_cells hg e0 e2 e3 e4 e5
    have HCX : Hid (∀ (u : ByteArray), u.size ≤ 1000000 → ∀ W, Below w.heap.size w W → Calls Tryz.prog 24 #[x.val B cx, .string u] W fun e w' => e = .returned (.bool (decide (x.InS u.data.toList))) ∧ Below W.heap.size W w') := fun u hu W hW => ih x (List.mem_of_getElem? hx) u B cx W (hatx.under hW) hu
    rw [inS_kid0 hx] at HZ HIS
    have HISH : Hid (∀ u, s.InS u ↔ StarP x.InS u) := hid HIS
    have i0 : (0 : Int) < (n : Int) := by omega
    have i6 : 0 < n := by omega
    have hn0 : ((n : Int) == 0) = false := by simp; omega
    clear e0 e2 e3 e4 e5 hatx hz HIS hat hkids ih h0 hx
    unfold Shp.val at *
    rw [← hn] at HOP HREC ⊢
    clear hn
    go_enter Tryz.func24, Tryz.ntmps24
    go_wp2_with (go_at_call 68; refine (HOP.out _).mono ?_; rintro e w2 ⟨rfl, hb1⟩; obtain ⟨⟨d0, d1, d2, d3, d4⟩, hb2, hlt2⟩ := boxd hb1; have HB2 := hid hb2; clear hb1 hb2 HOP; have HBOX := box_cells hlt2 d0 d1 d2 d3 d4)
    go_loopw [9] (fun i wr => ∃ k : Nat, 1 ≤ k ∧ k ≤ t.size + 1 ∧ i = .int .i64 k ∧ Hid (∀ j, 1 ≤ j → j < k → ¬ (x.InS (t.data.toList.take j) ∧ StarP x.InS (t.data.toList.drop j))) ∧ Hid (Below w2.heap.size w2 wr)) (fun i _ => t.size + 1 - (intOf i).toNat)
    case atStart => exact ⟨1, Nat.le_refl _, by omega, rfl, fun j hj => by omega, Below.refl _ _⟩
    case round =>
      obtain ⟨k, hk1, hk, rfl, hall, hbel⟩ := hrel
      by_cases hlt : k ≤ t.size
      · have i3 : (0 : Int) ≤ (k : Int) := by omega
        have i4 : (k : Int) ≤ (t.size : Int) := by omega
        have HC1 : Hid (∀ W, Below wr.heap.size wr W → Calls Tryz.prog 24 #[.agg #[.int .i64 x.op, .int .u8 x.low, .int .u8 x.high, .string x.text, .slice B x.kids.length cx], .string (t.extract 0 k)] W fun e w' => e = .returned (.bool (decide (x.InS (t.data.toList.take k)))) ∧ Below W.heap.size W w') := fun W hW => by
          have := HCX.out (t.extract 0 k) (by rw [ByteArray.size_extract]; omega) W (HB2.out.trans ((hbel.out.trans (hW.mono hbel.out.size)).mono HB2.out.size))
          rw [take_txt] at this
          exact this
        obtain ⟨b0, b1, b2, b3, b4⟩ := HBOX.out _ (hbel.out); obtain ⟨q0, q1, q2, q3, q4⟩ := HKX.out _ (HB2.out.trans ((hbel.out).mono HB2.out.size))
        by_cases h1 : x.InS (t.data.toList.take k)
        · rw [decide_eq_true h1] at HC1
          have HC2 : Hid (∀ W, Below wr.heap.size wr W → Calls Tryz.prog 24 #[.agg #[.int .i64 s.op, .int .u8 s.low, .int .u8 s.high, .string s.text, .slice (some ⟨g, o, none⟩) n c], .string (t.extract k t.size)] W fun e w' => e = .returned (.bool (decide (s.InS (t.data.toList.drop k)))) ∧ Below W.heap.size W w') := fun W hW => by
            have := HREC.out (t.extract k t.size) (by rw [ByteArray.size_extract]; omega) W (HB2.out.trans ((hbel.out.trans (hW.mono hbel.out.size)).mono HB2.out.size))
            rw [drop_txt] at this
            exact this
          by_cases h2 : s.InS (t.data.toList.drop k)
          · rw [decide_eq_true h2] at HC2
            have HZ1 : Hid (z = true) := hid (HZ.out.2 ((starP_cut _ _).2 (.inr ⟨k, hk1, by simpa using hlt, h1, (HISH.out _).1 h2⟩)))
            clear h1 h2
            go_wp2_with fail
            go_region_held3 (fun w' => w'.cell? ⟨w.heap.size, 0, none⟩ = some (.int .i64 s.op) ∧ w'.cell? ⟨w.heap.size, 1, none⟩ = some (.int .u8 s.low) ∧ w'.cell? ⟨w.heap.size, 2, none⟩ = some (.int .u8 s.high) ∧ w'.cell? ⟨w.heap.size, 3, none⟩ = some (.string s.text) ∧ w'.cell? ⟨w.heap.size, 4, none⟩ = some (.slice (some ⟨g, o, none⟩) n c) ∧ w'.cell? ⟨g, o, none⟩ = some (.int .i64 x.op) ∧ w'.cell? ⟨g, o + 1, none⟩ = some (.int .u8 x.low) ∧ w'.cell? ⟨g, o + 2, none⟩ = some (.int .u8 x.high) ∧ w'.cell? ⟨g, o + 3, none⟩ = some (.string x.text) ∧ w'.cell? ⟨g, o + 4, none⟩ = some (.slice B x.kids.length cx)) (first | exact ⟨b0, b1, b2, b3, b4, q0, q1, q2, q3, q4⟩ | go_keep)
          (first | (go_at_call 24; refine (HC1.out _ (by first | exact Below.refl _ _ | exact (Below.refl _ _).drew)).mono ?_; rintro e w3 ⟨rfl, hb1⟩; (first | (have hb1 := undrew hb1) | skip); have HB3 := hid hb1; obtain ⟨b0, b1, b2, b3, b4⟩ := HBOX.out _ (hbel.out.trans (HB3.out.mono hbel.out.size)); obtain ⟨q0, q1, q2, q3, q4⟩ := HKX.out _ (HB2.out.trans ((hbel.out.trans (HB3.out.mono hbel.out.size)).mono HB2.out.size)); clear hb1 HC1) | (go_at_call 24; refine (HC2.out _ (by first | exact HB3.out | exact HB3.out.drew)).mono ?_; rintro e w4 ⟨rfl, hb1⟩; (first | (have hb1 := undrew hb1) | skip); have HB4 := hid (HB3.out.trans (hb1.mono HB3.out.size)); obtain ⟨b0, b1, b2, b3, b4⟩ := HBOX.out _ (hbel.out.trans (HB4.out.mono hbel.out.size)); obtain ⟨q0, q1, q2, q3, q4⟩ := HKX.out _ (HB2.out.trans ((hbel.out.trans (HB4.out.mono hbel.out.size)).mono HB2.out.size)); clear hb1))
            all_goals
              go_wp2_with fail
              go_ret
              exact ⟨by rw [HZ1.out]; rfl, HB2.out.trans ((hbel.out.trans (HB4.out.mono hbel.out.size)).mono HB2.out.size)⟩
          · rw [decide_eq_false h2] at HC2
            have HALL : Hid (∀ j, 1 ≤ j → j < k + 1 → ¬ (x.InS (t.data.toList.take j) ∧ StarP x.InS (t.data.toList.drop j))) := fun j hj1 hj => by
              rcases Nat.lt_or_ge j k with h | h
              · exact hall.out j hj1 h
              · obtain rfl : j = k := by omega
                exact fun h => h2 ((HISH.out _).2 h.2)
            clear h1 h2
            go_wp2_with fail
            go_region_held3 (fun w' => w'.cell? ⟨w.heap.size, 0, none⟩ = some (.int .i64 s.op) ∧ w'.cell? ⟨w.heap.size, 1, none⟩ = some (.int .u8 s.low) ∧ w'.cell? ⟨w.heap.size, 2, none⟩ = some (.int .u8 s.high) ∧ w'.cell? ⟨w.heap.size, 3, none⟩ = some (.string s.text) ∧ w'.cell? ⟨w.heap.size, 4, none⟩ = some (.slice (some ⟨g, o, none⟩) n c) ∧ w'.cell? ⟨g, o, none⟩ = some (.int .i64 x.op) ∧ w'.cell? ⟨g, o + 1, none⟩ = some (.int .u8 x.low) ∧ w'.cell? ⟨g, o + 2, none⟩ = some (.int .u8 x.high) ∧ w'.cell? ⟨g, o + 3, none⟩ = some (.string x.text) ∧ w'.cell? ⟨g, o + 4, none⟩ = some (.slice B x.kids.length cx)) (first | exact ⟨b0, b1, b2, b3, b4, q0, q1, q2, q3, q4⟩ | go_keep)
          (first | (go_at_call 24; refine (HC1.out _ (by first | exact Below.refl _ _ | exact (Below.refl _ _).drew)).mono ?_; rintro e w3 ⟨rfl, hb1⟩; (first | (have hb1 := undrew hb1) | skip); have HB3 := hid hb1; obtain ⟨b0, b1, b2, b3, b4⟩ := HBOX.out _ (hbel.out.trans (HB3.out.mono hbel.out.size)); obtain ⟨q0, q1, q2, q3, q4⟩ := HKX.out _ (HB2.out.trans ((hbel.out.trans (HB3.out.mono hbel.out.size)).mono HB2.out.size)); clear hb1 HC1) | (go_at_call 24; refine (HC2.out _ (by first | exact HB3.out | exact HB3.out.drew)).mono ?_; rintro e w4 ⟨rfl, hb1⟩; (first | (have hb1 := undrew hb1) | skip); have HB4 := hid (HB3.out.trans (hb1.mono HB3.out.size)); obtain ⟨b0, b1, b2, b3, b4⟩ := HBOX.out _ (hbel.out.trans (HB4.out.mono hbel.out.size)); obtain ⟨q0, q1, q2, q3, q4⟩ := HKX.out _ (HB2.out.trans ((hbel.out.trans (HB4.out.mono hbel.out.size)).mono HB2.out.size)); clear hb1))
            all_goals
              go_wp2_with fail
              go_roundw
              case rel => exact ⟨k + 1, by omega, by omega, by go_num, HALL.out, hbel.out.trans (HB4.out.mono hbel.out.size)⟩
              case measure => simp [intOf]; omega
        · rw [decide_eq_false h1] at HC1
          have HALL : Hid (∀ j, 1 ≤ j → j < k + 1 → ¬ (x.InS (t.data.toList.take j) ∧ StarP x.InS (t.data.toList.drop j))) := fun j hj1 hj => by
            rcases Nat.lt_or_ge j k with h | h
            · exact hall.out j hj1 h
            · obtain rfl : j = k := by omega
              exact fun h => h1 h.1
          clear h1
          go_wp2_with fail
          first | (go_region_with (first | (go_at_call 24; refine (HC1.out _ (by first | exact Below.refl _ _ | exact (Below.refl _ _).drew)).mono ?_; rintro e w3 ⟨rfl, hb1⟩; (first | (have hb1 := undrew hb1) | skip); have HB3 := hid hb1; obtain ⟨b0, b1, b2, b3, b4⟩ := HBOX.out _ (hbel.out.trans (HB3.out.mono hbel.out.size)); obtain ⟨q0, q1, q2, q3, q4⟩ := HKX.out _ (HB2.out.trans ((hbel.out.trans (HB3.out.mono hbel.out.size)).mono HB2.out.size)); clear hb1 HC1))) | fail
          all_goals
            go_wp2_with fail
            go_roundw
            case rel => exact ⟨k + 1, by omega, by omega, by go_num, HALL.out, hbel.out.trans (HB3.out.mono hbel.out.size)⟩
            case measure => simp [intOf]; omega
      · have HZ0 : Hid (z = false) := hid (by
          rw [← Bool.not_eq_true, HZ.out, starP_cut]
          rintro (h | ⟨j, h1, h2, h3, h4⟩)
          · exact HNE.out h
          · exact hall.out j h1 (by simp at h2; omega) ⟨h3, h4⟩)
        go_wp2_with fail
        go_ret
        exact ⟨by rw [HZ0.out]; rfl, HB2.out.trans (hbel.out.mono HB2.out.size)⟩
/-- IN: whatever the shape. -/
theorem in_any (s : Shp) : InFn s := by
  induction s using Shp.ind_ with
  | h s ih =>
    have h := code_lt s
    rcases (by omega : s.code = 0 ∨ s.code = 1 ∨ s.code = 2 ∨ s.code = 3 ∨ s.code = 4 ∨ s.code = 5 ∨ s.code = 6 ∨ s.code = 7 ∨ s.code = 8) with h | h | h | h | h | h | h | h | h
    · exact in_0 s h
    · exact in_1 s h
    · exact in_2 s h
    · exact in_3 s h ih
    · exact in_4 s h ih
    · exact in_5 s h ih
    · exact in_6 s h ih
    · exact in_7 s h ih
    · exact in_8 s h
end Go.Proofs.YtfpfloahkibcgaaGreatDoor
