/- The walk of law 07's least at the three functions that AutoPairs hands it. -/
import Derived.Test.YtaplejpjmaocdaaGreatDoorPkT
namespace Go.Proofs.YtaplejpjmaocdaaGreatDoor
open Go.RowKit Go.Maps

open Classical in
set_option maxRecDepth 100000 in
set_option maxHeartbeats 4000000 in
theorem leastP1_any (P : Txt → Prop) (hPL : ∀ t, P t → AllL t) (x : ByteArray) (ok : Bool) (hx8 : x.size ≤ 1000000) (hw : Wit P x ok) (p1 p2 : Value) (w : World)
    (HP : ∀ (W : World) (t : ByteArray), Below w.heap.size w W → t.size ≤ 1000000 → Calls Tryz.prog 38 #[.string t, p1, p2] W fun e w' => e = .returned (.bool (decide (P t.data.toList))) ∧ Below W.heap.size W w') :
    Calls Tryz.prog 34 #[.string x, .bool ok, .func (Fn.func 38) #[] #[p1, p2]] w fun e w' => e = .returned (.bool true) ∧ Below w.heap.size w w' := by
  have HTX := hid (fun W => texts_any 4 (Nat.le_refl _) W)
  obtain ⟨T, hT⟩ : ∃ T, T = textsT 4 := ⟨_, rfl⟩
  have hTl : T.length = 341 := by rw [hT]; decide
  rw [← hT] at HTX
  have HT := hid hT
  have HTL := hid hTl
  rw [hTl] at HTX
  have HW := hid hw
  have HPL := hid hPL
  clear hT hTl hw hPL
  have HPW := hid HP
  clear HP
  have HNOW : Hid (Below w.heap.size w w) := Below.refl _ _
  cases ok
  · have hno := (HW.out.no rfl).2
    have HNO := hid hno
    have HPN : Hid (∀ (W : World) (t : ByteArray), Below w.heap.size w W → t.size ≤ 1000000 → Calls Tryz.prog 38 #[.string t, p1, p2] W fun e w' => e = .returned (.bool false) ∧ Below W.heap.size W w') := hid (fun W t hW ht => by
      have := HPW.out W t hW ht
      rw [decide_eq_false (hno _)] at this
      exact this)
    clear hno
    go_enter Tryz.func34, Tryz.ntmps34
    go_wp2_with (first | (go_at_call 74; refine (HTX.out _).mono ?_; rintro e w3 ⟨A3, c3, rfl, h3, hb1⟩; have HR3 := hid h3; (first | (have hb1 := undrew hb1) | skip); have HNOW := hid (HNOW.out.trans (hb1.mono HNOW.out.size)); clear h3 hb1))
    go_loopw [18] (fun iv wr => ∃ k : Nat, k ≤ 341 ∧ iv = .int .i64 k ∧ Hid (Below w3.heap.size w3 wr)) (fun iv _ => 341 - (intOf iv).toNat)
    case atStart => exact ⟨0, Nat.zero_le _, rfl, Below.refl _ _⟩
    case round =>
      obtain ⟨k, hk, rfl, hbel⟩ := hrel
      have HN3 := HNOW
      have HNOW := hid (HN3.out.trans (hbel.out.mono HN3.out.size))
      by_cases hlt : k < 341
      · obtain ⟨g, o, rfl, hg, hc⟩ := HR3.out.2 (by omega)
        obtain ⟨t, ht⟩ : ∃ t, T[k]? = some t := ⟨_, List.getElem?_eq_getElem (by rw [HTL.out]; exact hlt)⟩
        have x1 := (hbel.out.cell (p := ⟨g, o + k, none⟩) hg).trans (hc k (.string ⟨t.toArray⟩) (by unfold strs; rw [List.getElem?_map, ht]; rfl))
        have htl : (ByteArray.mk t.toArray).size ≤ 1000000 := by
          have := texts_len 4 t (by rw [← HT.out]; exact List.mem_of_getElem? ht)
          simp only [ByteArray.size, List.size_toArray]
          omega
        have HPT := hid (fun W hW => HPN.out W ⟨t.toArray⟩ hW htl)
        have HNQ : Hid (Below wr.heap.size wr wr) := Below.refl _ _
        clear hc ht
        go_wp2_with (go_at_call 38; refine (HPT.out _ HNOW.out).mono ?_; rintro e w9 ⟨rfl, hb1⟩; have HN9 := hid (hbel.out.trans (hb1.mono hbel.out.size)); clear hb1)
        go_roundw
        case rel => exact ⟨k + 1, by omega, by go_num, HN9.out⟩
        case measure => simp [intOf]; omega
      · go_wp2_with fail
        go_ret
        exact ⟨rfl, HNOW.out⟩
  · obtain ⟨hxp, hxl⟩ := HW.out.yes rfl
    have HXP := hid hxp
    have HXL := hid hxl
    have HXA := hid (HPL.out _ hxp)
    have HPX : Hid (∀ (W : World), Below w.heap.size w W → Calls Tryz.prog 38 #[.string x, p1, p2] W fun e w' => e = .returned (.bool true) ∧ Below W.heap.size W w') := hid (fun W hW => by
      have := HPW.out W x hW hx8
      rw [decide_eq_true hxp] at this
      exact this)
    clear hxp hxl
    go_enter Tryz.func34, Tryz.ntmps34
    go_wp2_with (first | (go_at_call 38; refine (HPX.out _ HNOW.out).mono ?_; rintro e w2 ⟨rfl, hb1⟩; have HNOW := hid (HNOW.out.trans (hb1.mono HNOW.out.size)); clear hb1) | (go_at_call 74; refine (HTX.out _).mono ?_; rintro e w3 ⟨A3, c3, rfl, h3, hb1⟩; have HR3 := hid h3; (first | (have hb1 := undrew hb1) | skip); have HNOW := hid (HNOW.out.trans (hb1.mono HNOW.out.size)); clear h3 hb1))
    go_loopw [18] (fun iv wr => ∃ k : Nat, k ≤ 341 ∧ iv = .int .i64 k ∧ Hid (∀ u ∈ T.take k, ¬ P u) ∧ Hid (Below w3.heap.size w3 wr)) (fun iv _ => 341 - (intOf iv).toNat)
    case atStart => exact ⟨0, Nat.zero_le _, rfl, fun u hu => by simp at hu, Below.refl _ _⟩
    case round =>
      obtain ⟨k, hk, rfl, hnk, hbel⟩ := hrel
      have HN3 := HNOW
      have HNOW := hid (HN3.out.trans (hbel.out.mono HN3.out.size))
      by_cases hlt : k < 341
      · obtain ⟨g, o, rfl, hg, hc⟩ := HR3.out.2 (by omega)
        obtain ⟨t, ht⟩ : ∃ t, T[k]? = some t := ⟨_, List.getElem?_eq_getElem (by rw [HTL.out]; exact hlt)⟩
        have x1 := (hbel.out.cell (p := ⟨g, o + k, none⟩) hg).trans (hc k (.string ⟨t.toArray⟩) (by unfold strs; rw [List.getElem?_map, ht]; rfl))
        have htl : (ByteArray.mk t.toArray).size ≤ 1000000 := by
          have := texts_len 4 t (by rw [← HT.out]; exact List.mem_of_getElem? ht)
          simp only [ByteArray.size, List.size_toArray]
          omega
        have HPT := hid (fun W hW => HPW.out W ⟨t.toArray⟩ hW htl)
        by_cases hp : P t
        · have hxt : x = ⟨t.toArray⟩ := by
            have := first_is HXP.out HXL.out HXA.out (by rw [← HT.out]; exact ht) hp (by rw [← HT.out]; exact hnk.out)
            rw [← this]
          have hd : decide (P (ByteArray.mk t.toArray).data.toList) = true := decide_eq_true hp
          rw [hd] at HPT
          rw [← hxt] at HPT x1
          clear hc ht hp hd hxt htl
          go_wp2_with (go_at_call 38; refine (HPT.out _ HNOW.out).mono ?_; rintro e w9 ⟨rfl, hb1⟩; have HN9 := hid (HNOW.out.trans (hb1.mono HNOW.out.size)); clear hb1)
          go_ret
          exact ⟨by simp, HN9.out⟩
        · have HTK : Hid (∀ u ∈ T.take (k + 1), ¬ P u) := hid (fun u hu => by
            rw [List.take_add_one, ht] at hu
            rcases List.mem_append.1 hu with hu | hu
            · exact hnk.out u hu
            · have : u = t := by simpa using hu
              rw [this]; exact hp)
          have hd : decide (P (ByteArray.mk t.toArray).data.toList) = false := decide_eq_false hp
          rw [hd] at HPT
          clear hc ht hp hd
          go_wp2_with (go_at_call 38; refine (HPT.out _ HNOW.out).mono ?_; rintro e w9 ⟨rfl, hb1⟩; have HN9 := hid (hbel.out.trans (hb1.mono hbel.out.size)); clear hb1)
          go_roundw
          case rel => exact ⟨k + 1, by omega, by go_num, HTK.out, HN9.out⟩
          case measure => simp [intOf]; omega
      · have hk341 : k = 341 := by omega
        have h4 : (4 : Int) < (x.size : Int) := by
          have h := hnk.out
          rw [List.take_of_length_le (by rw [HTL.out]; omega), HT.out] at h
          have := none_is HXP.out HXA.out h
          have : 4 < x.size := by simpa using this
          omega
        go_wp2_with fail
        go_ret
        exact ⟨by simp, HNOW.out⟩
open Classical in
set_option maxRecDepth 100000 in
set_option maxHeartbeats 4000000 in
theorem leastP2_any (P : Txt → Prop) (hPL : ∀ t, P t → AllL t) (x : ByteArray) (ok : Bool) (hx8 : x.size ≤ 1000000) (hw : Wit P x ok) (p1 p2 : Value) (w : World)
    (HP : ∀ (W : World) (t : ByteArray), Below w.heap.size w W → t.size ≤ 1000000 → Calls Tryz.prog 39 #[.string t, p1, p2] W fun e w' => e = .returned (.bool (decide (P t.data.toList))) ∧ Below W.heap.size W w') :
    Calls Tryz.prog 34 #[.string x, .bool ok, .func (Fn.func 39) #[] #[p1, p2]] w fun e w' => e = .returned (.bool true) ∧ Below w.heap.size w w' := by
  have HTX := hid (fun W => texts_any 4 (Nat.le_refl _) W)
  obtain ⟨T, hT⟩ : ∃ T, T = textsT 4 := ⟨_, rfl⟩
  have hTl : T.length = 341 := by rw [hT]; decide
  rw [← hT] at HTX
  have HT := hid hT
  have HTL := hid hTl
  rw [hTl] at HTX
  have HW := hid hw
  have HPL := hid hPL
  clear hT hTl hw hPL
  have HPW := hid HP
  clear HP
  have HNOW : Hid (Below w.heap.size w w) := Below.refl _ _
  cases ok
  · have hno := (HW.out.no rfl).2
    have HNO := hid hno
    have HPN : Hid (∀ (W : World) (t : ByteArray), Below w.heap.size w W → t.size ≤ 1000000 → Calls Tryz.prog 39 #[.string t, p1, p2] W fun e w' => e = .returned (.bool false) ∧ Below W.heap.size W w') := hid (fun W t hW ht => by
      have := HPW.out W t hW ht
      rw [decide_eq_false (hno _)] at this
      exact this)
    clear hno
    go_enter Tryz.func34, Tryz.ntmps34
    go_wp2_with (first | (go_at_call 74; refine (HTX.out _).mono ?_; rintro e w3 ⟨A3, c3, rfl, h3, hb1⟩; have HR3 := hid h3; (first | (have hb1 := undrew hb1) | skip); have HNOW := hid (HNOW.out.trans (hb1.mono HNOW.out.size)); clear h3 hb1))
    go_loopw [18] (fun iv wr => ∃ k : Nat, k ≤ 341 ∧ iv = .int .i64 k ∧ Hid (Below w3.heap.size w3 wr)) (fun iv _ => 341 - (intOf iv).toNat)
    case atStart => exact ⟨0, Nat.zero_le _, rfl, Below.refl _ _⟩
    case round =>
      obtain ⟨k, hk, rfl, hbel⟩ := hrel
      have HN3 := HNOW
      have HNOW := hid (HN3.out.trans (hbel.out.mono HN3.out.size))
      by_cases hlt : k < 341
      · obtain ⟨g, o, rfl, hg, hc⟩ := HR3.out.2 (by omega)
        obtain ⟨t, ht⟩ : ∃ t, T[k]? = some t := ⟨_, List.getElem?_eq_getElem (by rw [HTL.out]; exact hlt)⟩
        have x1 := (hbel.out.cell (p := ⟨g, o + k, none⟩) hg).trans (hc k (.string ⟨t.toArray⟩) (by unfold strs; rw [List.getElem?_map, ht]; rfl))
        have htl : (ByteArray.mk t.toArray).size ≤ 1000000 := by
          have := texts_len 4 t (by rw [← HT.out]; exact List.mem_of_getElem? ht)
          simp only [ByteArray.size, List.size_toArray]
          omega
        have HPT := hid (fun W hW => HPN.out W ⟨t.toArray⟩ hW htl)
        have HNQ : Hid (Below wr.heap.size wr wr) := Below.refl _ _
        clear hc ht
        go_wp2_with (go_at_call 39; refine (HPT.out _ HNOW.out).mono ?_; rintro e w9 ⟨rfl, hb1⟩; have HN9 := hid (hbel.out.trans (hb1.mono hbel.out.size)); clear hb1)
        go_roundw
        case rel => exact ⟨k + 1, by omega, by go_num, HN9.out⟩
        case measure => simp [intOf]; omega
      · go_wp2_with fail
        go_ret
        exact ⟨rfl, HNOW.out⟩
  · obtain ⟨hxp, hxl⟩ := HW.out.yes rfl
    have HXP := hid hxp
    have HXL := hid hxl
    have HXA := hid (HPL.out _ hxp)
    have HPX : Hid (∀ (W : World), Below w.heap.size w W → Calls Tryz.prog 39 #[.string x, p1, p2] W fun e w' => e = .returned (.bool true) ∧ Below W.heap.size W w') := hid (fun W hW => by
      have := HPW.out W x hW hx8
      rw [decide_eq_true hxp] at this
      exact this)
    clear hxp hxl
    go_enter Tryz.func34, Tryz.ntmps34
    go_wp2_with (first | (go_at_call 39; refine (HPX.out _ HNOW.out).mono ?_; rintro e w2 ⟨rfl, hb1⟩; have HNOW := hid (HNOW.out.trans (hb1.mono HNOW.out.size)); clear hb1) | (go_at_call 74; refine (HTX.out _).mono ?_; rintro e w3 ⟨A3, c3, rfl, h3, hb1⟩; have HR3 := hid h3; (first | (have hb1 := undrew hb1) | skip); have HNOW := hid (HNOW.out.trans (hb1.mono HNOW.out.size)); clear h3 hb1))
    go_loopw [18] (fun iv wr => ∃ k : Nat, k ≤ 341 ∧ iv = .int .i64 k ∧ Hid (∀ u ∈ T.take k, ¬ P u) ∧ Hid (Below w3.heap.size w3 wr)) (fun iv _ => 341 - (intOf iv).toNat)
    case atStart => exact ⟨0, Nat.zero_le _, rfl, fun u hu => by simp at hu, Below.refl _ _⟩
    case round =>
      obtain ⟨k, hk, rfl, hnk, hbel⟩ := hrel
      have HN3 := HNOW
      have HNOW := hid (HN3.out.trans (hbel.out.mono HN3.out.size))
      by_cases hlt : k < 341
      · obtain ⟨g, o, rfl, hg, hc⟩ := HR3.out.2 (by omega)
        obtain ⟨t, ht⟩ : ∃ t, T[k]? = some t := ⟨_, List.getElem?_eq_getElem (by rw [HTL.out]; exact hlt)⟩
        have x1 := (hbel.out.cell (p := ⟨g, o + k, none⟩) hg).trans (hc k (.string ⟨t.toArray⟩) (by unfold strs; rw [List.getElem?_map, ht]; rfl))
        have htl : (ByteArray.mk t.toArray).size ≤ 1000000 := by
          have := texts_len 4 t (by rw [← HT.out]; exact List.mem_of_getElem? ht)
          simp only [ByteArray.size, List.size_toArray]
          omega
        have HPT := hid (fun W hW => HPW.out W ⟨t.toArray⟩ hW htl)
        by_cases hp : P t
        · have hxt : x = ⟨t.toArray⟩ := by
            have := first_is HXP.out HXL.out HXA.out (by rw [← HT.out]; exact ht) hp (by rw [← HT.out]; exact hnk.out)
            rw [← this]
          have hd : decide (P (ByteArray.mk t.toArray).data.toList) = true := decide_eq_true hp
          rw [hd] at HPT
          rw [← hxt] at HPT x1
          clear hc ht hp hd hxt htl
          go_wp2_with (go_at_call 39; refine (HPT.out _ HNOW.out).mono ?_; rintro e w9 ⟨rfl, hb1⟩; have HN9 := hid (HNOW.out.trans (hb1.mono HNOW.out.size)); clear hb1)
          go_ret
          exact ⟨by simp, HN9.out⟩
        · have HTK : Hid (∀ u ∈ T.take (k + 1), ¬ P u) := hid (fun u hu => by
            rw [List.take_add_one, ht] at hu
            rcases List.mem_append.1 hu with hu | hu
            · exact hnk.out u hu
            · have : u = t := by simpa using hu
              rw [this]; exact hp)
          have hd : decide (P (ByteArray.mk t.toArray).data.toList) = false := decide_eq_false hp
          rw [hd] at HPT
          clear hc ht hp hd
          go_wp2_with (go_at_call 39; refine (HPT.out _ HNOW.out).mono ?_; rintro e w9 ⟨rfl, hb1⟩; have HN9 := hid (hbel.out.trans (hb1.mono hbel.out.size)); clear hb1)
          go_roundw
          case rel => exact ⟨k + 1, by omega, by go_num, HTK.out, HN9.out⟩
          case measure => simp [intOf]; omega
      · have hk341 : k = 341 := by omega
        have h4 : (4 : Int) < (x.size : Int) := by
          have h := hnk.out
          rw [List.take_of_length_le (by rw [HTL.out]; omega), HT.out] at h
          have := none_is HXP.out HXA.out h
          have : 4 < x.size := by simpa using this
          omega
        go_wp2_with fail
        go_ret
        exact ⟨by simp, HNOW.out⟩
open Classical in
set_option maxRecDepth 100000 in
set_option maxHeartbeats 4000000 in
theorem leastP3_any (P : Txt → Prop) (hPL : ∀ t, P t → AllL t) (x : ByteArray) (ok : Bool) (hx8 : x.size ≤ 1000000) (hw : Wit P x ok) (p1 p2 : Value) (w : World)
    (HP : ∀ (W : World) (t : ByteArray), Below w.heap.size w W → t.size ≤ 1000000 → Calls Tryz.prog 40 #[.string t, p1, p2] W fun e w' => e = .returned (.bool (decide (P t.data.toList))) ∧ Below W.heap.size W w') :
    Calls Tryz.prog 34 #[.string x, .bool ok, .func (Fn.func 40) #[] #[p1, p2]] w fun e w' => e = .returned (.bool true) ∧ Below w.heap.size w w' := by
  have HTX := hid (fun W => texts_any 4 (Nat.le_refl _) W)
  obtain ⟨T, hT⟩ : ∃ T, T = textsT 4 := ⟨_, rfl⟩
  have hTl : T.length = 341 := by rw [hT]; decide
  rw [← hT] at HTX
  have HT := hid hT
  have HTL := hid hTl
  rw [hTl] at HTX
  have HW := hid hw
  have HPL := hid hPL
  clear hT hTl hw hPL
  have HPW := hid HP
  clear HP
  have HNOW : Hid (Below w.heap.size w w) := Below.refl _ _
  cases ok
  · have hno := (HW.out.no rfl).2
    have HNO := hid hno
    have HPN : Hid (∀ (W : World) (t : ByteArray), Below w.heap.size w W → t.size ≤ 1000000 → Calls Tryz.prog 40 #[.string t, p1, p2] W fun e w' => e = .returned (.bool false) ∧ Below W.heap.size W w') := hid (fun W t hW ht => by
      have := HPW.out W t hW ht
      rw [decide_eq_false (hno _)] at this
      exact this)
    clear hno
    go_enter Tryz.func34, Tryz.ntmps34
    go_wp2_with (first | (go_at_call 74; refine (HTX.out _).mono ?_; rintro e w3 ⟨A3, c3, rfl, h3, hb1⟩; have HR3 := hid h3; (first | (have hb1 := undrew hb1) | skip); have HNOW := hid (HNOW.out.trans (hb1.mono HNOW.out.size)); clear h3 hb1))
    go_loopw [18] (fun iv wr => ∃ k : Nat, k ≤ 341 ∧ iv = .int .i64 k ∧ Hid (Below w3.heap.size w3 wr)) (fun iv _ => 341 - (intOf iv).toNat)
    case atStart => exact ⟨0, Nat.zero_le _, rfl, Below.refl _ _⟩
    case round =>
      obtain ⟨k, hk, rfl, hbel⟩ := hrel
      have HN3 := HNOW
      have HNOW := hid (HN3.out.trans (hbel.out.mono HN3.out.size))
      by_cases hlt : k < 341
      · obtain ⟨g, o, rfl, hg, hc⟩ := HR3.out.2 (by omega)
        obtain ⟨t, ht⟩ : ∃ t, T[k]? = some t := ⟨_, List.getElem?_eq_getElem (by rw [HTL.out]; exact hlt)⟩
        have x1 := (hbel.out.cell (p := ⟨g, o + k, none⟩) hg).trans (hc k (.string ⟨t.toArray⟩) (by unfold strs; rw [List.getElem?_map, ht]; rfl))
        have htl : (ByteArray.mk t.toArray).size ≤ 1000000 := by
          have := texts_len 4 t (by rw [← HT.out]; exact List.mem_of_getElem? ht)
          simp only [ByteArray.size, List.size_toArray]
          omega
        have HPT := hid (fun W hW => HPN.out W ⟨t.toArray⟩ hW htl)
        have HNQ : Hid (Below wr.heap.size wr wr) := Below.refl _ _
        clear hc ht
        go_wp2_with (go_at_call 40; refine (HPT.out _ HNOW.out).mono ?_; rintro e w9 ⟨rfl, hb1⟩; have HN9 := hid (hbel.out.trans (hb1.mono hbel.out.size)); clear hb1)
        go_roundw
        case rel => exact ⟨k + 1, by omega, by go_num, HN9.out⟩
        case measure => simp [intOf]; omega
      · go_wp2_with fail
        go_ret
        exact ⟨rfl, HNOW.out⟩
  · obtain ⟨hxp, hxl⟩ := HW.out.yes rfl
    have HXP := hid hxp
    have HXL := hid hxl
    have HXA := hid (HPL.out _ hxp)
    have HPX : Hid (∀ (W : World), Below w.heap.size w W → Calls Tryz.prog 40 #[.string x, p1, p2] W fun e w' => e = .returned (.bool true) ∧ Below W.heap.size W w') := hid (fun W hW => by
      have := HPW.out W x hW hx8
      rw [decide_eq_true hxp] at this
      exact this)
    clear hxp hxl
    go_enter Tryz.func34, Tryz.ntmps34
    go_wp2_with (first | (go_at_call 40; refine (HPX.out _ HNOW.out).mono ?_; rintro e w2 ⟨rfl, hb1⟩; have HNOW := hid (HNOW.out.trans (hb1.mono HNOW.out.size)); clear hb1) | (go_at_call 74; refine (HTX.out _).mono ?_; rintro e w3 ⟨A3, c3, rfl, h3, hb1⟩; have HR3 := hid h3; (first | (have hb1 := undrew hb1) | skip); have HNOW := hid (HNOW.out.trans (hb1.mono HNOW.out.size)); clear h3 hb1))
    go_loopw [18] (fun iv wr => ∃ k : Nat, k ≤ 341 ∧ iv = .int .i64 k ∧ Hid (∀ u ∈ T.take k, ¬ P u) ∧ Hid (Below w3.heap.size w3 wr)) (fun iv _ => 341 - (intOf iv).toNat)
    case atStart => exact ⟨0, Nat.zero_le _, rfl, fun u hu => by simp at hu, Below.refl _ _⟩
    case round =>
      obtain ⟨k, hk, rfl, hnk, hbel⟩ := hrel
      have HN3 := HNOW
      have HNOW := hid (HN3.out.trans (hbel.out.mono HN3.out.size))
      by_cases hlt : k < 341
      · obtain ⟨g, o, rfl, hg, hc⟩ := HR3.out.2 (by omega)
        obtain ⟨t, ht⟩ : ∃ t, T[k]? = some t := ⟨_, List.getElem?_eq_getElem (by rw [HTL.out]; exact hlt)⟩
        have x1 := (hbel.out.cell (p := ⟨g, o + k, none⟩) hg).trans (hc k (.string ⟨t.toArray⟩) (by unfold strs; rw [List.getElem?_map, ht]; rfl))
        have htl : (ByteArray.mk t.toArray).size ≤ 1000000 := by
          have := texts_len 4 t (by rw [← HT.out]; exact List.mem_of_getElem? ht)
          simp only [ByteArray.size, List.size_toArray]
          omega
        have HPT := hid (fun W hW => HPW.out W ⟨t.toArray⟩ hW htl)
        by_cases hp : P t
        · have hxt : x = ⟨t.toArray⟩ := by
            have := first_is HXP.out HXL.out HXA.out (by rw [← HT.out]; exact ht) hp (by rw [← HT.out]; exact hnk.out)
            rw [← this]
          have hd : decide (P (ByteArray.mk t.toArray).data.toList) = true := decide_eq_true hp
          rw [hd] at HPT
          rw [← hxt] at HPT x1
          clear hc ht hp hd hxt htl
          go_wp2_with (go_at_call 40; refine (HPT.out _ HNOW.out).mono ?_; rintro e w9 ⟨rfl, hb1⟩; have HN9 := hid (HNOW.out.trans (hb1.mono HNOW.out.size)); clear hb1)
          go_ret
          exact ⟨by simp, HN9.out⟩
        · have HTK : Hid (∀ u ∈ T.take (k + 1), ¬ P u) := hid (fun u hu => by
            rw [List.take_add_one, ht] at hu
            rcases List.mem_append.1 hu with hu | hu
            · exact hnk.out u hu
            · have : u = t := by simpa using hu
              rw [this]; exact hp)
          have hd : decide (P (ByteArray.mk t.toArray).data.toList) = false := decide_eq_false hp
          rw [hd] at HPT
          clear hc ht hp hd
          go_wp2_with (go_at_call 40; refine (HPT.out _ HNOW.out).mono ?_; rintro e w9 ⟨rfl, hb1⟩; have HN9 := hid (hbel.out.trans (hb1.mono hbel.out.size)); clear hb1)
          go_roundw
          case rel => exact ⟨k + 1, by omega, by go_num, HTK.out, HN9.out⟩
          case measure => simp [intOf]; omega
      · have hk341 : k = 341 := by omega
        have h4 : (4 : Int) < (x.size : Int) := by
          have h := hnk.out
          rw [List.take_of_length_le (by rw [HTL.out]; omega), HT.out] at h
          have := none_is HXP.out HXA.out h
          have : 4 < x.size := by simpa using this
          omega
        go_wp2_with fail
        go_ret
        exact ⟨by simp, HNOW.out⟩
end Go.Proofs.YtaplejpjmaocdaaGreatDoor
