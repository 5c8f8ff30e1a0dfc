/- PkI: Cats, Has, Has2, Has3, each with its own sentence. -/
import Derived.Test.YtihloigpdcinkaaDoorPkH
import Derived.Test.YtihloigpdcinkaaDoorPkF
import Derived.Deep.RegionHeld3
import Derived.BigGuard
/- The walk of Cats, out of the contract of Has for each of the list. -/
namespace Go.Proofs.YtihloigpdcinkaaDoor
open Go.RowKit

open Classical in
/-- What a call of Has comes to. -/
def HasFn (r : Re) : Prop := ∀ (s : ByteArray) (X : Nat → Prop) (b : Nat) (w : World), ReAt w X r b → s.size ≤ 1000000 →
  Calls Tryd.prog 19 #[ptr b, .string s] w fun e w' => e = .returned (.bool (decide (Lang r s.data.toList))) ∧ Below w.heap.size w w'
theorem take_txt (s : ByteArray) (k : Nat) : (s.extract 0 k).data.toList = s.data.toList.take k := by
  rw [ByteArray.data_extract, Array.toList_extract]
  simp [List.extract]
theorem drop_txt (s : ByteArray) (k : Nat) : (s.extract k s.size).data.toList = s.data.toList.drop k := by
  rw [ByteArray.data_extract, Array.toList_extract]
  simp only [List.extract]
  apply List.take_of_length_le
  rw [List.length_drop]
  have h : s.data.toList.length = s.size := by simp
  omega

open Classical in
set_option maxRecDepth 100000 in
set_option maxHeartbeats 2000000 in
theorem cats_any : ∀ (rs : List Re) (_ : ∀ r ∈ rs, HasFn r) (A : Option Addr) (n c : Nat) (bs : List Nat) (X : Nat → Prop) (s : ByteArray) (w : World), ReRow w X A n rs bs → CapOk n A c → s.size ≤ 1000000 → n ≤ 1000000 →
    Calls Tryd.prog 60 #[.slice A n c, .string s] w fun e w' => e = .returned (.bool (decide (CatP (rs.map Lang) s.data.toList))) ∧ Below w.heap.size w w'
  | [], _, A, n, c, bs, X, s, w, hrow, hcap, hs, hn => by
    have hn0 : n = 0 := by have := hrow.length.1; simp at this; omega
    subst hn0
    obtain ⟨z, hz⟩ : ∃ z, z = decide (CatP (([] : List Re).map Lang) s.data.toList) := ⟨_, rfl⟩
    rw [← hz]
    have HZ := hid hz
    clear hz hrow hcap
    go_enter Tryd.func60, Tryd.ntmps60
    go_wp2_with fail
    go_ret
    refine ⟨?_, Below.refl _ _⟩
    rw [HZ.out]
    show Ending.returned (Value.bool s.toList.isEmpty) = _
    congr 2
    have h1 : s.toList = s.data.toList := ByteArray.toList_eq s
    rw [h1]
    cases s.data.toList <;> simp [CatP]
  | r :: rs, hf, A, n, c, bs, X, s, w, hrow, hcap, hs, hn => by
    have HF := hid (hf r (List.mem_cons_self ..))
    have HREC := hid (fun A n c bs X s w h1 h2 h3 h4 => cats_any rs (fun x hx => hf x (List.mem_cons_of_mem _ hx)) A n c bs X s w h1 h2 h3 h4)
    have hnl := hrow.length.1
    simp only [List.length_cons] at hnl
    obtain ⟨g, o, r0, b0, rfl, e0, hr0, -, ha, hg⟩ := hrow.at_ (k := 0) (by omega)
    have hr0 : r = r0 := by simpa using hr0
    subst hr0
    obtain ⟨z, hz⟩ : ∃ z, z = decide (CatP ((r :: rs).map Lang) s.data.toList) := ⟨_, rfl⟩
    rw [← hz]
    have HZ := hid hz
    have HAT := hid ha
    have HROW := hid hrow
    have hnc := hcap.1
    clear hz ha hrow hcap
    have i0 : (0 : Int) < (n : Int) := by omega
    have i6 : 0 < n := by omega
    have i1 : (1 : Int) ≤ (n : Int) := by omega
    have i2 : (n : Int) ≤ (c : Int) := by omega
    have hn0 : ((n : Int) == 0) = false := by simp; omega
    go_enter Tryd.func60, Tryd.ntmps60
    go_wp2_with fail
    go_loopw [5] (fun i wr => ∃ k : Nat, k ≤ s.size + 1 ∧ i = .int .i64 k ∧ Hid (∀ j, j < k → ¬ (Lang r (s.data.toList.take j) ∧ CatP (rs.map Lang) (s.data.toList.drop j))) ∧ Hid (Below w.heap.size w wr)) (fun i _ => s.size + 1 - (intOf i).toNat)
    case atStart => exact ⟨0, by omega, rfl, fun j hj => absurd hj (by omega), Below.refl _ _⟩
    case round =>
      obtain ⟨k, hk, rfl, hall, hbel⟩ := hrel
      have hc0 := (hbel.out.cell (p := ⟨g, o + 0, none⟩) hg).trans e0
      rw [Nat.add_zero] at hc0
      unfold ptr at hc0
      have hn0' := World.new_ne wr _ hc0
      by_cases hlt : k ≤ s.size
      · have i3 : (0 : Int) ≤ (k : Int) := by omega
        have i4 : (k : Int) ≤ (s.size : Int) := by omega
        have hbw : Below w.heap.size w wr := hbel.out
        have HC1 : Hid (∀ W, Below wr.heap.size wr W → Calls Tryd.prog 19 #[ptr b0, .string (s.extract 0 k)] W fun e w' => e = .returned (.bool (decide (Lang r (s.data.toList.take k)))) ∧ Below W.heap.size W w') := fun W hW => by
          have := HF.out (s.extract 0 k) X b0 W ((HAT.out.under hbw).under hW) (by rw [ByteArray.size_extract]; omega)
          rw [take_txt] at this
          exact this
        have hgr : g < wr.heap.size := Nat.lt_of_lt_of_le hg hbw.size
        have hrow := HROW.out.below hbw
        by_cases h1 : Lang r (s.data.toList.take k)
        · rw [decide_eq_true h1] at HC1
          obtain ⟨A', hA'⟩ : ∃ A', (if c = 1 then some (⟨g, o, none⟩ : Addr) else some ⟨g, o + 1, none⟩) = A' := ⟨_, rfl⟩
          have HC2 : Hid (∀ W, Below wr.heap.size wr W → Calls Tryd.prog 60 #[.slice A' (n - 1) (c - 1), .string (s.extract k s.size)] W fun e w' => e = .returned (.bool (decide (CatP (rs.map Lang) (s.data.toList.drop k)))) ∧ Below W.heap.size W w') := fun W hW => by
            by_cases hc1 : c = 1
            · rw [if_pos hc1] at hA'
              have hn1 : n = 1 := by omega
              have hrs : rs = [] := List.eq_nil_of_length_eq_zero (by omega)
              have := HREC.out A' (n - 1) (c - 1) [] X (s.extract k s.size) W (by rw [hrs, hn1]; exact ⟨⟨rfl, fun h => absurd h (by omega)⟩, Els.nil, fun a h => absurd h (by omega)⟩) ⟨by omega, fun h => by rw [← hA'] at h; cases h⟩ (by rw [ByteArray.size_extract]; omega) (by omega)
              rw [drop_txt] at this
              exact this
            · rw [if_neg hc1] at hA'
              have := HREC.out A' (n - 1) (c - 1) (bs.drop 1) X (s.extract k s.size) W (by rw [← hA']; exact row_drop (hrow.below hW) 1) ⟨by omega, fun h => by rw [← hA'] at h; cases h⟩ (by rw [ByteArray.size_extract]; omega) (by omega)
              rw [drop_txt] at this
              exact this
          by_cases h2 : CatP (rs.map Lang) (s.data.toList.drop k)
          · rw [decide_eq_true h2] at HC2
            have hz1 : z = true := HZ.out.trans (decide_eq_true ((catP_cons _ _ _).2 ⟨k, by simpa using hlt, h1, h2⟩))
            have HZ1 := hid hz1
            clear hz1 h1 h2
            go_wp2_with fail
            go_region_held3 (fun w' => w'.cell? ⟨g, o, none⟩ = some (.pointer (some ⟨b0, 0, none⟩))) (first | exact hc1 | go_keep)
          (first | (go_at_call 19; refine (HC1.out _ (by first | exact Below.refl _ _ | exact (Below.refl _ _).drew)).mono ?_; rintro e w2 ⟨rfl, hb1⟩; (first | (have hb1 := undrew hb1) | skip); have hc1 := (hb1.cell (p := ⟨g, o, none⟩) hgr).trans hc0; have HB2 := hid hb1; clear hb1) | (go_at_call 60; refine (HC2.out _ (by first | exact HB2.out | exact HB2.out.drew)).mono ?_; rintro e w3 ⟨rfl, hb1⟩; (first | (have hb1 := undrew hb1) | skip); have HB3 := hid (HB2.out.trans (hb1.mono HB2.out.size)); have hc1 := (HB3.out.cell (p := ⟨g, o, none⟩) hgr).trans hc0; clear hb1))
            all_goals
              go_wp2_with fail
              go_ret
              exact ⟨by rw [HZ1.out]; rfl, hbel.out.trans (HB3.out.mono hbel.out.size)⟩
          · rw [decide_eq_false h2] at HC2
            have HALL : Hid (∀ j, j < k + 1 → ¬ (Lang r (s.data.toList.take j) ∧ CatP (rs.map Lang) (s.data.toList.drop j))) := fun j hj => by
              rcases Nat.lt_or_ge j k with h | h
              · exact hall.out j h
              · obtain rfl : j = k := by omega
                exact fun h => h2 h.2
            clear h1 h2
            go_wp2_with fail
            go_region_held3 (fun w' => w'.cell? ⟨g, o, none⟩ = some (.pointer (some ⟨b0, 0, none⟩))) (first | exact hc1 | go_keep)
          (first | (go_at_call 19; refine (HC1.out _ (by first | exact Below.refl _ _ | exact (Below.refl _ _).drew)).mono ?_; rintro e w2 ⟨rfl, hb1⟩; (first | (have hb1 := undrew hb1) | skip); have hc1 := (hb1.cell (p := ⟨g, o, none⟩) hgr).trans hc0; have HB2 := hid hb1; clear hb1) | (go_at_call 60; refine (HC2.out _ (by first | exact HB2.out | exact HB2.out.drew)).mono ?_; rintro e w3 ⟨rfl, hb1⟩; (first | (have hb1 := undrew hb1) | skip); have HB3 := hid (HB2.out.trans (hb1.mono HB2.out.size)); have hc1 := (HB3.out.cell (p := ⟨g, o, none⟩) hgr).trans hc0; clear hb1))
            all_goals
              go_wp2_with fail
              go_roundw
              case rel => exact ⟨k + 1, by omega, by go_num, HALL.out, hbel.out.trans (HB3.out.mono hbel.out.size)⟩
              case measure => simp [intOf]; omega
        · rw [decide_eq_false h1] at HC1
          have HALL : Hid (∀ j, j < k + 1 → ¬ (Lang r (s.data.toList.take j) ∧ CatP (rs.map Lang) (s.data.toList.drop j))) := fun j hj => by
            rcases Nat.lt_or_ge j k with h | h
            · exact hall.out j h
            · obtain rfl : j = k := by omega
              exact fun h => h1 h.1
          clear h1
          go_wp2_with fail
          first | (go_region_with (first | (go_at_call 19; refine (HC1.out _ (by first | exact Below.refl _ _ | exact (Below.refl _ _).drew)).mono ?_; rintro e w2 ⟨rfl, hb1⟩; (first | (have hb1 := undrew hb1) | skip); have hc1 := (hb1.cell (p := ⟨g, o, none⟩) hgr).trans hc0; have HB2 := hid hb1; clear hb1))) | fail
          all_goals
            go_wp2_with fail
            go_roundw
            case rel => exact ⟨k + 1, by omega, by go_num, HALL.out, hbel.out.trans (HB2.out.mono hbel.out.size)⟩
            case measure => simp [intOf]; omega
      · have hz0 : z = false := HZ.out.trans (decide_eq_false fun h => by
          obtain ⟨j, hj, h3, h4⟩ := (catP_cons _ _ _).1 h
          exact hall.out j (by simp at hj; omega) ⟨h3, h4⟩)
        have HZ0 := hid hz0
        clear hz0
        go_wp2_with fail
        go_ret
        exact ⟨by rw [HZ0.out]; rfl, hbel.out⟩
end Go.Proofs.YtihloigpdcinkaaDoor

/- The walk of Has. -/
namespace Go.Proofs.YtihloigpdcinkaaDoor
open Go.RowKit

/-- A byte of a text. -/
theorem idx_string (s : ByteArray) (k : Nat) (x : UInt8) (hx : s.data.toList[k]? = some x) (W : World) : (Instr.index 9 (.string s) (.int .i64 k)).run Tryd.prog W = .ok (.int .u8 x.toNat) W := by
  obtain ⟨hl, e⟩ := List.getElem?_eq_some_iff.1 hx
  have hs : k < s.size := by simpa using hl
  rw [run_index_string W 9 s .i64 k Tryd.underlying9, dif_pos ⟨by omega, by omega⟩]
  congr 3
  have : s[k] = x := by rw [← e]; rfl
  simp [this]

open Classical in
set_option maxRecDepth 100000 in
set_option maxHeartbeats 2000000 in
theorem has_none : HasFn .none := by
  intro s X b w h hs
  obtain ⟨A, c, bs, hbc, -, -⟩ := h.row
  obtain ⟨k0, k1, k2, k3, k4, k5, -⟩ := cellsOf hbc
  have hz : decide (Lang .none s.data.toList) = false := decide_eq_false (fun h => (lang_none _).1 h)
  rw [hz]
  clear h hbc hz
  simp only [Re.op] at k0
  unfold ptr
  go_enter Tryd.func19, Tryd.ntmps19
  go_wp2_with fail
  go_ret
  exact ⟨rfl, Below.refl _ _⟩
open Classical in
set_option maxRecDepth 100000 in
set_option maxHeartbeats 2000000 in
theorem has_eps : HasFn .eps := by
  intro s X b w h hs
  obtain ⟨A, c, bs, hbc, -, -⟩ := h.row
  obtain ⟨k0, k1, k2, k3, k4, k5, -⟩ := cellsOf hbc
  obtain ⟨z, hz⟩ : ∃ z, z = decide (Lang .eps s.data.toList) := ⟨_, rfl⟩
  rw [← hz]
  have HZ := hid hz
  clear h hbc hz
  simp only [Re.op] at k0
  unfold ptr
  go_enter Tryd.func19, Tryd.ntmps19
  go_wp2_with fail
  go_ret
  refine ⟨?_, Below.refl _ _⟩
  rw [HZ.out]
  show Ending.returned (Value.bool s.toList.isEmpty) = _
  congr 2
  rw [ByteArray.toList_eq, decide_eq_decide.2 (lang_eps s.data.toList)]
  rw [Bool.eq_iff_iff, decide_eq_true_iff, List.isEmpty_iff]
open Classical in
set_option maxRecDepth 100000 in
set_option maxHeartbeats 2000000 in
theorem has_cat (l : List Re) (ih : ∀ k ∈ l, HasFn k) (hsz : l.length ≤ 1000000) : HasFn (.cat l) := by
  intro s X b w h hs
  obtain ⟨A, c, bs, hbc, hcap, hrow⟩ := h.row
  obtain ⟨k0, k1, k2, k3, k4, k5, -⟩ := cellsOf hbc
  have HC := hid (cats_any l ih A l.length c bs X s w hrow hcap hs hsz)
  obtain ⟨z, hz⟩ : ∃ z, z = decide (Lang (.cat l) s.data.toList) := ⟨_, rfl⟩
  have hz' : z = decide (CatP (l.map Lang) s.data.toList) := hz.trans (decide_eq_decide.2 (lang_cat l _))
  rw [← hz]
  rw [← hz'] at HC
  clear h hbc hz hz' hcap hrow
  simp only [Re.op, Re.kids] at k0 k5
  unfold ptr
  go_enter Tryd.func19, Tryd.ntmps19
  go_wp2_with (first | (go_at_call 60; refine HC.out.mono ?_; rintro e w2 ⟨rfl, hb1⟩; have HB := hid hb1; clear hb1))
  go_ret
  exact ⟨rfl, HB.out⟩
open Classical in
set_option maxRecDepth 100000 in
set_option maxHeartbeats 2000000 in
theorem has_cls (u : CSet) : HasFn (.cls u) := by
  intro s X b w h hs
  obtain ⟨A, c, bs, hbc, -, -⟩ := h.row
  obtain ⟨k0, k1, k2, k3, k4, k5, -⟩ := cellsOf hbc
  obtain ⟨z, hz⟩ : ∃ z, z = decide (Lang (.cls u) s.data.toList) := ⟨_, rfl⟩
  rw [← hz]
  have HZ := hid hz
  have hbl := lt_of_heap hbc
  clear h hbc hz
  simp only [Re.op, Re.set] at k0 k1 k2 k3 k4
  unfold ptr
  have hlen : s.data.toList.length = s.size := by simp
  by_cases h1 : s.size = 1
  · obtain ⟨x, hx⟩ : ∃ x, s.data.toList = [x] := by
      match hq : s.data.toList, hlen with
      | [x], _ => exact ⟨x, rfl⟩
      | [], hl => rw [h1] at hl; simp at hl
      | _ :: _ :: _, hl => rw [h1] at hl; simp at hl
    have HC := hid (fun W => has_any u x.toNat W x.toNat_lt)
    have HX := hid hx
    have hzz : z = u.has x.toNat := by
      rw [HZ.out, Bool.eq_iff_iff, decide_eq_true_iff, hx, lang_cls]
      constructor
      · rintro ⟨y, e, hy⟩
        have e : x = y := by simpa using e
        rw [e]; exact hy
      · intro hu; exact ⟨x, rfl, hu⟩
    rw [← hzz] at HC
    unfold cv at HC
    have hb1 : ((s.size : Int) == 1) = true := by rw [h1]; rfl
    have HS1 := hid h1
    have hidx : ∀ W, (Instr.index 9 (.string s) (.int .i64 0)).run Tryd.prog W = .ok (.int .u8 x.toNat) W := idx_string s 0 x (by rw [hx]; rfl)
    have i0 : (0 : Int) < (s.size : Int) := by rw [h1]; decide
    have i1 : 0 < s.size := by omega
    clear hx hlen hzz h1
    go_enter Tryd.func19, Tryd.ntmps19
    go_wp2_with fail
    go_region_held3 (fun w' => w'.cell? ⟨b, 1, none⟩ = some (.int .u64 u.a.toNat) ∧ w'.cell? ⟨b, 2, none⟩ = some (.int .u64 u.b.toNat) ∧ w'.cell? ⟨b, 3, none⟩ = some (.int .u64 u.c.toNat) ∧ w'.cell? ⟨b, 4, none⟩ = some (.int .u64 u.d.toNat)) (first | exact ⟨d1, d2, d3, d4⟩ | go_keep)
      (first | (go_at_call 36; refine (HC.out _).mono ?_; rintro e w2 ⟨rfl, hb1⟩; (first | (have hb1 := undrew hb1) | skip); have HB2 := hid hb1; have d1 := (hb1.cell (p := ⟨b, 1, none⟩) hbl).trans k1; have d2 := (hb1.cell (p := ⟨b, 2, none⟩) hbl).trans k2; have d3 := (hb1.cell (p := ⟨b, 3, none⟩) hbl).trans k3; have d4 := (hb1.cell (p := ⟨b, 4, none⟩) hbl).trans k4; clear hb1))
    all_goals
      go_wp2_with fail
      go_ret
      exact ⟨rfl, HB2.out⟩
  · have hz0 : z = false := HZ.out.trans (decide_eq_false fun h => by
      obtain ⟨y, e, -⟩ := (lang_cls _ _).1 h
      rw [e] at hlen
      exact h1 (by simpa using hlen.symm))
    have HZ0 := hid hz0
    have hb1 : ((s.size : Int) == 1) = false := by
      have : ¬ (s.size : Int) = 1 := by omega
      simp [this]
    clear hz0 hlen h1
    go_enter Tryd.func19, Tryd.ntmps19
    go_wp2_with fail
    go_quiet (fail)
    go_wp2_with fail
    go_ret
    exact ⟨by rw [HZ0.out]; rfl, below_drewN _ _ _⟩
end Go.Proofs.YtihloigpdcinkaaDoor

/- The walk of Has: the ops that ask their kids. -/
namespace Go.Proofs.YtihloigpdcinkaaDoor
open Go.RowKit

theorem starP_cut (P : Txt → Prop) (t : Txt) : StarP P t ↔ t = [] ∨ ∃ i, 1 ≤ i ∧ i ≤ t.length ∧ P (t.take i) ∧ StarP P (t.drop i) := by
  constructor
  · intro h
    cases h with
    | nil => exact .inl rfl
    | step a b hne ha hb =>
      refine .inr ⟨a.length, ?_, by simp, by simpa using ha, by simpa using hb⟩
      cases a with
      | nil => exact absurd rfl hne
      | cons x a => simp
  · rintro (rfl | ⟨i, h1, h2, h3, h4⟩)
    · exact .nil
    · have := StarP.step (t.take i) (t.drop i) (fun e => by
        have := congrArg List.length e
        rw [List.length_take, List.length_nil] at this
        omega) h3 h4
      rwa [List.take_append_drop] at this

open Classical in
set_option maxRecDepth 100000 in
set_option maxHeartbeats 2000000 in
theorem has_or (l : List Re) (ih : ∀ k ∈ l, HasFn k) (hsz : l.length ≤ 1000000) : HasFn (.or l) := by
  intro s X b w h hs
  obtain ⟨A, c, bs, hbc, hcap, hrow⟩ := h.row
  obtain ⟨k0, k1, k2, k3, k4, k5, -⟩ := cellsOf hbc
  obtain ⟨z, hz⟩ : ∃ z, z = decide (Lang (.or l) s.data.toList) := ⟨_, rfl⟩
  rw [← hz]
  have HZ := hid hz
  have HIH := hid ih
  have HS := hid hs
  simp only [Re.op, Re.kids] at k0 k5 hrow
  obtain ⟨n, hn⟩ : ∃ n, n = l.length := ⟨_, rfl⟩
  have HN := hid hn
  rw [← hn] at k5 hrow hsz
  have HROW := hid hrow
  clear h hbc hz hcap hrow ih hn k1 k2 k3 k4 hs
  unfold ptr
  go_enter Tryd.func19, Tryd.ntmps19
  go_wp2_with fail
  go_loopw [49] (fun i wr => ∃ k : Nat, k ≤ n ∧ i = .int .i64 k ∧ Hid (∀ x ∈ l.take k, ¬ Lang x s.data.toList) ∧ Hid (Below w.heap.size w wr)) (fun i _ => n - (intOf i).toNat)
  case atStart => exact ⟨0, Nat.zero_le _, rfl, fun x hx => by simp at hx, Below.refl _ _⟩
  case round =>
    obtain ⟨k, hk, rfl, hall, hbel⟩ := hrel
    by_cases hlt : k < n
    · obtain ⟨g, o, x, bx, rfl, c1, hx, -, hax, hg⟩ := HROW.out.at_ (k := k) hlt
      have hcell := (hbel.out.cell (p := ⟨g, o + k, none⟩) hg).trans c1
      have HC := hid (HIH.out x (List.mem_of_getElem? hx) s X bx wr (hax.under hbel.out) HS.out)
      have HX := hid hx
      clear c1 hx hax
      unfold ptr at HC hcell
      by_cases hL : Lang x s.data.toList
      · have hz1 : z = true := HZ.out.trans (decide_eq_true ((lang_or _ _).2 ⟨x, List.mem_of_getElem? HX.out, hL⟩))
        have HZ1 := hid hz1
        rw [decide_eq_true hL] at HC
        clear hL hz1
        go_wp2_with (go_at_call 19; refine HC.out.mono ?_; rintro e w2 ⟨rfl, hb1⟩; have HB2 := hid hb1; clear hb1)
        go_ret
        exact ⟨by rw [HZ1.out]; rfl, hbel.out.trans (HB2.out.mono hbel.out.size)⟩
      · have HALL : Hid (∀ y ∈ l.take (k + 1), ¬ Lang y s.data.toList) := fun y hy => by
          obtain ⟨l1, e1⟩ := List.getElem?_eq_some_iff.1 HX.out
          rw [List.take_succ_eq_append_getElem l1, e1] at hy
          rcases List.mem_append.1 hy with h | h
          · exact hall.out y h
          · have h : y = x := by simpa using h
            rw [h]; exact hL
        rw [decide_eq_false hL] at HC
        clear hL
        go_wp2_with (go_at_call 19; refine HC.out.mono ?_; rintro e w2 ⟨rfl, hb1⟩; have HB2 := hid hb1; clear hb1)
        go_roundw
        case rel => exact ⟨k + 1, by omega, by go_num, HALL.out, hbel.out.trans (HB2.out.mono hbel.out.size)⟩
        case measure => simp [intOf]; omega
    · have hz0 : z = false := HZ.out.trans (decide_eq_false fun h => by
        obtain ⟨x, hx, hL⟩ := (lang_or _ _).1 h
        exact hall.out x (by rw [List.take_of_length_le (by rw [← HN.out]; omega)]; exact hx) hL)
      have HZ0 := hid hz0
      clear hz0
      go_wp2_with fail
      go_ret
      exact ⟨by rw [HZ0.out]; rfl, hbel.out⟩

open Classical in
set_option maxRecDepth 100000 in
set_option maxHeartbeats 2000000 in
theorem has_and (l : List Re) (ih : ∀ k ∈ l, HasFn k) (hsz : l.length ≤ 1000000) : HasFn (.and l) := by
  intro s X b w h hs
  obtain ⟨A, c, bs, hbc, hcap, hrow⟩ := h.row
  obtain ⟨k0, k1, k2, k3, k4, k5, -⟩ := cellsOf hbc
  obtain ⟨z, hz⟩ : ∃ z, z = decide (Lang (.and l) s.data.toList) := ⟨_, rfl⟩
  rw [← hz]
  have HZ := hid hz
  have HIH := hid ih
  have HS := hid hs
  simp only [Re.op, Re.kids] at k0 k5 hrow
  obtain ⟨n, hn⟩ : ∃ n, n = l.length := ⟨_, rfl⟩
  have HN := hid hn
  rw [← hn] at k5 hrow hsz
  have HROW := hid hrow
  clear h hbc hz hcap hrow ih hn k1 k2 k3 k4 hs
  unfold ptr
  go_enter Tryd.func19, Tryd.ntmps19
  go_wp2_with fail
  go_loopw [99] (fun i wr => ∃ k : Nat, k ≤ n ∧ i = .int .i64 k ∧ Hid (∀ x ∈ l.take k, Lang x s.data.toList) ∧ Hid (Below w.heap.size w wr)) (fun i _ => n - (intOf i).toNat)
  case atStart => exact ⟨0, Nat.zero_le _, rfl, fun x hx => by simp at hx, Below.refl _ _⟩
  case round =>
    obtain ⟨k, hk, rfl, hall, hbel⟩ := hrel
    by_cases hlt : k < n
    · obtain ⟨g, o, x, bx, rfl, c1, hx, -, hax, hg⟩ := HROW.out.at_ (k := k) hlt
      have hcell := (hbel.out.cell (p := ⟨g, o + k, none⟩) hg).trans c1
      have HC := hid (HIH.out x (List.mem_of_getElem? hx) s X bx wr (hax.under hbel.out) HS.out)
      have HX := hid hx
      clear c1 hx hax
      unfold ptr at HC hcell
      by_cases hL : Lang x s.data.toList
      · have HALL : Hid (∀ y ∈ l.take (k + 1), Lang y s.data.toList) := fun y hy => by
          obtain ⟨l1, e1⟩ := List.getElem?_eq_some_iff.1 HX.out
          rw [List.take_succ_eq_append_getElem l1, e1] at hy
          rcases List.mem_append.1 hy with h | h
          · exact hall.out y h
          · have h : y = x := by simpa using h
            rw [h]; exact hL
        rw [decide_eq_true hL] at HC
        clear hL
        go_wp2_with (go_at_call 19; refine HC.out.mono ?_; rintro e w2 ⟨rfl, hb1⟩; have HB2 := hid hb1; clear hb1)
        go_roundw
        case rel => exact ⟨k + 1, by omega, by go_num, HALL.out, hbel.out.trans (HB2.out.mono hbel.out.size)⟩
        case measure => simp [intOf]; omega
      · have hz1 : z = false := HZ.out.trans (decide_eq_false fun h => hL ((lang_and _ _).1 h x (List.mem_of_getElem? HX.out)))
        have HZ1 := hid hz1
        rw [decide_eq_false hL] at HC
        clear hL hz1
        go_wp2_with (go_at_call 19; refine HC.out.mono ?_; rintro e w2 ⟨rfl, hb1⟩; have HB2 := hid hb1; clear hb1)
        go_ret
        exact ⟨by rw [HZ1.out]; rfl, hbel.out.trans (HB2.out.mono hbel.out.size)⟩
    · have hz0 : z = true := HZ.out.trans (decide_eq_true ((lang_and _ _).2 fun x hx => hall.out x (by rw [List.take_of_length_le (by rw [← HN.out]; omega)]; exact hx)))
      have HZ0 := hid hz0
      clear hz0
      go_wp2_with fail
      go_ret
      exact ⟨by rw [HZ0.out]; rfl, hbel.out⟩

open Classical in
set_option maxRecDepth 100000 in
set_option maxHeartbeats 2000000 in
theorem has_minus (x y : Re) (ihx : HasFn x) (ihy : HasFn y) : HasFn (.minus x y) := by
  intro s X b w h hs
  obtain ⟨A, c, bs, hbc, hcap, hrow⟩ := h.row
  obtain ⟨k0, k1, k2, k3, k4, k5, -⟩ := cellsOf hbc
  have hbl := lt_of_heap hbc
  obtain ⟨z, hz⟩ : ∃ z, z = decide (Lang (.minus x y) s.data.toList) := ⟨_, rfl⟩
  rw [← hz]
  have HZ := hid hz
  simp only [Re.op, Re.kids, List.length_cons, List.length_nil, Nat.zero_add, Nat.reduceAdd] at k0 k5 hrow
  obtain ⟨g, o, x', bx, rfl, c0, hx, -, hax, hg⟩ := hrow.at_ (k := 0) (by omega)
  obtain ⟨g', o', y', bY, e', c1, hy, -, hay, -⟩ := hrow.at_ (k := 1) (by omega)
  obtain ⟨rfl, rfl⟩ : g = g' ∧ o = o' := by simpa using e'
  have hx : x = x' := by simpa using hx
  have hy : y = y' := by simpa using hy
  subst hx; subst hy
  rw [Nat.add_zero] at c0
  have HCX := hid (ihx s X bx w hax hs)
  have HCY := hid (fun W (hW : Below w.heap.size w W) => ihy s X bY W (hay.under hW) hs)
  clear h hbc hz hcap hrow k1 k2 k3 k4 hs ihx ihy hax hay e'
  unfold ptr at *
  by_cases hX : Lang x s.data.toList
  · rw [decide_eq_true hX] at HCX
    have HZ1 : Hid (z = !decide (Lang y s.data.toList)) := hid (by rw [HZ.out, Bool.eq_iff_iff]; simp [lang_minus, hX])
    obtain ⟨v, hv⟩ : ∃ v, v = decide (Lang y s.data.toList) := ⟨_, rfl⟩
    rw [← hv] at HCY HZ1
    clear hX hv HZ
    go_enter Tryd.func19, Tryd.ntmps19
    go_wp2_with (first | (go_at_call 19; refine HCX.out.mono ?_; rintro e w2 ⟨rfl, hb1⟩; have d5 := (hb1.cell (p := ⟨b, 5, none⟩) hbl).trans k5; have d1 := (hb1.cell (p := ⟨g, o + 1, none⟩) hg).trans c1; have HB2 := hid hb1; clear hb1 HCX) | (go_at_call 19; refine (HCY.out _ HB2.out).mono ?_; rintro e w3 ⟨rfl, hb1⟩; have HB3 := hid (HB2.out.trans (hb1.mono HB2.out.size)); clear hb1))
    all_goals
      go_ret
      exact ⟨by rw [HZ1.out]; rfl, HB3.out⟩
  · rw [decide_eq_false hX] at HCX
    have HZ1 : Hid (z = false) := hid (by rw [HZ.out, Bool.eq_iff_iff]; simp [lang_minus, hX])
    clear hX HZ HCY
    go_enter Tryd.func19, Tryd.ntmps19
    go_wp2_with (first | (go_at_call 19; refine HCX.out.mono ?_; rintro e w2 ⟨rfl, hb1⟩; have d5 := (hb1.cell (p := ⟨b, 5, none⟩) hbl).trans k5; have d1 := (hb1.cell (p := ⟨g, o + 1, none⟩) hg).trans c1; have HB2 := hid hb1; clear hb1 HCX))
    all_goals
      go_ret
      exact ⟨by rw [HZ1.out]; rfl, HB2.out⟩
end Go.Proofs.YtihloigpdcinkaaDoor

/- The walk of Has: a star; and the contract of all. -/
namespace Go.Proofs.YtihloigpdcinkaaDoor
open Go.RowKit

open Classical in
set_option maxRecDepth 100000 in
set_option maxHeartbeats 4000000 in
theorem has_star (x : Re) (ihx : HasFn x) : HasFn (.star x) := by
  intro s
  obtain ⟨N, hN⟩ : ∃ N, N = s.size := ⟨_, rfl⟩
  induction N using Nat.strongRecOn generalizing s with
  | ind N ih =>
    intro X b w h hs
    have HREC := hid (fun (s' : ByteArray) (hlt : s'.size < s.size) (W : World) (hW : Below w.heap.size w W) => ih s'.size (by omega) s' rfl X b W (h.under hW) (by omega))
    obtain ⟨A, c, bs, hbc, hcap, hrow⟩ := h.row
    obtain ⟨k0, k1, k2, k3, k4, k5, -⟩ := cellsOf hbc
    have hbl := lt_of_heap hbc
    obtain ⟨z, hz⟩ : ∃ z, z = decide (Lang (.star x) s.data.toList) := ⟨_, rfl⟩
    rw [← hz]
    have HZ := hid hz
    simp only [Re.op, Re.kids, List.length_cons, List.length_nil, Nat.zero_add] at k0 k5 hrow
    obtain ⟨g, o, x', bx, rfl, c0, hx, -, hax, hg⟩ := hrow.at_ (k := 0) (by omega)
    have hx : x = x' := by simpa using hx
    subst hx
    rw [Nat.add_zero] at c0
    have HCX := hid (fun (s' : ByteArray) (hs' : s'.size ≤ 1000000) (W : World) (hW : Below w.heap.size w W) => ihx s' X bx W (hax.under hW) hs')
    clear h hbc hz hcap hrow k1 k2 k3 k4 ih ihx hax hN
    unfold ptr at *
    by_cases he : s.size = 0
    · have e0 : s.toList = [] := by
        rw [ByteArray.toList_eq]
        exact List.eq_nil_of_length_eq_zero (by simpa using he)
      have hz1 : z = true := HZ.out.trans (decide_eq_true ((lang_star _ _).2 (by rw [← ByteArray.toList_eq, e0]; exact .nil)))
      have HZ1 := hid hz1
      have e1 : s.toList.isEmpty = true := by rw [e0]; rfl
      clear he hz1 e0
      go_enter Tryd.func19, Tryd.ntmps19
      go_wp2_with fail
      go_ret
      exact ⟨by rw [HZ1.out]; rfl, Below.refl _ _⟩
    · have e1 : s.toList.isEmpty = false := by
        rw [ByteArray.toList_eq]
        cases hq : s.data.toList with
        | nil => exact absurd (by simpa using congrArg List.length hq) he
        | cons _ _ => rfl
      have hpos : 1 ≤ s.size := by omega
      have HNE : Hid (s.data.toList ≠ []) := fun e => he (by simpa using congrArg List.length e)
      clear he
      go_enter Tryd.func19, Tryd.ntmps19
      go_wp2_with fail
      go_loopw [7] (fun i wr => ∃ k : Nat, 1 ≤ k ∧ k ≤ s.size + 1 ∧ i = .int .i64 k ∧ Hid (∀ j, 1 ≤ j → j < k → ¬ (Lang x (s.data.toList.take j) ∧ StarP (Lang x) (s.data.toList.drop j))) ∧ Hid (Below w.heap.size w wr)) (fun i _ => s.size + 1 - (intOf i).toNat)
      case atStart => exact ⟨1, Nat.le_refl _, by omega, rfl, fun j hj => by omega, Below.refl _ _⟩
      case round =>
        obtain ⟨k, hk1, hk, rfl, hall, hbel⟩ := hrel
        have hc0 := (hbel.out.cell (p := ⟨g, o, none⟩) hg).trans c0
        have hc5 := (hbel.out.cell (p := ⟨b, 5, none⟩) hbl).trans k5
        by_cases hlt : k ≤ s.size
        · have i3 : (0 : Int) ≤ (k : Int) := by omega
          have i4 : (k : Int) ≤ (s.size : Int) := by omega
          have hbw : Below w.heap.size w wr := hbel.out
          have HC1 : Hid (∀ W, Below wr.heap.size wr W → Calls Tryd.prog 19 #[.pointer (some ⟨bx, 0, none⟩), .string (s.extract 0 k)] W fun e w' => e = .returned (.bool (decide (Lang x (s.data.toList.take k)))) ∧ Below W.heap.size W w') := fun W hW => by
            have := HCX.out (s.extract 0 k) (by rw [ByteArray.size_extract]; omega) W (hbw.trans (hW.mono hbw.size))
            rw [take_txt] at this
            exact this
          have hgr : g < wr.heap.size := Nat.lt_of_lt_of_le hg hbw.size
          have hbr : b < wr.heap.size := Nat.lt_of_lt_of_le hbl hbw.size
          by_cases h1 : Lang x (s.data.toList.take k)
          · rw [decide_eq_true h1] at HC1
            have HC2 : Hid (∀ W, Below wr.heap.size wr W → Calls Tryd.prog 19 #[.pointer (some ⟨b, 0, none⟩), .string (s.extract k s.size)] W fun e w' => e = .returned (.bool (decide (Lang (.star x) (s.data.toList.drop k)))) ∧ Below W.heap.size W w') := fun W hW => by
              have := HREC.out (s.extract k s.size) (by rw [ByteArray.size_extract]; omega) W (hbw.trans (hW.mono hbw.size))
              rw [drop_txt] at this
              exact this
            by_cases h2 : Lang (.star x) (s.data.toList.drop k)
            · rw [decide_eq_true h2] at HC2
              have hz1 : z = true := HZ.out.trans (decide_eq_true ((lang_star _ _).2 ((starP_cut _ _).2 (.inr ⟨k, hk1, by simpa using hlt, h1, (lang_star _ _).1 h2⟩))))
              have HZ1 := hid hz1
              clear hz1 h1 h2 hbw
              go_wp2_with fail
              go_region_held3 (fun w' => w'.cell? ⟨g, o, none⟩ = some (.pointer (some ⟨bx, 0, none⟩)) ∧ w'.cell? ⟨b, 5, none⟩ = some (.slice (some ⟨g, o, none⟩) 1 c)) (first | exact ⟨hc1, hc2⟩ | go_keep)
            (first | (go_at_call 19; refine (HC1.out _ (by first | exact Below.refl _ _ | exact (Below.refl _ _).drew)).mono ?_; rintro e w2 ⟨rfl, hb1⟩; (first | (have hb1 := undrew hb1) | skip); have hc1 := (hb1.cell (p := ⟨g, o, none⟩) hgr).trans hc0; have hc2 := (hb1.cell (p := ⟨b, 5, none⟩) hbr).trans hc5; have HB2 := hid hb1; clear hb1 HC1) | (go_at_call 19; refine (HC2.out _ (by first | exact HB2.out | exact HB2.out.drew)).mono ?_; rintro e w3 ⟨rfl, hb1⟩; (first | (have hb1 := undrew hb1) | skip); have HB3 := hid (HB2.out.trans (hb1.mono HB2.out.size)); have hc1 := (HB3.out.cell (p := ⟨g, o, none⟩) hgr).trans hc0; have hc2 := (HB3.out.cell (p := ⟨b, 5, none⟩) hbr).trans hc5; clear hb1))
              all_goals
                go_wp2_with fail
                go_ret
                exact ⟨by rw [HZ1.out]; rfl, hbel.out.trans (HB3.out.mono hbel.out.size)⟩
            · rw [decide_eq_false h2] at HC2
              have HALL : Hid (∀ j, 1 ≤ j → j < k + 1 → ¬ (Lang x (s.data.toList.take j) ∧ StarP (Lang x) (s.data.toList.drop j))) := fun j hj1 hj => by
                rcases Nat.lt_or_ge j k with h | h
                · exact hall.out j hj1 h
                · obtain rfl : j = k := by omega
                  exact fun h => h2 ((lang_star _ _).2 h.2)
              clear h1 h2 hbw
              go_wp2_with fail
              go_region_held3 (fun w' => w'.cell? ⟨g, o, none⟩ = some (.pointer (some ⟨bx, 0, none⟩)) ∧ w'.cell? ⟨b, 5, none⟩ = some (.slice (some ⟨g, o, none⟩) 1 c)) (first | exact ⟨hc1, hc2⟩ | go_keep)
            (first | (go_at_call 19; refine (HC1.out _ (by first | exact Below.refl _ _ | exact (Below.refl _ _).drew)).mono ?_; rintro e w2 ⟨rfl, hb1⟩; (first | (have hb1 := undrew hb1) | skip); have hc1 := (hb1.cell (p := ⟨g, o, none⟩) hgr).trans hc0; have hc2 := (hb1.cell (p := ⟨b, 5, none⟩) hbr).trans hc5; have HB2 := hid hb1; clear hb1 HC1) | (go_at_call 19; refine (HC2.out _ (by first | exact HB2.out | exact HB2.out.drew)).mono ?_; rintro e w3 ⟨rfl, hb1⟩; (first | (have hb1 := undrew hb1) | skip); have HB3 := hid (HB2.out.trans (hb1.mono HB2.out.size)); have hc1 := (HB3.out.cell (p := ⟨g, o, none⟩) hgr).trans hc0; have hc2 := (HB3.out.cell (p := ⟨b, 5, none⟩) hbr).trans hc5; clear hb1))
              all_goals
                go_wp2_with fail
                go_roundw
                case rel => exact ⟨k + 1, by omega, by omega, by go_num, HALL.out, hbel.out.trans (HB3.out.mono hbel.out.size)⟩
                case measure => simp [intOf]; omega
          · rw [decide_eq_false h1] at HC1
            have HALL : Hid (∀ j, 1 ≤ j → j < k + 1 → ¬ (Lang x (s.data.toList.take j) ∧ StarP (Lang x) (s.data.toList.drop j))) := fun j hj1 hj => by
              rcases Nat.lt_or_ge j k with h | h
              · exact hall.out j hj1 h
              · obtain rfl : j = k := by omega
                exact fun h => h1 h.1
            clear h1 hbw
            go_wp2_with fail
            first | (go_region_with (first | (go_at_call 19; refine (HC1.out _ (by first | exact Below.refl _ _ | exact (Below.refl _ _).drew)).mono ?_; rintro e w2 ⟨rfl, hb1⟩; (first | (have hb1 := undrew hb1) | skip); have hc1 := (hb1.cell (p := ⟨g, o, none⟩) hgr).trans hc0; have hc2 := (hb1.cell (p := ⟨b, 5, none⟩) hbr).trans hc5; have HB2 := hid hb1; clear hb1 HC1))) | fail
            all_goals
              go_wp2_with fail
              go_roundw
              case rel => exact ⟨k + 1, by omega, by omega, by go_num, HALL.out, hbel.out.trans (HB2.out.mono hbel.out.size)⟩
              case measure => simp [intOf]; omega
        · have hz0 : z = false := HZ.out.trans (decide_eq_false fun h => by
            rcases (starP_cut _ _).1 ((lang_star _ _).1 h) with h | ⟨j, h1, h2, h3, h4⟩
            · exact HNE.out h
            · exact hall.out j h1 (by simp at h2; omega) ⟨h3, h4⟩)
          have HZ0 := hid hz0
          clear hz0
          have hd : decide ((k : Int) ≤ (s.size : Int)) = false := decide_eq_false (by omega)
          go_wp2_with fail
          go_ret
          exact ⟨by rw [HZ0.out]; rfl, hbel.out⟩

theorem mem_size_le (l : List Re) (k : Re) (h : k ∈ l) : k.size ≤ Re.sizes l := getD_mem_size l k h
/-- HAS: whatever the expression. -/
theorem has_any_re (r : Re) : r.size ≤ 1000000 → HasFn r := by
  induction r using Re.ind_ with
  | h r ih =>
    intro hsz
    have hk : ∀ k ∈ r.kids, HasFn k := fun k hk => ih k hk (by
      have := getD_mem_size r.kids k hk
      have := Re.size_kids r
      omega)
    have hl : r.kids.length ≤ 1000000 := by
      have := Re.length_le_sizes r.kids
      have := Re.size_kids r
      omega
    cases r with
    | none => exact has_none
    | eps => exact has_eps
    | cls u => exact has_cls u
    | cat l => exact has_cat l hk hl
    | or l => exact has_or l hk hl
    | star x => exact has_star x (hk x (by simp [Re.kids]))
    | and l => exact has_and l hk hl
    | minus x y => exact has_minus x y (hk x (by simp [Re.kids])) (hk y (by simp [Re.kids]))
end Go.Proofs.YtihloigpdcinkaaDoor
