/- The walk of SplitFuels. -/
import Derived.Test.YtfpfloahkibcgaaGreatDoorPkX
import Derived.Test.YtfpfloahkibcgaaGreatDoorPkK
namespace Go.Proofs.YtfpfloahkibcgaaGreatDoor
open Go.RowKit Go.Maps

theorem burn_fits (F left used k : Nat) (w w0 : World) (h : FuelAt w F left used) (hk : k ≤ left) (hl : left ≤ 1000000000) (hu : used ≤ 1000000000) (h0 : w0.heap.size ≤ F) (hbl : Below w0.heap.size w0 w) :
    Calls Tryz.prog 27 #[ptr F, .int .i64 k] w fun e w' => e = .returned (.int .i64 0) ∧ FuelAt w' F (left - k) (used + k) ∧ Below w0.heap.size w0 w' :=
  (burn_any F left used k w h hl hu).mono fun e w' ⟨h1, h2⟩ => by
    rw [if_pos (by omega)] at h2
    obtain ⟨rfl, h2⟩ := h2
    rw [Int.toNat_natCast] at h2
    exact ⟨rfl, h2, hbl.trans (h1.below hbl.size fun k hk e => by omega)⟩
theorem burn_lacks (F left used : Nat) (k : Int) (w w0 : World) (h : FuelAt w F left used) (hk : k < 0 ∨ left < k) (hl : left ≤ 1000000000) (hu : used ≤ 1000000000) (h0 : w0.heap.size ≤ F) (hbl : Below w0.heap.size w0 w) :
    Calls Tryz.prog 27 #[ptr F, .int .i64 k] w fun e w' => e = .returned (.int .i64 31) ∧ FuelAt w' F 0 used ∧ Below w0.heap.size w0 w' :=
  (burn_any F left used k w h hl hu).mono fun e w' ⟨h1, h2⟩ => by
    rw [if_neg (by omega)] at h2
    obtain ⟨rfl, h2⟩ := h2
    exact ⟨rfl, h2, hbl.trans (h1.below hbl.size fun k hk e => by omega)⟩
set_option maxRecDepth 100000 in
theorem smatch_nil (F : Nat) (w w0 : World) (h : FuelAt w F 9 0) (h0 : w0.heap.size ≤ F) (hbl : Below w0.heap.size w0 w) :
    Calls Tryz.prog 26 #[.pointer none, .string ⟨#[97]⟩, ptr F] w fun e w' => e = .returned (.tuple #[.bool false, .int .i64 0]) ∧ Below w0.heap.size w0 w' := by
  have HB := hid (burn_fits F 9 0 2 w w0 h (by omega) (by omega) (by omega) h0 hbl)
  clear h hbl
  unfold ptr at *
  go_enter Tryz.func26, Tryz.ntmps26
  go_wp2_with (go_at_call 27; refine HB.out.mono ?_; rintro e w2 ⟨rfl, -, hb⟩; have HB2 := hid hb; clear hb)
  refine bodyPost_ret (v := .tuple #[.bool false, .int .i64 0]) (by simp [results, Tryz.results26, go_sem]) rfl ⟨rfl, HB2.out⟩
set_option maxRecDepth 100000 in
theorem places_nil (t : ByteArray) (p : Value) (w : World) : Calls Tryz.prog 22 #[.pointer none, .pointer none, .string t, p] w fun e w' => e = .returned (.tuple #[.slice none 0 0, .int .i64 1]) ∧ w = w' := by
  go_enter Tryz.func22, Tryz.ntmps22
  go_wp2_with fail
  refine bodyPost_ret (v := .tuple #[.slice none 0 0, .int .i64 1]) (by simp [results, Tryz.results22, go_sem]) rfl ⟨rfl, rfl⟩
set_option maxRecDepth 100000 in
theorem star_nil (t : ByteArray) (p : Value) (w : World) : Calls Tryz.prog 28 #[.pointer none, .string t, p] w fun e w' => e = .returned (.tuple #[.slice none 0 0, .int .i64 1]) ∧ w = w' := by
  have HP := hid (places_nil t p w)
  go_enter Tryz.func28, Tryz.ntmps28
  go_wp2_with (go_at_call 22; refine HP.out.mono ?_; rintro e w2 ⟨rfl, rfl⟩)
  refine bodyPost_ret (v := .tuple #[.slice none 0 0, .int .i64 1]) (by simp [results, Tryz.results28, go_sem]) rfl ⟨rfl, rfl⟩
set_option maxRecDepth 100000 in
set_option maxHeartbeats 4000000 in
theorem splitFuels_any (n : Int) (zs : List Int) (A : Option Addr) (m c : Nat) (w : World) (hz : Nums w A m zs) (hm : m ≤ 9223372036854775807) (hT : Tab w) :
    Calls Tryz.prog 4 #[.int .i64 n, .slice A m c] w fun e w' => e = .returned (.bool true) ∧ Below w.heap.size w w' := by
  have HHE := hid (head9_any w hT)
  have HZ := hid hz
  clear hz hT
  go_enter Tryz.func4, Tryz.ntmps4
  by_cases hm6 : 50 < m
  · have hd : (50 : Int) < (m : Int) := by omega
    go_wp2_with (go_at_call 15; refine HHE.out.mono ?_; rintro e w2 ⟨rfl, hb2⟩; have HB2 := hid hb2; clear hb2)
    go_ret
    exact ⟨rfl, HB2.out⟩
  have hd : ¬ (50 : Int) < (m : Int) := by omega
  have h255 := i64_and255 n
  obtain ⟨a, ha⟩ : ∃ a : Nat, n % 256 = (a : Int) := ⟨(n % 256).toNat, by omega⟩
  have ha255 : a ≤ 255 := by omega
  rw [ha] at h255
  have HGR := hid (fun W => fill_any (a : Int) a (by omega) W)
  clear ha
  go_wp2_with (first | (go_at_call 15; refine HHE.out.mono ?_; rintro e w2 ⟨rfl, hb2⟩; have HB2 := hid hb2; clear hb2) | (go_at_call 21; refine (HGR.out _).mono ?_; rintro e w3 ⟨rfl, h3, hb3⟩; have HB3 := hid (HB2.out.trans (hb3.mono HB2.out.size)); have HBA := hid h3; clear h3 hb3))
  obtain ⟨B, hB⟩ : ∃ B, B = w2.heap.size := ⟨_, rfl⟩
  rw [← hB] at HBA ⊢
  have hwB : w.heap.size ≤ B := by rw [hB]; exact HB2.out.size
  clear hB HGR HHE
  go_loopw [6, 7, 31] (fun l u i wr => ∃ k lv uv : Nat, k ≤ m ∧ i = .int .i64 k ∧ l = .int .i64 lv ∧ u = .int .i64 uv ∧ lv + uv ≤ 255 ∧ Hid (FuelAt wr B lv uv) ∧ Hid (Below w.heap.size w wr)) (fun _ _ i _ => m - (intOf i).toNat)
  case atStart => exact ⟨0, a, 0, Nat.zero_le _, rfl, rfl, rfl, by omega, HBA.out, HB3.out⟩
  case round =>
    obtain ⟨k, lv, uv, hk, rfl, rfl, rfl, hlu, hba, hbel⟩ := hrel
    by_cases hlt : k < m
    · obtain ⟨g, o, rfl, hg, hc⟩ := HZ.out.2 (by omega)
      have c1 := (hbel.out.cell (p := ⟨g, o + k, none⟩) hg).trans (hc k hlt)
      have h31 := i64_and31' (zs.getD k 0)
      generalize zs.getD k 0 = v at *
      obtain ⟨y, hy⟩ : ∃ y : Nat, v % 32 = (y : Int) := ⟨(v % 32).toNat, by omega⟩
      rw [hy] at h31
      have hy31 : y ≤ 31 := by omega
      clear hc hy
      by_cases hy2 : y < 2
      · have HTK := hid (burn_lacks B lv uv ((y : Int) - 2) wr w hba.out (by omega) (by omega) (by omega) hwB hbel.out)
        have hd1 : (y : Int) - 2 < 0 := by omega
        unfold ptr at HTK
        go_wp2_with ((go_at_call 27; refine HTK.out.mono ?_; rintro e w4 ⟨rfl, h4, hb4⟩; have HB4 := hid hb4; have HA4 := hid h4; clear h4 hb4))
        go_roundw
        case rel => exact ⟨k + 1, 0, uv, by omega, by go_num, by go_num, by go_num, by omega, HA4.out, HB4.out⟩
        case measure => simp [intOf]; omega
      obtain ⟨x, rfl⟩ : ∃ x, y = x + 2 := ⟨y - 2, by omega⟩
      have ex : ((x + 2 : Nat) : Int) - 2 = (x : Int) := by omega
      have hx0 : ¬ (x : Int) < 0 := by omega
      by_cases hyl : x ≤ lv
      · have HTK := hid (burn_fits B lv uv x wr w hba.out hyl (by omega) (by omega) hwB hbel.out)
        have HUS := hid (fun W (h : FuelAt W B (lv - x) (uv + x)) => fused_any B (lv - x) (uv + x) W h)
        have hd1 : ¬ (lv : Int) < (x : Int) := by omega
        unfold ptr at HTK HUS
        go_wp2_with (first | (go_at_call 27; refine HTK.out.mono ?_; rintro e w4 ⟨rfl, h4, hb4⟩; have HB4 := hid hb4; have HA4 := hid h4; clear h4 hb4) | (go_at_call 23; refine (HUS.out _ HA4.out).mono ?_; rintro e w5 ⟨rfl, rfl⟩))
        go_roundw
        case rel => exact ⟨k + 1, lv - x, uv + x, by omega, by go_num, by go_num, by go_num, by omega, HA4.out, HB4.out⟩
        case measure => simp [intOf]; omega
      · have HTK := hid (burn_lacks B lv uv x wr w hba.out (by omega) (by omega) (by omega) hwB hbel.out)
        have hd1 : (lv : Int) < (x : Int) := by omega
        unfold ptr at HTK
        go_wp2_with ((go_at_call 27; refine HTK.out.mono ?_; rintro e w4 ⟨rfl, h4, hb4⟩; have HB4 := hid hb4; have HA4 := hid h4; clear h4 hb4))
        go_roundw
        case rel => exact ⟨k + 1, 0, uv, by omega, by go_num, by go_num, by go_num, by omega, HA4.out, HB4.out⟩
        case measure => simp [intOf]; omega
    · have HG9 := hid (fun W => fill_any 9 9 rfl W)
      have HG3 := hid (fun W => fill_any (-3) 0 rfl W)
      have HT0 : Hid (∀ W, Calls Tryz.prog 27 #[.pointer none, .int .i64 0] W fun e w' => e = .returned (.int .i64 31) ∧ W = w') := hid (fun W => burn_nil 0 W)
      have HUN := hid (fun W => fused_nil W)
      have HMN := hid (fun F W W0 (h : FuelAt W F 9 0) h0 hb => smatch_nil F W W0 h h0 hb)
      have HPN := hid (fun t p W => places_nil t p W)
      have HSN := hid (fun t p W => star_nil t p W)
      have HUS := hid (fun W (h : FuelAt W B lv uv) => fused_any B lv uv W h)
      have HT1 : Hid (∀ D W, FuelAt W D 0 0 → wr.heap.size ≤ D → Below wr.heap.size wr W → Calls Tryz.prog 27 #[ptr D, .int .i64 1] W fun e w' => e = .returned (.int .i64 31) ∧ FuelAt w' D 0 0 ∧ Below wr.heap.size wr w') := hid (fun D W h hD hb => burn_lacks D 0 0 1 W wr h (by omega) (by omega) (by omega) hD hb)
      have HFU := hid (fun W (hb : Below wr.heap.size wr W) => hba.out.below hb)
      have HNOW : Hid (Below wr.heap.size wr wr) := Below.refl _ _
      unfold ptr at HUS HT1 HMN
      go_wp2_with (first
        | (go_at_call 21; first | (with_reducible refine (HG9.out _).mono ?_; rintro e w7 ⟨rfl, h7, hb7⟩; have hsz7 := HNOW.out.size; have HNOW := hid (HNOW.out.trans (hb7.mono HNOW.out.size)); have HA7 := hid h7; clear h7 hb7) | (with_reducible refine (HG3.out _).mono ?_; rintro e w8 ⟨rfl, h8, hb8⟩; have hsz8 := HNOW.out.size; have HNOW := hid (HNOW.out.trans (hb8.mono HNOW.out.size)); have HA8 := hid h8; clear h8 hb8))
        | (go_at_call 26; refine (HMN.out _ _ wr HA7.out hsz7 HNOW.out).mono ?_; rintro e w9 ⟨rfl, hb9⟩; have HNOW := hid hb9; clear hb9)
        | (go_at_call 22; refine (HPN.out _ _ _).mono ?_; rintro e w10 ⟨rfl, rfl⟩)
        | (go_at_call 28; refine (HSN.out _ _ _).mono ?_; rintro e w10 ⟨rfl, rfl⟩)
        | (go_at_call 23; first | (with_reducible refine (HUN.out _).mono ?_; rintro e w6 ⟨rfl, rfl⟩) | (with_reducible refine (HUS.out _ (HFU.out _ HNOW.out)).mono ?_; rintro e w6 ⟨rfl, rfl⟩))
        | (go_at_call 27; first | (with_reducible refine (HT0.out _).mono ?_; rintro e w6 ⟨rfl, rfl⟩) | (with_reducible refine (HT1.out _ _ HA8.out hsz8 HNOW.out).mono ?_; rintro e w11 ⟨rfl, -, hb11⟩; have HNOW := hid hb11; clear hb11)))
      go_ret
      exact ⟨rfl, hbel.out.trans (HNOW.out.mono hbel.out.size)⟩
end Go.Proofs.YtfpfloahkibcgaaGreatDoor
