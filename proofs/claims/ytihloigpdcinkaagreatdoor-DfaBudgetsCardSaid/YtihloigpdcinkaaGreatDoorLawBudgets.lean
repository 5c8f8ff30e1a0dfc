/- The walk of DfaBudgets. -/
import Derived.Test.YtihloigpdcinkaaGreatDoorHead6
import Derived.Test.YtihloigpdcinkaaGreatDoorPkK
namespace Go.Proofs.YtihloigpdcinkaaGreatDoor
open Go.RowKit Go.Maps

theorem i64_and31 (n : Int) : bits .and .i64 n 31 = n % 32 := by
  have hm : (BitVec.ofInt 64 31).toNat = 2 ^ 5 - 1 := by decide
  have key : (BitVec.ofInt 64 n &&& BitVec.ofInt 64 31).toNat = (n % ((2 ^ 64 : Nat) : Int)).toNat % 2 ^ 5 := by
    rw [BitVec.toNat_and, BitVec.toNat_ofInt, hm, Nat.and_two_pow_sub_one_eq_mod]
  show IntKind.i64.wrap ((BitVec.ofInt 64 n &&& BitVec.ofInt 64 31).toNat : Nat) = n % 32
  rw [key, IntKind.wrap_i64]
  omega
/-- Take, where there are so many. -/
theorem take_fits (B left used n : Nat) (w w0 : World) (h : BudAt w B left used) (hn : n ≤ left) (hb : left + used ≤ 4611686018427387904) (h0 : w0.heap.size ≤ B) (hbl : Below w0.heap.size w0 w) :
    Calls Tryz.prog 9 #[ptr B, .int .i64 n] w fun e w' => e = .returned (.int .i64 0) ∧ BudAt w' B (left - n) (used + n) ∧ Below w0.heap.size w0 w' :=
  (take_yes B left used n w h hn hb).mono fun e w' hh => by
    obtain ⟨rfl, rfl⟩ := hh
    exact ⟨rfl, (h.set0 _).set1 _, (hbl.setCell (p := ⟨B, 0, none⟩) h0 _).setCell (p := ⟨B, 1, none⟩) h0 _⟩
theorem take_lacks (B left used n : Nat) (w w0 : World) (h : BudAt w B left used) (hn : left < n) (h0 : w0.heap.size ≤ B) (hbl : Below w0.heap.size w0 w) :
    Calls Tryz.prog 9 #[ptr B, .int .i64 n] w fun e w' => e = .returned (.int .i64 5) ∧ BudAt w' B 0 used ∧ Below w0.heap.size w0 w' :=
  (take_no B left used n w h hn).mono fun e w' hh => by
    obtain ⟨rfl, rfl⟩ := hh
    exact ⟨rfl, h.set0 _, hbl.setCell (p := ⟨B, 0, none⟩) h0 _⟩
set_option maxRecDepth 100000 in
set_option maxHeartbeats 4000000 in
theorem dfaBudgets_any (n : Int) (zs : List Int) (A : Option Addr) (m c : Nat) (w : World) (hz : Nums w A m zs) (hm : m ≤ 9223372036854775807) (hT : Tab w) :
    Calls Tryz.prog 3 #[.int .i64 n, .slice A m c] w fun e w' => e = .returned (.bool true) ∧ Below w.heap.size w w' := by
  have HHE := hid (head6_any w hT)
  have HZ := hid hz
  clear hz hT
  go_enter Tryz.func3, Tryz.ntmps3
  by_cases hm6 : 50 < m
  · have hd : (50 : Int) < (m : Int) := by omega
    go_wp2_with (go_at_call 7; refine HHE.out.mono ?_; rintro e w2 ⟨rfl, hb2⟩; have HB2 := hid hb2; clear hb2)
    go_ret
    exact ⟨rfl, HB2.out⟩
  have hd : ¬ (50 : Int) < (m : Int) := by omega
  have h255 := i64_and255 n
  obtain ⟨a, ha⟩ : ∃ a : Nat, n % 256 = (a : Int) := ⟨(n % 256).toNat, by omega⟩
  have ha255 : a ≤ 255 := by omega
  rw [ha] at h255
  have HGR := hid (fun W => grant_any (a : Int) a (by omega) W)
  clear ha
  go_wp2_with (first | (go_at_call 7; refine HHE.out.mono ?_; rintro e w2 ⟨rfl, hb2⟩; have HB2 := hid hb2; clear hb2) | (go_at_call 8; refine (HGR.out _).mono ?_; rintro e w3 ⟨rfl, h3, hb3⟩; have HB3 := hid (HB2.out.trans (hb3.mono HB2.out.size)); have HBA := hid h3; clear h3 hb3))
  obtain ⟨B, hB⟩ : ∃ B, B = w2.heap.size := ⟨_, rfl⟩
  rw [← hB] at HBA ⊢
  have hwB : w.heap.size ≤ B := by rw [hB]; exact HB2.out.size
  clear hB HGR HHE
  go_loopw [6, 7, 24] (fun l u i wr => ∃ k lv uv : Nat, k ≤ m ∧ i = .int .i64 k ∧ l = .int .i64 lv ∧ u = .int .i64 uv ∧ lv + uv ≤ 255 ∧ Hid (BudAt wr B lv uv) ∧ Hid (Below w.heap.size w wr)) (fun _ _ i _ => m - (intOf i).toNat)
  case atStart => exact ⟨0, a, 0, Nat.zero_le _, rfl, rfl, rfl, by omega, HBA.out, HB3.out⟩
  case round =>
    obtain ⟨k, lv, uv, hk, rfl, rfl, rfl, hlu, hba, hbel⟩ := hrel
    by_cases hlt : k < m
    · obtain ⟨g, o, rfl, hg, hc⟩ := HZ.out.2 (by omega)
      have c1 := (hbel.out.cell (p := ⟨g, o + k, none⟩) hg).trans (hc k hlt)
      have h31 := i64_and31 (zs.getD k 0)
      generalize zs.getD k 0 = v at *
      obtain ⟨y, hy⟩ : ∃ y : Nat, v % 32 = (y : Int) := ⟨(v % 32).toNat, by omega⟩
      rw [hy] at h31
      have hy31 : y ≤ 31 := by omega
      clear hc hy
      by_cases hyl : y ≤ lv
      · have HTK := hid (take_fits B lv uv y wr w hba.out hyl (by omega) hwB hbel.out)
        have HUS := hid (fun W (h : BudAt W B (lv - y) (uv + y)) => used_any B (lv - y) (uv + y) W h)
        have hd1 : ¬ (lv : Int) < (y : Int) := by omega
        unfold ptr at HTK HUS
        go_wp2_with (first | (go_at_call 9; refine HTK.out.mono ?_; rintro e w4 ⟨rfl, h4, hb4⟩; have HB4 := hid hb4; have HA4 := hid h4; clear h4 hb4) | (go_at_call 10; refine (HUS.out _ HA4.out).mono ?_; rintro e w5 ⟨rfl, rfl⟩))
        go_roundw
        case rel => exact ⟨k + 1, lv - y, uv + y, by omega, by go_num, by go_num, by go_num, by omega, HA4.out, HB4.out⟩
        case measure => simp [intOf]; omega
      · have HTK := hid (take_lacks B lv uv y wr w hba.out (by omega) hwB hbel.out)
        have HUS := hid (fun W (h : BudAt W B 0 uv) => used_any B 0 uv W h)
        have hd1 : (lv : Int) < (y : Int) := by omega
        unfold ptr at HTK HUS
        go_wp2_with (first | (go_at_call 9; refine HTK.out.mono ?_; rintro e w4 ⟨rfl, h4, hb4⟩; have HB4 := hid hb4; have HA4 := hid h4; clear h4 hb4) | (go_at_call 10; refine (HUS.out _ HA4.out).mono ?_; rintro e w5 ⟨rfl, rfl⟩))
        go_roundw
        case rel => exact ⟨k + 1, 0, uv, by omega, by go_num, by go_num, by go_num, by omega, HA4.out, HB4.out⟩
        case measure => simp [intOf]; omega
    · have HG5 := hid (fun W => grant_any (-5) 0 rfl W)
      have HTN : Hid (∀ W, Calls Tryz.prog 9 #[ptr B, .int .i64 (-1)] W fun e w' => e = .returned (.int .i64 5) ∧ W = w') := hid (fun W => take_neg B (-1) (by decide) W)
      have HT0 : Hid (∀ W, Calls Tryz.prog 9 #[.pointer none, .int .i64 0] W fun e w' => e = .returned (.int .i64 5) ∧ W = w') := hid (fun W => take_nil 0 W)
      have HUN := hid (fun W => used_nil W)
      have HT1 : Hid (∀ D W, BudAt W D 0 0 → wr.heap.size ≤ D → Below wr.heap.size wr W → Calls Tryz.prog 9 #[ptr D, .int .i64 1] W fun e w' => e = .returned (.int .i64 5) ∧ BudAt w' D 0 0 ∧ Below wr.heap.size wr w') := hid (fun D W h hD hb => take_lacks D 0 0 1 W wr h (by omega) hD hb)
      have HT2 : Hid (∀ D W, BudAt W D 0 0 → wr.heap.size ≤ D → Below wr.heap.size wr W → Calls Tryz.prog 9 #[ptr D, .int .i64 0] W fun e w' => e = .returned (.int .i64 0) ∧ BudAt w' D 0 0 ∧ Below wr.heap.size wr w') := hid (fun D W h hD hb => take_fits D 0 0 0 W wr h (by omega) (by omega) hD hb)
      unfold ptr at HTN HT1 HT2
      go_wp2_with (first
        | (go_at_call 10; with_reducible refine (HUN.out _).mono ?_; rintro e w6 ⟨rfl, rfl⟩)
        | (go_at_call 8; first | (with_reducible refine (HG5.out wr).mono ?_; rintro e w7 ⟨rfl, h7, hb7⟩; have HB7 := hid hb7; have HA7 := hid h7; clear h7 hb7) | (with_reducible refine (HG5.out _).mono ?_; rintro e w9 ⟨rfl, h9, hb9⟩; have HB9 := hid (HB8.out.trans (hb9.mono HB8.out.size)); have HA9 := hid h9; have hsz9 := HB8.out.size; clear h9 hb9))
        | (go_at_call 9; first | (with_reducible refine (HTN.out _).mono ?_; rintro e w6 ⟨rfl, rfl⟩) | (with_reducible refine (HT0.out _).mono ?_; rintro e w6 ⟨rfl, rfl⟩) | (with_reducible refine (HT1.out _ _ HA7.out (Nat.le_refl _) HB7.out).mono ?_; rintro e w8 ⟨rfl, h8, hb8⟩; have HB8 := hid hb8; clear h8 hb8) | (with_reducible refine (HT2.out _ _ HA9.out hsz9 HB9.out).mono ?_; rintro e w10 ⟨rfl, h10, hb10⟩; have HB10 := hid hb10; clear h10 hb10)))
      go_ret
      exact ⟨rfl, hbel.out.trans (HB10.out.mono hbel.out.size)⟩
end Go.Proofs.YtihloigpdcinkaaGreatDoor
