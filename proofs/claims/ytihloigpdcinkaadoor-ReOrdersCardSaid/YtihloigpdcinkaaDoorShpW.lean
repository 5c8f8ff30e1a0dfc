/- The walks of Shape's small methods. -/
import Derived.Test.YtihloigpdcinkaaDoorShp
namespace Go.Proofs.YtihloigpdcinkaaDoor
open Go.RowKit

theorem code_wrap (s : Shp) : wrap64 ((IntKind.u64.wrap s.op).tmod 9) = (s.code : Int) := by
  have h1 : IntKind.u64.wrap s.op = s.op % 18446744073709551616 := rfl
  have h2 : 0 ≤ s.op % 18446744073709551616 := Int.emod_nonneg _ (by decide)
  rw [h1, Int.tmod_eq_emod_of_nonneg h2]
  unfold Shp.code
  rw [IntWalk.wrap64_in _ (by omega)]
  omega
theorem code_lt (s : Shp) : s.code < 9 := Nat.mod_lt _ (by decide)

theorem shOp_any (s : Shp) (A : Option Addr) (c : Nat) (w : World) (hw : s.Wf) : Calls Tryd.prog 47 #[s.val A c] w fun e w' => e = .returned (.int .i64 s.code) ∧ Below w.heap.size w w' := by
  obtain ⟨⟨h1, h2⟩, -⟩ := hw
  go_enter Tryd.func47, Tryd.ntmps47
  go_wp2_with fail
  go_ret
  refine ⟨?_, (Below.refl _ _).alloc (Nat.le_refl _) _⟩
  show Ending.returned (Value.int IntKind.i64 (wrap64 ((IntKind.u64.wrap s.op).tmod 9))) = _
  rw [code_wrap]

theorem below_drewN (n : Nat) (w : World) (k : Nat) : Below n w (w.drewN k) := ⟨rfl, rfl, rfl, Nat.le_refl _, fun _ _ => rfl⟩
theorem and3_u8 (b : Nat) (hb : b < 256) : bits .and .u8 (b : Int) 3 = ((b % 4 : Nat) : Int) := by
  have h : ∀ b : Fin 256, bits .and .u8 (b.val : Int) 3 = ((b.val % 4 : Nat) : Int) := by decide +kernel
  exact h ⟨b, hb⟩
theorem shLow_any (s : Shp) (A : Option Addr) (c : Nat) (w : World) (hw : s.Wf) : Calls Tryd.prog 48 #[s.val A c] w fun e w' => e = .returned (.tuple #[.int .u8 s.lo, .int .u8 s.hi]) ∧ Below w.heap.size w w' := by
  obtain ⟨-, h1, h2, -⟩ := hw
  have HL := and3_u8 s.low h1
  have hx4 := Nat.mod_lt s.low (show 4 > 0 by decide)
  have hy4 := Nat.mod_lt s.high (show 4 > 0 by decide)
  have HH := and3_u8 s.high h2
  unfold Shp.lo Shp.hi Shp.val
  generalize s.low % 4 = x at HL hx4 ⊢
  generalize s.high % 4 = y at HH hy4 ⊢
  go_enter Tryd.func48, Tryd.ntmps48
  go_wp2_with fail
  go_quiet (fail)
  go_wp2_with fail
  refine bodyPost_ret (v := .tuple #[.int .u8 (97 + (x : Int)), .int .u8 (97 + (y : Int))]) (by simp [results, Tryd.results48, go_sem]) rfl ⟨rfl, Below.trans ((Below.refl _ _).alloc (Nat.le_refl _) _) (below_drewN _ _ _)⟩

mutual
theorem Shp.ind_ {P : Shp → Prop} (h : ∀ s : Shp, (∀ k ∈ s.kids, P k) → P s) : ∀ s : Shp, P s
  | .mk _ _ _ _ ks => h _ (Shp.inds_ h ks)
theorem Shp.inds_ {P : Shp → Prop} (h : ∀ s : Shp, (∀ k ∈ s.kids, P k) → P s) : ∀ l : List Shp, ∀ k ∈ l, P k
  | [], _, hk => by cases hk
  | s :: l, k, hk => by
    rcases List.mem_cons.1 hk with e | e
    · rw [e]; exact Shp.ind_ h s
    · exact Shp.inds_ h l k e
end

theorem count_any (s : Shp) : ∀ (A : Option Addr) (c d : Nat) (w : World), ShAt w s (A, c) → d ≤ 13 → Calls Tryd.prog 46 #[s.val A c, .int .i64 d] w fun e w' => e = .returned (.int .i64 (s.count d)) ∧ Below w.heap.size w w' := by
  induction s using Shp.ind_ with
  | h s ih =>
    intro A c d w hat hd
    obtain ⟨z, hz⟩ : ∃ z, z = s.count d := ⟨_, rfl⟩
    rw [← hz]
    have HZ := hid hz
    have HIH := hid ih
    obtain ⟨-, -, hkids⟩ := hat.open_
    have HK := hid hkids
    have hts : s.text.size ≤ 9223372036854775807 := hat.open_.1.2.2.2.1
    have hkl : s.kids.length ≤ 9223372036854775807 := hat.open_.1.2.2.2.2
    clear hz ih hat hkids
    unfold Shp.val
    obtain ⟨n, hn⟩ : ∃ n, n = s.kids.length := ⟨_, rfl⟩
    rw [← hn] at hkl ⊢
    have HN := hid hn
    clear hn
    go_enter Tryd.func46, Tryd.ntmps46
    by_cases h12 : 12 < d
    · go_wp2_with fail
      go_ret
      refine ⟨?_, (Below.refl _ _).alloc (Nat.le_refl _) _⟩
      rw [HZ.out, Shp.count_eq, if_pos (.inl h12)]
      rfl
    · by_cases h20 : 20 < s.text.size
      · go_wp2_with fail
        go_ret
        refine ⟨?_, (Below.refl _ _).alloc (Nat.le_refl _) _⟩
        rw [HZ.out, Shp.count_eq, if_pos (.inr h20)]
        rfl
      · have HZ' : Hid (z = Shp.countGo s.kids d 1) := by rw [HZ.out, Shp.count_eq, if_neg (by omega)]; rfl
        go_wp2_with fail
        obtain ⟨w1, hw1⟩ : ∃ w1 : World, w1 = w.alloc (.cells #[Value.int IntKind.i64 s.op, Value.int IntKind.u8 ↑s.low, Value.int IntKind.u8 ↑s.high, Value.string s.text, Value.slice A n c] 26) := ⟨_, rfl⟩
        rw [← hw1]
        have HB0 : Hid (Below w.heap.size w w1) := by rw [hw1]; exact (Below.refl _ _).alloc (Nat.le_refl _) _
        clear hw1
        go_loopw [5, 19] (fun m i wr => ∃ (k m' : Nat), k ≤ n ∧ m' ≤ 1000 ∧ m = .int .i64 m' ∧ i = .int .i64 k ∧ Hid (Shp.countGo (s.kids.drop k) d m' = z) ∧ Hid (Below w.heap.size w wr)) (fun _ i _ => n - (intOf i).toNat)
        case atStart => exact ⟨0, 1, Nat.zero_le _, by omega, rfl, rfl, by rw [HZ'.out]; rfl, HB0⟩
        case round =>
          obtain ⟨k, m, hk, hm, rfl, rfl, hco, hbel⟩ := hrel
          by_cases hlt : k < n
          · obtain ⟨g, o, x, B, cx, rfl, hx, hg, hatx, k0, k1, k2, k3, k4⟩ := HK.out.at_ (k := k) (by rw [← HN.out]; exact hlt)
            have hb := fun i => hbel.out.cell (p := ⟨g, i, none⟩) hg
            have c0 := (hb _).trans k0; have c1 := (hb _).trans k1; have c2 := (hb _).trans k2; have c3 := (hb _).trans k3; have c4 := (hb _).trans k4
            obtain ⟨q, hq⟩ : ∃ q, q = x.count (d + 1) := ⟨_, rfl⟩
            have hle := Shp.count_le x (d + 1)
            have HST := hid (hco.out.symm.trans (Shp.countGo_drop _ _ _ _ _ hx))
            have HC : Hid (∀ W, ShAt W x (B, cx) → Calls Tryd.prog 46 #[x.val B cx, .int .i64 ((d : Int) + 1)] W fun e w' => e = .returned (.int .i64 q) ∧ Below W.heap.size W w') := fun W hW => by
              have := HIH.out x (List.mem_of_getElem? hx) B cx (d + 1) W hW (by omega)
              rw [← hq] at this
              exact this
            rw [← hq] at HST hle
            have HW := hid (hatx.under hbel.out)
            unfold Shp.val at HC
            clear k0 k1 k2 k3 k4 hb hx hq hatx
            by_cases h1000 : 1000 < m + q
            · have HZ2 : Hid (z = m + q) := by rw [HST.out, if_pos h1000]; rfl
              go_wp2_with (go_at_call 46; refine (HC.out _ (HW.out.under (Below.alloc (Below.refl _ _) (Nat.le_refl _) _))).mono ?_; rintro e w' ⟨rfl, hb2⟩; have HB2 := hid hb2; clear hb2)
              go_ret
              refine ⟨?_, hbel.out.trans ((Below.alloc (Below.refl _ _) (Nat.le_refl _) _).trans (HB2.out.mono (by simp)) |>.mono hbel.out.size)⟩
              rw [HZ2.out]
              rfl
            · have HZ2 : Hid (Shp.countGo (s.kids.drop (k + 1)) d (m + q) = z) := by have := HST.out; rw [if_neg h1000] at this; exact this.symm
              go_wp2_with (go_at_call 46; refine (HC.out _ (HW.out.under (Below.alloc (Below.refl _ _) (Nat.le_refl _) _))).mono ?_; rintro e w' ⟨rfl, hb2⟩; have HB2 := hid hb2; clear hb2)
              go_roundw
              case rel =>
               exact ⟨k + 1, m + q, by omega, by omega, by go_num, by go_num, HZ2.out, hbel.out.trans ((Below.alloc (Below.refl _ _) (Nat.le_refl _) _).trans (HB2.out.mono (by simp)) |>.mono hbel.out.size)⟩
              case measure => simp [intOf]; omega
          · have HE : Hid (m = z) := by
              have := hco.out
              rw [List.drop_eq_nil_of_le (by rw [← HN.out]; omega), Shp.countGo] at this
              exact this
            go_wp2_with fail
            go_ret
            refine ⟨?_, hbel.out⟩
            rw [← HE.out]
            rfl

theorem few_any (s : Shp) (A : Option Addr) (c : Nat) (w : World) (hat : ShAt w s (A, c)) : Calls Tryd.prog 12 #[s.val A c] w fun e w' => e = .returned (.bool s.few) ∧ Below w.heap.size w w' := by
  have HC := hid fun W (hW : ShAt W s (A, c)) => count_any s A c 0 W hW (by omega)
  have HF : Hid (s.few = decide (s.count 0 ≤ 30)) := rfl
  have HW := hid hat
  obtain ⟨z, hz⟩ : ∃ z, z = s.few := ⟨_, rfl⟩
  rw [← hz] at HF ⊢
  have hle := Shp.count_le s 0
  obtain ⟨q, hq⟩ : ∃ q, q = s.count 0 := ⟨_, rfl⟩
  rw [← hq] at HF HC hle
  clear hat hz hq
  unfold Shp.val at HC ⊢
  go_enter Tryd.func12, Tryd.ntmps12
  go_wp2_with (go_at_call 46; refine (HC.out _ (HW.out.under (Below.alloc (Below.refl _ _) (Nat.le_refl _) _))).mono ?_; rintro e w' ⟨rfl, hb2⟩; have HB2 := hid hb2; clear hb2)
  go_ret
  refine ⟨?_, (Below.alloc (Below.refl _ _) (Nat.le_refl _) _).trans (HB2.out.mono (by simp))⟩
  rw [HF.out]
  show Ending.returned (Value.bool (decide ((q : Int) ≤ 30))) = _
  congr 2
  exact decide_eq_decide.2 (by omega)
end Go.Proofs.YtihloigpdcinkaaDoor
