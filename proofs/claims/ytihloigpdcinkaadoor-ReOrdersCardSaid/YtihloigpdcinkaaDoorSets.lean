/- The walks of the functions of package set. -/
import Derived.Test.YtihloigpdcinkaaDoorSetEach
namespace Go.Proofs.YtihloigpdcinkaaDoor
open Go.RowKit

theorem bits_or64 (x y : BitVec 64) : bits .or .u64 (x.toNat : Int) (y.toNat : Int) = ((x ||| y).toNat : Int) := by rw [u64_or_nat _ _ x.isLt y.isLt]; simp
theorem bits_and64 (x y : BitVec 64) : bits .and .u64 (x.toNat : Int) (y.toNat : Int) = ((x &&& y).toNat : Int) := by rw [u64_and_nat _ _ x.isLt y.isLt]; simp
theorem bits_andNot64 (x y : BitVec 64) : bits .andNot .u64 (x.toNat : Int) (y.toNat : Int) = ((x &&& ~~~y).toNat : Int) := by
  rw [u64_andNot_nat _ _ x.isLt y.isLt]; simp
theorem bits_bit (x : BitVec 64) (k : Nat) : (bits .and .u64 ((x.toNat : Int) / 2 ^ k) 1 == 1) = x.getLsbD k := by
  have h1 : ((x.toNat : Int) / 2 ^ k) = ((x.toNat / 2 ^ k : Nat) : Int) := by simp
  have h2 : x.toNat / 2 ^ k < 18446744073709551616 := Nat.lt_of_le_of_lt (Nat.div_le_self _ _) x.isLt
  rw [h1, show (1 : Int) = ((1 : Nat) : Int) from rfl, u64_and_nat _ _ h2 (by omega), Nat.and_one_is_mod, BitVec.getLsbD, Nat.testBit_eq_decide_div_mod_eq]
  rw [Bool.eq_iff_iff]; simp; omega
theorem bits_add64 (x : BitVec 64) (k : Nat) (hk : k < 64) : bits .or .u64 (x.toNat : Int) ((2 : Int) ^ k) = ((x ||| BitVec.twoPow 64 k).toNat : Int) := by
  have : ((2 : Int) ^ k) = ((BitVec.twoPow 64 k).toNat : Int) := by
    rw [BitVec.toNat_twoPow_of_lt (by omega)]; simp
  rw [this, bits_or64]

set_option maxHeartbeats 400000 in
theorem has_any (s : CSet) (b : Nat) (w : World) (hb : b < 256) :
    Calls Tryd.prog 36 #[cv s, .int .u8 b] w fun e w' => e = .returned (.bool (s.has b)) ∧ Below w.heap.size w w' := by
  have e4 : b / 64 = 0 ∨ b / 64 = 1 ∨ b / 64 = 2 ∨ b / 64 = 3 := by omega
  unfold cv
  rcases e4 with e | e | e | e
  all_goals
    have hq : (b : Int) / 64 = ((b / 64 : Nat) : Int) := by omega
    have hh : s.has b = (s.word (b / 64)).getLsbD (b % 64) := rfl
    have hm1 := bits_bit (s.word (b / 64)) (b % 64)
    rw [← hh] at hm1
    rw [e] at hq hm1
    simp only [CSet.word] at hm1
    clear hh e
    generalize s.has b = r at hm1 ⊢
    go_enter Tryd.func36, Tryd.ntmps36
    go_wp2
    go_ret
    exact ⟨by simp, (Below.refl _ _).alloc (Nat.le_refl _) _⟩

theorem bits_not64 (x : BitVec 64) : bits .xor .u64 IntKind.u64.max (x.toNat : Int) = ((~~~x).toNat : Int) := by
  rw [show IntKind.u64.max = ((18446744073709551615 : Nat) : Int) from rfl, u64_xor_nat _ _ (by omega) x.isLt]
  have : ~~~x = BitVec.allOnes 64 ^^^ x := (BitVec.allOnes_xor).symm
  rw [this, BitVec.toNat_xor]
  rfl
theorem or_fn (x y : BitVec 64) (w : World) : Calls Tryd.prog 71 #[.int .u64 x.toNat, .int .u64 y.toNat] w fun e w' => e = .returned (.int .u64 (x ||| y).toNat) ∧ w = w' := by
  have h := bits_or64 x y
  generalize x ||| y = z at h ⊢
  go_enter Tryd.func71, Tryd.ntmps71
  go_wp2
  go_ret
  exact ⟨rfl, rfl⟩
theorem and_fn (x y : BitVec 64) (w : World) : Calls Tryd.prog 75 #[.int .u64 x.toNat, .int .u64 y.toNat] w fun e w' => e = .returned (.int .u64 (x &&& y).toNat) ∧ w = w' := by
  have h := bits_and64 x y
  generalize x &&& y = z at h ⊢
  go_enter Tryd.func75, Tryd.ntmps75
  go_wp2
  go_ret
  exact ⟨rfl, rfl⟩
theorem minus_fn (x y : BitVec 64) (w : World) : Calls Tryd.prog 77 #[.int .u64 x.toNat, .int .u64 y.toNat] w fun e w' => e = .returned (.int .u64 (x &&& ~~~y).toNat) ∧ w = w' := by
  have h := bits_andNot64 x y
  generalize x &&& ~~~y = z at h ⊢
  go_enter Tryd.func77, Tryd.ntmps77
  go_wp2
  go_ret
  exact ⟨rfl, rfl⟩
theorem not_fn (x y : BitVec 64) (w : World) : Calls Tryd.prog 87 #[.int .u64 x.toNat, .int .u64 y.toNat] w fun e w' => e = .returned (.int .u64 (~~~x).toNat) ∧ w = w' := by
  have h := (fun x (_ : BitVec 64) => bits_not64 x) x y
  generalize ~~~x = z at h ⊢
  have hs : IntKind.u64.signed = false := rfl
  go_enter Tryd.func87, Tryd.ntmps87
  go_wp2
  go_ret
  exact ⟨rfl, rfl⟩
set_option maxHeartbeats 400000 in
theorem setOr_any (s t : CSet) (w : World) : Calls Tryd.prog 52 #[cv s, cv t] w fun e w' => e = .returned (cv (s.or t)) ∧ Below w.heap.size w w' := by
  have hc : ∀ W, Calls Tryd.prog 70 #[cv s, cv t, .func (.func 71) #[] #[]] W fun e w' => e = .returned (cv (s.or t)) ∧ Below W.heap.size W w' := fun W => each_any s t _ 71 W (enters_of Tryd.func71 (by kernel_rfl) rfl) or_fn
  have HC := hid hc
  clear hc
  generalize s.or t = u at HC ⊢
  unfold cv at HC ⊢
  go_enter Tryd.func52, Tryd.ntmps52
  go_wp2_with (go_at_call 70; refine (HC.out _).mono ?_; rintro e w' ⟨rfl, hb⟩; obtain ⟨hc, hf⟩ := bcell hb; have hz : w.heap.size + 1 + 1 < w'.heap.size := by have := hb.size; simp at this; omega)
  have hk := set4 (w := w') (g := w.heap.size + 1 + 1) (T := 42) (v0 := .int .u64 0) (v1 := .int .u64 0) (v2 := .int .u64 0) (v3 := .int .u64 0) (blk_below (by simpa using blk_new ((w.alloc _).alloc _) _) hb) (.int .u64 u.a.toNat) (.int .u64 u.b.toNat) (.int .u64 u.c.toNat) (.int .u64 u.d.toNat)
  obtain ⟨k0, k1, k2, k3⟩ := hk
  refine bodyPost_ret (v := .agg #[.int .u64 u.a.toNat, .int .u64 u.b.toNat, .int .u64 u.c.toNat, .int .u64 u.d.toNat]) (by simp [results, Tryd.results52, go_sem, k0, k1, k2, k3]) rfl ⟨rfl, ?_⟩
  exact below4 (((((Below.refl _ _).alloc (Nat.le_refl _) _).alloc (by simp) _).alloc (by simp; omega) _).trans (hb.mono (by simp; omega))) (by omega) _ _ _ _
set_option maxHeartbeats 400000 in
theorem setAnd_any (s t : CSet) (w : World) : Calls Tryd.prog 56 #[cv s, cv t] w fun e w' => e = .returned (cv (s.and t)) ∧ Below w.heap.size w w' := by
  have hc : ∀ W, Calls Tryd.prog 70 #[cv s, cv t, .func (.func 75) #[] #[]] W fun e w' => e = .returned (cv (s.and t)) ∧ Below W.heap.size W w' := fun W => each_any s t _ 75 W (enters_of Tryd.func75 (by kernel_rfl) rfl) and_fn
  have HC := hid hc
  clear hc
  generalize s.and t = u at HC ⊢
  unfold cv at HC ⊢
  go_enter Tryd.func56, Tryd.ntmps56
  go_wp2_with (go_at_call 70; refine (HC.out _).mono ?_; rintro e w' ⟨rfl, hb⟩; obtain ⟨hc, hf⟩ := bcell hb; have hz : w.heap.size + 1 + 1 < w'.heap.size := by have := hb.size; simp at this; omega)
  have hk := set4 (w := w') (g := w.heap.size + 1 + 1) (T := 42) (v0 := .int .u64 0) (v1 := .int .u64 0) (v2 := .int .u64 0) (v3 := .int .u64 0) (blk_below (by simpa using blk_new ((w.alloc _).alloc _) _) hb) (.int .u64 u.a.toNat) (.int .u64 u.b.toNat) (.int .u64 u.c.toNat) (.int .u64 u.d.toNat)
  obtain ⟨k0, k1, k2, k3⟩ := hk
  refine bodyPost_ret (v := .agg #[.int .u64 u.a.toNat, .int .u64 u.b.toNat, .int .u64 u.c.toNat, .int .u64 u.d.toNat]) (by simp [results, Tryd.results56, go_sem, k0, k1, k2, k3]) rfl ⟨rfl, ?_⟩
  exact below4 (((((Below.refl _ _).alloc (Nat.le_refl _) _).alloc (by simp) _).alloc (by simp; omega) _).trans (hb.mono (by simp; omega))) (by omega) _ _ _ _
set_option maxHeartbeats 400000 in
theorem setMinus_any (s t : CSet) (w : World) : Calls Tryd.prog 63 #[cv s, cv t] w fun e w' => e = .returned (cv (s.minus t)) ∧ Below w.heap.size w w' := by
  have hc : ∀ W, Calls Tryd.prog 70 #[cv s, cv t, .func (.func 77) #[] #[]] W fun e w' => e = .returned (cv (s.minus t)) ∧ Below W.heap.size W w' := fun W => each_any s t _ 77 W (enters_of Tryd.func77 (by kernel_rfl) rfl) minus_fn
  have HC := hid hc
  clear hc
  generalize s.minus t = u at HC ⊢
  unfold cv at HC ⊢
  go_enter Tryd.func63, Tryd.ntmps63
  go_wp2_with (go_at_call 70; refine (HC.out _).mono ?_; rintro e w' ⟨rfl, hb⟩; obtain ⟨hc, hf⟩ := bcell hb; have hz : w.heap.size + 1 + 1 < w'.heap.size := by have := hb.size; simp at this; omega)
  have hk := set4 (w := w') (g := w.heap.size + 1 + 1) (T := 42) (v0 := .int .u64 0) (v1 := .int .u64 0) (v2 := .int .u64 0) (v3 := .int .u64 0) (blk_below (by simpa using blk_new ((w.alloc _).alloc _) _) hb) (.int .u64 u.a.toNat) (.int .u64 u.b.toNat) (.int .u64 u.c.toNat) (.int .u64 u.d.toNat)
  obtain ⟨k0, k1, k2, k3⟩ := hk
  refine bodyPost_ret (v := .agg #[.int .u64 u.a.toNat, .int .u64 u.b.toNat, .int .u64 u.c.toNat, .int .u64 u.d.toNat]) (by simp [results, Tryd.results63, go_sem, k0, k1, k2, k3]) rfl ⟨rfl, ?_⟩
  exact below4 (((((Below.refl _ _).alloc (Nat.le_refl _) _).alloc (by simp) _).alloc (by simp; omega) _).trans (hb.mono (by simp; omega))) (by omega) _ _ _ _
set_option maxHeartbeats 400000 in
theorem setNot_any (s : CSet) (w : World) : Calls Tryd.prog 76 #[cv s] w fun e w' => e = .returned (cv (s.not)) ∧ Below w.heap.size w w' := by
  have hc : ∀ W, Calls Tryd.prog 70 #[cv s, cv s, .func (.func 87) #[] #[]] W fun e w' => e = .returned (cv (s.not)) ∧ Below W.heap.size W w' := fun W => each_any s s _ 87 W (enters_of Tryd.func87 (by kernel_rfl) rfl) not_fn
  have HC := hid hc
  clear hc
  generalize s.not = u at HC ⊢
  unfold cv at HC ⊢
  go_enter Tryd.func76, Tryd.ntmps76
  go_wp2_with (go_at_call 70; refine (HC.out _).mono ?_; rintro e w' ⟨rfl, hb⟩; obtain ⟨hc, hf⟩ := bcell hb; have hz : w.heap.size + 1 < w'.heap.size := by have := hb.size; simp at this; omega)
  have hk := set4 (w := w') (g := w.heap.size + 1) (T := 42) (v0 := .int .u64 0) (v1 := .int .u64 0) (v2 := .int .u64 0) (v3 := .int .u64 0) (blk_below (by simpa using blk_new ((w.alloc _)) _) hb) (.int .u64 u.a.toNat) (.int .u64 u.b.toNat) (.int .u64 u.c.toNat) (.int .u64 u.d.toNat)
  obtain ⟨k0, k1, k2, k3⟩ := hk
  refine bodyPost_ret (v := .agg #[.int .u64 u.a.toNat, .int .u64 u.b.toNat, .int .u64 u.c.toNat, .int .u64 u.d.toNat]) (by simp [results, Tryd.results76, go_sem, k0, k1, k2, k3]) rfl ⟨rfl, ?_⟩
  exact below4 ((((Below.refl _ _).alloc (Nat.le_refl _) _).alloc (by simp) _).trans (hb.mono (by simp; omega))) (by omega) _ _ _ _
set_option maxHeartbeats 400000 in
theorem setAll_any (w : World) : Calls Tryd.prog 57 #[] w fun e w' => e = .returned (cv CSet.all) ∧ Below w.heap.size w w' := by
  have hc := fun W => setNot_any CSet.zero W
  have HC := hid hc
  clear hc
  unfold CSet.all
  generalize CSet.zero.not = u at HC ⊢
  unfold cv CSet.zero at HC
  unfold cv
  go_enter Tryd.func57, Tryd.ntmps57
  go_wp2_with (go_at_call 76; refine (HC.out _).mono ?_; rintro e w' ⟨rfl, hb⟩; obtain ⟨hc, hf⟩ := bcell hb; have hz : w.heap.size < w'.heap.size := by have := hb.size; simp at this; omega)
  have hk := set4 (w := w') (g := w.heap.size) (T := 42) (v0 := .int .u64 0) (v1 := .int .u64 0) (v2 := .int .u64 0) (v3 := .int .u64 0) (blk_below (by simpa using blk_new w _) hb) (.int .u64 u.a.toNat) (.int .u64 u.b.toNat) (.int .u64 u.c.toNat) (.int .u64 u.d.toNat)
  obtain ⟨k0, k1, k2, k3⟩ := hk
  refine bodyPost_ret (v := .agg #[.int .u64 u.a.toNat, .int .u64 u.b.toNat, .int .u64 u.c.toNat, .int .u64 u.d.toNat]) (by simp [results, Tryd.results57, go_sem, k0, k1, k2, k3]) rfl ⟨rfl, ?_⟩
  exact below4 (((Below.refl _ _).alloc (Nat.le_refl _) _).trans (hb.mono (by simp))) (by omega) _ _ _ _

end Go.Proofs.YtihloigpdcinkaaDoor
