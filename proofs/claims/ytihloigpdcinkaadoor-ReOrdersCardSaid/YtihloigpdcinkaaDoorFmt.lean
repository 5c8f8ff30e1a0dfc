/- strconv.FormatUint to the base 36. -/
import Derived.Test.YtihloigpdcinkaaDoorHeap
namespace Go.Proofs.YtihloigpdcinkaaDoor
open Go.RowKit

/-- The digits written so far stand at the end of the 65 cells. -/
def FmtRel (w : World) (n m : Nat) (l : List UInt8) (wr : World) : Prop :=
  (l = [] ∨ 1 ≤ m) ∧ m * 2 ^ l.length ≤ n ∧ Re.fmtOnto m l = Re.fmt36 n ∧ Below w.heap.size w wr ∧ ∃ cs : Array Value, wr.heap[w.heap.size]? = some (.cells cs 126 (0, 0)) ∧ cs.size = 65 ∧ ∀ (j : Nat) x, l[j]? = some x → cs[65 - l.length + j]? = some (.int .u8 x.toNat)

theorem FmtRel.step {w wr : World} {n m : Nat} {l : List UInt8} (h : FmtRel w n m l wr) (hm : ¬ m < 36) (hl : l.length < 64) :
    FmtRel w n (m / 36) (Re.dig36 (m % 36) :: l) (wr.setCell ⟨w.heap.size, 64 - l.length, none⟩ (.int .u8 (Re.dig36 (m % 36)).toNat)) := by
  obtain ⟨_, h1, h2, h3, cs, h4, h5, h6⟩ := h
  refine ⟨.inr (by omega), ?_, ?_, h3.setCell (p := ⟨w.heap.size, 64 - l.length, none⟩) (Nat.le_refl _) _, _, blk_set h4 _ _, by simpa using h5, ?_⟩
  · refine Nat.le_trans ?_ h1
    rw [List.length_cons, Nat.pow_succ, Nat.mul_comm (2 ^ l.length) 2, ← Nat.mul_assoc]
    exact Nat.mul_le_mul_right _ (by omega)
  · rw [← h2]
    conv => rhs; rw [Re.fmtOnto, dif_neg hm]
  · intro j x hx
    rw [List.length_cons]
    match j, hx with
    | 0, hx =>
      simp at hx
      subst hx
      rw [show 65 - (l.length + 1) + 0 = 64 - l.length by omega, Array.getElem?_setIfInBounds_self_of_lt (by omega)]
    | j + 1, hx =>
      have hj := (List.getElem?_eq_some_iff.1 hx).1
      simp at hx hj
      rw [Array.getElem?_setIfInBounds_ne (by omega), show 65 - (l.length + 1) + (j + 1) = 65 - l.length + j by omega]
      exact h6 j x hx
theorem FmtRel.last {w wr : World} {n m : Nat} {l : List UInt8} (h : FmtRel w n m l wr) (hm : m < 36) (hl : l.length < 64) :
    (Re.fmt36 n).length = l.length + 1 ∧ ∀ j (hj : j < (Re.fmt36 n).length), (wr.setCell ⟨w.heap.size, 64 - l.length, none⟩ (.int .u8 (Re.dig36 m).toNat)).cell? ((⟨w.heap.size, 64 - l.length, none⟩ : Addr).add j) = some (.int .u8 ((Re.fmt36 n)[j].toNat : Int)) := by
  obtain ⟨_, h1, h2, h3, cs, h4, h5, h6⟩ := h
  have e : Re.fmt36 n = Re.dig36 m :: l := by rw [← h2, Re.fmtOnto, dif_pos hm]
  refine ⟨by rw [e]; rfl, fun j hj => ?_⟩
  have hc := blk_cell (blk_set h4 (64 - l.length) (.int .u8 (Re.dig36 m).toNat)) (64 - l.length + j)
  have ha : (⟨w.heap.size, 64 - l.length, none⟩ : Addr).add j = ⟨w.heap.size, 64 - l.length + j, none⟩ := by
    unfold Addr.add; split <;> simp_all
  rw [ha, hc]
  simp only [e]
  match j, hj with
  | 0, hj => rw [Nat.add_zero, Array.getElem?_setIfInBounds_self_of_lt (by omega)]; rfl
  | j + 1, hj =>
    rw [Array.getElem?_setIfInBounds_ne (by omega), show 64 - l.length + (j + 1) = 65 - l.length + j by omega]
    exact h6 j _ (by rw [e] at hj; simp at hj; exact List.getElem?_eq_getElem hj)
theorem pow2_36 (w : World) : Calls Tryd.prog 110 #[.int .i64 36] w fun e w' => e = .returned (.bool false) ∧ w = w' := by
  have hp : bits .and .i64 36 35 = 32 := by decide +kernel
  go_enter Tryd.func110, Tryd.ntmps110
  go_wp2
  go_ret
  exact ⟨rfl, rfl⟩
theorem dig_at (d : Nat) (h : d < 36) (s : ByteArray) (hs : s = ⟨#[48, 49, 50, 51, 52, 53, 54, 55, 56, 57, 97, 98, 99, 100, 101, 102, 103, 104, 105, 106, 107, 108, 109, 110, 111, 112, 113, 114, 115, 116, 117, 118, 119, 120, 121, 122]⟩) (hd : d < s.size) : s[d] = Re.dig36 d := by
  subst hs
  have hall : ∀ d : Fin 36, (⟨#[48, 49, 50, 51, 52, 53, 54, 55, 56, 57, 97, 98, 99, 100, 101, 102, 103, 104, 105, 106, 107, 108, 109, 110, 111, 112, 113, 114, 115, 116, 117, 118, 119, 120, 121, 122]⟩ : ByteArray).data[d.val]? = some (Re.dig36 d.val) := by decide +kernel
  have h1 := hall ⟨d, h⟩
  rw [Array.getElem?_eq_getElem hd] at h1
  exact Option.some.inj h1

set_option maxHeartbeats 1000000 in
set_option maxRecDepth 100000 in
theorem formatBits_any (n : Nat) (w : World) (hn : n < 18446744073709551616) :
    Calls Tryd.prog 95 #[.slice none 0 0, .int .u64 n, .int .i64 36, .bool false, .bool false] w fun e w' => e = .returned (.tuple #[.slice none 0 0, .string ⟨(Re.fmt36 n).toArray⟩]) ∧ Below w.heap.size w w' := by
  obtain ⟨out, ho⟩ : ∃ out, out = Re.fmt36 n := ⟨_, rfl⟩
  rw [← ho]
  have HO := hid ho
  clear ho
  go_enter Tryd.func95, Tryd.ntmps95
  go_wp2_with (go_at_call 110; refine (pow2_36 _).mono ?_; rintro e w' ⟨rfl, rfl⟩)
  go_loopw [1, 13] (fun u i wr => ∃ (m : Nat) (l : List UInt8), u = .int .u64 m ∧ i = .int .i64 ((65 - l.length : Nat) : Int) ∧ FmtRel w n m l wr) (fun u _ _ => (intOf u).toNat)
  case atStart => exact ⟨n, [], rfl, rfl, .inl rfl, by simp, rfl, (Below.refl _ _).alloc (Nat.le_refl _) _, _, blk_new _ _, by simp [Tryd.zeroCells126], fun j x hx => by simp at hx⟩
  case round =>
    obtain ⟨m, l, rfl, rfl, hr⟩ := hrel
    obtain ⟨hne, hm, hf, hb, cs, hcs, hsz, hl⟩ := id hr
    clear hf hl
    have HR := hid hr
    have hmn : m ≤ n := Nat.le_trans (Nat.le_mul_of_pos_right _ (Nat.two_pow_pos _)) hm
    have hll : l.length < 64 := by
      rcases Nat.lt_or_ge l.length 64 with h | h
      · exact h
      · have h1 : 2 ^ 64 ≤ 2 ^ l.length := Nat.pow_le_pow_right (by omega) h
        have h2 : m * 2 ^ 64 ≤ m * 2 ^ l.length := Nat.mul_le_mul_left _ h1
        have h3 : 1 ≤ m := by
          rcases hne with e | e
          · rw [e] at h; simp at h
          · exact e
        omega
    obtain ⟨k, hk⟩ : ∃ k, k = 64 - l.length := ⟨_, rfl⟩
    have hi : ((65 - l.length : Nat) : Int) - 1 = (k : Int) := by omega
    have h64 : k < 65 := by omega
    have fz := blk_free hcs k
    obtain ⟨x0, cz⟩ : ∃ x, wr.cell? ⟨w.heap.size, k, none⟩ = some x := ⟨cs[k], by rw [blk_cell hcs k, Array.getElem?_eq_getElem (by omega)]⟩
    have HB := hid hb
    have HK := hid hk
    by_cases hlt : m < 36
    · obtain ⟨e1, e2⟩ := hr.last hlt hll
      rw [← hk] at e2
      have hcv := fun W h => run_convert_bytes_back (P := Tryd.prog) W 53 9 5 ⟨w.heap.size, k, none⟩ (65 - k) (Re.fmt36 n) Tryd.underlying53 Tryd.underlying5 Tryd.underlying9 h
      have hcv2 := hcv _ e2
      rw [show (Re.fmt36 n).length = 65 - k by omega] at hcv2
      rw [← dig_at m hlt _ rfl (by show m < 36; exact hlt)] at hcv2
      have hsl : ∀ W, (Instr.sliceAt 126 (.pointer (some ⟨w.heap.size, 0, none⟩)) (some (.int .i64 (k : Int))) none none).run Tryd.prog W = .ok (.slice (some ⟨w.heap.size, k, none⟩) (65 - k) (65 - k)) W := by
        intro W
        have ha : Tryd.prog.arrayLen 126 = 65 := by kernel_rfl
        have he : Tryd.prog.elem 126 = 5 := by kernel_rfl
        rw [run_sliceAt_array_l W 126 _ (by kernel_rfl) .i64 k (by omega) (by rw [ha]; omega), ha, he, Tryd.sizeOf5]
        have hadd : (⟨w.heap.size, 0, none⟩ : Addr).add (k * 1) = ⟨w.heap.size, k, none⟩ := by
          unfold Addr.add
          by_cases h0 : k = 0 <;> simp [h0]
        simp only [Result.andThen_ok, slicedAt, Int.toNat_natCast, if_neg (show ¬ 65 = k by omega), hadd]
      clear hcv e1 e2 hr hcs hb hm hk hne
      rw [← HO.out] at hcv2
      go_wp2
      go_ret2
      exact ⟨by simp, HB.out.setCell (Nat.le_refl _) _⟩
    · obtain ⟨q, hq⟩ : ∃ q, q = m / 36 := ⟨_, rfl⟩
      obtain ⟨d, hdd⟩ : ∃ d, d = m % 36 := ⟨_, rfl⟩
      have h36 : d < 36 := by omega
      have hw1 : (m : Int) / 36 = (q : Int) := by omega
      have hw2 : (m : Int) - (q : Int) * 36 = (d : Int) := by omega
      have hqm : q < m := by omega
      have HS := hid (hr.step hlt hll)
      rw [← hk, ← hq, ← hdd] at HS
      clear hq hdd hk hr hcs hb hm hne
      go_wp2
      go_roundw
      case rel =>
        refine ⟨q, Re.dig36 d :: l, rfl, ?_, ?_⟩
        · have := HK.out
          rw [List.length_cons, show 65 - (l.length + 1) = k by omega]
        · rw [dig_at d h36 _ rfl _]
          exact HS.out
      case measure => simpa [intOf] using hqm

theorem fmt_any (n : Nat) (w : World) (hn : n < 18446744073709551616) :
    Calls Tryd.prog 73 #[.int .u64 n, .int .i64 36] w fun e w' => e = .returned (.string ⟨(Re.fmt36 n).toArray⟩) ∧ Below w.heap.size w w' := by
  have H1 := hid (fun W => formatBits_any n W hn)
  have H2 : Hid (∀ W, Calls Tryd.prog 83 #[.int .u64 n, .int .i64 36] W fun e w' => e = .returned (.string ⟨(Re.fmt36 n).toArray⟩) ∧ Below W.heap.size W w') := by
    intro W
    generalize Re.fmt36 n = out at H1 ⊢
    go_enter Tryd.func83, Tryd.ntmps83
    go_wp2_with (go_at_call 95; refine (H1.out _).mono ?_; rintro e w' ⟨rfl, hb⟩)
    go_ret
    exact ⟨rfl, hb⟩
  generalize Re.fmt36 n = out at H2 ⊢
  go_enter Tryd.func73, Tryd.ntmps73
  go_wp2_with (go_at_call 83; refine (H2.out _).mono ?_; rintro e w' ⟨rfl, hb⟩)
  go_ret
  exact ⟨rfl, hb⟩
end Go.Proofs.YtihloigpdcinkaaDoor
