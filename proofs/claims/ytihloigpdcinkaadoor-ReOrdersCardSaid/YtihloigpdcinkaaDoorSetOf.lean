/- The walks of set.Of and set.From. -/
import Derived.Test.YtihloigpdcinkaaDoorSetMore
namespace Go.Proofs.YtihloigpdcinkaaDoor
open Go.RowKit

def setCells (s : CSet) : Array Value := #[.int .u64 s.a.toNat, .int .u64 s.b.toNat, .int .u64 s.c.toNat, .int .u64 s.d.toNat]
/-- What stands at the head of a round of set.Of and set.From. -/
def OfRel (w : World) (s : CSet) (wr : World) : Prop :=
  wr.heap[w.heap.size]? = some (.cells #[.int .u64 0, .int .u64 0, .int .u64 0, .int .u64 0] 42 (0, 0)) ∧ wr.heap[w.heap.size + 1]? = some (.cells (setCells s) 42 (0, 0)) ∧ Below w.heap.size w wr
theorem OfRel.step {w wr : World} {s : CSet} (h : OfRel w s wr) (b : Nat) (hb : b < 256) : OfRel w (s.add b) (wr.setCell ⟨w.heap.size + 1, b / 64, none⟩ (.int .u64 (s.word (b / 64) ||| BitVec.twoPow 64 (b % 64)).toNat)) := by
  obtain ⟨h1, h2, h3⟩ := h
  refine ⟨blk_far h1 _ _ (by show _ ≠ w.heap.size + 1; omega), ?_, h3.setCell (p := ⟨w.heap.size + 1, b / 64, none⟩) (by show w.heap.size ≤ w.heap.size + 1; omega) _⟩
  rw [blk_set h2]
  congr 2
  unfold CSet.add
  rcases (by omega : b / 64 = 0 ∨ b / 64 = 1 ∨ b / 64 = 2 ∨ b / 64 = 3) with e | e | e | e <;> rw [e] <;> simp [setCells, CSet.put]
theorem OfRel.cell {w wr : World} {s : CSet} (h : OfRel w s wr) (q : Nat) (hq : q < 4) : wr.cell? ⟨w.heap.size + 1, q, none⟩ = some (.int .u64 (s.word q).toNat) ∧ wr.frozen? ⟨w.heap.size + 1, q, none⟩ = false := by
  refine ⟨(blk_cell h.2.1 q).trans ?_, blk_free h.2.1 q⟩
  rcases (by omega : q = 0 ∨ q = 1 ∨ q = 2 ∨ q = 3) with rfl | rfl | rfl | rfl <;> simp [setCells, CSet.word]
theorem CSet.ofList_snoc (l : List Nat) (b : Nat) : CSet.ofList (l ++ [b]) = (CSet.ofList l).add b := by simp [CSet.ofList]
theorem wrap_pow (k : Nat) (hk : k < 64) : IntKind.u64.wrap ((2 : Int) ^ k) = (2 : Int) ^ k := by
  rw [IntKind.wrap_u64]
  have h1 : (2 : Nat) ^ k < 2 ^ 64 := Nat.pow_lt_pow_right (by omega) hk
  rw [show (2 : Nat) ^ 64 = 18446744073709551616 from rfl] at h1
  have h2 : ((2 : Int) ^ k) = ((2 ^ k : Nat) : Int) := (Int.natCast_pow 2 k).symm
  have h3 : ((2 ^ k : Nat) : Int) < 18446744073709551616 := by omega
  rw [h2]
  exact Int.emod_eq_of_lt (Int.natCast_nonneg _) h3

set_option maxHeartbeats 1000000 in
theorem setOf_any (A : Option Addr) (n c : Nat) (l : List Nat) (w : World) (hl : ∀ b ∈ l, b < 256) (hr : Rd w A n (l.map fun b : Nat => Value.int .u8 (b : Int))) (hn : n ≤ 1000000) :
    Calls Tryd.prog 45 #[.slice A n c] w fun e w' => e = .returned (cv (CSet.ofList l)) ∧ Below w.heap.size w w' := by
  have hln : l.length = n := by simpa using hr.1
  have HL := hid hl
  have HR := hid hr
  have HN := hid hln
  clear hl hr hln
  obtain ⟨u, hu⟩ : ∃ u, u = CSet.ofList l := ⟨_, rfl⟩
  rw [← hu]
  have HU := hid hu
  clear hu
  unfold cv
  go_enter Tryd.func45, Tryd.ntmps45
  go_wp2_with fail
  go_loopw [8] (fun i wr => ∃ k : Nat, k ≤ n ∧ i = .int .i64 k ∧ OfRel w (CSet.ofList (l.take k)) wr) (fun i _ => n - (intOf i).toNat)
  case atStart => exact ⟨0, by omega, rfl, blk_alloc (blk_new _ _) _, by simpa [CSet.ofList, CSet.zero, setCells] using blk_new (w.alloc _) _, ((Below.refl _ _).alloc (Nat.le_refl _) _).alloc (by simp) _⟩
  case round =>
    obtain ⟨k, hk, rfl, hr⟩ := hrel
    by_cases hlt : k < n
    · obtain ⟨g, o, rfl, hg, hc⟩ := HR.out.2 (by omega)
      have hkl : k < l.length := by rw [HN.out]; exact hlt
      have hb : l[k] < 256 := HL.out _ (List.getElem_mem _)
      have hcell := hc k _ (by rw [List.getElem?_map, List.getElem?_eq_getElem hkl]; rfl)
      have hcell' := (hr.2.2.cell (p := ⟨g, o + k, none⟩) hg).trans hcell
      clear hcell hc
      have HST := hid (hr.step l[k] hb)
      have hce := hr.cell (l[k] / 64) (by omega)
      have hsn : CSet.ofList (l.take (k + 1)) = (CSet.ofList (l.take k)).add l[k] := by rw [List.take_succ_eq_append_getElem hkl, CSet.ofList_snoc]
      rw [← hsn] at HST
      have HO := bits_add64 ((CSet.ofList (l.take k)).word (l[k] / 64)) (l[k] % 64) (by omega)
      have HW := wrap_pow (l[k] % 64) (by omega)
      generalize CSet.ofList (l.take k) = s at *
      generalize hbb : l[k] = b at *
      clear hsn hbb hr
      simp only [] at hcell'
      rcases (by omega : b / 64 = 0 ∨ b / 64 = 1 ∨ b / 64 = 2 ∨ b / 64 = 3) with e | e | e | e
      all_goals
        have hq : (b : Int) / 64 = ((b / 64 : Nat) : Int) := by omega
        rw [e] at hq HO HST hce
        generalize s.word _ ||| BitVec.twoPow 64 (b % 64) = x at HO HST
        obtain ⟨hce, hfr⟩ := hce
        generalize s.word _ = y at HO hce
        clear e
        go_wp2_with fail
        go_roundw
        case rel => exact ⟨k + 1, by omega, by go_num, HST.out⟩
        case measure => simp [intOf]; omega
    · have hkn : k = n := by omega
      subst hkn
      have htk : l.take k = l := List.take_of_length_le (by rw [HN.out]; exact Nat.le_refl _)
      rw [htk, ← HU.out] at hr
      have f0 := blk_free hr.1 0; have f1 := blk_free hr.1 1; have f2 := blk_free hr.1 2; have f3 := blk_free hr.1 3
      have d0 := blk_cell hr.1 0; have d1 := blk_cell hr.1 1; have d2 := blk_cell hr.1 2; have d3 := blk_cell hr.1 3
      simp at d0 d1 d2 d3
      have c0 := (hr.cell 0 (by omega)).1; have c1 := (hr.cell 1 (by omega)).1; have c2 := (hr.cell 2 (by omega)).1; have c3 := (hr.cell 3 (by omega)).1
      simp only [CSet.word] at c0 c1 c2 c3
      obtain ⟨k0, k1, k2, k3⟩ := set4 hr.1 (.int .u64 u.a.toNat) (.int .u64 u.b.toNat) (.int .u64 u.c.toNat) (.int .u64 u.d.toNat)
      have HB := hid hr.2.2
      clear hr htk hlt
      go_wp2_with fail
      refine bodyPost_ret (v := .agg #[.int .u64 u.a.toNat, .int .u64 u.b.toNat, .int .u64 u.c.toNat, .int .u64 u.d.toNat]) (by simp [results, Tryd.results45, go_sem, k0, k1, k2, k3]) rfl ⟨rfl, ?_⟩
      exact below4 HB.out (Nat.le_refl _) _ _ _ _

theorem and63_i64 (b : Nat) (hb : b < 256) : bits .and .i64 (b : Int) 63 = ((b % 64 : Nat) : Int) := by
  have h : ∀ b : Fin 256, bits .and .i64 (b.val : Int) 63 = ((b.val % 64 : Nat) : Int) := by decide +kernel
  exact h ⟨b, hb⟩
theorem CSet.fromN_succ (low j : Nat) : CSet.fromN low (j + 1) = (CSet.fromN low j).add (low + j) := by
  unfold CSet.fromN
  rw [List.range_succ, List.map_append]
  exact CSet.ofList_snoc _ _

set_option maxHeartbeats 1000000 in
theorem setFrom_any (low high : Nat) (w : World) (hl : low < 256) (hh : high < 256) :
    Calls Tryd.prog 49 #[.int .u8 low, .int .u8 high] w fun e w' => e = .returned (cv (CSet.fromN low (high + 1 - low))) ∧ Below w.heap.size w w' := by
  obtain ⟨u, hu⟩ : ∃ u, u = CSet.fromN low (high + 1 - low) := ⟨_, rfl⟩
  rw [← hu]
  have HU := hid hu
  clear hu
  unfold cv
  go_enter Tryd.func49, Tryd.ntmps49
  go_wp2_with fail
  go_loopw [6] (fun i wr => ∃ j : Nat, j ≤ high + 1 - low ∧ i = .int .i64 ((low + j : Nat) : Int) ∧ OfRel w (CSet.fromN low j) wr) (fun i _ => 256 - (intOf i).toNat)
  case atStart => exact ⟨0, by omega, by simp, blk_alloc (blk_new _ _) _, by simpa [CSet.fromN, CSet.ofList, CSet.zero, setCells] using blk_new (w.alloc _) _, ((Below.refl _ _).alloc (Nat.le_refl _) _).alloc (by simp) _⟩
  case round =>
    obtain ⟨j, hk, rfl, hr⟩ := hrel
    by_cases hlt : j < high + 1 - low
    · have hb : low + j < 256 := by omega
      have hle : low + j ≤ high := by omega
      have HST := hid (hr.step (low + j) hb)
      have hce := hr.cell ((low + j) / 64) (by omega)
      rw [← CSet.fromN_succ] at HST
      have HA := and63_i64 (low + j) hb
      have HO := bits_add64 ((CSet.fromN low j).word ((low + j) / 64)) ((low + j) % 64) (by omega)
      have HW := wrap_pow ((low + j) % 64) (by omega)
      have HB := hid (show low + j = low + j from rfl)
      clear hr
      generalize CSet.fromN low j = s at *
      obtain ⟨b, hbb⟩ : ∃ b, b = low + j := ⟨_, rfl⟩
      rw [← hbb] at HST hce HO HW hb hle HA ⊢
      have HBB := hid hbb
      clear hbb HB
      rcases (by omega : b / 64 = 0 ∨ b / 64 = 1 ∨ b / 64 = 2 ∨ b / 64 = 3) with e | e | e | e
      all_goals
        have hq : (b : Int) / 64 = ((b / 64 : Nat) : Int) := by omega
        rw [e] at hq HO HST hce
        generalize s.word _ ||| BitVec.twoPow 64 (b % 64) = x at HO HST
        obtain ⟨hce, hfr⟩ := hce
        generalize s.word _ = y at HO hce
        clear e
        go_wp2_with fail
        go_region
        go_wp2_with fail
        go_roundw
        case rel =>
          refine ⟨j + 1, by omega, ?_, HST.out.1, HST.out.2.1, HST.out.2.2.drew⟩
          have := HBB.out
          rw [show ((low + (j + 1) : Nat) : Int) = (b : Int) + 1 by omega]
        case measure => simp [intOf]; omega
    · have hjj : j = high + 1 - low := by omega
      subst hjj
      rw [← HU.out] at hr
      have f0 := blk_free hr.1 0; have f1 := blk_free hr.1 1; have f2 := blk_free hr.1 2; have f3 := blk_free hr.1 3
      have d0 := blk_cell hr.1 0; have d1 := blk_cell hr.1 1; have d2 := blk_cell hr.1 2; have d3 := blk_cell hr.1 3
      simp at d0 d1 d2 d3
      have c0 := (hr.cell 0 (by omega)).1; have c1 := (hr.cell 1 (by omega)).1; have c2 := (hr.cell 2 (by omega)).1; have c3 := (hr.cell 3 (by omega)).1
      simp only [CSet.word] at c0 c1 c2 c3
      obtain ⟨k0, k1, k2, k3⟩ := set4 hr.1 (.int .u64 u.a.toNat) (.int .u64 u.b.toNat) (.int .u64 u.c.toNat) (.int .u64 u.d.toNat)
      have HB := hid hr.2.2
      have hgt : high < low + (high + 1 - low) := by omega
      clear hr hlt hk
      generalize low + (high + 1 - low) = b at hgt ⊢
      go_wp2_with fail
      refine bodyPost_ret (v := .agg #[.int .u64 u.a.toNat, .int .u64 u.b.toNat, .int .u64 u.c.toNat, .int .u64 u.d.toNat]) (by simp [results, Tryd.results49, go_sem, k0, k1, k2, k3]) rfl ⟨rfl, ?_⟩
      exact below4 HB.out (Nat.le_refl _) _ _ _ _
end Go.Proofs.YtihloigpdcinkaaDoor
