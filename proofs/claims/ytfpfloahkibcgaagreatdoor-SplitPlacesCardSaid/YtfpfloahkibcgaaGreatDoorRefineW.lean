/- The walk of part.Refine. -/
import Derived.Test.YtfpfloahkibcgaaGreatDoorSortedW
import Derived.Test.YtfpfloahkibcgaaGreatDoorPart3
namespace Go.Proofs.YtfpfloahkibcgaaGreatDoor
open Go.RowKit

theorem wpList_app_set' {ops : Array Oper} {rest : List Oper} {o : Oper} {a : Act} {Q : Exit → Act → World → Prop} (w : World) (hgd : o.guard = none) (s x : Operand)
    (ho : o.op = .call { callee := .builtin .append, args := #[s, x], argTypes := #[53, 53] })
    (base : Nat) (v : Value) (xs : List CSet) (hs : a.eval s = v) (hown : OwnC w base v xs)
    (ad : Addr) (n c : Nat) (ys : List CSet) (hx : a.eval x = .slice (some ad) n c) (hr : RdC w (some ad) n ys)
    (hn : xs.length + ys.length ≤ 1099511627776) (hbase : base ≤ w.heap.size) (hn0 : 0 < n)
    (h : ∀ v' w', OwnC w' base v' (xs ++ ys) → w.grownBy w' v.ownBlock → (v'.ownBlock = v.ownBlock ∨ v'.ownBlock = some w.heap.size) → wpList Tryz.prog ops Q rest (a.put o.dst v') w') :
    wpList Tryz.prog ops Q (o :: rest) a w := by
  have hnl : ys.length = n := hr.1
  obtain ⟨i0, hi, hz0, hz1, hz2⟩ := info_parts info_set
  refine wpList_append_own_at w hgd s x 53 ho base 87 i0 _ 4 32 Tryz.underlying53 hi hz0 hz1 hz2 rfl (by decide) v _ _ hs hown ad n c (cellsC ys) hx (by rw [cellsC_len, hnl]) ?_ ?_ ?_ ?_ hbase ?_
  · intro j u hj
    obtain ⟨g, o', e, _, hc⟩ := hr.2 hn0
    cases e
    have := hc j u hj
    unfold Addr.add
    by_cases h0 : j = 0
    · subst h0; simpa using this
    · simpa [h0] using this
  · intro u hu
    simp only [cellsC, List.mem_flatMap] at hu
    obtain ⟨s, -, hs⟩ := hu
    simp only [c4, List.mem_cons, List.not_mem_nil, or_false] at hs
    rcases hs with e | e | e | e <;> rw [e] <;> rfl
  · unfold maxLen; omega
  · omega
  · intro v' w' h1 h2 _ h4
    exact h v' w' (by unfold OwnC; rw [cellsC_append, List.length_append, hnl]; exact h1) h2 h4

/-- The cells of two sets. -/
abbrev litA (s t : CSet) : Array Value := #[.int .u64 s.a.toNat, .int .u64 s.b.toNat, .int .u64 s.c.toNat, .int .u64 s.d.toNat, .int .u64 t.a.toNat, .int .u64 t.b.toNat, .int .u64 t.c.toNat, .int .u64 t.d.toNat]
set_option maxRecDepth 100000 in
set_option maxHeartbeats 4000000 in
theorem refine_any (A : Option Addr) (n c : Nat) (ss : List CSet) (w : World) (hr : RdC w A n ss) (hn : n ≤ 1000000) :
    Calls Tryz.prog 46 #[.slice A n c] w (RetSets w (refineR ss)) := by
  have HR := hid hr
  have HAL := hid (setAll_any w)
  unfold cv at HAL
  clear hr
  go_enter Tryz.func46, Tryz.ntmps46
  go_wp2_with (go_at_call 85; refine HAL.out.mono ?_; rintro e w1 ⟨rfl, hb1⟩; have HB1 := hid hb1; clear hb1)
  have HOWN1 := hid (OwnC.one w1 CSet.all w.heap.size HB1.out.size)
  have HB2 := hid (HB1.out.alloc HB1.out.size (.cells (setCellsA CSet.all) 87))
  go_loopw [3, 15] (fun v i wr => ∃ (k m cv : Nat) (Av : Option Addr) (ps : List CSet), k ≤ n ∧ i = .int .i64 k ∧ v = .slice Av m cv ∧ Hid (ps = cutsL (ss.take k) [CSet.all]) ∧ Hid (OwnC wr w.heap.size (.slice Av m cv) ps) ∧ Hid (Below w.heap.size w wr)) (fun _ i _ => n - (intOf i).toNat)
  case atStart => exact ⟨0, 1, 1, _, _, Nat.zero_le _, rfl, rfl, rfl, HOWN1.out, HB2.out⟩
  case round =>
    obtain ⟨k, m, cv0, Av, ps, hk, rfl, rfl, hps, hown, hbel⟩ := hrel
    have hpl : ps.length ≤ 256 := by rw [hps.out]; exact cuts_len _
    obtain ⟨hml, -, hrd⟩ := hown.out.rd
    have HRD := hid hrd
    have hm256 : m ≤ 256 := by omega
    by_cases hlt : k < n
    · obtain ⟨g, o, s, rfl, hs, hg, a0, a1, a2, a3⟩ := HR.out.at_ (k := k) hlt
      have ha := fun i => hbel.out.cell (p := ⟨g, i, none⟩) hg
      have a0 := (ha _).trans a0; have a1 := (ha _).trans a1; have a2 := (ha _).trans a2; have a3 := (ha _).trans a3
      have HNX := hid (cutsL_take hs [CSet.all])
      have HML := hid hml
      clear ha hs hml hrd
      go_wp2_with fail
      obtain ⟨w5, hw5⟩ : ∃ w5 : World, w5 = wr.alloc (.cells #[Value.int IntKind.u64 ↑s.a.toNat, Value.int IntKind.u64 ↑s.b.toNat, Value.int IntKind.u64 ↑s.c.toNat, Value.int IntKind.u64 ↑s.d.toNat] 87) := ⟨_, rfl⟩
      rw [← hw5]
      have HB5 : Hid (Below wr.heap.size wr w5) := hid (by rw [hw5]; exact (Below.refl _ _).alloc (Nat.le_refl _) _)
      obtain ⟨g5, hg5⟩ : ∃ g5, g5 = wr.heap.size := ⟨_, rfl⟩
      have HS5 : Hid (w5.heap[g5]? = some (.cells (setCellsA s) 87 (0, 0))) := hid (by rw [hw5, hg5]; exact blk_new wr _)
      have HG5 := hid hg5
      rw [← hg5]
      have HRD5 := hid (HRD.out.below HB5.out)
      clear hw5 hg5
      go_loopw [6, 21] (fun v i wq => ∃ (j : Nat), j ≤ m ∧ i = .int .i64 j ∧ Hid (OwnC wq w5.heap.size v ((ps.take j).flatMap (cut1 s))) ∧ Hid (Below w5.heap.size w5 wq)) (fun _ i _ => m - (intOf i).toNat)
      case atStart => exact ⟨0, Nat.zero_le _, rfl, OwnC.nil _ _, Below.refl _ _⟩
      case round =>
        obtain ⟨j, hj, rfl, hown2, hbq⟩ := hrel
        by_cases hjm : j < m
        · obtain ⟨gp, op, p, rfl, hp, hgp, b0, b1, b2, b3⟩ := HRD5.out.at_ (k := j) hjm
          have hb := fun i => hbq.out.cell (p := ⟨gp, i, none⟩) hgp
          have b0 := (hb _).trans b0; have b1 := (hb _).trans b1; have b2 := (hb _).trans b2; have b3 := (hb _).trans b3
          have HCT := hid (cutL_take (s := s) hp)
          have hlen := cutL_take_len s ps j
          have HLEN : Hid (((ps.take j).flatMap (cut1 s)).length ≤ 512) := hid (by omega)
          clear hb hp hlen
          go_wp2_with fail
          obtain ⟨w6, hw6⟩ : ∃ w6 : World, w6 = wr.alloc (.cells #[Value.int IntKind.u64 ↑p.a.toNat, Value.int IntKind.u64 ↑p.b.toNat, Value.int IntKind.u64 ↑p.c.toNat, Value.int IntKind.u64 ↑p.d.toNat] 87) := ⟨_, rfl⟩
          rw [← hw6]
          obtain ⟨g8, hg8⟩ : ∃ g8, g8 = wr.heap.size := ⟨_, rfl⟩
          rw [← hg8]
          have HB6 : Hid (Below wr.heap.size wr w6) := hid (by rw [hw6]; exact (Below.refl _ _).alloc (Nat.le_refl _) _)
          have hp8 : w6.heap[g8]? = some (.cells (setCellsA p) 87 (0, 0)) := by rw [hw6, hg8]; exact blk_new wr _
          have hs5 : w6.heap[g5]? = some (.cells (setCellsA s) 87 (0, 0)) := (HB6.out.block _ (Nat.lt_of_lt_of_le (lt_of_heap HS5.out) hbq.out.size)).trans ((hbq.out.block _ (lt_of_heap HS5.out)).trans HS5.out)
          have HCL : Hid (∀ W : World, Below w6.heap.size w6 W → (W.cell? ⟨g8, 0, none⟩ = some (.int .u64 p.a.toNat) ∧ W.cell? ⟨g8, 1, none⟩ = some (.int .u64 p.b.toNat) ∧ W.cell? ⟨g8, 2, none⟩ = some (.int .u64 p.c.toNat) ∧ W.cell? ⟨g8, 3, none⟩ = some (.int .u64 p.d.toNat)) ∧ (W.cell? ⟨g5, 0, none⟩ = some (.int .u64 s.a.toNat) ∧ W.cell? ⟨g5, 1, none⟩ = some (.int .u64 s.b.toNat) ∧ W.cell? ⟨g5, 2, none⟩ = some (.int .u64 s.c.toNat) ∧ W.cell? ⟨g5, 3, none⟩ = some (.int .u64 s.d.toNat))) := fun W hW => by
            have h8 := blk_below hp8 hW
            have h5 := blk_below hs5 hW
            exact ⟨⟨(blk_cell h8 0).trans (by rfl), (blk_cell h8 1).trans (by rfl), (blk_cell h8 2).trans (by rfl), (blk_cell h8 3).trans (by rfl)⟩, ⟨(blk_cell h5 0).trans (by rfl), (blk_cell h5 1).trans (by rfl), (blk_cell h5 2).trans (by rfl), (blk_cell h5 3).trans (by rfl)⟩⟩
          have HNOW : Hid (Below w6.heap.size w6 w6) := Below.refl _ _
          obtain ⟨⟨d0, d1, d2, d3⟩, ⟨c0, c1, c2, c3⟩⟩ := HCL.out _ HNOW.out
          have HAND := hid (fun W => setAnd_any p s W)
          have HMIN := hid (fun W => setMinus_any p s W)
          unfold cv at HAND HMIN
          have HCU : Hid (cut1 s p = [p.and s, p.minus s].filter fun q => q ≠ CSet.zero) := rfl
          generalize p.and s = x1 at *
          generalize p.minus s = x2 at *
          clear hw6 hp8 hs5 hg8 b0 b1 b2 b3
          go_region_held3 (fun W => (W.cell? ⟨g8, 0, none⟩ = some (.int .u64 p.a.toNat) ∧ W.cell? ⟨g8, 1, none⟩ = some (.int .u64 p.b.toNat) ∧ W.cell? ⟨g8, 2, none⟩ = some (.int .u64 p.c.toNat) ∧ W.cell? ⟨g8, 3, none⟩ = some (.int .u64 p.d.toNat)) ∧ (W.cell? ⟨g5, 0, none⟩ = some (.int .u64 s.a.toNat) ∧ W.cell? ⟨g5, 1, none⟩ = some (.int .u64 s.b.toNat) ∧ W.cell? ⟨g5, 2, none⟩ = some (.int .u64 s.c.toNat) ∧ W.cell? ⟨g5, 3, none⟩ = some (.int .u64 s.d.toNat))) (first | exact ⟨⟨d0, d1, d2, d3⟩, ⟨c0, c1, c2, c3⟩⟩ | go_keep)
            (first | (go_at_call 86; refine (HAND.out _).mono ?_; rintro e w8 ⟨rfl, hb8⟩; (first | (have hb8 := undrew hb8) | skip); have HNOW := hid (HNOW.out.trans (hb8.mono HNOW.out.size)); obtain ⟨⟨d0, d1, d2, d3⟩, ⟨c0, c1, c2, c3⟩⟩ := HCL.out _ HNOW.out; clear hb8) | (go_at_call 87; refine (HMIN.out _).mono ?_; rintro e w8 ⟨rfl, hb8⟩; (first | (have hb8 := undrew hb8) | skip); have HNOW := hid (HNOW.out.trans (hb8.mono HNOW.out.size)); obtain ⟨⟨d0, d1, d2, d3⟩, ⟨c0, c1, c2, c3⟩⟩ := HCL.out _ HNOW.out; clear hb8))
          all_goals
            go_wp2_with fail
            obtain ⟨w9, hw9⟩ : ∃ w9 : World, w9 = w8.alloc (.cells (litA x1 x2) 87) := ⟨_, rfl⟩
            rw [← hw9]
            obtain ⟨gl, hgl⟩ : ∃ gl, gl = w8.heap.size := ⟨_, rfl⟩
            rw [← hgl]
            have HB89 : Hid (Below w8.heap.size w8 w9) := hid (by rw [hw9]; exact (Below.refl _ _).alloc (Nat.le_refl _) _)
            have HB09 := hid (hbq.out.trans ((HB6.out.trans ((HNOW.out.trans (HB89.out.mono HNOW.out.size)).mono HB6.out.size)).mono hbq.out.size))
            have HL9 : Hid (w9.heap[gl]? = some (.cells (litA x1 x2) 87 (0, 0))) := hid (by rw [hw9, hgl]; exact blk_new w8 _)
            have HO9 := hid (((hown2.out.kept HB6.out).kept HNOW.out).kept HB89.out)
            have HN9 : Hid (u6.ownBlock ≠ some gl) := hid (fun e => by have := (((hown2.out.kept HB6.out).kept HNOW.out).lt gl e).2; omega)
            clear hw9 hgl
            go_loopw [6, 33] (fun v i wz => ∃ (r : Nat), r ≤ 2 ∧ i = .int .i64 r ∧ Hid (OwnC wz w5.heap.size v ((ps.take j).flatMap (cut1 s) ++ ([x1, x2].take r).filter fun q => q ≠ CSet.zero)) ∧ Hid (v.ownBlock ≠ some gl) ∧ Hid (wz.heap[gl]? = some (.cells (litA x1 x2) 87 (0, 0))) ∧ Hid (Below w5.heap.size w5 wz)) (fun _ i _ => 2 - (intOf i).toNat)
            case atStart => exact ⟨0, Nat.zero_le _, rfl, by show OwnC _ _ _ _; simpa using HO9.out, HN9.out, HL9.out, HB09.out⟩
            case round =>
              obtain ⟨r, hr2, rfl, hown3, hng, hlit, hbz⟩ := hrel
              rcases (by omega : r = 0 ∨ r = 1 ∨ r = 2) with rfl | rfl | rfl
              · have e0 : wr.cell? ⟨gl, 0, none⟩ = some (.int .u64 x1.a.toNat) := (blk_cell hlit.out 0).trans (by rfl)
                have e1 : wr.cell? ⟨gl, 1, none⟩ = some (.int .u64 x1.b.toNat) := (blk_cell hlit.out 1).trans (by rfl)
                have e2 : wr.cell? ⟨gl, 2, none⟩ = some (.int .u64 x1.c.toNat) := (blk_cell hlit.out 2).trans (by rfl)
                have e3 : wr.cell? ⟨gl, 3, none⟩ = some (.int .u64 x1.d.toNat) := (blk_cell hlit.out 3).trans (by rfl)
                have HEM := hid (fun W => setEmpty_any x1 W)
                have hgl := lt_of_heap hlit.out
                unfold cv at HEM
                by_cases hz : x1 = CSet.zero
                · have HF : Hid ((([x1, x2].take (0 + 1)).filter fun q => q ≠ CSet.zero) = (([x1, x2].take 0).filter fun q => q ≠ CSet.zero)) := hid (by rw [hz]; rfl)
                  rw [decide_eq_true hz] at HEM
                  clear hz
                  go_wp2_with (first | (go_at_call 88; refine (HEM.out _).mono ?_; rintro e wy ⟨rfl, hby⟩; have HBY := hid (((Below.refl _ _).alloc (Nat.le_refl _) _).trans (hby.mono (by simp))); clear hby))
                  go_roundw
                  case rel => exact ⟨0 + 1, by omega, by go_num, by rw [HF.out]; exact hown3.out.kept HBY.out, hng.out, (HBY.out.block _ hgl).trans hlit.out, hbz.out.trans (HBY.out.mono hbz.out.size)⟩
                  case measure => simp [intOf]
                · have HF : Hid ((([x1, x2].take (0 + 1)).filter fun q => q ≠ CSet.zero) = (([x1, x2].take 0).filter fun q => q ≠ CSet.zero) ++ [x1]) := hid (by simp [hz])
                  have hbn : ((ps.take j).flatMap (cut1 s) ++ (([x1, x2].take 0).filter fun q => q ≠ CSet.zero)).length + [x1].length ≤ 1099511627776 := by
                    have h1 := HLEN.out
                    have h2 : (([x1, x2].take 0).filter fun q => q ≠ CSet.zero).length ≤ 2 := Nat.le_trans (List.length_filter_le _ _) (by simp)
                    rw [List.length_append]; simp only [List.length_cons, List.length_nil]; omega
                  rw [decide_eq_false hz] at HEM
                  have h5z := hbz.out.size
                  clear hz
                  go_wp2_with (first | (go_at_call 88; refine (HEM.out _).mono ?_; rintro e wy ⟨rfl, hby⟩; have HBY := hid (((Below.refl _ _).alloc (Nat.le_refl _) _).trans (hby.mono (by simp))); have hq := blk_below (blk_new wr (.cells (setCellsA x1) 87)) hby; have q0 := (blk_cell hq 0).trans (show (setCellsA x1)[0]? = some (Value.int IntKind.u64 ↑x1.a.toNat) by rfl); have q1 := (blk_cell hq 1).trans (show (setCellsA x1)[1]? = some (Value.int IntKind.u64 ↑x1.b.toNat) by rfl); have q2 := (blk_cell hq 2).trans (show (setCellsA x1)[2]? = some (Value.int IntKind.u64 ↑x1.c.toNat) by rfl); have q3 := (blk_cell hq 3).trans (show (setCellsA x1)[3]? = some (Value.int IntKind.u64 ↑x1.d.toNat) by rfl); have HOY := hid (hown3.out.kept HBY.out); have HLY := hid ((HBY.out.block _ hgl).trans hlit.out); have HZY := hid (hbz.out.trans (HBY.out.mono hbz.out.size)); clear hby hq) | (at_builtin; refine wpList_app_set' _ rfl (.tmp 40) (.tmp 42) rfl w5.heap.size _ _ rfl (HOY.out.kept ((Below.refl _ _).alloc (Nat.le_refl _) _)) ⟨wy.heap.size, 0, none⟩ 1 1 [x1] rfl (OwnC.one wy x1 0 (Nat.zero_le _)).rd.2.2 hbn (le_alloc HZY.out.size _) (by omega) ?_; intro v' wx ho4 hg4 hat4; have HO4 := hid ho4; have HG4 := hid hg4; have HT4 := hid hat4; clear ho4 hg4 hat4))
                  go_roundw
                  case rel => exact ⟨0 + 1, by omega, by go_num, by rw [HF.out, ← List.append_assoc]; exact HO4.out, own_ne (le_alloc (Nat.le_refl _) _ |> fun h => Nat.lt_of_lt_of_le (lt_of_heap HLY.out) h) hng.out HT4.out, (HG4.out.block _ (Nat.lt_of_lt_of_le (lt_of_heap HLY.out) (le_alloc (Nat.le_refl _) _)) hng.out.symm).trans (blk_alloc HLY.out _), OwnC.belowB (Nat.le_refl _) (HZY.out.alloc HZY.out.size _) (HOY.out.kept ((Below.refl _ _).alloc (Nat.le_refl _) _)) HG4.out⟩
                  case measure => simp [intOf]
              · have e0 : wr.cell? ⟨gl, 4, none⟩ = some (.int .u64 x2.a.toNat) := (blk_cell hlit.out 4).trans (by rfl)
                have e1 : wr.cell? ⟨gl, 5, none⟩ = some (.int .u64 x2.b.toNat) := (blk_cell hlit.out 5).trans (by rfl)
                have e2 : wr.cell? ⟨gl, 6, none⟩ = some (.int .u64 x2.c.toNat) := (blk_cell hlit.out 6).trans (by rfl)
                have e3 : wr.cell? ⟨gl, 7, none⟩ = some (.int .u64 x2.d.toNat) := (blk_cell hlit.out 7).trans (by rfl)
                have HEM := hid (fun W => setEmpty_any x2 W)
                have hgl := lt_of_heap hlit.out
                unfold cv at HEM
                by_cases hz : x2 = CSet.zero
                · have HF : Hid ((([x1, x2].take (1 + 1)).filter fun q => q ≠ CSet.zero) = (([x1, x2].take 1).filter fun q => q ≠ CSet.zero)) := hid (by rw [hz]; rfl)
                  rw [decide_eq_true hz] at HEM
                  clear hz
                  go_wp2_with (first | (go_at_call 88; refine (HEM.out _).mono ?_; rintro e wy ⟨rfl, hby⟩; have HBY := hid (((Below.refl _ _).alloc (Nat.le_refl _) _).trans (hby.mono (by simp))); clear hby))
                  go_roundw
                  case rel => exact ⟨1 + 1, by omega, by go_num, by rw [HF.out]; exact hown3.out.kept HBY.out, hng.out, (HBY.out.block _ hgl).trans hlit.out, hbz.out.trans (HBY.out.mono hbz.out.size)⟩
                  case measure => simp [intOf]
                · have HF : Hid ((([x1, x2].take (1 + 1)).filter fun q => q ≠ CSet.zero) = (([x1, x2].take 1).filter fun q => q ≠ CSet.zero) ++ [x2]) := hid (by by_cases h1 : x1 = CSet.zero <;> simp [hz, h1])
                  have hbn : ((ps.take j).flatMap (cut1 s) ++ (([x1, x2].take 1).filter fun q => q ≠ CSet.zero)).length + [x2].length ≤ 1099511627776 := by
                    have h1 := HLEN.out
                    have h2 : (([x1, x2].take 1).filter fun q => q ≠ CSet.zero).length ≤ 2 := Nat.le_trans (List.length_filter_le _ _) (by simp)
                    rw [List.length_append]; simp only [List.length_cons, List.length_nil]; omega
                  rw [decide_eq_false hz] at HEM
                  have h5z := hbz.out.size
                  clear hz
                  go_wp2_with (first | (go_at_call 88; refine (HEM.out _).mono ?_; rintro e wy ⟨rfl, hby⟩; have HBY := hid (((Below.refl _ _).alloc (Nat.le_refl _) _).trans (hby.mono (by simp))); have hq := blk_below (blk_new wr (.cells (setCellsA x2) 87)) hby; have q0 := (blk_cell hq 0).trans (show (setCellsA x2)[0]? = some (Value.int IntKind.u64 ↑x2.a.toNat) by rfl); have q1 := (blk_cell hq 1).trans (show (setCellsA x2)[1]? = some (Value.int IntKind.u64 ↑x2.b.toNat) by rfl); have q2 := (blk_cell hq 2).trans (show (setCellsA x2)[2]? = some (Value.int IntKind.u64 ↑x2.c.toNat) by rfl); have q3 := (blk_cell hq 3).trans (show (setCellsA x2)[3]? = some (Value.int IntKind.u64 ↑x2.d.toNat) by rfl); have HOY := hid (hown3.out.kept HBY.out); have HLY := hid ((HBY.out.block _ hgl).trans hlit.out); have HZY := hid (hbz.out.trans (HBY.out.mono hbz.out.size)); clear hby hq) | (at_builtin; refine wpList_app_set' _ rfl (.tmp 40) (.tmp 42) rfl w5.heap.size _ _ rfl (HOY.out.kept ((Below.refl _ _).alloc (Nat.le_refl _) _)) ⟨wy.heap.size, 0, none⟩ 1 1 [x2] rfl (OwnC.one wy x2 0 (Nat.zero_le _)).rd.2.2 hbn (le_alloc HZY.out.size _) (by omega) ?_; intro v' wx ho4 hg4 hat4; have HO4 := hid ho4; have HG4 := hid hg4; have HT4 := hid hat4; clear ho4 hg4 hat4))
                  go_roundw
                  case rel => exact ⟨1 + 1, by omega, by go_num, by rw [HF.out, ← List.append_assoc]; exact HO4.out, own_ne (le_alloc (Nat.le_refl _) _ |> fun h => Nat.lt_of_lt_of_le (lt_of_heap HLY.out) h) hng.out HT4.out, (HG4.out.block _ (Nat.lt_of_lt_of_le (lt_of_heap HLY.out) (le_alloc (Nat.le_refl _) _)) hng.out.symm).trans (blk_alloc HLY.out _), OwnC.belowB (Nat.le_refl _) (HZY.out.alloc HZY.out.size _) (HOY.out.kept ((Below.refl _ _).alloc (Nat.le_refl _) _)) HG4.out⟩
                  case measure => simp [intOf]
              · have HFIN : Hid ((ps.take (j + 1)).flatMap (cut1 s) = (ps.take j).flatMap (cut1 s) ++ ([x1, x2].take 2).filter fun q => q ≠ CSet.zero) := hid (by rw [HCT.out, HCU.out]; rfl)
                go_wp2_with fail
                go_roundw
                case rel => exact ⟨j + 1, by omega, by go_num, by rw [HFIN.out]; exact hown3.out, hbz.out⟩
                case measure => simp [intOf]; omega
        · have hjn : j = m := by omega
          subst hjn
          obtain ⟨A6, c6, hv6⟩ := hown2.out.form
          have HO2 := hid hown2.out
          have HPT : Hid ((ps.take j).flatMap (cut1 s) = cutL s ps) := hid (by rw [List.take_of_length_le (by rw [← HML.out]; exact Nat.le_refl _)]; rfl)
          have HV6 := hid hv6
          have HBW := hid (hbel.out.trans ((HB5.out.trans (hbq.out.mono HB5.out.size)).mono hbel.out.size))
          clear hv6
          go_wp2_with fail
          go_roundw
          case rel => exact ⟨k + 1, _, c6, A6, cutL s ps, by omega, by go_num, HV6.out, by show _ = _; rw [HNX.out, hps.out], by show OwnC _ _ _ _; rw [← HV6.out, ← HPT.out]; exact HO2.out.mono (Nat.le_trans hbel.out.size HB5.out.size), HBW.out⟩
          case measure => simp [intOf]; omega
    · have hkn : k = n := by omega
      subst hkn
      have HSO := hid (sorted_any Av m cv0 ps wr HRD.out (by omega))
      have HFIN : Hid (sortedR ps = refineR ss) := hid (by rw [hps.out, List.take_of_length_le (by rw [HR.out.1]; exact Nat.le_refl _)]; rfl)
      clear hml hrd
      go_wp2_with (go_at_call 89; refine HSO.out.mono ?_; rintro e w3 ⟨v3, rfl, h3, hb3⟩; have H3 := hid h3; have HB3 := hid hb3; clear h3 hb3)
      go_ret
      refine ⟨_, rfl, ?_, hbel.out.trans (HB3.out.mono hbel.out.size)⟩
      rw [← HFIN.out]
      exact H3.out.mono hbel.out.size
end Go.Proofs.YtfpfloahkibcgaaGreatDoor
