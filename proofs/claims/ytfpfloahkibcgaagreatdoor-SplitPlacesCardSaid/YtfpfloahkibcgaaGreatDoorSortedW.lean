/- The walk of part.sorted. -/
import Derived.Test.YtfpfloahkibcgaaGreatDoorFirstsW2
namespace Go.Proofs.YtfpfloahkibcgaaGreatDoor
open Go.RowKit

theorem step_app_set {ops : Array Oper} {o : Oper} {a : Act} {K : Act → World → Prop} {Q : Exit → Act → World → Prop} {E : Prop} (w : World) (hgd : o.guard = none) (s x : Operand)
    (ho : o.op = .call { callee := .builtin .append, args := #[s, x], argTypes := #[53, 53] })
    (base : Nat) (v : Value) (xs : List CSet) (hs : a.eval s = v) (hown : OwnC w base v xs)
    (ad : Addr) (n c : Nat) (ys : List CSet) (hx : a.eval x = .slice (some ad) n c) (hr : RdC w (some ad) n ys)
    (hn : xs.length + ys.length ≤ 1099511627776) (hbase : base ≤ w.heap.size) (hn0 : 0 < n)
    (h : ∀ v' w', OwnC w' base v' (xs ++ ys) → w.grownBy w' v.ownBlock → (v'.ownBlock = v.ownBlock ∨ v'.ownBlock = some w.heap.size) → K (a.put o.dst v') w') :
    if Region.wanted o (yielded ops a.tmps) = true then Oper.wp Tryz.prog o a w K Q else E := by
  have hw : Region.wanted o (yielded ops a.tmps) = true := by simp [Region.wanted, hgd]
  rw [if_pos hw]
  have hnl : ys.length = n := hr.1
  obtain ⟨i0, hi, hz0, hz1, hz2⟩ := info_parts info_set
  obtain ⟨v', w', hrn, h1, h2, h3, h4⟩ := run_append_own_at (P := Tryz.prog) w base 53 o.type 87 i0 _ 4 32 Tryz.underlying53 hi hz0 hz1 hz2 rfl (by decide) v _ _ hown ad n c (cellsC ys) (by rw [cellsC_len, hnl]) (by
    intro j u hj
    obtain ⟨g, o', e, _, hc⟩ := hr.2 hn0
    cases e
    have := hc j u hj
    unfold Addr.add
    by_cases h0 : j = 0
    · subst h0; simpa using this
    · simpa [h0] using this) (by
    intro u hu
    simp only [cellsC, List.mem_flatMap] at hu
    obtain ⟨s, -, hs⟩ := hu
    simp only [c4, List.mem_cons, List.not_mem_nil, or_false] at hs
    rcases hs with e | e | e | e <;> rw [e] <;> rfl) (by unfold maxLen; omega) (by omega) hbase
  unfold Oper.wp execOp
  simp only [ho, resolve, invoke, builtin, Sem.run_bind, Sem.run_pure, Result.andThen_ok, List.map_toArray, List.map_cons, List.map_nil, hs, hx, hrn]
  exact h v' w' (by unfold OwnC; rw [cellsC_append, List.length_append, hnl]; exact h1) h2 h4
theorem range_drop {k : Nat} (hk : k < 256) : (List.range 256).drop k = k :: (List.range 256).drop (k + 1) := by
  rw [List.drop_eq_getElem_cons (by simpa using hk)]
  simp
theorem sortGo_seen {ps : List CSet} {k : Nat} (hk : k < 256) {out : List CSet} {seen : CSet} (h : seen.has k = true) : sortGo ps ((List.range 256).drop k) out seen = sortGo ps ((List.range 256).drop (k + 1)) out seen := by
  rw [range_drop hk, sortGo, if_pos h]
theorem sortGo_some {ps : List CSet} {k : Nat} (hk : k < 256) {out : List CSet} {seen p : CSet} (h : seen.has k = false) (hf : (ps.find? fun p => p.has k) = some p) : sortGo ps ((List.range 256).drop k) out seen = sortGo ps ((List.range 256).drop (k + 1)) (out ++ [p]) (seen.or p) := by
  rw [range_drop hk, sortGo, if_neg (by simp [h]), hf]
theorem sortGo_none {ps : List CSet} {k : Nat} (hk : k < 256) {out : List CSet} {seen : CSet} (h : seen.has k = false) (hf : (ps.find? fun p => p.has k) = none) : sortGo ps ((List.range 256).drop k) out seen = sortGo ps ((List.range 256).drop (k + 1)) out seen := by
  rw [range_drop hk, sortGo, if_neg (by simp [h]), hf]
theorem find_drop {ps : List CSet} {k b : Nat} (h : ∀ p ∈ ps.take k, p.has b = false) : (ps.find? fun p => p.has b) = (ps.drop k).find? fun p => p.has b := by
  rw [← List.take_append_drop k ps, List.find?_append]
  have : (ps.take k).find? (fun p => p.has b) = none := List.find?_eq_none.2 fun p hp => by simp [h p hp]
  rw [List.take_append_drop, this]
  rfl
/-- Two blocks stand as they stood. -/
def Two (w0 : World) (g7 g4 : Nat) (W : World) : Prop := (W.heap[g7]? = w0.heap[g7]? ∧ W.heap[g4]? = w0.heap[g4]?) ∧ g7 < W.heap.size ∧ g4 < W.heap.size
theorem Two.keep {w0 W W' : World} {g7 g4 : Nat} (h : Two w0 g7 g4 W) (hb : Below W.heap.size W W') : Two w0 g7 g4 W' :=
  ⟨⟨(hb.block _ h.2.1).trans h.1.1, (hb.block _ h.2.2).trans h.1.2⟩, Nat.lt_of_lt_of_le h.2.1 hb.size, Nat.lt_of_lt_of_le h.2.2 hb.size⟩
theorem Two.grown {w0 W W' : World} {g7 g4 : Nat} {row : Option Nat} (h : Two w0 g7 g4 W) (hb : W.grownBy W' row) (h7 : row ≠ some g7) (h4 : row ≠ some g4) : Two w0 g7 g4 W' :=
  ⟨⟨(hb.block _ h.2.1 h7.symm).trans h.1.1, (hb.block _ h.2.2 h4.symm).trans h.1.2⟩, Nat.lt_of_lt_of_le h.2.1 hb.size, Nat.lt_of_lt_of_le h.2.2 hb.size⟩
theorem own_ne {W : World} {v v' : Value} {g : Nat} (hg : g < W.heap.size) (h : v.ownBlock ≠ some g) (hat : v'.ownBlock = v.ownBlock ∨ v'.ownBlock = some W.heap.size) : v'.ownBlock ≠ some g := by
  rcases hat with e | e
  · rw [e]; exact h
  · rw [e]; intro e'; have := Option.some.inj e'; omega
/-- The cells of a set's block. -/
abbrev setCellsA (s : CSet) : Array Value := #[.int .u64 s.a.toNat, .int .u64 s.b.toNat, .int .u64 s.c.toNat, .int .u64 s.d.toNat]

theorem own_set {W : World} {B : Nat} {v : Value} {xs : List CSet} {g : Nat} (h : OwnC W B v xs) (hne : v.ownBlock ≠ some g) (i : Nat) (u : Value) : OwnC (W.setCell ⟨g, i, none⟩ u) B v xs := by
  unfold OwnC at h ⊢
  exact h.kept (row := some g) ⟨rfl, rfl, rfl, by simp [World.setCell], fun k _ hk => Below.heap_setCell _ _ _ _ (fun e => hk (by rw [e]))⟩ (.inr hne)
theorem own_set4 {W : World} {B : Nat} {v : Value} {xs : List CSet} {g : Nat} (h : OwnC W B v xs) (hne : v.ownBlock ≠ some g) (s : CSet) :
    OwnC ((((W.setCell ⟨g, 0, none⟩ (.int .u64 s.a.toNat)).setCell ⟨g, 1, none⟩ (.int .u64 s.b.toNat)).setCell ⟨g, 2, none⟩ (.int .u64 s.c.toNat)).setCell ⟨g, 3, none⟩ (.int .u64 s.d.toNat)) B v xs :=
  own_set (own_set (own_set (own_set h hne 0 _) hne 1 _) hne 2 _) hne 3 _
theorem set_blk4 {W : World} {g : Nat} {t : CSet} {T : TypeId} (h : W.heap[g]? = some (.cells (setCellsA t) T (0, 0))) (s : CSet) :
    ((((W.setCell ⟨g, 0, none⟩ (.int .u64 s.a.toNat)).setCell ⟨g, 1, none⟩ (.int .u64 s.b.toNat)).setCell ⟨g, 2, none⟩ (.int .u64 s.c.toNat)).setCell ⟨g, 3, none⟩ (.int .u64 s.d.toNat)).heap[g]? = some (.cells (setCellsA s) T (0, 0)) := by
  have := blk_set (blk_set (blk_set (blk_set h 0 (.int .u64 s.a.toNat)) 1 (.int .u64 s.b.toNat)) 2 (.int .u64 s.c.toNat)) 3 (.int .u64 s.d.toNat)
  exact this.trans (by rfl)
set_option maxRecDepth 100000 in
set_option maxHeartbeats 4000000 in
theorem sorted_any (A : Option Addr) (n c : Nat) (ps : List CSet) (w : World) (hr : RdC w A n ps) (hn : n ≤ 1000000) :
    Calls Tryz.prog 89 #[.slice A n c] w (RetSets w (sortedR ps)) := by
  have HR := hid hr
  obtain ⟨z, hz⟩ : ∃ z, z = sortedR ps := ⟨_, rfl⟩
  rw [← hz]
  have HZ : Hid (sortGo ps ((List.range 256).drop 0) [] CSet.zero = z) := hid (by rw [hz]; rfl)
  obtain ⟨i0, hi, hz0, hz1, hz2⟩ := info_parts info_set
  clear hr hz
  go_enter Tryz.func89, Tryz.ntmps89
  go_wp2_with (at_make; refine wpList_make_own _ rfl _ _ 53 rfl w.heap.size 87 i0 (.agg #[.int .u64 0, .int .u64 0, .int .u64 0, .int .u64 0]) 4 Tryz.underlying53 hi hz0 hz1 _ _ _ n rfl rfl (by omega) (by rw [hz2]; omega) (by unfold maxLen; omega) (Nat.le_refl _) ?_; intro w1 ho hg; have HOWN0 : Hid (OwnC w1 w.heap.size (.slice (some ⟨w.heap.size, 0, none⟩) 0 n) []) := ho; have HB1 := hid (below_none hg); clear ho hg)
  obtain ⟨g4, hg4⟩ : ∃ g4, g4 = w1.heap.size := ⟨_, rfl⟩
  have HG4 := hid hg4
  rw [← hg4]
  have hw4 : w.heap.size < g4 := by rw [hg4]; exact (HOWN0.out.lt _ rfl).2
  have HB2 := hid (HB1.out.alloc HB1.out.size (.cells (setCellsA CSet.zero) 87))
  have HBLK : Hid ((w1.alloc (.cells (setCellsA CSet.zero) 87)).heap[g4]? = some (.cells (setCellsA CSet.zero) 87 (0, 0))) := hid (by rw [hg4]; exact blk_new _ _)
  have HOWN1 := hid (HOWN0.out.kept ((Below.refl _ _).alloc (Nat.le_refl _) (.cells (setCellsA CSet.zero) 87)))
  clear hg4
  go_loopw [3, 11] (fun v i wr => ∃ (k : Nat) (out : List CSet) (seen : CSet), k ≤ 256 ∧ i = .int .i64 k ∧ Hid (OwnC wr w.heap.size v out) ∧ Hid (v.ownBlock ≠ some g4) ∧ Hid (wr.heap[g4]? = some (.cells (setCellsA seen) 87 (0, 0))) ∧ Hid (out.length ≤ k) ∧ Hid (sortGo ps ((List.range 256).drop k) out seen = z) ∧ Hid (Below w.heap.size w wr)) (fun _ i _ => 256 - (intOf i).toNat)
  case atStart => exact ⟨0, [], CSet.zero, by omega, rfl, HOWN1.out, by show _ ≠ _; simp [Value.ownBlock]; omega, HBLK.out, Nat.le_refl _, HZ.out, HB2.out⟩
  case round =>
    obtain ⟨k, out, seen, hk, rfl, hown, hng, hblk, hlen, hgo, hbel⟩ := hrel
    have s0 := (blk_cell hblk.out 0).trans (by rfl); have s1 := (blk_cell hblk.out 1).trans (by rfl); have s2 := (blk_cell hblk.out 2).trans (by rfl); have s3 := (blk_cell hblk.out 3).trans (by rfl)
    have h4l := lt_of_heap hblk.out
    by_cases hlt : k < 256
    · have HH := hid (has_any seen k wr hlt)
      have hk0 : (0 : Int) ≤ (k : Int) := by omega
      have hk1 : (k : Int) < 256 := by omega
      unfold cv at HH
      cases hsk : seen.has k
      · rw [hsk] at HH
        have HSK := hid hsk
        clear hsk
        go_wp2_with (first | (go_at_call 79; refine HH.out.mono ?_; rintro e w5 ⟨rfl, hb5⟩; have HB5 := hid hb5; clear hb5))
        obtain ⟨wo, rfl⟩ : ∃ wo : World, wo = wr := ⟨_, rfl⟩
        obtain ⟨v3, rfl⟩ : ∃ v3 : Value, v3 = u3 := ⟨_, rfl⟩
        go_loopw [3, 20] (fun x3 i wq => x3 = v3 ∧ ∃ (j : Nat), j ≤ n ∧ i = .int .i64 j ∧ Hid (∀ p ∈ ps.take j, p.has k = false) ∧ Hid (Below wo.heap.size wo wq)) (fun _ i _ => n - (intOf i).toNat)
        case atStart => exact ⟨rfl, 0, Nat.zero_le _, rfl, fun p hp => by simp at hp, HB5.out⟩
        case round =>
          obtain ⟨rfl, j, hj, rfl, hno, hbq⟩ := hrel
          have HBQ := hid (hbel.out.trans (hbq.out.mono hbel.out.size))
          by_cases hjn : j < n
          · obtain ⟨g, o, p, rfl, hp, hg, a0, a1, a2, a3⟩ := HR.out.at_ (k := j) hjn
            have ha := fun i => HBQ.out.cell (p := ⟨g, i, none⟩) hg
            have a0 := (ha _).trans a0; have a1 := (ha _).trans a1; have a2 := (ha _).trans a2; have a3 := (ha _).trans a3
            have HHP := hid (fun W => has_any p k W hlt)
            have HP := hid hp
            unfold cv at HHP
            clear ha hp
            cases hpk : p.has k
            · rw [hpk] at HHP
              have HNO2 : Hid (∀ q ∈ ps.take (j + 1), q.has k = false) := fun q hq => by
                obtain ⟨l1, e1⟩ := List.getElem?_eq_some_iff.1 HP.out
                rw [List.take_succ_eq_append_getElem l1, e1] at hq
                rcases List.mem_append.1 hq with h | h
                · exact hno.out q h
                · rw [List.mem_singleton.1 h]; exact hpk
              clear hpk
              go_wp2_with (first | (go_at_call 79; refine (HHP.out _).mono ?_; rintro e w6 ⟨rfl, hb6⟩; have HB6 := hid (((Below.refl _ _).alloc (Nat.le_refl _) _).trans (hb6.mono (by simp))); clear hb6))
              go_roundw
              case rel => exact ⟨rfl, j + 1, by omega, by go_num, HNO2.out, hbq.out.trans (HB6.out.mono hbq.out.size)⟩
              case measure => simp [intOf]; omega
            · rw [hpk] at HHP
              have hfind : (ps.find? fun q => q.has k) = some p := by
                obtain ⟨l1, e1⟩ := List.getElem?_eq_some_iff.1 HP.out
                rw [find_drop hno.out, List.drop_eq_getElem_cons l1, e1, List.find?_cons_of_pos (by simpa using hpk)]
              have HGO := hid ((sortGo_some (out := out) hlt HSK.out hfind).symm.trans hgo.out)
              clear hpk hfind
              go_wp2_with (first | (go_at_call 79; refine (HHP.out _).mono ?_; rintro e w6 ⟨rfl, hb6⟩; have HB60 := hid hb6; have HB6 := hid (((Below.refl _ _).alloc (Nat.le_refl _) _).trans (hb6.mono (by simp))); clear hb6))
              obtain ⟨g7, hg7⟩ : ∃ g7, g7 = wr.heap.size := ⟨_, rfl⟩
              rw [← hg7]
              have hp7 : w6.heap[g7]? = some (.cells (setCellsA p) 87 (0, 0)) := by rw [hg7]; exact blk_below (blk_new wr _) HB60.out
              have hs4 : w6.heap[g4]? = some (.cells (setCellsA seen) 87 (0, 0)) := (HB6.out.block _ (Nat.lt_of_lt_of_le h4l hbq.out.size)).trans ((hbq.out.block _ h4l).trans hblk.out)
              have HOWN6 := hid ((hown.out.kept hbq.out).kept HB6.out)
              have hne7 : u3.ownBlock ≠ some g7 := fun e => by have := ((hown.out.kept hbq.out).lt g7 e).2; omega
              have HB7 := hid (HBQ.out.trans (HB6.out.mono HBQ.out.size))
              have HCL : Hid (∀ W : World, Two w6 g7 g4 W → ((W.cell? ⟨g7, 0, none⟩ = some (.int .u64 p.a.toNat) ∧ W.cell? ⟨g7, 1, none⟩ = some (.int .u64 p.b.toNat) ∧ W.cell? ⟨g7, 2, none⟩ = some (.int .u64 p.c.toNat) ∧ W.cell? ⟨g7, 3, none⟩ = some (.int .u64 p.d.toNat)) ∧ (W.cell? ⟨g4, 0, none⟩ = some (.int .u64 seen.a.toNat) ∧ W.cell? ⟨g4, 1, none⟩ = some (.int .u64 seen.b.toNat) ∧ W.cell? ⟨g4, 2, none⟩ = some (.int .u64 seen.c.toNat) ∧ W.cell? ⟨g4, 3, none⟩ = some (.int .u64 seen.d.toNat))) ∧ W.frozen? ⟨g4, 0, none⟩ = false ∧ W.frozen? ⟨g4, 1, none⟩ = false ∧ W.frozen? ⟨g4, 2, none⟩ = false ∧ W.frozen? ⟨g4, 3, none⟩ = false) := fun W hW => by
                have h7 := hW.1.1.trans hp7
                have h4 := hW.1.2.trans hs4
                exact ⟨⟨⟨(blk_cell h7 0).trans (by rfl), (blk_cell h7 1).trans (by rfl), (blk_cell h7 2).trans (by rfl), (blk_cell h7 3).trans (by rfl)⟩, ⟨(blk_cell h4 0).trans (by rfl), (blk_cell h4 1).trans (by rfl), (blk_cell h4 2).trans (by rfl), (blk_cell h4 3).trans (by rfl)⟩⟩, blk_free h4 0, blk_free h4 1, blk_free h4 2, blk_free h4 3⟩
              have HT6 : Hid (Two w6 g7 g4 w6) := hid ⟨⟨rfl, rfl⟩, lt_of_heap hp7, lt_of_heap hs4⟩
              obtain ⟨⟨⟨d0, d1, d2, d3⟩, ⟨c0, c1, c2, c3⟩⟩, f0, f1, f2, f3⟩ := HCL.out w6 HT6.out
              have hz6 : w.heap.size ≤ w6.heap.size := HB7.out.size
              have h47 : g4 < w6.heap.size := lt_of_heap hs4
              have h77 : g7 < w6.heap.size := lt_of_heap hp7
              have HOR := hid (fun W => setOr_any seen p W)
              unfold cv at HOR
              generalize hse : seen.or p = se at HOR HGO
              have HSE := hid hse
              have hbn : out.length + [p].length ≤ 1099511627776 := by have := hlen.out; simp; omega
              have HP7 := hid hp7
              have HS4 := hid hs4
              clear hse hp7 hs4 s0 s1 s2 s3 a0 a1 a2 a3
              have h74 : g7 ≠ g4 := by have := h4l; have := hbq.out.size; omega
              have h47' : g4 ≠ g7 := fun e => h74 e.symm
              clear hg7
              go_region_law
                (first | (refine step_app_set _ (by rfl) (.tmp 28) (.tmp 30) (by rfl) w.heap.size u3 out (by rfl) (HOWN6.out.kept (by first | exact (Below.refl _ _).alloc (Nat.le_refl _) _ | exact ((Below.refl _ _).alloc (Nat.le_refl _) _).drew | exact Below.refl _ _ | exact (Below.refl _ _).drew)) ⟨w6.heap.size, 0, none⟩ 1 1 [p] (by rfl) (OwnC.one w6 p 0 (Nat.zero_le _)).rd.2.2 hbn (by first | (simp; omega) | omega) (by omega) ?_; intro v' w9 ho9 hg9 hat9; have HTF := hid (Two.grown (HT6.out.keep (by first | exact (Below.refl _ _).alloc (Nat.le_refl _) _ | exact ((Below.refl _ _).alloc (Nat.le_refl _) _).drew | exact Below.refl _ _ | exact (Below.refl _ _).drew)) hg9 hne7 hng.out); have HNF := hid (own_ne ((HT6.out.keep (by first | exact (Below.refl _ _).alloc (Nat.le_refl _) _ | exact ((Below.refl _ _).alloc (Nat.le_refl _) _).drew | exact Below.refl _ _ | exact (Below.refl _ _).drew))).2.2 hng.out hat9); have HOF := hid ho9; have HBF := hid (OwnC.belowB (Nat.le_refl _) (HB7.out.trans (Below.mono (by first | exact (Below.refl _ _).alloc (Nat.le_refl _) _ | exact ((Below.refl _ _).alloc (Nat.le_refl _) _).drew | exact Below.refl _ _ | exact (Below.refl _ _).drew) hz6)) (HOWN6.out.kept (by first | exact (Below.refl _ _).alloc (Nat.le_refl _) _ | exact ((Below.refl _ _).alloc (Nat.le_refl _) _).drew | exact Below.refl _ _ | exact (Below.refl _ _).drew)) hg9); obtain ⟨⟨⟨d0, d1, d2, d3⟩, ⟨c0, c1, c2, c3⟩⟩, f0, f1, f2, f3⟩ := HCL.out _ HTF.out; clear ho9 hg9 hat9) | (refine step_app_set _ (by rfl) (.tmp 28) (.tmp 30) (by rfl) w.heap.size u3 out (by rfl) HO8.out ⟨w6.heap.size, 0, none⟩ 1 1 [p] (by rfl) HRD8.out hbn HB8.out.size (by omega) ?_; intro v' w9 ho9 hg9 hat9; have HTF := hid (Two.grown HT8.out hg9 hne7 hng.out); have HNF := hid (own_ne (HT8.out).2.2 hng.out hat9); have HOF := hid ho9; have HBF := hid (OwnC.belowB (Nat.le_refl _) HB8.out HO8.out hg9); obtain ⟨⟨⟨d0, d1, d2, d3⟩, ⟨c0, c1, c2, c3⟩⟩, f0, f1, f2, f3⟩ := HCL.out _ HTF.out; clear ho9 hg9 hat9) | (refine step_app_set _ (by rfl) (.tmp 28) (.tmp 30) (by rfl) w.heap.size u3 out (by rfl) (HO8.out.kept (by first | exact (Below.refl _ _).alloc (Nat.le_refl _) _ | exact ((Below.refl _ _).alloc (Nat.le_refl _) _).drew | exact Below.refl _ _ | exact (Below.refl _ _).drew)) ⟨w8.heap.size, 0, none⟩ 1 1 [p] (by rfl) (OwnC.one w8 p 0 (Nat.zero_le _)).rd.2.2 hbn (by have := HB8.out.size; first | (simp; omega) | omega) (by omega) ?_; intro v' w9 ho9 hg9 hat9; have HTF := hid (Two.grown (HT8.out.keep (by first | exact (Below.refl _ _).alloc (Nat.le_refl _) _ | exact ((Below.refl _ _).alloc (Nat.le_refl _) _).drew | exact Below.refl _ _ | exact (Below.refl _ _).drew)) hg9 hne7 hng.out); have HNF := hid (own_ne ((HT8.out.keep (by first | exact (Below.refl _ _).alloc (Nat.le_refl _) _ | exact ((Below.refl _ _).alloc (Nat.le_refl _) _).drew | exact Below.refl _ _ | exact (Below.refl _ _).drew))).2.2 hng.out hat9); have HOF := hid ho9; have HBF := hid (OwnC.belowB (Nat.le_refl _) (HB8.out.trans (Below.mono (by first | exact (Below.refl _ _).alloc (Nat.le_refl _) _ | exact ((Below.refl _ _).alloc (Nat.le_refl _) _).drew | exact Below.refl _ _ | exact (Below.refl _ _).drew) HB8.out.size)) (HO8.out.kept (by first | exact (Below.refl _ _).alloc (Nat.le_refl _) _ | exact ((Below.refl _ _).alloc (Nat.le_refl _) _).drew | exact Below.refl _ _ | exact (Below.refl _ _).drew)) hg9); obtain ⟨⟨⟨d0, d1, d2, d3⟩, ⟨c0, c1, c2, c3⟩⟩, f0, f1, f2, f3⟩ := HCL.out _ HTF.out; clear ho9 hg9 hat9) | ((have _t := HTF); go_simp; refine (HOR.out _).mono ?_; rintro e w10 ⟨rfl, hb10⟩; (first | (have hb10 := undrew hb10) | skip); have HTF := hid (HTF.out.keep hb10); have HOF := hid (HOF.out.kept hb10); have HBF := hid (HBF.out.trans (hb10.mono HBF.out.size)); obtain ⟨⟨⟨d0, d1, d2, d3⟩, ⟨c0, c1, c2, c3⟩⟩, f0, f1, f2, f3⟩ := HCL.out _ HTF.out; clear hb10) | (go_simp; refine (HOR.out _).mono ?_; rintro e w8 ⟨rfl, hb8⟩; (first | (have hb8 := undrew hb8) | skip); have HB68 : Hid (Below w6.heap.size w6 w8) := hid (Below.trans (by first | exact (Below.refl _ _).alloc (Nat.le_refl _) _ | exact ((Below.refl _ _).alloc (Nat.le_refl _) _).drew | exact Below.refl _ _ | exact (Below.refl _ _).drew) (hb8.mono (by first | exact Nat.le_refl _ | simp))); have HT8 := hid (HT6.out.keep HB68.out); have HO8 := hid (HOWN6.out.kept HB68.out); have HB8 := hid (HB7.out.trans (HB68.out.mono HB7.out.size)); (first | (have HRD8 := hid ((OwnC.one w6 p 0 (Nat.zero_le _)).rd.2.2.below hb8)) | skip); obtain ⟨⟨⟨d0, d1, d2, d3⟩, ⟨c0, c1, c2, c3⟩⟩, f0, f1, f2, f3⟩ := HCL.out _ HT8.out; clear hb8))
              all_goals
                go_wp2_with fail
                go_roundw
                case rel => exact ⟨k + 1, out ++ [p], se, by omega, by go_num, own_set4 HOF.out HNF.out se, HNF.out, set_blk4 (HTF.out.1.2.trans HS4.out) se, by show _ ≤ _; have := hlen.out; simp; omega, HGO.out, below4 HBF.out (Nat.le_of_lt hw4) _ _ _ _⟩
                case measure => simp [intOf]; omega
          · have hfind : (ps.find? fun q => q.has k) = none := by
              rw [find_drop hno.out, List.drop_eq_nil_of_le (by rw [HR.out.1]; omega)]; rfl
            have HGO := hid ((sortGo_none (out := out) hlt HSK.out hfind).symm.trans hgo.out)
            clear hfind
            go_wp2_with fail
            go_roundw
            case rel => exact ⟨k + 1, out, seen, by omega, by go_num, hown.out.kept hbq.out, hng.out, (hbq.out.block _ h4l).trans hblk.out, Nat.le_succ_of_le hlen.out, HGO.out, HBQ.out⟩
            case measure => simp [intOf]; omega
      · rw [hsk] at HH
        have HGO := hid ((sortGo_seen (ps := ps) (out := out) hlt hsk).symm.trans hgo.out)
        clear hsk
        go_wp2_with (first | (go_at_call 79; refine HH.out.mono ?_; rintro e w5 ⟨rfl, hb5⟩; have HB5 := hid hb5; clear hb5))
        go_roundw
        case rel => exact ⟨k + 1, out, seen, by omega, by go_num, hown.out.kept HB5.out, hng.out, (HB5.out.block _ h4l).trans hblk.out, Nat.le_succ_of_le hlen.out, HGO.out, hbel.out.trans (HB5.out.mono hbel.out.size)⟩
        case measure => simp [intOf]; omega
    · have hkn : k = 256 := by omega
      subst hkn
      have HE := hid hgo.out
      go_wp2_with fail
      go_ret
      refine ⟨_, rfl, ?_, hbel.out⟩
      rw [← HE.out, List.drop_eq_nil_of_le (by simp), sortGo]
      exact hown.out
end Go.Proofs.YtfpfloahkibcgaaGreatDoor
