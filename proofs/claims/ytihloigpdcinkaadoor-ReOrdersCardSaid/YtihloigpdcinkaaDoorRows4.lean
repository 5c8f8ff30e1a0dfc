/- slices.DeleteFunc at rows of expressions. -/
import Derived.Test.YtihloigpdcinkaaDoorRows3
namespace Go.Proofs.YtihloigpdcinkaaDoor
open Go.RowKit

theorem heap_setCells {g : Nat} {e : TypeId} : ∀ (xs : List Value) (o : Nat) (w : World) (cur : Array Value), w.heap[g]? = some (.cells cur e (0, 0)) →
    ∃ cur', (w.setCells g o xs).heap[g]? = some (.cells cur' e (0, 0)) ∧ cur'.size = cur.size ∧ ∀ j, j < o → cur'[j]? = cur[j]?
  | [], _, _, cur, h => ⟨cur, h, rfl, fun _ _ => rfl⟩
  | x :: xs, o, w, cur, h => by
    obtain ⟨cur', h1, h2, h3⟩ := heap_setCells xs (o + 1) (w.setCell ⟨g, o, none⟩ x) _ (blk_set h o x)
    refine ⟨cur', h1, by simpa using h2, fun j hj => ?_⟩
    rw [h3 j (by omega), Array.getElem?_setIfInBounds_ne (by omega)]
theorem grown_setCell (w : World) (g o : Nat) (x : Value) : w.grownBy (w.setCell ⟨g, o, none⟩ x) (some g) :=
  ⟨rfl, rfl, rfl, by simp [World.setCell], fun k _ hne => Below.heap_setCell _ _ _ _ (fun e => hne (by rw [e]))⟩
theorem grown_setCells (g : Nat) : ∀ (xs : List Value) (o : Nat) (w : World), w.grownBy (w.setCells g o xs) (some g)
  | [], _, w => World.grownBy.refl w _
  | x :: xs, o, w => (grown_setCell w g o x).trans (grown_setCells g xs (o + 1) _)

/-- The pointers of those that are kept. -/
def keepB (q : Re → Bool) (rs : List Re) (bs : List Nat) : List Nat := ((rs.zip bs).filter fun x => q x.1).map (·.2)
theorem keepB_len (q : Re → Bool) (rs : List Re) (bs : List Nat) (h : rs.length = bs.length) : (keepB q rs bs).length = (rs.filter q).length := by
  induction rs generalizing bs with
  | nil => simp [keepB]
  | cons r rs ih =>
    cases bs with
    | nil => simp at h
    | cons b bs =>
      simp only [List.length_cons, Nat.add_right_cancel_iff] at h
      have := ih bs h
      simp only [keepB, List.zip_cons_cons, List.filter_cons] at this ⊢
      split <;> simp_all
theorem keepB_els {w : World} {X : Nat → Prop} (q : Re → Bool) : ∀ (rs : List Re) (bs : List Nat), Els w X rs bs → Els w X (rs.filter q) (keepB q rs bs)
  | [], bs, _ => by simpa [keepB] using Els.nil
  | r :: rs, [], h => by have := h.1; simp at this
  | r :: rs, b :: bs, h => by
    have h1 : ReAt w X r b := h.2 0 r b rfl rfl
    have h2 : Els w X rs bs := ⟨by have := h.1; simpa using this, fun i r' b' h1 h2 => h.2 (i + 1) r' b' (by simpa using h1) (by simpa using h2)⟩
    have ih := keepB_els q rs bs h2
    simp only [keepB, List.zip_cons_cons, List.filter_cons] at ih ⊢
    split
    · exact Els.append (Els.one h1) ih
    · exact ih
theorem keepB_snoc (q : Re → Bool) (rs : List Re) (bs : List Nat) (r : Re) (b : Nat) (h : rs.length = bs.length) : keepB q (rs ++ [r]) (bs ++ [b]) = keepB q rs bs ++ (if q r then [b] else []) := by
  unfold keepB
  rw [List.zip_append h, List.filter_append, List.map_append]
  congr 1
  by_cases hq : q r <;> simp [hq]
theorem keepB_all (q : Re → Bool) (rs : List Re) (bs : List Nat) (h : rs.length = bs.length) (ha : ∀ r ∈ rs, q r = true) : keepB q rs bs = bs := by
  unfold keepB
  rw [List.filter_eq_self.2 (fun x hx => ha _ (List.of_mem_zip hx).1), List.map_snd_zip (by omega)]

/-- The row while it is being cut down: i kept ones ahead, from j on as it was. -/
def DelRel (w : World) (base g cap : Nat) (X : Nat → Prop) (q : Re → Bool) (rs : List Re) (bs : List Nat) (i j : Nat) (wr : World) : Prop :=
  ∃ L : List Nat, OwnP wr base (.slice (some ⟨g, 0, none⟩) L.length cap) L ∧ L.length = bs.length ∧ L.take i = keepB q (rs.take j) (bs.take j) ∧ L.drop j = bs.drop j ∧ i < j ∧ j ≤ bs.length ∧ i = (keepB q (rs.take j) (bs.take j)).length ∧
    Els wr (Xo X (.slice (some ⟨g, 0, none⟩) L.length cap)) rs bs ∧ w.grownBy wr (some g)
theorem DelRel.skip {w wr : World} {base g cap : Nat} {X : Nat → Prop} {q : Re → Bool} {rs : List Re} {bs : List Nat} {i j : Nat} {r : Re} {b : Nat} (h : DelRel w base g cap X q rs bs i j wr)
    (hr : rs[j]? = some r) (hb : bs[j]? = some b) (hq : q r = false) : DelRel w base g cap X q rs bs i (j + 1) wr := by
  obtain ⟨L, h1, h2, h3, h4, h5, h6, h7, h8, h9⟩ := h
  obtain ⟨hjr, er⟩ := List.getElem?_eq_some_iff.1 hr
  obtain ⟨hjb, eb⟩ := List.getElem?_eq_some_iff.1 hb
  have e : keepB q (rs.take (j + 1)) (bs.take (j + 1)) = keepB q (rs.take j) (bs.take j) := by
    rw [List.take_succ_eq_append_getElem hjr, List.take_succ_eq_append_getElem hjb, keepB_snoc _ _ _ _ _ (by simp [h8.1]), er, hq]
    simp
  refine ⟨L, h1, h2, by rw [e]; exact h3, ?_, by omega, hjb, by rw [e]; exact h7, h8, h9⟩
  rw [← List.drop_drop (i := 1) (j := j), h4, List.drop_drop]
theorem DelRel.keep {w wr : World} {base g cap : Nat} {X : Nat → Prop} {q : Re → Bool} {rs : List Re} {bs : List Nat} {i j : Nat} {r : Re} {b : Nat} (h : DelRel w base g cap X q rs bs i j wr)
    (hr : rs[j]? = some r) (hb : bs[j]? = some b) (hq : q r = true) : DelRel w base g cap X q rs bs (i + 1) (j + 1) (wr.setCell ⟨g, i, none⟩ (ptr b)) := by
  obtain ⟨L, h1, h2, h3, h4, h5, h6, h7, h8, h9⟩ := h
  obtain ⟨hjr, er⟩ := List.getElem?_eq_some_iff.1 hr
  obtain ⟨hjb, eb⟩ := List.getElem?_eq_some_iff.1 hb
  have e : keepB q (rs.take (j + 1)) (bs.take (j + 1)) = keepB q (rs.take j) (bs.take j) ++ [b] := by
    rw [List.take_succ_eq_append_getElem hjr, List.take_succ_eq_append_getElem hjb, keepB_snoc _ _ _ _ _ (by simp [h8.1]), er, eb, hq]
    simp
  have hst := World.ownsRow.stored h1 i (ptr b)
  refine ⟨L.set i b, ?_, by simpa using h2, ?_, ?_, by omega, hjb, by rw [e, List.length_append]; simp; omega, ?_, h9.trans hst.2⟩
  · simpa [OwnP, List.map_set] using hst.1
  · rw [e, ← h3, List.take_set, List.take_succ_eq_append_getElem (by omega), List.set_append_right _ _ (by simp; omega)]
    simp [show i - min i L.length = 0 by omega]
  · rw [List.drop_set_of_lt (by omega), ← List.drop_drop (i := 1) (j := j), h4, List.drop_drop]
  · have := h8.keep (Keeps.of_grown (X := fun k => k = g) hst.2 (fun k hk => by cases hk; rfl)) (fun k hk => .inr (by rw [hk]; rfl))
    simpa using this

/-- The end: what lies ahead of i is the row. -/
theorem DelRel.cut {w wr : World} {base g cap : Nat} {X : Nat → Prop} {q : Re → Bool} {rs : List Re} {bs : List Nat} {i : Nat} (h : DelRel w base g cap X q rs bs i bs.length wr) (xs : List Value) :
    OwnP (wr.setCells g i xs) base (.slice (some ⟨g, 0, none⟩) i cap) (keepB q rs bs) ∧ Els (wr.setCells g i xs) (Xo X (.slice (some ⟨g, 0, none⟩) i cap)) (rs.filter q) (keepB q rs bs) ∧ w.grownBy (wr.setCells g i xs) (some g) := by
  obtain ⟨L, h1, h2, h3, h4, h5, h6, h7, h8, h9⟩ := h
  have hrl : rs.take bs.length = rs := List.take_of_length_le (by rw [h8.1]; exact Nat.le_refl _)
  rw [hrl, List.take_length] at h3 h7
  have hgr := grown_setCells g xs i wr
  refine ⟨?_, ?_, h9.trans hgr⟩
  · unfold OwnP at h1 ⊢
    rcases h1.2 with ⟨e, _⟩ | ⟨g', cap', cur, e, hb, hh, hn, hm, hs, ht⟩
    · cases e
    · cases e
      obtain ⟨cur', c1, c2, c3⟩ := heap_setCells xs i wr cur hh
      refine ⟨by simp, .inr ⟨g, cap, cur', by rw [← h7], hb, c1, by omega, hm, by rw [c2]; exact hs, ?_⟩⟩
      rw [← h3, List.map_take, ← ht]
      rw [Nat.mul_one] at ht ⊢
      have hli : (L.take i).length = i := by rw [List.length_take]; omega
      rw [hli, Nat.mul_one, List.take_take, Nat.min_eq_left (by omega)]
      apply List.ext_getElem?
      intro j
      rw [List.getElem?_take, List.getElem?_take]
      split
      · rw [Array.getElem?_toList, Array.getElem?_toList]; exact c3 j (by assumption)
      · rfl
  · have := h8.keep (Keeps.of_grown (X := fun k => k = g) hgr (fun k hk => by cases hk; rfl)) (fun k hk => .inr (by rw [hk]; rfl))
    exact keepB_els q rs bs this

/-- WHAT A CALL THAT CUTS A ROW OF THE CALLER's DOWN COMES TO. -/
def RetCut (w : World) (X : Nat → Prop) (base : Nat) (v : Value) (rs : List Re) (e : Ending) (w' : World) : Prop :=
  ∃ v' bs, e = .returned v' ∧ OwnP w' base v' bs ∧ Els w' (Xo X v') rs bs ∧ w.grownBy w' v.ownBlock ∧ v'.ownBlock = v.ownBlock

set_option maxHeartbeats 1000000 in
theorem deleteFunc_any (g : Nat) (p : Re → Bool) (hp : PredFn g p) (base : Nat) (v : Value) (rs : List Re) (bs : List Nat) (X : Nat → Prop) (w : World) (hown : OwnP w base v bs) (hels : Els w (Xo X v) rs bs) (hn : bs.length ≤ 1099511627776) :
    Calls Tryd.prog 50 #[v, .func (.func g) #[] #[]] w (RetCut w X base v (rs.filter fun r => !p r)) := by
  obtain ⟨A, c, rfl⟩ := hown.form
  obtain ⟨-, hcap, hrd⟩ := hown.rd
  have hI := indexFunc_any g p hp A bs.length c rs bs _ w hrd hels hn
  have HO := hid hown
  have HE := hid hels
  have eg := hp.1
  have HP := hid hp.2
  have hlen := hels.1
  cases hf : rs.findIdx? p with
  | none =>
    have e1 : idxR p rs = -1 := by unfold idxR; rw [hf]
    rw [e1] at hI
    rw [List.findIdx?_eq_none_iff] at hf
    have hq : ∀ r ∈ rs, (!p r) = true := fun r hr => by rw [hf r hr]; rfl
    have HF : Hid (rs.filter (fun r => !p r) = rs) := List.filter_eq_self.2 hq
    have HI := hid hI
    clear hown hels hp hI hf hq hrd e1 hcap
    go_enter Tryd.func50, Tryd.ntmps50
    go_wp2_with (go_at_call 68; refine HI.out.mono ?_; rintro e w' ⟨rfl, rfl⟩)
    go_ret
    exact ⟨_, bs, rfl, HO.out, by rw [HF.out]; exact HE.out, World.grownBy.refl w _, rfl⟩
  | some i0 =>
    have e1 : idxR p rs = (i0 : Int) := by unfold idxR; rw [hf]
    rw [e1] at hI
    rw [List.findIdx?_eq_some_iff_getElem] at hf
    obtain ⟨hi0, hpi, hpj⟩ := hf
    obtain ⟨gb, o, rfl, hgb, hcells⟩ := hrd.2 (by omega)
    obtain rfl : o = 0 := by
      unfold OwnP at hown
      rcases hown.2 with ⟨e, _⟩ | ⟨g', cap', cur, e, _⟩
      · cases e
      · cases e; rfl
    have HS : Hid (DelRel w base gb c X (fun r => !p r) rs bs i0 (i0 + 1) w) := by
      have ek : keepB (fun r => !p r) (rs.take (i0 + 1)) (bs.take (i0 + 1)) = bs.take i0 := by
        rw [List.take_succ_eq_append_getElem hi0, List.take_succ_eq_append_getElem (by omega), keepB_snoc _ _ _ _ _ (by simp; omega), keepB_all _ _ _ (by simp; omega)]
        · simp [hpi]
        · intro r hr
          obtain ⟨j, hj, e⟩ := List.getElem_of_mem hr
          simp at hj
          rw [List.getElem_take] at e
          have := hpj j (by omega)
          rw [e] at this
          simpa using this
      exact ⟨bs, hown, rfl, ek.symm, rfl, by omega, by omega, by rw [ek, List.length_take]; omega, hels, World.grownBy.refl w _⟩
    have hne : ((i0 : Int) == -1) = false := beq_eq_false_iff_ne.2 (by omega)
    have HI := hid hI
    have hc := hcap.1
    have hi0b : i0 + 1 ≤ bs.length := by omega
    clear hown hels hp hI hpi hpj hrd e1 hcap hcells
    go_enter Tryd.func50, Tryd.ntmps50
    go_wp2_with (go_at_call 68; refine HI.out.mono ?_; rintro e w' ⟨rfl, rfl⟩)
    go_loopw [5, 6] (fun s5 s6 wr => ∃ i j : Nat, s5 = .int .i64 i ∧ s6 = .int .i64 j ∧ i < j ∧ j ≤ bs.length ∧ Hid (DelRel w base gb c X (fun r => !p r) rs bs i j wr)) (fun _ s6 _ => bs.length - (intOf s6).toNat)
    case atStart => exact ⟨i0, i0 + 1, rfl, by go_num, by omega, hi0b, HS⟩
    case round =>
      obtain ⟨i, j, rfl, rfl, hij, hjn, hD⟩ := hrel
      obtain ⟨L, h1, h2, h3, h4, -, -, -, h8, h9⟩ := hD.out
      by_cases hlt : j < bs.length
      · obtain ⟨b, hb⟩ : ∃ b, bs[j]? = some b := ⟨bs[j], List.getElem?_eq_getElem hlt⟩
        obtain ⟨r, hr⟩ : ∃ r, rs[j]? = some r := ⟨rs[j], List.getElem?_eq_getElem (by omega)⟩
        obtain ⟨l0, hLi⟩ : ∃ l, L[i]? = some l := ⟨L[i], List.getElem?_eq_getElem (by omega)⟩
        have hLj : L[j]? = some b := by
          have := congrArg (fun l => l[0]?) h4
          simp only [List.getElem?_drop, Nat.add_zero] at this
          rw [this, hb]
        have hrd := h1.rd.2.2.2 (by omega)
        obtain ⟨g', o', e, hg', hcs⟩ := hrd
        cases e
        have cj := hcs j _ (by rw [List.getElem?_map, hLj]; rfl)
        have ci := hcs i _ (by rw [List.getElem?_map, hLi]; rfl)
        have fi := World.ownsRow.frozenAt h1 i
        have HC := hid (HP.out _ _ _ wr (h8.2 j _ _ hr hb))
        have HKB := hid hb
        have HKR := hid hr
        simp only [Nat.zero_add] at cj ci
        clear hcs h1 h2 h3 h4 h8 h9 hb hr hLj hLi
        cases hpr : p r with
        | true =>
          rw [hpr] at HC
          have HN := hid (hD.out.skip HKR.out HKB.out (by rw [hpr]; rfl))
          clear hpr
          go_wp2_with fail
          refine HC.out.mono ?_
          rintro e w' ⟨rfl, rfl⟩
          go_wp2_with fail
          go_roundw
          case rel => exact ⟨i, j + 1, rfl, by go_num, by omega, by omega, HN⟩
          case measure => simp [intOf]; omega
        | false =>
          rw [hpr] at HC
          have HN := hid (hD.out.keep HKR.out HKB.out (by rw [hpr]; rfl))
          clear hpr
          go_wp2_with fail
          refine HC.out.mono ?_
          rintro e w' ⟨rfl, rfl⟩
          go_wp2_with fail
          go_roundw
          case rel => exact ⟨i + 1, j + 1, by go_num, by go_num, by omega, by omega, HN⟩
          case measure => simp [intOf]; omega
      · obtain rfl : j = bs.length := by omega
        have hcl : ∀ ty, (Builtin.clear_ #[24] ty #[.slice (some ⟨gb, i, none⟩) (bs.length - i) (c - i)]).run Tryd.prog wr = .ok (.tuple #[]) (wr.setCells gb i (List.replicate (bs.length - i) (.pointer none))) := by
          obtain ⟨g', o', e, hg', hcs⟩ := h1.rd.2.2.2 (by omega)
          cases e
          intro ty
          refine Lib.run_clear_slice wr _ _ ty _ Tryd.underlying24 Tryd.zeroValue27 rfl rfl gb i _ _ (by omega) (fun t ht => ?_) (fun t ht => World.ownsRow.frozenAt h1 _)
          have := hcs (i + t) (ptr L[i + t]) (by rw [List.getElem?_map, List.getElem?_eq_getElem (by omega)]; rfl)
          rw [Nat.zero_add] at this
          rw [this]; rfl
        have HCUT := hid (hD.out.cut (List.replicate (bs.length - i) (.pointer none)))
        clear h1 h2 h3 h4 h8 h9
        go_wp2_with fail
        go_ret
        exact ⟨_, _, rfl, HCUT.out.1, HCUT.out.2.1, HCUT.out.2.2, rfl⟩
end Go.Proofs.YtihloigpdcinkaaDoor
