/- slices.CompactFunc at rows of expressions, told apart by their keys. -/
import Derived.Test.YtihloigpdcinkaaDoorRows4
namespace Go.Proofs.YtihloigpdcinkaaDoor
open Go.RowKit

theorem Keeps.drewN (X : Nat → Prop) (w : World) (n : Nat) : Keeps X w (w.drewN n) := ⟨Nat.le_refl _, fun _ _ _ => rfl⟩
theorem ReAt.drewN {w : World} {X : Nat → Prop} {r : Re} {b : Nat} (h : ReAt w X r b) (n : Nat) : ReAt (w.drewN n) X r b := h.keep (Keeps.drewN (fun _ => False) w n) (fun _ h => h.elim)
theorem Els.drewN {w : World} {X : Nat → Prop} {rs : List Re} {bs : List Nat} (h : Els w X rs bs) (n : Nat) : Els (w.drewN n) X rs bs := h.keep (Keeps.drewN (fun _ => False) w n) (fun _ h => h.elim)

/-- Those that a mask lets by. -/
def keepM {α : Type} (ms : List Bool) (xs : List α) : List α := ((ms.zip xs).filter (·.1)).map (·.2)
theorem keepM_els {w : World} {X : Nat → Prop} : ∀ (ms : List Bool) (rs : List Re) (bs : List Nat), ms.length = rs.length → Els w X rs bs → Els w X (keepM ms rs) (keepM ms bs)
  | [], rs, bs, _, _ => by simpa [keepM] using Els.nil
  | m :: ms, [], bs, hl, _ => by simp at hl
  | m :: ms, r :: rs, [], _, h => by have := h.1; simp at this
  | m :: ms, r :: rs, b :: bs, hl, h => by
    have h1 : ReAt w X r b := h.2 0 r b rfl rfl
    have h2 : Els w X rs bs := ⟨by have := h.1; simpa using this, fun i r' b' h1 h2 => h.2 (i + 1) r' b' (by simpa using h1) (by simpa using h2)⟩
    have ih := keepM_els ms rs bs (by simpa using hl) h2
    cases m
    · simpa [keepM] using ih
    · simpa [keepM] using Els.append (Els.one h1) ih
theorem keepM_snoc {α : Type} (ms : List Bool) (xs : List α) (m : Bool) (x : α) (h : ms.length = xs.length) : keepM (ms ++ [m]) (xs ++ [x]) = keepM ms xs ++ (if m then [x] else []) := by
  unfold keepM
  rw [List.zip_append h, List.filter_append, List.map_append]
  cases m <;> simp
theorem keepM_all {α : Type} : ∀ (ms : List Bool) (xs : List α), ms.length = xs.length → (∀ m ∈ ms, m = true) → keepM ms xs = xs
  | [], [], _, _ => rfl
  | m :: ms, x :: xs, h, ha => by
    have ih := keepM_all ms xs (by simpa using h) (fun m hm => ha m (by simp [hm]))
    rw [ha m (by simp)]
    simpa [keepM] using ih

/-- Is element i to be kept: the first one, and each that isn't what stands ahead of it? -/
def cmask1 (rs : List Re) (i : Nat) : Bool := i == 0 || !((rs[i]?.map Re.key) == (rs[i - 1]?.map Re.key))
def cmask (rs : List Re) : List Bool := (List.range rs.length).map (cmask1 rs)
/-- slices.CompactFunc by the keys. -/
def compactK (rs : List Re) : List Re := keepM (cmask rs) rs

/-- The row while it is being cut down: i kept ones ahead, from j on as it was. -/
def CmpRel (w : World) (base g cap : Nat) (X : Nat → Prop) (ms : List Bool) (rs : List Re) (bs : List Nat) (i j : Nat) (wr : World) : Prop :=
  ∃ L : List Nat, OwnP wr base (.slice (some ⟨g, 0, none⟩) L.length cap) L ∧ L.length = bs.length ∧ L.take i = keepM (ms.take j) (bs.take j) ∧ L.drop (j - 1) = bs.drop (j - 1) ∧ i < j ∧ j ≤ bs.length ∧ i = (keepM (ms.take j) (bs.take j)).length ∧ ms.length = bs.length ∧
    Els wr (Xo X (.slice (some ⟨g, 0, none⟩) L.length cap)) rs bs ∧ w.grownBy wr (some g)
theorem CmpRel.skip {w wr : World} {base g cap : Nat} {X : Nat → Prop} {ms : List Bool} {rs : List Re} {bs : List Nat} {i j : Nat} {b : Nat} (h : CmpRel w base g cap X ms rs bs i j wr)
    (hm : ms[j]? = some false) (hb : bs[j]? = some b) : CmpRel w base g cap X ms rs bs i (j + 1) wr := by
  obtain ⟨L, h1, h2, h3, h4, h5, h6, h7, hml, h8, h9⟩ := h
  obtain ⟨hjr, er⟩ := List.getElem?_eq_some_iff.1 hm
  obtain ⟨hjb, eb⟩ := List.getElem?_eq_some_iff.1 hb
  have e : keepM (ms.take (j + 1)) (bs.take (j + 1)) = keepM (ms.take j) (bs.take j) := by
    rw [List.take_succ_eq_append_getElem hjr, List.take_succ_eq_append_getElem hjb, keepM_snoc _ _ _ _ (by simp [hml]), er]
    simp
  refine ⟨L, h1, h2, by rw [e]; exact h3, ?_, by omega, hjb, by rw [e]; exact h7, hml, h8, h9⟩
  rw [show j + 1 - 1 = (j - 1) + 1 by omega, ← List.drop_drop (i := 1) (j := j - 1), h4, List.drop_drop]
theorem CmpRel.keep {w wr : World} {base g cap : Nat} {X : Nat → Prop} {ms : List Bool} {rs : List Re} {bs : List Nat} {i j : Nat} {b : Nat} (h : CmpRel w base g cap X ms rs bs i j wr)
    (hm : ms[j]? = some true) (hb : bs[j]? = some b) : CmpRel w base g cap X ms rs bs (i + 1) (j + 1) (wr.setCell ⟨g, i, none⟩ (ptr b)) := by
  obtain ⟨L, h1, h2, h3, h4, h5, h6, h7, hml, h8, h9⟩ := h
  obtain ⟨hjr, er⟩ := List.getElem?_eq_some_iff.1 hm
  obtain ⟨hjb, eb⟩ := List.getElem?_eq_some_iff.1 hb
  have e : keepM (ms.take (j + 1)) (bs.take (j + 1)) = keepM (ms.take j) (bs.take j) ++ [b] := by
    rw [List.take_succ_eq_append_getElem hjr, List.take_succ_eq_append_getElem hjb, keepM_snoc _ _ _ _ (by simp [hml]), er, eb]
    simp
  have hst := World.ownsRow.stored h1 i (ptr b)
  refine ⟨L.set i b, ?_, by simpa using h2, ?_, ?_, by omega, hjb, by rw [e, List.length_append]; simp; omega, hml, ?_, h9.trans hst.2⟩
  · simpa [OwnP, List.map_set] using hst.1
  · rw [e, ← h3, List.take_set, List.take_succ_eq_append_getElem (by omega), List.set_append_right _ _ (by simp; omega)]
    simp [show i - min i L.length = 0 by omega]
  · rw [List.drop_set_of_lt (by omega), show j + 1 - 1 = (j - 1) + 1 by omega, ← List.drop_drop (i := 1) (j := j - 1), h4, List.drop_drop]
  · have := h8.keep (Keeps.of_grown (X := fun k => k = g) hst.2 (fun k hk => by cases hk; rfl)) (fun k hk => .inr (by rw [hk]; rfl))
    simpa using this
theorem CmpRel.drewN {w wr : World} {base g cap : Nat} {X : Nat → Prop} {ms : List Bool} {rs : List Re} {bs : List Nat} {i j : Nat} (h : CmpRel w base g cap X ms rs bs i j wr) (n : Nat) : CmpRel w base g cap X ms rs bs i j (wr.drewN n) := by
  obtain ⟨L, h1, h2, h3, h4, h5, h6, h7, hml, h8, h9⟩ := h
  exact ⟨L, h1, h2, h3, h4, h5, h6, h7, hml, h8.drewN n, ⟨h9.os, h9.tape, h9.output, h9.size, h9.block⟩⟩
theorem CmpRel.cut {w wr : World} {base g cap : Nat} {X : Nat → Prop} {ms : List Bool} {rs : List Re} {bs : List Nat} {i : Nat} (h : CmpRel w base g cap X ms rs bs i bs.length wr) (xs : List Value) :
    OwnP (wr.setCells g i xs) base (.slice (some ⟨g, 0, none⟩) i cap) (keepM ms bs) ∧ Els (wr.setCells g i xs) (Xo X (.slice (some ⟨g, 0, none⟩) i cap)) (keepM ms rs) (keepM ms bs) ∧ w.grownBy (wr.setCells g i xs) (some g) := by
  obtain ⟨L, h1, h2, h3, h4, h5, h6, h7, hml, h8, h9⟩ := h
  have hrl : ms.take bs.length = ms := List.take_of_length_le (by rw [hml]; exact Nat.le_refl _)
  rw [hrl, List.take_length] at h3 h7
  have hgr := grown_setCells g xs i wr
  refine ⟨?_, ?_, h9.trans hgr⟩
  · unfold OwnP at h1 ⊢
    rcases h1.2 with ⟨e, _⟩ | ⟨g', cap', cur, e, hb, hh, hn, hm, hs, ht⟩
    · cases e
    · cases e
      obtain ⟨cur', c1, c2, c3⟩ := heap_setCells xs i wr cur hh
      refine ⟨by simp, .inr ⟨g, cap, cur', by rw [← h7], hb, c1, by omega, hm, by rw [c2]; exact hs, ?_⟩⟩
      rw [← h3, List.map_take, ← ht]
      rw [Nat.mul_one] at ht ⊢
      have hli : (L.take i).length = i := by rw [List.length_take]; omega
      rw [hli, Nat.mul_one, List.take_take, Nat.min_eq_left (by omega)]
      apply List.ext_getElem?
      intro j
      rw [List.getElem?_take, List.getElem?_take]
      split
      · rw [Array.getElem?_toList, Array.getElem?_toList]; exact c3 j (by assumption)
      · rfl
  · have := h8.keep (Keeps.of_grown (X := fun k => k = g) hgr (fun k hk => by cases hk; rfl)) (fun k hk => .inr (by rw [hk]; rfl))
    exact keepM_els ms rs bs (by rw [hml, h8.1]) this

theorem cmask_at (rs : List Re) (j : Nat) (r s : Re) (hj : 0 < j) (hr : rs[j]? = some r) (hs : rs[j - 1]? = some s) : (cmask rs)[j]? = some (!(r.key == s.key)) := by
  have hl := (List.getElem?_eq_some_iff.1 hr).1
  unfold cmask
  rw [List.getElem?_map, List.getElem?_range hl]
  simp only [Option.map_some, cmask1, hr, hs]
  have : (j == 0) = false := by simp; omega
  rw [this]
  rfl
theorem cmask_zero (rs : List Re) (h : 0 < rs.length) : (cmask rs)[0]? = some true := by
  unfold cmask
  rw [List.getElem?_map, List.getElem?_range h]
  rfl
theorem cmask_len (rs : List Re) : (cmask rs).length = rs.length := by simp [cmask]
/-- The first pair of the same: the row as it came is as it should be up to there. -/
theorem CmpRel.start {w wr : World} {base g cap : Nat} {X : Nat → Prop} {rs : List Re} {bs : List Nat} {k : Nat} (hown : OwnP wr base (.slice (some ⟨g, 0, none⟩) bs.length cap) bs) (hels : Els wr (Xo X (.slice (some ⟨g, 0, none⟩) bs.length cap)) rs bs)
    (hg : w.grownBy wr (some g)) (hk : k < bs.length) (ha : ∀ i m, i < k → (cmask rs)[i]? = some m → m = true) (hm : (cmask rs)[k]? = some false) : CmpRel w base g cap X (cmask rs) rs bs k (k + 1) wr := by
  have hl : (cmask rs).length = bs.length := by rw [cmask_len, hels.1]
  obtain ⟨hkl, ek⟩ := List.getElem?_eq_some_iff.1 hm
  have e : keepM ((cmask rs).take (k + 1)) (bs.take (k + 1)) = bs.take k := by
    rw [List.take_succ_eq_append_getElem hkl, List.take_succ_eq_append_getElem hk, keepM_snoc _ _ _ _ (by simp [hl]), keepM_all _ _ (by simp [hl]), ek]
    · simp
    · intro m hm'
      obtain ⟨i, hi, e⟩ := List.getElem_of_mem hm'
      simp at hi
      rw [List.getElem_take] at e
      exact ha i m (by omega) (by rw [← e]; exact List.getElem?_eq_getElem (by omega))
  exact ⟨bs, hown, rfl, e.symm, rfl, by omega, hk, by rw [e, List.length_take]; omega, hl, hels, hg⟩
theorem compactK_short (rs : List Re) (h : rs.length < 2) : compactK rs = rs := by
  match rs, h with
  | [], _ => rfl
  | [r], _ => rfl
theorem compactK_all (rs : List Re) (ha : ∀ (i : Nat) m, (cmask rs)[i]? = some m → m = true) : compactK rs = rs :=
  keepM_all _ _ (cmask_len rs) (fun m hm => by obtain ⟨i, hi, e⟩ := List.getElem_of_mem hm; exact ha i m (by rw [← e]; exact List.getElem?_eq_getElem hi))
end Go.Proofs.YtihloigpdcinkaaDoor
