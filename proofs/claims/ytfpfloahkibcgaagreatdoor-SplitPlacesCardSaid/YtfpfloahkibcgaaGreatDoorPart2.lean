/- Plain: the sets on which a first byte hangs; bytes that they do not tell apart have the same behind them; the counts of the parts. -/
import Derived.Test.YtfpfloahkibcgaaGreatDoorPart
import Derived.Test.YtfpfloahkibcgaaGreatDoorDerWord
namespace Go.Proofs.YtfpfloahkibcgaaGreatDoor

/-- The sets on which a first byte hangs. -/
def firstsR : Re → List CSet
  | .cls s => [s]
  | .cat l => firstsC l
  | .or l => firstsL l
  | .star x => firstsR x
  | .and l => firstsL l
  | .minus x y => firstsR x ++ firstsR y
  | _ => []
where
  firstsL : List Re → List CSet
  | [] => []
  | r :: l => firstsR r ++ firstsL l
  firstsC : List Re → List CSet
  | [] => []
  | r :: l => firstsR r ++ if r.null then firstsC l else []
theorem firstsL_eq (l : List Re) : firstsR.firstsL l = l.flatMap firstsR := by
  induction l with
  | nil => rfl
  | cons r l ih => rw [firstsR.firstsL, ih, List.flatMap_cons]
theorem firstsR_kids {r : Re} (h2 : r.op ≠ 2) (h3 : r.op ≠ 3) : firstsR r = r.kids.flatMap firstsR := by
  cases r with
  | cls s => exact absurd rfl h2
  | cat l => exact absurd rfl h3
  | none => rfl
  | eps => rfl
  | or l => rw [firstsR, firstsL_eq]; rfl
  | and l => rw [firstsR, firstsL_eq]; rfl
  | star x => rw [firstsR]; simp [Re.kids]
  | minus x y => rw [firstsR]; simp [Re.kids]
theorem firstsR_pack {l : List Re} : firstsR (packCat l) = firstsR.firstsC l := by
  match l with
  | [] => rfl
  | [r] => rw [packCat, firstsR.firstsC]; simp [firstsR.firstsC]
  | a :: b :: l => rfl
theorem firstsC_len (l : List Re) (h : ∀ k ∈ l, (firstsR k).length ≤ k.size) : (firstsR.firstsC l).length ≤ Re.sizes l := by
  induction l with
  | nil => simp [firstsR.firstsC]
  | cons r l ih =>
    have h1 := h r (List.mem_cons_self ..)
    have h2 := ih fun k hk => h k (List.mem_cons_of_mem _ hk)
    rw [firstsR.firstsC, List.length_append, Re.sizes]
    split
    · omega
    · simp; omega
theorem firstsR_len (r : Re) : (firstsR r).length ≤ r.size := by
  induction r using Re.ind_ with
  | h r ih =>
    by_cases h2 : r.op = 2
    · obtain ⟨s, rfl⟩ := op_two h2
      simp [firstsR, Re.size]
    by_cases h3 : r.op = 3
    · cases r with
      | cat l =>
        have := firstsC_len l ih
        rw [firstsR, Re.size]
        omega
      | _ => simp [Re.op] at h3
    rw [firstsR_kids h2 h3, Re.size_kids]
    have : ∀ l : List Re, (∀ k ∈ l, (firstsR k).length ≤ k.size) → (l.flatMap firstsR).length ≤ Re.sizes l := fun l => by
      induction l with
      | nil => intro _; simp
      | cons r l ihl =>
        intro h
        have h1 := h r (List.mem_cons_self ..)
        have h2 := ihl fun k hk => h k (List.mem_cons_of_mem _ hk)
        simp only [List.flatMap_cons, List.length_append, Re.sizes]
        omega
    have := this r.kids ih
    omega
theorem cat_atoms {l : List Re} (h : Good (.cat l)) : ∀ k ∈ l, Atom k := fun k hk => ⟨(h.kid (k := k) hk).2, (h.fit.2 k hk).2, (h.fit.2 k hk).1⟩
/-- BYTES THAT NO FIRST SET TELLS APART have the same behind them. -/
theorem byR_congr (b c : Nat) (r : Re) : Good r → (∀ s ∈ firstsR r, s.has b = s.has c) → byR b r = byR c r := by
  induction r using Re.indBy with
  | h r ih =>
    intro hg hs
    have hk : ∀ k ∈ r.kids, (∀ s ∈ firstsR k, s.has b = s.has c) → byR b k = byR c k := fun k hk => ih k (kid_size hk) (hg.kid hk).1
    have hm : r.op ≠ 2 → r.op ≠ 3 → r.kids.map (byR b) = r.kids.map (byR c) := fun h2 h3 => List.map_congr_left fun k hk' => hk k hk' fun s hs' => hs s (by rw [firstsR_kids h2 h3]; exact List.mem_flatMap.2 ⟨k, hk', hs'⟩)
    cases r with
    | none => rw [byR_none, byR_none]
    | eps => rw [byR_eps, byR_eps]
    | cls s => rw [byR_cls, byR_cls, hs s (by simp [firstsR])]
    | cat l =>
      match l with
      | [] => rw [byR, byR]
      | x :: l =>
        have hat := cat_atoms hg
        have hatl : ∀ k ∈ l, Atom k := fun k hk => hat k (List.mem_cons_of_mem _ hk)
        have hrest : Good (thenL l) := thenL_good fun k hk => (hg.kid (k := k) (by simp [Re.kids, hk])).1
        have hx := hk x (by simp [Re.kids]) fun s hs' => hs s (by rw [firstsR, firstsR.firstsC]; exact List.mem_append_left _ hs')
        rw [byR_cat, byR_cat, hx]
        by_cases hn : x.null = true
        · have hr := ih _ (rest_size x l) hrest fun s hs' => hs s (by
            rw [thenL_atoms hatl, firstsR_pack] at hs'
            rw [firstsR, firstsR.firstsC, if_pos hn]
            exact List.mem_append_right _ hs')
          rw [hr]
        · rw [if_neg hn, if_neg hn]
    | star x => rw [byR_star, byR_star, hk x (by simp [Re.kids]) fun s hs' => hs s (by rw [firstsR]; exact hs')]
    | or l => rw [byR_or, byR_or]; exact congrArg anyL (hm (by simp [Re.op]) (by simp [Re.op]))
    | and l => rw [byR_and, byR_and]; exact congrArg bothL (hm (by simp [Re.op]) (by simp [Re.op]))
    | minus x y =>
      rw [byR_minus, byR_minus, hk x (by simp [Re.kids]) fun s hs' => hs s (by rw [firstsR]; exact List.mem_append_left _ hs'), hk y (by simp [Re.kids]) fun s hs' => hs s (by rw [firstsR]; exact List.mem_append_right _ hs')]
/-- How many of the bytes below n are in a part. -/
def cntB (p : CSet) (n : Nat) : Nat := ((List.range n).filter fun b => p.has b).length
theorem cntB_succ (p : CSet) (n : Nat) : cntB p (n + 1) = cntB p n + if p.has n then 1 else 0 := by
  unfold cntB
  rw [List.range_succ, List.filter_append, List.length_append]
  cases h : p.has n <;> simp [List.filter, h]
theorem cntB_le (p : CSet) (n : Nat) : cntB p n ≤ n := by
  have := List.length_filter_le (fun b => p.has b) (List.range n)
  simpa [cntB] using this
def cntL (ps : List CSet) (n : Nat) : Nat := (ps.map fun p => cntB p n).sum
theorem cntL_zero (ps : List CSet) : cntL ps 0 = 0 := by
  induction ps with
  | nil => rfl
  | cons p ps ih => simp only [cntL, List.map_cons, List.sum_cons] at *; rw [ih]; rfl
theorem cntL_succ (ps : List CSet) (n : Nat) : cntL ps (n + 1) = cntL ps n + (ps.filter fun p => p.has n).length := by
  induction ps with
  | nil => rfl
  | cons p ps ih =>
    simp only [cntL, List.map_cons, List.sum_cons] at *
    rw [ih, cntB_succ]
    cases h : p.has n <;> simp [List.filter, h] <;> omega
theorem out_one {ps : List CSet} (h : Out ps) {b : Nat} (hb : ∃ p ∈ ps, p.has b = true) : (ps.filter fun p => p.has b).length = 1 := by
  have hp : (ps.filter fun p => p.has b).Pairwise fun p q => False := by
    have h1 := List.Pairwise.filter (fun p : CSet => p.has b) h.apart
    refine h1.imp_of_mem fun {p q} hp hq hh => ?_
    exact hh b ⟨by simpa using (List.mem_filter.1 hp).2, by simpa using (List.mem_filter.1 hq).2⟩
  obtain ⟨p, hpm, hpb⟩ := hb
  have hm : p ∈ ps.filter fun p => p.has b := List.mem_filter.2 ⟨hpm, hpb⟩
  match hq : ps.filter fun p => p.has b with
  | [] => rw [hq] at hm; cases hm
  | [_] => rw [hq]; rfl
  | a :: c :: l =>
    rw [hq] at hp
    exact absurd ((List.pairwise_cons.1 hp).1 c (by simp)) (fun h => h)
theorem cntL_all {ps : List CSet} (h : Out ps) (hall : ∀ b, b < 256 → ∃ p ∈ ps, p.has b = true) : ∀ n, n ≤ 256 → cntL ps n = n := by
  intro n
  induction n with
  | zero => intro _; exact cntL_zero ps
  | succ n ih => intro hn; rw [cntL_succ, ih (by omega), out_one h (hall n (by omega))]
/-- No more parts than bytes. -/
theorem out_len {ps : List CSet} (h : Out ps) (hall : ∀ b, b < 256 → ∃ p ∈ ps, p.has b = true) : ps.length ≤ 256 := by
  have h1 := cntL_all h hall 256 (Nat.le_refl _)
  have h2 : ∀ qs : List CSet, (∀ p ∈ qs, p ≠ CSet.zero) → qs.length ≤ cntL qs 256 := fun qs => by
    induction qs with
    | nil => intro _; simp
    | cons p qs ih =>
      intro hne
      have := ih fun q hq => hne q (List.mem_cons_of_mem _ hq)
      obtain ⟨b, hb, hpb⟩ := CSet.ne_zero (hne p (List.mem_cons_self ..))
      have hc : 1 ≤ cntB p 256 := by
        unfold cntB
        exact List.length_pos_of_mem (a := b) (List.mem_filter.2 ⟨List.mem_range.2 hb, hpb⟩)
      simp only [cntL, List.map_cons, List.sum_cons, List.length_cons] at *
      omega
  have := h2 ps h.ne
  omega
/-- A row, as far as it has been gone. -/
theorem firstsC_split (l : List Re) (k : Nat) (h : ∀ x ∈ l.take k, x.null = true) : firstsR.firstsC l = (l.take k).flatMap firstsR ++ firstsR.firstsC (l.drop k) := by
  induction k generalizing l with
  | zero => simp
  | succ k ih =>
    match l with
    | [] => simp [firstsR.firstsC]
    | r :: l =>
      have hr := h r (by simp)
      rw [firstsR.firstsC, if_pos hr, ih l (fun x hx => h x (by rw [List.take_succ_cons]; exact List.mem_cons_of_mem _ hx))]
      simp
theorem firstsC_stop {l : List Re} {k : Nat} {x : Re} (hx : l[k]? = some x) (h : ∀ x ∈ l.take k, x.null = true) (hn : x.null = false) : firstsR.firstsC l = (l.take (k + 1)).flatMap firstsR := by
  obtain ⟨l1, e1⟩ := List.getElem?_eq_some_iff.1 hx
  rw [firstsC_split l k h, List.drop_eq_getElem_cons l1, e1, firstsR.firstsC, hn, if_neg (by simp), List.take_succ_eq_append_getElem l1, e1, List.flatMap_append]
  simp
theorem firstsC_end {l : List Re} {k : Nat} (hk : l.length ≤ k) (h : ∀ x ∈ l.take k, x.null = true) : firstsR.firstsC l = l.flatMap firstsR := by
  rw [firstsC_split l k h, List.drop_eq_nil_of_le hk, List.take_of_length_le hk]
  simp [firstsR.firstsC]
theorem firsts_take {l : List Re} {k : Nat} {x : Re} (hx : l[k]? = some x) : (l.take (k + 1)).flatMap firstsR = (l.take k).flatMap firstsR ++ firstsR x := by
  obtain ⟨l1, e1⟩ := List.getElem?_eq_some_iff.1 hx
  rw [List.take_succ_eq_append_getElem l1, e1, List.flatMap_append]
  simp
theorem firsts_take_len (l : List Re) (k : Nat) : ((l.take k).flatMap firstsR).length ≤ Re.sizes l := by
  have h1 : ∀ l : List Re, (l.flatMap firstsR).length ≤ Re.sizes l := fun l => by
    induction l with
    | nil => simp
    | cons r l ih =>
      have := firstsR_len r
      simp only [List.flatMap_cons, List.length_append, Re.sizes]
      omega
  exact Nat.le_trans (h1 _) (Re.sizes_take l k)
end Go.Proofs.YtfpfloahkibcgaaGreatDoor
