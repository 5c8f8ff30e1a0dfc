/- PkD: Sorts, Uniq, Join, Then, Any, But, Both, With, Word, Shp, ShpW, each with its own sentence. -/
import Derived.Test.YtfpfloahkibcgaaGreatDoorPkC
import Derived.Test.YtfpfloahkibcgaaGreatDoorPkA
import Derived.Shelf.SlSortCmp.NoneTotal
import Derived.Test.YtfpfloahkibcgaaGreatDoorPkB
import Derived.Lib.ConvBytes
/- cmp.Compare of texts; slices.SortFunc at rows of expressions, by their keys. -/
namespace Go.Proofs.YtfpfloahkibcgaaGreatDoor
open Go.RowKit

theorem isNaN_any (a : ByteArray) (w : World) : Calls Tryz.prog 161 #[.string a] w fun e w' => e = .returned (.bool false) ∧ w = w' := by
  go_enter Tryz.func161, Tryz.ntmps161
  go_wp2
  go_ret
  exact ⟨by simp, rfl⟩
theorem compare_any (a b : List UInt8) (w : World) : Calls Tryz.prog 148 #[.string ⟨a.toArray⟩, .string ⟨b.toArray⟩] w fun e w' => e = .returned (.int .i64 (cmpB a b)) ∧ w = w' := by
  have H := hid isNaN_any
  unfold cmpB
  cases h1 : Op.bytesLess a b with
  | true =>
    rw [if_pos rfl]
    go_enter Tryz.func148, Tryz.ntmps148
    go_wp2_with (go_at_call 161; refine (H.out _ _).mono ?_; rintro e w' ⟨rfl, rfl⟩)
    go_ret
    exact ⟨rfl, rfl⟩
  | false =>
    rw [if_neg (by simp)]
    cases h2 : Op.bytesLess b a with
    | true =>
      rw [if_pos rfl]
      have hne : (a == b) = false := by
        rw [beq_eq_false_iff_ne]
        rintro rfl
        rw [bl_irrefl] at h2; cases h2
      have hne' : ¬ a = b := by simpa using hne
      go_enter Tryz.func148, Tryz.ntmps148
      go_wp2_with (go_at_call 161; refine (H.out _ _).mono ?_; rintro e w' ⟨rfl, rfl⟩)
      go_ret
      exact ⟨rfl, rfl⟩
    | false =>
      rw [if_neg (by simp)]
      obtain rfl := bl_total _ _ h1 h2
      clear h2
      go_enter Tryz.func148, Tryz.ntmps148
      go_wp2_with (go_at_call 161; refine (H.out _ _).mono ?_; rintro e w' ⟨rfl, rfl⟩)
      go_ret
      exact ⟨rfl, rfl⟩

/-- unique's own comparison, in whatever world some draws on. -/
theorem cmpKeys_any (r s : Re) (X : Nat → Prop) (b c : Nat) (w : World) (h : ReAt w X r b) (h' : ReAt w X s c) : Calls Tryz.prog 147 #[ptr b, ptr c] w fun e w' => e = .returned (.int .i64 (cmpB r.key s.key)) ∧ ∃ q, w' = w.drewN q := by
  obtain ⟨A, cc, bs, hb, -, -⟩ := h.row
  obtain ⟨A', cc', bs', hb', -, -⟩ := h'.row
  obtain ⟨-, -, -, -, -, -, -, hk, -⟩ := cellsOf hb
  obtain ⟨-, -, -, -, -, -, -, hk', -⟩ := cellsOf hb'
  have HC := hid (fun W => (compare_any r.key s.key W).mono fun e w' (h : _ ∧ W = w') => (⟨h.1, h.2.symm⟩ : e = .returned (.int .i64 (cmpB r.key s.key)) ∧ w' = W))
  clear h h' hb hb'
  unfold ptr
  go_enter Tryz.func147, Tryz.ntmps147
  go_wp2_with fail
  go_quiet ((go_at_call 148; exact Calls.quiet_of_same (HC.out _)))
  go_wp2_with fail
  go_ret
  exact ⟨rfl, nq, rfl⟩

/-- Pointers to expressions of a world, as the sort's own elements. -/
abbrev El (w : World) (X : Nat → Prop) : Type := { x : Nat × Re // ReAt w X x.2 x.1 }
def encEl {w : World} {X : Nat → Prop} (x : El w X) : Value := ptr x.1.1
def cfEl {w : World} {X : Nat → Prop} (x y : El w X) : Int := cmpB x.1.2.key y.1.2.key
theorem ltEl {w : World} {X : Nat → Prop} (x y : El w X) : ltOf cfEl x y = lessR x.1.2 y.1.2 := cmpB_neg _ _
theorem swoEl (w : World) (X : Nat → Prop) : Sort.SWO (ltOf (cfEl (w := w) (X := X))) where
  irrefl x := by rw [ltEl]; exact lessR_swo.irrefl _
  trans x y z h1 h2 := by rw [ltEl] at *; exact lessR_swo.trans _ _ _ h1 h2
  ntrans x y z h1 h2 := by rw [ltEl] at *; exact lessR_swo.ntrans _ _ _ h1 h2

theorem sortWorld_heap {α : Type} [Inhabited α] (enc : α → Value) (w : World) (blk off m : Nat) (dk : Array α) (os : Array Obj) (k : Nat) (hk : k < w.heap.size) (hne : k ≠ blk) : (sortWorld enc w blk off m dk os).heap[k]? = w.heap[k]? := by
  show ((Sort.putRow enc (Sort.ahead w m) blk off dk).heap ++ os)[k]? = _
  have hs : (Sort.putRow enc (Sort.ahead w m) blk off dk).heap.size = w.heap.size := Sort.size_putRow _ _ _ _ _
  rw [Array.getElem?_append_left (by omega)]
  simp only [Sort.putRow, Sort.mapBlock, Array.getElem?_modify, Sort.heap_ahead]
  rw [if_neg (fun e => hne e.symm)]
theorem sortWorld_keeps {α : Type} [Inhabited α] (enc : α → Value) (w : World) (blk off m : Nat) (dk : Array α) (os : Array Obj) : Keeps (fun k => k = blk) w (sortWorld enc w blk off m dk os) :=
  ⟨by show w.heap.size ≤ ((Sort.putRow enc (Sort.ahead w m) blk off dk).heap ++ os).size; rw [Array.size_append]; have : (Sort.putRow enc (Sort.ahead w m) blk off dk).heap.size = w.heap.size := Sort.size_putRow _ _ _ _ _; omega,
   fun k hk hne => sortWorld_heap enc w blk off m dk os k hk hne⟩
theorem sortWorld_row {α : Type} [Inhabited α] (enc : α → Value) (w : World) (blk off m : Nat) (dk : Array α) (os : Array Obj) (cur : Array Value) (e : TypeId) (f : Nat × Nat) (h : w.heap[blk]? = some (.cells cur e f)) :
    (sortWorld enc w blk off m dk os).heap[blk]? = some (.cells (Sort.putCells enc off dk cur) e f) := by
  show ((Sort.putRow enc (Sort.ahead w m) blk off dk).heap ++ os)[blk]? = _
  have hs : (Sort.putRow enc (Sort.ahead w m) blk off dk).heap.size = w.heap.size := Sort.size_putRow _ _ _ _ _
  have hb := lt_of_heap h
  rw [Array.getElem?_append_left (by omega)]
  simp only [Sort.putRow, Sort.mapBlock, Array.getElem?_modify, Sort.heap_ahead, h, if_true, Option.map_some, Sort.onCells]
theorem sortWorld_grown {α : Type} [Inhabited α] (enc : α → Value) (w : World) (blk off m : Nat) (dk : Array α) (os : Array Obj) : w.grownBy (sortWorld enc w blk off m dk os) (some blk) :=
  ⟨rfl, rfl, rfl, (sortWorld_keeps enc w blk off m dk os).1, fun k hk hne => (sortWorld_keeps enc w blk off m dk os).2 k hk (fun e => hne (by rw [e]))⟩

theorem els_list {w : World} {X : Nat → Prop} : ∀ (rs : List Re) (bs : List Nat), Els w X rs bs → ∃ d : List (El w X), d.map (·.1.1) = bs ∧ d.map (·.1.2) = rs
  | [], [], _ => ⟨[], rfl, rfl⟩
  | [], _ :: _, h => by have := h.1; simp at this
  | _ :: _, [], h => by have := h.1; simp at this
  | r :: rs, b :: bs, h => by
    have h1 : ReAt w X r b := h.2 0 r b rfl rfl
    obtain ⟨d, e1, e2⟩ := els_list rs bs ⟨by have := h.1; simpa using this, fun i r' b' h1 h2 => h.2 (i + 1) r' b' (by simpa using h1) (by simpa using h2)⟩
    exact ⟨⟨(b, r), h1⟩ :: d, by simp [e1], by simp [e2]⟩
theorem list_els {w w' : World} {X : Nat → Prop} (hk : ∀ r b, ReAt w X r b → ReAt w' X r b) (d : List (El w X)) : Els w' X (d.map (·.1.2)) (d.map (·.1.1)) := by
  refine ⟨by simp, fun i r b h1 h2 => ?_⟩
  rw [List.getElem?_map] at h1 h2
  cases hd : d[i]? with
  | none => rw [hd] at h1; cases h1
  | some x => rw [hd] at h1 h2; cases h1; cases h2; exact hk _ _ x.2

/-- WHAT SORTING A ROW COMES TO. -/
def RetSort (w : World) (X : Nat → Prop) (base : Nat) (v : Value) (rs : List Re) (e : Ending) (w' : World) : Prop :=
  e = .returned (.tuple #[]) ∧ ∃ rs' bs', OwnP w' base v bs' ∧ Els w' (Xo X v) rs' bs' ∧ rs'.Perm rs ∧ rs'.Pairwise (fun a b => lessR b a = false) ∧ w.grownBy w' v.ownBlock

theorem sortFunc_any (base : Nat) (v : Value) (rs : List Re) (bs : List Nat) (X : Nat → Prop) (w : World) (hown : OwnP w base v bs) (hels : Els w (Xo X v) rs bs) (hn : bs.length ≤ 1099511627776) :
    Calls Tryz.prog 146 #[v, .func (.func 147) #[] #[]] w (RetSort w X base v rs) := by
  obtain ⟨d, e1, e2⟩ := els_list rs bs hels
  cases d with
  | nil =>
    simp at e1 e2
    subst e1; subst e2
    obtain ⟨A, c, rfl⟩ := hown.form
    have := AnyF.slices_SortFunc_none { Tryz.sortL with } A c (.func (.func 147) #[] #[]) w
    refine this.mono fun e w' ⟨h1, h2⟩ => ?_
    rw [h2]
    exact ⟨h1, [], [], hown, hels, List.Perm.refl _, List.Pairwise.nil, World.grownBy.refl w _⟩
  | cons x d0 =>
    haveI : Inhabited (El w (Xo X v)) := ⟨x⟩
    generalize hd : x :: d0 = d at e1 e2
    have hpos : 0 < bs.length := by rw [← e1, ← hd]; simp
    obtain ⟨g, cap, cur, hv, hb, hh, hnc, hm, hs, ht⟩ : ∃ g cap cur, v = .slice (some ⟨g, 0, none⟩) bs.length cap ∧ base ≤ g ∧ w.heap[g]? = some (.cells cur 32 (0, 0)) ∧ bs.length ≤ cap ∧ cap ≤ maxLen ∧ cur.size = cap * 1 ∧ cur.toList.take (bs.length * 1) = bs.map ptr := by
      rcases hown.2 with ⟨_, h⟩ | h
      · omega
      · exact h
    have hsz : d.toArray.size = bs.length := by rw [← e1]; simp
    have hH : Sort.Holds encEl w g 0 d.toArray := by
      intro j hj
      have hj' : j < d.length := by simpa using hj
      refine ⟨?_, blk_free hh _⟩
      rw [blk_cell hh (0 + j), Nat.zero_add, getElem!_pos d.toArray j hj]
      have : (bs.map ptr)[j]? = some (encEl d[j]) := by rw [← e1, List.map_map, List.getElem?_map, List.getElem?_eq_getElem hj']; rfl
      rw [← ht, Nat.mul_one, List.getElem?_take, if_pos (by omega), Array.getElem?_toList] at this
      simpa using this
    have hcmp : CmpLays1 Tryz.prog 147 #[] (encEl (w := w) (X := Xo X v)) (cfEl (w := w) (X := Xo X v)) g 0 d.toArray.size w := by
      refine CmpReads.lays (fun m os dk _ x y => ?_)
      have hk : ∀ r b, ReAt w (Xo X v) r b → ReAt (sortWorld (encEl (w := w) (X := Xo X v)) w g 0 m dk os) (Xo X v) r b := fun r b h => h.keep (sortWorld_keeps encEl w g 0 m dk os) (fun k hk => .inr (by rw [hk, hv]; rfl))
      exact cmpKeys_any x.1.2 y.1.2 _ _ _ _ (hk _ _ x.2) (hk _ _ y.2)
    have hcon := Any.slices_SortFunc Tryz.sortL (encEl (w := w) (X := Xo X v)) (fun _ => rfl) (cfEl (w := w) (X := Xo X v)) (swoEl w (Xo X v)) 147 #[] g 0 cap d.toArray w (enters_of Tryz.func147 (by kernel_rfl) rfl) hcmp hH (lt_of_heap hh) (by omega)
    rw [hsz] at hcon
    rw [hv]
    refine Calls.mono hcon fun e w' ⟨h1, d', n, os, hp, hst, hw⟩ => ?_
    subst hw
    have hk : ∀ r b, ReAt w (Xo X v) r b → ReAt (sortWorld (encEl (w := w) (X := Xo X v)) w g 0 n d' os) (Xo X v) r b := fun r b h => h.keep (sortWorld_keeps encEl w g 0 n d' os) (fun k hk => .inr (by rw [hk, hv]; rfl))
    have hds : d'.size = bs.length := by rw [hp.1, hsz]
    have hperm : d'.toList.Perm d := by
      have := hp.2.2
      rw [show d'.extract 0 bs.length = d' by rw [← hds]; simp, show d.toArray.extract 0 bs.length = d.toArray by rw [← hsz]; simp] at this
      simpa using this
    refine ⟨h1, d'.toList.map (·.1.2), d'.toList.map (·.1.1), ?_, ?_, ?_, ?_, ?_⟩
    · refine ⟨by simp, .inr ⟨g, cap, Sort.putCells (encEl (w := w) (X := Xo X v)) 0 d' cur, by simp [hds], hb, sortWorld_row _ _ _ _ _ _ _ _ _ _ hh, by simp [hds]; exact hnc, hm, by simp [Sort.putCells, hs], ?_⟩⟩
      simp only [List.length_map, Array.length_toList, hds, Nat.mul_one]
      apply List.ext_getElem?
      intro j
      rw [List.getElem?_take]
      by_cases hj : j < bs.length
      · have hjd : j < d'.size := by omega
        have hjc : j < cur.size := by omega
        rw [if_pos hj, Array.getElem?_toList, List.map_map, List.getElem?_map, Array.getElem?_toList, Array.getElem?_eq_getElem hjd]
        simp only [Sort.putCells, Array.getElem?_mapIdx, Array.getElem?_eq_getElem hjc, Option.map_some, Nat.zero_le, true_and, Nat.zero_add, if_pos hjd, Nat.sub_zero]
        rw [getElem!_pos d' j hjd]
        rfl
      · rw [if_neg hj, List.getElem?_eq_none (by simp; omega)]
    · rw [← hv]; exact list_els hk _
    · rw [← e2]; exact hperm.map _
    · rw [List.pairwise_map, List.pairwise_iff_getElem]
      intro i j hi hj hij
      have h3 := hst i j (Nat.zero_le _) hij (by simpa [hds, hsz] using hj)
      have hi' : i < d'.size := by simpa using hi
      have hj' : j < d'.size := by simpa using hj
      rw [getElem!_pos d' i hi', getElem!_pos d' j hj', ltEl] at h3
      simpa using h3
    · exact sortWorld_grown _ _ _ _ _ _ _
end Go.Proofs.YtfpfloahkibcgaaGreatDoor

/- re.unique: a row in order, each once. -/
namespace Go.Proofs.YtfpfloahkibcgaaGreatDoor
open Go.RowKit

def maskFrom : Re → List Re → List Bool
  | _, [] => []
  | x, y :: l => (!(y.key == x.key)) :: maskFrom y l
theorem maskFrom_at : ∀ (l : List Re) (x : Re) (i : Nat) (r s : Re), l[i]? = some r → (x :: l)[i]? = some s → (maskFrom x l)[i]? = some (!(r.key == s.key))
  | y :: l, x, 0, r, s, h1, h2 => by simp at h1 h2; subst h1; subst h2; rfl
  | y :: l, x, i + 1, r, s, h1, h2 => by
    simp at h1 h2
    exact maskFrom_at l y i r s h1 h2
theorem maskFrom_len : ∀ (l : List Re) (x : Re), (maskFrom x l).length = l.length
  | [], _ => rfl
  | y :: l, x => by simp [maskFrom, maskFrom_len l y]
theorem cmask_cons (x : Re) (l : List Re) : cmask (x :: l) = true :: maskFrom x l := by
  apply List.ext_getElem?
  intro i
  match i with
  | 0 => exact cmask_zero _ (by simp)
  | i + 1 =>
    by_cases hi : i < l.length
    · have h1 : l[i]? = some l[i] := List.getElem?_eq_getElem hi
      have hl : i < (x :: l).length := by simp; omega
      have h2 : (x :: l)[i]? = some (x :: l)[i] := List.getElem?_eq_getElem hl
      rw [cmask_at (x :: l) (i + 1) l[i] (x :: l)[i] (by omega) (by simp) (by simp)]
      exact (maskFrom_at l x i _ _ h1 h2).symm
    · rw [List.getElem?_eq_none (by rw [cmask_len]; simp; omega), List.getElem?_eq_none (by simp [maskFrom_len]; omega)]
theorem keepM_from : ∀ (l : List Re) (x : Re), (x :: l).Pairwise (fun a b => lessR b a = false) → SSorted (x :: keepM (maskFrom x l) l) ∧ ∀ z, z ∈ x :: keepM (maskFrom x l) l ↔ z ∈ x :: l
  | [], x, _ => by simp [SSorted, keepM, maskFrom]
  | y :: l, x, h => by
    rw [List.pairwise_cons] at h
    obtain ⟨h1, h2⟩ := h
    obtain ⟨i1, i2⟩ := keepM_from l y h2
    by_cases e : y.key = x.key
    · have e' := Re.key_inj e
      subst e'
      have hk : keepM (maskFrom y (y :: l)) (y :: l) = keepM (maskFrom y l) l := by simp [maskFrom, keepM]
      rw [hk]
      exact ⟨i1, fun z => by rw [i2 z]; simp⟩
    · have hne : (y.key == x.key) = false := by simpa using e
      have hk : keepM (maskFrom x (y :: l)) (y :: l) = y :: keepM (maskFrom y l) l := by simp [maskFrom, keepM, hne]
      have hxy : lessR x y = true := by
        cases hc : lessR x y with
        | true => rfl
        | false => exact absurd (less_total y x (h1 y (by simp)) hc) (fun h => e (by rw [h]))
      rw [hk]
      refine ⟨?_, fun z => ?_⟩
      · unfold SSorted at i1 ⊢
        rw [List.pairwise_cons]
        refine ⟨fun z hz => ?_, i1⟩
        rcases List.mem_cons.1 hz with rfl | hz'
        · exact hxy
        · rw [List.pairwise_cons] at i1
          exact lessR_swo.trans _ _ _ hxy (i1.1 z hz')
      · rw [List.mem_cons, i2 z]; simp
theorem compact_uniq (rs rs' : List Re) (hp : rs'.Perm rs) (hs : rs'.Pairwise fun a b => lessR b a = false) : compactK rs' = uniq rs := by
  match rs', hp, hs with
  | [], hp, _ => have := hp.length_eq; simp at this; cases rs with | nil => rfl | cons a l => simp at this
  | x :: l, hp, hs =>
    obtain ⟨h1, h2⟩ := keepM_from l x hs
    have e : compactK (x :: l) = x :: keepM (maskFrom x l) l := by unfold compactK; rw [cmask_cons]; rfl
    rw [e]
    refine sorted_unique _ _ h1 (uniq_sorted rs) (fun z => ?_)
    rw [h2 z, mem_uniq]
    exact hp.mem_iff
theorem uniq_len (l : List Re) : (uniq l).length ≤ l.length := by
  have hi : ∀ (x : Re) (m : List Re), (ins x m).length ≤ m.length + 1 := by
    intro x m
    induction m with
    | nil => simp [ins]
    | cons y m ih =>
      unfold ins
      split
      · simp
      · split
        · simp; exact ih
        · simp
  induction l with
  | nil => simp [uniq]
  | cons x l ih => have := hi x (uniq l); simp [uniq] at ih this ⊢; omega

theorem unique_any (base : Nat) (v : Value) (rs : List Re) (bs : List Nat) (X : Nat → Prop) (w : World) (hown : OwnP w base v bs) (hels : Els w (Xo X v) rs bs) (hn : bs.length ≤ 1099511627776) :
    Calls Tryz.prog 131 #[v] w (RetCut w X base v (uniq rs)) := by
  have HS := hid (sortFunc_any base v rs bs X w hown hels hn)
  have HC : Hid (∀ (W : World) (bs' : List Nat) (rs' : List Re), OwnP W base v bs' → Els W (Xo X v) rs' bs' → bs'.length ≤ 1099511627776 → Calls Tryz.prog 149 #[v, .func (.func 103) #[] #[]] W (RetCut W X base v (compactK rs'))) := fun W bs' rs' h1 h2 h3 => compactFunc_any base v rs' bs' X W h1 h2 h3
  have hl := hels.1
  clear hown hels
  go_enter Tryz.func131, Tryz.ntmps131
  go_wp2_with (go_at_call 146; refine HS.out.mono ?_; rintro e w1 ⟨rfl, rs', bs', h1, h2, h3, h4, h5⟩; have H1 := hid h1; have H2 := hid h2; have H3 := hid h3; have H4 := hid h4; have H5 := hid h5; clear h1 h2 h3 h4 h5)
  have hb : bs'.length ≤ 1099511627776 := by have := H2.out.1; have := H3.out.length_eq; omega
  have HC' := hid (HC.out w1 bs' rs' H1.out H2.out hb)
  go_wp2_with (go_at_call 149; refine HC'.out.mono ?_; rintro e w2 ⟨v', bs2, rfl, k1, k2, k3, k4⟩)
  go_ret
  rw [compact_uniq rs rs' H3.out H4.out] at k2
  exact ⟨v', bs2, rfl, k1, k2, H5.out.trans k3, k4⟩
end Go.Proofs.YtfpfloahkibcgaaGreatDoor

/- The walk of re.join, by whatever function of two sets. -/
namespace Go.Proofs.YtfpfloahkibcgaaGreatDoor
open Go.RowKit

theorem OwnP.base {w : World} {b b' : Nat} {v : Value} {bs : List Nat} (h : OwnP w b v bs) (hb : b' ≤ b) : OwnP w b' v bs := by
  unfold OwnP at h ⊢
  refine ⟨h.1, ?_⟩
  rcases h.2 with h2 | ⟨g, cap, cur, h1, h3, r⟩
  · exact .inl h2
  · exact .inr ⟨g, cap, cur, h1, Nat.le_trans hb h3, r⟩
/-- The class so far: no expression yet, or one. -/
def OneAt (w : World) (X : Nat → Prop) (one : Option CSet) (p : Value) : Prop := match one with
  | none => p = .pointer none
  | some s => ∃ b, p = ptr b ∧ ReAt w X (.cls s) b
theorem OneAt.grown {w w' : World} {X : Nat → Prop} {v v' p : Value} {one : Option CSet} (h : OneAt w (Xo X v) one p) (hg : w.grownBy w' v.ownBlock) (hat : v'.ownBlock = v.ownBlock ∨ v'.ownBlock = some w.heap.size) : OneAt w' (Xo X v') one p := by
  cases one with
  | none => exact h
  | some s => obtain ⟨b, h1, h2⟩ := h; exact ⟨b, h1, h2.grown hg hat⟩
theorem OneAt.alloc {w : World} {X : Nat → Prop} {p : Value} {one : Option CSet} (h : OneAt w X one p) (o : Obj) : OneAt (w.alloc o) X one p := by
  cases one with
  | none => exact h
  | some s => obtain ⟨b, h1, h2⟩ := h; exact ⟨b, h1, h2.keep (Keeps.alloc (fun _ => False) w o) (fun _ h => h.elim)⟩

/-- A function of two sets, as a value. -/
def SetFn (g : Nat) (f : CSet → CSet → CSet) : Prop := (∀ (args : Array Value) (W : World), (callFunc g args).run Tryz.prog W = .ok (.enter g args) W) ∧
  ∀ (s t : CSet) (W : World), Calls Tryz.prog g #[cv s, cv t] W fun e W' => e = .returned (cv (f s t)) ∧ Below W.heap.size W W'

/-- The head of a round: k of the flat row are done. -/
def JoinRel (w1 : World) (X : Nat → Prop) (f : CSet → CSet → CSet) (fl : List Re) (k : Nat) (v p : Value) (wr : World) : Prop :=
  ∃ (cs : List Nat) (ors : List Re) (one : Option CSet), OwnP wr w1.heap.size v cs ∧ Els wr (Xo X v) ors cs ∧ OneAt wr (Xo X v) one p ∧ Below w1.heap.size w1 wr ∧ ors.length ≤ k ∧ joinGo f (fl.drop k) ors one = joinGo f fl [] none

set_option maxHeartbeats 1000000 in
theorem join_any (o g : Nat) (f : CSet → CSet → CSet) (hf : SetFn g f) (A : Option Addr) (n c : Nat) (rs : List Re) (bs : List Nat) (X : Nat → Prop) (w : World) (hrow : ReRow w X A n rs bs) (hX : ∀ k, X k → k < w.heap.size) (hn : n ≤ 1099511627776) (hlen : (flatL o rs).length ≤ 1099511627770) :
    Calls Tryz.prog 96 #[.int .i64 (o : Int), .slice A n c, .func (.func g) #[] #[]] w (RetRow w X (joinL o f rs)) := by
  have HFL := hid (flat_any o A n c rs bs X w hrow hn (by omega))
  have eg := hf.1
  have HF := hid hf.2
  have HX := hid hX
  obtain ⟨z, hz⟩ : ∃ z, z = joinL o f rs := ⟨_, rfl⟩
  rw [← hz]
  have HZ := hid hz
  clear hrow hX hf hz
  go_enter Tryz.func96, Tryz.ntmps96
  go_wp2_with (go_at_call 101; refine HFL.out.mono ?_; rintro e w1 ⟨v0, fbs, rfl, h1, h2, h3⟩; obtain ⟨A0, c0, rfl⟩ := h1.form; have H1 := hid h1; have H2 := hid h2; have H3 := hid h3; clear h1 h2 h3)
  obtain ⟨fl, hfl⟩ : ∃ fl, fl = flatL o rs := ⟨_, rfl⟩
  rw [← hfl] at H2 hlen
  have HFE := hid hfl
  clear hfl
  have hsz1 : w.heap.size ≤ w1.heap.size := H3.out.size
  have hfb : fl.length = fbs.length := H2.out.1
  have HROW : Hid (ReRow w1 X A0 fbs.length fl fbs) := by
    refine ⟨H1.out.rd.2.2, H2.out.also (fun k hk _ => .inl hk), fun a ha e hx => ?_⟩
    have := (H1.out.lt a.block (by rw [e]; rfl)).1
    have := HX.out _ hx
    omega
  go_loopw [7, 8, 15] (fun v p i wr => ∃ k : Nat, k ≤ fbs.length ∧ i = .int .i64 k ∧ Hid (JoinRel w1 X f fl k v p wr)) (fun _ _ i _ => fbs.length - (intOf i).toNat)
  case atStart => exact ⟨0, Nat.zero_le _, rfl, [], [], none, OwnP.nil _ _, Els.nil, rfl, Below.refl _ _, Nat.le_refl _, rfl⟩
  case round =>
    obtain ⟨k, hk, rfl, hr⟩ := hrel
    obtain ⟨cs, ors, one, hown, hels, hone, hbel, hol, hgo⟩ := hr.out
    have HO := hid hown
    have HE := hid hels
    have HB := hid hbel
    have HON := hid hone
    have HGO := hid hgo
    have hszr : w1.heap.size ≤ wr.heap.size := hbel.size
    have hcl : cs.length ≤ k := by have := hels.1; omega
    by_cases hlt : k < fbs.length
    · obtain ⟨g1, of, r, b, rfl, hcell, hkr, hkb, hat, hg⟩ := HROW.out.at_ hlt
      have hc1 := (hbel.cell (p := ⟨g1, of + k, none⟩) hg).trans hcell
      obtain ⟨A', c', bs', hkc, -, -⟩ := hat.row
      obtain ⟨k0, k1, k2, k3, k4, -⟩ := cellsOf (blk_below hkc hbel (w' := wr))
      have hdr : fl.drop k = r :: fl.drop (k + 1) := by
        obtain ⟨hl, e⟩ := List.getElem?_eq_some_iff.1 hkr
        rw [List.drop_eq_getElem_cons hl, e]
      rw [hdr] at hgo
      have HAT := hid (hat.beside hbel hown)
      have hbnd : cs.length + [b].length ≤ 1099511627776 := by simp; omega
      by_cases hop : r.op = 2
      · obtain ⟨s, rfl⟩ : ∃ s, r = .cls s := by cases r <;> first | exact ⟨_, rfl⟩ | simp [Re.op] at hop
        have hne : (((Re.cls s).op : Int) != 2) = false := rfl
        cases one with
        | none =>
          cases hone
          have HN := hid hgo
          clear hown hels hbel hgo hcell hkr hkb hat hkc hdr hr hbnd k1 k2 k3 k4 hop hol
          go_wp2_with fail
          go_roundw
          case rel => exact ⟨k + 1, by omega, by go_num, cs, ors, some s, HO.out, HE.out, ⟨b, rfl, HAT.out⟩, HB.out, by have := HE.out.1; omega, HN.out⟩
          case measure => simp [intOf]; omega
        | some so =>
          obtain ⟨bo, rfl, hro⟩ := hone
          obtain ⟨Ao, co, bso, hoc, -, -⟩ := hro.row
          obtain ⟨-, o1, o2, o3, o4, -⟩ := cellsOf hoc
          simp only [Re.set] at o1 o2 o3 o4 k1 k2 k3 k4
          have hxl : ∀ k, Xo X u7 k → k < wr.heap.size := fun k hk => by
            rcases hk with hk | hk
            · have := HX.out k hk; omega
            · exact (hown.lt k hk).2
          have HFc := hid (fun W => HF.out so s W)
          have HOne : Hid (∀ W, wr.heap.size ≤ W.heap.size → Calls Tryz.prog 70 #[cv (f so s)] W (RetRe W (Xo X u7) (oneR (f so s)))) := fun W h => one_any _ _ W (fun k hk => Nat.lt_of_lt_of_le (hxl k hk) h)
          simp only [joinGo] at hgo
          by_cases hz0 : f so s = CSet.zero
          · rw [if_pos hz0] at hgo
            have hoo : oneR (f so s) = .none := by unfold oneR; rw [if_pos hz0]
            rw [hoo] at HOne
            have HGO2 := hid hgo
            generalize f so s = fs at HFc HOne
            clear hown hels hbel hgo hcell hkr hkb hat hkc hdr hr hop hol hoc hro hxl hz0 hoo
            unfold cv at HFc HOne
            go_wp2_with fail
            go_region_with (first | (go_at_call 70; refine (HOne.out _ hszw2).mono ?_; rintro e w3 ⟨bn, rfl, hre3, hb3⟩; have HRE3 := hid hre3; have HB3 := hid hb3; clear hre3 hb3; obtain ⟨An, cn, bsn, hnc, -, -⟩ := HRE3.out.row; obtain ⟨n0, -⟩ := cellsOf hnc; clear hnc; have HO3 := hid (OwnP.kept (OwnP.kept (show OwnP wr.drew _ _ _ from HO.out) HB2.out) HB3.out); have HE3 := hid (Els.below (Els.below (show Els wr.drew _ _ _ from HE.out.drewN 1) HB2.out) HB3.out); have HB13 := hid ((HB.out.drew.trans (HB2.out.mono hszr)).trans (HB3.out.mono (Nat.le_trans hszr hszw2))); have hsz3 : w1.heap.size ≤ w3.heap.size := HB13.out.size) | (refine (HFc.out _).mono ?_; rintro e w2 ⟨rfl, hb2⟩; have hszw2 : wr.heap.size ≤ w2.heap.size := hb2.size; have HB2 := hid hb2; clear hb2))
            all_goals
              have hbn : cs.length + [bn].length ≤ 1099511627776 := hbnd
              simp only [Re.op] at n0
              go_wp2_with (at_builtin; refine wpList_app_ptr _ rfl (.tmp 35) (.tmp 37) rfl w1.heap.size _ cs rfl (HO3.out.alloc _) (some ⟨w3.heap.size, 0, none⟩) 1 1 [bn] rfl (Rd.one_new _ _ _) (fun h => by cases h) hbn (le_alloc hsz3 _) ?_; intro v' w4 ho4 hg4 hat4; have HO4 := hid ho4; have HG4 := hid hg4; have HT4 := hid hat4; clear ho4 hg4 hat4)
              go_ret
              refine ⟨v', cs ++ [bn], rfl, HO4.out.base hsz1, ?_, H3.out.trans ((below_app (HB13.out.alloc HB13.out.size _) (HO3.out.alloc _) HG4.out).mono hsz1)⟩
              have hzz : z = ors ++ [Re.none] := by rw [HGO2.out, HZ.out, HFE.out]; rfl
              rw [hzz]
              exact ((HE3.out.alloc _).append (Els.one HRE3.out |>.alloc _)).grown HG4.out HT4.out
          · rw [if_neg hz0] at hgo
            have hoo : oneR (f so s) = .cls (f so s) := by unfold oneR; rw [if_neg hz0]
            rw [hoo] at HOne
            have HN := hid hgo
            obtain ⟨fs, hfs⟩ : ∃ fs, fs = f so s := ⟨_, rfl⟩
            rw [← hfs] at HFc HOne HN
            clear hown hels hbel hgo hcell hkr hkb hat hkc hdr hr hop hoc hro hxl hz0 hoo hfs
            unfold cv at HFc HOne
            go_wp2_with fail
            go_region_with (first | (go_at_call 70; refine (HOne.out _ hszw2).mono ?_; rintro e w3 ⟨bn, rfl, hre3, hb3⟩; have HRE3 := hid hre3; have HB3 := hid hb3; clear hre3 hb3; obtain ⟨An, cn, bsn, hnc, -, -⟩ := HRE3.out.row; obtain ⟨n0, -⟩ := cellsOf hnc; clear hnc; have HO3 := hid (OwnP.kept (OwnP.kept (show OwnP wr.drew _ _ _ from HO.out) HB2.out) HB3.out); have HE3 := hid (Els.below (Els.below (show Els wr.drew _ _ _ from HE.out.drewN 1) HB2.out) HB3.out); have HB13 := hid ((HB.out.drew.trans (HB2.out.mono hszr)).trans (HB3.out.mono (Nat.le_trans hszr hszw2))); have hsz3 : w1.heap.size ≤ w3.heap.size := HB13.out.size) | (refine (HFc.out _).mono ?_; rintro e w2 ⟨rfl, hb2⟩; have hszw2 : wr.heap.size ≤ w2.heap.size := hb2.size; have HB2 := hid hb2; clear hb2))
            all_goals
              have hn2 : ((Re.cls fs).op : Int) = 2 := rfl
              rw [hn2] at n0
              clear hn2
              go_wp2_with fail
              go_roundw
              case rel => exact ⟨k + 1, by omega, by go_num, cs, ors, some fs, HO3.out, HE3.out, ⟨bn, rfl, HRE3.out⟩, HB13.out, by omega, HN.out⟩
              case measure => simp [intOf]; omega
      · have hne : ((r.op : Int) != 2) = true := by
          have := op_beq r 2
          simp only [bne]
          rw [show ((r.op : Int) == 2) = (r.op == 2) from this]
          simp [hop]
        rw [joinGo_other _ _ _ _ _ hop] at hgo
        have HN := hid hgo
        clear hown hels hbel hgo hcell hkr hkb hat hkc hdr hr hop k1 k2 k3 k4
        go_wp2_with (at_builtin; refine wpList_app_ptr _ rfl (.tmp 45) (.tmp 47) rfl w1.heap.size _ cs rfl (HO.out.alloc _) (some ⟨wr.heap.size, 0, none⟩) 1 1 [b] rfl (Rd.one_new _ _ _) (fun h => by cases h) hbnd (le_alloc hszr _) ?_; intro v' w2 ho2 hg2 hat2; have HO2 := hid ho2; have HG2 := hid hg2; have HT2 := hid hat2; clear ho2 hg2 hat2)
        go_roundw
        case rel => exact ⟨k + 1, by omega, by go_num, cs ++ [b], ors ++ [r], one, HO2.out, ((HE.out.alloc _).append (Els.one HAT.out |>.alloc _)).grown HG2.out HT2.out, (HON.out.alloc _).grown HG2.out HT2.out, below_app (HB.out.alloc HB.out.size _) (HO.out.alloc _) HG2.out, by simp; omega, HN.out⟩
        case measure => simp [intOf]; omega
    · obtain rfl : k = fbs.length := by omega
      have hdr : fl.drop fbs.length = [] := List.drop_of_length_le (by omega)
      rw [hdr] at hgo
      simp only [joinGo] at hgo
      have hzz : z = uniq (ors ++ (one.map Re.cls).toList) := by rw [hgo, HZ.out, HFE.out]; rfl
      subst hzz
      cases one with
      | none =>
        cases hone
        have HU := hid (unique_any w1.heap.size _ ors cs X wr hown hels (by omega))
        clear hown hels hbel hgo hdr hr hlt
        go_wp2_with (go_at_call 131; refine HU.out.mono ?_; rintro e w2 ⟨v', bs2, rfl, q1, q2, q3, q4⟩)
        go_ret
        refine ⟨v', bs2, rfl, q1.base hsz1, ?_, H3.out.trans ((below_app HB.out HO.out q3).mono hsz1)⟩
        simpa using q2
      | some so =>
        obtain ⟨bo, rfl, hro⟩ := hone
        have HRO := hid hro
        have hbnd : cs.length + [bo].length ≤ 1099511627776 := by simp; omega
        have HU : Hid (∀ v' w2, OwnP w2 w1.heap.size v' (cs ++ [bo]) → Els w2 (Xo X v') (ors ++ [Re.cls so]) (cs ++ [bo]) → Calls Tryz.prog 131 #[v'] w2 (RetCut w2 X w1.heap.size v' (uniq (ors ++ [Re.cls so])))) := fun v' w2 h1 h2 => unique_any w1.heap.size v' _ _ X w2 h1 h2 (by simpa using hbnd)
        clear hown hels hbel hgo hdr hr hlt hro
        go_wp2_with (first | (at_builtin; refine wpList_app_ptr _ rfl (.tmp 56) (.tmp 58) rfl w1.heap.size _ cs rfl (HO.out.alloc _) (some ⟨wr.heap.size, 0, none⟩) 1 1 [bo] rfl (Rd.one_new _ _ _) (fun h => by cases h) hbnd (le_alloc hszr _) ?_; intro v' w2 ho2 hg2 hat2; have HO2 := hid ho2; have HG2 := hid hg2; have HT2 := hid hat2; clear ho2 hg2 hat2; have HE2 := hid (((HE.out.alloc _).append (Els.one HRO.out |>.alloc _)).grown HG2.out HT2.out)) | (go_at_call 131; refine (HU.out _ _ HO2.out HE2.out).mono ?_; rintro e w3 ⟨v3, bs3, rfl, q1, q2, q3, q4⟩))
        go_ret
        refine ⟨v3, bs3, rfl, q1.base hsz1, ?_, H3.out.trans ((below_app (below_app (HB.out.alloc HB.out.size _) (HO.out.alloc _) HG2.out) HO2.out q3).mono hsz1)⟩
        simpa using q2
end Go.Proofs.YtfpfloahkibcgaaGreatDoor

/- The walk of re.Then. -/
namespace Go.Proofs.YtfpfloahkibcgaaGreatDoor
open Go.RowKit

theorem made_cat (l : List Re) (X : Nat → Prop) (A : Option Addr) (c : Nat) (bs : List Nat) (w : World) (hrow : ReRow w X A l.length l bs) (hc : CapOk l.length A c) (hsz : 1 + Re.sizes l ≤ 1099511627776) (hX : ∀ k, X k → k < w.heap.size) :
    Calls Tryz.prog 99 #[.int .i64 3, .agg #[.int .u64 0, .int .u64 0, .int .u64 0, .int .u64 0], .bool (l.all Re.null), .slice A l.length c] w (RetRe w X (.cat l)) := by
  have := made_kids (.cat l) X A c bs w hrow hc hsz hX (by simp [Re.op]) 3 rfl
  rw [show (Re.cat l).null = l.all Re.null from by simp [Re.null, Re.nullAll_eq]] at this
  exact this
theorem made_or (l : List Re) (X : Nat → Prop) (A : Option Addr) (c : Nat) (bs : List Nat) (w : World) (hrow : ReRow w X A l.length l bs) (hc : CapOk l.length A c) (hsz : 1 + Re.sizes l ≤ 1099511627776) (hX : ∀ k, X k → k < w.heap.size) :
    Calls Tryz.prog 99 #[.int .i64 4, .agg #[.int .u64 0, .int .u64 0, .int .u64 0, .int .u64 0], .bool (l.any Re.null), .slice A l.length c] w (RetRe w X (.or l)) := by
  have := made_kids (.or l) X A c bs w hrow hc hsz hX (by simp [Re.op]) 4 rfl
  rw [show (Re.or l).null = l.any Re.null from by simp [Re.null, Re.nullAny_eq]] at this
  exact this
theorem made_and (l : List Re) (X : Nat → Prop) (A : Option Addr) (c : Nat) (bs : List Nat) (w : World) (hrow : ReRow w X A l.length l bs) (hc : CapOk l.length A c) (hsz : 1 + Re.sizes l ≤ 1099511627776) (hX : ∀ k, X k → k < w.heap.size) :
    Calls Tryz.prog 99 #[.int .i64 6, .agg #[.int .u64 0, .int .u64 0, .int .u64 0, .int .u64 0], .bool (l.all Re.null), .slice A l.length c] w (RetRe w X (.and l)) := by
  have := made_kids (.and l) X A c bs w hrow hc hsz hX (by simp [Re.op]) 6 rfl
  rw [show (Re.and l).null = l.all Re.null from by simp [Re.null, Re.nullAll_eq]] at this
  exact this
/-- The row of a call's own, as an argument's. -/
theorem OwnP.row {w : World} {base n c : Nat} {X : Nat → Prop} {A : Option Addr} {rs : List Re} {bs : List Nat} (h : OwnP w base (.slice A n c) bs) (he : Els w (Xo X (.slice A n c)) rs bs) (hX : ∀ k, X k → k < base) : ReRow w X A n rs bs ∧ CapOk n A c ∧ n = rs.length := by
  obtain ⟨h1, h2, h3⟩ := h.rd
  refine ⟨⟨h3, he.also (fun k hk _ => .inl hk), fun a _ e hx => ?_⟩, h2, by rw [h1, he.1]⟩
  have := (h.lt a.block (by rw [e]; rfl)).1
  have := hX _ hx
  omega
theorem predEps : PredFn 102 isEps := ⟨enters_of Tryz.func102 (by kernel_rfl) rfl, fun r X b W h => isEps_any r X b W h⟩
theorem predNone : PredFn 98 isNone := ⟨enters_of Tryz.func98 (by kernel_rfl) rfl, fun r X b W h => isNone_any r X b W h⟩
theorem predNull : PredFn 56 Re.null := ⟨enters_of Tryz.func56 (by kernel_rfl) rfl, fun r X b W h => null_any r X b W h⟩
theorem RetRe.trans {w w1 : World} {X : Nat → Prop} {r : Re} {e : Ending} {w' : World} (hb : Below w.heap.size w w1) (h : RetRe w1 X r e w') : RetRe w X r e w' := by
  obtain ⟨b, h1, h2, h3⟩ := h
  exact ⟨b, h1, h2, hb.trans (h3.mono hb.size)⟩

set_option maxHeartbeats 1000000 in
theorem then_any (A : Option Addr) (n c : Nat) (rs : List Re) (bs : List Nat) (X : Nat → Prop) (w : World) (hrow : ReRow w X A n rs bs) (hX : ∀ k, X k → k < w.heap.size) (hsz : Re.sizes rs ≤ 549755813888) :
    Calls Tryz.prog 53 #[.slice A n c] w (RetRe w X (thenL rs)) := by
  have hfl := flatL_sizes 3 rs
  have hll := len_sizes (flatL 3 rs)
  have hnl := hrow.length.1
  have hrl := len_sizes rs
  have HFL := hid (flat_any 3 A n c rs bs X w hrow (by omega) (by omega))
  have HX := hid hX
  obtain ⟨all, hall⟩ : ∃ all, all = (flatL 3 rs).filter fun r => !isEps r := ⟨_, rfl⟩
  have hals : Re.sizes all ≤ 549755813888 := by rw [hall]; have := filter_sizes (fun r => !isEps r) (flatL 3 rs); omega
  have HALL := hid hall
  unfold thenL
  simp only []
  rw [← hall]
  obtain ⟨z, hz⟩ : ∃ z, z = if all.any isNone then Re.none else packCat all := ⟨_, rfl⟩
  rw [← hz]
  have HZ := hid hz
  have HD : Hid (∀ v bs' W, OwnP W w.heap.size v bs' → Els W (Xo X v) (flatL 3 rs) bs' → Calls Tryz.prog 95 #[v, .func (.func 102) #[] #[]] W (RetCut W X w.heap.size v all)) := fun v bs' W h1 h2 => by
    rw [hall]; exact deleteFunc_any _ isEps predEps _ v _ bs' X W h1 h2 (by have := h2.1; omega)
  clear hrow hX hz hall hfl hll
  go_enter Tryz.func53, Tryz.ntmps53
  go_wp2_with (first | (go_at_call 101; refine HFL.out.mono ?_; rintro e w1 ⟨v0, fbs, rfl, h1, h2, h3⟩; have H1 := hid h1; have H2 := hid h2; have H3 := hid h3; clear h1 h2 h3) | (go_at_call 95; refine (HD.out _ _ _ H1.out H2.out).mono ?_; rintro e w2 ⟨v1, bs2, rfl, h1, h2, h3, h4⟩; have HB := hid (below_app H3.out H1.out h3); obtain ⟨A1, c1, rfl⟩ := h1.form; have HO := hid h1; have HE := hid h2; clear h1 h2 h3 h4))
  obtain ⟨hrw, hcp, hal⟩ := HO.out.row HE.out HX.out
  have HAL := hid hal
  have hb40 : bs2.length ≤ 549755813888 := by have := len_sizes all; omega
  have HROW := hid hrw
  have HCP := hid hcp
  have hszw : w.heap.size ≤ w2.heap.size := HB.out.size
  have H0 : Hid (Calls Tryz.prog 67 #[] w2 (RetRe w2 X .none)) := nothing_any X w2 (fun k hk => Nat.lt_of_lt_of_le (HX.out k hk) hszw)
  clear hrw hcp hal
  go_loop [4, 12] (fun s4 i => ∃ k : Nat, k ≤ bs2.length ∧ i = .int .i64 k ∧ s4 = .bool ((all.take k).all Re.null) ∧ Hid ((all.take k).any isNone = false)) (fun _ i => bs2.length - (intOf i).toNat)
  case atStart => exact ⟨0, Nat.zero_le _, rfl, by simp, by show (all.take 0).any isNone = false; simp⟩
  case round =>
    obtain ⟨k, hk, rfl, rfl, hno⟩ := hrel
    by_cases hlt : k < bs2.length
    · obtain ⟨g1, of, r, b, rfl, hcell, hkr, hkb, hat, hg⟩ := HROW.out.at_ hlt
      obtain ⟨A', c', bs', hkc, -, -⟩ := hat.row
      obtain ⟨k0, -, -, -, -, -, k6, -⟩ := cellsOf hkc
      have hsn : all.take (k + 1) = all.take k ++ [r] := by
        obtain ⟨hl, e⟩ := List.getElem?_eq_some_iff.1 hkr
        rw [List.take_succ_eq_append_getElem hl, e]
      by_cases hop : r.op = 0
      · have hb : ((r.op : Int) == 0) = true := by
          have := op_beq r 0
          rw [show ((r.op : Int) == 0) = (r.op == 0) from this]; simp [hop]
        have hzz : z = .none := by
          have hm : all.any isNone = true := List.any_eq_true.2 ⟨r, List.mem_of_getElem? hkr, by simp [isNone, hop]⟩
          rw [HZ.out, hm]; rfl
        subst hzz
        clear hsn hop hkc hkr hkb hat k6
        generalize (all.take k).all Re.null = nb
        go_wp2_with (go_at_call 67; refine H0.out.mono ?_; rintro e w3 hre; have HRE := hid hre; obtain ⟨bn, rfl, -⟩ := hre)
        go_ret
        exact HRE.out.trans HB.out
      · have hb : ((r.op : Int) == 0) = false := by
          have := op_beq r 0
          rw [show ((r.op : Int) == 0) = (r.op == 0) from this]; simp [hop]
        have HNO : Hid ((all.take (k + 1)).any isNone = false) := by rw [hsn, List.any_append, hno.out]; simp [isNone, hop]; trivial
        have HNL : Hid ((all.take (k + 1)).all Re.null = ((all.take k).all Re.null && r.null)) := by rw [hsn, List.all_append]; simp; trivial
        clear hsn hop hkc hkr hkb hat
        cases hnb : (all.take k).all Re.null with
        | true =>
          rw [hnb] at HNL
          clear hnb
          go_wp2_with fail
          go_round
          case rel => exact ⟨k + 1, by omega, by go_num, by rw [HNL.out]; simp, HNO⟩
          case measure => simp [intOf]; omega
        | false =>
          rw [hnb] at HNL
          clear hnb
          go_wp2_with fail
          go_round
          case rel => exact ⟨k + 1, by omega, by go_num, by rw [HNL.out]; simp, HNO⟩
          case measure => simp [intOf]; omega
    · obtain rfl : k = bs2.length := by omega
      have hta : all.take bs2.length = all := List.take_of_length_le (by have := HAL.out; omega)
      have hnn : all.any isNone = false := by have := hno.out; rwa [hta] at this
      have hzz : z = packCat all := by rw [HZ.out, hnn]; rfl
      rw [hta]
      clear hno hta hnn hlt
      have HZZ := hid hzz
      have HALS := hid hals
      clear hzz hals
      match all, HZZ, HAL, HROW, HCP, HALS with
      | [], HZ1, HAL, HROW, HCP, HALS =>
        have hzz := HZ1.out
        have h0 : bs2.length = 0 := HAL.out
        have H1 : Hid (Calls Tryz.prog 58 #[] w2 (RetRe w2 X .eps)) := empty_any X w2 (fun k hk => Nat.lt_of_lt_of_le (HX.out k hk) hszw)
        subst hzz
        rw [h0]
        clear h0
        go_wp2_with (go_at_call 58; refine H1.out.mono ?_; rintro e w3 hre; have HRE := hid hre; obtain ⟨bn, rfl, -⟩ := hre)
        go_ret
        exact HRE.out.trans HB.out
      | [r], HZ1, HAL, HROW, HCP, HALS =>
        have hzz := HZ1.out
        have h0 : bs2.length = 1 := HAL.out
        obtain ⟨g1, of, r', b, rfl, hcell, hkr, hkb, hat, hg⟩ := HROW.out.at_ (k := 0) (by omega)
        cases hkr
        have HAT := hid hat
        rw [Nat.add_zero] at hcell
        subst hzz
        rw [h0]
        clear h0 hkb hat
        go_wp2_with fail
        go_ret
        exact ⟨b, rfl, HAT.out, HB.out⟩
      | r1 :: r2 :: rest, HZ1, HAL, HROW, HCP, HALS =>
        have hzz := HZ1.out
        have hals := HALS.out
        have h0 : bs2.length = (r1 :: r2 :: rest).length := HAL.out
        have HM : Hid (Calls Tryz.prog 99 #[.int .i64 3, .agg #[.int .u64 0, .int .u64 0, .int .u64 0, .int .u64 0], .bool ((r1 :: r2 :: rest).all Re.null), .slice A1 bs2.length c1] w2 (RetRe w2 X (.cat (r1 :: r2 :: rest)))) := by
          have hr := HROW.out
          have hc := HCP.out
          rw [h0] at hr hc ⊢
          exact made_cat _ X A1 c1 bs2 w2 hr hc (by omega) (fun k hk => Nat.lt_of_lt_of_le (HX.out k hk) hszw)
        have h2 : 2 ≤ bs2.length := by rw [h0]; simp
        have e0 : ((bs2.length : Int) == 0) = false := by rw [beq_eq_false_iff_ne]; omega
        have e1 : ((bs2.length : Int) == 1) = false := by rw [beq_eq_false_iff_ne]; omega
        subst hzz
        clear h0 hals
        generalize (r1 :: r2 :: rest).all Re.null = nb at HM ⊢
        go_wp2_with (go_at_call 99; refine HM.out.mono ?_; rintro e w3 hre; have HRE := hid hre; obtain ⟨bn, rfl, -⟩ := hre)
        go_ret
        exact HRE.out.trans HB.out
end Go.Proofs.YtfpfloahkibcgaaGreatDoor

/- The walks of re.Any, re.Many, re.But. -/
namespace Go.Proofs.YtfpfloahkibcgaaGreatDoor
open Go.RowKit

theorem setFnOr : SetFn 97 CSet.or := ⟨enters_of Tryz.func97 (by kernel_rfl) rfl, fun s t W => setOr_any s t W⟩
theorem setFnAnd : SetFn 86 CSet.and := ⟨enters_of Tryz.func86 (by kernel_rfl) rfl, fun s t W => setAnd_any s t W⟩

set_option maxHeartbeats 1000000 in
theorem any_any (A : Option Addr) (n c : Nat) (rs : List Re) (bs : List Nat) (X : Nat → Prop) (w : World) (hrow : ReRow w X A n rs bs) (hX : ∀ k, X k → k < w.heap.size) (hsz : Re.sizes rs ≤ 549755813888) :
    Calls Tryz.prog 52 #[.slice A n c] w (RetRe w X (anyL rs)) := by
  have hfl := flatL_sizes 4 rs
  have hll := len_sizes (flatL 4 rs)
  have hjl := joinL_sizes 4 CSet.or rs
  have hjn := len_sizes (joinL 4 CSet.or rs)
  have hnl := hrow.length.1
  have hrl := len_sizes rs
  have HJ := hid (join_any 4 97 CSet.or setFnOr A n c rs bs X w hrow hX (by omega) (by omega))
  have HX := hid hX
  obtain ⟨all, hall⟩ : ∃ all, all = (joinL 4 CSet.or rs).filter fun r => !isNone r := ⟨_, rfl⟩
  have hals : Re.sizes all ≤ 549755813888 := by rw [hall]; have := filter_sizes (fun r => !isNone r) (joinL 4 CSet.or rs); omega
  unfold anyL
  rw [← hall]
  have HALS := hid hals
  have HD : Hid (∀ v bs' W, OwnP W w.heap.size v bs' → Els W (Xo X v) (joinL 4 CSet.or rs) bs' → Calls Tryz.prog 95 #[v, .func (.func 98) #[] #[]] W (RetCut W X w.heap.size v all)) := fun v bs' W h1 h2 => by
    rw [hall]; exact deleteFunc_any _ isNone predNone _ v _ bs' X W h1 h2 (by have := h2.1; omega)
  obtain ⟨z, hz⟩ : ∃ z, z = packOr all := ⟨_, rfl⟩
  rw [← hz]
  have HZ := hid hz
  clear hrow hX hz hall hfl hll hals
  go_enter Tryz.func52, Tryz.ntmps52
  go_wp2_with (go_at_call 96; refine HJ.out.mono ?_; rintro e w1 ⟨v0, fbs, rfl, h1, h2, h3⟩; have H1 := hid h1; have H2 := hid h2; have H3 := hid h3; clear h1 h2 h3)
  refine (HD.out _ _ _ H1.out H2.out).mono ?_
  rintro e w2 ⟨v1, bs2, rfl, h1, h2, h3, h4⟩
  have HB := hid (below_app H3.out H1.out h3)
  obtain ⟨A1, c1, rfl⟩ := h1.form
  have HO := hid h1
  have HE := hid h2
  clear h1 h2 h3 h4
  obtain ⟨hrw, hcp, hal⟩ := HO.out.row HE.out HX.out
  have HAL := hid hal
  have hb40 : bs2.length ≤ 549755813888 := by have := len_sizes all; have := HALS.out; omega
  have HROW := hid hrw
  have HCP := hid hcp
  have hszw : w.heap.size ≤ w2.heap.size := HB.out.size
  have HXW : Hid (∀ k, X k → k < w2.heap.size) := fun k hk => Nat.lt_of_lt_of_le (HX.out k hk) hszw
  clear hrw hcp hal
  match all, HZ, HAL, HROW, HCP, HALS with
  | [], HZ1, HAL, HROW, HCP, HALS =>
    have hzz := HZ1.out
    have h0 : bs2.length = 0 := HAL.out
    have H1 : Hid (Calls Tryz.prog 67 #[] w2 (RetRe w2 X .none)) := nothing_any X w2 HXW.out
    subst hzz
    rw [h0]
    clear h0
    go_wp2_with (go_at_call 67; refine H1.out.mono ?_; rintro e w3 hre; have HRE := hid hre; obtain ⟨bn, rfl, -⟩ := hre)
    go_ret
    exact HRE.out.trans HB.out
  | [r], HZ1, HAL, HROW, HCP, HALS =>
    have hzz := HZ1.out
    have h0 : bs2.length = 1 := HAL.out
    obtain ⟨g1, of, r', b, rfl, hcell, hkr, hkb, hat, hg⟩ := HROW.out.at_ (k := 0) (by omega)
    cases hkr
    have HAT := hid hat
    rw [Nat.add_zero] at hcell
    subst hzz
    rw [h0]
    clear h0 hkb hat
    go_wp2_with fail
    go_ret
    exact ⟨b, rfl, HAT.out, HB.out⟩
  | r1 :: r2 :: rest, HZ1, HAL, HROW, HCP, HALS =>
    have hzz := HZ1.out
    have hals := HALS.out
    have h0 : bs2.length = (r1 :: r2 :: rest).length := HAL.out
    have HM : Hid (Calls Tryz.prog 99 #[.int .i64 4, .agg #[.int .u64 0, .int .u64 0, .int .u64 0, .int .u64 0], .bool ((r1 :: r2 :: rest).any Re.null), .slice A1 bs2.length c1] w2 (RetRe w2 X (.or (r1 :: r2 :: rest)))) := by
      have hr := HROW.out
      have hc := HCP.out
      rw [h0] at hr hc ⊢
      exact made_or _ X A1 c1 bs2 w2 hr hc (by omega) HXW.out
    have HCF : Hid (Calls Tryz.prog 100 #[.slice A1 bs2.length c1, .func (.func 56) #[] #[]] w2 fun e w' => e = .returned (.bool ((r1 :: r2 :: rest).any Re.null)) ∧ w2 = w') := containsFunc_any _ Re.null predNull A1 bs2.length c1 _ bs2 X w2 HROW.out.1 HROW.out.2.1 (by omega)
    have h2 : 2 ≤ bs2.length := by rw [h0]; simp
    have e0 : ((bs2.length : Int) == 0) = false := by rw [beq_eq_false_iff_ne]; omega
    have e1 : ((bs2.length : Int) == 1) = false := by rw [beq_eq_false_iff_ne]; omega
    subst hzz
    clear h0 hals
    generalize (r1 :: r2 :: rest).any Re.null = nb at HM HCF
    go_wp2_with (first | (go_at_call 100; refine HCF.out.mono ?_; rintro e w3 ⟨rfl, rfl⟩) | (go_at_call 99; refine HM.out.mono ?_; rintro e w3 hre; have HRE := hid hre; obtain ⟨bn, rfl, -⟩ := hre))
    go_ret
    exact HRE.out.trans HB.out
end Go.Proofs.YtfpfloahkibcgaaGreatDoor

/- The walks of re.Many and re.But. -/
namespace Go.Proofs.YtfpfloahkibcgaaGreatDoor
open Go.RowKit

theorem op_int (r : Re) (k : Nat) : (((r.op : Int) == (k : Int)) = decide (r.op = k)) := by rw [op_beq]; rfl
theorem Rd.two_new (w : World) (a b : Nat) (T : TypeId) : Rd (w.alloc (.cells #[.pointer (some ⟨a, 0, none⟩), .pointer (some ⟨b, 0, none⟩)] T)) (some ⟨w.heap.size, 0, none⟩) 2 ([a, b].map ptr) :=
  ⟨rfl, fun _ => ⟨w.heap.size, 0, rfl, by simp, fun j u hj => by
    have hb := blk_new w (.cells #[.pointer (some ⟨a, 0, none⟩), .pointer (some ⟨b, 0, none⟩)] T)
    match j, hj with
    | 0, hj => simp at hj; subst hj; exact (blk_cell hb 0).trans (by simp)
    | 1, hj => simp at hj; subst hj; exact (blk_cell hb 1).trans (by simp)⟩⟩
theorem made_star (r : Re) (X : Nat → Prop) (b : Nat) (w : World) (h : ReAt w X r b) (hsz : r.size ≤ 549755813888) (hX : ∀ k, X k → k < w.heap.size) :
    Calls Tryz.prog 99 #[.int .i64 5, .agg #[.int .u64 0, .int .u64 0, .int .u64 0, .int .u64 0], .bool true, .slice (some ⟨w.heap.size, 0, none⟩) 1 1] (w.alloc (.cells #[.pointer (some ⟨b, 0, none⟩)] 32)) (RetRe (w.alloc (.cells #[.pointer (some ⟨b, 0, none⟩)] 32)) X (.star r)) :=
  made_kids (.star r) X (some ⟨w.heap.size, 0, none⟩) 1 [b] _ ⟨Rd.one_new w b _, Els.alloc (Els.one h) _, fun a _ e hx => by cases e; have := hX _ hx; simp at this⟩ ⟨Nat.le_refl _, fun h => by cases h⟩ (by simp [Re.size]; omega) (fun k hk => by have := hX k hk; simp; omega) (by simp [Re.op]) 5 rfl
theorem made_minus (r s : Re) (X : Nat → Prop) (a b : Nat) (w : World) (h : ReAt w X r a) (h' : ReAt w X s b) (hsz : r.size + s.size ≤ 549755813888) (hX : ∀ k, X k → k < w.heap.size) :
    Calls Tryz.prog 99 #[.int .i64 7, .agg #[.int .u64 0, .int .u64 0, .int .u64 0, .int .u64 0], .bool (r.null && !s.null), .slice (some ⟨w.heap.size, 0, none⟩) 2 2] (w.alloc (.cells #[.pointer (some ⟨a, 0, none⟩), .pointer (some ⟨b, 0, none⟩)] 32)) (RetRe (w.alloc (.cells #[.pointer (some ⟨a, 0, none⟩), .pointer (some ⟨b, 0, none⟩)] 32)) X (.minus r s)) :=
  made_kids (.minus r s) X (some ⟨w.heap.size, 0, none⟩) 2 [a, b] _ ⟨Rd.two_new w a b _, Els.alloc (Els.append (Els.one h) (Els.one h')) _, fun a _ e hx => by cases e; have := hX _ hx; simp at this⟩ ⟨Nat.le_refl _, fun h => by cases h⟩ (by simp [Re.size]; omega) (fun k hk => by have := hX k hk; simp; omega) (by simp [Re.op]) 7 rfl

set_option maxHeartbeats 1000000 in
theorem many_any (r : Re) (X : Nat → Prop) (b : Nat) (w : World) (h : ReAt w X r b) (hX : ∀ k, X k → k < w.heap.size) (hsz : r.size ≤ 549755813888) :
    Calls Tryz.prog 54 #[ptr b] w (RetRe w X (manyR r)) := by
  have HE := hid (empty_any X w hX)
  have HM := hid (made_star r X b w h hsz hX)
  have HAT := hid h
  obtain ⟨A, c, bs, hb, -, -⟩ := h.row
  obtain ⟨k0, -⟩ := cellsOf hb
  have e0 := op_int r 0
  have e1 := op_int r 1
  have e5 := op_int r 5
  simp only [Int.natCast_zero, Int.natCast_one, show ((5 : Nat) : Int) = 5 from rfl] at e0 e1 e5
  clear h hX hb
  unfold manyR ptr
  by_cases h0 : r.op = 0
  · rw [if_pos (.inl h0)]
    rw [decide_eq_true h0] at e0
    clear h0 e1 e5
    go_enter Tryz.func54, Tryz.ntmps54
    go_wp2_with (go_at_call 58; refine HE.out.mono ?_; rintro e w3 hre; have HRE := hid hre; obtain ⟨bn, rfl, -⟩ := hre)
    go_ret
    exact HRE.out
  · rw [decide_eq_false h0] at e0
    by_cases h1 : r.op = 1
    · rw [if_pos (.inr h1)]
      rw [decide_eq_true h1] at e1
      clear h0 h1 e5
      go_enter Tryz.func54, Tryz.ntmps54
      go_wp2_with (go_at_call 58; refine HE.out.mono ?_; rintro e w3 hre; have HRE := hid hre; obtain ⟨bn, rfl, -⟩ := hre)
      go_ret
      exact HRE.out
    · rw [if_neg (by simp [h0, h1])]
      rw [decide_eq_false h1] at e1
      by_cases h5 : r.op = 5
      · rw [if_pos h5]
        rw [decide_eq_true h5] at e5
        clear h0 h1 h5
        go_enter Tryz.func54, Tryz.ntmps54
        go_wp2_with fail
        go_ret
        exact ⟨b, rfl, HAT.out, Below.refl _ _⟩
      · rw [if_neg h5]
        rw [decide_eq_false h5] at e5
        clear h0 h1 h5
        go_enter Tryz.func54, Tryz.ntmps54
        go_wp2_with (go_at_call 99; refine HM.out.mono ?_; rintro e w3 hre; have HRE := hid hre; obtain ⟨bn, rfl, -⟩ := hre)
        go_ret
        exact HRE.out.trans ((Below.refl _ _).alloc (Nat.le_refl _) _)

set_option maxHeartbeats 1000000 in
theorem but_any (r s : Re) (X : Nat → Prop) (a b : Nat) (w : World) (h : ReAt w X r a) (h' : ReAt w X s b) (hX : ∀ k, X k → k < w.heap.size) (hsz : r.size + s.size ≤ 549755813888) :
    Calls Tryz.prog 59 #[ptr a, ptr b] w (RetRe w X (butR r s)) := by
  have HN := hid (nothing_any X w hX)
  have HM := hid (made_minus r s X a b w h h' hsz hX)
  have HAT := hid h
  have HS := hid (same_any r s X X a b w h h')
  have HX := hid hX
  obtain ⟨A, c, bs, hb, -, -⟩ := h.row
  obtain ⟨k0, k1, k2, k3, k4, -, k6, -⟩ := cellsOf hb
  obtain ⟨A', c', bs', hb', -, -⟩ := h'.row
  obtain ⟨j0, j1, j2, j3, j4, -, j6, -⟩ := cellsOf hb'
  have e0 := op_int r 0
  have e2 := op_int r 2
  have f0 := op_int s 0
  have f2 := op_int s 2
  simp only [Int.natCast_zero, show ((2 : Nat) : Int) = 2 from rfl] at e0 e2 f0 f2
  clear h hX hb h' hb'
  unfold butR
  unfold ptr at *
  by_cases h0 : r.op = 0
  · rw [if_pos (.inl h0)]
    rw [decide_eq_true h0] at e0
    clear h0 e2 f0 f2
    go_enter Tryz.func59, Tryz.ntmps59
    go_wp2_with (go_at_call 67; refine HN.out.mono ?_; rintro e w3 hre; have HRE := hid hre; obtain ⟨bn, rfl, -⟩ := hre)
    go_ret
    exact HRE.out
  · rw [decide_eq_false h0] at e0
    by_cases hk : r.key = s.key
    · rw [if_pos (.inr hk)]
      have hkb : (r.key == s.key) = true := by simpa using hk
      rw [hkb] at HS
      clear h0 hk hkb e2 f0 f2
      go_enter Tryz.func59, Tryz.ntmps59
      go_wp2_with (first | (go_at_call 103; refine HS.out.mono ?_; rintro e w3 ⟨rfl, rfl⟩) | (go_at_call 67; refine HN.out.mono ?_; rintro e w3 hre; have HRE := hid hre; obtain ⟨bn, rfl, -⟩ := hre))
      go_ret
      exact HRE.out
    · rw [if_neg (by simp [h0, hk])]
      have hkb : (r.key == s.key) = false := by simpa using hk
      rw [hkb] at HS
      clear hk hkb
      by_cases g0 : s.op = 0
      · rw [if_pos g0]
        rw [decide_eq_true g0] at f0
        clear h0 g0 e2 f2
        go_enter Tryz.func59, Tryz.ntmps59
        go_wp2_with (go_at_call 103; refine HS.out.mono ?_; rintro e w3 ⟨rfl, rfl⟩)
        go_ret
        exact ⟨a, rfl, HAT.out, Below.refl _ _⟩
      · rw [if_neg g0]
        rw [decide_eq_false g0] at f0
        by_cases h2 : r.op = 2
        · rw [decide_eq_true h2] at e2
          by_cases g2 : s.op = 2
          · rw [if_pos ⟨h2, g2⟩]
            rw [decide_eq_true g2] at f2
            have HF := hid (fun W => setMinus_any r.set s.set W)
            have HO : Hid (∀ W, w.heap.size ≤ W.heap.size → Calls Tryz.prog 70 #[cv (r.set.minus s.set)] W (RetRe W X (oneR (r.set.minus s.set)))) := fun W h => one_any _ X W (fun k hk => Nat.lt_of_lt_of_le (HX.out k hk) h)
            generalize r.set.minus s.set = u at HF HO ⊢
            unfold cv at HF HO
            clear h0 g0 h2 g2
            go_enter Tryz.func59, Tryz.ntmps59
            go_wp2_with (go_at_call 103; refine HS.out.mono ?_; rintro e w3 ⟨rfl, rfl⟩)
            go_region_with (first | (go_at_call 87; refine (HF.out _).mono ?_; rintro e w2 ⟨rfl, hb2⟩; have hz2 : w.heap.size ≤ w2.heap.size := hb2.size; have HB2 := hid hb2; clear hb2) | (go_at_call 70; refine (HO.out _ hz2).mono ?_; rintro e w3 hre; have HRE := hid hre; obtain ⟨bn, rfl, -⟩ := hre))
            all_goals
              go_wp2_with fail
              go_ret
              exact HRE.out.trans ((Below.refl _ w).drew.trans (HB2.out.mono (Nat.le_refl _)))
          · rw [if_neg (by simp [g2])]
            rw [decide_eq_false g2] at f2
            clear h0 g0 h2 g2
            cases hn : r.null with
            | true =>
              rw [hn] at HM k6
              clear hn
              rw [Bool.true_and] at HM
              generalize s.null = q at *
              go_enter Tryz.func59, Tryz.ntmps59
              go_wp2_with (first | (go_at_call 103; refine HS.out.mono ?_; rintro e w3 ⟨rfl, rfl⟩) | (go_at_call 99; refine HM.out.mono ?_; rintro e w3 hre; have HRE := hid hre; obtain ⟨bn, rfl, -⟩ := hre))
              go_ret
              exact HRE.out.trans ((Below.refl _ _).alloc (Nat.le_refl _) _)
            | false =>
              rw [hn] at HM k6
              clear hn
              rw [Bool.false_and] at HM
              go_enter Tryz.func59, Tryz.ntmps59
              go_wp2_with (first | (go_at_call 103; refine HS.out.mono ?_; rintro e w3 ⟨rfl, rfl⟩) | (go_at_call 99; refine HM.out.mono ?_; rintro e w3 hre; have HRE := hid hre; obtain ⟨bn, rfl, -⟩ := hre))
              go_ret
              exact HRE.out.trans ((Below.refl _ _).alloc (Nat.le_refl _) _)
        · rw [if_neg (by simp [h2])]
          rw [decide_eq_false h2] at e2
          clear h0 g0 h2 f2
          cases hn : r.null with
          | true =>
            rw [hn] at HM k6
            clear hn
            rw [Bool.true_and] at HM
            generalize s.null = q at *
            go_enter Tryz.func59, Tryz.ntmps59
            go_wp2_with (first | (go_at_call 103; refine HS.out.mono ?_; rintro e w3 ⟨rfl, rfl⟩) | (go_at_call 99; refine HM.out.mono ?_; rintro e w3 hre; have HRE := hid hre; obtain ⟨bn, rfl, -⟩ := hre))
            go_ret
            exact HRE.out.trans ((Below.refl _ _).alloc (Nat.le_refl _) _)
          | false =>
            rw [hn] at HM k6
            clear hn
            rw [Bool.false_and] at HM
            go_enter Tryz.func59, Tryz.ntmps59
            go_wp2_with (first | (go_at_call 103; refine HS.out.mono ?_; rintro e w3 ⟨rfl, rfl⟩) | (go_at_call 99; refine HM.out.mono ?_; rintro e w3 hre; have HRE := hid hre; obtain ⟨bn, rfl, -⟩ := hre))
            go_ret
            exact HRE.out.trans ((Below.refl _ _).alloc (Nat.le_refl _) _)
end Go.Proofs.YtfpfloahkibcgaaGreatDoor

/- The walk of re.Both. -/
namespace Go.Proofs.YtfpfloahkibcgaaGreatDoor
open Go.RowKit

set_option maxHeartbeats 1000000 in
theorem both_any (A : Option Addr) (n c : Nat) (rs : List Re) (bs : List Nat) (X : Nat → Prop) (w : World) (hrow : ReRow w X A n rs bs) (hX : ∀ k, X k → k < w.heap.size) (hsz : Re.sizes rs ≤ 549755813888) :
    Calls Tryz.prog 57 #[.slice A n c] w (RetRe w X (bothL rs)) := by
  have hfl := flatL_sizes 6 rs
  have hll := len_sizes (flatL 6 rs)
  have hjl := joinL_sizes 6 CSet.and rs
  have hnl := hrow.length.1
  have hrl := len_sizes rs
  have HJ := hid (join_any 6 86 CSet.and setFnAnd A n c rs bs X w hrow hX (by omega) (by omega))
  have HX := hid hX
  unfold bothL
  simp only []
  obtain ⟨all, hall⟩ : ∃ all, all = joinL 6 CSet.and rs := ⟨_, rfl⟩
  rw [← hall] at HJ hjl ⊢
  have hals : Re.sizes all ≤ 549755813888 := by omega
  obtain ⟨z, hz⟩ : ∃ z, z = if all.any isNone then Re.none else packAnd all := ⟨_, rfl⟩
  rw [← hz]
  have HZ := hid hz
  clear hrow hX hz hall hfl hll hjl
  go_enter Tryz.func57, Tryz.ntmps57
  go_wp2_with (go_at_call 96; refine HJ.out.mono ?_; rintro e w2 ⟨v0, bs2, rfl, h1, h2, h3⟩; obtain ⟨A1, c1, rfl⟩ := h1.form; have HO := hid h1; have HE := hid h2; have HB := hid h3; clear h1 h2 h3)
  obtain ⟨hrw, hcp, hal⟩ := HO.out.row HE.out HX.out
  have HAL := hid hal
  have hb40 : bs2.length ≤ 549755813888 := by have := len_sizes all; omega
  have HROW := hid hrw
  have HCP := hid hcp
  have hszw : w.heap.size ≤ w2.heap.size := HB.out.size
  have H0 : Hid (Calls Tryz.prog 67 #[] w2 (RetRe w2 X .none)) := nothing_any X w2 (fun k hk => Nat.lt_of_lt_of_le (HX.out k hk) hszw)
  clear hrw hcp hal
  go_loop [4, 11] (fun s4 i => ∃ k : Nat, k ≤ bs2.length ∧ i = .int .i64 k ∧ s4 = .bool ((all.take k).all Re.null) ∧ Hid ((all.take k).any isNone = false)) (fun _ i => bs2.length - (intOf i).toNat)
  case atStart => exact ⟨0, Nat.zero_le _, rfl, by simp, by show (all.take 0).any isNone = false; simp⟩
  case round =>
    obtain ⟨k, hk, rfl, rfl, hno⟩ := hrel
    by_cases hlt : k < bs2.length
    · obtain ⟨g1, of, r, b, rfl, hcell, hkr, hkb, hat, hg⟩ := HROW.out.at_ hlt
      obtain ⟨A', c', bs', hkc, -, -⟩ := hat.row
      obtain ⟨k0, -, -, -, -, -, k6, -⟩ := cellsOf hkc
      have hsn : all.take (k + 1) = all.take k ++ [r] := by
        obtain ⟨hl, e⟩ := List.getElem?_eq_some_iff.1 hkr
        rw [List.take_succ_eq_append_getElem hl, e]
      by_cases hop : r.op = 0
      · have hb : ((r.op : Int) == 0) = true := by
          have := op_beq r 0
          rw [show ((r.op : Int) == 0) = (r.op == 0) from this]; simp [hop]
        have hzz : z = .none := by
          have hm : all.any isNone = true := List.any_eq_true.2 ⟨r, List.mem_of_getElem? hkr, by simp [isNone, hop]⟩
          rw [HZ.out, hm]; rfl
        subst hzz
        clear hsn hop hkc hkr hkb hat k6
        generalize (all.take k).all Re.null = nb
        go_wp2_with (go_at_call 67; refine H0.out.mono ?_; rintro e w3 hre; have HRE := hid hre; obtain ⟨bn, rfl, -⟩ := hre)
        go_ret
        exact HRE.out.trans HB.out
      · have hb : ((r.op : Int) == 0) = false := by
          have := op_beq r 0
          rw [show ((r.op : Int) == 0) = (r.op == 0) from this]; simp [hop]
        have HNO : Hid ((all.take (k + 1)).any isNone = false) := by rw [hsn, List.any_append, hno.out]; simp [isNone, hop]; trivial
        have HNL : Hid ((all.take (k + 1)).all Re.null = ((all.take k).all Re.null && r.null)) := by rw [hsn, List.all_append]; simp; trivial
        clear hsn hop hkc hkr hkb hat
        cases hnb : (all.take k).all Re.null with
        | true =>
          rw [hnb] at HNL
          clear hnb
          go_wp2_with fail
          go_round
          case rel => exact ⟨k + 1, by omega, by go_num, by rw [HNL.out]; simp, HNO⟩
          case measure => simp [intOf]; omega
        | false =>
          rw [hnb] at HNL
          clear hnb
          go_wp2_with fail
          go_round
          case rel => exact ⟨k + 1, by omega, by go_num, by rw [HNL.out]; simp, HNO⟩
          case measure => simp [intOf]; omega
    · obtain rfl : k = bs2.length := by omega
      have hta : all.take bs2.length = all := List.take_of_length_le (by have := HAL.out; omega)
      have hnn : all.any isNone = false := by have := hno.out; rwa [hta] at this
      have hzz : z = packAnd all := by rw [HZ.out, hnn]; rfl
      rw [hta]
      clear hno hta hnn hlt
      have HZZ := hid hzz
      have HALS := hid hals
      clear hzz hals
      match all, HZZ, HAL, HROW, HCP, HALS with
      | [], HZ1, HAL, HROW, HCP, HALS =>
        have hzz := HZ1.out
        have h0 : bs2.length = 0 := HAL.out
        have HA := hid (fun W => setAll_any W)
        have HO : Hid (∀ W, w2.heap.size ≤ W.heap.size → Calls Tryz.prog 70 #[cv CSet.all] W (RetRe W X (oneR CSet.all))) := fun W h => one_any _ X W (fun k hk => Nat.lt_of_lt_of_le (HX.out k hk) (Nat.le_trans hszw h))
        have hoo : oneR CSet.all = .cls CSet.all := by unfold oneR; rw [if_neg (by decide)]
        rw [hoo] at HO
        have HMY : Hid (∀ W b, w2.heap.size ≤ W.heap.size → ReAt W X (.cls CSet.all) b → Calls Tryz.prog 54 #[ptr b] W (RetRe W X (manyR (.cls CSet.all)))) := fun W b h1 h2 => many_any _ X b W h2 (fun k hk => Nat.lt_of_lt_of_le (HX.out k hk) (Nat.le_trans hszw h1)) (by simp [Re.size])
        subst hzz
        rw [h0]
        clear h0 hoo
        obtain ⟨u, hu⟩ : ∃ u, u = CSet.all := ⟨_, rfl⟩
        rw [← hu] at HA HO HMY
        have HU := hid hu
        clear hu
        unfold cv at HA HO
        unfold ptr at HMY
        go_wp2_with (first | (go_at_call 85; refine (HA.out _).mono ?_; rintro e w3 ⟨rfl, hb3⟩; have hz3 : w2.heap.size ≤ w3.heap.size := hb3.size; have HB3 := hid hb3; clear hb3) | (go_at_call 70; refine (HO.out _ hz3).mono ?_; rintro e w4 ⟨b4, rfl, h4, hb4⟩; have H4 := hid h4; have hz4 : w2.heap.size ≤ w4.heap.size := Nat.le_trans hz3 hb4.size; have HB4 := hid hb4; clear h4 hb4) | (go_at_call 54; refine (HMY.out _ _ hz4 H4.out).mono ?_; rintro e w5 hre; have HRE := hid hre; obtain ⟨bn, rfl, -⟩ := hre))
        go_ret
        have HBB := (HB.out.trans (HB3.out.mono hszw)).trans (HB4.out.mono (Nat.le_trans hszw hz3))
        have hfin := HRE.out.trans HBB
        rw [HU.out] at hfin
        exact hfin
      | [r], HZ1, HAL, HROW, HCP, HALS =>
        have hzz := HZ1.out
        have h0 : bs2.length = 1 := HAL.out
        obtain ⟨g1, of, r', b, rfl, hcell, hkr, hkb, hat, hg⟩ := HROW.out.at_ (k := 0) (by omega)
        cases hkr
        have HAT := hid hat
        rw [Nat.add_zero] at hcell
        subst hzz
        rw [h0]
        clear h0 hkb hat
        go_wp2_with fail
        go_ret
        exact ⟨b, rfl, HAT.out, HB.out⟩
      | r1 :: r2 :: rest, HZ1, HAL, HROW, HCP, HALS =>
        have hzz := HZ1.out
        have hals := HALS.out
        have h0 : bs2.length = (r1 :: r2 :: rest).length := HAL.out
        have HM : Hid (Calls Tryz.prog 99 #[.int .i64 6, .agg #[.int .u64 0, .int .u64 0, .int .u64 0, .int .u64 0], .bool ((r1 :: r2 :: rest).all Re.null), .slice A1 bs2.length c1] w2 (RetRe w2 X (.and (r1 :: r2 :: rest)))) := by
          have hr := HROW.out
          have hc := HCP.out
          rw [h0] at hr hc ⊢
          exact made_and _ X A1 c1 bs2 w2 hr hc (by omega) (fun k hk => Nat.lt_of_lt_of_le (HX.out k hk) hszw)
        have h2 : 2 ≤ bs2.length := by rw [h0]; simp
        have e0 : ((bs2.length : Int) == 0) = false := by rw [beq_eq_false_iff_ne]; omega
        have e1 : ((bs2.length : Int) == 1) = false := by rw [beq_eq_false_iff_ne]; omega
        subst hzz
        clear h0 hals
        generalize (r1 :: r2 :: rest).all Re.null = nb at HM ⊢
        go_wp2_with (go_at_call 99; refine HM.out.mono ?_; rintro e w3 hre; have HRE := hid hre; obtain ⟨bn, rfl, -⟩ := hre)
        go_ret
        exact HRE.out.trans HB.out
end Go.Proofs.YtfpfloahkibcgaaGreatDoor

/- The walks of (*Re).With, of (*Re).Back at nil, of re.Word. -/
namespace Go.Proofs.YtfpfloahkibcgaaGreatDoor
open Go.RowKit

/-- What (*Re).With makes. -/
def withR (r : Re) (l : List Re) : Re :=
  if r.op = 3 then thenL l else if r.op = 4 then anyL l else if r.op = 6 then bothL l else
  if r.op = 5 then (match l with | [a] => manyR a | _ => r) else if r.op = 7 then (match l with | [a, b] => butR a b | _ => r) else r

theorem opLits (r : Re) : ((r.op : Int) == 3) = decide (r.op = 3) ∧ ((r.op : Int) == 4) = decide (r.op = 4) ∧ ((r.op : Int) == 5) = decide (r.op = 5) ∧ ((r.op : Int) == 6) = decide (r.op = 6) ∧ ((r.op : Int) == 7) = decide (r.op = 7) :=
  ⟨op_int r 3, op_int r 4, op_int r 5, op_int r 6, op_int r 7⟩

set_option maxHeartbeats 1000000 in
theorem with_any (r : Re) (b : Nat) (A : Option Addr) (n c : Nat) (rs : List Re) (bs : List Nat) (X : Nat → Prop) (w : World) (hr : ReAt w X r b) (hrow : ReRow w X A n rs bs) (hX : ∀ k, X k → k < w.heap.size) (hsz : Re.sizes rs ≤ 549755813888) :
    Calls Tryz.prog 112 #[ptr b, .slice A n c] w (RetRe w X (withR r rs)) := by
  have H3 := hid (then_any A n c rs bs X w hrow hX hsz)
  have H4 := hid (any_any A n c rs bs X w hrow hX hsz)
  have H6 := hid (both_any A n c rs bs X w hrow hX hsz)
  have HAT := hid hr
  have HROW := hid hrow
  have HX := hid hX
  obtain ⟨A', c', bs', hb, -, -⟩ := hr.row
  obtain ⟨k0, -⟩ := cellsOf hb
  obtain ⟨e3, e4, e5, e6, e7⟩ := opLits r
  have hl := hrow.length.1
  clear hr hrow hX hb
  obtain ⟨z, hz⟩ : ∃ z, z = withR r rs := ⟨_, rfl⟩
  rw [← hz]
  unfold withR at hz
  unfold ptr
  by_cases h3 : r.op = 3
  · rw [if_pos h3] at hz
    subst hz
    rw [decide_eq_true h3] at e3
    clear h3 e4 e5 e6 e7
    go_enter Tryz.func112, Tryz.ntmps112
    go_wp2_with (go_at_call 53; refine H3.out.mono ?_; rintro e w3 hre; have HRE := hid hre; obtain ⟨bn, rfl, -⟩ := hre)
    go_ret
    exact HRE.out
  rw [if_neg h3] at hz
  rw [decide_eq_false h3] at e3
  by_cases h4 : r.op = 4
  · rw [if_pos h4] at hz
    subst hz
    rw [decide_eq_true h4] at e4
    clear h3 h4 e5 e6 e7
    go_enter Tryz.func112, Tryz.ntmps112
    go_wp2_with (go_at_call 52; refine H4.out.mono ?_; rintro e w3 hre; have HRE := hid hre; obtain ⟨bn, rfl, -⟩ := hre)
    go_ret
    exact HRE.out
  rw [if_neg h4] at hz
  rw [decide_eq_false h4] at e4
  by_cases h6 : r.op = 6
  · rw [if_pos h6] at hz
    subst hz
    rw [decide_eq_true h6] at e6
    clear h3 h4 h6 e5 e7
    go_enter Tryz.func112, Tryz.ntmps112
    go_wp2_with (go_at_call 57; refine H6.out.mono ?_; rintro e w3 hre; have HRE := hid hre; obtain ⟨bn, rfl, -⟩ := hre)
    go_ret
    exact HRE.out
  rw [if_neg h6] at hz
  rw [decide_eq_false h6] at e6
  by_cases h5 : r.op = 5
  · rw [if_pos h5] at hz
    rw [decide_eq_true h5] at e5
    by_cases h1 : n = 1
    · subst h1
      obtain ⟨a, rfl⟩ : ∃ a, rs = [a] := by
        match rs, hl with
        | [a], _ => exact ⟨a, rfl⟩
      simp only [] at hz
      subst hz
      obtain ⟨g1, of, r', ba, rfl, hcell, hkr, hkb, hat, hg⟩ := HROW.out.at_ (k := 0) (by omega)
      cases hkr
      rw [Nat.add_zero] at hcell
      have HMY := hid (many_any _ X ba w hat HX.out (by simp [Re.sizes] at hsz; omega))
      unfold ptr at HMY hcell
      clear h3 h4 h5 h6 e7 hkb hat hl
      go_enter Tryz.func112, Tryz.ntmps112
      go_wp2_with (go_at_call 54; refine HMY.out.mono ?_; rintro e w3 hre; have HRE := hid hre; obtain ⟨bn, rfl, -⟩ := hre)
      go_ret
      exact HRE.out
    · have hzz : z = r := by
        rw [hz]
        match rs, hl with
        | [], _ => rfl
        | [a], hl => exact absurd hl.symm h1
        | _ :: _ :: _, _ => rfl
      subst hzz
      have hn1 : ((n : Int) == 1) = false := by rw [beq_eq_false_iff_ne]; omega
      clear h3 h4 h5 h6 e7 hl hz h1
      go_enter Tryz.func112, Tryz.ntmps112
      go_wp2_with fail
      go_ret
      exact ⟨b, rfl, HAT.out, Below.refl _ _⟩
  rw [if_neg h5] at hz
  rw [decide_eq_false h5] at e5
  by_cases h7 : r.op = 7
  · rw [if_pos h7] at hz
    rw [decide_eq_true h7] at e7
    by_cases h2 : n = 2
    · subst h2
      obtain ⟨a, d, rfl⟩ : ∃ a d, rs = [a, d] := by
        match rs, hl with
        | [a, d], _ => exact ⟨a, d, rfl⟩
      simp only [] at hz
      subst hz
      obtain ⟨g1, of, r', ba, rfl, hcell, hkr, hkb, hat, hg⟩ := HROW.out.at_ (k := 0) (by omega)
      cases hkr
      obtain ⟨g2, of2, r', bd, e, hcell2, hkr2, hkb2, hat2, -⟩ := HROW.out.at_ (k := 1) (by omega)
      cases e
      cases hkr2
      rw [Nat.add_zero] at hcell
      have HMY : Hid (∀ m, Calls Tryz.prog 59 #[ptr ba, ptr bd] (w.drewN m) (RetRe (w.drewN m) X (butR a d))) := fun m => but_any a d X ba bd _ (hat.drewN m) (hat2.drewN m) HX.out (by simp [Re.sizes] at hsz; omega)
      unfold ptr at HMY hcell hcell2
      clear h3 h4 h5 h6 h7 hkb hkb2 hat hat2 hl
      go_enter Tryz.func112, Tryz.ntmps112
      go_wp2_with fail
      go_region_with (go_at_call 59; refine (HMY.out 1).mono ?_; rintro e w3 hre; have HRE := hid hre; obtain ⟨bn, rfl, -⟩ := hre)
      all_goals
        go_wp2_with fail
        go_ret
        exact HRE.out.trans ((Below.refl _ w).drew)
    · have hzz : z = r := by
        rw [hz]
        match rs, hl with
        | [], _ => rfl
        | [a], _ => rfl
        | [a, d], hl => exact absurd hl.symm h2
        | _ :: _ :: _ :: _, _ => rfl
      subst hzz
      have hn2 : ((n : Int) == 2) = false := by rw [beq_eq_false_iff_ne]; omega
      clear h3 h4 h5 h6 h7 hl hz h2
      go_enter Tryz.func112, Tryz.ntmps112
      go_wp2_with fail
      go_ret
      exact ⟨b, rfl, HAT.out, Below.refl _ _⟩
  rw [if_neg h7] at hz
  rw [decide_eq_false h7] at e7
  subst hz
  clear h3 h4 h5 h6 h7 hl
  go_enter Tryz.func112, Tryz.ntmps112
  go_wp2_with fail
  go_ret
  exact ⟨b, rfl, HAT.out, Below.refl _ _⟩

theorem back_nil (w : World) : Calls Tryz.prog 66 #[.pointer none] w fun e w' => e = .returned (.pointer none) ∧ w = w' := by
  go_enter Tryz.func66, Tryz.ntmps66
  go_wp2_with fail
  go_ret
  exact ⟨rfl, rfl⟩
end Go.Proofs.YtfpfloahkibcgaaGreatDoor

/- The walk of re.Word. -/
namespace Go.Proofs.YtfpfloahkibcgaaGreatDoor
open Go.RowKit

/-- '[]byte(s)': the bytes, in a new row. -/
theorem conv_bytes (s : ByteArray) (w : World) : ∃ c w1, (convert 9 89 (.string s)).run Tryz.prog w = .ok (.slice (some ⟨w.heap.size, 0, none⟩) s.size c) w1 ∧ Below w.heap.size w w1 ∧ w.heap.size < w1.heap.size ∧
    ∀ (j : Nat) b, s.data.toList[j]? = some b → w1.cell? ⟨w.heap.size, j, none⟩ = some (.int .u8 b.toNat) := by
  refine ⟨_, _, Lib.run_convert_string_bytes w _ _ 5 s Tryz.underlying9 Tryz.underlying89 Tryz.underlying5, ⟨?_, ?_, ?_, ?_, ?_⟩, ?_, ?_⟩
  · simp [Lib.bytesWorld, World.freeze, World.alloc, World.drew, -World.alloc_eq, -World.drew_eq]
  · simp [Lib.bytesWorld, World.freeze, World.alloc, World.drew, -World.alloc_eq, -World.drew_eq]
  · simp [Lib.bytesWorld, World.freeze, World.alloc, World.drew, -World.alloc_eq, -World.drew_eq]
  · rw [Lib.bytesWorld_size]; omega
  · exact fun k hk => Lib.bytesWorld_at_old w _ s k hk
  · rw [Lib.bytesWorld_size]; omega
  · intro j b hb
    obtain ⟨hj, e⟩ := List.getElem?_eq_some_iff.1 hb
    rw [Lib.bytesWorld_cell w _ s j (by simpa using hj)]
    simp only [List.getD, hb, Option.getD_some]

theorem byteR_size (b : UInt8) : (byteR b).size = 1 := by unfold byteR oneR; split <;> rfl
theorem word_sizes (l : List UInt8) : Re.sizes (l.map byteR) = l.length := by
  induction l with
  | nil => rfl
  | cons b l ih => simp only [List.map_cons, List.length_cons, sizes_cons, byteR_size, ih]; omega

set_option maxHeartbeats 1000000 in
theorem word_any (s : ByteArray) (X : Nat → Prop) (w : World) (hX : ∀ k, X k → k < w.heap.size) (hs : s.size ≤ 1000000) :
    Calls Tryz.prog 64 #[.string s] w (RetRe w X (wordR s.data.toList)) := by
  have HX := hid hX
  obtain ⟨c, w1, hconv, hb1, hz1, hcells⟩ := conv_bytes s w
  have HB1 := hid hb1
  have HC := hid hcells
  have hlen : s.data.toList.length = s.size := by simp
  have HLEN := hid hlen
  clear hX hb1 hcells hlen
  go_enter Tryz.func64, Tryz.ntmps64
  go_wp2_with fail
  clear hconv
  obtain ⟨l, hl⟩ : ∃ l, l = s.data.toList := ⟨_, rfl⟩
  have HL := hid hl
  rw [← hl] at HC HLEN
  clear hl
  go_loopw [3, 9] (fun v i wr => ∃ (k : Nat) (cs : List Nat), k ≤ s.size ∧ i = .int .i64 k ∧ Hid (OwnP wr w1.heap.size v cs) ∧ Hid (Els wr (Xo X v) ((l.take k).map byteR) cs) ∧ Hid (Below w1.heap.size w1 wr)) (fun _ i _ => s.size - (intOf i).toNat)
  case atStart => exact ⟨0, [], Nat.zero_le _, rfl, OwnP.nil _ _, by show Els _ _ _ _; simpa using Els.nil, Below.refl _ _⟩
  case round =>
    obtain ⟨k, cs, hk, rfl, hown, hels, hbel⟩ := hrel
    have hszr : w1.heap.size ≤ wr.heap.size := hbel.out.size
    by_cases hlt : k < s.size
    · obtain ⟨b, hb⟩ : ∃ b, l[k]? = some b := ⟨l[k]'(by rw [HLEN.out]; exact hlt), List.getElem?_eq_getElem _⟩
      have hc1 := (hbel.out.cell (p := ⟨w.heap.size, k, none⟩) hz1).trans (HC.out k b hb)
      have HSN : Hid (l.take (k + 1) = l.take k ++ [b]) := by
        obtain ⟨hl, e⟩ := List.getElem?_eq_some_iff.1 hb
        show _ = _
        rw [List.take_succ_eq_append_getElem hl, e]
      have HOF : Hid (∀ W, Calls Tryz.prog 83 #[.slice (some ⟨W.heap.size, 0, none⟩) 1 1] (W.alloc (.cells #[.int .u8 b.toNat] 5)) fun e w' => e = .returned (cv (CSet.ofList [b.toNat])) ∧ Below W.heap.size W w') := by
        intro W
        refine (setOf_any (some ⟨W.heap.size, 0, none⟩) 1 1 [b.toNat] _ (fun x hx => ?_) ⟨rfl, fun _ => ⟨W.heap.size, 0, rfl, by simp, fun j u hj => ?_⟩⟩ (by omega)).mono fun e w' h => ⟨h.1, ((Below.refl _ _).alloc (Nat.le_refl _) _).trans (h.2.mono (by simp))⟩
        · simp at hx; subst hx; exact b.toNat_lt
        · match j, hj with
          | 0, hj => simp at hj; subst hj; exact cell0_new _ _ _
      have hxl : ∀ k, Xo X u3 k → k < wr.heap.size := fun k hk => by
        rcases hk with hk | hk
        · have := HX.out k hk; omega
        · exact (hown.out.lt k hk).2
      have HON : Hid (∀ W, wr.heap.size ≤ W.heap.size → Calls Tryz.prog 70 #[cv (CSet.ofList [b.toNat])] W (RetRe W (Xo X u3) (byteR b))) := fun W h => one_any _ _ W (fun k hk => Nat.lt_of_lt_of_le (hxl k hk) h)
      have hbn : cs.length + [b].length ≤ 1099511627776 := by
        have := hels.out.1
        simp at this ⊢
        omega
      clear hb hxl
      generalize CSet.ofList [b.toNat] = u at HOF HON
      unfold cv at HOF HON
      go_wp2_with (first | (go_at_call 83; refine (HOF.out _).mono ?_; rintro e w2 ⟨rfl, hb2⟩; have HB2 := hid hb2; have hz2 : wr.heap.size ≤ w2.heap.size := hb2.size; clear hb2) | (go_at_call 70; refine (HON.out _ hz2).mono ?_; rintro e w3 ⟨bn, rfl, h3, hb3⟩; have H3 := hid h3; have HB3 := hid hb3; have hz3 : w1.heap.size ≤ w3.heap.size := Nat.le_trans hszr (Nat.le_trans hz2 hb3.size); clear h3 hb3; have HO3 := hid (OwnP.kept (OwnP.kept hown.out HB2.out) HB3.out); have HE3 := hid (Els.below (Els.below hels.out HB2.out) HB3.out); have HB13 := hid ((hbel.out.trans (HB2.out.mono hszr)).trans (HB3.out.mono (Nat.le_trans hszr hz2)))) | (at_builtin; refine wpList_app_ptr _ rfl (.tmp 13) (.tmp 18) rfl w1.heap.size _ cs rfl (HO3.out.alloc _) (some ⟨w3.heap.size, 0, none⟩) 1 1 [bn] rfl (Rd.one_new _ _ _) (fun h => by cases h) hbn (le_alloc hz3 _) ?_; intro v' w4 ho4 hg4 hat4; have HO4 := hid ho4; have HG4 := hid hg4; have HT4 := hid hat4; clear ho4 hg4 hat4))
      go_roundw
      case rel => exact ⟨k + 1, cs ++ [bn], by omega, by go_num, HO4.out, by show Els _ _ _ _; rw [HSN.out, List.map_append]; exact ((HE3.out.alloc _).append (Els.one H3.out |>.alloc _)).grown HG4.out HT4.out, below_app (HB13.out.alloc HB13.out.size _) (HO3.out.alloc _) HG4.out⟩
      case measure => simp [intOf]; omega
    · have hkn : k = s.size := by omega
      have HT : Hid (l.take k = l) := List.take_of_length_le (by rw [HLEN.out]; omega)
      have hown' := hown.out
      have hels' := hels.out
      rw [HT.out] at hels'
      obtain ⟨A1, c1, hv⟩ := hown'.form
      subst hv
      have hX1 : ∀ k, X k → k < w1.heap.size := fun k hk => by have := HX.out k hk; omega
      obtain ⟨hrw, -, -⟩ := hown'.row hels' hX1
      have HTH := hid (then_any A1 cs.length c1 _ cs X wr hrw (fun k hk => Nat.lt_of_lt_of_le (hX1 k hk) hszr) (by rw [word_sizes, HLEN.out]; omega))
      have HBB := hid ((HB1.out.trans (hbel.out.mono (Nat.le_of_lt hz1))))
      clear hown' hels' hrw hX1 hkn
      go_wp2_with (go_at_call 53; refine HTH.out.mono ?_; rintro e w5 hre; have HRE := hid hre; obtain ⟨bn, rfl, -⟩ := hre)
      go_ret
      have hfin := HRE.out.trans HBB.out
      rw [HL.out] at hfin
      exact hfin
end Go.Proofs.YtfpfloahkibcgaaGreatDoor

/- Plain: shapes. How they lie in memory. -/
namespace Go.Proofs.YtfpfloahkibcgaaGreatDoor
open Go.RowKit

inductive Shp
  | mk (op : Int) (low high : Nat) (text : ByteArray) (kids : List Shp)
namespace Shp
def op : Shp → Int | mk o _ _ _ _ => o
def low : Shp → Nat | mk _ l _ _ _ => l
def high : Shp → Nat | mk _ _ h _ _ => h
def text : Shp → ByteArray | mk _ _ _ t _ => t
def kids : Shp → List Shp | mk _ _ _ _ k => k
/-- Which one. -/
def code (s : Shp) : Nat := (s.op % 18446744073709551616).toNat % 9
def lo (s : Shp) : Nat := 97 + s.low % 4
def hi (s : Shp) : Nat := 97 + s.high % 4
mutual
def count : Shp → Nat → Nat
  | mk _ _ _ t ks, d => if 12 < d ∨ 20 < t.size then 1000 else countGo ks d 1
def countGo : List Shp → Nat → Nat → Nat
  | [], _, n => n
  | k :: l, d, n => if 1000 < n + count k (d + 1) then n + count k (d + 1) else countGo l d (n + count k (d + 1))
end
def few (s : Shp) : Bool := s.count 0 ≤ 30
/-- The expression of an op and of the kids' expressions. -/
def makeOf (c lo hi : Nat) (t : ByteArray) (rs : List Re) : Re :=
  match c with
  | 0 => .none
  | 1 => .eps
  | 2 => oneR (CSet.fromN lo (hi + 1 - lo))
  | 3 => thenL rs
  | 4 => anyL rs
  | 5 => manyR (rs.getD 0 .none)
  | 6 => bothL rs
  | 7 => butR (rs.getD 0 .none) (rs.getD 1 .none)
  | _ => wordR t.data.toList
mutual
def make : Shp → Re
  | mk o l h t ks => makeOf (mk o l h t []).code (mk o l h t []).lo (mk o l h t []).hi t (makes ks)
def makes : List Shp → List Re
  | [] => []
  | k :: l => make k :: makes l
end
mutual
/-- How many parts. -/
def parts : Shp → Nat
  | mk _ _ _ _ ks => 1 + partsL ks
def partsL : List Shp → Nat
  | [] => 0
  | k :: l => parts k + partsL l
end
mutual
/-- No long text. -/
def short : Shp → Prop
  | mk _ _ _ t ks => t.size ≤ 20 ∧ shorts ks
def shorts : List Shp → Prop
  | [] => True
  | k :: l => short k ∧ shorts l
end
theorem makes_eq (l : List Shp) : makes l = l.map make := by
  induction l with
  | nil => rfl
  | cons k l ih => simp [makes, ih]
theorem make_eq (s : Shp) : s.make = makeOf s.code s.lo s.hi s.text (s.kids.map make) := by
  cases s with
  | mk o l h t ks => rw [make, makes_eq]; rfl
theorem parts_eq (s : Shp) : s.parts = 1 + partsL s.kids := by cases s; rfl
theorem partsL_eq (l : List Shp) : partsL l = (l.map parts).sum := by
  induction l with
  | nil => rfl
  | cons k l ih => simp [partsL, ih]
theorem parts_pos (s : Shp) : 1 ≤ s.parts := by rw [parts_eq]; omega
theorem parts_mem {l : List Shp} {k : Shp} (h : k ∈ l) : k.parts ≤ partsL l := by
  induction l with
  | nil => cases h
  | cons x l ih =>
    rcases List.mem_cons.1 h with e | e
    · rw [e, partsL]; omega
    · have := ih e; rw [partsL]; omega
theorem len_partsL (l : List Shp) : l.length ≤ partsL l := by
  induction l with
  | nil => simp
  | cons k l ih => have := parts_pos k; simp [partsL]; omega
theorem short_eq (s : Shp) : s.short ↔ s.text.size ≤ 20 ∧ shorts s.kids := by cases s; exact Iff.rfl
theorem shorts_mem {l : List Shp} {k : Shp} (h : shorts l) (hk : k ∈ l) : k.short := by
  induction l with
  | nil => cases hk
  | cons x l ih =>
    rcases List.mem_cons.1 hk with e | e
    · rw [e]; exact h.1
    · exact ih h.2 e
/-- What the program's machine asks of the numbers. -/
def Wf (s : Shp) : Prop := (-9223372036854775808 ≤ s.op ∧ s.op < 9223372036854775808) ∧ s.low < 256 ∧ s.high < 256 ∧ s.text.size ≤ 9223372036854775807 ∧ s.kids.length ≤ 9223372036854775807
theorem count_eq (s : Shp) (d : Nat) : s.count d = if 12 < d ∨ 20 < s.text.size then 1000 else countGo s.kids d 1 := by cases s; rw [count]; rfl
mutual
theorem count_le : ∀ (s : Shp) (d : Nat), s.count d ≤ 1000 * (14 - d) + 1000
  | mk o l h t ks, d => by
    rw [count]
    split
    · omega
    · rename_i hd
      exact countGo_le ks d 1 (by omega) (by omega)
theorem countGo_le : ∀ (l : List Shp) (d n : Nat), d ≤ 12 → n ≤ 1000 → countGo l d n ≤ 1000 * (14 - d) + 1000
  | [], d, n, hd, hn => by rw [countGo]; omega
  | k :: l, d, n, hd, hn => by
    have h1 := count_le k (d + 1)
    rw [countGo]
    split
    · omega
    · exact countGo_le l d _ hd (by omega)
end
mutual
theorem count_small : ∀ (s : Shp) (d : Nat), s.count d < 1000 → s.parts = s.count d ∧ s.short
  | mk o l h t ks, d, hc => by
    rw [count] at hc ⊢
    split at hc
    · omega
    · rename_i hd
      rw [if_neg hd]
      have := countGo_small ks d 1 hc
      exact ⟨this.1.symm, by omega, this.2⟩
theorem countGo_small : ∀ (l : List Shp) (d n : Nat), countGo l d n < 1000 → countGo l d n = n + partsL l ∧ shorts l
  | [], d, n, h => by rw [countGo]; exact ⟨rfl, trivial⟩
  | k :: l, d, n, h => by
    rw [countGo] at h ⊢
    split at h
    · omega
    · rename_i hk
      rw [if_neg hk]
      have h2 := countGo_small l d _ h
      have h1 := count_small k (d + 1) (by omega)
      exact ⟨by rw [h2.1, partsL, h1.1]; omega, h1.2, h2.2⟩
end
theorem few_small {s : Shp} (h : s.few = true) : s.parts ≤ 30 ∧ s.short := by
  have h1 : s.count 0 ≤ 30 := of_decide_eq_true h
  have := count_small s 0 (by omega)
  exact ⟨by omega, this.2⟩
/-- One step of the loop. -/
theorem countGo_drop (l : List Shp) (d n k : Nat) (s : Shp) (h : l[k]? = some s) :
    countGo (l.drop k) d n = if 1000 < n + s.count (d + 1) then n + s.count (d + 1) else countGo (l.drop (k + 1)) d (n + s.count (d + 1)) := by
  obtain ⟨hl, e⟩ := List.getElem?_eq_some_iff.1 h
  rw [List.drop_eq_getElem_cons hl, e, countGo]
end Shp

abbrev Hd := Option Addr × Nat
/-- A shape's value. -/
abbrev Shp.val (s : Shp) (A : Option Addr) (c : Nat) : Value := .agg #[.int .i64 s.op, .int .u8 s.low, .int .u8 s.high, .string s.text, .slice A s.kids.length c]
def ShRow (w : World) (A : Option Addr) (ks : List Shp) (hs : List Hd) : Prop :=
  ks.length = hs.length ∧ (0 < ks.length → ∃ g o, A = some ⟨g, o, none⟩ ∧ g < w.heap.size ∧ ∀ (j : Nat) (k : Shp) (h : Hd), ks[j]? = some k → hs[j]? = some h →
    w.cell? ⟨g, o + j * 5, none⟩ = some (.int .i64 k.op) ∧ w.cell? ⟨g, o + j * 5 + 1, none⟩ = some (.int .u8 k.low) ∧ w.cell? ⟨g, o + j * 5 + 2, none⟩ = some (.int .u8 k.high) ∧
    w.cell? ⟨g, o + j * 5 + 3, none⟩ = some (.string k.text) ∧ w.cell? ⟨g, o + j * 5 + 4, none⟩ = some (.slice h.1 k.kids.length h.2))
inductive ShAt (w : World) : Shp → Hd → Prop
  | mk (s : Shp) (h : Hd) (hs : List Hd) (wf : s.Wf) (hc : CapOk s.kids.length h.1 h.2) (hr : ShRow w h.1 s.kids hs)
      (hks : ∀ (j : Nat) (k : Shp) (h' : Hd), s.kids[j]? = some k → hs[j]? = some h' → ShAt w k h') : ShAt w s h
/-- A slice of shapes. -/
def ShKids (w : World) (A : Option Addr) (ks : List Shp) : Prop := ∃ hs, ShRow w A ks hs ∧ ∀ (j : Nat) (k : Shp) (h' : Hd), ks[j]? = some k → hs[j]? = some h' → ShAt w k h'
theorem ShRow.below {w w' : World} {A : Option Addr} {ks : List Shp} {hs : List Hd} (h : ShRow w A ks hs) (hk : Below w.heap.size w w') : ShRow w' A ks hs := by
  refine ⟨h.1, fun hn => ?_⟩
  obtain ⟨g, o, e, hg, hc⟩ := h.2 hn
  refine ⟨g, o, e, Nat.lt_of_lt_of_le hg hk.size, fun j k h' h1 h2 => ?_⟩
  have hb := fun i => hk.cell (p := ⟨g, i, none⟩) hg
  rw [hb, hb, hb, hb, hb]
  exact hc j k h' h1 h2
theorem ShAt.under {w w' : World} {s : Shp} {h : Hd} (hs : ShAt w s h) (hk : Below w.heap.size w w') : ShAt w' s h := by
  induction hs with
  | mk s h hs wf hc hr hks ih => exact .mk s h hs wf hc (hr.below hk) ih
theorem ShKids.below {w w' : World} {A : Option Addr} {ks : List Shp} (h : ShKids w A ks) (hk : Below w.heap.size w w') : ShKids w' A ks := by
  obtain ⟨hs, h1, h2⟩ := h
  exact ⟨hs, h1.below hk, fun j k h' e1 e2 => (h2 j k h' e1 e2).under hk⟩
theorem ShAt.open_ {w : World} {s : Shp} {h : Hd} (hs : ShAt w s h) : s.Wf ∧ CapOk s.kids.length h.1 h.2 ∧ ShKids w h.1 s.kids := by
  match hs with
  | .mk _ _ hs wf hc hr hks => exact ⟨wf, hc, hs, hr, hks⟩
theorem ShKids.at_ {w : World} {A : Option Addr} {ks : List Shp} (h : ShKids w A ks) {k : Nat} (hk : k < ks.length) :
    ∃ (g o : Nat) (s : Shp) (B : Option Addr) (c : Nat), A = some ⟨g, o, none⟩ ∧ ks[k]? = some s ∧ g < w.heap.size ∧ ShAt w s (B, c) ∧
    w.cell? ⟨g, o + k * 5, none⟩ = some (.int .i64 s.op) ∧ w.cell? ⟨g, o + k * 5 + 1, none⟩ = some (.int .u8 s.low) ∧ w.cell? ⟨g, o + k * 5 + 2, none⟩ = some (.int .u8 s.high) ∧
    w.cell? ⟨g, o + k * 5 + 3, none⟩ = some (.string s.text) ∧ w.cell? ⟨g, o + k * 5 + 4, none⟩ = some (.slice B s.kids.length c) := by
  obtain ⟨hs, hr, hks⟩ := h
  obtain ⟨g, o, e, hg, hc⟩ := hr.2 (by omega)
  have h1 : ks[k]? = some ks[k] := List.getElem?_eq_getElem hk
  have h2 : hs[k]? = some (hs[k]'(by rw [← hr.1]; exact hk)) := List.getElem?_eq_getElem _
  exact ⟨g, o, _, _, _, e, h1, hg, hks k _ _ h1 h2, hc k _ _ h1 h2⟩
/-- The others of a slice. -/
theorem ShKids.drop {w : World} {A : Option Addr} {ks : List Shp} (h : ShKids w A ks) (g o : Nat) (e : A = some ⟨g, o, none⟩) (m : Nat) : ShKids w (some ⟨g, o + m * 5, none⟩) (ks.drop m) := by
  obtain ⟨hs, hr, hks⟩ := h
  refine ⟨hs.drop m, ⟨by simp [hr.1], fun hn => ?_⟩, fun j k h' h1 h2 => hks (m + j) k h' (by simpa using h1) (by simpa using h2)⟩
  obtain ⟨g', o', e', hg, hc⟩ := hr.2 (by simp at hn; omega)
  rw [e] at e'
  cases e'
  refine ⟨g, _, rfl, hg, fun j k h' h1 h2 => ?_⟩
  have := hc (m + j) k h' (by simpa using h1) (by simpa using h2)
  rw [show o + m * 5 + j * 5 = o + (m + j) * 5 by omega]
  exact this
end Go.Proofs.YtfpfloahkibcgaaGreatDoor

/- The walks of Shape's small methods. -/
namespace Go.Proofs.YtfpfloahkibcgaaGreatDoor
open Go.RowKit

theorem code_wrap (s : Shp) : wrap64 ((IntKind.u64.wrap s.op).tmod 9) = (s.code : Int) := by
  have h1 : IntKind.u64.wrap s.op = s.op % 18446744073709551616 := rfl
  have h2 : 0 ≤ s.op % 18446744073709551616 := Int.emod_nonneg _ (by decide)
  rw [h1, Int.tmod_eq_emod_of_nonneg h2]
  unfold Shp.code
  rw [IntWalk.wrap64_in _ (by omega)]
  omega
theorem code_lt (s : Shp) : s.code < 9 := Nat.mod_lt _ (by decide)

theorem shOp_any (s : Shp) (A : Option Addr) (c : Nat) (w : World) (hw : s.Wf) : Calls Tryz.prog 68 #[s.val A c] w fun e w' => e = .returned (.int .i64 s.code) ∧ Below w.heap.size w w' := by
  obtain ⟨⟨h1, h2⟩, -⟩ := hw
  go_enter Tryz.func68, Tryz.ntmps68
  go_wp2_with fail
  go_ret
  refine ⟨?_, (Below.refl _ _).alloc (Nat.le_refl _) _⟩
  show Ending.returned (Value.int IntKind.i64 (wrap64 ((IntKind.u64.wrap s.op).tmod 9))) = _
  rw [code_wrap]

theorem below_drewN (n : Nat) (w : World) (k : Nat) : Below n w (w.drewN k) := ⟨rfl, rfl, rfl, Nat.le_refl _, fun _ _ => rfl⟩
theorem and3_u8 (b : Nat) (hb : b < 256) : bits .and .u8 (b : Int) 3 = ((b % 4 : Nat) : Int) := by
  have h : ∀ b : Fin 256, bits .and .u8 (b.val : Int) 3 = ((b.val % 4 : Nat) : Int) := by decide +kernel
  exact h ⟨b, hb⟩
theorem shLow_any (s : Shp) (A : Option Addr) (c : Nat) (w : World) (hw : s.Wf) : Calls Tryz.prog 69 #[s.val A c] w fun e w' => e = .returned (.tuple #[.int .u8 s.lo, .int .u8 s.hi]) ∧ Below w.heap.size w w' := by
  obtain ⟨-, h1, h2, -⟩ := hw
  have HL := and3_u8 s.low h1
  have hx4 := Nat.mod_lt s.low (show 4 > 0 by decide)
  have hy4 := Nat.mod_lt s.high (show 4 > 0 by decide)
  have HH := and3_u8 s.high h2
  unfold Shp.lo Shp.hi Shp.val
  generalize s.low % 4 = x at HL hx4 ⊢
  generalize s.high % 4 = y at HH hy4 ⊢
  go_enter Tryz.func69, Tryz.ntmps69
  go_wp2_with fail
  go_quiet (fail)
  go_wp2_with fail
  refine bodyPost_ret (v := .tuple #[.int .u8 (97 + (x : Int)), .int .u8 (97 + (y : Int))]) (by simp [results, Tryz.results69, go_sem]) rfl ⟨rfl, Below.trans ((Below.refl _ _).alloc (Nat.le_refl _) _) (below_drewN _ _ _)⟩

mutual
theorem Shp.ind_ {P : Shp → Prop} (h : ∀ s : Shp, (∀ k ∈ s.kids, P k) → P s) : ∀ s : Shp, P s
  | .mk _ _ _ _ ks => h _ (Shp.inds_ h ks)
theorem Shp.inds_ {P : Shp → Prop} (h : ∀ s : Shp, (∀ k ∈ s.kids, P k) → P s) : ∀ l : List Shp, ∀ k ∈ l, P k
  | [], _, hk => by cases hk
  | s :: l, k, hk => by
    rcases List.mem_cons.1 hk with e | e
    · rw [e]; exact Shp.ind_ h s
    · exact Shp.inds_ h l k e
end

theorem count_any (s : Shp) : ∀ (A : Option Addr) (c d : Nat) (w : World), ShAt w s (A, c) → d ≤ 13 → Calls Tryz.prog 16 #[s.val A c, .int .i64 d] w fun e w' => e = .returned (.int .i64 (s.count d)) ∧ Below w.heap.size w w' := by
  induction s using Shp.ind_ with
  | h s ih =>
    intro A c d w hat hd
    obtain ⟨z, hz⟩ : ∃ z, z = s.count d := ⟨_, rfl⟩
    rw [← hz]
    have HZ := hid hz
    have HIH := hid ih
    obtain ⟨-, -, hkids⟩ := hat.open_
    have HK := hid hkids
    have hts : s.text.size ≤ 9223372036854775807 := hat.open_.1.2.2.2.1
    have hkl : s.kids.length ≤ 9223372036854775807 := hat.open_.1.2.2.2.2
    clear hz ih hat hkids
    unfold Shp.val
    obtain ⟨n, hn⟩ : ∃ n, n = s.kids.length := ⟨_, rfl⟩
    rw [← hn] at hkl ⊢
    have HN := hid hn
    clear hn
    go_enter Tryz.func16, Tryz.ntmps16
    by_cases h12 : 12 < d
    · go_wp2_with fail
      go_ret
      refine ⟨?_, (Below.refl _ _).alloc (Nat.le_refl _) _⟩
      rw [HZ.out, Shp.count_eq, if_pos (.inl h12)]
      rfl
    · by_cases h20 : 20 < s.text.size
      · go_wp2_with fail
        go_ret
        refine ⟨?_, (Below.refl _ _).alloc (Nat.le_refl _) _⟩
        rw [HZ.out, Shp.count_eq, if_pos (.inr h20)]
        rfl
      · have HZ' : Hid (z = Shp.countGo s.kids d 1) := by rw [HZ.out, Shp.count_eq, if_neg (by omega)]; rfl
        go_wp2_with fail
        obtain ⟨w1, hw1⟩ : ∃ w1 : World, w1 = w.alloc (.cells #[Value.int IntKind.i64 s.op, Value.int IntKind.u8 ↑s.low, Value.int IntKind.u8 ↑s.high, Value.string s.text, Value.slice A n c] 24) := ⟨_, rfl⟩
        rw [← hw1]
        have HB0 : Hid (Below w.heap.size w w1) := by rw [hw1]; exact (Below.refl _ _).alloc (Nat.le_refl _) _
        clear hw1
        go_loopw [5, 19] (fun m i wr => ∃ (k m' : Nat), k ≤ n ∧ m' ≤ 1000 ∧ m = .int .i64 m' ∧ i = .int .i64 k ∧ Hid (Shp.countGo (s.kids.drop k) d m' = z) ∧ Hid (Below w.heap.size w wr)) (fun _ i _ => n - (intOf i).toNat)
        case atStart => exact ⟨0, 1, Nat.zero_le _, by omega, rfl, rfl, by rw [HZ'.out]; rfl, HB0⟩
        case round =>
          obtain ⟨k, m, hk, hm, rfl, rfl, hco, hbel⟩ := hrel
          by_cases hlt : k < n
          · obtain ⟨g, o, x, B, cx, rfl, hx, hg, hatx, k0, k1, k2, k3, k4⟩ := HK.out.at_ (k := k) (by rw [← HN.out]; exact hlt)
            have hb := fun i => hbel.out.cell (p := ⟨g, i, none⟩) hg
            have c0 := (hb _).trans k0; have c1 := (hb _).trans k1; have c2 := (hb _).trans k2; have c3 := (hb _).trans k3; have c4 := (hb _).trans k4
            obtain ⟨q, hq⟩ : ∃ q, q = x.count (d + 1) := ⟨_, rfl⟩
            have hle := Shp.count_le x (d + 1)
            have HST := hid (hco.out.symm.trans (Shp.countGo_drop _ _ _ _ _ hx))
            have HC : Hid (∀ W, ShAt W x (B, cx) → Calls Tryz.prog 16 #[x.val B cx, .int .i64 ((d : Int) + 1)] W fun e w' => e = .returned (.int .i64 q) ∧ Below W.heap.size W w') := fun W hW => by
              have := HIH.out x (List.mem_of_getElem? hx) B cx (d + 1) W hW (by omega)
              rw [← hq] at this
              exact this
            rw [← hq] at HST hle
            have HW := hid (hatx.under hbel.out)
            unfold Shp.val at HC
            clear k0 k1 k2 k3 k4 hb hx hq hatx
            by_cases h1000 : 1000 < m + q
            · have HZ2 : Hid (z = m + q) := by rw [HST.out, if_pos h1000]; rfl
              go_wp2_with (go_at_call 16; refine (HC.out _ (HW.out.under (Below.alloc (Below.refl _ _) (Nat.le_refl _) _))).mono ?_; rintro e w' ⟨rfl, hb2⟩; have HB2 := hid hb2; clear hb2)
              go_ret
              refine ⟨?_, hbel.out.trans ((Below.alloc (Below.refl _ _) (Nat.le_refl _) _).trans (HB2.out.mono (by simp)) |>.mono hbel.out.size)⟩
              rw [HZ2.out]
              rfl
            · have HZ2 : Hid (Shp.countGo (s.kids.drop (k + 1)) d (m + q) = z) := by have := HST.out; rw [if_neg h1000] at this; exact this.symm
              go_wp2_with (go_at_call 16; refine (HC.out _ (HW.out.under (Below.alloc (Below.refl _ _) (Nat.le_refl _) _))).mono ?_; rintro e w' ⟨rfl, hb2⟩; have HB2 := hid hb2; clear hb2)
              go_roundw
              case rel =>
               exact ⟨k + 1, m + q, by omega, by omega, by go_num, by go_num, HZ2.out, hbel.out.trans ((Below.alloc (Below.refl _ _) (Nat.le_refl _) _).trans (HB2.out.mono (by simp)) |>.mono hbel.out.size)⟩
              case measure => simp [intOf]; omega
          · have HE : Hid (m = z) := by
              have := hco.out
              rw [List.drop_eq_nil_of_le (by rw [← HN.out]; omega), Shp.countGo] at this
              exact this
            go_wp2_with fail
            go_ret
            refine ⟨?_, hbel.out⟩
            rw [← HE.out]
            rfl

end Go.Proofs.YtfpfloahkibcgaaGreatDoor
