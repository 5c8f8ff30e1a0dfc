/- cmp.Compare of texts; slices.SortFunc at rows of expressions, by their keys. -/
import Derived.Test.YtihloigpdcinkaaDoorRows6
import Derived.Test.YtihloigpdcinkaaDoorOrd
import Derived.Shelf.SlSortCmp.NoneTotal
namespace Go.Proofs.YtihloigpdcinkaaDoor
open Go.RowKit

theorem isNaN_any (a : ByteArray) (w : World) : Calls Tryd.prog 90 #[.string a] w fun e w' => e = .returned (.bool false) ∧ w = w' := by
  go_enter Tryd.func90, Tryd.ntmps90
  go_wp2
  go_ret
  exact ⟨by simp, rfl⟩
theorem compare_any (a b : List UInt8) (w : World) : Calls Tryd.prog 80 #[.string ⟨a.toArray⟩, .string ⟨b.toArray⟩] w fun e w' => e = .returned (.int .i64 (cmpB a b)) ∧ w = w' := by
  have H := hid isNaN_any
  unfold cmpB
  cases h1 : Op.bytesLess a b with
  | true =>
    rw [if_pos rfl]
    go_enter Tryd.func80, Tryd.ntmps80
    go_wp2_with (go_at_call 90; refine (H.out _ _).mono ?_; rintro e w' ⟨rfl, rfl⟩)
    go_ret
    exact ⟨rfl, rfl⟩
  | false =>
    rw [if_neg (by simp)]
    cases h2 : Op.bytesLess b a with
    | true =>
      rw [if_pos rfl]
      have hne : (a == b) = false := by
        rw [beq_eq_false_iff_ne]
        rintro rfl
        rw [bl_irrefl] at h2; cases h2
      have hne' : ¬ a = b := by simpa using hne
      go_enter Tryd.func80, Tryd.ntmps80
      go_wp2_with (go_at_call 90; refine (H.out _ _).mono ?_; rintro e w' ⟨rfl, rfl⟩)
      go_ret
      exact ⟨rfl, rfl⟩
    | false =>
      rw [if_neg (by simp)]
      obtain rfl := bl_total _ _ h1 h2
      clear h2
      go_enter Tryd.func80, Tryd.ntmps80
      go_wp2_with (go_at_call 90; refine (H.out _ _).mono ?_; rintro e w' ⟨rfl, rfl⟩)
      go_ret
      exact ⟨rfl, rfl⟩

/-- unique's own comparison, in whatever world some draws on. -/
theorem cmpKeys_any (r s : Re) (X : Nat → Prop) (b c : Nat) (w : World) (h : ReAt w X r b) (h' : ReAt w X s c) : Calls Tryd.prog 79 #[ptr b, ptr c] w fun e w' => e = .returned (.int .i64 (cmpB r.key s.key)) ∧ ∃ q, w' = w.drewN q := by
  obtain ⟨A, cc, bs, hb, -, -⟩ := h.row
  obtain ⟨A', cc', bs', hb', -, -⟩ := h'.row
  obtain ⟨-, -, -, -, -, -, -, hk, -⟩ := cellsOf hb
  obtain ⟨-, -, -, -, -, -, -, hk', -⟩ := cellsOf hb'
  have HC := hid (fun W => (compare_any r.key s.key W).mono fun e w' (h : _ ∧ W = w') => (⟨h.1, h.2.symm⟩ : e = .returned (.int .i64 (cmpB r.key s.key)) ∧ w' = W))
  clear h h' hb hb'
  unfold ptr
  go_enter Tryd.func79, Tryd.ntmps79
  go_wp2_with fail
  go_quiet ((go_at_call 80; exact Calls.quiet_of_same (HC.out _)))
  go_wp2_with fail
  go_ret
  exact ⟨rfl, nq, rfl⟩

/-- Pointers to expressions of a world, as the sort's own elements. -/
abbrev El (w : World) (X : Nat → Prop) : Type := { x : Nat × Re // ReAt w X x.2 x.1 }
def encEl {w : World} {X : Nat → Prop} (x : El w X) : Value := ptr x.1.1
def cfEl {w : World} {X : Nat → Prop} (x y : El w X) : Int := cmpB x.1.2.key y.1.2.key
theorem ltEl {w : World} {X : Nat → Prop} (x y : El w X) : ltOf cfEl x y = lessR x.1.2 y.1.2 := cmpB_neg _ _
theorem swoEl (w : World) (X : Nat → Prop) : Sort.SWO (ltOf (cfEl (w := w) (X := X))) where
  irrefl x := by rw [ltEl]; exact lessR_swo.irrefl _
  trans x y z h1 h2 := by rw [ltEl] at *; exact lessR_swo.trans _ _ _ h1 h2
  ntrans x y z h1 h2 := by rw [ltEl] at *; exact lessR_swo.ntrans _ _ _ h1 h2

theorem sortWorld_heap {α : Type} [Inhabited α] (enc : α → Value) (w : World) (blk off m : Nat) (dk : Array α) (os : Array Obj) (k : Nat) (hk : k < w.heap.size) (hne : k ≠ blk) : (sortWorld enc w blk off m dk os).heap[k]? = w.heap[k]? := by
  show ((Sort.putRow enc (Sort.ahead w m) blk off dk).heap ++ os)[k]? = _
  have hs : (Sort.putRow enc (Sort.ahead w m) blk off dk).heap.size = w.heap.size := Sort.size_putRow _ _ _ _ _
  rw [Array.getElem?_append_left (by omega)]
  simp only [Sort.putRow, Sort.mapBlock, Array.getElem?_modify, Sort.heap_ahead]
  rw [if_neg (fun e => hne e.symm)]
theorem sortWorld_keeps {α : Type} [Inhabited α] (enc : α → Value) (w : World) (blk off m : Nat) (dk : Array α) (os : Array Obj) : Keeps (fun k => k = blk) w (sortWorld enc w blk off m dk os) :=
  ⟨by show w.heap.size ≤ ((Sort.putRow enc (Sort.ahead w m) blk off dk).heap ++ os).size; rw [Array.size_append]; have : (Sort.putRow enc (Sort.ahead w m) blk off dk).heap.size = w.heap.size := Sort.size_putRow _ _ _ _ _; omega,
   fun k hk hne => sortWorld_heap enc w blk off m dk os k hk hne⟩
theorem sortWorld_row {α : Type} [Inhabited α] (enc : α → Value) (w : World) (blk off m : Nat) (dk : Array α) (os : Array Obj) (cur : Array Value) (e : TypeId) (f : Nat × Nat) (h : w.heap[blk]? = some (.cells cur e f)) :
    (sortWorld enc w blk off m dk os).heap[blk]? = some (.cells (Sort.putCells enc off dk cur) e f) := by
  show ((Sort.putRow enc (Sort.ahead w m) blk off dk).heap ++ os)[blk]? = _
  have hs : (Sort.putRow enc (Sort.ahead w m) blk off dk).heap.size = w.heap.size := Sort.size_putRow _ _ _ _ _
  have hb := lt_of_heap h
  rw [Array.getElem?_append_left (by omega)]
  simp only [Sort.putRow, Sort.mapBlock, Array.getElem?_modify, Sort.heap_ahead, h, if_true, Option.map_some, Sort.onCells]
theorem sortWorld_grown {α : Type} [Inhabited α] (enc : α → Value) (w : World) (blk off m : Nat) (dk : Array α) (os : Array Obj) : w.grownBy (sortWorld enc w blk off m dk os) (some blk) :=
  ⟨rfl, rfl, rfl, (sortWorld_keeps enc w blk off m dk os).1, fun k hk hne => (sortWorld_keeps enc w blk off m dk os).2 k hk (fun e => hne (by rw [e]))⟩

theorem els_list {w : World} {X : Nat → Prop} : ∀ (rs : List Re) (bs : List Nat), Els w X rs bs → ∃ d : List (El w X), d.map (·.1.1) = bs ∧ d.map (·.1.2) = rs
  | [], [], _ => ⟨[], rfl, rfl⟩
  | [], _ :: _, h => by have := h.1; simp at this
  | _ :: _, [], h => by have := h.1; simp at this
  | r :: rs, b :: bs, h => by
    have h1 : ReAt w X r b := h.2 0 r b rfl rfl
    obtain ⟨d, e1, e2⟩ := els_list rs bs ⟨by have := h.1; simpa using this, fun i r' b' h1 h2 => h.2 (i + 1) r' b' (by simpa using h1) (by simpa using h2)⟩
    exact ⟨⟨(b, r), h1⟩ :: d, by simp [e1], by simp [e2]⟩
theorem list_els {w w' : World} {X : Nat → Prop} (hk : ∀ r b, ReAt w X r b → ReAt w' X r b) (d : List (El w X)) : Els w' X (d.map (·.1.2)) (d.map (·.1.1)) := by
  refine ⟨by simp, fun i r b h1 h2 => ?_⟩
  rw [List.getElem?_map] at h1 h2
  cases hd : d[i]? with
  | none => rw [hd] at h1; cases h1
  | some x => rw [hd] at h1 h2; cases h1; cases h2; exact hk _ _ x.2

/-- WHAT SORTING A ROW COMES TO. -/
def RetSort (w : World) (X : Nat → Prop) (base : Nat) (v : Value) (rs : List Re) (e : Ending) (w' : World) : Prop :=
  e = .returned (.tuple #[]) ∧ ∃ rs' bs', OwnP w' base v bs' ∧ Els w' (Xo X v) rs' bs' ∧ rs'.Perm rs ∧ rs'.Pairwise (fun a b => lessR b a = false) ∧ w.grownBy w' v.ownBlock

theorem sortFunc_any (base : Nat) (v : Value) (rs : List Re) (bs : List Nat) (X : Nat → Prop) (w : World) (hown : OwnP w base v bs) (hels : Els w (Xo X v) rs bs) (hn : bs.length ≤ 1099511627776) :
    Calls Tryd.prog 78 #[v, .func (.func 79) #[] #[]] w (RetSort w X base v rs) := by
  obtain ⟨d, e1, e2⟩ := els_list rs bs hels
  cases d with
  | nil =>
    simp at e1 e2
    subst e1; subst e2
    obtain ⟨A, c, rfl⟩ := hown.form
    have := AnyF.slices_SortFunc_none { Tryd.sortL with } A c (.func (.func 79) #[] #[]) w
    refine this.mono fun e w' ⟨h1, h2⟩ => ?_
    rw [h2]
    exact ⟨h1, [], [], hown, hels, List.Perm.refl _, List.Pairwise.nil, World.grownBy.refl w _⟩
  | cons x d0 =>
    haveI : Inhabited (El w (Xo X v)) := ⟨x⟩
    generalize hd : x :: d0 = d at e1 e2
    have hpos : 0 < bs.length := by rw [← e1, ← hd]; simp
    obtain ⟨g, cap, cur, hv, hb, hh, hnc, hm, hs, ht⟩ : ∃ g cap cur, v = .slice (some ⟨g, 0, none⟩) bs.length cap ∧ base ≤ g ∧ w.heap[g]? = some (.cells cur 27 (0, 0)) ∧ bs.length ≤ cap ∧ cap ≤ maxLen ∧ cur.size = cap * 1 ∧ cur.toList.take (bs.length * 1) = bs.map ptr := by
      rcases hown.2 with ⟨_, h⟩ | h
      · omega
      · exact h
    have hsz : d.toArray.size = bs.length := by rw [← e1]; simp
    have hH : Sort.Holds encEl w g 0 d.toArray := by
      intro j hj
      have hj' : j < d.length := by simpa using hj
      refine ⟨?_, blk_free hh _⟩
      rw [blk_cell hh (0 + j), Nat.zero_add, getElem!_pos d.toArray j hj]
      have : (bs.map ptr)[j]? = some (encEl d[j]) := by rw [← e1, List.map_map, List.getElem?_map, List.getElem?_eq_getElem hj']; rfl
      rw [← ht, Nat.mul_one, List.getElem?_take, if_pos (by omega), Array.getElem?_toList] at this
      simpa using this
    have hcmp : CmpLays1 Tryd.prog 79 #[] (encEl (w := w) (X := Xo X v)) (cfEl (w := w) (X := Xo X v)) g 0 d.toArray.size w := by
      refine CmpReads.lays (fun m os dk _ x y => ?_)
      have hk : ∀ r b, ReAt w (Xo X v) r b → ReAt (sortWorld (encEl (w := w) (X := Xo X v)) w g 0 m dk os) (Xo X v) r b := fun r b h => h.keep (sortWorld_keeps encEl w g 0 m dk os) (fun k hk => .inr (by rw [hk, hv]; rfl))
      exact cmpKeys_any x.1.2 y.1.2 _ _ _ _ (hk _ _ x.2) (hk _ _ y.2)
    have hcon := Any.slices_SortFunc Tryd.sortL (encEl (w := w) (X := Xo X v)) (fun _ => rfl) (cfEl (w := w) (X := Xo X v)) (swoEl w (Xo X v)) 79 #[] g 0 cap d.toArray w (enters_of Tryd.func79 (by kernel_rfl) rfl) hcmp hH (lt_of_heap hh) (by omega)
    rw [hsz] at hcon
    rw [hv]
    refine Calls.mono hcon fun e w' ⟨h1, d', n, os, hp, hst, hw⟩ => ?_
    subst hw
    have hk : ∀ r b, ReAt w (Xo X v) r b → ReAt (sortWorld (encEl (w := w) (X := Xo X v)) w g 0 n d' os) (Xo X v) r b := fun r b h => h.keep (sortWorld_keeps encEl w g 0 n d' os) (fun k hk => .inr (by rw [hk, hv]; rfl))
    have hds : d'.size = bs.length := by rw [hp.1, hsz]
    have hperm : d'.toList.Perm d := by
      have := hp.2.2
      rw [show d'.extract 0 bs.length = d' by rw [← hds]; simp, show d.toArray.extract 0 bs.length = d.toArray by rw [← hsz]; simp] at this
      simpa using this
    refine ⟨h1, d'.toList.map (·.1.2), d'.toList.map (·.1.1), ?_, ?_, ?_, ?_, ?_⟩
    · refine ⟨by simp, .inr ⟨g, cap, Sort.putCells (encEl (w := w) (X := Xo X v)) 0 d' cur, by simp [hds], hb, sortWorld_row _ _ _ _ _ _ _ _ _ _ hh, by simp [hds]; exact hnc, hm, by simp [Sort.putCells, hs], ?_⟩⟩
      simp only [List.length_map, Array.length_toList, hds, Nat.mul_one]
      apply List.ext_getElem?
      intro j
      rw [List.getElem?_take]
      by_cases hj : j < bs.length
      · have hjd : j < d'.size := by omega
        have hjc : j < cur.size := by omega
        rw [if_pos hj, Array.getElem?_toList, List.map_map, List.getElem?_map, Array.getElem?_toList, Array.getElem?_eq_getElem hjd]
        simp only [Sort.putCells, Array.getElem?_mapIdx, Array.getElem?_eq_getElem hjc, Option.map_some, Nat.zero_le, true_and, Nat.zero_add, if_pos hjd, Nat.sub_zero]
        rw [getElem!_pos d' j hjd]
        rfl
      · rw [if_neg hj, List.getElem?_eq_none (by simp; omega)]
    · rw [← hv]; exact list_els hk _
    · rw [← e2]; exact hperm.map _
    · rw [List.pairwise_map, List.pairwise_iff_getElem]
      intro i j hi hj hij
      have h3 := hst i j (Nat.zero_le _) hij (by simpa [hds, hsz] using hj)
      have hi' : i < d'.size := by simpa using hi
      have hj' : j < d'.size := by simpa using hj
      rw [getElem!_pos d' i hi', getElem!_pos d' j hj', ltEl] at h3
      simpa using h3
    · exact sortWorld_grown _ _ _ _ _ _ _
end Go.Proofs.YtihloigpdcinkaaDoor
