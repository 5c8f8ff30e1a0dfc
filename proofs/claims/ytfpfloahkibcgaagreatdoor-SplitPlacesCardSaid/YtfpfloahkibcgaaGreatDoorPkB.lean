/- PkB: Heap, Apps, Fmt, SetEach, Sets, SetMore, SetOf, each with its own sentence. -/
import Derived.Test.YtfpfloahkibcgaaGreatDoorPkA
import Derived.Test.YtfpfloahkibcgaaGreatDoorRows
import Derived.WalkKit
import Derived.WalkSpells
import Derived.WalkLawsBesides
import Derived.Maps.AppendAt
import Derived.Deep.AppendLies
import Derived.Deep.RegionWith
import Derived.Deep.RegionLaw
import Derived.Deep.QuietTactic
import Derived.BigQuiet
import Derived.Deep.LoopGhost
import Derived.LoopN
import Derived.IntWalk
import Derived.Deep.Draws
import Derived.Shelf.Abstract
import Derived.Laws.AppendOwnNone
/- How expressions lie in memory: the words that the contracts use. -/
namespace Go.Proofs.YtfpfloahkibcgaaGreatDoor
open Go.RowKit

theorem hid {p : Prop} (h : p) : Hid p := h
/-- A pointer to the head of block b. -/
abbrev ptr (b : Nat) : Value := .pointer (some ⟨b, 0, none⟩)

/-- The slice value '.slice A n c' holds the cells xs: nothing is asked of A where there is none. -/
def Rd (w : World) (A : Option Addr) (n : Nat) (xs : List Value) : Prop :=
  xs.length = n ∧ (0 < n → ∃ g o, A = some ⟨g, o, none⟩ ∧ g < w.heap.size ∧ ∀ j u, xs[j]? = some u → w.cell? ⟨g, o + j, none⟩ = some u)

theorem lt_of_heap {w : World} {b : Nat} {o : Obj} (h : w.heap[b]? = some o) : b < w.heap.size := by
  rcases Nat.lt_or_ge b w.heap.size with hlt | hge
  · exact hlt
  · rw [Array.getElem?_eq_none hge] at h; cases h

/-- Blocks over a store, a new block. -/
theorem blk_set {w : World} {g : Nat} {cs : Array Value} {t : TypeId} {f : Nat × Nat} (h : w.heap[g]? = some (.cells cs t f)) (i : Nat) (u : Value) :
    (w.setCell ⟨g, i, none⟩ u).heap[g]? = some (.cells (cs.setIfInBounds i u) t f) := by simp [World.setCell, Array.getElem?_modify, h]
theorem blk_far {w : World} {g : Nat} {o : Obj} (h : w.heap[g]? = some o) (p : Addr) (u : Value) (hp : g ≠ p.block) : (w.setCell p u).heap[g]? = some o := (Below.heap_setCell w p u g hp).trans h
theorem blk_alloc {w : World} {g : Nat} {o : Obj} (h : w.heap[g]? = some o) (o' : Obj) : (w.alloc o').heap[g]? = some o := (Below.heap_alloc w o' g (lt_of_heap h)).trans h
theorem blk_new (w : World) (o : Obj) : (w.alloc o).heap[w.heap.size]? = some o := heap_alloc_new w o
theorem blk_below {w w' : World} {g : Nat} {o : Obj} (h : w.heap[g]? = some o) (hb : Below w.heap.size w w') : w'.heap[g]? = some o := (hb.block g (lt_of_heap h)).trans h
theorem blk_cell {w : World} {g : Nat} {cs : Array Value} {t : TypeId} {f : Nat × Nat} (h : w.heap[g]? = some (.cells cs t f)) (i : Nat) : w.cell? ⟨g, i, none⟩ = cs[i]? := cell_of_row w g i cs t f h
theorem blk_free {w : World} {g : Nat} {cs : Array Value} {t : TypeId} (h : w.heap[g]? = some (.cells cs t (0, 0))) (i : Nat) : w.frozen? ⟨g, i, none⟩ = false := by simp [World.frozen?, h]
theorem size_setCell (w : World) (p : Addr) (u : Value) : (w.setCell p u).heap.size = w.heap.size := by simp [World.setCell]

/-- What the walk takes out of 'Below': cells and marks of old blocks. -/
theorem bcell {W w1 : World} (hb : Below W.heap.size W w1) : (∀ b o, b < W.heap.size → w1.cell? ⟨b, o, none⟩ = W.cell? ⟨b, o, none⟩) ∧ (∀ b o, b < W.heap.size → w1.frozen? ⟨b, o, none⟩ = W.frozen? ⟨b, o, none⟩) :=
  ⟨fun b o h => hb.cell (p := ⟨b, o, none⟩) h, fun b o h => hb.frozen (p := ⟨b, o, none⟩) h⟩

theorem set4 {w : World} {g : Nat} {T : TypeId} {v0 v1 v2 v3 : Value} (h : w.heap[g]? = some (.cells #[v0, v1, v2, v3] T (0, 0))) (x0 x1 x2 x3 : Value) :
    let W := (((w.setCell ⟨g, 0, none⟩ x0).setCell ⟨g, 1, none⟩ x1).setCell ⟨g, 2, none⟩ x2).setCell ⟨g, 3, none⟩ x3
    W.cell? ⟨g, 0, none⟩ = some x0 ∧ W.cell? ⟨g, 1, none⟩ = some x1 ∧ W.cell? ⟨g, 2, none⟩ = some x2 ∧ W.cell? ⟨g, 3, none⟩ = some x3 := by
  have hW := blk_set (blk_set (blk_set (blk_set h 0 x0) 1 x1) 2 x2) 3 x3
  exact ⟨(blk_cell hW 0).trans (by simp), (blk_cell hW 1).trans (by simp), (blk_cell hW 2).trans (by simp), (blk_cell hW 3).trans (by simp)⟩
theorem below4 {w0 w : World} {g : Nat} (h : Below w0.heap.size w0 w) (hg : w0.heap.size ≤ g) (x0 x1 x2 x3 : Value) :
    Below w0.heap.size w0 ((((w.setCell ⟨g, 0, none⟩ x0).setCell ⟨g, 1, none⟩ x1).setCell ⟨g, 2, none⟩ x2).setCell ⟨g, 3, none⟩ x3) :=
  (((h.setCell (p := ⟨g, 0, none⟩) hg _).setCell (p := ⟨g, 1, none⟩) hg _).setCell (p := ⟨g, 2, none⟩) hg _).setCell (p := ⟨g, 3, none⟩) hg _

theorem cell0_new (w : World) (x : Value) (T : TypeId) : (w.alloc (.cells #[x] T)).cell? ⟨w.heap.size, 0, none⟩ = some x := (blk_cell (blk_new w _) 0).trans (by simp)
theorem le_alloc {n : Nat} {w : World} (h : n ≤ w.heap.size) (o : Obj) : n ≤ (w.alloc o).heap.size := by simp; omega

theorem Rd.nil {w : World} {A : Option Addr} : Rd w A 0 [] := ⟨rfl, fun h => absurd h (by omega)⟩
/-- Blocks below the heap's size, but those of X, are as they were. -/
def Keeps (X : Nat → Prop) (w w' : World) : Prop := w.heap.size ≤ w'.heap.size ∧ ∀ k, k < w.heap.size → ¬ X k → w'.heap[k]? = w.heap[k]?
theorem Keeps.refl (X : Nat → Prop) (w : World) : Keeps X w w := ⟨Nat.le_refl _, fun _ _ _ => rfl⟩
theorem Keeps.trans {X : Nat → Prop} {a b c : World} (h : Keeps X a b) (k : Keeps X b c) : Keeps X a c :=
  ⟨Nat.le_trans h.1 k.1, fun i hi hx => (k.2 i (Nat.lt_of_lt_of_le hi h.1) hx).trans (h.2 i hi hx)⟩
theorem Keeps.of_below {X : Nat → Prop} {w w' : World} (h : Below w.heap.size w w') : Keeps X w w' := ⟨h.size, fun k hk _ => h.block k hk⟩
theorem Keeps.of_grown {X : Nat → Prop} {w w' : World} {row : Option Nat} (h : w.grownBy w' row) (hx : ∀ k, row = some k → X k) : Keeps X w w' :=
  ⟨h.size, fun k hk hne => h.block k hk fun e => hne (hx k e.symm)⟩
theorem Keeps.mono {X Y : Nat → Prop} {w w' : World} (h : Keeps X w w') (hxy : ∀ k, k < w.heap.size → X k → Y k) : Keeps Y w w' := ⟨h.1, fun k hk hy => h.2 k hk fun hx => hy (hxy k hk hx)⟩
theorem Keeps.set_ {X : Nat → Prop} (w : World) (p : Addr) (u : Value) (h : X p.block) : Keeps X w (w.setCell p u) :=
  ⟨by simp [World.setCell], fun k _ hne => Below.heap_setCell _ _ _ _ (fun e => hne (e ▸ h))⟩
theorem Keeps.alloc (X : Nat → Prop) (w : World) (o : Obj) : Keeps X w (w.alloc o) := ⟨by simp, fun k hk _ => Below.heap_alloc _ _ _ hk⟩

theorem Rd.keep {X : Nat → Prop} {w w' : World} {A : Option Addr} {n : Nat} {xs : List Value} (h : Rd w A n xs) (hA : ∀ a, 0 < n → A = some a → ¬ X a.block) (hk : Keeps X w w') : Rd w' A n xs :=
  ⟨h.1, fun hn => by
    obtain ⟨g, o, rfl, hg, hc⟩ := h.2 hn
    refine ⟨g, o, rfl, Nat.lt_of_lt_of_le hg hk.1, fun j u hu => ?_⟩
    rw [World.cell?_of_block (w := w) (a := ⟨g, o + j, none⟩) (hk.2 g hg (hA _ hn rfl))]
    exact hc j u hu⟩
theorem Rd.below {w w' : World} {A : Option Addr} {n : Nat} {xs : List Value} (h : Rd w A n xs) (hk : Below w.heap.size w w') : Rd w' A n xs :=
  h.keep (X := fun _ => False) (fun _ _ _ => id) (Keeps.of_below hk)

/-- The cells of an expression's block: kids in the slice '.slice A n c'. -/
def reCells (r : Re) (A : Option Addr) (c : Nat) : Array Value :=
  #[.int .i64 r.op, .int .u64 r.set.a.toNat, .int .u64 r.set.b.toNat, .int .u64 r.set.c.toNat, .int .u64 r.set.d.toNat, .slice A r.kids.length c, .bool r.null, .string ⟨r.key.toArray⟩, .int .i64 r.size]

/-- A capacity that fits. -/
def CapOk (n : Nat) (A : Option Addr) (c : Nat) : Prop := n ≤ c ∧ (A = none → c = 0)
/-- BLOCK b HOLDS THE EXPRESSION r, and none of the blocks that it leads to is one of X. -/
inductive ReAt (w : World) (X : Nat → Prop) : Re → Nat → Prop
  | mk (r : Re) (b : Nat) (A : Option Addr) (c : Nat) (bs : List Nat) (hX : ¬ X b)
      (hb : w.heap[b]? = some (.cells (reCells r A c) 130 (0, 0)))
      (hc : CapOk r.kids.length A c)
      (hA : Rd w A r.kids.length (bs.map ptr)) (hAX : ∀ a, 0 < r.kids.length → A = some a → ¬ X a.block)
      (hks : ∀ (i : Nat) (k : Re) (b' : Nat), r.kids[i]? = some k → bs[i]? = some b' → ReAt w X k b') : ReAt w X r b

theorem ReAt.lt {w : World} {X : Nat → Prop} {r : Re} {b : Nat} (h : ReAt w X r b) : b < w.heap.size := by
  match h with
  | .mk _ _ _ _ _ _ hb _ _ _ _ => exact lt_of_heap hb

theorem ReAt.keep {w w' : World} {X Y : Nat → Prop} {r : Re} {b : Nat} (h : ReAt w X r b) (hk : Keeps Y w w') (hYX : ∀ k, Y k → X k) : ReAt w' X r b := by
  induction h with
  | mk r b A c bs hX hb hc hA hAX hks ih =>
    exact ReAt.mk r b A c bs hX ((hk.2 b (lt_of_heap hb) fun h => hX (hYX b h)).trans hb) hc (hA.keep (fun a ha h => fun hy => hAX a ha h (hYX _ hy)) hk) hAX ih
theorem ReAt.under {w w' : World} {X : Nat → Prop} {r : Re} {b : Nat} (h : ReAt w X r b) (hk : Below w.heap.size w w') : ReAt w' X r b :=
  h.keep (Y := fun _ => False) (Keeps.of_below hk) (fun _ h => h.elim)
/-- Blocks that are not yet there, and blocks that are forbidden anyway. -/
theorem ReAt.also {w : World} {X Y : Nat → Prop} {r : Re} {b : Nat} (h : ReAt w X r b) (hY : ∀ k, Y k → k < w.heap.size → X k) : ReAt w Y r b := by
  induction h with
  | mk r b A c bs hX hb hc hA hAX hks ih =>
    refine ReAt.mk r b A c bs (fun h => hX (hY _ h (lt_of_heap hb))) hb hc hA (fun a ha e h => ?_) ih
    obtain ⟨g, o, e', hg, _⟩ := hA.2 ha
    rw [e] at e'
    cases e'
    exact hAX _ ha e (hY _ h hg)

/-- What a walk reads of an expression. -/
theorem ReAt.cells {w : World} {X : Nat → Prop} {r : Re} {b : Nat} (h : ReAt w X r b) : ∃ (A : Option Addr) (c : Nat) (bs : List Nat), w.heap[b]? = some (.cells (reCells r A c) 130 (0, 0)) ∧ CapOk r.kids.length A c ∧ Rd w A r.kids.length (bs.map ptr) ∧
    (∀ a, 0 < r.kids.length → A = some a → ¬ X a.block) ∧ ∀ (i : Nat) (k : Re) (b' : Nat), r.kids[i]? = some k → bs[i]? = some b' → ReAt w X k b' := by
  match h with
  | .mk _ _ A c bs _ hb hc hA hAX hks => exact ⟨A, c, bs, hb, hc, hA, hAX, hks⟩

/-- Expressions at the heads of blocks, one each. -/
def Els (w : World) (X : Nat → Prop) (rs : List Re) (bs : List Nat) : Prop := rs.length = bs.length ∧ ∀ (i : Nat) (r : Re) (b : Nat), rs[i]? = some r → bs[i]? = some b → ReAt w X r b
theorem Els.nil {w : World} {X : Nat → Prop} : Els w X [] [] := ⟨rfl, fun i r b h => by simp at h⟩
theorem Els.keep {w w' : World} {X Y : Nat → Prop} {rs : List Re} {bs : List Nat} (h : Els w X rs bs) (hk : Keeps Y w w') (hYX : ∀ k, Y k → X k) : Els w' X rs bs := ⟨h.1, fun i r b h1 h2 => (h.2 i r b h1 h2).keep hk hYX⟩
theorem Els.below {w w' : World} {X : Nat → Prop} {rs : List Re} {bs : List Nat} (h : Els w X rs bs) (hk : Below w.heap.size w w') : Els w' X rs bs := ⟨h.1, fun i r b h1 h2 => (h.2 i r b h1 h2).under hk⟩
theorem Els.also {w : World} {X Y : Nat → Prop} {rs : List Re} {bs : List Nat} (h : Els w X rs bs) (hY : ∀ k, Y k → k < w.heap.size → X k) : Els w Y rs bs := ⟨h.1, fun i r b h1 h2 => (h.2 i r b h1 h2).also hY⟩
theorem Els.append {w : World} {X : Nat → Prop} {rs rs' : List Re} {bs bs' : List Nat} (h : Els w X rs bs) (h' : Els w X rs' bs') : Els w X (rs ++ rs') (bs ++ bs') := by
  refine ⟨by simp [h.1, h'.1], fun i r b h1 h2 => ?_⟩
  by_cases hi : i < rs.length
  · rw [List.getElem?_append_left hi] at h1
    rw [List.getElem?_append_left (by rw [← h.1]; exact hi)] at h2
    exact h.2 i r b h1 h2
  · rw [List.getElem?_append_right (by omega)] at h1
    rw [List.getElem?_append_right (by rw [← h.1]; omega), ← h.1] at h2
    exact h'.2 _ r b h1 h2
theorem Els.one {w : World} {X : Nat → Prop} {r : Re} {b : Nat} (h : ReAt w X r b) : Els w X [r] [b] := by
  refine ⟨rfl, fun i r' b' h1 h2 => ?_⟩
  match i, h1, h2 with
  | 0, h1, h2 => simp at h1 h2; subst h1; subst h2; exact h

/-- The slice of an argument: its cells are pointers to expressions; its own row is not one of X. -/
def ReRow (w : World) (X : Nat → Prop) (A : Option Addr) (n : Nat) (rs : List Re) (bs : List Nat) : Prop :=
  Rd w A n (bs.map ptr) ∧ Els w X rs bs ∧ ∀ a, 0 < n → A = some a → ¬ X a.block
theorem ReRow.below {w w' : World} {X : Nat → Prop} {A : Option Addr} {n : Nat} {rs : List Re} {bs : List Nat} (h : ReRow w X A n rs bs) (hk : Below w.heap.size w w') : ReRow w' X A n rs bs := ⟨h.1.below hk, h.2.1.below hk, h.2.2⟩
theorem ReRow.keep {w w' : World} {X Y : Nat → Prop} {A : Option Addr} {n : Nat} {rs : List Re} {bs : List Nat} (h : ReRow w X A n rs bs) (hk : Keeps Y w w') (hYX : ∀ k, Y k → X k) : ReRow w' X A n rs bs :=
  ⟨h.1.keep (fun a ha e hy => h.2.2 a ha e (hYX _ hy)) hk, h.2.1.keep hk hYX, h.2.2⟩
theorem ReRow.also {w : World} {X Y : Nat → Prop} {A : Option Addr} {n : Nat} {rs : List Re} {bs : List Nat} (h : ReRow w X A n rs bs) (hY : ∀ k, Y k → k < w.heap.size → X k) : ReRow w Y A n rs bs := by
  refine ⟨h.1, h.2.1.also hY, fun a ha e hy => ?_⟩
  obtain ⟨g, o, e', hg, _⟩ := h.1.2 ha
  rw [e] at e'
  cases e'
  exact h.2.2 _ ha e (hY _ hy hg)
theorem ReRow.length {w : World} {X : Nat → Prop} {A : Option Addr} {n : Nat} {rs : List Re} {bs : List Nat} (h : ReRow w X A n rs bs) : rs.length = n ∧ bs.length = n := by
  have h1 := h.1.1; have h2 := h.2.1.1
  simp at h1; omega
/-- An element of such a slice. -/
theorem ReRow.at_ {w : World} {X : Nat → Prop} {A : Option Addr} {n : Nat} {rs : List Re} {bs : List Nat} (h : ReRow w X A n rs bs) {k : Nat} (hk : k < n) :
    ∃ g o r b, A = some ⟨g, o, none⟩ ∧ w.cell? ⟨g, o + k, none⟩ = some (ptr b) ∧ rs[k]? = some r ∧ bs[k]? = some b ∧ ReAt w X r b ∧ g < w.heap.size := by
  obtain ⟨g, o, e, hg, hc⟩ := h.1.2 (by omega)
  obtain ⟨h1, h2⟩ := h.length
  have hr : rs[k]? = some rs[k] := List.getElem?_eq_getElem (by omega)
  have hb : bs[k]? = some bs[k] := List.getElem?_eq_getElem (by omega)
  exact ⟨g, o, _, _, e, hc k _ (by rw [List.getElem?_map, hb]; rfl), hr, hb, h.2.1.2 k _ _ hr hb, hg⟩

/-- The kids of an expression, as a slice. -/
theorem ReAt.row {w : World} {X : Nat → Prop} {r : Re} {b : Nat} (h : ReAt w X r b) : ∃ (A : Option Addr) (c : Nat) (bs : List Nat), w.heap[b]? = some (.cells (reCells r A c) 130 (0, 0)) ∧ CapOk r.kids.length A c ∧ ReRow w X A r.kids.length r.kids bs := by
  obtain ⟨A, c, bs, h1, h2, h3, h4, h5⟩ := h.cells
  exact ⟨A, c, bs, h1, h2, h3, ⟨by have := h3.1; simp at this; omega, h5⟩, h4⟩

/-- The cells of the block, one by one, for a walk. -/
theorem cellsOf {w : World} {b : Nat} {r : Re} {A : Option Addr} {c : Nat} (h : w.heap[b]? = some (.cells (reCells r A c) 130 (0, 0))) :
    w.cell? ⟨b, 0, none⟩ = some (.int .i64 r.op) ∧ w.cell? ⟨b, 1, none⟩ = some (.int .u64 r.set.a.toNat) ∧ w.cell? ⟨b, 2, none⟩ = some (.int .u64 r.set.b.toNat) ∧ w.cell? ⟨b, 3, none⟩ = some (.int .u64 r.set.c.toNat) ∧
    w.cell? ⟨b, 4, none⟩ = some (.int .u64 r.set.d.toNat) ∧ w.cell? ⟨b, 5, none⟩ = some (.slice A r.kids.length c) ∧ w.cell? ⟨b, 6, none⟩ = some (.bool r.null) ∧ w.cell? ⟨b, 7, none⟩ = some (.string ⟨r.key.toArray⟩) ∧
    w.cell? ⟨b, 8, none⟩ = some (.int .i64 r.size) := by
  simp [World.cell?, h, reCells]

/-- WHAT A CALL THAT MAKES AN EXPRESSION COMES TO: a pointer to r; what lay below stands; forbidden blocks below stay forbidden. -/
def RetRe (w : World) (X : Nat → Prop) (r : Re) (e : Ending) (w' : World) : Prop := ∃ b, e = .returned (ptr b) ∧ ReAt w' X r b ∧ Below w.heap.size w w'

/-- The call's own row of pointers. -/
def OwnP (w : World) (base : Nat) (v : Value) (bs : List Nat) : Prop := w.ownsRow base 32 1 v bs.length (bs.map ptr)
/-- X and the row's own block. -/
def Xo (X : Nat → Prop) (v : Value) : Nat → Prop := fun k => X k ∨ v.ownBlock = some k
theorem OwnP.nil (w : World) (base : Nat) : OwnP w base (.slice none 0 0) [] := World.ownsRow_nil w base _ 1
theorem OwnP.kept {w w' : World} {base : Nat} {v : Value} {bs : List Nat} (h : OwnP w base v bs) (hk : Below w.heap.size w w') : OwnP w' base v bs := by
  unfold OwnP at h ⊢
  refine h.kept (row := none) ⟨hk.os, hk.tape, hk.output, hk.size, fun k hk' _ => hk.block k hk'⟩ ?_
  cases hv : v.ownBlock <;> simp
/-- Read as an argument's slice. -/
theorem OwnP.rd {w : World} {base : Nat} {A : Option Addr} {n c : Nat} {bs : List Nat} (h : OwnP w base (.slice A n c) bs) : n = bs.length ∧ CapOk n A c ∧ Rd w A n (bs.map ptr) := by
  unfold OwnP at h
  rcases h.2 with ⟨h1, h2⟩ | ⟨g, cap, cur, h1, hb, hh, hn, hm, hs, ht⟩
  · cases h1
    exact ⟨h2.symm, ⟨Nat.le_refl _, fun _ => rfl⟩, by simp [h2], fun h => absurd h (by omega)⟩
  · cases h1
    refine ⟨rfl, ⟨hn, fun h => by cases h⟩, by simp, fun _ => ⟨g, 0, rfl, lt_of_heap hh, fun j u hu => ?_⟩⟩
    rw [cell_of_row w g (0 + j) _ _ _ hh, Nat.zero_add, ← hu, ← ht, Nat.mul_one]
    have hj : j < bs.length := by
      have := (List.getElem?_eq_some_iff.1 hu).1
      simpa using this
    rw [List.getElem?_take, if_pos hj, Array.getElem?_toList]
theorem OwnP.form {w : World} {base : Nat} {v : Value} {bs : List Nat} (h : OwnP w base v bs) : ∃ A c, v = .slice A bs.length c := by
  unfold OwnP at h
  rcases h.2 with ⟨h1, h2⟩ | ⟨g, cap, cur, h1, _⟩
  · exact ⟨none, 0, by rw [h1, h2]⟩
  · exact ⟨_, _, h1⟩

/-- A set as a value. -/
abbrev cv (s : CSet) : Value := .agg #[.int .u64 s.a.toNat, .int .u64 s.b.toNat, .int .u64 s.c.toNat, .int .u64 s.d.toNat]
end Go.Proofs.YtfpfloahkibcgaaGreatDoor

/- append at the program's own types: onto a row of strings, onto a row of pointers. -/
namespace Go.Proofs.YtfpfloahkibcgaaGreatDoor
open Go.RowKit

/-- The call's own row of strings. -/
def OwnS (w : World) (base : Nat) (v : Value) (ss : List (List UInt8)) : Prop := w.ownsRow base 9 1 v ss.length (ss.map fun s => .string ⟨s.toArray⟩)

theorem info_str : (Tryz.prog.info? 9).map (fun i => (i.zero, i.size, i.bytes)) = some (some (.string ⟨#[]⟩), 1, 16) := by kernel_rfl
theorem info_ptr : (Tryz.prog.info? 32).map (fun i => (i.zero, i.size, i.bytes)) = some (some (.pointer none), 1, 8) := by kernel_rfl

theorem wpList_app_str {ops : Array Oper} {rest : List Oper} {o : Oper} {a : Act} {Q : Exit → Act → World → Prop} (w : World) (hgd : o.guard = none) (s x : Operand)
    (ho : o.op = .call { callee := .builtin .append, args := #[s, x], argTypes := #[49, 49] })
    (base : Nat) (v : Value) (ss : List (List UInt8)) (hs : a.eval s = v) (hown : OwnS w base v ss)
    (g c : Nat) (u : List UInt8) (hx : a.eval x = .slice (some ⟨g, 0, none⟩) 1 c) (hcell : w.cell? ⟨g, 0, none⟩ = some (.string ⟨u.toArray⟩))
    (hn : ss.length + 1 ≤ 1099511627776) (hbase : base ≤ w.heap.size)
    (h : ∀ v' w', OwnS w' base v' (ss ++ [u]) → w.grownBy w' v.ownBlock → wpList Tryz.prog ops Q rest (a.put o.dst v') w') :
    wpList Tryz.prog ops Q (o :: rest) a w := by
  obtain ⟨i0, hi, hz0, hz1, hz2⟩ := info_parts info_str
  refine wpList_append_own_at w hgd s x 49 ho base 9 i0 (.string ⟨#[]⟩) 1 16 Tryz.underlying49 hi hz0 hz1 hz2 rfl (by decide) v _ _ hs hown ⟨g, 0, none⟩ 1 c [.string ⟨u.toArray⟩] hx rfl ?_ ?_ ?_ ?_ hbase ?_
  · intro j u' hj
    match j, hj with
    | 0, hj => simp at hj; subst hj; simpa [Addr.add] using hcell
  · intro u' hu; simp at hu; subst hu; rfl
  · unfold maxLen; omega
  · omega
  · intro v' w' h1 h2 _ _
    exact h v' w' (by simpa [OwnS] using h1) h2

theorem wpList_app_ptr {ops : Array Oper} {rest : List Oper} {o : Oper} {a : Act} {Q : Exit → Act → World → Prop} (w : World) (hgd : o.guard = none) (s x : Operand)
    (ho : o.op = .call { callee := .builtin .append, args := #[s, x], argTypes := #[69, 69] })
    (base : Nat) (v : Value) (bs : List Nat) (hs : a.eval s = v) (hown : OwnP w base v bs)
    (A : Option Addr) (n c : Nat) (cs : List Nat) (hx : a.eval x = .slice A n c) (hr : Rd w A n (cs.map ptr)) (hc0 : A = none → c = 0)
    (hn : bs.length + cs.length ≤ 1099511627776) (hbase : base ≤ w.heap.size)
    (h : ∀ v' w', OwnP w' base v' (bs ++ cs) → w.grownBy w' v.ownBlock → (v'.ownBlock = v.ownBlock ∨ v'.ownBlock = some w.heap.size) → wpList Tryz.prog ops Q rest (a.put o.dst v') w') :
    wpList Tryz.prog ops Q (o :: rest) a w := by
  have hnl : cs.length = n := by simpa using hr.1
  cases A with
  | none =>
    have h0 : n = 0 := by
      rcases Nat.eq_zero_or_pos n with h | h
      · exact h
      · obtain ⟨_, _, e, _⟩ := hr.2 h
        cases e
    subst h0
    have hcs : cs = [] := List.eq_nil_of_length_eq_zero hnl
    subst hcs
    obtain rfl := hc0 rfl
    obtain ⟨i0, hi, hz0, hz1, hz2⟩ := info_parts info_ptr
    refine wpList_append_own_none hgd s x 69 ho base 32 i0 1 Tryz.underlying69 hi v _ _ hs hown hx ?_
    exact h v w (by simpa using hown) (World.grownBy.refl w _) (.inl rfl)
  | some ad =>
    obtain ⟨i0, hi, hz0, hz1, hz2⟩ := info_parts info_ptr
    refine wpList_append_own_at w hgd s x 69 ho base 32 i0 (.pointer none) 1 8 Tryz.underlying69 hi hz0 hz1 hz2 rfl (by decide) v _ _ hs hown ad n c (cs.map ptr) hx (by simp [hnl]) ?_ ?_ ?_ ?_ hbase ?_
    · intro j u' hj
      have hj' := (List.getElem?_eq_some_iff.1 hj).1
      simp at hj'
      obtain ⟨g, o', e, _, hc⟩ := hr.2 (by omega)
      cases e
      have := hc j u' hj
      unfold Addr.add
      by_cases h0 : j = 0
      · subst h0; simpa using this
      · simpa [h0] using this
    · intro u' hu; simp at hu; obtain ⟨b, _, rfl⟩ := hu; rfl
    · unfold maxLen; omega
    · omega
    · intro v' w' h1 h2 _ h4
      exact h v' w' (by simpa [OwnP, hnl] using h1) h2 h4

theorem OwnS.one (w : World) (u : List UInt8) (base : Nat) (hb : base ≤ w.heap.size) : OwnS (w.alloc (.cells #[.string ⟨u.toArray⟩] 9)) base (.slice (some ⟨w.heap.size, 0, none⟩) 1 1) [u] :=
  World.ownsRow_lit w #[.string ⟨u.toArray⟩] 1 hb (by decide) rfl
theorem OwnS.kept {w w' : World} {base : Nat} {v : Value} {ss : List (List UInt8)} (h : OwnS w base v ss) (hk : Below w.heap.size w w') : OwnS w' base v ss := by
  unfold OwnS at h ⊢
  refine h.kept (row := none) ⟨hk.os, hk.tape, hk.output, hk.size, fun k hk' _ => hk.block k hk'⟩ ?_
  cases hv : v.ownBlock <;> simp
theorem OwnS.form {w : World} {base : Nat} {v : Value} {ss : List (List UInt8)} (h : OwnS w base v ss) (hne : ss ≠ []) : ∃ g c, v = .slice (some ⟨g, 0, none⟩) ss.length c ∧ ss.length ≤ c ∧ base ≤ g ∧ g < w.heap.size ∧
    ∀ (j : Nat) u, ss[j]? = some u → w.cell? ⟨g, 0 + j, none⟩ = some (.string ⟨u.toArray⟩) := by
  unfold OwnS at h
  rcases h.2 with ⟨_, h2⟩ | ⟨g, cap, cur, h1, hb, hh, hn, hm, hs, ht⟩
  · exact absurd (List.eq_nil_of_length_eq_zero h2) hne
  · refine ⟨g, cap, h1, hn, hb, lt_of_heap hh, fun j u hu => ?_⟩
    have hj := (List.getElem?_eq_some_iff.1 hu).1
    rw [cell_of_row w g (0 + j) _ _ _ hh, Nat.zero_add]
    have : (ss.map fun s => Value.string ⟨s.toArray⟩)[j]? = some (.string ⟨u.toArray⟩) := by rw [List.getElem?_map, hu]; rfl
    rw [← ht, Nat.mul_one, List.getElem?_take, if_pos hj, Array.getElem?_toList] at this
    exact this
theorem OwnS.setCell {w : World} {base : Nat} {v : Value} {ss : List (List UInt8)} (h : OwnS w base v ss) {a : Addr} (ha : a.block < base) (u : Value) : OwnS (w.setCell a u) base v ss := ownsRow_setCell_below h ha u
theorem OwnS.drew {w : World} {base : Nat} {v : Value} {ss : List (List UInt8)} (h : OwnS w base v ss) : OwnS w.drew base v ss := h
end Go.Proofs.YtfpfloahkibcgaaGreatDoor

/- strconv.FormatUint to the base 36. -/
namespace Go.Proofs.YtfpfloahkibcgaaGreatDoor
open Go.RowKit

/-- The digits written so far stand at the end of the 65 cells. -/
def FmtRel (w : World) (n m : Nat) (l : List UInt8) (wr : World) : Prop :=
  (l = [] ∨ 1 ≤ m) ∧ m * 2 ^ l.length ≤ n ∧ Re.fmtOnto m l = Re.fmt36 n ∧ Below w.heap.size w wr ∧ ∃ cs : Array Value, wr.heap[w.heap.size]? = some (.cells cs 243 (0, 0)) ∧ cs.size = 65 ∧ ∀ (j : Nat) x, l[j]? = some x → cs[65 - l.length + j]? = some (.int .u8 x.toNat)

theorem FmtRel.step {w wr : World} {n m : Nat} {l : List UInt8} (h : FmtRel w n m l wr) (hm : ¬ m < 36) (hl : l.length < 64) :
    FmtRel w n (m / 36) (Re.dig36 (m % 36) :: l) (wr.setCell ⟨w.heap.size, 64 - l.length, none⟩ (.int .u8 (Re.dig36 (m % 36)).toNat)) := by
  obtain ⟨_, h1, h2, h3, cs, h4, h5, h6⟩ := h
  refine ⟨.inr (by omega), ?_, ?_, h3.setCell (p := ⟨w.heap.size, 64 - l.length, none⟩) (Nat.le_refl _) _, _, blk_set h4 _ _, by simpa using h5, ?_⟩
  · refine Nat.le_trans ?_ h1
    rw [List.length_cons, Nat.pow_succ, Nat.mul_comm (2 ^ l.length) 2, ← Nat.mul_assoc]
    exact Nat.mul_le_mul_right _ (by omega)
  · rw [← h2]
    conv => rhs; rw [Re.fmtOnto, dif_neg hm]
  · intro j x hx
    rw [List.length_cons]
    match j, hx with
    | 0, hx =>
      simp at hx
      subst hx
      rw [show 65 - (l.length + 1) + 0 = 64 - l.length by omega, Array.getElem?_setIfInBounds_self_of_lt (by omega)]
    | j + 1, hx =>
      have hj := (List.getElem?_eq_some_iff.1 hx).1
      simp at hx hj
      rw [Array.getElem?_setIfInBounds_ne (by omega), show 65 - (l.length + 1) + (j + 1) = 65 - l.length + j by omega]
      exact h6 j x hx
theorem FmtRel.last {w wr : World} {n m : Nat} {l : List UInt8} (h : FmtRel w n m l wr) (hm : m < 36) (hl : l.length < 64) :
    (Re.fmt36 n).length = l.length + 1 ∧ ∀ j (hj : j < (Re.fmt36 n).length), (wr.setCell ⟨w.heap.size, 64 - l.length, none⟩ (.int .u8 (Re.dig36 m).toNat)).cell? ((⟨w.heap.size, 64 - l.length, none⟩ : Addr).add j) = some (.int .u8 ((Re.fmt36 n)[j].toNat : Int)) := by
  obtain ⟨_, h1, h2, h3, cs, h4, h5, h6⟩ := h
  have e : Re.fmt36 n = Re.dig36 m :: l := by rw [← h2, Re.fmtOnto, dif_pos hm]
  refine ⟨by rw [e]; rfl, fun j hj => ?_⟩
  have hc := blk_cell (blk_set h4 (64 - l.length) (.int .u8 (Re.dig36 m).toNat)) (64 - l.length + j)
  have ha : (⟨w.heap.size, 64 - l.length, none⟩ : Addr).add j = ⟨w.heap.size, 64 - l.length + j, none⟩ := by
    unfold Addr.add; split <;> simp_all
  rw [ha, hc]
  simp only [e]
  match j, hj with
  | 0, hj => rw [Nat.add_zero, Array.getElem?_setIfInBounds_self_of_lt (by omega)]; rfl
  | j + 1, hj =>
    rw [Array.getElem?_setIfInBounds_ne (by omega), show 64 - l.length + (j + 1) = 65 - l.length + j by omega]
    exact h6 j _ (by rw [e] at hj; simp at hj; exact List.getElem?_eq_getElem hj)
theorem pow2_36 (w : World) : Calls Tryz.prog 181 #[.int .i64 36] w fun e w' => e = .returned (.bool false) ∧ w = w' := by
  have hp : bits .and .i64 36 35 = 32 := by decide +kernel
  go_enter Tryz.func181, Tryz.ntmps181
  go_wp2
  go_ret
  exact ⟨rfl, rfl⟩
theorem dig_at (d : Nat) (h : d < 36) (s : ByteArray) (hs : s = ⟨#[48, 49, 50, 51, 52, 53, 54, 55, 56, 57, 97, 98, 99, 100, 101, 102, 103, 104, 105, 106, 107, 108, 109, 110, 111, 112, 113, 114, 115, 116, 117, 118, 119, 120, 121, 122]⟩) (hd : d < s.size) : s[d] = Re.dig36 d := by
  subst hs
  have hall : ∀ d : Fin 36, (⟨#[48, 49, 50, 51, 52, 53, 54, 55, 56, 57, 97, 98, 99, 100, 101, 102, 103, 104, 105, 106, 107, 108, 109, 110, 111, 112, 113, 114, 115, 116, 117, 118, 119, 120, 121, 122]⟩ : ByteArray).data[d.val]? = some (Re.dig36 d.val) := by decide +kernel
  have h1 := hall ⟨d, h⟩
  rw [Array.getElem?_eq_getElem hd] at h1
  exact Option.some.inj h1

set_option maxHeartbeats 1000000 in
set_option maxRecDepth 100000 in
theorem formatBits_any (n : Nat) (w : World) (hn : n < 18446744073709551616) :
    Calls Tryz.prog 166 #[.slice none 0 0, .int .u64 n, .int .i64 36, .bool false, .bool false] w fun e w' => e = .returned (.tuple #[.slice none 0 0, .string ⟨(Re.fmt36 n).toArray⟩]) ∧ Below w.heap.size w w' := by
  obtain ⟨out, ho⟩ : ∃ out, out = Re.fmt36 n := ⟨_, rfl⟩
  rw [← ho]
  have HO := hid ho
  clear ho
  go_enter Tryz.func166, Tryz.ntmps166
  go_wp2_with (go_at_call 181; refine (pow2_36 _).mono ?_; rintro e w' ⟨rfl, rfl⟩)
  go_loopw [1, 13] (fun u i wr => ∃ (m : Nat) (l : List UInt8), u = .int .u64 m ∧ i = .int .i64 ((65 - l.length : Nat) : Int) ∧ FmtRel w n m l wr) (fun u _ _ => (intOf u).toNat)
  case atStart => exact ⟨n, [], rfl, rfl, .inl rfl, by simp, rfl, (Below.refl _ _).alloc (Nat.le_refl _) _, _, blk_new _ _, by simp [Tryz.zeroCells243], fun j x hx => by simp at hx⟩
  case round =>
    obtain ⟨m, l, rfl, rfl, hr⟩ := hrel
    obtain ⟨hne, hm, hf, hb, cs, hcs, hsz, hl⟩ := id hr
    clear hf hl
    have HR := hid hr
    have hmn : m ≤ n := Nat.le_trans (Nat.le_mul_of_pos_right _ (Nat.two_pow_pos _)) hm
    have hll : l.length < 64 := by
      rcases Nat.lt_or_ge l.length 64 with h | h
      · exact h
      · have h1 : 2 ^ 64 ≤ 2 ^ l.length := Nat.pow_le_pow_right (by omega) h
        have h2 : m * 2 ^ 64 ≤ m * 2 ^ l.length := Nat.mul_le_mul_left _ h1
        have h3 : 1 ≤ m := by
          rcases hne with e | e
          · rw [e] at h; simp at h
          · exact e
        omega
    obtain ⟨k, hk⟩ : ∃ k, k = 64 - l.length := ⟨_, rfl⟩
    have hi : ((65 - l.length : Nat) : Int) - 1 = (k : Int) := by omega
    have h64 : k < 65 := by omega
    have fz := blk_free hcs k
    obtain ⟨x0, cz⟩ : ∃ x, wr.cell? ⟨w.heap.size, k, none⟩ = some x := ⟨cs[k], by rw [blk_cell hcs k, Array.getElem?_eq_getElem (by omega)]⟩
    have HB := hid hb
    have HK := hid hk
    by_cases hlt : m < 36
    · obtain ⟨e1, e2⟩ := hr.last hlt hll
      rw [← hk] at e2
      have hcv := fun W h => run_convert_bytes_back (P := Tryz.prog) W 89 9 5 ⟨w.heap.size, k, none⟩ (65 - k) (Re.fmt36 n) Tryz.underlying89 Tryz.underlying5 Tryz.underlying9 h
      have hcv2 := hcv _ e2
      rw [show (Re.fmt36 n).length = 65 - k by omega] at hcv2
      rw [← dig_at m hlt _ rfl (by show m < 36; exact hlt)] at hcv2
      have hsl : ∀ W, (Instr.sliceAt 243 (.pointer (some ⟨w.heap.size, 0, none⟩)) (some (.int .i64 (k : Int))) none none).run Tryz.prog W = .ok (.slice (some ⟨w.heap.size, k, none⟩) (65 - k) (65 - k)) W := by
        intro W
        have ha : Tryz.prog.arrayLen 243 = 65 := by kernel_rfl
        have he : Tryz.prog.elem 243 = 5 := by kernel_rfl
        rw [run_sliceAt_array_l W 243 _ (by kernel_rfl) .i64 k (by omega) (by rw [ha]; omega), ha, he, Tryz.sizeOf5]
        have hadd : (⟨w.heap.size, 0, none⟩ : Addr).add (k * 1) = ⟨w.heap.size, k, none⟩ := by
          unfold Addr.add
          by_cases h0 : k = 0 <;> simp [h0]
        simp only [Result.andThen_ok, slicedAt, Int.toNat_natCast, if_neg (show ¬ 65 = k by omega), hadd]
      clear hcv e1 e2 hr hcs hb hm hk hne
      rw [← HO.out] at hcv2
      go_wp2
      go_ret2
      exact ⟨by simp, HB.out.setCell (Nat.le_refl _) _⟩
    · obtain ⟨q, hq⟩ : ∃ q, q = m / 36 := ⟨_, rfl⟩
      obtain ⟨d, hdd⟩ : ∃ d, d = m % 36 := ⟨_, rfl⟩
      have h36 : d < 36 := by omega
      have hw1 : (m : Int) / 36 = (q : Int) := by omega
      have hw2 : (m : Int) - (q : Int) * 36 = (d : Int) := by omega
      have hqm : q < m := by omega
      have HS := hid (hr.step hlt hll)
      rw [← hk, ← hq, ← hdd] at HS
      clear hq hdd hk hr hcs hb hm hne
      go_wp2
      go_roundw
      case rel =>
        refine ⟨q, Re.dig36 d :: l, rfl, ?_, ?_⟩
        · have := HK.out
          rw [List.length_cons, show 65 - (l.length + 1) = k by omega]
        · rw [dig_at d h36 _ rfl _]
          exact HS.out
      case measure => simpa [intOf] using hqm

theorem fmt_any (n : Nat) (w : World) (hn : n < 18446744073709551616) :
    Calls Tryz.prog 134 #[.int .u64 n, .int .i64 36] w fun e w' => e = .returned (.string ⟨(Re.fmt36 n).toArray⟩) ∧ Below w.heap.size w w' := by
  have H1 := hid (fun W => formatBits_any n W hn)
  have H2 : Hid (∀ W, Calls Tryz.prog 151 #[.int .u64 n, .int .i64 36] W fun e w' => e = .returned (.string ⟨(Re.fmt36 n).toArray⟩) ∧ Below W.heap.size W w') := by
    intro W
    generalize Re.fmt36 n = out at H1 ⊢
    go_enter Tryz.func151, Tryz.ntmps151
    go_wp2_with (go_at_call 166; refine (H1.out _).mono ?_; rintro e w' ⟨rfl, hb⟩)
    go_ret
    exact ⟨rfl, hb⟩
  generalize Re.fmt36 n = out at H2 ⊢
  go_enter Tryz.func134, Tryz.ntmps134
  go_wp2_with (go_at_call 151; refine (H2.out _).mono ?_; rintro e w' ⟨rfl, hb⟩)
  go_ret
  exact ⟨rfl, hb⟩
end Go.Proofs.YtfpfloahkibcgaaGreatDoor

/- The walk of set.each: a set made of two, by words, by whatever function of words. -/
namespace Go.Proofs.YtfpfloahkibcgaaGreatDoor
open Go.RowKit

def partCells (x0 x1 x2 x3 : BitVec 64) : Nat → Array Value
  | 0 => #[.int .u64 0, .int .u64 0, .int .u64 0, .int .u64 0]
  | 1 => #[.int .u64 x0.toNat, .int .u64 0, .int .u64 0, .int .u64 0]
  | 2 => #[.int .u64 x0.toNat, .int .u64 x1.toNat, .int .u64 0, .int .u64 0]
  | 3 => #[.int .u64 x0.toNat, .int .u64 x1.toNat, .int .u64 x2.toNat, .int .u64 0]
  | _ => #[.int .u64 x0.toNat, .int .u64 x1.toNat, .int .u64 x2.toNat, .int .u64 x3.toNat]

/-- What stands at the head of round k. -/
def EachRel (w : World) (s t : CSet) (x0 x1 x2 x3 : BitVec 64) (k : Nat) (wr : World) : Prop :=
  wr.heap.size = w.heap.size + 4 ∧ wr.heap[w.heap.size]? = some (.cells #[.int .u64 s.a.toNat, .int .u64 s.b.toNat, .int .u64 s.c.toNat, .int .u64 s.d.toNat] 87 (0, 0)) ∧
  wr.heap[w.heap.size + 1]? = some (.cells #[.int .u64 t.a.toNat, .int .u64 t.b.toNat, .int .u64 t.c.toNat, .int .u64 t.d.toNat] 87 (0, 0)) ∧
  wr.heap[w.heap.size + 1 + 1]? = some (.cells #[.int .u64 0, .int .u64 0, .int .u64 0, .int .u64 0] 87 (0, 0)) ∧
  wr.heap[w.heap.size + 1 + 1 + 1]? = some (.cells (partCells x0 x1 x2 x3 k) 87 (0, 0)) ∧ Below w.heap.size w wr
theorem EachRel.step {w wr : World} {s t : CSet} {x0 x1 x2 x3 : BitVec 64} {k j : Nat} (h : EachRel w s t x0 x1 x2 x3 k wr) (u : Value)
    (hu : (partCells x0 x1 x2 x3 k).setIfInBounds j u = partCells x0 x1 x2 x3 (k + 1)) : EachRel w s t x0 x1 x2 x3 (k + 1) (wr.setCell ⟨w.heap.size + 1 + 1 + 1, j, none⟩ u).drew := by
  obtain ⟨h0, h1, h2, h3, h4, h5⟩ := h
  refine ⟨by rw [← h0]; exact size_setCell _ _ _, blk_far h1 _ _ (by show _ ≠ w.heap.size + 1 + 1 + 1; omega), blk_far h2 _ _ (by show _ ≠ w.heap.size + 1 + 1 + 1; omega), blk_far h3 _ _ (by show _ ≠ w.heap.size + 1 + 1 + 1; omega), ?_, (h5.setCell (p := ⟨w.heap.size + 1 + 1 + 1, j, none⟩) (by show w.heap.size ≤ w.heap.size + 1 + 1 + 1; omega) u).drew⟩
  rw [← hu]
  exact blk_set h4 j u

set_option maxHeartbeats 2000000 in
theorem each_any (s t : CSet) (f : BitVec 64 → BitVec 64 → BitVec 64) (g : Nat) (w : World)
    (eg : ∀ (args : Array Value) (W : World), (callFunc g args).run Tryz.prog W = .ok (.enter g args) W)
    (hf : ∀ (x y : BitVec 64) (W : World), Calls Tryz.prog g #[.int .u64 x.toNat, .int .u64 y.toNat] W fun e W' => e = .returned (.int .u64 (f x y).toNat) ∧ W = W') :
    Calls Tryz.prog 120 #[cv s, cv t, .func (.func g) #[] #[]] w fun e w' => e = .returned (cv ⟨f s.a t.a, f s.b t.b, f s.c t.c, f s.d t.d⟩) ∧ Below w.heap.size w w' := by
  have HF := hid hf
  clear hf
  unfold cv
  go_enter Tryz.func120, Tryz.ntmps120
  go_wp2_with fail
  go_loopw [9] (fun i wr => ∃ k : Nat, k ≤ 4 ∧ i = .int .i64 k ∧ EachRel w s t (f s.a t.a) (f s.b t.b) (f s.c t.c) (f s.d t.d) k wr) (fun i _ => 4 - (intOf i).toNat)
  case atStart =>
    exact ⟨0, by omega, rfl, by simp, blk_alloc (blk_alloc (blk_alloc (blk_new _ _) _) _) _, blk_alloc (blk_alloc (by simpa using blk_new (w.alloc _) _) _) _, blk_alloc (by simpa using blk_new ((w.alloc _).alloc _) _) _, by simpa [partCells] using blk_new (((w.alloc _).alloc _).alloc _) _,
      (((((Below.refl _ _).alloc (Nat.le_refl _) _).alloc (by simp) _).alloc (by simp; omega) _).alloc (by simp; omega) _)⟩
  case round =>
    obtain ⟨k, hk, rfl, hr⟩ := hrel
    obtain ⟨h0, h1, h2, h3, h4, h5⟩ := id hr
    have HR := hid hr
    clear hr
    have c4 := blk_cell h4; have f4 := blk_free h4; have f3 := blk_free h3
    rcases (by omega : k = 0 ∨ k = 1 ∨ k = 2 ∨ k = 3 ∨ k = 4) with rfl | rfl | rfl | rfl | rfl
    · have a1 := blk_cell h1 0; have a2 := blk_cell h2 0; have a4 := c4 0; have g4 := f4 0
      clear h1 h2 h3 h4 h0 c4 f4 f3 h5
      simp at a1 a2
      simp [partCells] at a4
      go_wp2_with fail
      go_region_with ((refine (HF.out _ _ _).mono ?_; rintro e w' ⟨rfl, rfl⟩))
      all_goals go_wp2_with fail
      all_goals go_roundw
      all_goals first | exact ⟨1, by omega, rfl, HR.out.step _ rfl⟩ | (simp [intOf]; done)
    · have a1 := blk_cell h1 1; have a2 := blk_cell h2 1; have a4 := c4 1; have g4 := f4 1
      clear h1 h2 h3 h4 h0 c4 f4 f3 h5
      simp at a1 a2
      simp [partCells] at a4
      go_wp2_with fail
      go_region_with ((refine (HF.out _ _ _).mono ?_; rintro e w' ⟨rfl, rfl⟩))
      all_goals go_wp2_with fail
      all_goals go_roundw
      all_goals first | exact ⟨2, by omega, rfl, HR.out.step _ rfl⟩ | (simp [intOf]; done)
    · have a1 := blk_cell h1 2; have a2 := blk_cell h2 2; have a4 := c4 2; have g4 := f4 2
      clear h1 h2 h3 h4 h0 c4 f4 f3 h5
      simp at a1 a2
      simp [partCells] at a4
      go_wp2_with fail
      go_region_with ((refine (HF.out _ _ _).mono ?_; rintro e w' ⟨rfl, rfl⟩))
      all_goals go_wp2_with fail
      all_goals go_roundw
      all_goals first | exact ⟨3, by omega, rfl, HR.out.step _ rfl⟩ | (simp [intOf]; done)
    · have a1 := blk_cell h1 3; have a2 := blk_cell h2 3; have a4 := c4 3; have g4 := f4 3
      clear h1 h2 h3 h4 h0 c4 f4 f3 h5
      simp at a1 a2
      simp [partCells] at a4
      go_wp2_with fail
      go_region_with ((refine (HF.out _ _ _).mono ?_; rintro e w' ⟨rfl, rfl⟩))
      all_goals go_wp2_with fail
      all_goals go_roundw
      all_goals first | exact ⟨4, by omega, rfl, HR.out.step _ rfl⟩ | (simp [intOf]; done)
    · have b0 := c4 0; have b1 := c4 1; have b2 := c4 2; have b3 := c4 3
      have e3 := blk_cell h3
      have d0 := e3 0; have d1 := e3 1; have d2 := e3 2; have d3 := e3 3
      have g0 := f3 0; have g1 := f3 1; have g2 := f3 2; have g3 := f3 3
      simp [partCells] at b0 b1 b2 b3
      simp at d0 d1 d2 d3
      have HB := hid h5
      clear h1 h2 h3 h4 h0 c4 f4 f3 h5 e3
      go_wp2_with fail
      have hW := blk_set (blk_set (blk_set (blk_set (HR.out.2.2.2.1) 0 (.int .u64 (f s.a t.a).toNat)) 1 (.int .u64 (f s.b t.b).toNat)) 2 (.int .u64 (f s.c t.c).toNat)) 3 (.int .u64 (f s.d t.d).toNat)
      have k0 := blk_cell hW 0; have k1 := blk_cell hW 1; have k2 := blk_cell hW 2; have k3 := blk_cell hW 3
      simp only [Array.setIfInBounds] at k0 k1 k2 k3
      simp at k0 k1 k2 k3
      refine bodyPost_ret (v := .agg #[.int .u64 (f s.a t.a).toNat, .int .u64 (f s.b t.b).toNat, .int .u64 (f s.c t.c).toNat, .int .u64 (f s.d t.d).toNat]) (by simp [results, Tryz.results120, go_sem, k0, k1, k2, k3]) rfl ⟨rfl, ?_⟩
      exact ((((HB.out.setCell (by show w.heap.size ≤ w.heap.size + 1 + 1; omega) _).setCell (by show w.heap.size ≤ w.heap.size + 1 + 1; omega) _).setCell (by show w.heap.size ≤ w.heap.size + 1 + 1; omega) _).setCell (by show w.heap.size ≤ w.heap.size + 1 + 1; omega) _)
end Go.Proofs.YtfpfloahkibcgaaGreatDoor

/- The walks of the functions of package set. -/
namespace Go.Proofs.YtfpfloahkibcgaaGreatDoor
open Go.RowKit

theorem bits_or64 (x y : BitVec 64) : bits .or .u64 (x.toNat : Int) (y.toNat : Int) = ((x ||| y).toNat : Int) := by rw [u64_or_nat _ _ x.isLt y.isLt]; simp
theorem bits_and64 (x y : BitVec 64) : bits .and .u64 (x.toNat : Int) (y.toNat : Int) = ((x &&& y).toNat : Int) := by rw [u64_and_nat _ _ x.isLt y.isLt]; simp
theorem bits_andNot64 (x y : BitVec 64) : bits .andNot .u64 (x.toNat : Int) (y.toNat : Int) = ((x &&& ~~~y).toNat : Int) := by
  rw [u64_andNot_nat _ _ x.isLt y.isLt]; simp
theorem bits_bit (x : BitVec 64) (k : Nat) : (bits .and .u64 ((x.toNat : Int) / 2 ^ k) 1 == 1) = x.getLsbD k := by
  have h1 : ((x.toNat : Int) / 2 ^ k) = ((x.toNat / 2 ^ k : Nat) : Int) := by simp
  have h2 : x.toNat / 2 ^ k < 18446744073709551616 := Nat.lt_of_le_of_lt (Nat.div_le_self _ _) x.isLt
  rw [h1, show (1 : Int) = ((1 : Nat) : Int) from rfl, u64_and_nat _ _ h2 (by omega), Nat.and_one_is_mod, BitVec.getLsbD, Nat.testBit_eq_decide_div_mod_eq]
  rw [Bool.eq_iff_iff]; simp; omega
theorem bits_add64 (x : BitVec 64) (k : Nat) (hk : k < 64) : bits .or .u64 (x.toNat : Int) ((2 : Int) ^ k) = ((x ||| BitVec.twoPow 64 k).toNat : Int) := by
  have : ((2 : Int) ^ k) = ((BitVec.twoPow 64 k).toNat : Int) := by
    rw [BitVec.toNat_twoPow_of_lt (by omega)]; simp
  rw [this, bits_or64]

set_option maxHeartbeats 400000 in
theorem has_any (s : CSet) (b : Nat) (w : World) (hb : b < 256) :
    Calls Tryz.prog 79 #[cv s, .int .u8 b] w fun e w' => e = .returned (.bool (s.has b)) ∧ Below w.heap.size w w' := by
  have e4 : b / 64 = 0 ∨ b / 64 = 1 ∨ b / 64 = 2 ∨ b / 64 = 3 := by omega
  unfold cv
  rcases e4 with e | e | e | e
  all_goals
    have hq : (b : Int) / 64 = ((b / 64 : Nat) : Int) := by omega
    have hh : s.has b = (s.word (b / 64)).getLsbD (b % 64) := rfl
    have hm1 := bits_bit (s.word (b / 64)) (b % 64)
    rw [← hh] at hm1
    rw [e] at hq hm1
    simp only [CSet.word] at hm1
    clear hh e
    generalize s.has b = r at hm1 ⊢
    go_enter Tryz.func79, Tryz.ntmps79
    go_wp2
    go_ret
    exact ⟨by simp, (Below.refl _ _).alloc (Nat.le_refl _) _⟩

theorem bits_not64 (x : BitVec 64) : bits .xor .u64 IntKind.u64.max (x.toNat : Int) = ((~~~x).toNat : Int) := by
  rw [show IntKind.u64.max = ((18446744073709551615 : Nat) : Int) from rfl, u64_xor_nat _ _ (by omega) x.isLt]
  have : ~~~x = BitVec.allOnes 64 ^^^ x := (BitVec.allOnes_xor).symm
  rw [this, BitVec.toNat_xor]
  rfl
theorem or_fn (x y : BitVec 64) (w : World) : Calls Tryz.prog 132 #[.int .u64 x.toNat, .int .u64 y.toNat] w fun e w' => e = .returned (.int .u64 (x ||| y).toNat) ∧ w = w' := by
  have h := bits_or64 x y
  generalize x ||| y = z at h ⊢
  go_enter Tryz.func132, Tryz.ntmps132
  go_wp2
  go_ret
  exact ⟨rfl, rfl⟩
theorem and_fn (x y : BitVec 64) (w : World) : Calls Tryz.prog 121 #[.int .u64 x.toNat, .int .u64 y.toNat] w fun e w' => e = .returned (.int .u64 (x &&& y).toNat) ∧ w = w' := by
  have h := bits_and64 x y
  generalize x &&& y = z at h ⊢
  go_enter Tryz.func121, Tryz.ntmps121
  go_wp2
  go_ret
  exact ⟨rfl, rfl⟩
theorem minus_fn (x y : BitVec 64) (w : World) : Calls Tryz.prog 122 #[.int .u64 x.toNat, .int .u64 y.toNat] w fun e w' => e = .returned (.int .u64 (x &&& ~~~y).toNat) ∧ w = w' := by
  have h := bits_andNot64 x y
  generalize x &&& ~~~y = z at h ⊢
  go_enter Tryz.func122, Tryz.ntmps122
  go_wp2
  go_ret
  exact ⟨rfl, rfl⟩
theorem not_fn (x y : BitVec 64) (w : World) : Calls Tryz.prog 145 #[.int .u64 x.toNat, .int .u64 y.toNat] w fun e w' => e = .returned (.int .u64 (~~~x).toNat) ∧ w = w' := by
  have h := (fun x (_ : BitVec 64) => bits_not64 x) x y
  generalize ~~~x = z at h ⊢
  have hs : IntKind.u64.signed = false := rfl
  go_enter Tryz.func145, Tryz.ntmps145
  go_wp2
  go_ret
  exact ⟨rfl, rfl⟩
set_option maxHeartbeats 400000 in
theorem setOr_any (s t : CSet) (w : World) : Calls Tryz.prog 97 #[cv s, cv t] w fun e w' => e = .returned (cv (s.or t)) ∧ Below w.heap.size w w' := by
  have hc : ∀ W, Calls Tryz.prog 120 #[cv s, cv t, .func (.func 132) #[] #[]] W fun e w' => e = .returned (cv (s.or t)) ∧ Below W.heap.size W w' := fun W => each_any s t _ 132 W (enters_of Tryz.func132 (by kernel_rfl) rfl) or_fn
  have HC := hid hc
  clear hc
  generalize s.or t = u at HC ⊢
  unfold cv at HC ⊢
  go_enter Tryz.func97, Tryz.ntmps97
  go_wp2_with (go_at_call 120; refine (HC.out _).mono ?_; rintro e w' ⟨rfl, hb⟩; obtain ⟨hc, hf⟩ := bcell hb; have hz : w.heap.size + 1 + 1 < w'.heap.size := by have := hb.size; simp at this; omega)
  have hk := set4 (w := w') (g := w.heap.size + 1 + 1) (T := 87) (v0 := .int .u64 0) (v1 := .int .u64 0) (v2 := .int .u64 0) (v3 := .int .u64 0) (blk_below (by simpa using blk_new ((w.alloc _).alloc _) _) hb) (.int .u64 u.a.toNat) (.int .u64 u.b.toNat) (.int .u64 u.c.toNat) (.int .u64 u.d.toNat)
  obtain ⟨k0, k1, k2, k3⟩ := hk
  refine bodyPost_ret (v := .agg #[.int .u64 u.a.toNat, .int .u64 u.b.toNat, .int .u64 u.c.toNat, .int .u64 u.d.toNat]) (by simp [results, Tryz.results97, go_sem, k0, k1, k2, k3]) rfl ⟨rfl, ?_⟩
  exact below4 (((((Below.refl _ _).alloc (Nat.le_refl _) _).alloc (by simp) _).alloc (by simp; omega) _).trans (hb.mono (by simp; omega))) (by omega) _ _ _ _
set_option maxHeartbeats 400000 in
theorem setAnd_any (s t : CSet) (w : World) : Calls Tryz.prog 86 #[cv s, cv t] w fun e w' => e = .returned (cv (s.and t)) ∧ Below w.heap.size w w' := by
  have hc : ∀ W, Calls Tryz.prog 120 #[cv s, cv t, .func (.func 121) #[] #[]] W fun e w' => e = .returned (cv (s.and t)) ∧ Below W.heap.size W w' := fun W => each_any s t _ 121 W (enters_of Tryz.func121 (by kernel_rfl) rfl) and_fn
  have HC := hid hc
  clear hc
  generalize s.and t = u at HC ⊢
  unfold cv at HC ⊢
  go_enter Tryz.func86, Tryz.ntmps86
  go_wp2_with (go_at_call 120; refine (HC.out _).mono ?_; rintro e w' ⟨rfl, hb⟩; obtain ⟨hc, hf⟩ := bcell hb; have hz : w.heap.size + 1 + 1 < w'.heap.size := by have := hb.size; simp at this; omega)
  have hk := set4 (w := w') (g := w.heap.size + 1 + 1) (T := 87) (v0 := .int .u64 0) (v1 := .int .u64 0) (v2 := .int .u64 0) (v3 := .int .u64 0) (blk_below (by simpa using blk_new ((w.alloc _).alloc _) _) hb) (.int .u64 u.a.toNat) (.int .u64 u.b.toNat) (.int .u64 u.c.toNat) (.int .u64 u.d.toNat)
  obtain ⟨k0, k1, k2, k3⟩ := hk
  refine bodyPost_ret (v := .agg #[.int .u64 u.a.toNat, .int .u64 u.b.toNat, .int .u64 u.c.toNat, .int .u64 u.d.toNat]) (by simp [results, Tryz.results86, go_sem, k0, k1, k2, k3]) rfl ⟨rfl, ?_⟩
  exact below4 (((((Below.refl _ _).alloc (Nat.le_refl _) _).alloc (by simp) _).alloc (by simp; omega) _).trans (hb.mono (by simp; omega))) (by omega) _ _ _ _
set_option maxHeartbeats 400000 in
theorem setMinus_any (s t : CSet) (w : World) : Calls Tryz.prog 87 #[cv s, cv t] w fun e w' => e = .returned (cv (s.minus t)) ∧ Below w.heap.size w w' := by
  have hc : ∀ W, Calls Tryz.prog 120 #[cv s, cv t, .func (.func 122) #[] #[]] W fun e w' => e = .returned (cv (s.minus t)) ∧ Below W.heap.size W w' := fun W => each_any s t _ 122 W (enters_of Tryz.func122 (by kernel_rfl) rfl) minus_fn
  have HC := hid hc
  clear hc
  generalize s.minus t = u at HC ⊢
  unfold cv at HC ⊢
  go_enter Tryz.func87, Tryz.ntmps87
  go_wp2_with (go_at_call 120; refine (HC.out _).mono ?_; rintro e w' ⟨rfl, hb⟩; obtain ⟨hc, hf⟩ := bcell hb; have hz : w.heap.size + 1 + 1 < w'.heap.size := by have := hb.size; simp at this; omega)
  have hk := set4 (w := w') (g := w.heap.size + 1 + 1) (T := 87) (v0 := .int .u64 0) (v1 := .int .u64 0) (v2 := .int .u64 0) (v3 := .int .u64 0) (blk_below (by simpa using blk_new ((w.alloc _).alloc _) _) hb) (.int .u64 u.a.toNat) (.int .u64 u.b.toNat) (.int .u64 u.c.toNat) (.int .u64 u.d.toNat)
  obtain ⟨k0, k1, k2, k3⟩ := hk
  refine bodyPost_ret (v := .agg #[.int .u64 u.a.toNat, .int .u64 u.b.toNat, .int .u64 u.c.toNat, .int .u64 u.d.toNat]) (by simp [results, Tryz.results87, go_sem, k0, k1, k2, k3]) rfl ⟨rfl, ?_⟩
  exact below4 (((((Below.refl _ _).alloc (Nat.le_refl _) _).alloc (by simp) _).alloc (by simp; omega) _).trans (hb.mono (by simp; omega))) (by omega) _ _ _ _
set_option maxHeartbeats 400000 in
theorem setNot_any (s : CSet) (w : World) : Calls Tryz.prog 119 #[cv s] w fun e w' => e = .returned (cv (s.not)) ∧ Below w.heap.size w w' := by
  have hc : ∀ W, Calls Tryz.prog 120 #[cv s, cv s, .func (.func 145) #[] #[]] W fun e w' => e = .returned (cv (s.not)) ∧ Below W.heap.size W w' := fun W => each_any s s _ 145 W (enters_of Tryz.func145 (by kernel_rfl) rfl) not_fn
  have HC := hid hc
  clear hc
  generalize s.not = u at HC ⊢
  unfold cv at HC ⊢
  go_enter Tryz.func119, Tryz.ntmps119
  go_wp2_with (go_at_call 120; refine (HC.out _).mono ?_; rintro e w' ⟨rfl, hb⟩; obtain ⟨hc, hf⟩ := bcell hb; have hz : w.heap.size + 1 < w'.heap.size := by have := hb.size; simp at this; omega)
  have hk := set4 (w := w') (g := w.heap.size + 1) (T := 87) (v0 := .int .u64 0) (v1 := .int .u64 0) (v2 := .int .u64 0) (v3 := .int .u64 0) (blk_below (by simpa using blk_new ((w.alloc _)) _) hb) (.int .u64 u.a.toNat) (.int .u64 u.b.toNat) (.int .u64 u.c.toNat) (.int .u64 u.d.toNat)
  obtain ⟨k0, k1, k2, k3⟩ := hk
  refine bodyPost_ret (v := .agg #[.int .u64 u.a.toNat, .int .u64 u.b.toNat, .int .u64 u.c.toNat, .int .u64 u.d.toNat]) (by simp [results, Tryz.results119, go_sem, k0, k1, k2, k3]) rfl ⟨rfl, ?_⟩
  exact below4 ((((Below.refl _ _).alloc (Nat.le_refl _) _).alloc (by simp) _).trans (hb.mono (by simp; omega))) (by omega) _ _ _ _
set_option maxHeartbeats 400000 in
theorem setAll_any (w : World) : Calls Tryz.prog 85 #[] w fun e w' => e = .returned (cv CSet.all) ∧ Below w.heap.size w w' := by
  have hc := fun W => setNot_any CSet.zero W
  have HC := hid hc
  clear hc
  unfold CSet.all
  generalize CSet.zero.not = u at HC ⊢
  unfold cv CSet.zero at HC
  unfold cv
  go_enter Tryz.func85, Tryz.ntmps85
  go_wp2_with (go_at_call 119; refine (HC.out _).mono ?_; rintro e w' ⟨rfl, hb⟩; obtain ⟨hc, hf⟩ := bcell hb; have hz : w.heap.size < w'.heap.size := by have := hb.size; simp at this; omega)
  have hk := set4 (w := w') (g := w.heap.size) (T := 87) (v0 := .int .u64 0) (v1 := .int .u64 0) (v2 := .int .u64 0) (v3 := .int .u64 0) (blk_below (by simpa using blk_new w _) hb) (.int .u64 u.a.toNat) (.int .u64 u.b.toNat) (.int .u64 u.c.toNat) (.int .u64 u.d.toNat)
  obtain ⟨k0, k1, k2, k3⟩ := hk
  refine bodyPost_ret (v := .agg #[.int .u64 u.a.toNat, .int .u64 u.b.toNat, .int .u64 u.c.toNat, .int .u64 u.d.toNat]) (by simp [results, Tryz.results85, go_sem, k0, k1, k2, k3]) rfl ⟨rfl, ?_⟩
  exact below4 (((Below.refl _ _).alloc (Nat.le_refl _) _).trans (hb.mono (by simp))) (by omega) _ _ _ _

end Go.Proofs.YtfpfloahkibcgaaGreatDoor

/- '==' of sets; set.Empty. -/
namespace Go.Proofs.YtfpfloahkibcgaaGreatDoor
open Go.RowKit
theorem run_equalIn_array4 {P : Program} (w : World) (d : Nat) (t e : TypeId) (k : IntKind) (a0 a1 a2 a3 b0 b1 b2 b3 : Int) (ht : P.underlying t = some (.array 4 e)) (he : P.underlying e = some (.int k))
    (hz : ∀ w, (sizeOf e).run P w = .ok 1 w) (hg : ∀ w, (isAgg e).run P w = .ok false w) :
    (Op.equalIn (d + 2) t (.agg #[.int k a0, .int k a1, .int k a2, .int k a3]) (.agg #[.int k b0, .int k b1, .int k b2, .int k b3])).run P w = .ok (a0 == b0 && a1 == b1 && a2 == b2 && a3 == b3) w := by
  simp only [Op.equalIn, Sem.run_bind, run_underlying ht, Result.andThen_ok, hz]
  simp [List.range'_succ, Sem.run_bind, part, hz, hg, run_underlying he, List.forIn_cons, Sem.run_ite, go_sem]
  by_cases h0 : a0 = b0 <;> by_cases h1 : a1 = b1 <;> by_cases h2 : a2 = b2 <;> by_cases h3 : a3 = b3 <;> simp [h0, h1, h2, h3]

theorem CSet.beq_words (s t : CSet) : ((s.a.toNat : Int) == t.a.toNat && (s.b.toNat : Int) == t.b.toNat && (s.c.toNat : Int) == t.c.toNat && (s.d.toNat : Int) == t.d.toNat) = decide (s = t) := by
  rw [Bool.eq_iff_iff]
  obtain ⟨a, b, c, d⟩ := s
  obtain ⟨a', b', c', d'⟩ := t
  simp only [Bool.and_eq_true, beq_iff_eq, decide_eq_true_eq, CSet.mk.injEq, ← BitVec.toNat_inj]
  omega

/-- '==' of two sets. -/
theorem run_eql_set (s t : CSet) (w : World) : (binOp .eql 87 (.agg #[.int .u64 s.a.toNat, .int .u64 s.b.toNat, .int .u64 s.c.toNat, .int .u64 s.d.toNat]) (.agg #[.int .u64 t.a.toNat, .int .u64 t.b.toNat, .int .u64 t.c.toNat, .int .u64 t.d.toNat])).run Tryz.prog w = .ok (.bool (decide (s = t))) w := by
  rw [run_eql_struct, show (10000 : Nat) = 9998 + 2 from rfl, run_equalIn_array4 w 9998 87 85 .u64 _ _ _ _ _ _ _ _ (by kernel_rfl) Tryz.underlying85 Tryz.sizeOf85 Tryz.isAgg85, CSet.beq_words]
  rfl
theorem run_neq_set (s t : CSet) (w : World) : (binOp .neq 87 (.agg #[.int .u64 s.a.toNat, .int .u64 s.b.toNat, .int .u64 s.c.toNat, .int .u64 s.d.toNat]) (.agg #[.int .u64 t.a.toNat, .int .u64 t.b.toNat, .int .u64 t.c.toNat, .int .u64 t.d.toNat])).run Tryz.prog w = .ok (.bool (!decide (s = t))) w := by
  rw [run_neq_struct, show (10000 : Nat) = 9998 + 2 from rfl, run_equalIn_array4 w 9998 87 85 .u64 _ _ _ _ _ _ _ _ (by kernel_rfl) Tryz.underlying85 Tryz.sizeOf85 Tryz.isAgg85, CSet.beq_words]
  rfl

set_option maxHeartbeats 400000 in
theorem setEmpty_any (s : CSet) (w : World) : Calls Tryz.prog 88 #[cv s] w fun e w' => e = .returned (.bool (decide (s = CSet.zero))) ∧ Below w.heap.size w w' := by
  have hq : ∀ W, (binOp .eql 87 (.agg #[.int .u64 s.a.toNat, .int .u64 s.b.toNat, .int .u64 s.c.toNat, .int .u64 s.d.toNat]) (.agg #[.int .u64 0, .int .u64 0, .int .u64 0, .int .u64 0])).run Tryz.prog W = .ok (.bool (decide (s = CSet.zero))) W := fun W => run_eql_set s CSet.zero W
  have hm : ∀ (op : BinOp) (x y : Operand) (xs ys : Array Value) (W : World), (eqGuard op 87 x y (.agg xs) (.agg ys)).run Tryz.prog W = .ok () W := fun op x y xs ys W => run_eqGuard_agg W op _ x y xs ys (by kernel_rfl)
  unfold cv
  generalize decide (s = CSet.zero) = r at hq ⊢
  go_enter Tryz.func88, Tryz.ntmps88
  go_wp2
  go_ret
  exact ⟨rfl, (Below.refl _ _).alloc (Nat.le_refl _) _⟩
end Go.Proofs.YtfpfloahkibcgaaGreatDoor

/- The walks of set.Of and set.From. -/
namespace Go.Proofs.YtfpfloahkibcgaaGreatDoor
open Go.RowKit

def setCells (s : CSet) : Array Value := #[.int .u64 s.a.toNat, .int .u64 s.b.toNat, .int .u64 s.c.toNat, .int .u64 s.d.toNat]
/-- What stands at the head of a round of set.Of and set.From. -/
def OfRel (w : World) (s : CSet) (wr : World) : Prop :=
  wr.heap[w.heap.size]? = some (.cells #[.int .u64 0, .int .u64 0, .int .u64 0, .int .u64 0] 87 (0, 0)) ∧ wr.heap[w.heap.size + 1]? = some (.cells (setCells s) 87 (0, 0)) ∧ Below w.heap.size w wr
theorem OfRel.step {w wr : World} {s : CSet} (h : OfRel w s wr) (b : Nat) (hb : b < 256) : OfRel w (s.add b) (wr.setCell ⟨w.heap.size + 1, b / 64, none⟩ (.int .u64 (s.word (b / 64) ||| BitVec.twoPow 64 (b % 64)).toNat)) := by
  obtain ⟨h1, h2, h3⟩ := h
  refine ⟨blk_far h1 _ _ (by show _ ≠ w.heap.size + 1; omega), ?_, h3.setCell (p := ⟨w.heap.size + 1, b / 64, none⟩) (by show w.heap.size ≤ w.heap.size + 1; omega) _⟩
  rw [blk_set h2]
  congr 2
  unfold CSet.add
  rcases (by omega : b / 64 = 0 ∨ b / 64 = 1 ∨ b / 64 = 2 ∨ b / 64 = 3) with e | e | e | e <;> rw [e] <;> simp [setCells, CSet.put]
theorem OfRel.cell {w wr : World} {s : CSet} (h : OfRel w s wr) (q : Nat) (hq : q < 4) : wr.cell? ⟨w.heap.size + 1, q, none⟩ = some (.int .u64 (s.word q).toNat) ∧ wr.frozen? ⟨w.heap.size + 1, q, none⟩ = false := by
  refine ⟨(blk_cell h.2.1 q).trans ?_, blk_free h.2.1 q⟩
  rcases (by omega : q = 0 ∨ q = 1 ∨ q = 2 ∨ q = 3) with rfl | rfl | rfl | rfl <;> simp [setCells, CSet.word]
theorem CSet.ofList_snoc (l : List Nat) (b : Nat) : CSet.ofList (l ++ [b]) = (CSet.ofList l).add b := by simp [CSet.ofList]
theorem wrap_pow (k : Nat) (hk : k < 64) : IntKind.u64.wrap ((2 : Int) ^ k) = (2 : Int) ^ k := by
  rw [IntKind.wrap_u64]
  have h1 : (2 : Nat) ^ k < 2 ^ 64 := Nat.pow_lt_pow_right (by omega) hk
  rw [show (2 : Nat) ^ 64 = 18446744073709551616 from rfl] at h1
  have h2 : ((2 : Int) ^ k) = ((2 ^ k : Nat) : Int) := (Int.natCast_pow 2 k).symm
  have h3 : ((2 ^ k : Nat) : Int) < 18446744073709551616 := by omega
  rw [h2]
  exact Int.emod_eq_of_lt (Int.natCast_nonneg _) h3

set_option maxHeartbeats 1000000 in
theorem setOf_any (A : Option Addr) (n c : Nat) (l : List Nat) (w : World) (hl : ∀ b ∈ l, b < 256) (hr : Rd w A n (l.map fun b : Nat => Value.int .u8 (b : Int))) (hn : n ≤ 1000000) :
    Calls Tryz.prog 83 #[.slice A n c] w fun e w' => e = .returned (cv (CSet.ofList l)) ∧ Below w.heap.size w w' := by
  have hln : l.length = n := by simpa using hr.1
  have HL := hid hl
  have HR := hid hr
  have HN := hid hln
  clear hl hr hln
  obtain ⟨u, hu⟩ : ∃ u, u = CSet.ofList l := ⟨_, rfl⟩
  rw [← hu]
  have HU := hid hu
  clear hu
  unfold cv
  go_enter Tryz.func83, Tryz.ntmps83
  go_wp2_with fail
  go_loopw [8] (fun i wr => ∃ k : Nat, k ≤ n ∧ i = .int .i64 k ∧ OfRel w (CSet.ofList (l.take k)) wr) (fun i _ => n - (intOf i).toNat)
  case atStart => exact ⟨0, by omega, rfl, blk_alloc (blk_new _ _) _, by simpa [CSet.ofList, CSet.zero, setCells] using blk_new (w.alloc _) _, ((Below.refl _ _).alloc (Nat.le_refl _) _).alloc (by simp) _⟩
  case round =>
    obtain ⟨k, hk, rfl, hr⟩ := hrel
    by_cases hlt : k < n
    · obtain ⟨g, o, rfl, hg, hc⟩ := HR.out.2 (by omega)
      have hkl : k < l.length := by rw [HN.out]; exact hlt
      have hb : l[k] < 256 := HL.out _ (List.getElem_mem _)
      have hcell := hc k _ (by rw [List.getElem?_map, List.getElem?_eq_getElem hkl]; rfl)
      have hcell' := (hr.2.2.cell (p := ⟨g, o + k, none⟩) hg).trans hcell
      clear hcell hc
      have HST := hid (hr.step l[k] hb)
      have hce := hr.cell (l[k] / 64) (by omega)
      have hsn : CSet.ofList (l.take (k + 1)) = (CSet.ofList (l.take k)).add l[k] := by rw [List.take_succ_eq_append_getElem hkl, CSet.ofList_snoc]
      rw [← hsn] at HST
      have HO := bits_add64 ((CSet.ofList (l.take k)).word (l[k] / 64)) (l[k] % 64) (by omega)
      have HW := wrap_pow (l[k] % 64) (by omega)
      generalize CSet.ofList (l.take k) = s at *
      generalize hbb : l[k] = b at *
      clear hsn hbb hr
      simp only [] at hcell'
      rcases (by omega : b / 64 = 0 ∨ b / 64 = 1 ∨ b / 64 = 2 ∨ b / 64 = 3) with e | e | e | e
      all_goals
        have hq : (b : Int) / 64 = ((b / 64 : Nat) : Int) := by omega
        rw [e] at hq HO HST hce
        generalize s.word _ ||| BitVec.twoPow 64 (b % 64) = x at HO HST
        obtain ⟨hce, hfr⟩ := hce
        generalize s.word _ = y at HO hce
        clear e
        go_wp2_with fail
        go_roundw
        case rel => exact ⟨k + 1, by omega, by go_num, HST.out⟩
        case measure => simp [intOf]; omega
    · have hkn : k = n := by omega
      subst hkn
      have htk : l.take k = l := List.take_of_length_le (by rw [HN.out]; exact Nat.le_refl _)
      rw [htk, ← HU.out] at hr
      have f0 := blk_free hr.1 0; have f1 := blk_free hr.1 1; have f2 := blk_free hr.1 2; have f3 := blk_free hr.1 3
      have d0 := blk_cell hr.1 0; have d1 := blk_cell hr.1 1; have d2 := blk_cell hr.1 2; have d3 := blk_cell hr.1 3
      simp at d0 d1 d2 d3
      have c0 := (hr.cell 0 (by omega)).1; have c1 := (hr.cell 1 (by omega)).1; have c2 := (hr.cell 2 (by omega)).1; have c3 := (hr.cell 3 (by omega)).1
      simp only [CSet.word] at c0 c1 c2 c3
      obtain ⟨k0, k1, k2, k3⟩ := set4 hr.1 (.int .u64 u.a.toNat) (.int .u64 u.b.toNat) (.int .u64 u.c.toNat) (.int .u64 u.d.toNat)
      have HB := hid hr.2.2
      clear hr htk hlt
      go_wp2_with fail
      refine bodyPost_ret (v := .agg #[.int .u64 u.a.toNat, .int .u64 u.b.toNat, .int .u64 u.c.toNat, .int .u64 u.d.toNat]) (by simp [results, Tryz.results83, go_sem, k0, k1, k2, k3]) rfl ⟨rfl, ?_⟩
      exact below4 HB.out (Nat.le_refl _) _ _ _ _

theorem and63_i64 (b : Nat) (hb : b < 256) : bits .and .i64 (b : Int) 63 = ((b % 64 : Nat) : Int) := by
  have h : ∀ b : Fin 256, bits .and .i64 (b.val : Int) 63 = ((b.val % 64 : Nat) : Int) := by decide +kernel
  exact h ⟨b, hb⟩
theorem CSet.fromN_succ (low j : Nat) : CSet.fromN low (j + 1) = (CSet.fromN low j).add (low + j) := by
  unfold CSet.fromN
  rw [List.range_succ, List.map_append]
  exact CSet.ofList_snoc _ _

set_option maxHeartbeats 1000000 in
theorem setFrom_any (low high : Nat) (w : World) (hl : low < 256) (hh : high < 256) :
    Calls Tryz.prog 47 #[.int .u8 low, .int .u8 high] w fun e w' => e = .returned (cv (CSet.fromN low (high + 1 - low))) ∧ Below w.heap.size w w' := by
  obtain ⟨u, hu⟩ : ∃ u, u = CSet.fromN low (high + 1 - low) := ⟨_, rfl⟩
  rw [← hu]
  have HU := hid hu
  clear hu
  unfold cv
  go_enter Tryz.func47, Tryz.ntmps47
  go_wp2_with fail
  go_loopw [6] (fun i wr => ∃ j : Nat, j ≤ high + 1 - low ∧ i = .int .i64 ((low + j : Nat) : Int) ∧ OfRel w (CSet.fromN low j) wr) (fun i _ => 256 - (intOf i).toNat)
  case atStart => exact ⟨0, by omega, by simp, blk_alloc (blk_new _ _) _, by simpa [CSet.fromN, CSet.ofList, CSet.zero, setCells] using blk_new (w.alloc _) _, ((Below.refl _ _).alloc (Nat.le_refl _) _).alloc (by simp) _⟩
  case round =>
    obtain ⟨j, hk, rfl, hr⟩ := hrel
    by_cases hlt : j < high + 1 - low
    · have hb : low + j < 256 := by omega
      have hle : low + j ≤ high := by omega
      have HST := hid (hr.step (low + j) hb)
      have hce := hr.cell ((low + j) / 64) (by omega)
      rw [← CSet.fromN_succ] at HST
      have HA := and63_i64 (low + j) hb
      have HO := bits_add64 ((CSet.fromN low j).word ((low + j) / 64)) ((low + j) % 64) (by omega)
      have HW := wrap_pow ((low + j) % 64) (by omega)
      have HB := hid (show low + j = low + j from rfl)
      clear hr
      generalize CSet.fromN low j = s at *
      obtain ⟨b, hbb⟩ : ∃ b, b = low + j := ⟨_, rfl⟩
      rw [← hbb] at HST hce HO HW hb hle HA ⊢
      have HBB := hid hbb
      clear hbb HB
      rcases (by omega : b / 64 = 0 ∨ b / 64 = 1 ∨ b / 64 = 2 ∨ b / 64 = 3) with e | e | e | e
      all_goals
        have hq : (b : Int) / 64 = ((b / 64 : Nat) : Int) := by omega
        rw [e] at hq HO HST hce
        generalize s.word _ ||| BitVec.twoPow 64 (b % 64) = x at HO HST
        obtain ⟨hce, hfr⟩ := hce
        generalize s.word _ = y at HO hce
        clear e
        go_wp2_with fail
        go_region
        go_wp2_with fail
        go_roundw
        case rel =>
          refine ⟨j + 1, by omega, ?_, HST.out.1, HST.out.2.1, HST.out.2.2.drew⟩
          have := HBB.out
          rw [show ((low + (j + 1) : Nat) : Int) = (b : Int) + 1 by omega]
        case measure => simp [intOf]; omega
    · have hjj : j = high + 1 - low := by omega
      subst hjj
      rw [← HU.out] at hr
      have f0 := blk_free hr.1 0; have f1 := blk_free hr.1 1; have f2 := blk_free hr.1 2; have f3 := blk_free hr.1 3
      have d0 := blk_cell hr.1 0; have d1 := blk_cell hr.1 1; have d2 := blk_cell hr.1 2; have d3 := blk_cell hr.1 3
      simp at d0 d1 d2 d3
      have c0 := (hr.cell 0 (by omega)).1; have c1 := (hr.cell 1 (by omega)).1; have c2 := (hr.cell 2 (by omega)).1; have c3 := (hr.cell 3 (by omega)).1
      simp only [CSet.word] at c0 c1 c2 c3
      obtain ⟨k0, k1, k2, k3⟩ := set4 hr.1 (.int .u64 u.a.toNat) (.int .u64 u.b.toNat) (.int .u64 u.c.toNat) (.int .u64 u.d.toNat)
      have HB := hid hr.2.2
      have hgt : high < low + (high + 1 - low) := by omega
      clear hr hlt hk
      generalize low + (high + 1 - low) = b at hgt ⊢
      go_wp2_with fail
      refine bodyPost_ret (v := .agg #[.int .u64 u.a.toNat, .int .u64 u.b.toNat, .int .u64 u.c.toNat, .int .u64 u.d.toNat]) (by simp [results, Tryz.results47, go_sem, k0, k1, k2, k3]) rfl ⟨rfl, ?_⟩
      exact below4 HB.out (Nat.le_refl _) _ _ _ _
end Go.Proofs.YtfpfloahkibcgaaGreatDoor
