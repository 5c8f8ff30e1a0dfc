/- How expressions lie in memory: the words that the contracts use. -/
import Derived.Test.YtihloigpdcinkaaDoorAlg
import Derived.Test.YtihloigpdcinkaaDoorRows
import Derived.WalkKit
import Derived.WalkSpells
import Derived.WalkLawsBesides
import Derived.Maps.AppendAt
import Derived.Deep.AppendLies
import Derived.Deep.RegionWith
import Derived.Deep.RegionLaw
import Derived.Deep.QuietTactic
import Derived.BigQuiet
import Derived.Deep.LoopGhost
import Derived.LoopN
import Derived.IntWalk
import Derived.Deep.Draws
import Derived.Shelf.Abstract
namespace Go.Proofs.YtihloigpdcinkaaDoor
open Go.RowKit

theorem hid {p : Prop} (h : p) : Hid p := h
/-- A pointer to the head of block b. -/
abbrev ptr (b : Nat) : Value := .pointer (some ⟨b, 0, none⟩)

/-- The slice value '.slice A n c' holds the cells xs: nothing is asked of A where there is none. -/
def Rd (w : World) (A : Option Addr) (n : Nat) (xs : List Value) : Prop :=
  xs.length = n ∧ (0 < n → ∃ g o, A = some ⟨g, o, none⟩ ∧ g < w.heap.size ∧ ∀ j u, xs[j]? = some u → w.cell? ⟨g, o + j, none⟩ = some u)

theorem lt_of_heap {w : World} {b : Nat} {o : Obj} (h : w.heap[b]? = some o) : b < w.heap.size := by
  rcases Nat.lt_or_ge b w.heap.size with hlt | hge
  · exact hlt
  · rw [Array.getElem?_eq_none hge] at h; cases h

/-- Blocks over a store, a new block. -/
theorem blk_set {w : World} {g : Nat} {cs : Array Value} {t : TypeId} {f : Nat × Nat} (h : w.heap[g]? = some (.cells cs t f)) (i : Nat) (u : Value) :
    (w.setCell ⟨g, i, none⟩ u).heap[g]? = some (.cells (cs.setIfInBounds i u) t f) := by simp [World.setCell, Array.getElem?_modify, h]
theorem blk_far {w : World} {g : Nat} {o : Obj} (h : w.heap[g]? = some o) (p : Addr) (u : Value) (hp : g ≠ p.block) : (w.setCell p u).heap[g]? = some o := (Below.heap_setCell w p u g hp).trans h
theorem blk_alloc {w : World} {g : Nat} {o : Obj} (h : w.heap[g]? = some o) (o' : Obj) : (w.alloc o').heap[g]? = some o := (Below.heap_alloc w o' g (lt_of_heap h)).trans h
theorem blk_new (w : World) (o : Obj) : (w.alloc o).heap[w.heap.size]? = some o := heap_alloc_new w o
theorem blk_below {w w' : World} {g : Nat} {o : Obj} (h : w.heap[g]? = some o) (hb : Below w.heap.size w w') : w'.heap[g]? = some o := (hb.block g (lt_of_heap h)).trans h
theorem blk_cell {w : World} {g : Nat} {cs : Array Value} {t : TypeId} {f : Nat × Nat} (h : w.heap[g]? = some (.cells cs t f)) (i : Nat) : w.cell? ⟨g, i, none⟩ = cs[i]? := cell_of_row w g i cs t f h
theorem blk_free {w : World} {g : Nat} {cs : Array Value} {t : TypeId} (h : w.heap[g]? = some (.cells cs t (0, 0))) (i : Nat) : w.frozen? ⟨g, i, none⟩ = false := by simp [World.frozen?, h]
theorem size_setCell (w : World) (p : Addr) (u : Value) : (w.setCell p u).heap.size = w.heap.size := by simp [World.setCell]

/-- What the walk takes out of 'Below': cells and marks of old blocks. -/
theorem bcell {W w1 : World} (hb : Below W.heap.size W w1) : (∀ b o, b < W.heap.size → w1.cell? ⟨b, o, none⟩ = W.cell? ⟨b, o, none⟩) ∧ (∀ b o, b < W.heap.size → w1.frozen? ⟨b, o, none⟩ = W.frozen? ⟨b, o, none⟩) :=
  ⟨fun b o h => hb.cell (p := ⟨b, o, none⟩) h, fun b o h => hb.frozen (p := ⟨b, o, none⟩) h⟩

theorem set4 {w : World} {g : Nat} {T : TypeId} {v0 v1 v2 v3 : Value} (h : w.heap[g]? = some (.cells #[v0, v1, v2, v3] T (0, 0))) (x0 x1 x2 x3 : Value) :
    let W := (((w.setCell ⟨g, 0, none⟩ x0).setCell ⟨g, 1, none⟩ x1).setCell ⟨g, 2, none⟩ x2).setCell ⟨g, 3, none⟩ x3
    W.cell? ⟨g, 0, none⟩ = some x0 ∧ W.cell? ⟨g, 1, none⟩ = some x1 ∧ W.cell? ⟨g, 2, none⟩ = some x2 ∧ W.cell? ⟨g, 3, none⟩ = some x3 := by
  have hW := blk_set (blk_set (blk_set (blk_set h 0 x0) 1 x1) 2 x2) 3 x3
  exact ⟨(blk_cell hW 0).trans (by simp), (blk_cell hW 1).trans (by simp), (blk_cell hW 2).trans (by simp), (blk_cell hW 3).trans (by simp)⟩
theorem below4 {w0 w : World} {g : Nat} (h : Below w0.heap.size w0 w) (hg : w0.heap.size ≤ g) (x0 x1 x2 x3 : Value) :
    Below w0.heap.size w0 ((((w.setCell ⟨g, 0, none⟩ x0).setCell ⟨g, 1, none⟩ x1).setCell ⟨g, 2, none⟩ x2).setCell ⟨g, 3, none⟩ x3) :=
  (((h.setCell (p := ⟨g, 0, none⟩) hg _).setCell (p := ⟨g, 1, none⟩) hg _).setCell (p := ⟨g, 2, none⟩) hg _).setCell (p := ⟨g, 3, none⟩) hg _

theorem cell0_new (w : World) (x : Value) (T : TypeId) : (w.alloc (.cells #[x] T)).cell? ⟨w.heap.size, 0, none⟩ = some x := (blk_cell (blk_new w _) 0).trans (by simp)
theorem le_alloc {n : Nat} {w : World} (h : n ≤ w.heap.size) (o : Obj) : n ≤ (w.alloc o).heap.size := by simp; omega

theorem Rd.nil {w : World} {A : Option Addr} : Rd w A 0 [] := ⟨rfl, fun h => absurd h (by omega)⟩
/-- Blocks below the heap's size, but those of X, are as they were. -/
def Keeps (X : Nat → Prop) (w w' : World) : Prop := w.heap.size ≤ w'.heap.size ∧ ∀ k, k < w.heap.size → ¬ X k → w'.heap[k]? = w.heap[k]?
theorem Keeps.refl (X : Nat → Prop) (w : World) : Keeps X w w := ⟨Nat.le_refl _, fun _ _ _ => rfl⟩
theorem Keeps.trans {X : Nat → Prop} {a b c : World} (h : Keeps X a b) (k : Keeps X b c) : Keeps X a c :=
  ⟨Nat.le_trans h.1 k.1, fun i hi hx => (k.2 i (Nat.lt_of_lt_of_le hi h.1) hx).trans (h.2 i hi hx)⟩
theorem Keeps.of_below {X : Nat → Prop} {w w' : World} (h : Below w.heap.size w w') : Keeps X w w' := ⟨h.size, fun k hk _ => h.block k hk⟩
theorem Keeps.of_grown {X : Nat → Prop} {w w' : World} {row : Option Nat} (h : w.grownBy w' row) (hx : ∀ k, row = some k → X k) : Keeps X w w' :=
  ⟨h.size, fun k hk hne => h.block k hk fun e => hne (hx k e.symm)⟩
theorem Keeps.mono {X Y : Nat → Prop} {w w' : World} (h : Keeps X w w') (hxy : ∀ k, k < w.heap.size → X k → Y k) : Keeps Y w w' := ⟨h.1, fun k hk hy => h.2 k hk fun hx => hy (hxy k hk hx)⟩
theorem Keeps.set_ {X : Nat → Prop} (w : World) (p : Addr) (u : Value) (h : X p.block) : Keeps X w (w.setCell p u) :=
  ⟨by simp [World.setCell], fun k _ hne => Below.heap_setCell _ _ _ _ (fun e => hne (e ▸ h))⟩
theorem Keeps.alloc (X : Nat → Prop) (w : World) (o : Obj) : Keeps X w (w.alloc o) := ⟨by simp, fun k hk _ => Below.heap_alloc _ _ _ hk⟩

theorem Rd.keep {X : Nat → Prop} {w w' : World} {A : Option Addr} {n : Nat} {xs : List Value} (h : Rd w A n xs) (hA : ∀ a, 0 < n → A = some a → ¬ X a.block) (hk : Keeps X w w') : Rd w' A n xs :=
  ⟨h.1, fun hn => by
    obtain ⟨g, o, rfl, hg, hc⟩ := h.2 hn
    refine ⟨g, o, rfl, Nat.lt_of_lt_of_le hg hk.1, fun j u hu => ?_⟩
    rw [World.cell?_of_block (w := w) (a := ⟨g, o + j, none⟩) (hk.2 g hg (hA _ hn rfl))]
    exact hc j u hu⟩
theorem Rd.below {w w' : World} {A : Option Addr} {n : Nat} {xs : List Value} (h : Rd w A n xs) (hk : Below w.heap.size w w') : Rd w' A n xs :=
  h.keep (X := fun _ => False) (fun _ _ _ => id) (Keeps.of_below hk)

/-- The cells of an expression's block: kids in the slice '.slice A n c'. -/
def reCells (r : Re) (A : Option Addr) (c : Nat) : Array Value :=
  #[.int .i64 r.op, .int .u64 r.set.a.toNat, .int .u64 r.set.b.toNat, .int .u64 r.set.c.toNat, .int .u64 r.set.d.toNat, .slice A r.kids.length c, .bool r.null, .string ⟨r.key.toArray⟩, .int .i64 r.size]

/-- A capacity that fits. -/
def CapOk (n : Nat) (A : Option Addr) (c : Nat) : Prop := n ≤ c ∧ (A = none → c = 0)
/-- BLOCK b HOLDS THE EXPRESSION r, and none of the blocks that it leads to is one of X. -/
inductive ReAt (w : World) (X : Nat → Prop) : Re → Nat → Prop
  | mk (r : Re) (b : Nat) (A : Option Addr) (c : Nat) (bs : List Nat) (hX : ¬ X b)
      (hb : w.heap[b]? = some (.cells (reCells r A c) 44 (0, 0)))
      (hc : CapOk r.kids.length A c)
      (hA : Rd w A r.kids.length (bs.map ptr)) (hAX : ∀ a, 0 < r.kids.length → A = some a → ¬ X a.block)
      (hks : ∀ (i : Nat) (k : Re) (b' : Nat), r.kids[i]? = some k → bs[i]? = some b' → ReAt w X k b') : ReAt w X r b

theorem ReAt.lt {w : World} {X : Nat → Prop} {r : Re} {b : Nat} (h : ReAt w X r b) : b < w.heap.size := by
  match h with
  | .mk _ _ _ _ _ _ hb _ _ _ _ => exact lt_of_heap hb

theorem ReAt.keep {w w' : World} {X Y : Nat → Prop} {r : Re} {b : Nat} (h : ReAt w X r b) (hk : Keeps Y w w') (hYX : ∀ k, Y k → X k) : ReAt w' X r b := by
  induction h with
  | mk r b A c bs hX hb hc hA hAX hks ih =>
    exact ReAt.mk r b A c bs hX ((hk.2 b (lt_of_heap hb) fun h => hX (hYX b h)).trans hb) hc (hA.keep (fun a ha h => fun hy => hAX a ha h (hYX _ hy)) hk) hAX ih
theorem ReAt.under {w w' : World} {X : Nat → Prop} {r : Re} {b : Nat} (h : ReAt w X r b) (hk : Below w.heap.size w w') : ReAt w' X r b :=
  h.keep (Y := fun _ => False) (Keeps.of_below hk) (fun _ h => h.elim)
/-- Blocks that are not yet there, and blocks that are forbidden anyway. -/
theorem ReAt.also {w : World} {X Y : Nat → Prop} {r : Re} {b : Nat} (h : ReAt w X r b) (hY : ∀ k, Y k → k < w.heap.size → X k) : ReAt w Y r b := by
  induction h with
  | mk r b A c bs hX hb hc hA hAX hks ih =>
    refine ReAt.mk r b A c bs (fun h => hX (hY _ h (lt_of_heap hb))) hb hc hA (fun a ha e h => ?_) ih
    obtain ⟨g, o, e', hg, _⟩ := hA.2 ha
    rw [e] at e'
    cases e'
    exact hAX _ ha e (hY _ h hg)

/-- What a walk reads of an expression. -/
theorem ReAt.cells {w : World} {X : Nat → Prop} {r : Re} {b : Nat} (h : ReAt w X r b) : ∃ (A : Option Addr) (c : Nat) (bs : List Nat), w.heap[b]? = some (.cells (reCells r A c) 44 (0, 0)) ∧ CapOk r.kids.length A c ∧ Rd w A r.kids.length (bs.map ptr) ∧
    (∀ a, 0 < r.kids.length → A = some a → ¬ X a.block) ∧ ∀ (i : Nat) (k : Re) (b' : Nat), r.kids[i]? = some k → bs[i]? = some b' → ReAt w X k b' := by
  match h with
  | .mk _ _ A c bs _ hb hc hA hAX hks => exact ⟨A, c, bs, hb, hc, hA, hAX, hks⟩

/-- Expressions at the heads of blocks, one each. -/
def Els (w : World) (X : Nat → Prop) (rs : List Re) (bs : List Nat) : Prop := rs.length = bs.length ∧ ∀ (i : Nat) (r : Re) (b : Nat), rs[i]? = some r → bs[i]? = some b → ReAt w X r b
theorem Els.nil {w : World} {X : Nat → Prop} : Els w X [] [] := ⟨rfl, fun i r b h => by simp at h⟩
theorem Els.keep {w w' : World} {X Y : Nat → Prop} {rs : List Re} {bs : List Nat} (h : Els w X rs bs) (hk : Keeps Y w w') (hYX : ∀ k, Y k → X k) : Els w' X rs bs := ⟨h.1, fun i r b h1 h2 => (h.2 i r b h1 h2).keep hk hYX⟩
theorem Els.below {w w' : World} {X : Nat → Prop} {rs : List Re} {bs : List Nat} (h : Els w X rs bs) (hk : Below w.heap.size w w') : Els w' X rs bs := ⟨h.1, fun i r b h1 h2 => (h.2 i r b h1 h2).under hk⟩
theorem Els.also {w : World} {X Y : Nat → Prop} {rs : List Re} {bs : List Nat} (h : Els w X rs bs) (hY : ∀ k, Y k → k < w.heap.size → X k) : Els w Y rs bs := ⟨h.1, fun i r b h1 h2 => (h.2 i r b h1 h2).also hY⟩
theorem Els.append {w : World} {X : Nat → Prop} {rs rs' : List Re} {bs bs' : List Nat} (h : Els w X rs bs) (h' : Els w X rs' bs') : Els w X (rs ++ rs') (bs ++ bs') := by
  refine ⟨by simp [h.1, h'.1], fun i r b h1 h2 => ?_⟩
  by_cases hi : i < rs.length
  · rw [List.getElem?_append_left hi] at h1
    rw [List.getElem?_append_left (by rw [← h.1]; exact hi)] at h2
    exact h.2 i r b h1 h2
  · rw [List.getElem?_append_right (by omega)] at h1
    rw [List.getElem?_append_right (by rw [← h.1]; omega), ← h.1] at h2
    exact h'.2 _ r b h1 h2
theorem Els.one {w : World} {X : Nat → Prop} {r : Re} {b : Nat} (h : ReAt w X r b) : Els w X [r] [b] := by
  refine ⟨rfl, fun i r' b' h1 h2 => ?_⟩
  match i, h1, h2 with
  | 0, h1, h2 => simp at h1 h2; subst h1; subst h2; exact h

/-- The slice of an argument: its cells are pointers to expressions; its own row is not one of X. -/
def ReRow (w : World) (X : Nat → Prop) (A : Option Addr) (n : Nat) (rs : List Re) (bs : List Nat) : Prop :=
  Rd w A n (bs.map ptr) ∧ Els w X rs bs ∧ ∀ a, 0 < n → A = some a → ¬ X a.block
theorem ReRow.below {w w' : World} {X : Nat → Prop} {A : Option Addr} {n : Nat} {rs : List Re} {bs : List Nat} (h : ReRow w X A n rs bs) (hk : Below w.heap.size w w') : ReRow w' X A n rs bs := ⟨h.1.below hk, h.2.1.below hk, h.2.2⟩
theorem ReRow.keep {w w' : World} {X Y : Nat → Prop} {A : Option Addr} {n : Nat} {rs : List Re} {bs : List Nat} (h : ReRow w X A n rs bs) (hk : Keeps Y w w') (hYX : ∀ k, Y k → X k) : ReRow w' X A n rs bs :=
  ⟨h.1.keep (fun a ha e hy => h.2.2 a ha e (hYX _ hy)) hk, h.2.1.keep hk hYX, h.2.2⟩
theorem ReRow.also {w : World} {X Y : Nat → Prop} {A : Option Addr} {n : Nat} {rs : List Re} {bs : List Nat} (h : ReRow w X A n rs bs) (hY : ∀ k, Y k → k < w.heap.size → X k) : ReRow w Y A n rs bs := by
  refine ⟨h.1, h.2.1.also hY, fun a ha e hy => ?_⟩
  obtain ⟨g, o, e', hg, _⟩ := h.1.2 ha
  rw [e] at e'
  cases e'
  exact h.2.2 _ ha e (hY _ hy hg)
theorem ReRow.length {w : World} {X : Nat → Prop} {A : Option Addr} {n : Nat} {rs : List Re} {bs : List Nat} (h : ReRow w X A n rs bs) : rs.length = n ∧ bs.length = n := by
  have h1 := h.1.1; have h2 := h.2.1.1
  simp at h1; omega
/-- An element of such a slice. -/
theorem ReRow.at_ {w : World} {X : Nat → Prop} {A : Option Addr} {n : Nat} {rs : List Re} {bs : List Nat} (h : ReRow w X A n rs bs) {k : Nat} (hk : k < n) :
    ∃ g o r b, A = some ⟨g, o, none⟩ ∧ w.cell? ⟨g, o + k, none⟩ = some (ptr b) ∧ rs[k]? = some r ∧ bs[k]? = some b ∧ ReAt w X r b ∧ g < w.heap.size := by
  obtain ⟨g, o, e, hg, hc⟩ := h.1.2 (by omega)
  obtain ⟨h1, h2⟩ := h.length
  have hr : rs[k]? = some rs[k] := List.getElem?_eq_getElem (by omega)
  have hb : bs[k]? = some bs[k] := List.getElem?_eq_getElem (by omega)
  exact ⟨g, o, _, _, e, hc k _ (by rw [List.getElem?_map, hb]; rfl), hr, hb, h.2.1.2 k _ _ hr hb, hg⟩

/-- The kids of an expression, as a slice. -/
theorem ReAt.row {w : World} {X : Nat → Prop} {r : Re} {b : Nat} (h : ReAt w X r b) : ∃ (A : Option Addr) (c : Nat) (bs : List Nat), w.heap[b]? = some (.cells (reCells r A c) 44 (0, 0)) ∧ CapOk r.kids.length A c ∧ ReRow w X A r.kids.length r.kids bs := by
  obtain ⟨A, c, bs, h1, h2, h3, h4, h5⟩ := h.cells
  exact ⟨A, c, bs, h1, h2, h3, ⟨by have := h3.1; simp at this; omega, h5⟩, h4⟩

/-- The cells of the block, one by one, for a walk. -/
theorem cellsOf {w : World} {b : Nat} {r : Re} {A : Option Addr} {c : Nat} (h : w.heap[b]? = some (.cells (reCells r A c) 44 (0, 0))) :
    w.cell? ⟨b, 0, none⟩ = some (.int .i64 r.op) ∧ w.cell? ⟨b, 1, none⟩ = some (.int .u64 r.set.a.toNat) ∧ w.cell? ⟨b, 2, none⟩ = some (.int .u64 r.set.b.toNat) ∧ w.cell? ⟨b, 3, none⟩ = some (.int .u64 r.set.c.toNat) ∧
    w.cell? ⟨b, 4, none⟩ = some (.int .u64 r.set.d.toNat) ∧ w.cell? ⟨b, 5, none⟩ = some (.slice A r.kids.length c) ∧ w.cell? ⟨b, 6, none⟩ = some (.bool r.null) ∧ w.cell? ⟨b, 7, none⟩ = some (.string ⟨r.key.toArray⟩) ∧
    w.cell? ⟨b, 8, none⟩ = some (.int .i64 r.size) := by
  simp [World.cell?, h, reCells]

/-- WHAT A CALL THAT MAKES AN EXPRESSION COMES TO: a pointer to r; what lay below stands; forbidden blocks below stay forbidden. -/
def RetRe (w : World) (X : Nat → Prop) (r : Re) (e : Ending) (w' : World) : Prop := ∃ b, e = .returned (ptr b) ∧ ReAt w' X r b ∧ Below w.heap.size w w'

/-- The call's own row of pointers. -/
def OwnP (w : World) (base : Nat) (v : Value) (bs : List Nat) : Prop := w.ownsRow base 27 1 v bs.length (bs.map ptr)
/-- X and the row's own block. -/
def Xo (X : Nat → Prop) (v : Value) : Nat → Prop := fun k => X k ∨ v.ownBlock = some k
theorem OwnP.nil (w : World) (base : Nat) : OwnP w base (.slice none 0 0) [] := World.ownsRow_nil w base _ 1
theorem OwnP.kept {w w' : World} {base : Nat} {v : Value} {bs : List Nat} (h : OwnP w base v bs) (hk : Below w.heap.size w w') : OwnP w' base v bs := by
  unfold OwnP at h ⊢
  refine h.kept (row := none) ⟨hk.os, hk.tape, hk.output, hk.size, fun k hk' _ => hk.block k hk'⟩ ?_
  cases hv : v.ownBlock <;> simp
/-- Read as an argument's slice. -/
theorem OwnP.rd {w : World} {base : Nat} {A : Option Addr} {n c : Nat} {bs : List Nat} (h : OwnP w base (.slice A n c) bs) : n = bs.length ∧ CapOk n A c ∧ Rd w A n (bs.map ptr) := by
  unfold OwnP at h
  rcases h.2 with ⟨h1, h2⟩ | ⟨g, cap, cur, h1, hb, hh, hn, hm, hs, ht⟩
  · cases h1
    exact ⟨h2.symm, ⟨Nat.le_refl _, fun _ => rfl⟩, by simp [h2], fun h => absurd h (by omega)⟩
  · cases h1
    refine ⟨rfl, ⟨hn, fun h => by cases h⟩, by simp, fun _ => ⟨g, 0, rfl, lt_of_heap hh, fun j u hu => ?_⟩⟩
    rw [cell_of_row w g (0 + j) _ _ _ hh, Nat.zero_add, ← hu, ← ht, Nat.mul_one]
    have hj : j < bs.length := by
      have := (List.getElem?_eq_some_iff.1 hu).1
      simpa using this
    rw [List.getElem?_take, if_pos hj, Array.getElem?_toList]
theorem OwnP.form {w : World} {base : Nat} {v : Value} {bs : List Nat} (h : OwnP w base v bs) : ∃ A c, v = .slice A bs.length c := by
  unfold OwnP at h
  rcases h.2 with ⟨h1, h2⟩ | ⟨g, cap, cur, h1, _⟩
  · exact ⟨none, 0, by rw [h1, h2]⟩
  · exact ⟨_, _, h1⟩

/-- A set as a value. -/
abbrev cv (s : CSet) : Value := .agg #[.int .u64 s.a.toNat, .int .u64 s.b.toNat, .int .u64 s.c.toNat, .int .u64 s.d.toNat]
end Go.Proofs.YtihloigpdcinkaaDoor
