/- Plain: the states from which a text of them can be reached: found from the ends back, and by a search. -/
import Derived.Test.YtfpfloahkibcgaaGreatDoorFnA
namespace Go.Proofs.YtfpfloahkibcgaaGreatDoor
open Go.RowKit Go.Maps

/-- A state's next ones. -/
def Suc (nx : List (List Nat)) (q to : Nat) : Prop := ∃ row, nx[q]? = some row ∧ to ∈ row
inductive Liv (nx : List (List Nat)) (yes : Nat → Bool) : Nat → Prop
  | here (q : Nat) (h : yes q = true) : Liv nx yes q
  | next (q to : Nat) (h : Suc nx q to) (h' : Liv nx yes to) : Liv nx yes q
/-- How many states below n aren't live. -/
def falses1 (n : Nat) (l : Nat → Bool) : Nat := ((List.range n).filter fun q => !l q).length
def bput (l : Nat → Bool) (p : Nat) : Nat → Bool := fun x => if x = p then true else l x
theorem falses1_put {n : Nat} {l : Nat → Bool} {p : Nat} (hp : p < n) (h : l p = false) : falses1 n (bput l p) < falses1 n l := by
  refine filter_lt _ _ _ (fun x hx => ?_) p (List.mem_range.2 hp) ?_ ?_
  · unfold bput at hx
    split at hx
    · cases hx
    · exact hx
  · simp [bput]
  · simp [h]
theorem falses1_ext {n : Nat} {l l' : Nat → Bool} (h : ∀ p, p < n → l p = l' p) : falses1 n l = falses1 n l' := by
  unfold falses1
  congr 1
  refine List.filter_congr fun q hq => ?_
  rw [h q (List.mem_range.1 hq)]
/-- A row of bits in its block. -/
structure Bits1 (w : World) (g n : Nat) (l : Nat → Bool) : Prop where
  lt : g < w.heap.size
  cell : ∀ q, q < n → w.cell? ⟨g, q, none⟩ = some (.bool (l q))
  free : ∀ q, w.frozen? ⟨g, q, none⟩ = false
section
variable {w w' : World} {g n : Nat} {l : Nat → Bool}
theorem Bits1.below (h : Bits1 w g n l) (hb : Below w.heap.size w w') : Bits1 w' g n l := ⟨Nat.lt_of_lt_of_le h.lt hb.size, fun q hq => (hb.cell (p := ⟨g, q, none⟩) h.lt).trans (h.cell q hq), fun q => ((bcell hb).2 g q h.lt).trans (h.free q)⟩
theorem Bits1.of_fn (h : w.heap[g]? = some (.cells (fnA n fun q => .bool (l q)) 4 (0, 0))) : Bits1 w g n l := ⟨lt_of_heap h, fun q hq => (blk_cell h q).trans (fnA_get hq), fun q => blk_free h q⟩
theorem Bits1.put (h : Bits1 w g n l) {p : Nat} (hp : p < n) : Bits1 (w.setCell ⟨g, p, none⟩ (.bool true)) g n (bput l p) where
  lt := by rw [size_setCell]; exact h.lt
  cell q hq := by
    by_cases e : q = p
    · subst e
      rw [World.cell?_setCell_same w _ _ (h.cell q hq)]
      simp [bput]
    · rw [World.cell?_setCell_other w _ _ _ (fun e' => e (congrArg Addr.off e').symm), h.cell q hq]
      simp [bput, e]
  free q := by simp [h.free q]
theorem Bits1.far (h : Bits1 w g n l) (a : Addr) (v : Value) (ha : g ≠ a.block) : Bits1 (w.setCell a v) g n l where
  lt := by rw [size_setCell]; exact h.lt
  cell q hq := by rw [World.cell?_setCell_other w _ _ _ (fun e' => ha (congrArg Addr.block e').symm)]; exact h.cell q hq
  free q := by simp [h.free q]
theorem Bits1.uniq {l' : Nat → Bool} (h : Bits1 w g n l) (h' : Bits1 w g n l') : falses1 n l' = falses1 n l := by
  refine falses1_ext fun q hq => ?_
  have h1 := h'.cell q hq
  rw [h.cell q hq] at h1
  simp at h1
  exact h1.symm
noncomputable def left1 (g n : Nat) (w : World) : Nat := ghost (fun w k => ∃ l, Bits1 w g n l ∧ k = falses1 n l) w
theorem Bits1.left_eq (h : Bits1 w g n l) : left1 g n w = falses1 n l := ghost_eq ⟨l, h, rfl⟩ fun k' ⟨l', h', e⟩ => by rw [e]; exact h.uniq h'
end
section
variable {nx : List (List Nat)} {yes : Nat → Bool} {n k0 : Nat} {l : Nat → Bool} {b : Bool} {P Q : Nat → Nat → Prop}
structure SndL (nx : List (List Nat)) (yes : Nat → Bool) (n : Nat) (l : Nat → Bool) : Prop where
  sound : ∀ q, q < n → l q = true → Liv nx yes q
  base : ∀ q, q < n → yes q = true → l q = true
def CloL (nx : List (List Nat)) (n : Nat) (l : Nat → Bool) (P : Nat → Nat → Prop) : Prop := ∀ q j row to, P q j → q < n → nx[q]? = some row → row[j]? = some to → l to = true → l q = true
structure LRI (nx : List (List Nat)) (yes : Nat → Bool) (n k0 : Nat) (l : Nat → Bool) (b : Bool) (P : Nat → Nat → Prop) : Prop where
  snd : SndL nx yes n l
  le : falses1 n l ≤ k0
  yes_ : b = true → falses1 n l < k0
  no : b = false → CloL nx n l P
theorem LRI.mono (h : LRI nx yes n k0 l b P) (hq : ∀ q j row to, q < n → nx[q]? = some row → row[j]? = some to → Q q j → P q j) : LRI nx yes n k0 l b Q :=
  { h with no := fun e q j row to hQ hp h1 h2 hm => h.no e q j row to (hq q j row to hp h1 h2 hQ) hp h1 h2 hm }
theorem LRI.stay (h : LRI nx yes n k0 l b P) {q j to : Nat} {row : List Nat} (hr : nx[q]? = some row) (hj : row[j]? = some to) (hm : l to = true → l q = true) : LRI nx yes n k0 l b (fun q' j' => P q' j' ∨ (q' = q ∧ j' = j)) :=
  ⟨h.snd, h.le, h.yes_, fun e q' j' row' to' hP hp h1 h2 hm' => by
    rcases hP with hP | ⟨rfl, rfl⟩
    · exact h.no e q' j' row' to' hP hp h1 h2 hm'
    · rw [hr] at h1
      cases h1
      rw [hj] at h2
      cases h2
      exact hm hm'⟩
theorem LRI.put (h : LRI nx yes n k0 l b P) {q j to : Nat} {row : List Nat} (hq : q < n) (ht : to < n) (hr : nx[q]? = some row) (hj : row[j]? = some to) (hm : l to = true) (hno : l q = false) : LRI nx yes n k0 (bput l q) true Q where
  snd := ⟨fun q' hq' hl => by
    unfold bput at hl
    split at hl
    · rename_i e
      subst e
      exact .next _ to ⟨row, hr, List.mem_of_getElem? hj⟩ (h.snd.sound _ ht hm)
    · exact h.snd.sound _ hq' hl, fun q' hq' hy => by
    unfold bput
    split
    · rfl
    · exact h.snd.base _ hq' hy⟩
  le := Nat.le_trans (Nat.le_of_lt (falses1_put hq hno)) h.le
  yes_ _ := Nat.lt_of_lt_of_le (falses1_put hq hno) h.le
  no e := by cases e
theorem LRI.start (h : SndL nx yes n l) (hk : falses1 n l = k0) (hQ : ∀ q j row to, q < n → nx[q]? = some row → row[j]? = some to → ¬ Q q j) : LRI nx yes n k0 l false Q where
  snd := h
  le := Nat.le_of_eq hk
  yes_ e := by cases e
  no _ q j row to hP hq h1 h2 _ := absurd hP (hQ q j row to hq h1 h2)
theorem SndL.done (h : SndL nx yes n l) (hc : CloL nx n l fun q _ => q < n) (hcl : ∀ q to, q < n → Suc nx q to → to < n) : ∀ q, q < n → (l q = true ↔ Liv nx yes q) := fun q hq => by
  refine ⟨h.sound q hq, fun hL => ?_⟩
  induction hL with
  | here q hy => exact h.base q hq hy
  | next q to hs hL ih =>
    have ht := hcl q to hq hs
    obtain ⟨row, h1, h2⟩ := hs
    obtain ⟨j, hj⟩ := List.getElem?_of_mem h2
    exact hc q j row to hq hq h1 hj (ih ht)
abbrev BefL (q j : Nat) : Nat → Nat → Prop := fun q' j' => q' < q ∨ (q' = q ∧ j' < j)
/-- The law's search: the states that are met from one on. -/
structure Srch (nx : List (List Nat)) (yes : Nat → Bool) (n q0 : Nat) (L : List Nat) (seen : Nat → Bool) (i j : Nat) : Prop where
  lt : ∀ x ∈ L, x < n
  nd : L.Nodup
  mem : ∀ x, x < n → (seen x = true ↔ x ∈ L)
  start : q0 ∈ L
  back : ∀ x ∈ L, Liv nx yes x → Liv nx yes q0
  clo : ∀ (k : Nat) (x : Nat) (row : List Nat) (j' to : Nat), L[k]? = some x → nx[x]? = some row → row[j']? = some to → (k < i ∨ (k = i ∧ j' < j)) → to ∈ L
theorem Srch.begin {q0 : Nat} (h : q0 < n) : Srch nx yes n q0 [q0] (bput (fun _ => false) q0) 0 0 where
  lt x hx := by rw [List.mem_singleton.1 hx]; exact h
  nd := List.nodup_cons.2 ⟨by simp, List.nodup_nil⟩
  mem x _ := by unfold bput; by_cases e : x = q0 <;> simp [e]
  start := List.mem_singleton.2 rfl
  back x hx hL := by rw [List.mem_singleton.1 hx] at hL; exact hL
  clo k x row j' to _ _ _ h := by omega
theorem Srch.old {q0 i j x to : Nat} {L row : List Nat} {seen : Nat → Bool} (h : Srch nx yes n q0 L seen i j) (hx : L[i]? = some x) (hr : nx[x]? = some row) (hj : row[j]? = some to) (ht : to < n) (hs : seen to = true) : Srch nx yes n q0 L seen i (j + 1) :=
  ⟨h.lt, h.nd, h.mem, h.start, h.back, fun k x' row' j' to' h1 h2 h3 h4 => by
    by_cases e : k = i ∧ j' = j
    · obtain ⟨rfl, rfl⟩ := e
      rw [hx] at h1
      cases h1
      rw [hr] at h2
      cases h2
      rw [hj] at h3
      cases h3
      exact (h.mem to ht).1 hs
    · exact h.clo k x' row' j' to' h1 h2 h3 (by omega)⟩
theorem Srch.new {q0 i j x to : Nat} {L row : List Nat} {seen : Nat → Bool} (h : Srch nx yes n q0 L seen i j) (hx : L[i]? = some x) (hr : nx[x]? = some row) (hj : row[j]? = some to) (ht : to < n) (hs : seen to = false) : Srch nx yes n q0 (L ++ [to]) (bput seen to) i (j + 1) where
  lt y hy := by
    rcases List.mem_append.1 hy with hy | hy
    · exact h.lt y hy
    · rw [List.mem_singleton.1 hy]; exact ht
  nd := by
    rw [List.nodup_append]
    refine ⟨h.nd, List.nodup_cons.2 ⟨by simp, List.nodup_nil⟩, fun a ha b hb e => ?_⟩
    rw [List.mem_singleton.1 hb] at e
    rw [e] at ha
    have := (h.mem to ht).2 ha
    rw [hs] at this
    cases this
  mem y hy := by
    unfold bput
    by_cases e : y = to
    · simp [e]
    · simp [e, h.mem y hy]
  start := List.mem_append_left _ h.start
  back y hy hL := by
    rcases List.mem_append.1 hy with hy | hy
    · exact h.back y hy hL
    · rw [List.mem_singleton.1 hy] at hL
      exact h.back x (List.mem_of_getElem? hx) (.next x to ⟨row, hr, List.mem_of_getElem? hj⟩ hL)
  clo k x' row' j' to' h1 h2 h3 h4 := by
    have hil := (List.getElem?_eq_some_iff.1 hx).1
    have hk : k < L.length := by omega
    rw [List.getElem?_append_left hk] at h1
    by_cases e : k = i ∧ j' = j
    · obtain ⟨rfl, rfl⟩ := e
      rw [hx] at h1
      cases h1
      rw [hr] at h2
      cases h2
      rw [hj] at h3
      cases h3
      exact List.mem_append_right _ (List.mem_singleton.2 rfl)
    · exact List.mem_append_left _ (h.clo k x' row' j' to' h1 h2 h3 (by omega))
theorem Srch.turn {q0 i j : Nat} {L : List Nat} {seen : Nat → Bool} (h : Srch nx yes n q0 L seen i j) (hw : ∀ x row, L[i]? = some x → nx[x]? = some row → row.length ≤ j) : Srch nx yes n q0 L seen (i + 1) 0 :=
  ⟨h.lt, h.nd, h.mem, h.start, h.back, fun k x row j' to h1 h2 h3 h4 => by
    by_cases e : k = i
    · subst e
      exact h.clo k x row j' to h1 h2 h3 (.inr ⟨rfl, Nat.lt_of_lt_of_le (List.getElem?_eq_some_iff.1 h3).1 (hw x row h1 h2)⟩)
    · exact h.clo k x row j' to h1 h2 h3 (by omega)⟩
theorem Srch.len {q0 i j : Nat} {L : List Nat} {seen : Nat → Bool} (h : Srch nx yes n q0 L seen i j) : L.length ≤ n := nodup_le' h.nd h.lt
/-- Found, just where it is live. -/
theorem Srch.done {q0 : Nat} {L : List Nat} {seen : Nat → Bool} (h : Srch nx yes n q0 L seen L.length 0) : (∃ x ∈ L, yes x = true) ↔ Liv nx yes q0 := by
  constructor
  · rintro ⟨x, hx, hy⟩
    exact h.back x hx (.here x hy)
  · intro hL
    have : ∀ x, Liv nx yes x → x ∈ L → ∃ y ∈ L, yes y = true := fun x hL => by
      induction hL with
      | here q hy => exact fun hm => ⟨q, hm, hy⟩
      | next q to hs _ ih =>
        intro hm
        obtain ⟨row, h1, h2⟩ := hs
        obtain ⟨j, hj⟩ := List.getElem?_of_mem h2
        obtain ⟨k, hk⟩ := List.getElem?_of_mem hm
        exact ih (h.clo k q row j to hk h1 hj (.inl (List.getElem?_eq_some_iff.1 hk).1))
    exact this q0 hL h.start
end
end Go.Proofs.YtfpfloahkibcgaaGreatDoor
