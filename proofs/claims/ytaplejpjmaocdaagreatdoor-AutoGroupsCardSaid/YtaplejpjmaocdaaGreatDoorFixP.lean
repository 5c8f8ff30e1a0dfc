/- Plain: pairs of states told apart, from the ends back, until there are no more; groups counted as they are met. -/
import Derived.Test.YtaplejpjmaocdaaGreatDoorPkU
import Derived.Test.YtaplejpjmaocdaaGreatDoorFnA
namespace Go.Proofs.YtaplejpjmaocdaaGreatDoor
open Go.RowKit Go.Maps

/-- A bit of two numbers. -/
abbrev Bits := Nat → Nat → Bool
/-- How many pairs below n aren't told apart. -/
def falses (n : Nat) (m : Bits) : Nat := ((List.range n).map fun p => ((List.range n).filter fun q => !m p q).length).sum
def bset (m : Bits) (p q : Nat) : Bits := fun x y => if x = p ∧ y = q then true else m x y
theorem sum_le {α : Type} (l : List α) (f g : α → Nat) (h : ∀ x ∈ l, f x ≤ g x) : (l.map f).sum ≤ (l.map g).sum := by
  induction l with
  | nil => exact Nat.le_refl _
  | cons x l ih =>
    simp only [List.map_cons, List.sum_cons]
    have h1 := h x (List.mem_cons_self ..)
    have h2 := ih fun y hy => h y (List.mem_cons_of_mem _ hy)
    omega
theorem sum_lt {α : Type} (l : List α) (f g : α → Nat) (h : ∀ x ∈ l, f x ≤ g x) (z : α) (hz : z ∈ l) (hlt : f z < g z) : (l.map f).sum < (l.map g).sum := by
  induction l with
  | nil => cases hz
  | cons x l ih =>
    simp only [List.map_cons, List.sum_cons]
    have h1 := h x (List.mem_cons_self ..)
    rcases List.mem_cons.1 hz with rfl | hz
    · have := sum_le l f g fun y hy => h y (List.mem_cons_of_mem _ hy)
      omega
    · have := ih (fun y hy => h y (List.mem_cons_of_mem _ hy)) hz
      omega
theorem falses_set {n : Nat} {m : Bits} {p q : Nat} (hp : p < n) (hq : q < n) (h : m p q = false) : falses n (bset m p q) < falses n m := by
  have hle : ∀ x y, (!bset m p q x y) = true → (!m x y) = true := fun x y hxy => by
    unfold bset at hxy
    split at hxy
    · cases hxy
    · exact hxy
  refine sum_lt _ _ _ (fun x _ => filter_le _ _ _ (hle x)) p (List.mem_range.2 hp) (filter_lt _ _ _ (hle p) q (List.mem_range.2 hq) ?_ ?_)
  · simp [bset]
  · simp [h]
theorem falses_ext {n : Nat} {m m' : Bits} (h : ∀ p q, p < n → q < n → m p q = m' p q) : falses n m = falses n m' := by
  unfold falses
  congr 1
  refine List.map_congr_left fun p hp => ?_
  congr 1
  refine List.filter_congr fun q hq => ?_
  rw [h p q (List.mem_range.1 hp) (List.mem_range.1 hq)]
section
variable {δ : Nat → Nat → Nat} {yes : Nat → Bool} {hs : List Nat} {n : Nat}
/-- What is told apart is so: the ends at least. -/
structure Snd (δ : Nat → Nat → Nat) (yes : Nat → Bool) (hs : List Nat) (n : Nat) (m : Bits) : Prop where
  sound : ∀ p q, p < n → q < n → m p q = true → ¬ Ner δ yes hs p q
  base : ∀ p q, p < n → q < n → yes p ≠ yes q → m p q = true
theorem Snd.start (m : Bits) (h : ∀ p q, p < n → q < n → m p q = (yes p != yes q)) : Snd δ yes hs n m where
  sound p q hp hq hm hn := by
    have e : yes p = yes q := hn [] fun b hb => by cases hb
    rw [h p q hp hq, e] at hm
    simp at hm
  base p q hp hq hne := by
    rw [h p q hp hq]
    simpa using hne
theorem Snd.put {m : Bits} (h : Snd δ yes hs n m) {p q x : Nat} (hx : x ∈ hs) (h256 : x < 256) (ha : δ p x < n) (hb : δ q x < n) (hm : m (δ p x) (δ q x) = true) : Snd δ yes hs n (bset m p q) where
  sound p' q' hp hq hm' := by
    unfold bset at hm'
    split at hm'
    · rename_i e
      obtain ⟨rfl, rfl⟩ := e
      intro hn
      refine h.sound _ _ ha hb hm fun t ht => ?_
      have e : (UInt8.ofNat x).toNat = x := by simp; omega
      have := hn (UInt8.ofNat x :: t) fun b hb => by
        rcases List.mem_cons.1 hb with rfl | hb
        · rw [e]; exact hx
        · exact ht b hb
      unfold runN at this ⊢
      rw [List.foldl_cons, List.foldl_cons, e] at this
      exact this
    · exact h.sound _ _ hp hq hm'
  base p' q' hp hq hne := by
    unfold bset
    split
    · rfl
    · exact h.base _ _ hp hq hne
/-- Nothing more is told apart by the triples that P holds of. -/
def Clo (δ : Nat → Nat → Nat) (hs : List Nat) (n : Nat) (m : Bits) (P : Nat → Nat → Nat → Prop) : Prop := ∀ p q j x, P p q j → p < n → q < n → hs[j]? = some x → m (δ p x) (δ q x) = true → m p q = true
/-- The end: just what some text tells apart. -/
theorem Snd.done {m : Bits} (h : Snd δ yes hs n m) (hc : Clo δ hs n m fun p _ _ => p < n) (hcl : ∀ q x, q < n → x ∈ hs → δ q x < n) : ∀ p q, p < n → q < n → (m p q = true ↔ ¬ Ner δ yes hs p q) := fun p q hp hq => by
  refine ⟨h.sound p q hp hq, fun hn => ?_⟩
  refine Classical.byContradiction fun hm => hn fun t ht => ?_
  clear hn
  induction t generalizing p q with
  | nil =>
    show yes p = yes q
    exact Classical.byContradiction fun hne => hm (h.base p q hp hq hne)
  | cons b t ih =>
    have hb : b.toNat ∈ hs := ht b (List.mem_cons_self ..)
    obtain ⟨j, hj⟩ := List.getElem?_of_mem hb
    have hm' : ¬ m (δ p b.toNat) (δ q b.toNat) = true := fun e => hm (hc p q j _ hp hp hq hj e)
    have := ih _ _ (hcl p _ hp hb) (hcl q _ hq hb) hm' fun b hb => ht b (List.mem_cons_of_mem _ hb)
    unfold runN at this ⊢
    rw [List.foldl_cons, List.foldl_cons]
    exact this
/-- What holds within a round: of the triples that P holds of. -/
structure RI (δ : Nat → Nat → Nat) (yes : Nat → Bool) (hs : List Nat) (n k0 : Nat) (m : Bits) (b : Bool) (P : Nat → Nat → Nat → Prop) : Prop where
  snd : Snd δ yes hs n m
  le : falses n m ≤ k0
  yes_ : b = true → falses n m < k0
  no : b = false → Clo δ hs n m P
theorem RI.mono {k0 : Nat} {m : Bits} {b : Bool} {P Q : Nat → Nat → Nat → Prop} (h : RI δ yes hs n k0 m b P) (hq : ∀ p q j, p < n → q < n → j < hs.length → Q p q j → P p q j) : RI δ yes hs n k0 m b Q :=
  { h with no := fun e p q j x hQ hp hq' hj hm => h.no e p q j x (hq p q j hp hq' (List.getElem?_eq_some_iff.1 hj).1 hQ) hp hq' hj hm }
theorem RI.stay {k0 : Nat} {m : Bits} {b : Bool} {P : Nat → Nat → Nat → Prop} (h : RI δ yes hs n k0 m b P) {p q j x : Nat} (hj : hs[j]? = some x) (hm : m (δ p x) (δ q x) = true → m p q = true) : RI δ yes hs n k0 m b (fun p' q' j' => P p' q' j' ∨ (p' = p ∧ q' = q ∧ j' = j)) :=
  ⟨h.snd, h.le, h.yes_, fun e p' q' j' x' hP hp hq hj' hm' => by
    rcases hP with hP | ⟨rfl, rfl, rfl⟩
    · exact h.no e p' q' j' x' hP hp hq hj' hm'
    · rw [hj] at hj'
      cases hj'
      exact hm hm'⟩
theorem RI.put {k0 : Nat} {m : Bits} {b : Bool} {P Q : Nat → Nat → Nat → Prop} (h : RI δ yes hs n k0 m b P) {p q x : Nat} (hp : p < n) (hq : q < n) (hx : x ∈ hs) (h256 : x < 256) (ha : δ p x < n) (hb : δ q x < n) (hm : m (δ p x) (δ q x) = true) (hno : m p q = false) : RI δ yes hs n k0 (bset m p q) true Q where
  snd := h.snd.put hx h256 ha hb hm
  le := Nat.le_trans (Nat.le_of_lt (falses_set hp hq hno)) h.le
  yes_ _ := Nat.lt_of_lt_of_le (falses_set hp hq hno) h.le
  no e := by cases e
theorem RI.start {k0 : Nat} {m : Bits} {Q : Nat → Nat → Nat → Prop} (h : Snd δ yes hs n m) (hk : falses n m = k0) (hQ : ∀ p q j, p < n → q < n → j < hs.length → ¬ Q p q j) : RI δ yes hs n k0 m false Q where
  snd := h
  le := Nat.le_of_eq hk
  yes_ e := by cases e
  no _ p q j x hP hp hq hj _ := absurd hP (hQ p q j hp hq (List.getElem?_eq_some_iff.1 hj).1)
/-- The triples ahead of one. -/
abbrev Bef (p q j : Nat) : Nat → Nat → Nat → Prop := fun p' q' j' => p' < p ∨ (p' = p ∧ (q' < q ∨ (q' = q ∧ j' < j)))
/-- Groups counted as they are met. -/
structure Cnt (G : List Nat) (p k : Nat) : Prop where
  met : ∀ g, g < k → ∃ y, G[g]? = some y ∧ y < p
  all : ∀ g y, G[g]? = some y → y < p → g < k
theorem Cnt.start (G : List Nat) : Cnt G 0 0 where
  met g h := by omega
  all g y h hy := by omega
theorem Cnt.step {al G : List Nat} {p k g : Nat} (h : Cnt G p k) (ho : GroupsOk δ yes hs n al G) (hp : p < n) (hg : al[p]? = some g) : g ≤ k ∧ Cnt G (p + 1) (if g = k then k + 1 else k) := by
  have hap : aN al p = g := by unfold aN; rw [List.getD_eq_getElem?_getD, hg]; rfl
  have hgl : g < G.length := by have := ho.num.small p hp; omega
  have hy : G[g]? = some G[g] := List.getElem?_eq_getElem hgl
  have hyp := ho.first p g _ hg hy
  have hle : g ≤ k := by
    refine Classical.byContradiction fun hn => ?_
    by_cases hlt : G[g] < p
    · have := h.all g _ hy hlt; omega
    · have e : G[g] = p := by omega
      have hk : k < G.length := by omega
      have hs := (List.pairwise_iff_getElem.1 ho.sorted) k g hk hgl (by omega)
      have := h.all k _ (List.getElem?_eq_getElem hk) (by omega)
      omega
  refine ⟨hle, ?_⟩
  by_cases hgk : g = k
  · rw [if_pos hgk]
    refine ⟨fun g' h' => ?_, fun g' y h1 h2 => ?_⟩
    · by_cases e : g' = k
      · exact ⟨G[g], by rw [e, ← hgk]; exact hy, by omega⟩
      · obtain ⟨y, h1, h2⟩ := h.met g' (by omega)
        exact ⟨y, h1, by omega⟩
    · by_cases e : y < p
      · have := h.all g' y h1 e; omega
      · have e : y = p := by omega
        have := ho.num.at_ g' y h1
        rw [e, hap] at this
        omega
  · rw [if_neg hgk]
    refine ⟨fun g' h' => ?_, fun g' y h1 h2 => ?_⟩
    · obtain ⟨y, h1, h2⟩ := h.met g' h'
      exact ⟨y, h1, by omega⟩
    · by_cases e : y < p
      · exact h.all g' y h1 e
      · have e : y = p := by omega
        have := ho.num.at_ g' y h1
        rw [e, hap] at this
        omega
theorem Cnt.done {al G : List Nat} {k : Nat} (h : Cnt G n k) (ho : GroupsOk δ yes hs n al G) : k = G.length := by
  have h1 : ¬ G.length < k := fun hl => by
    obtain ⟨y, h1, -⟩ := h.met G.length hl
    simp at h1
  have h2 : ¬ k < G.length := fun hl => by
    have := h.all k _ (List.getElem?_eq_getElem hl) (ho.num.lt _ (List.getElem_mem hl))
    omega
  omega
end
/-- Rows of bits in memory: the slice of slices in block g, row p in block f p. -/
structure Mat (w : World) (g n : Nat) (f : Nat → Nat) (m : Bits) : Prop where
  top : w.heap[g]? = some (.cells (fnA n fun p => .slice (some ⟨f p, 0, none⟩) n n) 65 (0, 0))
  row : ∀ p, p < n → w.heap[f p]? = some (.cells (fnA n fun q => .bool (m p q)) 4 (0, 0))
  apart : ∀ p q, p < n → q < n → f p = f q → p = q
section
variable {w w' : World} {g n : Nat} {f : Nat → Nat} {m : Bits}
theorem Mat.below (h : Mat w g n f m) (hb : Below w.heap.size w w') : Mat w' g n f m where
  top := blk_below h.top hb
  row p hp := blk_below (h.row p hp) hb
  apart := h.apart
theorem Mat.topc (h : Mat w g n f m) {p : Nat} (hp : p < n) : w.cell? ⟨g, p, none⟩ = some (.slice (some ⟨f p, 0, none⟩) n n) := (blk_cell h.top p).trans (fnA_get hp)
theorem Mat.cell (h : Mat w g n f m) {p q : Nat} (hp : p < n) (hq : q < n) : w.cell? ⟨f p, q, none⟩ = some (.bool (m p q)) := (blk_cell (h.row p hp) q).trans (fnA_get hq)
theorem Mat.free (h : Mat w g n f m) {p : Nat} (hp : p < n) (q : Nat) : w.frozen? ⟨f p, q, none⟩ = false := blk_free (h.row p hp) q
theorem Mat.ne (h : Mat w g n f m) {p q : Nat} (hp : p < n) (hq : q < n) : g ≠ f p := fun e => by
  have h1 := h.topc hq
  have h2 := h.cell hp hq
  rw [e, h2] at h1
  cases h1
theorem Mat.put (h : Mat w g n f m) {p q : Nat} (hp : p < n) : Mat (w.setCell ⟨f p, q, none⟩ (.bool true)) g n f (bset m p q) where
  top := blk_far h.top _ _ (h.ne hp hp)
  row p' hp' := by
    by_cases e : p' = p
    · subst e
      rw [blk_set (h.row p' hp) q (.bool true), fnA_set]
      congr 2
      refine fnA_ext fun i _ => ?_
      unfold bset
      by_cases hi : i = q <;> simp [hi]
    · rw [blk_far (h.row p' hp') _ _ (fun e' => e (h.apart p' p hp' hp e'))]
      congr 2
      refine fnA_ext fun i _ => ?_
      unfold bset
      simp [e]
  apart := h.apart
theorem set_below {b : Nat} {f : Nat → Nat} {w : World} {p : Nat} (q : Nat) (v : Value) (hf : b ≤ f p) (hz : b ≤ w.heap.size) : Below b w (w.setCell ⟨f p, q, none⟩ v) := KeepX.below (KeepX.set_ (X := fun k => k = f p) w ⟨f p, q, none⟩ v rfl) hz fun k hk e => by omega
theorem Mat.uniq {f' : Nat → Nat} {m' : Bits} (h : Mat w g n f m) (h' : Mat w g n f' m') : falses n m' = falses n m := by
  refine falses_ext fun p q hp hq => ?_
  have e : f' p = f p := by
    have := (h.topc hp).symm.trans (h'.topc hp)
    simp at this
    exact this.symm
  have h1 := h'.cell hp hq
  rw [e, h.cell hp hq] at h1
  simp at h1
  exact h1.symm
/-- How many aren't told apart, as the world has it. -/
noncomputable def left_ (g n : Nat) (w : World) : Nat := ghost (fun w k => ∃ f m, Mat w g n f m ∧ k = falses n m) w
theorem Mat.left_eq (h : Mat w g n f m) : left_ g n w = falses n m := ghost_eq ⟨f, m, h, rfl⟩ fun k' ⟨f', m', h', e⟩ => by rw [e]; exact h.uniq h'
end
/-- Rows that are made: the first k, the last of them up to place j. -/
structure MatU (w : World) (g n k : Nat) (f : Nat → Nat) (m : Bits) : Prop where
  top : w.heap[g]? = some (.cells (fnA n fun p => if p < k then .slice (some ⟨f p, 0, none⟩) n n else .slice none 0 0) 65 (0, 0))
  row : ∀ p, p < k → w.heap[f p]? = some (.cells (fnA n fun q => .bool (m p q)) 4 (0, 0))
  apart : ∀ p q, p < k → q < k → f p = f q → p = q
  ne : ∀ p, p < k → f p ≠ g
theorem MatU.below {w w' : World} {g n k : Nat} {f : Nat → Nat} {m : Bits} (h : MatU w g n k f m) (hb : Below w.heap.size w w') : MatU w' g n k f m where
  top := blk_below h.top hb
  row p hp := blk_below (h.row p hp) hb
  apart := h.apart
  ne := h.ne
theorem MatU.mat {w : World} {g n : Nat} {f : Nat → Nat} {m : Bits} (h : MatU w g n n f m) : Mat w g n f m where
  top := by rw [h.top]; congr 2; exact fnA_ext fun i hi => by simp [hi]
  row := h.row
  apart := h.apart
/-- One more row: its block is new. -/
theorem MatU.more {w w1 : World} {g n k : Nat} {f : Nat → Nat} {m : Bits} (h : MatU w g n k f m) (hb : Below w.heap.size w w1) (b : Nat) (hbk : w.heap.size ≤ b) (h1 : w1.heap[b]? = some (.cells (fnA n fun _ => .bool false) 4 (0, 0))) :
    MatU (w1.setCell ⟨g, k, none⟩ (.slice (some ⟨b, 0, none⟩) n n)) g n (k + 1) (fun p => if p = k then b else f p) (fun p q => if p = k then false else m p q) := by
  have hg := lt_of_heap h.top
  have hlt : ∀ p, p < k → f p < w.heap.size := fun p hp => lt_of_heap (h.row p hp)
  refine ⟨?_, fun p hp => ?_, fun p q hp hq e => ?_, fun p hp => ?_⟩
  · rw [blk_set (blk_below h.top hb) k _, fnA_set]
    congr 2
    refine fnA_ext fun i _ => ?_
    by_cases e : i = k
    · subst e; simp
    · by_cases h2 : i < k
      · rw [if_neg e, if_pos h2, if_pos (by omega)]; simp [e]
      · rw [if_neg e, if_neg h2, if_neg (by omega)]
  · by_cases e : p = k
    · subst e
      simp only [if_true]
      exact blk_far h1 _ _ (by show b ≠ g; omega)
    · simp only [e, if_false]
      exact blk_far (blk_below (h.row p (by omega)) hb) _ _ (by show f p ≠ g; exact h.ne p (by omega))
  · by_cases e1 : p = k <;> by_cases e2 : q = k <;> simp only [e1, e2, if_true, if_false] at e
    · omega
    · have := hlt q (by omega); omega
    · have := hlt p (by omega); omega
    · exact h.apart p q (by omega) (by omega) e
  · by_cases e1 : p = k <;> simp only [e1, if_true, if_false]
    · omega
    · exact h.ne p (by omega)
/-- A bit of the last row. -/
theorem MatU.put {w : World} {g n k : Nat} {f : Nat → Nat} {m : Bits} (h : MatU w g n (k + 1) f m) {q : Nat} (b : Bool) : MatU (w.setCell ⟨f k, q, none⟩ (.bool b)) g n (k + 1) f (fun x y => if x = k ∧ y = q then b else m x y) := by
  refine ⟨?_, fun p hp => ?_, h.apart, h.ne⟩
  · exact blk_far h.top _ _ (fun e => h.ne k (by omega) e.symm)
  · by_cases e : p = k
    · subst e
      rw [blk_set (h.row p hp) q (.bool b), fnA_set]
      congr 2
      refine fnA_ext fun i _ => ?_
      by_cases hi : i = q <;> simp [hi]
    · rw [blk_far (h.row p hp) _ _ (fun e' => e (h.apart p k hp (by omega) e'))]
      congr 2
      refine fnA_ext fun i _ => ?_
      simp [e]
theorem MatU.cells {w : World} {g n k : Nat} {f : Nat → Nat} {m : Bits} (h : MatU w g n k f m) {p q : Nat} (hp : p < k) (hk : k ≤ n) (hq : q < n) : w.cell? ⟨g, p, none⟩ = some (.slice (some ⟨f p, 0, none⟩) n n) ∧ w.cell? ⟨f p, q, none⟩ = some (.bool (m p q)) ∧ w.frozen? ⟨f p, q, none⟩ = false :=
  ⟨(blk_cell h.top p).trans ((fnA_get (by omega)).trans (by simp [hp])), (blk_cell (h.row p hp) q).trans (fnA_get hq), blk_free (h.row p hp) q⟩
theorem MatU.slot {w : World} {g n k : Nat} {f : Nat → Nat} {m : Bits} (h : MatU w g n k f m) {p : Nat} (hp : p < n) : (∃ v, w.cell? ⟨g, p, none⟩ = some v) ∧ w.frozen? ⟨g, p, none⟩ = false := ⟨⟨_, (blk_cell h.top p).trans (fnA_get hp)⟩, blk_free h.top p⟩
end Go.Proofs.YtaplejpjmaocdaaGreatDoor
