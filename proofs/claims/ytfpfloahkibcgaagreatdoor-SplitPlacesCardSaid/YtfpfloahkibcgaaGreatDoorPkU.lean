/- PkU: GroupsP, GroupsW, GroupsW2, each with its own sentence. -/
import Derived.Test.YtfpfloahkibcgaaGreatDoorPkR
import Derived.Test.YtfpfloahkibcgaaGreatDoorPkS
import Derived.Test.YtfpfloahkibcgaaGreatDoorBuildW2
import Derived.WalkMore
/- Plain: states are put into groups, again and again, until there are no more. -/
namespace Go.Proofs.YtfpfloahkibcgaaGreatDoor

/-- Numbers, as they are first met. -/
structure Num (f : Nat → Nat) (n : Nat) (F : List Nat) : Prop where
  lt : ∀ x ∈ F, x < n
  at_ : ∀ (g x : Nat), F[g]? = some x → f x = g
  small : ∀ q, q < n → f q < F.length
/-- Two states that the last numbers and what is behind each byte don't tell apart. -/
def Alk (δ : Nat → Nat → Nat) (hs : List Nat) (a : Nat → Nat) (p q : Nat) : Prop := a p = a q ∧ ∀ h ∈ hs, a (δ p h) = a (δ q h)
/-- No text tells them apart. -/
def Ner (δ : Nat → Nat → Nat) (yes : Nat → Bool) (hs : List Nat) (p q : Nat) : Prop := ∀ t : Txt, (∀ b ∈ t, b.toNat ∈ hs) → yes (runN δ p t) = yes (runN δ q t)
section
variable {δ : Nat → Nat → Nat} {yes : Nat → Bool} {hs : List Nat} {a b : Nat → Nat} {n : Nat} {F G : List Nat}
theorem Alk.refl (p : Nat) : Alk δ hs a p p := ⟨rfl, fun _ _ => rfl⟩
theorem Alk.symm {p q : Nat} (h : Alk δ hs a p q) : Alk δ hs a q p := ⟨h.1.symm, fun x hx => (h.2 x hx).symm⟩
theorem Alk.trans {p q r : Nat} (h : Alk δ hs a p q) (h' : Alk δ hs a q r) : Alk δ hs a p r := ⟨h.1.trans h'.1, fun x hx => (h.2 x hx).trans (h'.2 x hx)⟩
theorem nodup_le {l : List Nat} {c : Nat} (hn : l.Nodup) (hs : ∀ x ∈ l, x < c) : l.length ≤ c := by
  have := hn.length_le_of_subset (l₂ := List.range c) fun x hx => List.mem_range.2 (hs x hx)
  simpa using this
theorem nodup_all {l : List Nat} {c : Nat} (hn : l.Nodup) (hs : ∀ x ∈ l, x < c) (hl : l.length = c) : ∀ v, v < c → v ∈ l := fun v hv => Classical.byContradiction fun hno => by
  have h := nodup_le (l := v :: l) (c := c) (List.nodup_cons.2 ⟨hno, hn⟩) (fun x hx => by
    rcases List.mem_cons.1 hx with rfl | hx
    · exact hv
    · exact hs x hx)
  simp at h
  omega
theorem Num.map_nodup (ha : Num a n F) (hr : ∀ p q, p < n → q < n → b p = b q → a p = a q) : (F.map b).Nodup := by
  unfold List.Nodup
  rw [List.pairwise_iff_getElem]
  intro i j hi hj hij e
  have hi' : i < F.length := by simpa using hi
  have hj' : j < F.length := by simpa using hj
  rw [List.getElem_map, List.getElem_map] at e
  have h1 := ha.at_ i F[i] (List.getElem?_eq_getElem hi')
  have h2 := ha.at_ j F[j] (List.getElem?_eq_getElem hj')
  have := hr _ _ (ha.lt _ (List.getElem_mem hi')) (ha.lt _ (List.getElem_mem hj')) e
  omega
/-- Finer numbers are no fewer. -/
theorem Num.le (ha : Num a n F) (hb : Num b n G) (hr : ∀ p q, p < n → q < n → b p = b q → a p = a q) : F.length ≤ G.length := by
  have := nodup_le (ha.map_nodup hr) (c := G.length) fun x hx => by
    obtain ⟨y, hy, rfl⟩ := List.mem_map.1 hx
    exact hb.small y (ha.lt y hy)
  simpa using this
/-- Finer numbers that are as many are the same. -/
theorem Num.same (ha : Num a n F) (hb : Num b n G) (hr : ∀ p q, p < n → q < n → b p = b q → a p = a q) (hl : F.length = G.length) : ∀ p q, p < n → q < n → a p = a q → b p = b q := fun p q hp hq e => by
  have hall := nodup_all (ha.map_nodup hr) (c := G.length) (fun x hx => by
    obtain ⟨y, hy, rfl⟩ := List.mem_map.1 hx
    exact hb.small y (ha.lt y hy)) (by simpa using hl)
  obtain ⟨x, hx, ex⟩ := List.mem_map.1 (hall _ (hb.small p hp))
  obtain ⟨y, hy, ey⟩ := List.mem_map.1 (hall _ (hb.small q hq))
  have h1 := hr x p (ha.lt x hx) hp ex
  have h2 := hr y q (ha.lt y hy) hq ey
  obtain ⟨i, hi⟩ := List.getElem?_of_mem hx
  obtain ⟨j, hj⟩ := List.getElem?_of_mem hy
  have h3 := ha.at_ i x hi
  have h4 := ha.at_ j y hj
  have hij : i = j := by omega
  subst hij
  rw [hi] at hj
  cases hj
  rw [← ex, ← ey]
/-- Numbers that are no finer than the texts tell. -/
structure Coarse (δ : Nat → Nat → Nat) (yes : Nat → Bool) (hs : List Nat) (n : Nat) (a : Nat → Nat) : Prop where
  ner : ∀ p q, p < n → q < n → Ner δ yes hs p q → a p = a q
  yes : ∀ p q, p < n → q < n → a p = a q → yes p = yes q
theorem Ner.step (h256 : ∀ h ∈ hs, h < 256) {p q h : Nat} (hn : Ner δ yes hs p q) (hh : h ∈ hs) : Ner δ yes hs (δ p h) (δ q h) := fun t ht => by
  have e : (UInt8.ofNat h).toNat = h := by have := h256 h hh; simp; omega
  have := hn (UInt8.ofNat h :: t) fun b hb => by
    rcases List.mem_cons.1 hb with rfl | hb
    · rw [e]; exact hh
    · exact ht b hb
  unfold runN at this
  rw [List.foldl_cons, List.foldl_cons, e] at this
  exact this
theorem Coarse.next (h256 : ∀ h ∈ hs, h < 256) (hcl : ∀ q h, q < n → h ∈ hs → δ q h < n) (ha : Coarse δ yes hs n a) (hb : ∀ p q, p < n → q < n → (b p = b q ↔ Alk δ hs a p q)) : Coarse δ yes hs n b where
  ner p q hp hq h := (hb p q hp hq).2 ⟨ha.ner p q hp hq h, fun x hx => ha.ner _ _ (hcl p x hp hx) (hcl q x hq hx) (h.step h256 hx)⟩
  yes p q hp hq e := ha.yes p q hp hq ((hb p q hp hq).1 e).1
/-- WHERE THERE ARE NO MORE, the groups are what texts tell apart. -/
theorem Coarse.done (hcl : ∀ q h, q < n → h ∈ hs → δ q h < n) (h256 : ∀ h ∈ hs, h < 256) (ha : Coarse δ yes hs n a) (hb : ∀ p q, p < n → q < n → (b p = b q ↔ Alk δ hs a p q)) (hs' : ∀ p q, p < n → q < n → a p = a q → b p = b q) :
    ∀ p q, p < n → q < n → (b p = b q ↔ Ner δ yes hs p q) := fun p q hp hq => by
  refine ⟨fun e t => ?_, fun h => (ha.next h256 hcl hb).ner p q hp hq h⟩
  induction t generalizing p q with
  | nil => exact fun _ => (ha.next h256 hcl hb).yes p q hp hq e
  | cons x t ih =>
    intro ht
    have hx := ht x (List.mem_cons_self ..)
    have h1 := ((hb p q hp hq).1 e).2 _ hx
    have h2 := hs' _ _ (hcl p _ hp hx) (hcl q _ hq hx) h1
    have := ih _ _ (hcl p _ hp hx) (hcl q _ hq hx) h2 fun b hb => ht b (List.mem_cons_of_mem _ hb)
    unfold runN at this ⊢
    rw [List.foldl_cons, List.foldl_cons]
    exact this
/-- The first one of those met before that is alike. -/
structure NextI (δ : Nat → Nat → Nat) (hs : List Nat) (a : Nat → Nat) (q : Nat) (next : List Nat) (G : List Nat) : Prop where
  len : next.length = q
  lt : ∀ x ∈ G, x < q
  at_ : ∀ (g x : Nat), G[g]? = some x → next[x]? = some g
  val : ∀ (x g : Nat), next[x]? = some g → ∃ y, G[g]? = some y ∧ Alk δ hs a x y
  apart : ∀ (i j x y : Nat), G[i]? = some x → G[j]? = some y → Alk δ hs a x y → i = j
  sorted : G.Pairwise (· < ·)
  first : ∀ (x g y : Nat), next[x]? = some g → G[g]? = some y → y ≤ x
theorem NextI.start : NextI δ hs a 0 [] [] where
  len := rfl
  lt x h := by cases h
  at_ g x h := by simp at h
  val x g h := by simp at h
  apart i j x y h := by simp at h
  sorted := List.Pairwise.nil
  first x g y h := by simp at h
theorem NextI.found {q g f : Nat} {next : List Nat} (h : NextI δ hs a q next G) (hf : G[g]? = some f) (ha : Alk δ hs a q f) : NextI δ hs a (q + 1) (next ++ [g]) G where
  len := by simp [h.len]
  lt x hx := by have := h.lt x hx; omega
  at_ i x hx := by
    have := h.at_ i x hx
    rw [List.getElem?_append_left (List.getElem?_eq_some_iff.1 this).1]
    exact this
  val x i hx := by
    by_cases hl : x < next.length
    · rw [List.getElem?_append_left hl] at hx
      exact h.val x i hx
    · rw [List.getElem?_append_right (by omega)] at hx
      have h0 : x - next.length = 0 := by
        have := (List.getElem?_eq_some_iff.1 hx).1
        simp at this
        omega
      rw [h0] at hx
      have e : g = i := by simpa using hx
      subst e
      have hxq : x = q := by have := h.len; omega
      subst hxq
      exact ⟨f, hf, ha⟩
  apart := h.apart
  sorted := h.sorted
  first x i y hx hy := by
    by_cases hl : x < next.length
    · rw [List.getElem?_append_left hl] at hx
      exact h.first x i y hx hy
    · have := h.lt y (List.mem_of_getElem? hy)
      have := h.len
      omega
theorem NextI.fresh {q : Nat} {next : List Nat} (h : NextI δ hs a q next G) (ha : ∀ (g f : Nat), G[g]? = some f → ¬ Alk δ hs a q f) : NextI δ hs a (q + 1) (next ++ [G.length]) (G ++ [q]) := by
  have hcase : ∀ (i x : Nat), (G ++ [q])[i]? = some x → G[i]? = some x ∨ (i = G.length ∧ x = q) := fun i x hx => by
    by_cases hl : i < G.length
    · rw [List.getElem?_append_left hl] at hx
      exact .inl hx
    · rw [List.getElem?_append_right (by omega)] at hx
      have h0 : i - G.length = 0 := by
        have := (List.getElem?_eq_some_iff.1 hx).1
        simp at this
        omega
      rw [h0] at hx
      exact .inr ⟨by omega, by simpa using hx.symm⟩
  have hold : ∀ (i x : Nat), G[i]? = some x → (G ++ [q])[i]? = some x := fun i x hx => by
    rw [List.getElem?_append_left (List.getElem?_eq_some_iff.1 hx).1]
    exact hx
  exact {
    len := by simp [h.len]
    lt := fun x hx => by
      rcases List.mem_append.1 hx with hx | hx
      · have := h.lt x hx; omega
      · rw [List.mem_singleton.1 hx]; omega
    at_ := fun i x hx => by
      rcases hcase i x hx with hx | ⟨rfl, rfl⟩
      · have := h.at_ i x hx
        rw [List.getElem?_append_left (List.getElem?_eq_some_iff.1 this).1]
        exact this
      · rw [List.getElem?_append_right (by rw [h.len]; exact Nat.le_refl _), h.len, Nat.sub_self]
        rfl
    val := fun x i hx => by
      by_cases hl : x < next.length
      · rw [List.getElem?_append_left hl] at hx
        obtain ⟨y, hy, hal⟩ := h.val x i hx
        exact ⟨y, hold i y hy, hal⟩
      · rw [List.getElem?_append_right (by omega)] at hx
        have h0 : x - next.length = 0 := by
          have := (List.getElem?_eq_some_iff.1 hx).1
          simp at this
          omega
        rw [h0] at hx
        have e : G.length = i := by simpa using hx
        subst e
        have hxq : x = q := by have := h.len; omega
        subst hxq
        exact ⟨x, by rw [List.getElem?_append_right (Nat.le_refl _), Nat.sub_self]; rfl, Alk.refl x⟩
    apart := fun i j x y h1 h2 hal => by
      rcases hcase i x h1 with e1 | ⟨rfl, rfl⟩ <;> rcases hcase j y h2 with e2 | ⟨rfl, rfl⟩
      · exact h.apart i j x y e1 e2 hal
      · exact absurd hal.symm (ha i x e1)
      · exact absurd hal (ha j y e2)
      · rfl
    sorted := by
      rw [List.pairwise_append]
      exact ⟨h.sorted, List.pairwise_singleton _ _, fun x hx y hy => by rw [List.mem_singleton.1 hy]; exact h.lt x hx⟩
    first := fun x i y hx hy => by
      have hyq : y ≤ q := by
        rcases hcase i y hy with e | ⟨-, rfl⟩
        · exact Nat.le_of_lt (h.lt y (List.mem_of_getElem? e))
        · exact Nat.le_refl _
      by_cases hl : x < next.length
      · rw [List.getElem?_append_left hl] at hx
        rcases hcase i y hy with e | ⟨rfl, rfl⟩
        · exact h.first x i y hx e
        · obtain ⟨z, hz, -⟩ := h.val x _ hx
          have := (List.getElem?_eq_some_iff.1 hz).1
          omega
      · have := h.len
        omega }
/-- All states are numbered. -/
theorem NextI.done {next : List Nat} (h : NextI δ hs a n next G) : Num (fun q => next.getD q 0) n G ∧ ∀ p q, p < n → q < n → (next.getD p 0 = next.getD q 0 ↔ Alk δ hs a p q) := by
  have hv : ∀ q, q < n → next[q]? = some (next.getD q 0) := fun q hq => by
    have hl : q < next.length := by rw [h.len]; exact hq
    rw [List.getD_eq_getElem?_getD, List.getElem?_eq_getElem hl]
    rfl
  refine ⟨⟨h.lt, fun g x hx => ?_, fun q hq => ?_⟩, fun p q hp hq => ⟨fun e => ?_, fun hal => ?_⟩⟩
  · have := h.at_ g x hx
    show next.getD x 0 = g
    rw [List.getD_eq_getElem?_getD, this]
    rfl
  · obtain ⟨y, hy, -⟩ := h.val q _ (hv q hq)
    exact (List.getElem?_eq_some_iff.1 hy).1
  · obtain ⟨y, hy, h1⟩ := h.val p _ (hv p hp)
    obtain ⟨z, hz, h2⟩ := h.val q _ (hv q hq)
    rw [e, hz] at hy
    cases hy
    exact h1.trans h2.symm
  · obtain ⟨y, hy, h1⟩ := h.val p _ (hv p hp)
    obtain ⟨z, hz, h2⟩ := h.val q _ (hv q hq)
    exact h.apart _ _ y z hy hz ((h1.symm.trans hal).trans h2)
end
end Go.Proofs.YtfpfloahkibcgaaGreatDoor

/- The walk of auto.alike. -/
namespace Go.Proofs.YtfpfloahkibcgaaGreatDoor
open Go.RowKit Go.Maps

/-- A finished row of numbers in its block. -/
def NumsAt (w : World) (g n : Nat) (l : List Nat) : Prop := w.heap[g]? = some (.cells (rowA n l) 3 (0, 0)) ∧ l.length = n
theorem NumsAt.cell {w : World} {g n i : Nat} {l : List Nat} (h : NumsAt w g n l) (hi : i < n) : w.cell? ⟨g, i, none⟩ = some (.int .i64 (l.getD i 0 : Nat)) := (blk_cell h.1 i).trans (rowA_get (by rw [h.2]; exact hi))
theorem NumsAt.below {w w' : World} {g n : Nat} {l : List Nat} (h : NumsAt w g n l) (hb : Below w.heap.size w w') : NumsAt w' g n l := ⟨blk_below h.1 hb, h.2⟩
abbrev aN (l : List Nat) (q : Nat) : Nat := l.getD q 0
/-- What a walk over a Dfa's states leans on. -/
structure DCon (w : World) (D n : Nat) (δ : Nat → Nat → Nat) (yes : Nat → Bool) : Prop where
  step : ∀ (W : World) (q b : Nat), Below w.heap.size w W → q < n → b < 256 → Calls Tryz.prog 115 #[ptr D, .int .i64 (q : Int), .int .u8 (b : Int)] W fun e w' => e = .returned (.int .i64 (δ q b : Nat)) ∧ Below W.heap.size W w'
  yes : ∀ (W : World) (q : Nat), Below w.heap.size w W → q < n → Calls Tryz.prog 114 #[ptr D, .int .i64 (q : Int)] W fun e w' => e = .returned (.bool (yes q)) ∧ W = w'
  len : ∀ (W : World), Below w.heap.size w W → Calls Tryz.prog 117 #[ptr D] W fun e w' => e = .returned (.int .i64 (n : Int)) ∧ W = w'
  closed : ∀ q b, q < n → b < 256 → δ q b < n
theorem DfaAt.con {w : World} {D : Nat} {F : Nat → Nat} {hs : List Nat} {nx : List (List Nat)} {ys : List Bool} (h : DfaAt w D F hs nx ys) (hok : DOk F hs nx ys) (hcl : ∀ q b, q < ys.length → b < 256 → dN F nx q b < ys.length) : DCon w D ys.length (dN F nx) (yN ys) where
  step W q b hW hq hb := by
    have := dstep_any D (q : Int) b hb F hs nx ys hok W (h.below hW)
    rw [stepD_dN F nx (by rw [hok.len]; exact hq) b] at this
    exact this
  yes W q hW hq := by
    have := dyes_any D (q : Int) F hs nx ys W (h.below hW)
    rw [yesD_yN ys hq] at this
    exact this
  len W hW := dlen_any D F hs nx ys W (h.below hW)
  closed := hcl
end Go.Proofs.YtfpfloahkibcgaaGreatDoor

/- The walk of auto.Groups. -/
namespace Go.Proofs.YtfpfloahkibcgaaGreatDoor
open Go.RowKit Go.Maps

theorem rowA_zero {n : Nat} {row : List Nat} (h : row.length < n) : rowA n (row ++ [0]) = rowA n row := by
  have e : n - row.length = (n - (row ++ [0]).length) + 1 := by simp; omega
  unfold rowA
  rw [e, List.replicate_succ, List.append_assoc]
  rfl
/-- The first numbers. -/
def a0 (yes : Nat → Bool) (q : Nat) : Nat := if yes q = yes 0 then 0 else 1
def a0s (yes : Nat → Bool) (k : Nat) : List Nat := (List.range k).map (a0 yes)
theorem a0s_len (yes : Nat → Bool) (k : Nat) : (a0s yes k).length = k := by simp [a0s]
theorem a0s_succ (yes : Nat → Bool) (k : Nat) : a0s yes (k + 1) = a0s yes k ++ [a0 yes k] := by simp [a0s, List.range_succ]
theorem a0s_at (yes : Nat → Bool) {n q : Nat} (h : q < n) : aN (a0s yes n) q = a0 yes q := by
  unfold aN a0s
  rw [List.getD_eq_getElem?_getD, List.getElem?_map, List.getElem?_range h]
  rfl
theorem coarse0 (δ : Nat → Nat → Nat) (yes : Nat → Bool) (hs : List Nat) (n : Nat) : Coarse δ yes hs n (aN (a0s yes n)) where
  ner p q hp hq h := by
    have e : yes p = yes q := h [] fun b hb => by cases hb
    rw [a0s_at yes hp, a0s_at yes hq]
    unfold a0
    rw [e]
  yes p q hp hq h := by
    rw [a0s_at yes hp, a0s_at yes hq] at h
    unfold a0 at h
    cases h1 : yes p <;> cases h2 : yes q <;> cases h3 : yes 0 <;> simp [h1, h2, h3] at h <;> rfl
def natsV (l : List Nat) : List Value := l.map fun (x : Nat) => Value.int .i64 (x : Int)
theorem natsV_len (l : List Nat) : (natsV l).length = l.length := by simp [natsV]
/-- What holds at the head of the outer loop. -/
structure GL (δ : Nat → Nat → Nat) (yes : Nat → Bool) (hs : List Nat) (n : Nat) (w5 w : World) (ga : Nat) (al : List Nat) (c : Nat) : Prop where
  at_ : NumsAt w ga n al
  kp : Below w5.heap.size w5 w
  co : Coarse δ yes hs n (aN al)
  nu : c = 0 ∨ ∃ F, Num (aN al) n F ∧ F.length = c
  le : c ≤ n
/-- .. of the next one. -/
structure G3 (δ : Nat → Nat → Nat) (hs : List Nat) (n : Nat) (w5 w : World) (ga gn base : Nat) (al : List Nat) (vf : Value) (q : Nat) (nx G : List Nat) : Prop where
  at_ : NumsAt w ga n al
  hn : w.heap[gn]? = some (.cells (rowA n nx) 3 (0, 0))
  hf : w.ownsRow base 3 1 vf (natsV G).length (natsV G)
  kp : Below w5.heap.size w5 w
  ni : NextI δ hs (aN al) q nx G
  o1 : ga < gn
  o2 : gn < base
  o3 : base ≤ w.heap.size
  o4 : w5.heap.size ≤ gn
section
variable {δ : Nat → Nat → Nat} {yes : Nat → Bool} {hs : List Nat} {n : Nat} {w5 w w' : World} {ga gn base q : Nat} {al nx G : List Nat} {vf vf' : Value}
theorem G3.below (h : G3 δ hs n w5 w ga gn base al vf q nx G) (hb : Below w.heap.size w w') : G3 δ hs n w5 w' ga gn base al vf q nx G :=
  { h with
    at_ := h.at_.below hb
    hn := blk_below h.hn hb
    hf := row_blk h.hf fun k e => hb.block k (World.ownsRow.lt h.hf k e).2
    kp := h.kp.trans (hb.mono h.kp.size)
    o3 := Nat.le_trans h.o3 hb.size }
theorem G3.cell (h : G3 δ hs n w5 w ga gn base al vf q nx G) (hq : q < n) : (∃ v, w.cell? ⟨gn, q, none⟩ = some v) ∧ w.frozen? ⟨gn, q, none⟩ = false := by
  obtain ⟨v, hv⟩ := rowA_some (n := n) (row := nx) hq (by rw [h.ni.len]; omega)
  exact ⟨⟨v, (blk_cell h.hn q).trans hv⟩, blk_free h.hn q⟩
/-- The number of a state that is alike to one that was met. -/
theorem G3.found {g f : Nat} (h : G3 δ hs n w5 w ga gn base al vf q nx G) (hq : q < n) (hf : G[g]? = some f) (ha : Alk δ hs (aN al) q f) : G3 δ hs n w5 (w.setCell ⟨gn, q, none⟩ (.int .i64 (g : Int))) ga gn base al vf (q + 1) (nx ++ [g]) G :=
  have o1 := h.o1
  have o2 := h.o2
  { at_ := ⟨blk_far h.at_.1 _ _ (by show ga ≠ gn; omega), h.at_.2⟩
    hn := by
      have := blk_set h.hn q (.int .i64 (g : Int))
      rw [show q = nx.length from h.ni.len.symm, rowA_set (by rw [h.ni.len]; exact hq)] at this
      rw [show q = nx.length from h.ni.len.symm]
      exact this
    hf := row_blk h.hf fun k e => Below.heap_setCell _ _ _ _ (by have := (World.ownsRow.lt h.hf k e).1; show k ≠ gn; omega)
    kp := h.kp.trans (KeepX.below (KeepX.set_ (X := fun k => k = gn) w ⟨gn, q, none⟩ _ rfl) h.kp.size fun k hk e => by have := h.o4; omega)
    ni := h.ni.found hf ha
    o1 := o1, o2 := o2, o3 := by rw [size_setCell]; exact h.o3, o4 := h.o4 }
/-- The number of a new one. -/
theorem G3.numbered (h : G3 δ hs n w5 w ga gn base al vf q nx G) (hq : q < n) : NumsAt (w.setCell ⟨gn, q, none⟩ (.int .i64 (G.length : Int))) ga n al ∧ (w.setCell ⟨gn, q, none⟩ (.int .i64 (G.length : Int))).heap[gn]? = some (.cells (rowA n (nx ++ [G.length])) 3 (0, 0)) ∧
    (w.setCell ⟨gn, q, none⟩ (.int .i64 (G.length : Int))).ownsRow base 3 1 vf (natsV G).length (natsV G) ∧ Below w5.heap.size w5 (w.setCell ⟨gn, q, none⟩ (.int .i64 (G.length : Int))) := by
  have o1 := h.o1
  have o2 := h.o2
  refine ⟨⟨blk_far h.at_.1 _ _ (by show ga ≠ gn; omega), h.at_.2⟩, ?_, row_blk h.hf fun k e => Below.heap_setCell _ _ _ _ (by have := (World.ownsRow.lt h.hf k e).1; show k ≠ gn; omega), h.kp.trans (KeepX.below (KeepX.set_ (X := fun k => k = gn) w ⟨gn, q, none⟩ _ rfl) h.kp.size fun k hk e => by have := h.o4; omega)⟩
  have := blk_set h.hn q (.int .i64 (G.length : Int))
  rw [show q = nx.length from h.ni.len.symm, rowA_set (by rw [h.ni.len]; exact hq)] at this
  rw [show q = nx.length from h.ni.len.symm]
  exact this
/-- .. and its own place among the first ones. -/
theorem G3.fresh {w1 W : World} (h : G3 δ hs n w5 w ga gn base al vf q nx G) (h1 : NumsAt w1 ga n al) (h2 : w1.heap[gn]? = some (.cells (rowA n (nx ++ [G.length])) 3 (0, 0))) (h4 : Below w5.heap.size w5 w1) (hb : Below w1.heap.size w1 W) (hz : base ≤ w1.heap.size)
    (hg : W.grownBy w' vf.ownBlock) (hy : w'.ownsRow base 3 1 vf' (natsV G ++ [Value.int .i64 (q : Int)]).length (natsV G ++ [Value.int .i64 (q : Int)])) (hno : ∀ (g f : Nat), G[g]? = some f → ¬ Alk δ hs (aN al) q f) : G3 δ hs n w5 w' ga gn base al vf' (q + 1) (nx ++ [G.length]) (G ++ [q]) :=
  have o1 := h.o1
  have o2 := h.o2
  have hlt : ∀ k, vf.ownBlock = some k → base ≤ k := fun k e => (World.ownsRow.lt h.hf k e).1
  have hk : KeepX (fun k => vf.ownBlock = some k) W w' := KeepX.of_grown hg fun k e => e
  { at_ := ⟨hk.at_ (blk_below h1.1 hb) (fun e => by have := hlt _ e; omega), h1.2⟩
    hn := hk.at_ (blk_below h2 hb) (fun e => by have := hlt _ e; omega)
    hf := by
      have e : natsV (G ++ [q]) = natsV G ++ [Value.int .i64 (q : Int)] := by simp [natsV]
      rw [e]
      exact hy
    kp := (h4.trans (hb.mono h4.size)).trans (hk.below (Nat.le_trans h4.size hb.size) fun k hk' e => by have := hlt _ e; have := h.o4; omega)
    ni := h.ni.fresh hno
    o1 := o1, o2 := o2, o3 := Nat.le_trans hz (Nat.le_trans hb.size hk.size), o4 := h.o4 }
end
/-- What Groups gives. -/
structure GroupsOk (δ : Nat → Nat → Nat) (yes : Nat → Bool) (hs : List Nat) (n : Nat) (al G : List Nat) : Prop where
  len : al.length = n
  num : Num (aN al) n G
  ner : ∀ p q, p < n → q < n → (aN al p = aN al q ↔ Ner δ yes hs p q)
  sorted : G.Pairwise (· < ·)
  first : ∀ (x g y : Nat), al[x]? = some g → G[g]? = some y → y ≤ x
theorem DCon.under {w w' : World} {D n : Nat} {δ : Nat → Nat → Nat} {yes : Nat → Bool} (h : DCon w D n δ yes) (hb : Below w.heap.size w w') : DCon w' D n δ yes where
  step W q b hW hq hb' := h.step W q b (hb.trans (hW.mono hb.size)) hq hb'
  yes W q hW hq := h.yes W q (hb.trans (hW.mono hb.size)) hq
  len W hW := h.len W (hb.trans (hW.mono hb.size))
  closed := h.closed
end Go.Proofs.YtfpfloahkibcgaaGreatDoor
