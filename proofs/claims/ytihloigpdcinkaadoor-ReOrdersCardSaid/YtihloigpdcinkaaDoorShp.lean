/- Plain: shapes. How they lie in memory. -/
import Derived.Test.YtihloigpdcinkaaDoorWord
namespace Go.Proofs.YtihloigpdcinkaaDoor
open Go.RowKit

inductive Shp
  | mk (op : Int) (low high : Nat) (text : ByteArray) (kids : List Shp)
namespace Shp
def op : Shp → Int | mk o _ _ _ _ => o
def low : Shp → Nat | mk _ l _ _ _ => l
def high : Shp → Nat | mk _ _ h _ _ => h
def text : Shp → ByteArray | mk _ _ _ t _ => t
def kids : Shp → List Shp | mk _ _ _ _ k => k
/-- Which one. -/
def code (s : Shp) : Nat := (s.op % 18446744073709551616).toNat % 9
def lo (s : Shp) : Nat := 97 + s.low % 4
def hi (s : Shp) : Nat := 97 + s.high % 4
mutual
def count : Shp → Nat → Nat
  | mk _ _ _ t ks, d => if 12 < d ∨ 20 < t.size then 1000 else countGo ks d 1
def countGo : List Shp → Nat → Nat → Nat
  | [], _, n => n
  | k :: l, d, n => if 1000 < n + count k (d + 1) then n + count k (d + 1) else countGo l d (n + count k (d + 1))
end
def few (s : Shp) : Bool := s.count 0 ≤ 30
/-- The expression of an op and of the kids' expressions. -/
def makeOf (c lo hi : Nat) (t : ByteArray) (rs : List Re) : Re :=
  match c with
  | 0 => .none
  | 1 => .eps
  | 2 => oneR (CSet.fromN lo (hi + 1 - lo))
  | 3 => thenL rs
  | 4 => anyL rs
  | 5 => manyR (rs.getD 0 .none)
  | 6 => bothL rs
  | 7 => butR (rs.getD 0 .none) (rs.getD 1 .none)
  | _ => wordR t.data.toList
mutual
def make : Shp → Re
  | mk o l h t ks => makeOf (mk o l h t []).code (mk o l h t []).lo (mk o l h t []).hi t (makes ks)
def makes : List Shp → List Re
  | [] => []
  | k :: l => make k :: makes l
end
mutual
/-- How many parts. -/
def parts : Shp → Nat
  | mk _ _ _ _ ks => 1 + partsL ks
def partsL : List Shp → Nat
  | [] => 0
  | k :: l => parts k + partsL l
end
mutual
/-- No long text. -/
def short : Shp → Prop
  | mk _ _ _ t ks => t.size ≤ 20 ∧ shorts ks
def shorts : List Shp → Prop
  | [] => True
  | k :: l => short k ∧ shorts l
end
theorem makes_eq (l : List Shp) : makes l = l.map make := by
  induction l with
  | nil => rfl
  | cons k l ih => simp [makes, ih]
theorem make_eq (s : Shp) : s.make = makeOf s.code s.lo s.hi s.text (s.kids.map make) := by
  cases s with
  | mk o l h t ks => rw [make, makes_eq]; rfl
theorem parts_eq (s : Shp) : s.parts = 1 + partsL s.kids := by cases s; rfl
theorem partsL_eq (l : List Shp) : partsL l = (l.map parts).sum := by
  induction l with
  | nil => rfl
  | cons k l ih => simp [partsL, ih]
theorem parts_pos (s : Shp) : 1 ≤ s.parts := by rw [parts_eq]; omega
theorem parts_mem {l : List Shp} {k : Shp} (h : k ∈ l) : k.parts ≤ partsL l := by
  induction l with
  | nil => cases h
  | cons x l ih =>
    rcases List.mem_cons.1 h with e | e
    · rw [e, partsL]; omega
    · have := ih e; rw [partsL]; omega
theorem len_partsL (l : List Shp) : l.length ≤ partsL l := by
  induction l with
  | nil => simp
  | cons k l ih => have := parts_pos k; simp [partsL]; omega
theorem short_eq (s : Shp) : s.short ↔ s.text.size ≤ 20 ∧ shorts s.kids := by cases s; exact Iff.rfl
theorem shorts_mem {l : List Shp} {k : Shp} (h : shorts l) (hk : k ∈ l) : k.short := by
  induction l with
  | nil => cases hk
  | cons x l ih =>
    rcases List.mem_cons.1 hk with e | e
    · rw [e]; exact h.1
    · exact ih h.2 e
/-- What the program's machine asks of the numbers. -/
def Wf (s : Shp) : Prop := (-9223372036854775808 ≤ s.op ∧ s.op < 9223372036854775808) ∧ s.low < 256 ∧ s.high < 256 ∧ s.text.size ≤ 9223372036854775807 ∧ s.kids.length ≤ 9223372036854775807
theorem count_eq (s : Shp) (d : Nat) : s.count d = if 12 < d ∨ 20 < s.text.size then 1000 else countGo s.kids d 1 := by cases s; rw [count]; rfl
mutual
theorem count_le : ∀ (s : Shp) (d : Nat), s.count d ≤ 1000 * (14 - d) + 1000
  | mk o l h t ks, d => by
    rw [count]
    split
    · omega
    · rename_i hd
      exact countGo_le ks d 1 (by omega) (by omega)
theorem countGo_le : ∀ (l : List Shp) (d n : Nat), d ≤ 12 → n ≤ 1000 → countGo l d n ≤ 1000 * (14 - d) + 1000
  | [], d, n, hd, hn => by rw [countGo]; omega
  | k :: l, d, n, hd, hn => by
    have h1 := count_le k (d + 1)
    rw [countGo]
    split
    · omega
    · exact countGo_le l d _ hd (by omega)
end
mutual
theorem count_small : ∀ (s : Shp) (d : Nat), s.count d < 1000 → s.parts = s.count d ∧ s.short
  | mk o l h t ks, d, hc => by
    rw [count] at hc ⊢
    split at hc
    · omega
    · rename_i hd
      rw [if_neg hd]
      have := countGo_small ks d 1 hc
      exact ⟨this.1.symm, by omega, this.2⟩
theorem countGo_small : ∀ (l : List Shp) (d n : Nat), countGo l d n < 1000 → countGo l d n = n + partsL l ∧ shorts l
  | [], d, n, h => by rw [countGo]; exact ⟨rfl, trivial⟩
  | k :: l, d, n, h => by
    rw [countGo] at h ⊢
    split at h
    · omega
    · rename_i hk
      rw [if_neg hk]
      have h2 := countGo_small l d _ h
      have h1 := count_small k (d + 1) (by omega)
      exact ⟨by rw [h2.1, partsL, h1.1]; omega, h1.2, h2.2⟩
end
theorem few_small {s : Shp} (h : s.few = true) : s.parts ≤ 30 ∧ s.short := by
  have h1 : s.count 0 ≤ 30 := of_decide_eq_true h
  have := count_small s 0 (by omega)
  exact ⟨by omega, this.2⟩
/-- One step of the loop. -/
theorem countGo_drop (l : List Shp) (d n k : Nat) (s : Shp) (h : l[k]? = some s) :
    countGo (l.drop k) d n = if 1000 < n + s.count (d + 1) then n + s.count (d + 1) else countGo (l.drop (k + 1)) d (n + s.count (d + 1)) := by
  obtain ⟨hl, e⟩ := List.getElem?_eq_some_iff.1 h
  rw [List.drop_eq_getElem_cons hl, e, countGo]
end Shp

abbrev Hd := Option Addr × Nat
/-- A shape's value. -/
abbrev Shp.val (s : Shp) (A : Option Addr) (c : Nat) : Value := .agg #[.int .i64 s.op, .int .u8 s.low, .int .u8 s.high, .string s.text, .slice A s.kids.length c]
def ShRow (w : World) (A : Option Addr) (ks : List Shp) (hs : List Hd) : Prop :=
  ks.length = hs.length ∧ (0 < ks.length → ∃ g o, A = some ⟨g, o, none⟩ ∧ g < w.heap.size ∧ ∀ (j : Nat) (k : Shp) (h : Hd), ks[j]? = some k → hs[j]? = some h →
    w.cell? ⟨g, o + j * 5, none⟩ = some (.int .i64 k.op) ∧ w.cell? ⟨g, o + j * 5 + 1, none⟩ = some (.int .u8 k.low) ∧ w.cell? ⟨g, o + j * 5 + 2, none⟩ = some (.int .u8 k.high) ∧
    w.cell? ⟨g, o + j * 5 + 3, none⟩ = some (.string k.text) ∧ w.cell? ⟨g, o + j * 5 + 4, none⟩ = some (.slice h.1 k.kids.length h.2))
inductive ShAt (w : World) : Shp → Hd → Prop
  | mk (s : Shp) (h : Hd) (hs : List Hd) (wf : s.Wf) (hc : CapOk s.kids.length h.1 h.2) (hr : ShRow w h.1 s.kids hs)
      (hks : ∀ (j : Nat) (k : Shp) (h' : Hd), s.kids[j]? = some k → hs[j]? = some h' → ShAt w k h') : ShAt w s h
/-- A slice of shapes. -/
def ShKids (w : World) (A : Option Addr) (ks : List Shp) : Prop := ∃ hs, ShRow w A ks hs ∧ ∀ (j : Nat) (k : Shp) (h' : Hd), ks[j]? = some k → hs[j]? = some h' → ShAt w k h'
theorem ShRow.below {w w' : World} {A : Option Addr} {ks : List Shp} {hs : List Hd} (h : ShRow w A ks hs) (hk : Below w.heap.size w w') : ShRow w' A ks hs := by
  refine ⟨h.1, fun hn => ?_⟩
  obtain ⟨g, o, e, hg, hc⟩ := h.2 hn
  refine ⟨g, o, e, Nat.lt_of_lt_of_le hg hk.size, fun j k h' h1 h2 => ?_⟩
  have hb := fun i => hk.cell (p := ⟨g, i, none⟩) hg
  rw [hb, hb, hb, hb, hb]
  exact hc j k h' h1 h2
theorem ShAt.under {w w' : World} {s : Shp} {h : Hd} (hs : ShAt w s h) (hk : Below w.heap.size w w') : ShAt w' s h := by
  induction hs with
  | mk s h hs wf hc hr hks ih => exact .mk s h hs wf hc (hr.below hk) ih
theorem ShKids.below {w w' : World} {A : Option Addr} {ks : List Shp} (h : ShKids w A ks) (hk : Below w.heap.size w w') : ShKids w' A ks := by
  obtain ⟨hs, h1, h2⟩ := h
  exact ⟨hs, h1.below hk, fun j k h' e1 e2 => (h2 j k h' e1 e2).under hk⟩
theorem ShAt.open_ {w : World} {s : Shp} {h : Hd} (hs : ShAt w s h) : s.Wf ∧ CapOk s.kids.length h.1 h.2 ∧ ShKids w h.1 s.kids := by
  match hs with
  | .mk _ _ hs wf hc hr hks => exact ⟨wf, hc, hs, hr, hks⟩
theorem ShKids.at_ {w : World} {A : Option Addr} {ks : List Shp} (h : ShKids w A ks) {k : Nat} (hk : k < ks.length) :
    ∃ (g o : Nat) (s : Shp) (B : Option Addr) (c : Nat), A = some ⟨g, o, none⟩ ∧ ks[k]? = some s ∧ g < w.heap.size ∧ ShAt w s (B, c) ∧
    w.cell? ⟨g, o + k * 5, none⟩ = some (.int .i64 s.op) ∧ w.cell? ⟨g, o + k * 5 + 1, none⟩ = some (.int .u8 s.low) ∧ w.cell? ⟨g, o + k * 5 + 2, none⟩ = some (.int .u8 s.high) ∧
    w.cell? ⟨g, o + k * 5 + 3, none⟩ = some (.string s.text) ∧ w.cell? ⟨g, o + k * 5 + 4, none⟩ = some (.slice B s.kids.length c) := by
  obtain ⟨hs, hr, hks⟩ := h
  obtain ⟨g, o, e, hg, hc⟩ := hr.2 (by omega)
  have h1 : ks[k]? = some ks[k] := List.getElem?_eq_getElem hk
  have h2 : hs[k]? = some (hs[k]'(by rw [← hr.1]; exact hk)) := List.getElem?_eq_getElem _
  exact ⟨g, o, _, _, _, e, h1, hg, hks k _ _ h1 h2, hc k _ _ h1 h2⟩
/-- The others of a slice. -/
theorem ShKids.drop {w : World} {A : Option Addr} {ks : List Shp} (h : ShKids w A ks) (g o : Nat) (e : A = some ⟨g, o, none⟩) (m : Nat) : ShKids w (some ⟨g, o + m * 5, none⟩) (ks.drop m) := by
  obtain ⟨hs, hr, hks⟩ := h
  refine ⟨hs.drop m, ⟨by simp [hr.1], fun hn => ?_⟩, fun j k h' h1 h2 => hks (m + j) k h' (by simpa using h1) (by simpa using h2)⟩
  obtain ⟨g', o', e', hg, hc⟩ := hr.2 (by simp at hn; omega)
  rw [e] at e'
  cases e'
  refine ⟨g, _, rfl, hg, fun j k h' h1 h2 => ?_⟩
  have := hc (m + j) k h' (by simpa using h1) (by simpa using h2)
  rw [show o + m * 5 + j * 5 = o + (m + j) * 5 by omega]
  exact this
end Go.Proofs.YtihloigpdcinkaaDoor
