/- append at the program's own types: onto a row of strings, onto a row of pointers. -/
import Derived.Test.YtihloigpdcinkaaDoorHeap
import Derived.Laws.AppendOwnNone
namespace Go.Proofs.YtihloigpdcinkaaDoor
open Go.RowKit

/-- The call's own row of strings. -/
def OwnS (w : World) (base : Nat) (v : Value) (ss : List (List UInt8)) : Prop := w.ownsRow base 9 1 v ss.length (ss.map fun s => .string ⟨s.toArray⟩)

theorem info_str : (Tryd.prog.info? 9).map (fun i => (i.zero, i.size, i.bytes)) = some (some (.string ⟨#[]⟩), 1, 16) := by kernel_rfl
theorem info_ptr : (Tryd.prog.info? 27).map (fun i => (i.zero, i.size, i.bytes)) = some (some (.pointer none), 1, 8) := by kernel_rfl

theorem wpList_app_str {ops : Array Oper} {rest : List Oper} {o : Oper} {a : Act} {Q : Exit → Act → World → Prop} (w : World) (hgd : o.guard = none) (s x : Operand)
    (ho : o.op = .call { callee := .builtin .append, args := #[s, x], argTypes := #[90, 90] })
    (base : Nat) (v : Value) (ss : List (List UInt8)) (hs : a.eval s = v) (hown : OwnS w base v ss)
    (g c : Nat) (u : List UInt8) (hx : a.eval x = .slice (some ⟨g, 0, none⟩) 1 c) (hcell : w.cell? ⟨g, 0, none⟩ = some (.string ⟨u.toArray⟩))
    (hn : ss.length + 1 ≤ 1099511627776) (hbase : base ≤ w.heap.size)
    (h : ∀ v' w', OwnS w' base v' (ss ++ [u]) → w.grownBy w' v.ownBlock → wpList Tryd.prog ops Q rest (a.put o.dst v') w') :
    wpList Tryd.prog ops Q (o :: rest) a w := by
  obtain ⟨i0, hi, hz0, hz1, hz2⟩ := info_parts info_str
  refine wpList_append_own_at w hgd s x 90 ho base 9 i0 (.string ⟨#[]⟩) 1 16 Tryd.underlying90 hi hz0 hz1 hz2 rfl (by decide) v _ _ hs hown ⟨g, 0, none⟩ 1 c [.string ⟨u.toArray⟩] hx rfl ?_ ?_ ?_ ?_ hbase ?_
  · intro j u' hj
    match j, hj with
    | 0, hj => simp at hj; subst hj; simpa [Addr.add] using hcell
  · intro u' hu; simp at hu; subst hu; rfl
  · unfold maxLen; omega
  · omega
  · intro v' w' h1 h2 _ _
    exact h v' w' (by simpa [OwnS] using h1) h2

theorem wpList_app_ptr {ops : Array Oper} {rest : List Oper} {o : Oper} {a : Act} {Q : Exit → Act → World → Prop} (w : World) (hgd : o.guard = none) (s x : Operand)
    (ho : o.op = .call { callee := .builtin .append, args := #[s, x], argTypes := #[24, 24] })
    (base : Nat) (v : Value) (bs : List Nat) (hs : a.eval s = v) (hown : OwnP w base v bs)
    (A : Option Addr) (n c : Nat) (cs : List Nat) (hx : a.eval x = .slice A n c) (hr : Rd w A n (cs.map ptr)) (hc0 : A = none → c = 0)
    (hn : bs.length + cs.length ≤ 1099511627776) (hbase : base ≤ w.heap.size)
    (h : ∀ v' w', OwnP w' base v' (bs ++ cs) → w.grownBy w' v.ownBlock → (v'.ownBlock = v.ownBlock ∨ v'.ownBlock = some w.heap.size) → wpList Tryd.prog ops Q rest (a.put o.dst v') w') :
    wpList Tryd.prog ops Q (o :: rest) a w := by
  have hnl : cs.length = n := by simpa using hr.1
  cases A with
  | none =>
    have h0 : n = 0 := by
      rcases Nat.eq_zero_or_pos n with h | h
      · exact h
      · obtain ⟨_, _, e, _⟩ := hr.2 h
        cases e
    subst h0
    have hcs : cs = [] := List.eq_nil_of_length_eq_zero hnl
    subst hcs
    obtain rfl := hc0 rfl
    obtain ⟨i0, hi, hz0, hz1, hz2⟩ := info_parts info_ptr
    refine wpList_append_own_none hgd s x 24 ho base 27 i0 1 Tryd.underlying24 hi v _ _ hs hown hx ?_
    exact h v w (by simpa using hown) (World.grownBy.refl w _) (.inl rfl)
  | some ad =>
    obtain ⟨i0, hi, hz0, hz1, hz2⟩ := info_parts info_ptr
    refine wpList_append_own_at w hgd s x 24 ho base 27 i0 (.pointer none) 1 8 Tryd.underlying24 hi hz0 hz1 hz2 rfl (by decide) v _ _ hs hown ad n c (cs.map ptr) hx (by simp [hnl]) ?_ ?_ ?_ ?_ hbase ?_
    · intro j u' hj
      have hj' := (List.getElem?_eq_some_iff.1 hj).1
      simp at hj'
      obtain ⟨g, o', e, _, hc⟩ := hr.2 (by omega)
      cases e
      have := hc j u' hj
      unfold Addr.add
      by_cases h0 : j = 0
      · subst h0; simpa using this
      · simpa [h0] using this
    · intro u' hu; simp at hu; obtain ⟨b, _, rfl⟩ := hu; rfl
    · unfold maxLen; omega
    · omega
    · intro v' w' h1 h2 _ h4
      exact h v' w' (by simpa [OwnP, hnl] using h1) h2 h4

theorem OwnS.one (w : World) (u : List UInt8) (base : Nat) (hb : base ≤ w.heap.size) : OwnS (w.alloc (.cells #[.string ⟨u.toArray⟩] 9)) base (.slice (some ⟨w.heap.size, 0, none⟩) 1 1) [u] :=
  World.ownsRow_lit w #[.string ⟨u.toArray⟩] 1 hb (by decide) rfl
theorem OwnS.kept {w w' : World} {base : Nat} {v : Value} {ss : List (List UInt8)} (h : OwnS w base v ss) (hk : Below w.heap.size w w') : OwnS w' base v ss := by
  unfold OwnS at h ⊢
  refine h.kept (row := none) ⟨hk.os, hk.tape, hk.output, hk.size, fun k hk' _ => hk.block k hk'⟩ ?_
  cases hv : v.ownBlock <;> simp
theorem OwnS.form {w : World} {base : Nat} {v : Value} {ss : List (List UInt8)} (h : OwnS w base v ss) (hne : ss ≠ []) : ∃ g c, v = .slice (some ⟨g, 0, none⟩) ss.length c ∧ ss.length ≤ c ∧ base ≤ g ∧ g < w.heap.size ∧
    ∀ (j : Nat) u, ss[j]? = some u → w.cell? ⟨g, 0 + j, none⟩ = some (.string ⟨u.toArray⟩) := by
  unfold OwnS at h
  rcases h.2 with ⟨_, h2⟩ | ⟨g, cap, cur, h1, hb, hh, hn, hm, hs, ht⟩
  · exact absurd (List.eq_nil_of_length_eq_zero h2) hne
  · refine ⟨g, cap, h1, hn, hb, lt_of_heap hh, fun j u hu => ?_⟩
    have hj := (List.getElem?_eq_some_iff.1 hu).1
    rw [cell_of_row w g (0 + j) _ _ _ hh, Nat.zero_add]
    have : (ss.map fun s => Value.string ⟨s.toArray⟩)[j]? = some (.string ⟨u.toArray⟩) := by rw [List.getElem?_map, hu]; rfl
    rw [← ht, Nat.mul_one, List.getElem?_take, if_pos hj, Array.getElem?_toList] at this
    exact this
theorem OwnS.setCell {w : World} {base : Nat} {v : Value} {ss : List (List UInt8)} (h : OwnS w base v ss) {a : Addr} (ha : a.block < base) (u : Value) : OwnS (w.setCell a u) base v ss := ownsRow_setCell_below h ha u
theorem OwnS.drew {w : World} {base : Nat} {v : Value} {ss : List (List UInt8)} (h : OwnS w base v ss) : OwnS w.drew base v ss := h
end Go.Proofs.YtihloigpdcinkaaDoor
