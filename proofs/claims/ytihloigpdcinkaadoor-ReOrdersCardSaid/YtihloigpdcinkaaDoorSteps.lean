/- append to a row of pointers, in a region that draws its order. -/
import Derived.Test.YtihloigpdcinkaaDoorHead
import Derived.Deep.AppendLies
namespace Go.Proofs.YtihloigpdcinkaaDoor
open Go.RowKit

theorem step_app_ptr {ops : Array Oper} {o : Oper} {a : Act} {K : Act → World → Prop} {Q : Exit → Act → World → Prop} {E : Prop} (w : World) (hgd : o.guard = none) (s x : Operand)
    (ho : o.op = .call { callee := .builtin .append, args := #[s, x], argTypes := #[24, 24] })
    (base : Nat) (v : Value) (bs : List Nat) (hs : a.eval s = v) (hown : OwnP w base v bs)
    (A : Option Addr) (n c : Nat) (cs : List Nat) (hx : a.eval x = .slice A n c) (hr : Rd w A n (cs.map ptr)) (hc0 : A = none → c = 0)
    (hn : bs.length + cs.length ≤ 1099511627776) (hbase : base ≤ w.heap.size)
    (h : ∀ v' w', OwnP w' base v' (bs ++ cs) → w.grownBy w' v.ownBlock → (v'.ownBlock = v.ownBlock ∨ v'.ownBlock = some w.heap.size) → K (a.put o.dst v') w') :
    if Region.wanted o (yielded ops a.tmps) = true then Oper.wp Tryd.prog o a w K Q else E := by
  have hw : Region.wanted o (yielded ops a.tmps) = true := by simp [Region.wanted, hgd]
  rw [if_pos hw]
  have hnl : cs.length = n := by simpa using hr.1
  cases A with
  | none =>
    have h0 : n = 0 := by
      rcases Nat.eq_zero_or_pos n with h | h
      · exact h
      · obtain ⟨_, _, e, _⟩ := hr.2 h
        cases e
    subst h0
    have hcs : cs = [] := List.eq_nil_of_length_eq_zero hnl
    subst hcs
    obtain rfl := hc0 rfl
    obtain ⟨i0, hi, hz0, hz1, hz2⟩ := info_parts info_ptr
    have hrun := run_append_owned_none (P := Tryd.prog) (w := w) base 24 o.type 27 i0 1 Tryd.underlying24 hi v _ _ hown
    unfold Oper.wp
    simp [execOp, ho, resolve, invoke, builtin, hs, hx, hrun, Result.andThen]
    exact h v w (by simpa using hown) (World.grownBy.refl w _) (.inl rfl)
  | some ad =>
    obtain ⟨i0, hi, hz0, hz1, hz2⟩ := info_parts info_ptr
    obtain ⟨v', w', hrn, h1, h2, h3, h4⟩ := run_append_own_at (P := Tryd.prog) w base 24 o.type 27 i0 (.pointer none) 1 8 Tryd.underlying24 hi hz0 hz1 hz2 rfl (by decide) v _ _ hown ad n c (cs.map ptr) (by simp [hnl]) (by
      intro j u' hj
      have hj' := (List.getElem?_eq_some_iff.1 hj).1
      simp at hj'
      obtain ⟨g, o', e, _, hc⟩ := hr.2 (by omega)
      cases e
      have := hc j u' hj
      unfold Addr.add
      by_cases h0 : j = 0
      · subst h0; simpa using this
      · simpa [h0] using this) (by intro u' hu; simp at hu; obtain ⟨b, _, rfl⟩ := hu; rfl) (by unfold maxLen; omega) (by omega) hbase
    unfold Oper.wp execOp
    simp only [ho, resolve, invoke, builtin, Sem.run_bind, Sem.run_pure, Result.andThen_ok, List.map_toArray, List.map_cons, List.map_nil, hs, hx, hrn]
    exact h v' w' (by simpa [OwnP, hnl] using h1) h2 h4
end Go.Proofs.YtihloigpdcinkaaDoor
