/- Plain: settled expressions; the makers settle; with its own kids an expression is itself. -/
import Derived.Test.YtihloigpdcinkaaDoorGood
namespace Go.Proofs.YtihloigpdcinkaaDoor

/-- At most one class. -/
def OneCls (l : List Re) : Prop := (clss l).length ≤ 1
/-- What the settled form asks of an op with its kids. -/
def Fit : Re → Prop
  | .none => True
  | .eps => True
  | .cls s => s ≠ CSet.zero
  | .cat l => 2 ≤ l.length ∧ ∀ k ∈ l, k.op ≠ 3 ∧ k.op ≠ 1
  | .or l => 2 ≤ l.length ∧ (∀ k ∈ l, k.op ≠ 4) ∧ SSorted l ∧ OneCls l
  | .star r => r.op ≠ 5 ∧ r.op ≠ 1
  | .and l => 2 ≤ l.length ∧ (∀ k ∈ l, k.op ≠ 6) ∧ SSorted l ∧ OneCls l
  | .minus x y => x ≠ y ∧ ¬ (x.op = 2 ∧ y.op = 2)
/-- SETTLED. -/
inductive Good : Re → Prop
  | mk (r : Re) (h : Fit r) (hk : ∀ k ∈ r.kids, Good k) (h0 : ∀ k ∈ r.kids, k.op ≠ 0) : Good r
theorem Good.fit {r : Re} (h : Good r) : Fit r := by cases h; assumption
theorem Good.kid {r k : Re} (h : Good r) (hk : k ∈ r.kids) : Good k ∧ k.op ≠ 0 := by
  cases h with
  | mk _ _ h h0 => exact ⟨h k hk, h0 k hk⟩
theorem Good.of {r : Re} (h : Fit r) (hk : ∀ k ∈ r.kids, Good k ∧ k.op ≠ 0) : Good r := .mk r h (fun k h => (hk k h).1) (fun k h => (hk k h).2)
theorem Good.none : Good .none := .of trivial (fun k hk => by cases hk)
theorem Good.eps : Good .eps := .of trivial (fun k hk => by cases hk)
theorem Good.cls {s : CSet} (h : s ≠ CSet.zero) : Good (.cls s) := .of h (fun k hk => by cases hk)
theorem Good.all_ : Good (.star (.cls CSet.all)) := by
  have h : CSet.all ≠ CSet.zero := by decide
  refine .of ⟨by simp [Re.op], by simp [Re.op]⟩ fun k hk => ?_
  simp [Re.kids] at hk
  subst hk
  exact ⟨.cls h, by simp [Re.op]⟩
def Goods (l : List Re) : Prop := ∀ r ∈ l, Good r
theorem mem_flat {o : Nat} {l : List Re} {z : Re} : z ∈ flatL o l ↔ ∃ r ∈ l, z ∈ flat1 o r := by simp [flatL]
theorem mem_flat1 {o : Nat} {r z : Re} : z ∈ flat1 o r ↔ (r.op = o ∧ z ∈ r.kids) ∨ (r.op ≠ o ∧ z = r) := by
  unfold flat1
  by_cases h : r.op = o
  · rw [if_pos h]; simp [h]
  · rw [if_neg h]; simp [h]
theorem flat_good {o : Nat} {l : List Re} (h : Goods l) : Goods (flatL o l) := fun z hz => by
  obtain ⟨r, hr, hz⟩ := mem_flat.1 hz
  rcases mem_flat1.1 hz with ⟨-, hk⟩ | ⟨-, e⟩
  · exact ((h r hr).kid hk).1
  · rw [e]; exact h r hr
theorem kid_op {r k : Re} (h : Good r) (hk : k ∈ r.kids) (ho : r.op = 3 ∨ r.op = 4 ∨ r.op = 6) : k.op ≠ r.op := by
  have hf := h.fit
  cases r with
  | cat l => exact (hf.2 k hk).1
  | or l => exact hf.2.1 k hk
  | and l => exact hf.2.1 k hk
  | _ => simp [Re.op] at ho
theorem flat_op {o : Nat} {l : List Re} (h : Goods l) (ho : o = 3 ∨ o = 4 ∨ o = 6) {z : Re} (hz : z ∈ flatL o l) : z.op ≠ o := by
  obtain ⟨r, hr, hz⟩ := mem_flat.1 hz
  rcases mem_flat1.1 hz with ⟨e, hk⟩ | ⟨e, e'⟩
  · have := kid_op (h r hr) hk (by rw [e]; exact ho)
    rw [e] at this
    exact this
  · rw [e']; exact e
theorem good_nz {l : List Re} (h : Goods l) : NZ l := fun s hs => (h _ ((mem_clss l s).1 hs)).fit
theorem oneCls_of {L : List Re} {u : CSet} (hs : SSorted L) (h : ∀ s, Re.cls s ∈ L → s = u) : OneCls L := by
  unfold OneCls
  have hn : (clss L).Nodup := by
    induction L with
    | nil => exact List.nodup_nil
    | cons r l ih =>
      have hs' : SSorted l := (List.pairwise_cons.1 hs).2
      have h' := ih hs' (fun s hs => h s (List.mem_cons_of_mem _ hs))
      by_cases hr : r.op = 2
      · obtain ⟨s, rfl⟩ := op_two hr
        refine List.nodup_cons.2 ⟨fun hm => ?_, h'⟩
        have := (List.pairwise_cons.1 hs).1 _ ((mem_clss l s).1 hm)
        rw [lessR_swo.irrefl] at this
        cases this
      · rw [clss_other r l hr]; exact h'
  match hc : clss L, hn with
  | [], _ => simp
  | [a], _ => simp
  | a :: b :: m, hn =>
    have ha := h a ((mem_clss L a).1 (by rw [hc]; simp))
    have hb := h b ((mem_clss L b).1 (by rw [hc]; simp))
    rw [ha, hb] at hn
    simp at hn
end Go.Proofs.YtihloigpdcinkaaDoor
