/- Plain: what the makers make of settled expressions is settled; the laws of order and of groups. -/
import Derived.Test.YtihloigpdcinkaaDoorGood2
import Derived.Test.YtihloigpdcinkaaDoorShp
namespace Go.Proofs.YtihloigpdcinkaaDoor

theorem flat1_packOr (L : List Re) (h : ∀ z ∈ L, z.op ≠ 4) : flat1 4 (packOr L) = if L = [] then [.none] else L := by
  match L with
  | [] => rfl
  | [r] => simp [packOr, flat1, h r (by simp)]
  | a :: b :: l => simp [packOr, flat1, Re.op, Re.kids]
theorem flat1_packCat (L : List Re) (h : ∀ z ∈ L, z.op ≠ 3) : flat1 3 (packCat L) = if L = [] then [.eps] else L := by
  match L with
  | [] => rfl
  | [r] => simp [packCat, flat1, h r (by simp)]
  | a :: b :: l => simp [packCat, flat1, Re.op, Re.kids]
theorem packOr_good {L : List Re} (hs : SSorted L) (h : ∀ z ∈ L, Good z ∧ z.op ≠ 0 ∧ z.op ≠ 4) (h1 : OneCls L) : Good (packOr L) := by
  match L with
  | [] => exact .none
  | [r] => exact (h r (by simp)).1
  | a :: b :: l => exact .of ⟨by simp, fun k hk => (h k hk).2.2, hs, h1⟩ (fun k hk => ⟨(h k hk).1, (h k hk).2.1⟩)
theorem packAnd_good {L : List Re} (hs : SSorted L) (h : ∀ z ∈ L, Good z ∧ z.op ≠ 0 ∧ z.op ≠ 6) (h1 : OneCls L) : Good (packAnd L) := by
  match L with
  | [] => exact .all_
  | [r] => exact (h r (by simp)).1
  | a :: b :: l => exact .of ⟨by simp, fun k hk => (h k hk).2.2, hs, h1⟩ (fun k hk => ⟨(h k hk).1, (h k hk).2.1⟩)
theorem packCat_good {L : List Re} (h : ∀ z ∈ L, Good z ∧ z.op ≠ 0 ∧ z.op ≠ 3 ∧ z.op ≠ 1) : Good (packCat L) := by
  match L with
  | [] => exact .eps
  | [r] => exact (h r (by simp)).1
  | a :: b :: l => exact .of ⟨by simp, fun k hk => (h k hk).2.2⟩ (fun k hk => ⟨(h k hk).1, (h k hk).2.1⟩)
theorem orL_nz {cs : List CSet} (h : ∀ s ∈ cs, s ≠ CSet.zero) (hc : cs ≠ []) : CSet.orL cs ≠ CSet.zero := by
  obtain ⟨s, hs⟩ := List.exists_mem_of_ne_nil cs hc
  intro e
  have := CSet.or_absorb hs
  rw [e, CSet.or_zero] at this
  exact h s hs this
theorem anyMem_good {F : List Re} (h : Goods F) (h4 : ∀ z ∈ F, z.op ≠ 4) {z : Re} (hz : AnyMem F z) : Good z ∧ z.op ≠ 0 ∧ z.op ≠ 4 := by
  rcases hz with ⟨h1, -, h3⟩ | ⟨h1, rfl⟩
  · exact ⟨h z h1, h3, h4 z h1⟩
  · exact ⟨.cls (orL_nz (good_nz h) h1), by simp [Re.op], by simp [Re.op]⟩
theorem anyL_good {rs : List Re} (h : Goods rs) : Good (anyL rs) := by
  have hF := flat_good (o := 4) h
  obtain ⟨L, e, hs, hm⟩ := anyL_char rs (good_nz hF)
  rw [e]
  refine packOr_good hs (fun z hz => anyMem_good hF (fun z hz => flat_op h (by simp) hz) ((hm z).1 hz)) (oneCls_of hs (u := CSet.orL (clss (flatL 4 rs))) fun s hs' => ?_)
  rcases (hm _).1 hs' with ⟨-, h2, -⟩ | ⟨-, h2⟩
  · exact absurd rfl h2
  · exact Re.cls.inj h2
theorem bothL_good {rs : List Re} (h : Goods rs) : Good (bothL rs) := by
  have hF := flat_good (o := 6) h
  by_cases hn : BothNo (flatL 6 rs)
  · rw [bothL_no rs (good_nz hF) hn]; exact .none
  obtain ⟨L, e, hs, hm⟩ := bothL_char rs (good_nz hF) hn
  rw [e]
  refine packAnd_good hs (fun z hz => ?_) (oneCls_of hs (u := CSet.andL (clss (flatL 6 rs))) fun s hs' => ?_)
  · rcases (hm z).1 hz with ⟨h1, -⟩ | ⟨h1, rfl⟩
    · exact ⟨hF z h1, fun e0 => hn (.inl (by rw [← op_zero e0]; exact h1)), flat_op h (by simp) h1⟩
    · exact ⟨.cls (fun e => hn (.inr ⟨h1, e⟩)), by simp [Re.op], by simp [Re.op]⟩
  · rcases (hm _).1 hs' with ⟨-, h2⟩ | ⟨-, h2⟩
    · exact absurd rfl h2
    · exact Re.cls.inj h2
theorem thenL_good {rs : List Re} (h : Goods rs) : Good (thenL rs) := by
  by_cases hn : Re.none ∈ flatL 3 rs
  · rw [thenL_no rs hn]; exact .none
  rw [thenL_eq rs hn]
  refine packCat_good fun z hz => ?_
  obtain ⟨h1, h2⟩ := List.mem_filter.1 hz
  exact ⟨flat_good h z h1, fun e => hn (by rw [← op_zero e]; exact h1), flat_op h (by simp) h1, by simpa [isEps] using h2⟩
theorem oneR_good (s : CSet) : Good (oneR s) := by
  unfold oneR
  by_cases h : s = CSet.zero
  · rw [if_pos h]; exact .none
  · rw [if_neg h]; exact .cls h
theorem manyR_good {r : Re} (h : Good r) : Good (manyR r) := by
  unfold manyR
  by_cases h1 : r.op = 0 ∨ r.op = 1
  · rw [if_pos h1]; exact .eps
  · rw [if_neg h1]
    by_cases h2 : r.op = 5
    · rw [if_pos h2]; exact h
    · rw [if_neg h2]
      refine .of ⟨h2, fun e => h1 (.inr e)⟩ fun k hk => ?_
      have e : k = r := by simpa [Re.kids] using hk
      rw [e]
      exact ⟨h, fun e => h1 (.inl e)⟩
theorem butR_good {a b : Re} (ha : Good a) (hb : Good b) : Good (butR a b) := by
  unfold butR
  by_cases h1 : a.op = 0 ∨ a.key = b.key
  · rw [if_pos h1]; exact .none
  rw [if_neg h1]
  by_cases h2 : b.op = 0
  · rw [if_pos h2]; exact ha
  rw [if_neg h2]
  by_cases h3 : a.op = 2 ∧ b.op = 2
  · rw [if_pos h3]; exact oneR_good _
  rw [if_neg h3]
  refine .of ⟨fun e => h1 (.inr (by rw [e])), h3⟩ fun k hk => ?_
  have e : k = a ∨ k = b := by simpa [Re.kids] using hk
  rcases e with e | e
  · rw [e]; exact ⟨ha, fun e => h1 (.inl e)⟩
  · rw [e]; exact ⟨hb, h2⟩
theorem wordR_good (l : List UInt8) : Good (wordR l) := thenL_good fun r hr => by
  obtain ⟨b, -, rfl⟩ := List.mem_map.1 hr
  exact oneR_good _
theorem getD_good {rs : List Re} (h : Goods rs) (k : Nat) : Good (rs.getD k .none) := by
  by_cases hk : k < rs.length
  · have e : rs.getD k .none = rs[k] := by simp [List.getD, List.getElem?_eq_getElem hk]
    rw [e]
    exact h _ (List.getElem_mem hk)
  · have e : rs.getD k .none = .none := by simp [List.getD, List.getElem?_eq_none (Nat.le_of_not_lt hk)]
    rw [e]
    exact .none
theorem makeOf_good (c lo hi : Nat) (t : ByteArray) {rs : List Re} (h : Goods rs) : Good (Shp.makeOf c lo hi t rs) := by
  unfold Shp.makeOf
  split
  · exact .none
  · exact .eps
  · exact oneR_good _
  · exact thenL_good h
  · exact anyL_good h
  · exact manyR_good (getD_good h 0)
  · exact bothL_good h
  · exact butR_good (getD_good h 0) (getD_good h 1)
  · exact wordR_good _
namespace Shp
mutual
theorem make_good : ∀ s : Shp, Good s.make
  | mk o l h t ks => by
    rw [make]
    exact makeOf_good _ _ _ _ (makes_good ks)
theorem makes_good : ∀ l : List Shp, Goods (makes l)
  | [] => fun r hr => by cases hr
  | k :: l => fun r hr => by
    rw [makes] at hr
    rcases List.mem_cons.1 hr with e | e
    · rw [e]; exact make_good k
    · exact makes_good l r e
end
end Shp

theorem flat_congr {o : Nat} {rs ss : List Re} (h : ∀ z, z ∈ rs ↔ z ∈ ss) (z : Re) : z ∈ flatL o rs ↔ z ∈ flatL o ss := by
  simp only [mem_flat, h]
theorem clss_congr {F G : List Re} (h : ∀ z, z ∈ F ↔ z ∈ G) : (∀ s, s ∈ clss F ↔ s ∈ clss G) ∧ (clss F ≠ [] ↔ clss G ≠ []) := by
  have h1 : ∀ s, s ∈ clss F ↔ s ∈ clss G := fun s => by rw [mem_clss, mem_clss, h]
  refine ⟨h1, ?_⟩
  rw [ne_eq, ne_eq, List.eq_nil_iff_forall_not_mem, List.eq_nil_iff_forall_not_mem]
  simp only [h1]
theorem anyL_congr {rs ss : List Re} (hg : Goods rs) (h : ∀ z, z ∈ rs ↔ z ∈ ss) : anyL rs = anyL ss := by
  have hg' : Goods ss := fun z hz => hg z ((h z).2 hz)
  obtain ⟨L, e, hs, hm⟩ := anyL_char rs (good_nz (flat_good hg))
  obtain ⟨M, e', hs', hm'⟩ := anyL_char ss (good_nz (flat_good hg'))
  have hF := flat_congr (o := 4) h
  obtain ⟨hc, hc'⟩ := clss_congr hF
  rw [e, e', sorted_unique L M hs hs' fun z => by rw [hm, hm']; unfold AnyMem; rw [hF z, hc', CSet.orL_congr hc]]
theorem bothNo_congr {F G : List Re} (h : ∀ z, z ∈ F ↔ z ∈ G) : BothNo F ↔ BothNo G := by
  obtain ⟨hc, hc'⟩ := clss_congr h
  unfold BothNo
  rw [h, hc', CSet.andL_congr hc]
theorem bothL_congr {rs ss : List Re} (hg : Goods rs) (h : ∀ z, z ∈ rs ↔ z ∈ ss) : bothL rs = bothL ss := by
  have hg' : Goods ss := fun z hz => hg z ((h z).2 hz)
  have hF := flat_congr (o := 6) h
  by_cases hn : BothNo (flatL 6 rs)
  · rw [bothL_no rs (good_nz (flat_good hg)) hn, bothL_no ss (good_nz (flat_good hg')) ((bothNo_congr hF).1 hn)]
  obtain ⟨L, e, hs, hm⟩ := bothL_char rs (good_nz (flat_good hg)) hn
  obtain ⟨M, e', hs', hm'⟩ := bothL_char ss (good_nz (flat_good hg')) (fun h' => hn ((bothNo_congr hF).2 h'))
  obtain ⟨hc, hc'⟩ := clss_congr hF
  rw [e, e', sorted_unique L M hs hs' fun z => by rw [hm, hm']; unfold BothMem; rw [hF z, hc', CSet.andL_congr hc]]
theorem flatL_append (o : Nat) (a b : List Re) : flatL o (a ++ b) = flatL o a ++ flatL o b := by simp [flatL]
theorem thenL_group {a b : List Re} (ha : Goods a) (hb : Goods b) : thenL [thenL a, thenL b] = thenL (a ++ b) := by
  have key : ∀ c : List Re, Goods c → (Re.none ∈ flatL 3 c → flat1 3 (thenL c) = [.none]) ∧ (Re.none ∉ flatL 3 c → Re.none ∉ flat1 3 (thenL c) ∧ (flat1 3 (thenL c)).filter (fun r => !isEps r) = (flatL 3 c).filter fun r => !isEps r) := fun c hc => by
    refine ⟨fun h => by rw [thenL_no c h]; rfl, fun h => ?_⟩
    rw [thenL_eq c h, flat1_packCat _ (fun z hz => flat_op hc (by simp) (List.mem_filter.1 hz).1)]
    by_cases h0 : (flatL 3 c).filter (fun r => !isEps r) = []
    · rw [if_pos h0, h0]; exact ⟨by simp, by simp [isEps, Re.op]⟩
    · rw [if_neg h0]; exact ⟨fun hz => h (List.mem_filter.1 hz).1, by simp [List.filter_filter]⟩
  have e : flatL 3 [thenL a, thenL b] = flat1 3 (thenL a) ++ flat1 3 (thenL b) := by simp [flatL]
  by_cases h1 : Re.none ∈ flatL 3 a
  · rw [thenL_no (a ++ b) (by rw [flatL_append]; simp [h1]), thenL_no]
    rw [e, (key a ha).1 h1]; simp
  by_cases h2 : Re.none ∈ flatL 3 b
  · rw [thenL_no (a ++ b) (by rw [flatL_append]; simp [h2]), thenL_no]
    rw [e, (key b hb).1 h2]; simp
  rw [thenL_eq (a ++ b) (by rw [flatL_append]; simp [h1, h2]), thenL_eq _ (by rw [e]; simp [((key a ha).2 h1).1, ((key b hb).2 h2).1])]
  rw [e, flatL_append, List.filter_append, List.filter_append, ((key a ha).2 h1).2, ((key b hb).2 h2).2]
end Go.Proofs.YtihloigpdcinkaaDoor
