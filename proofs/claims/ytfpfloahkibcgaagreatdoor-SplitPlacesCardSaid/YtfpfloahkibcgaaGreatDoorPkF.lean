/- PkF: Good3, Good4, Head, Alike, Steps, Mask, Shared, each with its own sentence. -/
import Derived.Test.YtfpfloahkibcgaaGreatDoorPkA
import Derived.Test.YtfpfloahkibcgaaGreatDoorPkD
import Derived.Test.YtfpfloahkibcgaaGreatDoorPkE
import Derived.Deep.RegionHeld3
import Derived.BigQuiet
import Derived.Deep.AppendLies
import Derived.Laws.BitsLemmas
/- Plain: what the makers make of settled expressions is settled; the laws of order and of groups. -/
namespace Go.Proofs.YtfpfloahkibcgaaGreatDoor

theorem flat1_packOr (L : List Re) (h : ∀ z ∈ L, z.op ≠ 4) : flat1 4 (packOr L) = if L = [] then [.none] else L := by
  match L with
  | [] => rfl
  | [r] => simp [packOr, flat1, h r (by simp)]
  | a :: b :: l => simp [packOr, flat1, Re.op, Re.kids]
theorem flat1_packCat (L : List Re) (h : ∀ z ∈ L, z.op ≠ 3) : flat1 3 (packCat L) = if L = [] then [.eps] else L := by
  match L with
  | [] => rfl
  | [r] => simp [packCat, flat1, h r (by simp)]
  | a :: b :: l => simp [packCat, flat1, Re.op, Re.kids]
theorem packOr_good {L : List Re} (hs : SSorted L) (h : ∀ z ∈ L, Good z ∧ z.op ≠ 0 ∧ z.op ≠ 4) (h1 : OneCls L) : Good (packOr L) := by
  match L with
  | [] => exact .none
  | [r] => exact (h r (by simp)).1
  | a :: b :: l => exact .of ⟨by simp, fun k hk => (h k hk).2.2, hs, h1⟩ (fun k hk => ⟨(h k hk).1, (h k hk).2.1⟩)
theorem packAnd_good {L : List Re} (hs : SSorted L) (h : ∀ z ∈ L, Good z ∧ z.op ≠ 0 ∧ z.op ≠ 6) (h1 : OneCls L) : Good (packAnd L) := by
  match L with
  | [] => exact .all_
  | [r] => exact (h r (by simp)).1
  | a :: b :: l => exact .of ⟨by simp, fun k hk => (h k hk).2.2, hs, h1⟩ (fun k hk => ⟨(h k hk).1, (h k hk).2.1⟩)
theorem packCat_good {L : List Re} (h : ∀ z ∈ L, Good z ∧ z.op ≠ 0 ∧ z.op ≠ 3 ∧ z.op ≠ 1) : Good (packCat L) := by
  match L with
  | [] => exact .eps
  | [r] => exact (h r (by simp)).1
  | a :: b :: l => exact .of ⟨by simp, fun k hk => (h k hk).2.2⟩ (fun k hk => ⟨(h k hk).1, (h k hk).2.1⟩)
theorem orL_nz {cs : List CSet} (h : ∀ s ∈ cs, s ≠ CSet.zero) (hc : cs ≠ []) : CSet.orL cs ≠ CSet.zero := by
  obtain ⟨s, hs⟩ := List.exists_mem_of_ne_nil cs hc
  intro e
  have := CSet.or_absorb hs
  rw [e, CSet.or_zero] at this
  exact h s hs this
theorem anyMem_good {F : List Re} (h : Goods F) (h4 : ∀ z ∈ F, z.op ≠ 4) {z : Re} (hz : AnyMem F z) : Good z ∧ z.op ≠ 0 ∧ z.op ≠ 4 := by
  rcases hz with ⟨h1, -, h3⟩ | ⟨h1, rfl⟩
  · exact ⟨h z h1, h3, h4 z h1⟩
  · exact ⟨.cls (orL_nz (good_nz h) h1), by simp [Re.op], by simp [Re.op]⟩
theorem anyL_good {rs : List Re} (h : Goods rs) : Good (anyL rs) := by
  have hF := flat_good (o := 4) h
  obtain ⟨L, e, hs, hm⟩ := anyL_char rs (good_nz hF)
  rw [e]
  refine packOr_good hs (fun z hz => anyMem_good hF (fun z hz => flat_op h (by simp) hz) ((hm z).1 hz)) (oneCls_of hs (u := CSet.orL (clss (flatL 4 rs))) fun s hs' => ?_)
  rcases (hm _).1 hs' with ⟨-, h2, -⟩ | ⟨-, h2⟩
  · exact absurd rfl h2
  · exact Re.cls.inj h2
theorem bothL_good {rs : List Re} (h : Goods rs) : Good (bothL rs) := by
  have hF := flat_good (o := 6) h
  by_cases hn : BothNo (flatL 6 rs)
  · rw [bothL_no rs (good_nz hF) hn]; exact .none
  obtain ⟨L, e, hs, hm⟩ := bothL_char rs (good_nz hF) hn
  rw [e]
  refine packAnd_good hs (fun z hz => ?_) (oneCls_of hs (u := CSet.andL (clss (flatL 6 rs))) fun s hs' => ?_)
  · rcases (hm z).1 hz with ⟨h1, -⟩ | ⟨h1, rfl⟩
    · exact ⟨hF z h1, fun e0 => hn (.inl (by rw [← op_zero e0]; exact h1)), flat_op h (by simp) h1⟩
    · exact ⟨.cls (fun e => hn (.inr ⟨h1, e⟩)), by simp [Re.op], by simp [Re.op]⟩
  · rcases (hm _).1 hs' with ⟨-, h2⟩ | ⟨-, h2⟩
    · exact absurd rfl h2
    · exact Re.cls.inj h2
theorem thenL_good {rs : List Re} (h : Goods rs) : Good (thenL rs) := by
  by_cases hn : Re.none ∈ flatL 3 rs
  · rw [thenL_no rs hn]; exact .none
  rw [thenL_eq rs hn]
  refine packCat_good fun z hz => ?_
  obtain ⟨h1, h2⟩ := List.mem_filter.1 hz
  exact ⟨flat_good h z h1, fun e => hn (by rw [← op_zero e]; exact h1), flat_op h (by simp) h1, by simpa [isEps] using h2⟩
theorem oneR_good (s : CSet) : Good (oneR s) := by
  unfold oneR
  by_cases h : s = CSet.zero
  · rw [if_pos h]; exact .none
  · rw [if_neg h]; exact .cls h
theorem manyR_good {r : Re} (h : Good r) : Good (manyR r) := by
  unfold manyR
  by_cases h1 : r.op = 0 ∨ r.op = 1
  · rw [if_pos h1]; exact .eps
  · rw [if_neg h1]
    by_cases h2 : r.op = 5
    · rw [if_pos h2]; exact h
    · rw [if_neg h2]
      refine .of ⟨h2, fun e => h1 (.inr e)⟩ fun k hk => ?_
      have e : k = r := by simpa [Re.kids] using hk
      rw [e]
      exact ⟨h, fun e => h1 (.inl e)⟩
theorem butR_good {a b : Re} (ha : Good a) (hb : Good b) : Good (butR a b) := by
  unfold butR
  by_cases h1 : a.op = 0 ∨ a.key = b.key
  · rw [if_pos h1]; exact .none
  rw [if_neg h1]
  by_cases h2 : b.op = 0
  · rw [if_pos h2]; exact ha
  rw [if_neg h2]
  by_cases h3 : a.op = 2 ∧ b.op = 2
  · rw [if_pos h3]; exact oneR_good _
  rw [if_neg h3]
  refine .of ⟨fun e => h1 (.inr (by rw [e])), h3⟩ fun k hk => ?_
  have e : k = a ∨ k = b := by simpa [Re.kids] using hk
  rcases e with e | e
  · rw [e]; exact ⟨ha, fun e => h1 (.inl e)⟩
  · rw [e]; exact ⟨hb, h2⟩
theorem wordR_good (l : List UInt8) : Good (wordR l) := thenL_good fun r hr => by
  obtain ⟨b, -, rfl⟩ := List.mem_map.1 hr
  exact oneR_good _
theorem getD_good {rs : List Re} (h : Goods rs) (k : Nat) : Good (rs.getD k .none) := by
  by_cases hk : k < rs.length
  · have e : rs.getD k .none = rs[k] := by simp [List.getD, List.getElem?_eq_getElem hk]
    rw [e]
    exact h _ (List.getElem_mem hk)
  · have e : rs.getD k .none = .none := by simp [List.getD, List.getElem?_eq_none (Nat.le_of_not_lt hk)]
    rw [e]
    exact .none
theorem makeOf_good (c lo hi : Nat) (t : ByteArray) {rs : List Re} (h : Goods rs) : Good (Shp.makeOf c lo hi t rs) := by
  unfold Shp.makeOf
  split
  · exact .none
  · exact .eps
  · exact oneR_good _
  · exact thenL_good h
  · exact anyL_good h
  · exact manyR_good (getD_good h 0)
  · exact bothL_good h
  · exact butR_good (getD_good h 0) (getD_good h 1)
  · exact wordR_good _
namespace Shp
mutual
theorem make_good : ∀ s : Shp, Good s.make
  | mk o l h t ks => by
    rw [make]
    exact makeOf_good _ _ _ _ (makes_good ks)
theorem makes_good : ∀ l : List Shp, Goods (makes l)
  | [] => fun r hr => by cases hr
  | k :: l => fun r hr => by
    rw [makes] at hr
    rcases List.mem_cons.1 hr with e | e
    · rw [e]; exact make_good k
    · exact makes_good l r e
end
end Shp

theorem flat_congr {o : Nat} {rs ss : List Re} (h : ∀ z, z ∈ rs ↔ z ∈ ss) (z : Re) : z ∈ flatL o rs ↔ z ∈ flatL o ss := by
  simp only [mem_flat, h]
theorem clss_congr {F G : List Re} (h : ∀ z, z ∈ F ↔ z ∈ G) : (∀ s, s ∈ clss F ↔ s ∈ clss G) ∧ (clss F ≠ [] ↔ clss G ≠ []) := by
  have h1 : ∀ s, s ∈ clss F ↔ s ∈ clss G := fun s => by rw [mem_clss, mem_clss, h]
  refine ⟨h1, ?_⟩
  rw [ne_eq, ne_eq, List.eq_nil_iff_forall_not_mem, List.eq_nil_iff_forall_not_mem]
  simp only [h1]
theorem anyL_congr {rs ss : List Re} (hg : Goods rs) (h : ∀ z, z ∈ rs ↔ z ∈ ss) : anyL rs = anyL ss := by
  have hg' : Goods ss := fun z hz => hg z ((h z).2 hz)
  obtain ⟨L, e, hs, hm⟩ := anyL_char rs (good_nz (flat_good hg))
  obtain ⟨M, e', hs', hm'⟩ := anyL_char ss (good_nz (flat_good hg'))
  have hF := flat_congr (o := 4) h
  obtain ⟨hc, hc'⟩ := clss_congr hF
  rw [e, e', sorted_unique L M hs hs' fun z => by rw [hm, hm']; unfold AnyMem; rw [hF z, hc', CSet.orL_congr hc]]
theorem bothNo_congr {F G : List Re} (h : ∀ z, z ∈ F ↔ z ∈ G) : BothNo F ↔ BothNo G := by
  obtain ⟨hc, hc'⟩ := clss_congr h
  unfold BothNo
  rw [h, hc', CSet.andL_congr hc]
theorem bothL_congr {rs ss : List Re} (hg : Goods rs) (h : ∀ z, z ∈ rs ↔ z ∈ ss) : bothL rs = bothL ss := by
  have hg' : Goods ss := fun z hz => hg z ((h z).2 hz)
  have hF := flat_congr (o := 6) h
  by_cases hn : BothNo (flatL 6 rs)
  · rw [bothL_no rs (good_nz (flat_good hg)) hn, bothL_no ss (good_nz (flat_good hg')) ((bothNo_congr hF).1 hn)]
  obtain ⟨L, e, hs, hm⟩ := bothL_char rs (good_nz (flat_good hg)) hn
  obtain ⟨M, e', hs', hm'⟩ := bothL_char ss (good_nz (flat_good hg')) (fun h' => hn ((bothNo_congr hF).2 h'))
  obtain ⟨hc, hc'⟩ := clss_congr hF
  rw [e, e', sorted_unique L M hs hs' fun z => by rw [hm, hm']; unfold BothMem; rw [hF z, hc', CSet.andL_congr hc]]
theorem flatL_append (o : Nat) (a b : List Re) : flatL o (a ++ b) = flatL o a ++ flatL o b := by simp [flatL]
theorem thenL_group {a b : List Re} (ha : Goods a) (hb : Goods b) : thenL [thenL a, thenL b] = thenL (a ++ b) := by
  have key : ∀ c : List Re, Goods c → (Re.none ∈ flatL 3 c → flat1 3 (thenL c) = [.none]) ∧ (Re.none ∉ flatL 3 c → Re.none ∉ flat1 3 (thenL c) ∧ (flat1 3 (thenL c)).filter (fun r => !isEps r) = (flatL 3 c).filter fun r => !isEps r) := fun c hc => by
    refine ⟨fun h => by rw [thenL_no c h]; rfl, fun h => ?_⟩
    rw [thenL_eq c h, flat1_packCat _ (fun z hz => flat_op hc (by simp) (List.mem_filter.1 hz).1)]
    by_cases h0 : (flatL 3 c).filter (fun r => !isEps r) = []
    · rw [if_pos h0, h0]; exact ⟨by simp, by simp [isEps, Re.op]⟩
    · rw [if_neg h0]; exact ⟨fun hz => h (List.mem_filter.1 hz).1, by simp [List.filter_filter]⟩
  have e : flatL 3 [thenL a, thenL b] = flat1 3 (thenL a) ++ flat1 3 (thenL b) := by simp [flatL]
  by_cases h1 : Re.none ∈ flatL 3 a
  · rw [thenL_no (a ++ b) (by rw [flatL_append]; simp [h1]), thenL_no]
    rw [e, (key a ha).1 h1]; simp
  by_cases h2 : Re.none ∈ flatL 3 b
  · rw [thenL_no (a ++ b) (by rw [flatL_append]; simp [h2]), thenL_no]
    rw [e, (key b hb).1 h2]; simp
  rw [thenL_eq (a ++ b) (by rw [flatL_append]; simp [h1, h2]), thenL_eq _ (by rw [e]; simp [((key a ha).2 h1).1, ((key b hb).2 h2).1])]
  rw [e, flatL_append, List.filter_append, List.filter_append, ((key a ha).2 h1).2, ((key b hb).2 h2).2]
end Go.Proofs.YtfpfloahkibcgaaGreatDoor

/- Plain: groups of an Any; an expression with its own kids. -/
namespace Go.Proofs.YtfpfloahkibcgaaGreatDoor

theorem mem_packOr {L : List Re} (h : ∀ z ∈ L, z.op ≠ 4) {z : Re} (hz : z.op ≠ 0) : z ∈ flat1 4 (packOr L) ↔ z ∈ L := by
  rw [flat1_packOr L h]
  by_cases h0 : L = []
  · rw [if_pos h0, h0]
    constructor
    · intro e
      have e : z = .none := by simpa using e
      exact absurd (by rw [e]; rfl) hz
    · intro e; cases e
  · rw [if_neg h0]
theorem anyL_group {a b : List Re} (ha : Goods a) (hb : Goods b) : anyL [anyL a, anyL b] = anyL (a ++ b) := by
  have hab : Goods (a ++ b) := fun z hz => by
    rcases List.mem_append.1 hz with h | h
    · exact ha z h
    · exact hb z h
  have hg : Goods [anyL a, anyL b] := fun z hz => by
    have e : z = anyL a ∨ z = anyL b := by simpa using hz
    rcases e with e | e
    · rw [e]; exact anyL_good ha
    · rw [e]; exact anyL_good hb
  obtain ⟨L, eL, sL, mL⟩ := anyL_char (a ++ b) (good_nz (flat_good hab))
  obtain ⟨M, eM, sM, mM⟩ := anyL_char [anyL a, anyL b] (good_nz (flat_good hg))
  have key : ∀ c : List Re, Goods c → ∀ z : Re, z.op ≠ 0 → (z ∈ flat1 4 (anyL c) ↔ AnyMem (flatL 4 c) z) := fun c hc z hz => by
    obtain ⟨C, eC, sC, mC⟩ := anyL_char c (good_nz (flat_good hc))
    rw [eC, mem_packOr (fun z hz => (anyMem_good (flat_good hc) (fun z hz => flat_op hc (by simp) hz) ((mC z).1 hz)).2.2) hz, mC]
  have hmem : ∀ z : Re, z.op ≠ 0 → (z ∈ flatL 4 [anyL a, anyL b] ↔ AnyMem (flatL 4 a) z ∨ AnyMem (flatL 4 b) z) := fun z hz => by
    have e : flatL 4 [anyL a, anyL b] = flat1 4 (anyL a) ++ flat1 4 (anyL b) := by simp [flatL]
    rw [e, List.mem_append, key a ha z hz, key b hb z hz]
  have hcl : ∀ s, s ∈ clss (flatL 4 [anyL a, anyL b]) ↔ (clss (flatL 4 a) ≠ [] ∧ s = CSet.orL (clss (flatL 4 a))) ∨ (clss (flatL 4 b) ≠ [] ∧ s = CSet.orL (clss (flatL 4 b))) := fun s => by
    rw [mem_clss, hmem _ (by simp [Re.op])]
    unfold AnyMem
    simp [Re.op]
  have hne : clss (flatL 4 [anyL a, anyL b]) ≠ [] ↔ clss (flatL 4 a) ≠ [] ∨ clss (flatL 4 b) ≠ [] := by
    constructor
    · intro h
      obtain ⟨s, hs⟩ := List.exists_mem_of_ne_nil _ h
      rcases (hcl s).1 hs with h | h
      · exact .inl h.1
      · exact .inr h.1
    · intro h e
      rcases h with h | h
      · have := (hcl _).2 (.inl ⟨h, rfl⟩)
        rw [e] at this; cases this
      · have := (hcl _).2 (.inr ⟨h, rfl⟩)
        rw [e] at this; cases this
  have hor : CSet.orL (clss (flatL 4 [anyL a, anyL b])) = (CSet.orL (clss (flatL 4 a))).or (CSet.orL (clss (flatL 4 b))) := by
    have e : CSet.orL (clss (flatL 4 [anyL a, anyL b])) = CSet.orL ((if clss (flatL 4 a) = [] then [] else [CSet.orL (clss (flatL 4 a))]) ++ (if clss (flatL 4 b) = [] then [] else [CSet.orL (clss (flatL 4 b))])) :=
      CSet.orL_congr fun s => by
        rw [hcl, List.mem_append]
        by_cases h1 : clss (flatL 4 a) = [] <;> by_cases h2 : clss (flatL 4 b) = [] <;> simp [h1, h2]
    rw [e, CSet.orL_append]
    by_cases h1 : clss (flatL 4 a) = [] <;> by_cases h2 : clss (flatL 4 b) = [] <;> simp [h1, h2, CSet.orL, CSet.zero_or, CSet.or_zero]
  have hfl : flatL 4 (a ++ b) = flatL 4 a ++ flatL 4 b := flatL_append 4 a b
  have hne' : clss (flatL 4 (a ++ b)) ≠ [] ↔ clss (flatL 4 a) ≠ [] ∨ clss (flatL 4 b) ≠ [] := by
    rw [hfl, clss_append]
    by_cases h1 : clss (flatL 4 a) = [] <;> simp [h1]
  rw [eL, eM, sorted_unique M L sM sL fun z => ?_]
  rw [mM, mL]
  unfold AnyMem
  rw [hne, hne', hor, hfl, clss_append, CSet.orL_append, List.mem_append]
  by_cases hz : z.op = 2 ∨ z.op = 0
  · have h1 : ¬ (z.op ≠ 2 ∧ z.op ≠ 0) := by omega
    simp [h1]
  · have h0 : z.op ≠ 0 := by omega
    have h2 : z.op ≠ 2 := by omega
    rw [hmem z h0]
    have hc : ∀ s : CSet, z ≠ .cls s := fun s e => h2 (by rw [e]; rfl)
    unfold AnyMem
    simp [h0, h2, hc]

theorem flat_self {o : Nat} {l : List Re} (h : ∀ k ∈ l, k.op ≠ o) : flatL o l = l := by
  induction l with
  | nil => rfl
  | cons r l ih =>
    have e : flatL o (r :: l) = flat1 o r ++ flatL o l := by simp [flatL]
    rw [e, ih (fun k hk => h k (List.mem_cons_of_mem _ hk)), flat1, if_neg (h r (List.mem_cons_self ..))]
    rfl
theorem one_of_clss {l : List Re} (h1 : OneCls l) {s t : CSet} (hs : s ∈ clss l) (ht : t ∈ clss l) : s = t := by
  unfold OneCls at h1
  match hc : clss l with
  | [] => rw [hc] at hs; cases hs
  | [a] => rw [hc] at hs ht; simp at hs ht; rw [hs, ht]
  | a :: b :: m => rw [hc] at h1; simp at h1
theorem thenL_self {l : List Re} (h : Good (.cat l)) : thenL l = .cat l := by
  have hk := fun k (hk : k ∈ l) => h.kid (r := .cat l) hk
  have hf : flatL 3 l = l := flat_self fun k hk => (h.fit.2 k hk).1
  rw [thenL_eq l (by rw [hf]; exact fun e => (hk _ e).2 rfl), hf]
  have : l.filter (fun r => !isEps r) = l := List.filter_eq_self.2 fun k hk => by simp [isEps, (h.fit.2 k hk).2]
  rw [this]
  match l, h.fit.1 with
  | a :: b :: m, _ => rfl
theorem anyL_self {l : List Re} (h : Good (.or l)) : anyL l = .or l := by
  have hk := fun k (hk : k ∈ l) => h.kid (r := .or l) hk
  have hf : flatL 4 l = l := flat_self fun k hk => h.fit.2.1 k hk
  have hg : Goods l := fun k hk' => (hk k hk').1
  obtain ⟨L, e, sL, mL⟩ := anyL_char l (good_nz (flat_good hg))
  rw [e, sorted_unique L l sL h.fit.2.2.1 fun z => ?_]
  · match l, h.fit.1 with
    | a :: b :: m, _ => rfl
  · rw [mL, hf]
    constructor
    · intro hz
      rcases hz with hz | ⟨hne, rfl⟩
      · exact hz.1
      · obtain ⟨s, hs⟩ := List.exists_mem_of_ne_nil _ hne
        have : clss l = [s] := by
          match hc : clss l, h.fit.2.2.2 with
          | [a], _ => rw [hc] at hs; simp at hs; rw [hs]
          | [], _ => exact absurd hc hne
          | a :: b :: m, h1 => unfold OneCls at h1; rw [hc] at h1; simp at h1
        rw [this]
        have e2 : CSet.orL [s] = s := by rw [CSet.orL_cons]; exact CSet.or_zero s
        rw [e2]
        exact (mem_clss l s).1 hs
    · intro hz
      by_cases h2 : z.op = 2
      · obtain ⟨s, rfl⟩ := op_two h2
        have hs := (mem_clss l s).2 hz
        refine .inr ⟨List.ne_nil_of_mem hs, ?_⟩
        have : clss l = [s] := by
          match hc : clss l, h.fit.2.2.2 with
          | [a], _ => rw [hc] at hs; simp at hs; rw [hs]
          | [], _ => rw [hc] at hs; cases hs
          | a :: b :: m, h1 => unfold OneCls at h1; rw [hc] at h1; simp at h1
        rw [this, CSet.orL_cons]
        show _ = Re.cls (s.or CSet.zero)
        rw [CSet.or_zero]
      · exact .inl ⟨hz, h2, (hk z hz).2⟩
theorem bothL_self {l : List Re} (h : Good (.and l)) : bothL l = .and l := by
  have hk := fun k (hk : k ∈ l) => h.kid (r := .and l) hk
  have hf : flatL 6 l = l := flat_self fun k hk => h.fit.2.1 k hk
  have hg : Goods l := fun k hk' => (hk k hk').1
  have h1c : ∀ s, s ∈ clss l → clss l = [s] := fun s hs => by
    match hc : clss l, h.fit.2.2.2 with
    | [a], _ => rw [hc] at hs; simp at hs; rw [hs]
    | [], _ => rw [hc] at hs; cases hs
    | a :: b :: m, h1 => unfold OneCls at h1; rw [hc] at h1; simp at h1
  have e1 : ∀ s, CSet.andL [s] = s := fun s => by rw [CSet.andL_cons]; exact CSet.and_all s
  have hn : ¬ BothNo (flatL 6 l) := by
    rw [hf]
    rintro (h0 | ⟨hne, h0⟩)
    · exact (hk _ h0).2 rfl
    · obtain ⟨s, hs⟩ := List.exists_mem_of_ne_nil _ hne
      rw [h1c s hs, e1] at h0
      exact good_nz hg s hs h0
  obtain ⟨L, e, sL, mL⟩ := bothL_char l (good_nz (flat_good hg)) hn
  rw [e, sorted_unique L l sL h.fit.2.2.1 fun z => ?_]
  · match l, h.fit.1 with
    | a :: b :: m, _ => rfl
  · rw [mL, hf]
    constructor
    · intro hz
      rcases hz with hz | ⟨hne, rfl⟩
      · exact hz.1
      · obtain ⟨s, hs⟩ := List.exists_mem_of_ne_nil _ hne
        rw [h1c s hs, e1]
        exact (mem_clss l s).1 hs
    · intro hz
      by_cases h2 : z.op = 2
      · obtain ⟨s, rfl⟩ := op_two h2
        have hs := (mem_clss l s).2 hz
        exact .inr ⟨List.ne_nil_of_mem hs, by rw [h1c s hs, e1]⟩
      · exact .inl ⟨hz, h2⟩
theorem manyR_self {r : Re} (h : Good (.star r)) : manyR r = .star r := by
  have h0 := (h.kid (r := .star r) (k := r) (by simp [Re.kids])).2
  unfold manyR
  rw [if_neg (by rintro (e | e); exact h0 e; exact h.fit.2 e), if_neg h.fit.1]
theorem butR_self {x y : Re} (h : Good (.minus x y)) : butR x y = .minus x y := by
  have hx := (h.kid (r := .minus x y) (k := x) (by simp [Re.kids])).2
  have hy := (h.kid (r := .minus x y) (k := y) (by simp [Re.kids])).2
  unfold butR
  rw [if_neg (by rintro (e | e); exact hx e; exact h.fit.1 (Re.key_inj e)), if_neg hy, if_neg h.fit.2]
end Go.Proofs.YtfpfloahkibcgaaGreatDoor

/- The walk of the layers' head. -/
namespace Go.Proofs.YtfpfloahkibcgaaGreatDoor
open Go.RowKit

/-- No block is forbidden. -/
abbrev X0 : Nat → Prop := fun _ => False
theorem X0_lt (w : World) : ∀ k, X0 k → k < w.heap.size := fun _ h => h.elim

theorem of_bytes (l : List Nat) (w : World) (hl : ∀ b ∈ l, b < 256) (hn : l.length ≤ 1000) :
    Calls Tryz.prog 83 #[.slice (some ⟨w.heap.size, 0, none⟩) l.length l.length] (w.alloc (.cells (l.map fun b : Nat => Value.int .u8 (b : Int)).toArray 5)) fun e w' => e = .returned (cv (CSet.ofList l)) ∧ Below w.heap.size w w' := by
  refine (setOf_any (some ⟨w.heap.size, 0, none⟩) l.length l.length l _ hl ⟨by simp, fun _ => ⟨w.heap.size, 0, rfl, by simp, fun j u hj => ?_⟩⟩ (by omega)).mono fun e w' h => ⟨h.1, ((Below.refl _ _).alloc (Nat.le_refl _) _).trans (h.2.mono (by simp))⟩
  rw [Nat.zero_add]
  exact (blk_cell (blk_new _ _) j).trans (by simpa using hj)
theorem of_bytes_d (l : List Nat) (w : World) (hl : ∀ b ∈ l, b < 256) (hn : l.length ≤ 1000) :
    Calls Tryz.prog 83 #[.slice (some ⟨w.heap.size, 0, none⟩) l.length l.length] (w.alloc (.cells (l.map fun b : Nat => Value.int .u8 (b : Int)).toArray 5)).drew fun e w' => e = .returned (cv (CSet.ofList l)) ∧ Below w.heap.size w w' := by
  refine (setOf_any (some ⟨w.heap.size, 0, none⟩) l.length l.length l _ hl ⟨by simp, fun _ => ⟨w.heap.size, 0, rfl, by simp, fun j u hj => ?_⟩⟩ (by omega)).mono fun e w' h => ⟨h.1, ((Below.refl _ _).alloc (Nat.le_refl _) _).drew.trans (h.2.mono (by simp))⟩
  rw [Nat.zero_add]
  exact (blk_cell (blk_new _ _) j).trans (by simpa using hj)
theorem Rd.news (w : World) (bs : List Nat) (T : TypeId) : Rd (w.alloc (.cells (bs.map ptr).toArray T)) (some ⟨w.heap.size, 0, none⟩) bs.length (bs.map ptr) :=
  ⟨by simp, fun _ => ⟨w.heap.size, 0, rfl, by simp, fun j u hj => by
    rw [Nat.zero_add]
    exact (blk_cell (blk_new _ _) j).trans (by simpa using hj)⟩⟩
/-- A new row of expressions. -/
theorem ReRow.news {w : World} {X : Nat → Prop} {rs : List Re} {bs : List Nat} (h : Els w X rs bs) (hX : ∀ k, X k → k < w.heap.size) (T : TypeId) : ReRow (w.alloc (.cells (bs.map ptr).toArray T)) X (some ⟨w.heap.size, 0, none⟩) bs.length rs bs :=
  ⟨Rd.news w bs T, h.alloc _, fun a _ e hx => by cases e; have := hX _ hx; simp at this⟩

abbrev ua : CSet := CSet.ofList [97]
abbrev ub : CSet := CSet.ofList [98]
abbrev uab : CSet := CSet.ofList [97, 98]
theorem one_ua : oneR ua = .cls ua := by unfold oneR; rw [if_neg (by decide)]
theorem one_ub : oneR ub = .cls ub := by unfold oneR; rw [if_neg (by decide)]
theorem any_ab : anyL [.cls ua, .cls ub] = .cls uab := by
  have h : CSet.or ua ub = uab := by decide
  have h0 : ¬ uab = CSet.zero := by decide
  simp only [anyL, joinL, flatL, flat1, List.flatMap_cons, List.flatMap_nil, Re.op]
  simp [joinGo, h, h0, uniq, ins, isNone, Re.op, packOr]
theorem then_ea : thenL [.eps, .cls ua] = .cls ua := by
  simp [thenL, flatL, flat1, Re.op, isEps, isNone, packCat]
theorem keys_ab : ((Re.cls ua).key == (Re.cls uab).key) = false := by
  have hne : ¬ ua = uab := by decide
  have : ¬ (Re.cls ua).key = (Re.cls uab).key := fun e => by
    have := Re.key_inj e
    injection this with h
    exact hne h
  simpa using this

theorem undrew {w w' : World} (h : Below w.drew.heap.size w.drew w') : Below w.heap.size w w' := ⟨h.os, h.tape, h.output, h.size, h.block⟩
end Go.Proofs.YtfpfloahkibcgaaGreatDoor

/- The walk of alike. -/
namespace Go.Proofs.YtfpfloahkibcgaaGreatDoor
open Go.RowKit

mutual
theorem Re.ind_ {P : Re → Prop} (h : ∀ r : Re, (∀ k ∈ r.kids, P k) → P r) : ∀ r : Re, P r
  | .none => h _ (fun k hk => by cases hk)
  | .eps => h _ (fun k hk => by cases hk)
  | .cls _ => h _ (fun k hk => by cases hk)
  | .cat l => h _ (Re.inds_ h l)
  | .or l => h _ (Re.inds_ h l)
  | .star r => h _ (fun k hk => by
      have e : k = r := by simpa [Re.kids] using hk
      rw [e]; exact Re.ind_ h r)
  | .and l => h _ (Re.inds_ h l)
  | .minus x y => h _ (fun k hk => by
      have e : k = x ∨ k = y := by simpa [Re.kids] using hk
      rcases e with e | e
      · rw [e]; exact Re.ind_ h x
      · rw [e]; exact Re.ind_ h y)
theorem Re.inds_ {P : Re → Prop} (h : ∀ r : Re, (∀ k ∈ r.kids, P k) → P r) : ∀ l : List Re, ∀ k ∈ l, P k
  | [], _, hk => by cases hk
  | s :: l, k, hk => by
    rcases List.mem_cons.1 hk with e | e
    · rw [e]; exact Re.ind_ h s
    · exact Re.inds_ h l k e
end
theorem Re.eq_of {r s : Re} (ho : r.op = s.op) (hs : r.op = 2 → r.set = s.set) (hk : r.kids = s.kids) : r = s := by
  cases r <;> cases s <;> simp_all [Re.op, Re.set, Re.kids]
theorem kids_cls {r : Re} (h : r.op = 2) : r.kids = [] := by cases r <;> simp_all [Re.op, Re.kids]

end Go.Proofs.YtfpfloahkibcgaaGreatDoor

/- append to a row of pointers, in a region that draws its order. -/
namespace Go.Proofs.YtfpfloahkibcgaaGreatDoor
open Go.RowKit

theorem step_app_ptr {ops : Array Oper} {o : Oper} {a : Act} {K : Act → World → Prop} {Q : Exit → Act → World → Prop} {E : Prop} (w : World) (hgd : o.guard = none) (s x : Operand)
    (ho : o.op = .call { callee := .builtin .append, args := #[s, x], argTypes := #[69, 69] })
    (base : Nat) (v : Value) (bs : List Nat) (hs : a.eval s = v) (hown : OwnP w base v bs)
    (A : Option Addr) (n c : Nat) (cs : List Nat) (hx : a.eval x = .slice A n c) (hr : Rd w A n (cs.map ptr)) (hc0 : A = none → c = 0)
    (hn : bs.length + cs.length ≤ 1099511627776) (hbase : base ≤ w.heap.size)
    (h : ∀ v' w', OwnP w' base v' (bs ++ cs) → w.grownBy w' v.ownBlock → (v'.ownBlock = v.ownBlock ∨ v'.ownBlock = some w.heap.size) → K (a.put o.dst v') w') :
    if Region.wanted o (yielded ops a.tmps) = true then Oper.wp Tryz.prog o a w K Q else E := by
  have hw : Region.wanted o (yielded ops a.tmps) = true := by simp [Region.wanted, hgd]
  rw [if_pos hw]
  have hnl : cs.length = n := by simpa using hr.1
  cases A with
  | none =>
    have h0 : n = 0 := by
      rcases Nat.eq_zero_or_pos n with h | h
      · exact h
      · obtain ⟨_, _, e, _⟩ := hr.2 h
        cases e
    subst h0
    have hcs : cs = [] := List.eq_nil_of_length_eq_zero hnl
    subst hcs
    obtain rfl := hc0 rfl
    obtain ⟨i0, hi, hz0, hz1, hz2⟩ := info_parts info_ptr
    have hrun := run_append_owned_none (P := Tryz.prog) (w := w) base 69 o.type 32 i0 1 Tryz.underlying69 hi v _ _ hown
    unfold Oper.wp
    simp [execOp, ho, resolve, invoke, builtin, hs, hx, hrun, Result.andThen]
    exact h v w (by simpa using hown) (World.grownBy.refl w _) (.inl rfl)
  | some ad =>
    obtain ⟨i0, hi, hz0, hz1, hz2⟩ := info_parts info_ptr
    obtain ⟨v', w', hrn, h1, h2, h3, h4⟩ := run_append_own_at (P := Tryz.prog) w base 69 o.type 32 i0 (.pointer none) 1 8 Tryz.underlying69 hi hz0 hz1 hz2 rfl (by decide) v _ _ hown ad n c (cs.map ptr) (by simp [hnl]) (by
      intro j u' hj
      have hj' := (List.getElem?_eq_some_iff.1 hj).1
      simp at hj'
      obtain ⟨g, o', e, _, hc⟩ := hr.2 (by omega)
      cases e
      have := hc j u' hj
      unfold Addr.add
      by_cases h0 : j = 0
      · subst h0; simpa using this
      · simpa [h0] using this) (by intro u' hu; simp at hu; obtain ⟨b, _, rfl⟩ := hu; rfl) (by unfold maxLen; omega) (by omega) hbase
    unfold Oper.wp execOp
    simp only [ho, resolve, invoke, builtin, Sem.run_bind, Sem.run_pure, Result.andThen_ok, List.map_toArray, List.map_cons, List.map_nil, hs, hx, hrn]
    exact h v' w' (by simpa [OwnP, hnl] using h1) h2 h4
end Go.Proofs.YtfpfloahkibcgaaGreatDoor

/- The low bits of an int. -/
namespace Go.Proofs.YtfpfloahkibcgaaGreatDoor
open Go.RowKit
theorem i64_and255 (n : Int) : bits .and .i64 n 255 = n % 256 := by
  have hm : (BitVec.ofInt 64 255).toNat = 2 ^ 8 - 1 := by decide
  have key : (BitVec.ofInt 64 n &&& BitVec.ofInt 64 255).toNat = (n % ((2 ^ 64 : Nat) : Int)).toNat % 2 ^ 8 := by
    rw [BitVec.toNat_and, BitVec.toNat_ofInt, hm, Nat.and_two_pow_sub_one_eq_mod]
  show IntKind.i64.wrap ((BitVec.ofInt 64 n &&& BitVec.ofInt 64 255).toNat : Nat) = n % 256
  rw [key, IntKind.wrap_i64]
  omega
theorem i64_and3 (n : Int) : bits .and .i64 n 3 = n % 4 := by
  have hm : (BitVec.ofInt 64 3).toNat = 2 ^ 2 - 1 := by decide
  have key : (BitVec.ofInt 64 n &&& BitVec.ofInt 64 3).toNat = (n % ((2 ^ 64 : Nat) : Int)).toNat % 2 ^ 2 := by
    rw [BitVec.toNat_and, BitVec.toNat_ofInt, hm, Nat.and_two_pow_sub_one_eq_mod]
  show IntKind.i64.wrap ((BitVec.ofInt 64 n &&& BitVec.ofInt 64 3).toNat : Nat) = n % 4
  rw [key, IntKind.wrap_i64]
  omega
end Go.Proofs.YtfpfloahkibcgaaGreatDoor

/- What the laws' walks share: takes and drops of a row, small expressions, keys that are one. -/
namespace Go.Proofs.YtfpfloahkibcgaaGreatDoor
open Go.RowKit

open Classical in
theorem dec_keys (x y : Re) : (x.key == y.key) = decide (x = y) := by
  by_cases h : x = y
  · rw [h, beq_self_eq_true, decide_eq_true rfl]
  · rw [decide_eq_false h]
    simpa using fun e => h (Re.key_inj e)
/-- A made expression is small. -/
theorem few_size {s : Shp} (h : s.few = true) : s.make.size ≤ 660 := by
  have := Shp.few_small h
  have := Shp.make_size s this.2
  omega

theorem rd_take {w : World} {g o n : Nat} {bs : List Nat} (h : Rd w (some ⟨g, o, none⟩) n (bs.map ptr)) {t : Nat} (ht : t ≤ n) : Rd w (some ⟨g, o, none⟩) t ((bs.take t).map ptr) := by
  have hl : bs.length = n := by simpa using h.1
  refine ⟨by simp; omega, fun h0 => ?_⟩
  obtain ⟨g', o', e, hg, hc⟩ := h.2 (by omega)
  cases e
  refine ⟨_, _, rfl, hg, fun j u hj => hc j u ?_⟩
  rw [List.map_take, List.getElem?_take] at hj
  split at hj
  · exact hj
  · cases hj
theorem rd_drop {w : World} {g o n : Nat} {bs : List Nat} (h : Rd w (some ⟨g, o, none⟩) n (bs.map ptr)) (t : Nat) : Rd w (some ⟨g, o + t, none⟩) (n - t) ((bs.drop t).map ptr) := by
  have hl : bs.length = n := by simpa using h.1
  refine ⟨by simp; omega, fun h0 => ?_⟩
  obtain ⟨g', o', e, hg, hc⟩ := h.2 (by omega)
  cases e
  refine ⟨_, _, rfl, hg, fun j u hj => ?_⟩
  rw [Nat.add_assoc]
  refine hc (t + j) u ?_
  rw [List.map_drop, List.getElem?_drop] at hj
  exact hj

theorem blk_second (w : World) (A B : Obj) : ((w.alloc A).alloc B).heap[w.heap.size + 1]? = some B := by
  have := blk_new (w.alloc A) B
  simpa using this
theorem rd_one_at {W : World} {b b0 : Nat} (h : W.heap[b]? = some (.cells #[.pointer (some ⟨b0, 0, none⟩)] 32 (0, 0))) : Rd W (some ⟨b, 0, none⟩) 1 ([b0].map ptr) :=
  ⟨rfl, fun _ => ⟨b, 0, rfl, lt_of_heap h, fun j u hj => by
    match j, hj with
    | 0, hj => simp at hj; subst hj; exact (blk_cell h 0).trans (by simp)⟩⟩
theorem els_sub {w : World} {X : Nat → Prop} {rs : List Re} {bs : List Nat} (h : Els w X rs bs) (t : Nat) : Els w X (rs.take t) (bs.take t) ∧ Els w X (rs.drop t) (bs.drop t) := by
  refine ⟨⟨by simp [h.1], fun i r b h1 h2 => ?_⟩, ⟨by simp [h.1], fun i r b h1 h2 => h.2 (t + i) r b (by simpa using h1) (by simpa using h2)⟩⟩
  rw [List.getElem?_take] at h1 h2
  split at h1
  · rename_i hi
    rw [if_pos hi] at h2
    exact h.2 i r b h1 h2
  · cases h1
theorem els_rot {w : World} {X : Nat → Prop} {rs : List Re} {bs : List Nat} (h : Els w X rs bs) {r0 : Re} {b0 t : Nat} (hr : rs[0]? = some r0) (hb : bs[0]? = some b0) : Els w X (rs.drop t ++ rs.take t ++ [r0]) (bs.drop t ++ bs.take t ++ [b0]) :=
  (((els_sub h t).2).append (els_sub h t).1).append (Els.one (h.2 0 r0 b0 hr hb))
theorem row_take {w : World} {X : Nat → Prop} {g o n : Nat} {rs : List Re} {bs : List Nat} (h : ReRow w X (some ⟨g, o, none⟩) n rs bs) {t : Nat} (ht : t ≤ n) : ReRow w X (some ⟨g, o, none⟩) t (rs.take t) (bs.take t) :=
  ⟨rd_take h.1 ht, (els_sub h.2.1 t).1, fun a h0 e => by cases e; exact h.2.2 _ (by omega) rfl⟩
theorem row_drop {w : World} {X : Nat → Prop} {g o n : Nat} {rs : List Re} {bs : List Nat} (h : ReRow w X (some ⟨g, o, none⟩) n rs bs) (t : Nat) : ReRow w X (some ⟨g, o + t, none⟩) (n - t) (rs.drop t) (bs.drop t) :=
  ⟨rd_drop h.1 t, (els_sub h.2.1 t).2, fun a h0 e => by cases e; exact h.2.2 ⟨g, o, none⟩ (by omega) rfl⟩
theorem rot_laws {rs : List Re} (hg : Goods rs) {r0 : Re} {t : Nat} (h0 : rs[0]? = some r0) : anyL (rs.drop t ++ rs.take t ++ [r0]) = anyL rs ∧ bothL (rs.drop t ++ rs.take t ++ [r0]) = bothL rs := by
  have hm : ∀ z, z ∈ rs ↔ z ∈ rs.drop t ++ rs.take t ++ [r0] := fun z => by
    have h1 : z ∈ rs ↔ z ∈ rs.take t ++ rs.drop t := by rw [List.take_append_drop]
    have h2 : z = r0 → z ∈ rs := fun e => by rw [e]; exact List.mem_of_getElem? h0
    rw [List.mem_append] at h1
    rw [List.mem_append, List.mem_append, List.mem_singleton]
    constructor
    · intro h
      rcases h1.1 h with h | h
      · exact .inl (.inr h)
      · exact .inl (.inl h)
    · intro h
      rcases h with (h | h) | h
      · exact h1.2 (.inr h)
      · exact h1.2 (.inl h)
      · exact h2 h
  exact ⟨(anyL_congr hg hm).symm, (bothL_congr hg hm).symm⟩
theorem own_empty {W : World} {b base : Nat} (hb : base ≤ b) (h : W.heap[b]? = some (.cells #[] 32 (0, 0))) : OwnP W base (.slice (some ⟨b, 0, none⟩) 0 0) [] :=
  ⟨by simp, .inr ⟨b, 0, #[], rfl, hb, h, Nat.le_refl _, by decide, rfl, by simp⟩⟩

theorem withR_self {r : Re} (h : Good r) : withR r r.kids = r := by
  unfold withR
  cases r with
  | cat l => simp [Re.op, Re.kids, thenL_self h]
  | or l => simp [Re.op, Re.kids, anyL_self h]
  | and l => simp [Re.op, Re.kids, bothL_self h]
  | star x => simp [Re.op, Re.kids, manyR_self h]
  | minus x y => simp [Re.op, Re.kids, butR_self h]
  | _ => simp [Re.op]
theorem op_lt (r : Re) : r.op < 8 := by cases r <;> simp [Re.op]
theorem kids_sizes (r : Re) : Re.sizes r.kids ≤ r.size := by rw [Re.size_kids]; omega
end Go.Proofs.YtfpfloahkibcgaaGreatDoor
