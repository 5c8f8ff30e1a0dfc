/- Plain: the parts into which sets cut all bytes; what stands behind the bytes of one part is the same. -/
import Derived.Test.YtfpfloahkibcgaaGreatDoorDer
namespace Go.Proofs.YtfpfloahkibcgaaGreatDoor

namespace CSet
theorem ext_has {s t : CSet} (h : ∀ b, b < 256 → s.has b = t.has b) : s = t := by
  obtain ⟨a, b, c, d⟩ := s
  obtain ⟨a', b', c', d'⟩ := t
  have hw : ∀ i, i < 4 → ∀ j, j < 64 → ((CSet.mk a b c d).word i).getLsbD j = ((CSet.mk a' b' c' d').word i).getLsbD j := fun i hi j hj => by
    have := h (i * 64 + j) (by omega)
    unfold has at this
    rw [show (i * 64 + j) / 64 = i by omega, show (i * 64 + j) % 64 = j by omega] at this
    exact this
  have e : ∀ x y : BitVec 64, (∀ j, j < 64 → x.getLsbD j = y.getLsbD j) → x = y := fun x y h => BitVec.eq_of_getLsbD_eq fun i hi => h i hi
  rw [e a a' (hw 0 (by omega)), e b b' (hw 1 (by omega)), e c c' (hw 2 (by omega)), e d d' (hw 3 (by omega))]
theorem ne_zero {s : CSet} (h : s ≠ zero) : ∃ b, b < 256 ∧ s.has b = true := by
  apply Classical.byContradiction
  intro hn
  apply h
  apply ext_has
  intro b hb
  rw [has_zero]
  cases e : s.has b with
  | false => rfl
  | true => exact absurd ⟨b, hb, e⟩ hn
theorem of_has {s : CSet} {b : Nat} (h : s.has b = true) : s ≠ zero := fun e => by rw [e, has_zero] at h; cases h
end CSet

/-- One part, cut by a set. -/
def cut1 (s p : CSet) : List CSet := [p.and s, p.minus s].filter fun q => q ≠ CSet.zero
def cutL (s : CSet) (ps : List CSet) : List CSet := ps.flatMap (cut1 s)
def cutsL (ss : List CSet) (ps : List CSet) : List CSet := ss.foldl (fun ps s => cutL s ps) ps
/-- part.sorted, byte by byte. -/
def sortGo (ps : List CSet) : List Nat → List CSet → CSet → List CSet
  | [], out, _ => out
  | b :: bs, out, seen => if seen.has b then sortGo ps bs out seen else
    match ps.find? fun p => p.has b with
    | some p => sortGo ps bs (out ++ [p]) (seen.or p)
    | none => sortGo ps bs out seen
def sortedR (ps : List CSet) : List CSet := sortGo ps (List.range 256) [] CSet.zero
def refineR (ss : List CSet) : List CSet := sortedR (cutsL ss [CSet.all])

/-- Parts: none of them empty, any two of them apart or one, and each byte in one. -/
structure Parts (ps : List CSet) : Prop where
  ne : ∀ p ∈ ps, p ≠ CSet.zero
  apart : ∀ p ∈ ps, ∀ q ∈ ps, ∀ b, p.has b = true → q.has b = true → p = q
  all : ∀ b, b < 256 → ∃ p ∈ ps, p.has b = true
theorem mem_cut1 {s p q : CSet} : q ∈ cut1 s p ↔ q ≠ CSet.zero ∧ (q = p.and s ∨ q = p.minus s) := by
  unfold cut1
  rw [List.mem_filter]
  simp only [List.mem_cons, List.not_mem_nil, or_false, decide_eq_true_eq, ne_eq]
  exact And.comm
theorem cut_has {s p q : CSet} (h : q ∈ cut1 s p) {b : Nat} (hb : q.has b = true) : p.has b = true ∧ q = if s.has b then p.and s else p.minus s := by
  rcases (mem_cut1.1 h).2 with e | e
  · rw [e, CSet.has_and, Bool.and_eq_true] at hb
    exact ⟨hb.1, by rw [if_pos hb.2, e]⟩
  · rw [e, CSet.has_minus, Bool.and_eq_true] at hb
    refine ⟨hb.1, ?_⟩
    have : s.has b = false := by simpa using hb.2
    rw [this, e]
    rfl
theorem Parts.cut {ps : List CSet} (h : Parts ps) (s : CSet) : Parts (cutL s ps) where
  ne q hq := by
    obtain ⟨p, -, hq⟩ := List.mem_flatMap.1 hq
    exact (mem_cut1.1 hq).1
  apart q hq r hr b h1 h2 := by
    obtain ⟨p, hp, hq⟩ := List.mem_flatMap.1 hq
    obtain ⟨p', hp', hr⟩ := List.mem_flatMap.1 hr
    obtain ⟨g1, e1⟩ := cut_has hq h1
    obtain ⟨g2, e2⟩ := cut_has hr h2
    rw [h.apart p hp p' hp' b g1 g2] at e1
    rw [e1, e2]
  all b hb := by
    obtain ⟨p, hp, hpb⟩ := h.all b hb
    cases hs : s.has b with
    | true =>
      have hh : (p.and s).has b = true := by rw [CSet.has_and, hpb, hs]; rfl
      exact ⟨_, List.mem_flatMap.2 ⟨p, hp, mem_cut1.2 ⟨CSet.of_has hh, .inl rfl⟩⟩, hh⟩
    | false =>
      have hh : (p.minus s).has b = true := by rw [CSet.has_minus, hpb, hs]; rfl
      exact ⟨_, List.mem_flatMap.2 ⟨p, hp, mem_cut1.2 ⟨CSet.of_has hh, .inr rfl⟩⟩, hh⟩
theorem Parts.one : Parts [CSet.all] where
  ne p hp := by rw [List.mem_singleton.1 hp]; decide
  apart p hp q hq b _ _ := by rw [List.mem_singleton.1 hp, List.mem_singleton.1 hq]
  all b hb := ⟨_, List.mem_singleton.2 rfl, CSet.has_all b hb⟩
theorem Parts.cuts (ss : List CSet) : ∀ {ps : List CSet}, Parts ps → Parts (cutsL ss ps) := by
  induction ss with
  | nil => exact fun h => h
  | cons s ss ih => exact fun h => ih (h.cut s)
/-- No set of those parts two bytes of one part. -/
def Sees (s p : CSet) : Prop := ∀ b c, p.has b = true → p.has c = true → s.has b = s.has c
theorem cut_sees {s p q : CSet} (h : q ∈ cut1 s p) : Sees s q := by
  intro b c hb hc
  rcases (mem_cut1.1 h).2 with e | e
  · rw [e, CSet.has_and, Bool.and_eq_true] at hb hc
    rw [hb.2, hc.2]
  · rw [e, CSet.has_minus, Bool.and_eq_true] at hb hc
    have h1 : s.has b = false := by simpa using hb.2
    have h2 : s.has c = false := by simpa using hc.2
    rw [h1, h2]
theorem cut_sees_old {s t p q : CSet} (h : q ∈ cut1 s p) (hp : Sees t p) : Sees t q := fun b c hb hc => hp b c (cut_has h hb).1 (cut_has h hc).1
theorem cuts_sees (ss : List CSet) : ∀ (ps : List CSet) (t : CSet), (∀ p ∈ ps, Sees t p) → ∀ q ∈ cutsL ss ps, Sees t q := by
  induction ss with
  | nil => exact fun ps t h => h
  | cons s ss ih =>
    intro ps t h
    refine ih (cutL s ps) t fun q hq => ?_
    obtain ⟨p, hp, hq⟩ := List.mem_flatMap.1 hq
    exact cut_sees_old hq (h p hp)
theorem cuts_see (ss : List CSet) : ∀ (ps : List CSet), ∀ s ∈ ss, ∀ q ∈ cutsL ss ps, Sees s q := by
  induction ss with
  | nil => exact fun ps s hs => by cases hs
  | cons t ss ih =>
    intro ps s hs q hq
    rcases List.mem_cons.1 hs with e | hs
    · rw [e]
      refine cuts_sees ss (cutL t ps) t (fun q hq => ?_) q hq
      obtain ⟨p, hp, hq⟩ := List.mem_flatMap.1 hq
      exact cut_sees hq
    · exact ih _ s hs q hq
/-- Each part once, none left out. -/
structure Out (out : List CSet) : Prop where
  ne : ∀ p ∈ out, p ≠ CSet.zero
  apart : out.Pairwise fun p q => ∀ b, ¬ (p.has b = true ∧ q.has b = true)
theorem sortGo_out (ps : List CSet) (hp : Parts ps) : ∀ (bs : List Nat) (out : List CSet) (seen : CSet), (∀ p ∈ out, p ∈ ps) → Out out → (∀ b, seen.has b = true ↔ ∃ p ∈ out, p.has b = true) → (∀ b ∈ bs, b < 256) →
    (∀ p ∈ sortGo ps bs out seen, p ∈ ps) ∧ Out (sortGo ps bs out seen) ∧ (∀ b, (seen.has b = true ∨ b ∈ bs) → ∃ p ∈ sortGo ps bs out seen, p.has b = true)
  | [], out, seen, h1, h2, h3, _ => by
    refine ⟨h1, h2, fun b hb => ?_⟩
    rcases hb with hb | hb
    · exact (h3 b).1 hb
    · cases hb
  | b :: bs, out, seen, h1, h2, h3, h4 => by
    rw [sortGo]
    have hbs : ∀ b ∈ bs, b < 256 := fun c hc => h4 c (List.mem_cons_of_mem _ hc)
    by_cases hs : seen.has b = true
    · rw [if_pos hs]
      have := sortGo_out ps hp bs out seen h1 h2 h3 hbs
      refine ⟨this.1, this.2.1, fun c hc => ?_⟩
      rcases hc with hc | hc
      · exact this.2.2 c (.inl hc)
      · rcases List.mem_cons.1 hc with e | hc
        · rw [e]; exact this.2.2 b (.inl hs)
        · exact this.2.2 c (.inr hc)
    · rw [if_neg hs]
      obtain ⟨p0, hp0, hpb0⟩ := hp.all b (h4 b (List.mem_cons_self ..))
      cases hf : ps.find? fun p => p.has b with
      | none =>
        have := List.find?_eq_none.1 hf p0 hp0
        simp [hpb0] at this
      | some p =>
        have hpm := List.mem_of_find?_eq_some hf
        have hpb : p.has b = true := by simpa using List.find?_some hf
        have hout : Out (out ++ [p]) := by
          refine ⟨fun q hq => ?_, ?_⟩
          · rcases List.mem_append.1 hq with h | h
            · exact h2.ne q h
            · rw [List.mem_singleton.1 h]; exact hp.ne p hpm
          · rw [List.pairwise_append]
            refine ⟨h2.apart, by simp, fun q hq r hr c hc => ?_⟩
            rw [List.mem_singleton.1 hr] at hc
            have e := hp.apart q (h1 q hq) p hpm c hc.1 hc.2
            rw [e] at hq
            exact hs ((h3 b).2 ⟨p, hq, hpb⟩)
        have := sortGo_out ps hp bs (out ++ [p]) (seen.or p) (fun q hq => by
          rcases List.mem_append.1 hq with h | h
          · exact h1 q h
          · rw [List.mem_singleton.1 h]; exact hpm) hout (fun c => by
          rw [CSet.has_or, Bool.or_eq_true, h3]
          constructor
          · rintro (⟨q, hq, h⟩ | h)
            · exact ⟨q, List.mem_append_left _ hq, h⟩
            · exact ⟨p, by simp, h⟩
          · rintro ⟨q, hq, h⟩
            rcases List.mem_append.1 hq with hq | hq
            · exact .inl ⟨q, hq, h⟩
            · rw [List.mem_singleton.1 hq] at h; exact .inr h) hbs
        refine ⟨this.1, this.2.1, fun c hc => ?_⟩
        rcases hc with hc | hc
        · exact this.2.2 c (.inl (by rw [CSet.has_or, hc]; rfl))
        · rcases List.mem_cons.1 hc with e | hc
          · rw [e]; exact this.2.2 b (.inl (by rw [CSet.has_or, hpb]; simp))
          · exact this.2.2 c (.inr hc)
theorem refine_facts (ss : List CSet) : (∀ p ∈ refineR ss, ∀ s ∈ ss, Sees s p) ∧ Out (refineR ss) ∧ ∀ b, b < 256 → ∃ p ∈ refineR ss, p.has b = true := by
  have hp : Parts (cutsL ss [CSet.all]) := Parts.cuts ss .one
  have := sortGo_out (cutsL ss [CSet.all]) hp (List.range 256) [] CSet.zero (fun p h => by cases h) ⟨(fun p h => by cases h), List.Pairwise.nil⟩ (fun b => by rw [CSet.has_zero]; simp) (fun b hb => List.mem_range.1 hb)
  exact ⟨fun p hp s hs => cuts_see ss [CSet.all] s hs p (this.1 p hp), this.2.1, fun b hb => this.2.2 b (.inr (List.mem_range.2 hb))⟩
end Go.Proofs.YtfpfloahkibcgaaGreatDoor
