/- Plain: the parts that are cut are apart, hence no more than bytes. -/
import Derived.Test.YtfpfloahkibcgaaGreatDoorPart2
namespace Go.Proofs.YtfpfloahkibcgaaGreatDoor

theorem Out.one : Out [CSet.all] := ⟨fun p hp => by rw [List.mem_singleton.1 hp]; decide, List.pairwise_singleton _ _⟩
theorem cut1_apart (s p : CSet) : (cut1 s p).Pairwise fun p q => ∀ b, ¬ (p.has b = true ∧ q.has b = true) := by
  refine List.Pairwise.filter _ ?_
  refine List.pairwise_cons.2 ⟨fun q hq b h => ?_, List.pairwise_singleton _ _⟩
  rw [List.mem_singleton.1 hq, CSet.has_and, CSet.has_minus] at h
  revert h
  cases p.has b <;> cases s.has b <;> simp
theorem Out.cut {ps : List CSet} (h : Out ps) (s : CSet) : Out (cutL s ps) := by
  refine ⟨fun q hq => ?_, ?_⟩
  · obtain ⟨p, -, hq⟩ := List.mem_flatMap.1 hq
    exact (mem_cut1.1 hq).1
  · have := h.apart
    clear h
    induction ps with
    | nil => exact .nil
    | cons p ps ih =>
      have hp := List.pairwise_cons.1 this
      have e : cutL s (p :: ps) = cut1 s p ++ cutL s ps := by simp [cutL]
      rw [e, List.pairwise_append]
      refine ⟨cut1_apart s p, ih hp.2, fun q hq r hr b hb => ?_⟩
      obtain ⟨p', hp', hr⟩ := List.mem_flatMap.1 hr
      exact hp.1 p' hp' b ⟨(cut_has hq hb.1).1, (cut_has hr hb.2).1⟩
theorem Out.cuts (ss : List CSet) : ∀ {ps : List CSet}, Out ps → Out (cutsL ss ps) := by
  induction ss with
  | nil => exact fun h => h
  | cons s ss ih => exact fun h => ih (h.cut s)
theorem cuts_len (ss : List CSet) : (cutsL ss [CSet.all]).length ≤ 256 := out_len (Out.cuts ss .one) (Parts.cuts ss .one).all
theorem cutsL_take {ss : List CSet} {k : Nat} {s : CSet} (h : ss[k]? = some s) (ps : List CSet) : cutsL (ss.take (k + 1)) ps = cutL s (cutsL (ss.take k) ps) := by
  obtain ⟨hl, e⟩ := List.getElem?_eq_some_iff.1 h
  rw [List.take_succ_eq_append_getElem hl, e]
  simp [cutsL]
theorem cutL_take {ps : List CSet} {k : Nat} {s p : CSet} (h : ps[k]? = some p) : (ps.take (k + 1)).flatMap (cut1 s) = (ps.take k).flatMap (cut1 s) ++ cut1 s p := by
  obtain ⟨hl, e⟩ := List.getElem?_eq_some_iff.1 h
  rw [List.take_succ_eq_append_getElem hl, e, List.flatMap_append]
  simp
theorem cut1_len (s p : CSet) : (cut1 s p).length ≤ 2 := by
  unfold cut1
  exact List.length_filter_le _ _
theorem cutL_take_len (s : CSet) (ps : List CSet) (k : Nat) : ((ps.take k).flatMap (cut1 s)).length ≤ 2 * ps.length := by
  have h : ∀ qs : List CSet, (qs.flatMap (cut1 s)).length ≤ 2 * qs.length := fun qs => by
    induction qs with
    | nil => simp
    | cons q qs ih =>
      have := cut1_len s q
      simp only [List.flatMap_cons, List.length_append, List.length_cons]
      omega
  have h1 := h (ps.take k)
  have h2 := List.length_take_le k ps
  have h3 : (ps.take k).length ≤ ps.length := by rw [List.length_take]; omega
  omega
end Go.Proofs.YtfpfloahkibcgaaGreatDoor
