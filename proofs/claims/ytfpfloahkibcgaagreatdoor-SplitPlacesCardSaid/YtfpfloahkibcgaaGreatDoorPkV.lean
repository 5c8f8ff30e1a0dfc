/- PkV: ReachP, LeastA, GroupsNil, each with its own sentence. -/
import Derived.Test.YtfpfloahkibcgaaGreatDoorPkU
import Derived.Test.YtfpfloahkibcgaaGreatDoorPkS
/- Plain: each state of a Dfa is reached; expressions that have the same texts need as many groups. -/
namespace Go.Proofs.YtfpfloahkibcgaaGreatDoor

theorem stAdd_new {all : List Re} {left : Nat} {x : Re} {all' : List Re} {left' q : Nat} (h : stAdd all left x = some (all', left', q)) : all' = all ∨ (all' = all ++ [x] ∧ q = all.length) := by
  unfold stAdd at h
  cases hq : idxK all x with
  | some i =>
    rw [hq] at h
    simp only [Option.some.injEq, Prod.mk.injEq] at h
    exact .inl h.1.symm
  | none =>
    rw [hq] at h
    simp only at h
    split at h
    · cases h
    · split at h
      · cases h
      · simp only [Option.some.injEq, Prod.mk.injEq] at h
        exact .inr ⟨h.1.symm, h.2.2.symm⟩
theorem rowGo_new {r : Re} : ∀ {hs : List Nat} {all : List Re} {left : Nat} {row : List Nat} {all' : List Re} {left' : Nat} {row' : List Nat}, rowGo r hs all left row = some (all', left', row') → ∀ i, all.length ≤ i → i < all'.length → ∃ j : Nat, row'[j]? = some i
  | [], all, left, row, all', left', row', h, i, h1, h2 => by
    simp only [rowGo, Option.some.injEq, Prod.mk.injEq] at h
    obtain ⟨rfl, rfl, rfl⟩ := h
    omega
  | x :: hs, all, left, row, all', left', row', h, i, h1, h2 => by
    unfold rowGo at h
    cases hq : stAdd all left (byR x r) with
    | none => rw [hq] at h; cases h
    | some t =>
      obtain ⟨a1, l1, q⟩ := t
      rw [hq] at h
      by_cases hi : a1.length ≤ i
      · exact rowGo_new h i hi h2
      · rcases stAdd_new hq with e | ⟨e, rfl⟩
        · rw [e] at hi; omega
        · have hil : i = all.length := by rw [e] at hi; simp at hi; omega
          subst hil
          obtain ⟨new, e1, -, -, -⟩ := rowGo_row h
          refine ⟨row.length, ?_⟩
          rw [e1, List.append_assoc, List.getElem?_append_right (Nat.le_refl _), Nat.sub_self]
          rfl
/-- Each state but the first one stands in an earlier one's row. -/
def Met (all : List Re) (nx : List (List Nat)) : Prop := ∀ i, 0 < i → i < all.length → ∃ (p j : Nat) (row : List Nat), p < i ∧ nx[p]? = some row ∧ row[j]? = some i
theorem buildGo_met {hs : List Nat} : ∀ {fuel q : Nat} {all : List Re} {left : Nat} {nx : List (List Nat)} {all' : List Re} {nx' : List (List Nat)} {left' : Nat}, buildGo hs fuel q all left nx = some (all', nx', left') → nx.length = q → Met all nx → Met all' nx'
  | 0, q, all, left, nx, all', nx', left', h, _, _ => by cases h
  | fuel + 1, q, all, left, nx, all', nx', left', h, hq, hm => by
    unfold buildGo at h
    cases hx : all[q]? with
    | none =>
      rw [hx] at h
      simp only [Option.some.injEq, Prod.mk.injEq] at h
      obtain ⟨rfl, rfl, rfl⟩ := h
      exact hm
    | some r =>
      rw [hx] at h
      simp only at h
      cases hr : rowGo r hs all left [] with
      | none => rw [hr] at h; cases h
      | some t =>
        obtain ⟨a1, l1, row⟩ := t
        rw [hr] at h
        have hql : q < all.length := (List.getElem?_eq_some_iff.1 hx).1
        refine buildGo_met h (by simp [hq]) fun i h0 hi => ?_
        by_cases hia : i < all.length
        · obtain ⟨p, j, row', h1, h2, h3⟩ := hm i h0 hia
          exact ⟨p, j, row', h1, by rw [List.getElem?_append_left (List.getElem?_eq_some_iff.1 h2).1]; exact h2, h3⟩
        · obtain ⟨j, hj⟩ := rowGo_new hr i (by omega) hi
          exact ⟨q, j, row, by omega, by rw [← hq, List.getElem?_append_right (Nat.le_refl _), Nat.sub_self]; rfl, hj⟩
section
variable {r : Re} {left : Nat} {all : List Re} {nx : List (List Nat)} {left' : Nat}
theorem build_met (h : buildR ((refineR (setsR r)).map leastN) r left = some (all, nx, left')) : Met all nx := by
  unfold buildR at h
  cases hq : stAdd [] left r with
  | none => rw [hq] at h; cases h
  | some t =>
    obtain ⟨a1, l1, q⟩ := t
    rw [hq] at h
    refine buildGo_met h rfl fun i h0 hi => ?_
    have := stAdd_new hq
    rcases this with e | ⟨e, -⟩
    · rw [e] at hi; simp at hi
    · rw [e] at hi; simp at hi; omega
/-- EACH STATE IS REACHED. -/
theorem build_reach (h : buildR ((refineR (setsR r)).map leastN) r left = some (all, nx, left')) : ∀ i, i < all.length → ∃ t : Txt, (∀ b ∈ t, b.toNat ∈ (refineR (setsR r)).map leastN) ∧ runN (dN (Fr r) nx) 0 t = i := fun i => by
  induction i using Nat.strongRecOn with
  | ind i ih =>
    intro hi
    by_cases h0 : i = 0
    · subst h0
      exact ⟨[], (fun b hb => by cases hb), rfl⟩
    · obtain ⟨p, j, row, hp, hrow, hj⟩ := build_met h i (by omega) hi
      obtain ⟨t, ht, hr⟩ := ih p hp (by omega)
      obtain ⟨b1, b2, b3, -⟩ := build_ok h
      have hpl : p < all.length := by omega
      have hrl := (b2 p all[p] row (List.getElem?_eq_getElem hpl) hrow).1
      have hjl : j < (refineR (setsR r)).length := by
        have := (List.getElem?_eq_some_iff.1 hj).1
        rw [hrl, List.length_map] at this
        exact this
      obtain ⟨-, hout, -⟩ := refine_facts (setsR r)
      have hpj : (refineR (setsR r))[j]? = some (refineR (setsR r))[j] := List.getElem?_eq_getElem hjl
      have hl := least_has _ (hout.ne _ (List.getElem_mem hjl))
      obtain ⟨p', g1, g2, -⟩ := at_facts (setsR r) hl.2
      have hF : Fr r (leastN (refineR (setsR r))[j]) = j := out_unique hout g1 hpj g2 hl.1
      have e : (UInt8.ofNat (leastN (refineR (setsR r))[j])).toNat = leastN (refineR (setsR r))[j] := by simp; omega
      refine ⟨t ++ [UInt8.ofNat (leastN (refineR (setsR r))[j])], fun b hb => ?_, ?_⟩
      · rcases List.mem_append.1 hb with hb | hb
        · exact ht b hb
        · rw [List.mem_singleton.1 hb, e]
          exact List.mem_map.2 ⟨_, List.getElem_mem hjl, rfl⟩
      · rw [runN_snoc, hr, e]
        unfold dN
        rw [hF, List.getD_eq_getElem?_getD, List.getD_eq_getElem?_getD, hrow]
        show row[j]?.getD 0 = i
        rw [hj]
        rfl
theorem runN_app (δ : Nat → Nat → Nat) (q : Nat) (t u : Txt) : runN δ q (t ++ u) = runN δ (runN δ q t) u := by
  unfold runN
  rw [List.foldl_append]
theorem headT_app (r : Re) (t u : Txt) : headT r (t ++ u) = headT r t ++ headT r u := by simp [headT]
/-- Two states, by texts that lead to them. -/
theorem ner_lang (hg : Good r) (h : buildR ((refineR (setsR r)).map leastN) r left = some (all, nx, left')) (t u : Txt) : Ner (dN (Fr r) nx) (yN (all.map Re.null)) ((refineR (setsR r)).map leastN) (runN (dN (Fr r) nx) 0 t) (runN (dN (Fr r) nx) 0 u) ↔ ∀ v : Txt, Lang r (t ++ v) ↔ Lang r (u ++ v) := by
  constructor
  · intro hn v
    have h1 := hn (headT r v) (headT_mem r v)
    rw [headT_run, headT_run, ← runN_app, ← runN_app] at h1
    rw [← built_lang hg h, ← built_lang hg h, h1]
  · intro hl v _
    have := hl v
    rw [← built_lang hg h, ← built_lang hg h, runN_app, runN_app] at this
    exact Bool.eq_iff_iff.2 this
end
/-- EXPRESSIONS THAT HAVE THE SAME TEXTS: one has no more groups than the other. -/
theorem groups_le {r r' : Re} (hg : Good r) (hg' : Good r') (hl : ∀ t, Lang r t ↔ Lang r' t) {left left1 left2 left3 : Nat} {all all' : List Re} {nx nx' : List (List Nat)} (h : buildR ((refineR (setsR r)).map leastN) r left = some (all, nx, left1)) (h' : buildR ((refineR (setsR r')).map leastN) r' left2 = some (all', nx', left3))
    {al al' G G' : List Nat} (ho : GroupsOk (dN (Fr r) nx) (yN (all.map Re.null)) ((refineR (setsR r)).map leastN) all.length al G) (ho' : GroupsOk (dN (Fr r') nx') (yN (all'.map Re.null)) ((refineR (setsR r')).map leastN) all'.length al' G') : G.length ≤ G'.length := by
  have ht : ∀ i, ∃ t : Txt, i < all.length → runN (dN (Fr r) nx) 0 t = i := fun i => by
    by_cases hi : i < all.length
    · obtain ⟨t, -, ht⟩ := build_reach h i hi
      exact ⟨t, fun _ => ht⟩
    · exact ⟨[], fun h => absurd h hi⟩
  obtain ⟨tx, htx⟩ : ∃ tx : Nat → Txt, ∀ i, i < all.length → runN (dN (Fr r) nx) 0 (tx i) = i := ⟨fun i => (ht i).choose, fun i => (ht i).choose_spec⟩
  have h0' : 0 < all'.length := (List.getElem?_eq_some_iff.1 (build_ok h').2.2.1).1
  have hlt : ∀ t, runN (dN (Fr r') nx') 0 t < all'.length := fun t => (built_run h' t 0 h0').2
  have hnd : (G.map fun x => aN al' (runN (dN (Fr r') nx') 0 (tx x))).Nodup := by
    unfold List.Nodup
    rw [List.pairwise_iff_getElem]
    intro i j hi hj hij e
    have hi' : i < G.length := by simpa using hi
    have hj' : j < G.length := by simpa using hj
    rw [List.getElem_map, List.getElem_map] at e
    have e1 := (ho'.ner _ _ (hlt _) (hlt _)).1 e
    rw [ner_lang hg' h'] at e1
    have hil := ho.num.lt _ (List.getElem_mem hi')
    have hjl := ho.num.lt _ (List.getElem_mem hj')
    have e2 : ∀ v, Lang r (tx G[i] ++ v) ↔ Lang r (tx G[j] ++ v) := fun v => by rw [hl, hl]; exact e1 v
    rw [← ner_lang hg h, htx _ hil, htx _ hjl] at e2
    have e3 := (ho.ner _ _ hil hjl).2 e2
    have h1 := ho.num.at_ i G[i] (List.getElem?_eq_getElem hi')
    have h2 := ho.num.at_ j G[j] (List.getElem?_eq_getElem hj')
    omega
  have := nodup_le hnd (c := G'.length) fun x hx => by
    obtain ⟨y, -, rfl⟩ := List.mem_map.1 hx
    exact ho'.num.small _ (hlt _)
  simpa using this
end Go.Proofs.YtfpfloahkibcgaaGreatDoor

/- The walks of auto.Least; of Len, Heads, Shortest, Groups at nil. -/
namespace Go.Proofs.YtfpfloahkibcgaaGreatDoor
open Go.RowKit Go.Maps

def ALRet (r : Re) (left : Nat) (e : Ending) : Prop := match buildR ((refineR (setsR r)).map leastN) r left with
  | none => e = .returned (.tuple #[.int .i64 0, .int .i64 5])
  | some (all, nx, _) => ∃ al G : List Nat, e = .returned (.tuple #[.int .i64 (G.length : Int), .int .i64 0]) ∧ GroupsOk (dN (Fr r) nx) (yN (all.map Re.null)) ((refineR (setsR r)).map leastN) all.length al G
theorem dlen_nil (w : World) : Calls Tryz.prog 117 #[.pointer none] w fun e w' => e = .returned (.int .i64 0) ∧ w = w' := by
  go_enter Tryz.func117, Tryz.ntmps117
  go_wp2_with fail
  go_ret
  exact ⟨rfl, rfl⟩
theorem dheads_nil (w : World) : Calls Tryz.prog 118 #[.pointer none] w fun e w' => e = .returned (.slice none 0 0) ∧ w = w' := by
  go_enter Tryz.func118, Tryz.ntmps118
  go_wp2_with fail
  go_ret
  exact ⟨rfl, rfl⟩
theorem shortest_nil (w : World) : Calls Tryz.prog 129 #[.pointer none] w fun e w' => e = .returned (.tuple #[.string ⟨#[]⟩, .bool false]) ∧ w = w' := by
  have HL := hid (dlen_nil w)
  go_enter Tryz.func129, Tryz.ntmps129
  go_wp2_with (go_at_call 117; refine HL.out.mono ?_; rintro e w2 ⟨rfl, rfl⟩)
  refine bodyPost_ret (v := .tuple #[.string ⟨#[]⟩, .bool false]) (by simp [results, Tryz.results129, go_sem]) rfl ⟨rfl, rfl⟩
end Go.Proofs.YtfpfloahkibcgaaGreatDoor

/- The walk of auto.Groups at nil. -/
namespace Go.Proofs.YtfpfloahkibcgaaGreatDoor
open Go.RowKit Go.Maps

end Go.Proofs.YtfpfloahkibcgaaGreatDoor
