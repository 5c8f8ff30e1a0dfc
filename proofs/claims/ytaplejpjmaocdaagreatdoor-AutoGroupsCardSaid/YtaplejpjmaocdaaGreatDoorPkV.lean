/- PkV: ReachP, LeastA, GroupsNil, each with its own sentence. -/
import Derived.Test.YtaplejpjmaocdaaGreatDoorPkU
import Derived.Test.YtaplejpjmaocdaaGreatDoorPkS
/- Plain: each state of a Dfa is reached; expressions that have the same texts need as many groups. -/
namespace Go.Proofs.YtaplejpjmaocdaaGreatDoor

theorem stAdd_new {all : List Re} {left : Nat} {x : Re} {all' : List Re} {left' q : Nat} (h : stAdd all left x = some (all', left', q)) : all' = all ∨ (all' = all ++ [x] ∧ q = all.length) := by
  unfold stAdd at h
  cases hq : idxK all x with
  | some i =>
    rw [hq] at h
    simp only [Option.some.injEq, Prod.mk.injEq] at h
    exact .inl h.1.symm
  | none =>
    rw [hq] at h
    simp only at h
    split at h
    · cases h
    · split at h
      · cases h
      · simp only [Option.some.injEq, Prod.mk.injEq] at h
        exact .inr ⟨h.1.symm, h.2.2.symm⟩
theorem rowGo_new {r : Re} : ∀ {hs : List Nat} {all : List Re} {left : Nat} {row : List Nat} {all' : List Re} {left' : Nat} {row' : List Nat}, rowGo r hs all left row = some (all', left', row') → ∀ i, all.length ≤ i → i < all'.length → ∃ j : Nat, row'[j]? = some i
  | [], all, left, row, all', left', row', h, i, h1, h2 => by
    simp only [rowGo, Option.some.injEq, Prod.mk.injEq] at h
    obtain ⟨rfl, rfl, rfl⟩ := h
    omega
  | x :: hs, all, left, row, all', left', row', h, i, h1, h2 => by
    unfold rowGo at h
    cases hq : stAdd all left (byR x r) with
    | none => rw [hq] at h; cases h
    | some t =>
      obtain ⟨a1, l1, q⟩ := t
      rw [hq] at h
      by_cases hi : a1.length ≤ i
      · exact rowGo_new h i hi h2
      · rcases stAdd_new hq with e | ⟨e, rfl⟩
        · rw [e] at hi; omega
        · have hil : i = all.length := by rw [e] at hi; simp at hi; omega
          subst hil
          obtain ⟨new, e1, -, -, -⟩ := rowGo_row h
          refine ⟨row.length, ?_⟩
          rw [e1, List.append_assoc, List.getElem?_append_right (Nat.le_refl _), Nat.sub_self]
          rfl
/-- Each state but the first one stands in an earlier one's row. -/
def Met (all : List Re) (nx : List (List Nat)) : Prop := ∀ i, 0 < i → i < all.length → ∃ (p j : Nat) (row : List Nat), p < i ∧ nx[p]? = some row ∧ row[j]? = some i
theorem buildGo_met {hs : List Nat} : ∀ {fuel q : Nat} {all : List Re} {left : Nat} {nx : List (List Nat)} {all' : List Re} {nx' : List (List Nat)} {left' : Nat}, buildGo hs fuel q all left nx = some (all', nx', left') → nx.length = q → Met all nx → Met all' nx'
  | 0, q, all, left, nx, all', nx', left', h, _, _ => by cases h
  | fuel + 1, q, all, left, nx, all', nx', left', h, hq, hm => by
    unfold buildGo at h
    cases hx : all[q]? with
    | none =>
      rw [hx] at h
      simp only [Option.some.injEq, Prod.mk.injEq] at h
      obtain ⟨rfl, rfl, rfl⟩ := h
      exact hm
    | some r =>
      rw [hx] at h
      simp only at h
      cases hr : rowGo r hs all left [] with
      | none => rw [hr] at h; cases h
      | some t =>
        obtain ⟨a1, l1, row⟩ := t
        rw [hr] at h
        have hql : q < all.length := (List.getElem?_eq_some_iff.1 hx).1
        refine buildGo_met h (by simp [hq]) fun i h0 hi => ?_
        by_cases hia : i < all.length
        · obtain ⟨p, j, row', h1, h2, h3⟩ := hm i h0 hia
          exact ⟨p, j, row', h1, by rw [List.getElem?_append_left (List.getElem?_eq_some_iff.1 h2).1]; exact h2, h3⟩
        · obtain ⟨j, hj⟩ := rowGo_new hr i (by omega) hi
          exact ⟨q, j, row, by omega, by rw [← hq, List.getElem?_append_right (Nat.le_refl _), Nat.sub_self]; rfl, hj⟩
section
variable {r : Re} {left : Nat} {all : List Re} {nx : List (List Nat)} {left' : Nat}
theorem build_met (h : buildR ((refineR (setsR r)).map leastN) r left = some (all, nx, left')) : Met all nx := by
  unfold buildR at h
  cases hq : stAdd [] left r with
  | none => rw [hq] at h; cases h
  | some t =>
    obtain ⟨a1, l1, q⟩ := t
    rw [hq] at h
    refine buildGo_met h rfl fun i h0 hi => ?_
    have := stAdd_new hq
    rcases this with e | ⟨e, -⟩
    · rw [e] at hi; simp at hi
    · rw [e] at hi; simp at hi; omega
/-- EACH STATE IS REACHED. -/
theorem build_reach (h : buildR ((refineR (setsR r)).map leastN) r left = some (all, nx, left')) : ∀ i, i < all.length → ∃ t : Txt, (∀ b ∈ t, b.toNat ∈ (refineR (setsR r)).map leastN) ∧ runN (dN (Fr r) nx) 0 t = i := fun i => by
  induction i using Nat.strongRecOn with
  | ind i ih =>
    intro hi
    by_cases h0 : i = 0
    · subst h0
      exact ⟨[], (fun b hb => by cases hb), rfl⟩
    · obtain ⟨p, j, row, hp, hrow, hj⟩ := build_met h i (by omega) hi
      obtain ⟨t, ht, hr⟩ := ih p hp (by omega)
      obtain ⟨b1, b2, b3, -⟩ := build_ok h
      have hpl : p < all.length := by omega
      have hrl := (b2 p all[p] row (List.getElem?_eq_getElem hpl) hrow).1
      have hjl : j < (refineR (setsR r)).length := by
        have := (List.getElem?_eq_some_iff.1 hj).1
        rw [hrl, List.length_map] at this
        exact this
      obtain ⟨-, hout, -⟩ := refine_facts (setsR r)
      have hpj : (refineR (setsR r))[j]? = some (refineR (setsR r))[j] := List.getElem?_eq_getElem hjl
      have hl := least_has _ (hout.ne _ (List.getElem_mem hjl))
      obtain ⟨p', g1, g2, -⟩ := at_facts (setsR r) hl.2
      have hF : Fr r (leastN (refineR (setsR r))[j]) = j := out_unique hout g1 hpj g2 hl.1
      have e : (UInt8.ofNat (leastN (refineR (setsR r))[j])).toNat = leastN (refineR (setsR r))[j] := by simp; omega
      refine ⟨t ++ [UInt8.ofNat (leastN (refineR (setsR r))[j])], fun b hb => ?_, ?_⟩
      · rcases List.mem_append.1 hb with hb | hb
        · exact ht b hb
        · rw [List.mem_singleton.1 hb, e]
          exact List.mem_map.2 ⟨_, List.getElem_mem hjl, rfl⟩
      · rw [runN_snoc, hr, e]
        unfold dN
        rw [hF, List.getD_eq_getElem?_getD, List.getD_eq_getElem?_getD, hrow]
        show row[j]?.getD 0 = i
        rw [hj]
        rfl
theorem runN_app (δ : Nat → Nat → Nat) (q : Nat) (t u : Txt) : runN δ q (t ++ u) = runN δ (runN δ q t) u := by
  unfold runN
  rw [List.foldl_append]
theorem headT_app (r : Re) (t u : Txt) : headT r (t ++ u) = headT r t ++ headT r u := by simp [headT]
/-- Two states, by texts that lead to them. -/
theorem ner_lang (hg : Good r) (h : buildR ((refineR (setsR r)).map leastN) r left = some (all, nx, left')) (t u : Txt) : Ner (dN (Fr r) nx) (yN (all.map Re.null)) ((refineR (setsR r)).map leastN) (runN (dN (Fr r) nx) 0 t) (runN (dN (Fr r) nx) 0 u) ↔ ∀ v : Txt, Lang r (t ++ v) ↔ Lang r (u ++ v) := by
  constructor
  · intro hn v
    have h1 := hn (headT r v) (headT_mem r v)
    rw [headT_run, headT_run, ← runN_app, ← runN_app] at h1
    rw [← built_lang hg h, ← built_lang hg h, h1]
  · intro hl v _
    have := hl v
    rw [← built_lang hg h, ← built_lang hg h, runN_app, runN_app] at this
    exact Bool.eq_iff_iff.2 this
end
/-- EXPRESSIONS THAT HAVE THE SAME TEXTS: one has no more groups than the other. -/
theorem groups_le {r r' : Re} (hg : Good r) (hg' : Good r') (hl : ∀ t, Lang r t ↔ Lang r' t) {left left1 left2 left3 : Nat} {all all' : List Re} {nx nx' : List (List Nat)} (h : buildR ((refineR (setsR r)).map leastN) r left = some (all, nx, left1)) (h' : buildR ((refineR (setsR r')).map leastN) r' left2 = some (all', nx', left3))
    {al al' G G' : List Nat} (ho : GroupsOk (dN (Fr r) nx) (yN (all.map Re.null)) ((refineR (setsR r)).map leastN) all.length al G) (ho' : GroupsOk (dN (Fr r') nx') (yN (all'.map Re.null)) ((refineR (setsR r')).map leastN) all'.length al' G') : G.length ≤ G'.length := by
  have ht : ∀ i, ∃ t : Txt, i < all.length → runN (dN (Fr r) nx) 0 t = i := fun i => by
    by_cases hi : i < all.length
    · obtain ⟨t, -, ht⟩ := build_reach h i hi
      exact ⟨t, fun _ => ht⟩
    · exact ⟨[], fun h => absurd h hi⟩
  obtain ⟨tx, htx⟩ : ∃ tx : Nat → Txt, ∀ i, i < all.length → runN (dN (Fr r) nx) 0 (tx i) = i := ⟨fun i => (ht i).choose, fun i => (ht i).choose_spec⟩
  have h0' : 0 < all'.length := (List.getElem?_eq_some_iff.1 (build_ok h').2.2.1).1
  have hlt : ∀ t, runN (dN (Fr r') nx') 0 t < all'.length := fun t => (built_run h' t 0 h0').2
  have hnd : (G.map fun x => aN al' (runN (dN (Fr r') nx') 0 (tx x))).Nodup := by
    unfold List.Nodup
    rw [List.pairwise_iff_getElem]
    intro i j hi hj hij e
    have hi' : i < G.length := by simpa using hi
    have hj' : j < G.length := by simpa using hj
    rw [List.getElem_map, List.getElem_map] at e
    have e1 := (ho'.ner _ _ (hlt _) (hlt _)).1 e
    rw [ner_lang hg' h'] at e1
    have hil := ho.num.lt _ (List.getElem_mem hi')
    have hjl := ho.num.lt _ (List.getElem_mem hj')
    have e2 : ∀ v, Lang r (tx G[i] ++ v) ↔ Lang r (tx G[j] ++ v) := fun v => by rw [hl, hl]; exact e1 v
    rw [← ner_lang hg h, htx _ hil, htx _ hjl] at e2
    have e3 := (ho.ner _ _ hil hjl).2 e2
    have h1 := ho.num.at_ i G[i] (List.getElem?_eq_getElem hi')
    have h2 := ho.num.at_ j G[j] (List.getElem?_eq_getElem hj')
    omega
  have := nodup_le hnd (c := G'.length) fun x hx => by
    obtain ⟨y, -, rfl⟩ := List.mem_map.1 hx
    exact ho'.num.small _ (hlt _)
  simpa using this
end Go.Proofs.YtaplejpjmaocdaaGreatDoor

/- The walks of auto.Least; of Len, Heads, Shortest, Groups at nil. -/
namespace Go.Proofs.YtaplejpjmaocdaaGreatDoor
open Go.RowKit Go.Maps

def ALRet (r : Re) (left : Nat) (e : Ending) : Prop := match buildR ((refineR (setsR r)).map leastN) r left with
  | none => e = .returned (.tuple #[.int .i64 0, .int .i64 5])
  | some (all, nx, _) => ∃ al G : List Nat, e = .returned (.tuple #[.int .i64 (G.length : Int), .int .i64 0]) ∧ GroupsOk (dN (Fr r) nx) (yN (all.map Re.null)) ((refineR (setsR r)).map leastN) all.length al G
set_option maxRecDepth 100000 in
set_option maxHeartbeats 2000000 in
theorem aleast_any (r : Re) (rb B left : Nat) (w : World) (h : ReAt w (fun k => k = B) r rb) (hg : Good r) (hsz : r.size ≤ 1000000) (hB : BudAt w B left 0) (hl : left ≤ 1000000) (hT : Tab w) :
    Calls Tryz.prog 42 #[ptr rb, ptr B] w fun e w' => KeepX (fun k => k = B) w w' ∧ ALRet r left e := by
  have HBU := hid (build_any r rb B left 0 w h hg hsz hB hl (by omega) hT)
  unfold BuildRet at HBU
  unfold ALRet
  cases hq : buildR ((refineR (setsR r)).map leastN) r left with
  | none =>
    rw [hq] at HBU
    clear h hB hT hq
    unfold ptr at *
    go_enter Tryz.func42, Tryz.ntmps42
    go_wp2_with ((go_at_call 13; refine HBU.out.mono ?_; rintro e w2 ⟨hk, rfl, -⟩; have HK := hid hk; clear hk))
    refine bodyPost_ret (v := .tuple #[.int .i64 0, .int .i64 5]) (by simp [results, Tryz.results42, go_sem]) rfl ⟨HK.out, rfl⟩
  | some t =>
    obtain ⟨all, nx, left'⟩ := t
    rw [hq] at HBU
    have hok := dfa_ok hq hl
    obtain ⟨-, hout, hcov⟩ := refine_facts (setsR r)
    have hlen := out_len hout hcov
    have h1 : 0 < all.length := (List.getElem?_eq_some_iff.1 (build_ok hq).2.2.1).1
    have hnm : all.length ≤ 1000000 := by have := (build_ok hq).2.2.2; omega
    have hyl : (all.map Re.null).length = all.length := List.length_map ..
    obtain ⟨n, hn⟩ : ∃ n, n = all.length := ⟨_, rfl⟩
    have HGR : Hid (∀ D W, DfaAt W D (Fr r) ((refineR (setsR r)).map leastN) nx (all.map Re.null) → Calls Tryz.prog 41 #[ptr D] W fun e w' => ∃ (g : Nat) (al G : List Nat), e = .returned (.slice (some ⟨g, 0, none⟩) n n) ∧ NumsAt w' g n al ∧ GroupsOk (dN (Fr r) nx) (yN (all.map Re.null)) ((refineR (setsR r)).map leastN) n al G ∧ Below W.heap.size W w') := hid (fun D W hD => by
      have hc := hD.con hok (built_closed hq)
      rw [hyl, ← hn] at hc
      have hpos : 0 < ((refineR (setsR r)).map leastN).length := Nat.lt_of_le_of_lt (Nat.zero_le _) (hok.at_ 0 (by omega))
      exact groups_any D n _ (dN (Fr r) nx) (yN (all.map Re.null)) ((refineR (setsR r)).map leastN) W hc (by omega) (by omega) rfl hpos (by rw [List.length_map]; exact hlen) (fun x hx => by
        obtain ⟨p, hp, rfl⟩ := List.mem_map.1 hx
        exact (least_has p (hout.ne p hp)).2) fun W' hW' => (dheads_any D (Fr r) ((refineR (setsR r)).map leastN) nx (all.map Re.null) hok (by rw [List.length_map]; exact hlen) W' (hD.below hW')).mono fun e w' hh => by
          obtain ⟨A, c, h1, h2, -, h3⟩ := hh
          exact ⟨A, c, h1, h2, h3⟩)
    have hn1 : 0 < n := by omega
    have hn2 : n ≤ 1000000 := by omega
    simp only [← hn]
    clear h hB hT hok hout hcov hlen h1 hq hyl hnm hn
    unfold ptr at *
    go_enter Tryz.func42, Tryz.ntmps42
    go_wp2_with (first | (go_at_call 13; refine HBU.out.mono ?_; rintro e w2 ⟨hk, -, D, rfl, -, hd⟩; have HK := hid hk; have HG := hid (HGR.out D w2 hd); unfold ptr at HG; clear hk hd) | (go_at_call 41; refine HG.out.mono ?_; rintro e w3 ⟨g, al, G, rfl, ha, ho, hb⟩; have HA := hid ha; have HO := hid ho; have HB := hid hb; clear ha ho hb))
    have hlen := HO.out.len
    go_loopw [8, 23] (fun mv iv wr => ∃ k v : Nat, k ≤ n ∧ iv = .int .i64 k ∧ mv = .int .i64 v ∧ Hid ((∀ x, x < k → aN al x < v) ∧ v ≤ G.length) ∧ Hid (Below w3.heap.size w3 wr)) (fun _ iv _ => n - (intOf iv).toNat)
    case atStart => exact ⟨0, 0, Nat.zero_le _, rfl, rfl, ⟨fun x h => absurd h (Nat.not_lt_zero _), Nat.zero_le _⟩, Below.refl _ _⟩
    case round =>
      obtain ⟨k, v, hk, rfl, rfl, hv, hbel⟩ := hrel
      have hvg := hv.out.2
      have hgn : G.length ≤ n := nodup_le (HO.out.sorted.imp fun h => Nat.ne_of_lt h) HO.out.num.lt
      by_cases hlt : k < n
      · have x1 := (HA.out.below hbel.out).cell hlt
        have hak : aN al k < G.length := HO.out.num.small k hlt
        obtain ⟨a, ha⟩ : ∃ a, a = al.getD k 0 := ⟨_, rfl⟩
        rw [← ha] at x1
        have hak : a < G.length := by rw [ha]; exact hak
        obtain ⟨v2, hv2⟩ : ∃ v2, v2 = max v (a + 1) := ⟨_, rfl⟩
        have hmx : max (v : Int) ((a : Int) + 1) = (v2 : Int) := by omega
        have HV2 : Hid ((∀ x, x < k + 1 → aN al x < v2) ∧ v2 ≤ G.length) := hid ⟨fun x hx => by
          by_cases hxk : x < k
          · have := hv.out.1 x hxk; omega
          · have : x = k := by omega
            rw [this]
            show al.getD k 0 < v2
            rw [← ha]
            omega, by omega⟩
        clear ha hv2
        go_wp2_with fail
        go_roundw
        case rel => exact ⟨k + 1, v2, by omega, by go_num, rfl, HV2.out, hbel.out⟩
        case measure => simp [intOf]; omega
      · have hkn : k = n := by omega
        have HVG : Hid (v = G.length) := hid (by
          have hG := HO.out.num.small 0 hn1
          have hGp : 0 < G.length := by omega
          have hx : G[G.length - 1]? = some (G[G.length - 1]'(by omega)) := List.getElem?_eq_getElem _
          have h1 := HO.out.num.at_ _ _ hx
          have h2 := HO.out.num.lt _ (List.mem_of_getElem? hx)
          have h3 := hv.out.1 _ (by rw [hkn]; exact h2)
          omega)
        clear hkn
        go_wp2_with fail
        refine bodyPost_ret (v := .tuple #[.int .i64 (v : Int), .int .i64 0]) (by simp [results, Tryz.results42, go_sem]) rfl ⟨(HK.out.trans (KeepX.of_below (X := fun _ => False) HB.out) fun _ _ e => e.elim).trans (KeepX.of_below (X := fun _ => False) hbel.out) fun _ _ e => e.elim, al, G, ?_, HO.out⟩
        rw [HVG.out]
theorem dlen_nil (w : World) : Calls Tryz.prog 24 #[.pointer none] w fun e w' => e = .returned (.int .i64 0) ∧ w = w' := by
  go_enter Tryz.func24, Tryz.ntmps24
  go_wp2_with fail
  go_ret
  exact ⟨rfl, rfl⟩
theorem dheads_nil (w : World) : Calls Tryz.prog 22 #[.pointer none] w fun e w' => e = .returned (.slice none 0 0) ∧ w = w' := by
  go_enter Tryz.func22, Tryz.ntmps22
  go_wp2_with fail
  go_ret
  exact ⟨rfl, rfl⟩
theorem shortest_nil (w : World) : Calls Tryz.prog 45 #[.pointer none] w fun e w' => e = .returned (.tuple #[.string ⟨#[]⟩, .bool false]) ∧ w = w' := by
  have HL := hid (dlen_nil w)
  go_enter Tryz.func45, Tryz.ntmps45
  go_wp2_with (go_at_call 24; refine HL.out.mono ?_; rintro e w2 ⟨rfl, rfl⟩)
  refine bodyPost_ret (v := .tuple #[.string ⟨#[]⟩, .bool false]) (by simp [results, Tryz.results45, go_sem]) rfl ⟨rfl, rfl⟩
end Go.Proofs.YtaplejpjmaocdaaGreatDoor

/- The walk of auto.Groups at nil. -/
namespace Go.Proofs.YtaplejpjmaocdaaGreatDoor
open Go.RowKit Go.Maps

set_option maxRecDepth 100000 in
set_option maxHeartbeats 2000000 in
theorem groups_nil (w : World) : Calls Tryz.prog 41 #[.pointer none] w fun e w' => ∃ g : Nat, e = .returned (.slice (some ⟨g, 0, none⟩) 0 0) ∧ Below w.heap.size w w' := by
  have HL := hid dlen_nil
  have HH := hid dheads_nil
  obtain ⟨i0, hi0, hz0, hz1, hz2⟩ := info_parts info_int
  have hi8 : i0.bytes * 0 ≤ 281474976710656 := by omega
  go_enter Tryz.func41, Tryz.ntmps41
  go_wp2_with (first | (go_at_call 24; refine (HL.out _).mono ?_; rintro e w2 ⟨rfl, rfl⟩) | (at_make; refine wpList_make_full _ rfl (.tmp 15) (.tmp 15) 25 rfl w.heap.size 3 i0 (.int .i64 0) 1 Tryz.underlying25 hi0 hz0 hz1 .i64 .i64 _ _ 0 rfl rfl rfl rfl hi8 (by unfold maxLen; omega) (Nat.le_refl _) ?_; intro w3 ho hg; have HMB := hid (below_none hg); clear ho hg))
  go_loopw [19] (fun iv wr => iv = .int .i64 0 ∧ Hid (Below w.heap.size w wr)) (fun _ _ => 0)
  case atStart => exact ⟨rfl, HMB.out⟩
  case round =>
    obtain ⟨rfl, hbel⟩ := hrel
    go_wp2_with (go_at_call 22; refine (HH.out _).mono ?_; rintro e w4 ⟨rfl, rfl⟩)
    go_loopw [4, 7] (fun av cv wr => (∃ g : Nat, av = .slice (some ⟨g, 0, none⟩) 0 0) ∧ cv = .int .i64 0 ∧ Hid (Below w.heap.size w wr)) (fun _ _ _ => 0)
    case atStart => exact ⟨⟨_, rfl⟩, rfl, hbel.out⟩
    case round =>
      obtain ⟨⟨g, rfl⟩, rfl, hbel2⟩ := hrel
      obtain ⟨wl, hwl⟩ : ∃ W : World, W = wr := ⟨_, rfl⟩
      subst hwl
      go_wp2_with fail
      go_step3
      go_wp2_with ((at_make; refine wpList_make_full _ rfl (.tmp 34) (.tmp 34) 25 rfl wl.heap.size 3 i0 (.int .i64 0) 1 Tryz.underlying25 hi0 hz0 hz1 .i64 .i64 _ _ 0 rfl rfl rfl rfl hi8 (by unfold maxLen; omega) (Nat.le_refl _) ?_; intro w6 ho hg; have HMB := hid (below_none hg); clear ho hg))
      go_step3
      go_wp2_with fail
      have HB6 := hid (hbel2.out.trans (HMB.out.mono hbel2.out.size))
      go_loopw [9, 38] (fun vf qv wr => vf = .slice none 0 0 ∧ qv = .int .i64 0 ∧ Hid (Below w.heap.size w wr)) (fun _ _ _ => 0)
      case atStart => exact ⟨rfl, rfl, HB6.out⟩
      case round =>
        obtain ⟨rfl, rfl, hbel3⟩ := hrel
        go_wp2_with fail
        simp (config := { zetaDelta := true }) only [Exit.noGoto, Exit.inBlock, Exit.then]
        go_ret
        exact ⟨_, rfl, hbel3.out⟩
end Go.Proofs.YtaplejpjmaocdaaGreatDoor
