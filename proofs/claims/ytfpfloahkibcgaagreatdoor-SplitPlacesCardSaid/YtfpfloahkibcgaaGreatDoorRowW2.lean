/- What holds at the heads of Build's loops. -/
import Derived.Test.YtfpfloahkibcgaaGreatDoorRowW
namespace Go.Proofs.YtfpfloahkibcgaaGreatDoor
open Go.RowKit Go.Maps

/-- What Build writes behind its places' making. -/
def XB (p : Pl) : Nat → Prop := fun k => k = p.B ∨ k = p.M ∨ k = p.bA ∨ k = p.D ∨ p.base ≤ k
/-- At the outer loop's head: q rows are made. -/
structure OutInv (w20 wr : World) (p : Pl) (F : Nat → Nat) (vh : Value) (hs : List Nat) (left used : Nat) (R : Option (List Re × List (List Nat) × Nat)) (q : Nat)
    (all : List Re) (left' : Nat) (nx : List (List Nat)) (vn : Value) (gs : List Nat) (va vy : Value) (bs : List Nat) (fuel : Nat) : Prop where
  st : StAt wr p all left' (used + (left - left')) F vh vn (vn.ownBlock :: gs.map some) va vy bs
  nxt : NxAt wr p.base hs.length vn gs nx
  hq : nx.length = q
  qa : q ≤ all.length
  al : all.length + left' = left
  go : buildGo hs fuel q all left' nx = R
  fl : q + fuel = left + 1
  gd : ∀ x ∈ all, Good x ∧ x.size ≤ 20000
  kp : KeepX (XB p) w20 wr
/-- At the inner loop's head: of row q the first numbers are made. -/
structure InInv (w20 wr : World) (p : Pl) (F : Nat → Nat) (vh : Value) (hs : List Nat) (left used : Nat) (x : Re) (q g : Nat) (Rr : Option (List Re × Nat × List Nat)) (nx : List (List Nat)) (vn : Value) (gs : List Nat) (i : Nat)
    (all : List Re) (left' : Nat) (tos : List Nat) (va vy : Value) (bs : List Nat) : Prop where
  st : StAt wr p all left' (used + (left - left')) F vh vn (some g :: vn.ownBlock :: gs.map some) va vy bs
  nxt : NxAt wr p.base hs.length vn gs nx
  row : wr.heap[g]? = some (.cells (rowA hs.length tos) 3 (0, 0))
  gn : g ∉ gs ∧ vn.ownBlock ≠ some g
  hi : tos.length = i
  qx : all[q]? = some x
  al : all.length + left' = left
  go : rowGo x (hs.drop i) all left' tos = Rr
  gd : ∀ x ∈ all, Good x ∧ x.size ≤ 20000
  kp : KeepX (XB p) w20 wr
section
variable {w20 wr w' : World} {p : Pl} {F : Nat → Nat} {vh : Value} {hs : List Nat} {left used : Nat} {R : Option (List Re × List (List Nat) × Nat)} {q : Nat} {x : Re} {g : Nat} {Rr : Option (List Re × Nat × List Nat)}
  {all : List Re} {left' : Nat} {nx : List (List Nat)} {vn : Value} {gs : List Nat} {va vy : Value} {bs : List Nat} {fuel i : Nat} {tos : List Nat}
theorem XS_XB {ms all : List Re} {ys : List Bool} {left used : Nat} {f : Nat → Nat} {os : List (Option Nat)} (h : StG wr p ms all ys left used f vh vn os va vy bs) : ∀ k, XS p va vy k → XB p k := fun k e => by
  rcases e with e | e | e | e | e | e
  · exact .inl e
  · exact .inr (.inl e)
  · exact .inr (.inr (.inl e))
  · exact .inr (.inr (.inr (.inl e)))
  · exact .inr (.inr (.inr (.inr (h.rowA k e).1)))
  · exact .inr (.inr (.inr (.inr (h.rowY k e).1)))
theorem XS_os {ms all : List Re} {ys : List Bool} {left used : Nat} {f : Nat → Nat} {os : List (Option Nat)} (h : StG wr p ms all ys left used f vh vn os va vy bs) {k : Nat} (hk : some k ∈ os) : ¬ XS p va vy k := fun e => by
  obtain ⟨h1, -, h3, h4⟩ := h.oth k hk
  have o1 := h.o1; have o2 := h.o2; have o3 := h.o3; have o4 := h.o4; have o5 := h.o5; have o6 := h.o6; have o7 := h.o7
  rcases e with e | e | e | e | e | e
  · omega
  · omega
  · omega
  · omega
  · exact h3 e
  · exact h4 e
/-- Nothing of it is written. -/
theorem InInv.below (h : InInv w20 wr p F vh hs left used x q g Rr nx vn gs i all left' tos va vy bs) (hb : Below wr.heap.size wr w') : InInv w20 w' p F vh hs left used x q g Rr nx vn gs i all left' tos va vy bs where
  st := h.st.below hb
  nxt := h.nxt.keep (KeepX.of_below (X := fun _ => False) hb) (fun _ _ h => h) (fun _ _ h => h)
  row := blk_below h.row hb
  gn := h.gn
  hi := h.hi
  qx := h.qx
  al := h.al
  go := h.go
  gd := h.gd
  kp := h.kp.trans (KeepX.of_below (X := XB p) hb) fun _ _ h => h
/-- A number more: the state's making, then the store. -/
theorem InInv.step {to : Nat} {all' : List Re} {left2 : Nat} {va' vy' : Value} {bs' : List Nat} {h0 : Nat} (h : InInv w20 wr p F vh hs left used x q g Rr nx vn gs i all left' tos va vy bs) (hi : hs[i]? = some h0) (hk : KeepX (XS p va vy) wr w')
    (hst : stAdd all left' (byR h0 x) = some (all', left2, to)) (hgd : Good (byR h0 x)) (hs' : StAt w' p all' left2 (used + (left - left') + (left' - left2)) F vh vn (some g :: vn.ownBlock :: gs.map some) va' vy' bs') :
    w'.heap[g]? = some (.cells (rowA hs.length tos) 3 (0, 0)) ∧ InInv w20 (w'.setCell ⟨g, i, none⟩ (.int .i64 (to : Int))) p F vh hs left used x q g Rr nx vn gs (i + 1) all' left2 (tos ++ [to]) va' vy' bs' := by
  have hg := XS_os h.st (k := g) (List.mem_cons_self ..)
  have hrow := hk.at_ h.row hg
  obtain ⟨l1, l2, l3, l4⟩ := stAdd_len hst
  have hil : i < hs.length := (List.getElem?_eq_some_iff.1 hi).1
  have hset : KeepX (fun k => k = g) w' (w'.setCell ⟨g, i, none⟩ (.int .i64 (to : Int))) := KeepX.set_ _ ⟨g, i, none⟩ _ rfl
  have hal := h.al
  have hgb := (hs'.oth g (List.mem_cons_self ..)).1
  refine ⟨hrow, ?_⟩
  have hu : used + (left - left') + (left' - left2) = used + (left - left2) := by omega
  rw [hu] at hs'
  exact {
    st := hs'.osw (List.mem_cons_self ..) hset
    nxt := (h.nxt.keep hk (fun k e => XS_os h.st (by rw [← e]; simp)) (fun k e => XS_os h.st (by simp [e]))).keep hset (fun k e e2 => h.gn.2 (by rw [← e2]; exact e)) (fun k e e2 => h.gn.1 (by rw [← e2]; exact e))
    row := by rw [blk_set hrow i, ← h.hi, rowA_set (by rw [h.hi]; exact hil)]
    gn := h.gn
    hi := by rw [List.length_append, h.hi]; rfl
    qx := l3 q x h.qx
    al := by omega
    go := by
      have hd : hs.drop i = h0 :: hs.drop (i + 1) := by
        rw [List.drop_eq_getElem_cons hil]
        congr 1
        exact Option.some.inj ((List.getElem?_eq_getElem hil).symm.trans hi)
      have := h.go
      rw [hd] at this
      unfold rowGo at this
      rw [hst] at this
      exact this
    gd := fun y hy => by
      rcases l4 with e | ⟨e, hz⟩
      · rw [e] at hy; exact h.gd y hy
      · rw [e] at hy
        rcases List.mem_append.1 hy with hy | hy
        · exact h.gd y hy
        · rw [List.mem_singleton.1 hy]; exact ⟨hgd, hz⟩
    kp := (h.kp.trans hk fun k _ e => XS_XB h.st k e).trans hset fun k _ e => by rw [e]; exact .inr (.inr (.inr (.inr hgb))) }
theorem InInv.fell {h0 : Nat} (h : InInv w20 wr p F vh hs left used x q g Rr nx vn gs i all left' tos va vy bs) (hi : hs[i]? = some h0) (hst : stAdd all left' (byR h0 x) = none) : Rr = none := by
  have hil : i < hs.length := (List.getElem?_eq_some_iff.1 hi).1
  have hd : hs.drop i = h0 :: hs.drop (i + 1) := by
    rw [List.drop_eq_getElem_cons hil]
    congr 1
    exact Option.some.inj ((List.getElem?_eq_getElem hil).symm.trans hi)
  have := h.go
  rw [hd] at this
  unfold rowGo at this
  rw [hst] at this
  exact this.symm
/-- A row is begun. -/
theorem OutInv.begin (h : OutInv w20 wr p F vh hs left used R q all left' nx vn gs va vy bs fuel) (hx : all[q]? = some x) (hb : Below wr.heap.size wr w') (hg : wr.heap.size ≤ g) (hg' : g < w'.heap.size) (hrow : w'.heap[g]? = some (.cells (rowA hs.length []) 3 (0, 0))) :
    InInv w20 w' p F vh hs left used x q g (rowGo x hs all left' []) nx vn gs 0 all left' [] va vy bs where
  st := h.st.fresh hb hg hg'
  nxt := h.nxt.keep (KeepX.of_below (X := fun _ => False) hb) (fun _ _ h => h) (fun _ _ h => h)
  row := hrow
  gn := ⟨fun hm => by have := (h.st.oth g (by simp [hm])).2.1; omega, fun e => by have := (h.st.oth g (by rw [← e]; simp)).2.1; omega⟩
  hi := rfl
  qx := hx
  al := h.al
  go := by rw [List.drop_zero]
  gd := h.gd
  kp := h.kp.trans (KeepX.of_below (X := XB p) hb) fun _ _ h => h
theorem StG.osub {ms all : List Re} {ys : List Bool} {left used : Nat} {f : Nat → Nat} {os os' : List (Option Nat)} (h : StG wr p ms all ys left used f vh vn os va vy bs) (hs : ∀ k, some k ∈ os' → some k ∈ os) : StG wr p ms all ys left used f vh vn os' va vy bs :=
  { h with
    hels := h.hels.also fun k e _ => e.imp id (hs k)
    oth := fun k e => h.oth k (hs k e) }
/-- A row is done. -/
theorem InInv.done {W w7 : World} {v7 : Value} (h : InInv w20 wr p F vh hs left used x q g Rr nx vn gs hs.length all left' tos va vy bs) (hq : nx.length = q) (hqa : q < all.length) (hfl : q + (fuel + 1) = left + 1) (hgo : buildGo hs fuel (q + 1) all left' (nx ++ [tos]) = R)
    (hb : Below wr.heap.size wr W) (hg : W.grownBy w7 vn.ownBlock) (hy : w7.ownsRow p.base 25 1 v7 (rowVs hs.length gs ++ [Value.slice (some ⟨g, 0, none⟩) hs.length hs.length]).length (rowVs hs.length gs ++ [Value.slice (some ⟨g, 0, none⟩) hs.length hs.length]))
    (hat : v7.ownBlock = vn.ownBlock ∨ v7.ownBlock = some W.heap.size) :
    w7.cell? ⟨p.bD, 0, none⟩ = some (ptr p.D) ∧ w7.cell? ⟨p.D, 257, none⟩ = some vn ∧ w7.frozen? ⟨p.D, 257, none⟩ = false ∧
      OutInv w20 (w7.setCell ⟨p.D, 257, none⟩ v7) p F vh hs left used R (q + 1) all left' (nx ++ [tos]) v7 (gs ++ [g]) va vy bs fuel := by
  have hW := h.st.below hb
  have hN := h.nxt.keep (KeepX.of_below (X := fun _ => False) hb) (fun _ _ h => h) (fun _ _ h => h)
  have hR := blk_below h.row hb
  have o3 := hW.o3; have o4 := hW.o4; have o5 := hW.o5; have o6 := hW.o6; have o7 := hW.o7
  have hown : ∀ k, vn.ownBlock = some k → p.base ≤ k ∧ k < W.heap.size := fun k e => World.ownsRow.lt hN.hN k e
  have hne : ∀ k, k < p.base → vn.ownBlock ≠ some k := fun k hk e => by have := (hown k e).1; omega
  have hbD := (hg.block _ (lt_of_heap hW.hbD) (fun e => hne _ (by omega) e.symm)).trans hW.hbD
  have hD := (hg.block _ (lt_of_heap hW.hD) (fun e => hne _ (by omega) e.symm)).trans hW.hD
  have hk : KeepX (fun k => k = p.D ∨ vn.ownBlock = some k) W (w7.setCell ⟨p.D, 257, none⟩ v7) :=
    (KeepX.of_grown (X := fun k => k = p.D ∨ vn.ownBlock = some k) hg fun k e => .inr e).trans (KeepX.set_ (X := fun k => k = p.D ∨ vn.ownBlock = some k) _ ⟨p.D, 257, none⟩ v7 (.inl rfl)) fun _ _ h => h
  have hrowN : w7.ownsRow p.base 25 1 v7 (rowVs hs.length (gs ++ [g])).length (rowVs hs.length (gs ++ [g])) := by
    have e : rowVs hs.length (gs ++ [g]) = rowVs hs.length gs ++ [Value.slice (some ⟨g, 0, none⟩) hs.length hs.length] := by simp [rowVs]
    rw [e]; exact hy
  have hgN := hW.oth g (List.mem_cons_self ..)
  have hgD : ∀ j, p.base ≤ j → j ≠ p.D := fun j hj => by omega
  have hv7 : ∀ j, j < W.heap.size → v7.ownBlock = some j → vn.ownBlock = some j := fun j h1 h2 => by
    rcases hat with e | e
    · rw [← e]; exact h2
    · rw [e] at h2; cases h2; omega
  refine ⟨(blk_cell hbD 0).trans (by rfl), (blk_cell hD 257).trans (dfaA_get F vh vn vy).2.1, blk_free hD 257, ?_⟩
  exact {
    st := ((hW.osub (os' := vn.ownBlock :: some g :: gs.map some) fun k e => by
      rcases List.mem_cons.1 e with e | e
      · exact List.mem_cons_of_mem _ (by rw [e]; exact List.mem_cons_self ..)
      · rcases List.mem_cons.1 e with e | e
        · rw [e]; exact List.mem_cons_self ..
        · exact List.mem_cons_of_mem _ (List.mem_cons_of_mem _ e)).next hk hat (fun j e => by have := (World.ownsRow.lt hrowN j e).2; simpa [World.setCell] using this) (by rw [blk_set hD 257 v7, dfaA_setN])).osub fun k e => by
        rcases List.mem_cons.1 e with e | e
        · rw [e]; exact List.mem_cons_self ..
        · rw [List.map_append] at e
          rcases List.mem_append.1 e with e | e
          · exact List.mem_cons_of_mem _ (List.mem_cons_of_mem _ e)
          · exact List.mem_cons_of_mem _ (by have e : k = g := (by simpa using e); rw [e]; exact List.mem_cons_self ..)
    nxt := {
      hN := row_blk hrowN fun k e => Below.heap_setCell _ _ _ _ (by have := (World.ownsRow.lt hrowN k e).1; exact hgD k this)
      len := by rw [List.length_append, List.length_append, hN.len]; rfl
      row := fun i g' row e1 e2 => by
        by_cases hi : i < gs.length
        · rw [List.getElem?_append_left hi] at e1
          rw [List.getElem?_append_left (by rw [← hN.len]; exact hi)] at e2
          have h3 := hN.row i g' row e1 e2
          have hm := List.mem_of_getElem? e1
          have hb' := (hW.oth g' (by simp [hm])).1
          exact ⟨hk.at_ h3.1 (fun e => e.elim (hgD g' hb') (hN.ne g' hm)), h3.2⟩
        · rw [List.getElem?_append_right (by omega)] at e1
          rw [List.getElem?_append_right (by rw [← hN.len]; omega), ← hN.len] at e2
          have hi0 : i - gs.length = 0 := by
            have := (List.getElem?_eq_some_iff.1 e1).1
            simp at this
            omega
          rw [hi0] at e1 e2
          have e1 : g = g' := by simpa using e1
          have e2 : tos = row := by simpa using e2
          subst e1
          subst e2
          exact ⟨hk.at_ hR (fun e => e.elim (hgD g hgN.1) h.gn.2), h.hi⟩
      ne := fun g' hm e => by
        rcases List.mem_append.1 hm with hm | hm
        · exact hN.ne g' hm (hv7 g' (hW.oth g' (by simp [hm])).2.1 e)
        · rw [List.mem_singleton.1 hm] at e
          exact h.gn.2 (hv7 g hgN.2.1 e) }
    hq := by rw [List.length_append, hq]; rfl
    qa := hqa
    al := h.al
    go := hgo
    fl := by omega
    gd := h.gd
    kp := (h.kp.trans (KeepX.of_below (X := XB p) hb) fun _ _ h => h).trans hk fun k _ e => by
      rcases e with e | e
      · exact .inr (.inr (.inr (.inl e)))
      · exact .inr (.inr (.inr (.inr (hown k e).1))) }
/-- All rows are done. -/
theorem OutInv.fin (h : OutInv w20 wr p F vh hs left used R all.length all left' nx vn gs va vy bs fuel) (hH : RdV wr vh (u8s hs)) (hne : ∀ k, vh.ownBlock = some k → p.D < k) : R = some (all, nx, left') ∧ DfaSt wr p.B p.D F hs nx (all.map Re.null) := by
  have o1 := h.st.o1; have o2 := h.st.o2; have o3 := h.st.o3; have o4 := h.st.o4; have o5 := h.st.o5; have o6 := h.st.o6; have o7 := h.st.o7
  have hvn : ∀ k, vn.ownBlock = some k → p.base ≤ k := fun k e => (h.st.oth k (by rw [← e]; exact List.mem_cons_self ..)).1
  have hvy : ∀ k, vy.ownBlock = some k → p.base ≤ k := fun k e => (h.st.rowY k e).1
  have hvg : ∀ g ∈ gs, p.base ≤ g := fun g hg => (h.st.oth g (List.mem_cons_of_mem _ (List.mem_map_of_mem hg))).1
  refine ⟨?_, fun w' hk => ⟨vh, vn, vy, gs, DfaK.start (hk.at_ h.st.hD (by omega)) (fun e => by have := hne _ e; omega) (fun e => by have := hvn _ e; omega) (fun e => by have := hvy _ e; omega),
    rdV_keep hH hk fun k e e2 => by have := hne k e; omega, rdV_keep (rdV_of h.nxt.hN) hk fun k e e2 => by have := hvn k e; omega, rdV_keep (rdV_of h.st.hY) hk fun k e e2 => by have := hvy k e; omega, h.nxt.len, fun i g row h1 h2 => ⟨hk.at_ (h.nxt.row i g row h1 h2).1 (fun e => by have := hvg g (List.mem_of_getElem? h1); omega), (h.nxt.row i g row h1 h2).2⟩⟩⟩
  have hal := h.al
  have hfl := h.fl
  obtain ⟨n, rfl⟩ : ∃ n, fuel = n + 1 := ⟨fuel - 1, by omega⟩
  have := h.go
  unfold buildGo at this
  rw [List.getElem?_eq_none (Nat.le_refl _)] at this
  exact this.symm
theorem OutInv.row_some {all2 : List Re} {left2 : Nat} {row : List Nat} (h : OutInv w20 wr p F vh hs left used R q all left' nx vn gs va vy bs fuel) (hx : all[q]? = some x) (hr : rowGo x hs all left' [] = some (all2, left2, row)) :
    ∃ n, fuel = n + 1 ∧ buildGo hs n (q + 1) all2 left2 (nx ++ [row]) = R := by
  have hal := h.al
  have hfl := h.fl
  have hql : q < all.length := (List.getElem?_eq_some_iff.1 hx).1
  obtain ⟨n, rfl⟩ : ∃ n, fuel = n + 1 := ⟨fuel - 1, by omega⟩
  refine ⟨n, rfl, ?_⟩
  have := h.go
  unfold buildGo at this
  rw [hx] at this
  simp only [hr] at this
  exact this
theorem OutInv.row_none (h : OutInv w20 wr p F vh hs left used R q all left' nx vn gs va vy bs fuel) (hx : all[q]? = some x) (hr : rowGo x hs all left' [] = none) : R = none := by
  have hal := h.al
  have hfl := h.fl
  have hql : q < all.length := (List.getElem?_eq_some_iff.1 hx).1
  obtain ⟨n, rfl⟩ : ∃ n, fuel = n + 1 := ⟨fuel - 1, by omega⟩
  have := h.go
  unfold buildGo at this
  rw [hx] at this
  simp only [hr] at this
  exact this.symm
end
end Go.Proofs.YtfpfloahkibcgaaGreatDoor
