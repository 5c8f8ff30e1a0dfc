/- What holds at the heads of the loops that count the states. -/
import Derived.Test.YtaplejpjmaocdaaGreatDoorStatesM
import Derived.Test.YtaplejpjmaocdaaGreatDoorByW2
namespace Go.Proofs.YtaplejpjmaocdaaGreatDoor
open Go.RowKit Go.Maps

structure OutS (w0 w : World) (base : Nat) (hs : List Nat) (most : Nat) (R : Option (List Re × List (List Nat) × Nat)) (q : Nat) (va vr : Value) (all : List Re) (left : Nat) (nx : List (List Nat)) (bs : List Nat) (us : List Value) : Prop where
  sv : SvInv w base va vr nilV all bs us nx []
  kp : Below base w0 w
  dis : Dis all
  al : all.length + left = most
  hq : nx.length = q
  qa : q ≤ all.length
  go : ∃ fuel, q + fuel = most + 1 ∧ buildGo hs fuel q all left nx = R
  gd : ∀ y ∈ all, Good y ∧ y.size ≤ 20000
structure InS (w0 w : World) (base : Nat) (hs : List Nat) (most : Nat) (Rr : Option (List Re × Nat × List Nat)) (q : Nat) (x : Re) (nx : List (List Nat)) (us : List Value) (vr : Value) (j : Nat) (va vw : Value) (all : List Re) (left : Nat) (row : List Nat) (bs : List Nat) : Prop where
  sv : SvInv w base va vr vw all bs us nx row
  kp : Below base w0 w
  dis : Dis all
  al : all.length + left = most
  qx : all[q]? = some x
  rl : row.length = j
  go : rowGo x (hs.drop j) all left row = Rr
  gd : ∀ y ∈ all, Good y ∧ y.size ≤ 20000
section
variable {w0 w w' : World} {base : Nat} {hs : List Nat} {most : Nat} {R : Option (List Re × List (List Nat) × Nat)} {q : Nat} {va vr vw : Value} {all : List Re} {left : Nat} {nx : List (List Nat)} {bs : List Nat} {us : List Value}
  {Rr : Option (List Re × Nat × List Nat)} {x : Re} {j : Nat} {row : List Nat}
theorem OutS.below (h : OutS w0 w base hs most R q va vr all left nx bs us) (hb : Below w.heap.size w w') : OutS w0 w' base hs most R q va vr all left nx bs us :=
  { h with sv := h.sv.below hb, kp := h.kp.trans (hb.mono h.sv.bz) }
theorem InS.below (h : InS w0 w base hs most Rr q x nx us vr j va vw all left row bs) (hb : Below w.heap.size w w') : InS w0 w' base hs most Rr q x nx us vr j va vw all left row bs :=
  { h with sv := h.sv.below hb, kp := h.kp.trans (hb.mono h.sv.bz) }
theorem OutS.fuel (h : OutS w0 w base hs most R q va vr all left nx bs us) : ∃ f, q + (f + 1) = most + 1 ∧ buildGo hs (f + 1) q all left nx = R := by
  obtain ⟨fuel, h1, h2⟩ := h.go
  have := h.al
  have := h.qa
  obtain ⟨f, rfl⟩ : ∃ f, fuel = f + 1 := ⟨fuel - 1, by omega⟩
  exact ⟨f, h1, h2⟩
theorem OutS.row_none (h : OutS w0 w base hs most R q va vr all left nx bs us) (hx : all[q]? = some x) (hr : rowGo x hs all left [] = none) : R = none := by
  obtain ⟨f, h1, h2⟩ := h.fuel
  rw [← h2]
  unfold buildGo
  rw [hx]
  simp only [hr]
theorem OutS.row_some {all2 : List Re} {left2 : Nat} {row2 : List Nat} (h : OutS w0 w base hs most R q va vr all left nx bs us) (hx : all[q]? = some x) (hr : rowGo x hs all left [] = some (all2, left2, row2)) :
    ∃ fuel, q + 1 + fuel = most + 1 ∧ buildGo hs fuel (q + 1) all2 left2 (nx ++ [row2]) = R := by
  obtain ⟨f, h1, h2⟩ := h.fuel
  refine ⟨f, by omega, ?_⟩
  rw [← h2]
  conv => rhs; unfold buildGo
  rw [hx]
  simp only [hr]
theorem OutS.fin (h : OutS w0 w base hs most R q va vr all left nx bs us) (hq : q = all.length) : R = some (all, nx, left) := by
  obtain ⟨f, h1, h2⟩ := h.fuel
  rw [← h2]
  unfold buildGo
  rw [List.getElem?_eq_none (by omega)]
theorem OutS.begin {v : Value} (h : OutS w0 w base hs most R q va vr all left nx bs us) (hx : all[q]? = some x) (hb : Below w.heap.size w w') (hW : w'.ownsRow base 3 1 v 0 []) (hv : ∀ k, v.ownBlock = some k → w.heap.size ≤ k) :
    InS w0 w' base hs most (rowGo x hs all left []) q x nx us vr 0 va v all left [] bs :=
  { sv := h.sv.newW hb hW hv, kp := h.kp.trans (hb.mono h.sv.bz), dis := h.dis, al := h.al, qx := hx, rl := rfl, go := rfl, gd := h.gd }
theorem XW_lt (h : SvInv w base va vr vw all bs us nx row) : ∀ k, XW va vr vw k → k < w.heap.size := fun k e => (h.lt k e).2
theorem InS.elem (h : InS w0 w base hs most Rr q x nx us vr j va vw all left row bs) : ∃ bx, bs[q]? = some bx ∧ ReAt w (XW va vr vw) x bx := by
  have hl := h.sv.hE.1
  have hq := (List.getElem?_eq_some_iff.1 h.qx).1
  have hb : bs[q]? = some (bs[q]'(by omega)) := List.getElem?_eq_getElem _
  exact ⟨_, hb, h.sv.hE.2 q x _ h.qx hb⟩
theorem InS.by_ {h0 bx : Nat} (h : InS w0 w base hs most Rr q x nx us vr j va vw all left row bs) (h256 : h0 < 256) (hx : ReAt w (XW va vr vw) x bx) :
    Calls Tryz.prog 55 #[ptr bx, .int .u8 h0] w (RetRe w (XW va vr vw) (byR h0 x)) := by
  have hg := h.gd x (List.mem_of_getElem? h.qx)
  exact by_any h0 h256 x hg.1 (by have := hg.2; omega) _ bx w hx (XW_lt h.sv)
theorem InS.bysz {h0 : Nat} (h : InS w0 w base hs most Rr q x nx us vr j va vw all left row bs) : Good (byR h0 x) ∧ (byR h0 x).size ≤ 549755813888 := by
  have hg := h.gd x (List.mem_of_getElem? h.qx)
  have hs := byR_size h0 x
  have hm : x.size * x.size ≤ 20000 * 20000 := Nat.mul_le_mul hg.2 hg.2
  exact ⟨byR_good h0 x hg.1, by omega⟩
theorem InS.drop {h0 : Nat} (hh : hs[j]? = some h0) : hs.drop j = h0 :: hs.drop (j + 1) := by
  obtain ⟨hl, e⟩ := List.getElem?_eq_some_iff.1 hh
  rw [List.drop_eq_getElem_cons hl, e]
theorem InS.fell {h0 : Nat} (h : InS w0 w base hs most Rr q x nx us vr j va vw all left row bs) (hh : hs[j]? = some h0) (hst : stAdd all left (byR h0 x) = none) : Rr = none := by
  rw [← h.go, InS.drop hh]
  unfold rowGo
  rw [hst]
theorem InS.next {h0 t left' : Nat} {all' : List Re} {va' vw' : Value} {bs' : List Nat} (h : InS w0 w base hs most Rr q x nx us vr j va vw all left row bs) (hh : hs[j]? = some h0) (hst : stAdd all left (byR h0 x) = some (all', left', t))
    (sv : SvInv w' base va' vr vw' all' bs' us nx (row ++ [t])) (kp : Below base w0 w') : InS w0 w' base hs most Rr q x nx us vr (j + 1) va' vw' all' left' (row ++ [t]) bs' where
  sv := sv
  kp := kp
  dis := by
    unfold stAdd at hst
    cases hq : idxK all (byR h0 x) with
    | some i =>
      rw [hq] at hst
      simp only [Option.some.injEq, Prod.mk.injEq] at hst
      rw [← hst.1]
      exact h.dis
    | none =>
      rw [hq] at hst
      simp only at hst
      split at hst
      · cases hst
      · split at hst
        · cases hst
        · simp only [Option.some.injEq, Prod.mk.injEq] at hst
          rw [← hst.1]
          exact h.dis.add hq
  al := by have := (stAdd_len hst).1; have := h.al; omega
  qx := (stAdd_len hst).2.2.1 _ _ h.qx
  rl := by simp [h.rl]
  go := by
    rw [← h.go, InS.drop hh]
    conv => rhs; unfold rowGo
    rw [hst]
  gd := fun y hy => by
    rcases (stAdd_len hst).2.2.2 with e | ⟨e, hz⟩
    · rw [e] at hy; exact h.gd y hy
    · rw [e] at hy
      rcases List.mem_append.1 hy with hy | hy
      · exact h.gd y hy
      · rw [List.mem_singleton.1 hy]
        exact ⟨(h.bysz (h0 := h0)).1, hz⟩
theorem InS.full (h : InS w0 w base hs most Rr q x nx us vr j va vw all left row bs) (hj : hs.length = j) : Rr = some (all, left, row) := by
  have := h.go
  rw [List.drop_of_length_le (by omega)] at this
  exact this.symm
/-- The parts of the walk's memory steps. -/
theorem SvInv.kpA (h : SvInv w base va vr vw all bs us nx row) {v : Value} (hv : v = va ∨ v = vr ∨ v = vw) (hk : w.grownBy w' v.ownBlock) : Below base w w' :=
  (KeepX.of_grown (X := XW va vr vw) hk fun k e => by
    rcases hv with rfl | rfl | rfl
    · exact .inl e
    · exact .inr (.inl e)
    · exact .inr (.inr e)).below h.bz fun k hk e => by have := (h.lt k e).1; omega
/-- A number more. -/
theorem InS.found {W : World} {h0 t : Nat} {vw' : Value} (h : InS w0 w base hs most Rr q x nx us vr j va vw all left row bs) (hh : hs[j]? = some h0) (hst : idxK all (byR h0 x) = some t) (hb : Below w.heap.size w W) (hg : W.grownBy w' vw.ownBlock)
    (hW : w'.ownsRow base 3 1 vw' (ints row ++ [Value.int .i64 (t : Int)]).length (ints row ++ [Value.int .i64 (t : Int)])) (hat : vw'.ownBlock = vw.ownBlock ∨ vw'.ownBlock = some W.heap.size) :
    InS w0 w' base hs most Rr q x nx us vr (j + 1) va vw' all left (row ++ [t]) bs := by
  have h2 := h.below hb
  refine h.next hh (by unfold stAdd; rw [hst]) (h2.sv.appW hg hW hat) (h2.kp.trans (h2.sv.kpA (.inr (.inr rfl)) hg))
/-- A state more: the row of states. -/
theorem InS.addA {W : World} {h0 b3 : Nat} {va' : Value} (h : InS w0 w base hs most Rr q x nx us vr j va vw all left row bs) (hb : Below w.heap.size w W) (h3 : ReAt W (XW va vr vw) (byR h0 x) b3) (hg : W.grownBy w' va.ownBlock)
    (hA : OwnP w' base va' (bs ++ [b3])) (hat : va'.ownBlock = va.ownBlock ∨ va'.ownBlock = some W.heap.size) :
    SvInv w' base va' vr vw (all ++ [byR h0 x]) (bs ++ [b3]) us nx row ∧ Below base w0 w' := by
  have h2 := h.below hb
  exact ⟨h2.sv.appA hg hA hat h3, h2.kp.trans (h2.sv.kpA (.inl rfl) hg)⟩
/-- .. and its number. -/
theorem InS.added {w1 W : World} {h0 b3 : Nat} {va' vw' : Value} (h : InS w0 w base hs most Rr q x nx us vr j va vw all left row bs) (hh : hs[j]? = some h0) (hst : idxK all (byR h0 x) = none) (hl : left ≠ 0) (hz : (byR h0 x).size ≤ 20000)
    (sv : SvInv w1 base va' vr vw (all ++ [byR h0 x]) (bs ++ [b3]) us nx row) (kp : Below base w0 w1) (hb : Below w1.heap.size w1 W) (hg : W.grownBy w' vw.ownBlock)
    (hW : w'.ownsRow base 3 1 vw' (ints row ++ [Value.int .i64 (all.length : Int)]).length (ints row ++ [Value.int .i64 (all.length : Int)])) (hat : vw'.ownBlock = vw.ownBlock ∨ vw'.ownBlock = some W.heap.size) :
    InS w0 w' base hs most Rr q x nx us vr (j + 1) va' vw' (all ++ [byR h0 x]) (left - 1) (row ++ [all.length]) (bs ++ [b3]) := by
  have s2 := sv.below hb
  refine h.next hh (by unfold stAdd; rw [hst]; simp only; rw [if_neg (by omega), if_neg hl]) (s2.appW hg hW hat) ((kp.trans (hb.mono sv.bz)).trans (s2.kpA (.inr (.inr rfl)) hg))
/-- A row is done. -/
theorem InS.done {W : World} {all0 : List Re} {left0 : Nat} {vr' va0 : Value} {bs0 : List Nat} {wo : World} (ho : OutS w0 wo base hs most R q va0 vr all0 left0 nx bs0 us) (hx : all0[q]? = some x) (hR : Rr = rowGo x hs all0 left0 []) (h : InS w0 w base hs most Rr q x nx us vr j va vw all left row bs) (hj : hs.length = j)
    (hb : Below w.heap.size w W) (hg : W.grownBy w' vr.ownBlock) (hy : w'.ownsRow base 25 1 vr' (us ++ [vw]).length (us ++ [vw])) (hat : vr'.ownBlock = vr.ownBlock ∨ vr'.ownBlock = some W.heap.size) :
    OutS w0 w' base hs most R (q + 1) va vr' all left (nx ++ [row]) bs (us ++ [vw]) := by
  have h2 := h.below hb
  have hrow := h.full hj
  exact { sv := h2.sv.appR hg hy hat, kp := h2.kp.trans (h2.sv.kpA (.inr (.inl rfl)) hg), dis := h.dis, al := h.al, hq := by simp [ho.hq], qa := (List.getElem?_eq_some_iff.1 h.qx).1, go := ho.row_some hx (hR ▸ hrow), gd := h.gd }
end
end Go.Proofs.YtaplejpjmaocdaaGreatDoor
