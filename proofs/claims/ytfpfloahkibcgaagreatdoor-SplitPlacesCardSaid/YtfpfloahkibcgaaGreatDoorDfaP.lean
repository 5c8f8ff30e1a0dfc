/- Plain: the states of a Dfa, one after the other. And how they lie while they are made. -/
import Derived.Test.YtfpfloahkibcgaaGreatDoorAppOne
namespace Go.Proofs.YtfpfloahkibcgaaGreatDoor
open Go.RowKit Go.Maps

/-- The place of an expression among the known ones. -/
def idxK (all : List Re) (x : Re) : Option Nat := all.findIdx? fun y => y.key == x.key
/-- One state more: the known ones, what is left of the budget, the state's number. -/
def stAdd (all : List Re) (left : Nat) (x : Re) : Option (List Re × Nat × Nat) :=
  match idxK all x with
  | some q => some (all, left, q)
  | none => if 20000 < x.size then none else if left = 0 then none else some (all ++ [x], left - 1, all.length)
theorem idxK_some {all : List Re} {x : Re} {i : Nat} (h : idxK all x = some i) : ∃ y, all[i]? = some y ∧ y.key = x.key := by
  obtain ⟨hl, h1, -⟩ := List.findIdx?_eq_some_iff_getElem.1 h
  exact ⟨_, List.getElem?_eq_getElem hl, by simpa using h1⟩
theorem idxK_any (all : List Re) (x : Re) : (all.any fun y => y.key == x.key) = (idxK all x).isSome := by
  unfold idxK
  rw [List.findIdx?_isSome]
theorem MapAt.look {w : World} {M : Nat} {all : List Re} (h : MapAt w M all) (x : Re) (hsz : x.size ≤ 549755813888) :
    ∃ c : Int, (∀ W : World, W.heap[M]? = w.heap[M]? → (Instr.lookup 172 (.map (some M)) (.string ⟨x.key.toArray⟩) true).run Tryz.prog W = .ok (.tuple #[.int .i64 c, .bool (idxK all x).isSome]) W) ∧ ∀ i : Nat, idxK all x = some i → c = i := by
  obtain ⟨D, hown, h1, h2⟩ := h
  have K := string_keyed Tryz.underlying9
  have hl : ∀ W : World, W.heap[M]? = w.heap[M]? → ∃ c : Int, (Instr.lookup 172 (.map (some M)) (.string ⟨x.key.toArray⟩) true).run Tryz.prog W = .ok (.tuple #[.int .i64 c, .bool (idxK all x).isSome]) W ∧ D.atKey (kl x) (.lit (.int .i64 0)) = .lit (.int .i64 c) := fun W hW => by
    have ho : W.ownsMap Tryz.prog 9 (plainElem Tryz.prog 3) M all.length D := by obtain ⟨es, clock, g1, g2⟩ := hown; exact ⟨es, clock, hW.trans g1, g2⟩
    obtain ⟨v, ps, hrun, hv⟩ := ho.look_ok K Tryz.underlying172 (z := .int .i64 0) (Tryz.zeroValue3 W) (plainElem_int Tryz.underlying3 (by decide)) (key_of x hsz)
    obtain ⟨c, rfl, hc, -⟩ := plainElem_int_inv Tryz.underlying3 hv
    exact ⟨c, by rw [hrun, h1, idxK_any], congrArg Prod.fst hc⟩
  obtain ⟨c, hr, hc⟩ := hl w rfl
  refine ⟨c, fun W hW => ?_, fun i hi => ?_⟩
  · obtain ⟨c', hr', hc'⟩ := hl W hW
    rw [hc] at hc'
    have : c = c' := by simpa using hc'
    rw [hr', this]
  · obtain ⟨y, hy, hk⟩ := idxK_some hi
    have := h2 i y hy
    rw [show kl y = kl x by unfold kl; rw [hk], hc] at this
    simpa using this
/-- All blocks that lay are as they were, but those of X. -/
structure KeepX (X : Nat → Prop) (w w' : World) : Prop where
  os : w'.os = w.os
  tape : w'.tape = w.tape
  output : w'.output = w.output
  size : w.heap.size ≤ w'.heap.size
  blk : ∀ k, k < w.heap.size → ¬ X k → w'.heap[k]? = w.heap[k]?
theorem KeepX.refl (X : Nat → Prop) (w : World) : KeepX X w w := ⟨rfl, rfl, rfl, Nat.le_refl _, fun _ _ _ => rfl⟩
theorem KeepX.trans {X Y : Nat → Prop} {a b c : World} (h : KeepX X a b) (k : KeepX Y b c) (hXY : ∀ j, j < a.heap.size → Y j → X j) : KeepX X a c :=
  ⟨k.os.trans h.os, k.tape.trans h.tape, k.output.trans h.output, Nat.le_trans h.size k.size, fun j hj hx => (k.blk j (Nat.lt_of_lt_of_le hj h.size) fun hy => hx (hXY j hj hy)).trans (h.blk j hj hx)⟩
theorem KeepX.of_below {X : Nat → Prop} {w w' : World} (h : Below w.heap.size w w') : KeepX X w w' := ⟨h.os, h.tape, h.output, h.size, fun k hk _ => h.block k hk⟩
theorem KeepX.of_grown {X : Nat → Prop} {w w' : World} {row : Option Nat} (h : w.grownBy w' row) (hx : ∀ k, row = some k → X k) : KeepX X w w' :=
  ⟨h.os, h.tape, h.output, h.size, fun k hk hne => h.block k hk fun e => hne (hx k e.symm)⟩
theorem KeepX.set_ {X : Nat → Prop} (w : World) (p : Addr) (u : Value) (h : X p.block) : KeepX X w (w.setCell p u) :=
  ⟨rfl, rfl, rfl, by simp [World.setCell], fun k _ hne => Below.heap_setCell _ _ _ _ (fun e => hne (e ▸ h))⟩
theorem KeepX.mono {X Y : Nat → Prop} {w w' : World} (h : KeepX X w w') (hxy : ∀ k, k < w.heap.size → X k → Y k) : KeepX Y w w' := ⟨h.os, h.tape, h.output, h.size, fun k hk hy => h.blk k hk fun hx => hy (hxy k hk hx)⟩
theorem KeepX.keeps {X : Nat → Prop} {w w' : World} (h : KeepX X w w') : Keeps X w w' := ⟨h.size, h.blk⟩
theorem KeepX.below {X : Nat → Prop} {w w' : World} {B : Nat} (h : KeepX X w w') (hB : B ≤ w.heap.size) (hX : ∀ k, k < B → ¬ X k) : Below B w w' :=
  ⟨h.os, h.tape, h.output, h.size, fun k hk => h.blk k (Nat.lt_of_lt_of_le hk hB) (hX k hk)⟩
/-- The fixed places. -/
structure Pl where
  bM : Nat
  M : Nat
  bB : Nat
  B : Nat
  bA : Nat
  bD : Nat
  D : Nat
  base : Nat
/-- The cells of a Dfa. -/
def dfaA (f : Nat → Nat) (vh vn vy : Value) : Array Value := atF f ++ #[vh, vn, vy, .int .u32 0, .int .i32 0, .int .u32 0, .slice none 0 0]
/-- The call's own row of Booleans. -/
def OwnB (w : World) (base : Nat) (v : Value) (bs : List Bool) : Prop := w.ownsRow base 4 1 v (bs.map Value.bool).length (bs.map Value.bool)
/-- What a state's making writes. -/
def XS (p : Pl) (va vy : Value) : Nat → Prop := fun k => k = p.B ∨ k = p.M ∨ k = p.bA ∨ k = p.D ∨ va.ownBlock = some k ∨ vy.ownBlock = some k
/-- .. and the blocks of other rows. -/
def XD (p : Pl) (va vy : Value) (os : List (Option Nat)) : Nat → Prop := fun k => XS p va vy k ∨ some k ∈ os
/-- HOW THE STATES LIE while they are made: the map's, the row's, the answers'. -/
structure StG (w : World) (p : Pl) (ms all : List Re) (ys : List Bool) (left used : Nat) (f : Nat → Nat) (vh vn : Value) (os : List (Option Nat)) (va vy : Value) (bs : List Nat) : Prop where
  hbM : w.heap[p.bM]? = some (.cells #[.map (some p.M)] 172 (0, 0))
  hM : MapAt w p.M ms
  hbB : w.heap[p.bB]? = some (.cells #[ptr p.B] 34 (0, 0))
  hB : BudAt w p.B left used
  hbA : w.heap[p.bA]? = some (.cells #[va] 69 (0, 0))
  hA : OwnP w p.base va bs
  hels : Els w (XD p va vy os) all bs
  hbD : w.heap[p.bD]? = some (.cells #[ptr p.D] 104 (0, 0))
  hD : w.heap[p.D]? = some (.cells (dfaA f vh vn vy) 171 (0, 0))
  hY : OwnB w p.base vy ys
  o1 : p.B < p.bB
  o2 : p.bB < p.D
  o3 : p.D < p.bD
  o4 : p.bD < p.M
  o5 : p.M < p.bM
  o6 : p.bM < p.bA
  o7 : p.bA < p.base
  o8 : p.base ≤ w.heap.size
  ne : ∀ k, va.ownBlock = some k → vy.ownBlock ≠ some k
  oth : ∀ k, some k ∈ os → p.base ≤ k ∧ k < w.heap.size ∧ va.ownBlock ≠ some k ∧ vy.ownBlock ≠ some k
abbrev StAt (w : World) (p : Pl) (all : List Re) (left used : Nat) (f : Nat → Nat) (vh vn : Value) (os : List (Option Nat)) (va vy : Value) (bs : List Nat) : Prop := StG w p all all (all.map Re.null) left used f vh vn os va vy bs
theorem row_blk {w w' : World} {base : Nat} {e : TypeId} {v : Value} {n : Nat} {xs : List Value} (h : w.ownsRow base e 1 v n xs) (hb : ∀ k, v.ownBlock = some k → w'.heap[k]? = w.heap[k]?) : w'.ownsRow base e 1 v n xs := by
  refine ⟨h.1, ?_⟩
  rcases h.2 with hn | ⟨g, cap, cur, rfl, h1, h2, rest⟩
  · exact .inl hn
  · exact .inr ⟨g, cap, cur, rfl, h1, (hb g rfl).trans h2, rest⟩
section
variable {w w' : World} {p : Pl} {ms all : List Re} {ys : List Bool} {left used : Nat} {f : Nat → Nat} {vh vn : Value} {os : List (Option Nat)} {va vy : Value} {bs : List Nat}
theorem StG.rowA (h : StG w p ms all ys left used f vh vn os va vy bs) : ∀ k, va.ownBlock = some k → p.base ≤ k ∧ k < w.heap.size := World.ownsRow.lt h.hA
theorem StG.rowY (h : StG w p ms all ys left used f vh vn os va vy bs) : ∀ k, vy.ownBlock = some k → p.base ≤ k ∧ k < w.heap.size := World.ownsRow.lt h.hY
theorem KeepX.at_ {Y : Nat → Prop} (hk : KeepX Y w w') {k : Nat} {o : Obj} (h : w.heap[k]? = some o) (hy : ¬ Y k) : w'.heap[k]? = some o := (hk.blk k (lt_of_heap h) hy).trans h
theorem MapAt.lt {M : Nat} (h : MapAt w M ms) : M < w.heap.size := by
  obtain ⟨D, ⟨es, clock, h1, -⟩, -⟩ := h
  exact lt_of_heap h1
/-- Nothing of it is written. -/
theorem StG.below (h : StG w p ms all ys left used f vh vn os va vy bs) (hb : Below w.heap.size w w') : StG w' p ms all ys left used f vh vn os va vy bs where
  hbM := blk_below h.hbM hb
  hM := h.hM.kept (hb.block _ h.hM.lt)
  hbB := blk_below h.hbB hb
  hB := blk_below h.hB hb
  hbA := blk_below h.hbA hb
  hA := row_blk h.hA fun k e => hb.block k (h.rowA k e).2
  hels := h.hels.below hb
  hbD := blk_below h.hbD hb
  hD := blk_below h.hD hb
  hY := row_blk h.hY fun k e => hb.block k (h.rowY k e).2
  o1 := h.o1
  o2 := h.o2
  o3 := h.o3
  o4 := h.o4
  o5 := h.o5
  o6 := h.o6
  o7 := h.o7
  o8 := Nat.le_trans h.o8 hb.size
  ne := h.ne
  oth k e := ⟨(h.oth k e).1, Nat.lt_of_lt_of_le (h.oth k e).2.1 hb.size, (h.oth k e).2.2⟩
/-- The budget is written. -/
theorem StG.bud {left' used' : Nat} (h : StG w p ms all ys left used f vh vn os va vy bs) (hk : KeepX (fun k => k = p.B) w w') (hB : BudAt w' p.B left' used') : StG w' p ms all ys left' used' f vh vn os va vy bs :=
  have o1 := h.o1; have o2 := h.o2; have o3 := h.o3; have o4 := h.o4; have o5 := h.o5; have o6 := h.o6; have o7 := h.o7
  { hbM := hk.at_ h.hbM (by omega), hM := h.hM.kept (hk.blk _ h.hM.lt (by omega)), hbB := hk.at_ h.hbB (by omega), hB := hB, hbA := hk.at_ h.hbA (by omega)
    hA := row_blk h.hA fun k e => hk.blk k (h.rowA k e).2 (by have := (h.rowA k e).1; omega)
    hels := h.hels.keep hk.keeps fun k e => .inl (.inl e)
    hbD := hk.at_ h.hbD (by omega), hD := hk.at_ h.hD (by omega)
    hY := row_blk h.hY fun k e => hk.blk k (h.rowY k e).2 (by have := (h.rowY k e).1; omega)
    o1 := o1, o2 := o2, o3 := o3, o4 := o4, o5 := o5, o6 := o6, o7 := o7, o8 := Nat.le_trans h.o8 hk.size, ne := h.ne
    oth := fun k e => ⟨(h.oth k e).1, Nat.lt_of_lt_of_le (h.oth k e).2.1 hk.size, (h.oth k e).2.2⟩ }
/-- The map is written. -/
theorem StG.map {ms' : List Re} (h : StG w p ms all ys left used f vh vn os va vy bs) (hk : KeepX (fun k => k = p.M) w w') (hM : MapAt w' p.M ms') : StG w' p ms' all ys left used f vh vn os va vy bs :=
  have o1 := h.o1; have o2 := h.o2; have o3 := h.o3; have o4 := h.o4; have o5 := h.o5; have o6 := h.o6; have o7 := h.o7
  { hbM := hk.at_ h.hbM (by omega), hM := hM, hbB := hk.at_ h.hbB (by omega), hB := hk.at_ h.hB (by omega), hbA := hk.at_ h.hbA (by omega)
    hA := row_blk h.hA fun k e => hk.blk k (h.rowA k e).2 (by have := (h.rowA k e).1; omega)
    hels := h.hels.keep hk.keeps fun k e => .inl (.inr (.inl e))
    hbD := hk.at_ h.hbD (by omega), hD := hk.at_ h.hD (by omega)
    hY := row_blk h.hY fun k e => hk.blk k (h.rowY k e).2 (by have := (h.rowY k e).1; omega)
    o1 := o1, o2 := o2, o3 := o3, o4 := o4, o5 := o5, o6 := o6, o7 := o7, o8 := Nat.le_trans h.o8 hk.size, ne := h.ne
    oth := fun k e => ⟨(h.oth k e).1, Nat.lt_of_lt_of_le (h.oth k e).2.1 hk.size, (h.oth k e).2.2⟩ }
/-- The row of expressions grows. -/
theorem StG.app {va' : Value} {x : Re} {bx : Nat} (h : StG w p ms all ys left used f vh vn os va vy bs) (hk : KeepX (fun k => k = p.bA ∨ va.ownBlock = some k) w w') (hA : OwnP w' p.base va' (bs ++ [bx]))
    (hat : va'.ownBlock = va.ownBlock ∨ va'.ownBlock = some w.heap.size) (hc : w'.heap[p.bA]? = some (.cells #[va'] 69 (0, 0))) (hx : ReAt w (XD p va vy os) x bx) : StG w' p ms (all ++ [x]) ys left used f vh vn os va' vy (bs ++ [bx]) :=
  have o1 := h.o1; have o2 := h.o2; have o3 := h.o3; have o4 := h.o4; have o5 := h.o5; have o6 := h.o6; have o7 := h.o7
  have hno : ∀ k, k < p.base → k ≠ p.bA → ¬ (k = p.bA ∨ va.ownBlock = some k) := fun k h1 h2 h3 => by
    rcases h3 with h3 | h3
    · exact h2 h3
    · have := (h.rowA k h3).1; omega
  have hnw : ∀ k, k < w.heap.size → va'.ownBlock = some k → va.ownBlock = some k := fun k h1 h2 => by
    rcases hat with e | e
    · rw [← e]; exact h2
    · rw [e] at h2; cases h2; omega
  { hbM := hk.at_ h.hbM (hno _ (by omega) (by omega)), hM := h.hM.kept (hk.blk _ h.hM.lt (hno _ (by omega) (by omega))), hbB := hk.at_ h.hbB (hno _ (by omega) (by omega)), hB := hk.at_ h.hB (hno _ (by omega) (by omega)), hbA := hc, hA := hA
    hels := (((h.hels.append (Els.one hx)).also (Y := fun k => XD p va vy os k ∨ w.heap.size ≤ k) fun k e hlt => e.resolve_right (by omega)).keep hk.keeps fun k e => .inl (.inl (by
      rcases e with e | e
      · exact .inr (.inr (.inl e))
      · exact .inr (.inr (.inr (.inr (.inl e))))))).also fun k e _ => by
        rcases e with (e | e | e | e | e | e) | e
        · exact .inl (.inl (.inl e))
        · exact .inl (.inl (.inr (.inl e)))
        · exact .inl (.inl (.inr (.inr (.inl e))))
        · exact .inl (.inl (.inr (.inr (.inr (.inl e)))))
        · rcases hat with e' | e'
          · exact .inl (.inl (.inr (.inr (.inr (.inr (.inl (e' ▸ e)))))))
          · rw [e'] at e; cases e; exact .inr (Nat.le_refl _)
        · exact .inl (.inl (.inr (.inr (.inr (.inr (.inr e))))))
        · exact .inl (.inr e)
    hbD := hk.at_ h.hbD (hno _ (by omega) (by omega)), hD := hk.at_ h.hD (hno _ (by omega) (by omega))
    hY := row_blk h.hY fun k e => hk.blk k (h.rowY k e).2 (fun h3 => by
      rcases h3 with h3 | h3
      · have := (h.rowY k e).1; omega
      · exact h.ne k h3 e)
    o1 := o1, o2 := o2, o3 := o3, o4 := o4, o5 := o5, o6 := o6, o7 := o7, o8 := Nat.le_trans h.o8 hk.size
    ne := fun k e1 e2 => h.ne k (hnw k (h.rowY k e2).2 e1) e2
    oth := fun k e => ⟨(h.oth k e).1, Nat.lt_of_lt_of_le (h.oth k e).2.1 hk.size, fun e1 => (h.oth k e).2.2.1 (hnw k (h.oth k e).2.1 e1), (h.oth k e).2.2.2⟩ }
/-- The row of answers grows. -/
theorem StG.yes {vy' : Value} {y : Bool} (h : StG w p ms all ys left used f vh vn os va vy bs) (hk : KeepX (fun k => k = p.D ∨ vy.ownBlock = some k) w w') (hY : OwnB w' p.base vy' (ys ++ [y]))
    (hat : vy'.ownBlock = vy.ownBlock ∨ vy'.ownBlock = some w.heap.size) (hc : w'.heap[p.D]? = some (.cells (dfaA f vh vn vy') 171 (0, 0))) : StG w' p ms all (ys ++ [y]) left used f vh vn os va vy' bs :=
  have o1 := h.o1; have o2 := h.o2; have o3 := h.o3; have o4 := h.o4; have o5 := h.o5; have o6 := h.o6; have o7 := h.o7
  have hno : ∀ k, k < p.base → k ≠ p.D → ¬ (k = p.D ∨ vy.ownBlock = some k) := fun k h1 h2 h3 => by
    rcases h3 with h3 | h3
    · exact h2 h3
    · have := (h.rowY k h3).1; omega
  have hnw : ∀ k, k < w.heap.size → vy'.ownBlock = some k → vy.ownBlock = some k := fun k h1 h2 => by
    rcases hat with e | e
    · rw [← e]; exact h2
    · rw [e] at h2; cases h2; omega
  { hbM := hk.at_ h.hbM (hno _ (by omega) (by omega)), hM := h.hM.kept (hk.blk _ h.hM.lt (hno _ (by omega) (by omega))), hbB := hk.at_ h.hbB (hno _ (by omega) (by omega)), hB := hk.at_ h.hB (hno _ (by omega) (by omega)), hbA := hk.at_ h.hbA (hno _ (by omega) (by omega))
    hA := row_blk h.hA fun k e => hk.blk k (h.rowA k e).2 (fun h3 => by
      rcases h3 with h3 | h3
      · have := (h.rowA k e).1; omega
      · exact h.ne k e h3)
    hels := ((h.hels.also (Y := fun k => XD p va vy os k ∨ w.heap.size ≤ k) fun k e hlt => e.resolve_right (by omega)).keep hk.keeps fun k e => .inl (.inl (by
      rcases e with e | e
      · exact .inr (.inr (.inr (.inl e)))
      · exact .inr (.inr (.inr (.inr (.inr e))))))).also fun k e _ => by
        rcases e with (e | e | e | e | e | e) | e
        · exact .inl (.inl (.inl e))
        · exact .inl (.inl (.inr (.inl e)))
        · exact .inl (.inl (.inr (.inr (.inl e))))
        · exact .inl (.inl (.inr (.inr (.inr (.inl e)))))
        · exact .inl (.inl (.inr (.inr (.inr (.inr (.inl e))))))
        · rcases hat with e' | e'
          · exact .inl (.inl (.inr (.inr (.inr (.inr (.inr (e' ▸ e)))))))
          · rw [e'] at e; cases e; exact .inr (Nat.le_refl _)
        · exact .inl (.inr e)
    hbD := hk.at_ h.hbD (hno _ (by omega) (by omega)), hD := hc, hY := hY
    o1 := o1, o2 := o2, o3 := o3, o4 := o4, o5 := o5, o6 := o6, o7 := o7, o8 := Nat.le_trans h.o8 hk.size
    ne := fun k e1 e2 => h.ne k e1 (hnw k (h.rowA k e1).2 e2)
    oth := fun k e => ⟨(h.oth k e).1, Nat.lt_of_lt_of_le (h.oth k e).2.1 hk.size, (h.oth k e).2.2.1, fun e1 => (h.oth k e).2.2.2 (hnw k (h.oth k e).2.1 e1)⟩ }
end
end Go.Proofs.YtfpfloahkibcgaaGreatDoor
