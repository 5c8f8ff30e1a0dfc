/- What stays as it is where only some blocks are written. -/
import Derived.Test.YtaplejpjmaocdaaGreatDoorPkU
namespace Go.Proofs.YtaplejpjmaocdaaGreatDoor
open Go.RowKit Go.Maps

/-- P holds, and goes on to hold where none but the blocks of os are written. -/
def Stb (w : World) (os : List (Option Nat)) (P : World → Prop) : Prop := ∀ w', KeepX (fun k => some k ∈ os) w w' → P w'
section
variable {w w' : World} {os os' : List (Option Nat)} {P Q : World → Prop}
theorem Stb.now (h : Stb w os P) : P w := h w (KeepX.refl _ _)
theorem Stb.keep (h : Stb w os P) (hk : KeepX (fun k => some k ∈ os) w w') : Stb w' os P := fun _ h' => h _ (hk.trans h' fun _ _ e => e)
/-- The written blocks may become other ones, where these are new. -/
theorem Stb.move (h : Stb w os P) (hk : KeepX (fun k => some k ∈ os) w w') (hos : ∀ k, some k ∈ os' → some k ∈ os ∨ w.heap.size ≤ k) : Stb w' os' P :=
  fun _ h' => h _ (hk.trans h' fun j hj e => (hos j e).resolve_right (by omega))
theorem Stb.below (h : Stb w os P) (hb : Below w.heap.size w w') : Stb w' os P := h.keep (KeepX.of_below hb)
theorem Stb.mono (h : Stb w os P) (hpq : ∀ w, P w → Q w) : Stb w os Q := fun w' hk => hpq w' (h w' hk)
theorem Stb.and (h : Stb w os P) (h' : Stb w os Q) : Stb w os fun w => P w ∧ Q w := fun w' hk => ⟨h w' hk, h' w' hk⟩
theorem Stb.all {α : Sort _} {P : α → World → Prop} (h : ∀ a, Stb w os (P a)) : Stb w os fun w => ∀ a, P a w := fun w' hk a => h a w' hk
theorem Stb.imp {C : Prop} (h : C → Stb w os P) : Stb w os fun w => C → P w := fun w' hk c => h c w' hk
theorem Stb.sub (h : Stb w os P) (hos : ∀ k, some k ∈ os' → some k ∈ os ∨ w.heap.size ≤ k) : Stb w os' P := h.move (KeepX.refl _ _) hos
/-- What lies below those blocks. -/
theorem Stb.of_below {B : Nat} (h : ∀ w', Below B w w' → P w') (hB : B ≤ w.heap.size) (hos : ∀ k, some k ∈ os → B ≤ k) : Stb w os P := fun w' hk => h w' (hk.below hB fun k hk e => by have := hos k e; omega)
end
/-- A slice that a call made, once it isn't written any more. -/
theorem Stb.own {w : World} {os : List (Option Nat)} {base : Nat} {e : TypeId} {v : Value} {xs : List Value} (h : w.ownsRow base e 1 v xs.length xs) (hv : ∀ k, v.ownBlock = some k → some k ∉ os) : Stb w os fun w => RdV w v xs := fun _ hk =>
  rdV_of (row_blk h fun k e => hk.blk k (World.ownsRow.lt h k e).2 (hv k e))
theorem Stb.ownC {w : World} {os : List (Option Nat)} {base : Nat} {v : Value} {xs : List CSet} (h : OwnC w base v xs) (hv : ∀ k, v.ownBlock = some k → some k ∉ os) : Stb w os fun w => ∃ A c, v = .slice A xs.length c ∧ RdC w A xs.length xs ∧ CapOk xs.length A c := fun w' hk => by
  have h' : OwnC w' base v xs := by
    unfold OwnC at h ⊢
    refine ⟨h.1, ?_⟩
    rcases h.2 with hn | ⟨g, cap, cur, rfl, h1, h2, rest⟩
    · exact .inl hn
    · exact .inr ⟨g, cap, cur, rfl, h1, (hk.blk g (lt_of_heap h2) (hv g rfl)).trans h2, rest⟩
  obtain ⟨A, c, rfl⟩ := h'.form
  obtain ⟨-, h2, h3⟩ := h'.rd
  exact ⟨A, c, rfl, h3, h2⟩
/-- Sets to be read through a slice. -/
def RdS (w : World) (v : Value) (xs : List CSet) : Prop := ∃ A c, v = .slice A xs.length c ∧ RdC w A xs.length xs ∧ CapOk xs.length A c
theorem RdS.below {w w' : World} {v : Value} {xs : List CSet} (h : RdS w v xs) (hb : Below w.heap.size w w') : RdS w' v xs := by
  obtain ⟨A, c, e, hr, hc⟩ := h
  exact ⟨A, c, e, hr.below hb, hc⟩
/-- Rows of numbers to be read through a slice of slices. -/
def RdR (w : World) (v : Value) (rows : List (List Int)) : Prop := ∃ vs : List Value, RdV w v vs ∧ vs.length = rows.length ∧ ∀ (i : Nat) (u : Value) (r : List Int), vs[i]? = some u → rows[i]? = some r → RdV w u (r.map (Value.int .i64))
theorem RdR.below {w w' : World} {v : Value} {rows : List (List Int)} (h : RdR w v rows) (hb : Below w.heap.size w w') : RdR w' v rows := by
  obtain ⟨vs, h1, h2, h3⟩ := h
  exact ⟨vs, h1.below hb, h2, fun i u r e1 e2 => (h3 i u r e1 e2).below hb⟩
end Go.Proofs.YtaplejpjmaocdaaGreatDoor
