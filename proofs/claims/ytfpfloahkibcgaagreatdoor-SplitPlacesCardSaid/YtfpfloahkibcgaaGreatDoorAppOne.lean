/- append of one new element of one cell to the call's own row: at whatever type. And a map from keys to places. -/
import Derived.Test.YtfpfloahkibcgaaGreatDoorIndexW
import Derived.Maps.OwnSet
namespace Go.Proofs.YtfpfloahkibcgaaGreatDoor
open Go.RowKit Go.Maps

/-- A slice type and its element's, of one cell. -/
structure OneCell (T e : TypeId) (z : Value) (bytes : Nat) : Prop where
  und : Tryz.prog.underlying T = some (.slice e)
  info : (Tryz.prog.info? e).map (fun i => (i.zero, i.size, i.bytes)) = some (some z, 1, bytes)
  small : bytes ≤ 24
  cell : z.cells.size = 1
theorem cell_adds {w : World} {g : Nat} {u : Value} (hcell : w.cell? ⟨g, 0, none⟩ = some u) : ∀ (j : Nat) (u' : Value), [u][j]? = some u' → w.cell? ((⟨g, 0, none⟩ : Addr).add j) = some u' := by
  intro j u' hj
  match j, hj with
  | 0, hj => simp at hj; subst hj; simpa [Addr.add] using hcell
theorem step_app_one {T e : TypeId} {z : Value} {bytes : Nat} (hT : OneCell T e z bytes) {ops : Array Oper} {o : Oper} {a : Act} {K : Act → World → Prop} {Q : Exit → Act → World → Prop} {E : Prop} (w : World) (hgd : o.guard = none) (s x : Operand)
    (ho : o.op = .call { callee := .builtin .append, args := #[s, x], argTypes := #[T, T] })
    (base : Nat) (v : Value) (xs : List Value) (hs : a.eval s = v) (hown : w.ownsRow base e 1 v xs.length xs)
    (g c : Nat) (u : Value) (hx : a.eval x = .slice (some ⟨g, 0, none⟩) 1 c) (hcell : w.cell? ⟨g, 0, none⟩ = some u) (hu : u.oneCell' = true)
    (hn : xs.length ≤ 1099511627776) (hbase : base ≤ w.heap.size)
    (h : ∀ v' w', w'.ownsRow base e 1 v' (xs ++ [u]).length (xs ++ [u]) → w.grownBy w' v.ownBlock → (v'.ownBlock = v.ownBlock ∨ v'.ownBlock = some w.heap.size) → K (a.put o.dst v') w') :
    if Region.wanted o (yielded ops a.tmps) = true then Oper.wp Tryz.prog o a w K Q else E := by
  have hw : Region.wanted o (yielded ops a.tmps) = true := by simp [Region.wanted, hgd]
  rw [if_pos hw]
  obtain ⟨i0, hi, hz0, hz1, hz2⟩ := info_parts hT.info
  have hsm := hT.small
  obtain ⟨v', w', hrn, h1, h2, h3, h4⟩ := run_append_own_at (P := Tryz.prog) w base T o.type e i0 z 1 bytes hT.und hi hz0 hz1 hz2 hT.cell (by decide) v _ _ hown ⟨g, 0, none⟩ 1 c [u] rfl (cell_adds hcell) (by intro u' hu'; rw [List.mem_singleton.1 hu']; exact hu) (by unfold maxLen; omega)
    (by have := Nat.mul_le_mul (show xs.length + 1 ≤ 1099511627777 by omega) hsm; omega) hbase
  unfold Oper.wp execOp
  simp only [ho, resolve, invoke, builtin, Sem.run_bind, Sem.run_pure, Result.andThen_ok, List.map_toArray, List.map_cons, List.map_nil, hs, hx, hrn]
  exact h v' w' (by simpa using h1) h2 h4
theorem wpList_app_one {T e : TypeId} {z : Value} {bytes : Nat} (hT : OneCell T e z bytes) {ops : Array Oper} {rest : List Oper} {o : Oper} {a : Act} {Q : Exit → Act → World → Prop} (w : World) (hgd : o.guard = none) (s x : Operand)
    (ho : o.op = .call { callee := .builtin .append, args := #[s, x], argTypes := #[T, T] })
    (base : Nat) (v : Value) (xs : List Value) (hs : a.eval s = v) (hown : w.ownsRow base e 1 v xs.length xs)
    (g c : Nat) (u : Value) (hx : a.eval x = .slice (some ⟨g, 0, none⟩) 1 c) (hcell : w.cell? ⟨g, 0, none⟩ = some u) (hu : u.oneCell' = true)
    (hn : xs.length ≤ 1099511627776) (hbase : base ≤ w.heap.size)
    (h : ∀ v' w', w'.ownsRow base e 1 v' (xs ++ [u]).length (xs ++ [u]) → w.grownBy w' v.ownBlock → (v'.ownBlock = v.ownBlock ∨ v'.ownBlock = some w.heap.size) → wpList Tryz.prog ops Q rest (a.put o.dst v') w') :
    wpList Tryz.prog ops Q (o :: rest) a w := by
  obtain ⟨i0, hi, hz0, hz1, hz2⟩ := info_parts hT.info
  have hsm := hT.small
  refine wpList_append_own_at w hgd s x T ho base e i0 z 1 bytes hT.und hi hz0 hz1 hz2 hT.cell (by decide) v _ _ hs hown ⟨g, 0, none⟩ 1 c [u] hx rfl (cell_adds hcell) (by intro u' hu'; rw [List.mem_singleton.1 hu']; exact hu) (by unfold maxLen; omega)
    (by have := Nat.mul_le_mul (show xs.length + 1 ≤ 1099511627777 by omega) hsm; omega) hbase ?_
  intro v' w' h1 h2 _ h4
  exact h v' w' (by simpa using h1) h2 h4
theorem one_bool : OneCell 55 4 (.bool false) 1 := ⟨Tryz.underlying55, by kernel_rfl, by decide, rfl⟩
theorem one_u8 : OneCell 89 5 (.int .u8 0) 1 := ⟨Tryz.underlying89, by kernel_rfl, by decide, rfl⟩
theorem one_row : OneCell 54 25 (.slice none 0 0) 24 := ⟨Tryz.underlying54, by kernel_rfl, by decide, rfl⟩

/-- An expression's key as a map's key. -/
abbrev kl (x : Re) : Lit := .string x.key
theorem key_of (x : Re) (h : x.size ≤ 549755813888) : keyOf Tryz.prog 9 (.string ⟨x.key.toArray⟩) = some (kl x) := by
  have hl := Re.key_len x
  exact WideMaps.keyOf_string_mk Tryz.underlying9 (s := ⟨x.key.toArray⟩) (by unfold maxLen; simp only [ByteArray.size, List.size_toArray]; omega)
/-- THE MAP OF KNOWN EXPRESSIONS: of each its place. -/
def MapAt (w : World) (M : Nat) (all : List Re) : Prop := ∃ D : DataW Unit, w.ownsMap Tryz.prog 9 (plainElem Tryz.prog 3) M all.length D ∧ (∀ x : Re, Maps.has D (kl x) = all.any fun y => y.key == x.key) ∧
  ∀ (i : Nat) (x : Re), all[i]? = some x → D.atKey (kl x) (.lit (.int .i64 0)) = .lit (.int .i64 i)
theorem MapAt.made (w : World) : MapAt (w.alloc (.map #[] 0)) w.heap.size [] := ⟨.map [], World.ownsMap_made w _ _ _, fun _ => rfl, fun i x h => by simp at h⟩
theorem MapAt.kept {w w' : World} {M : Nat} {all : List Re} (h : MapAt w M all) (hb : w'.heap[M]? = w.heap[M]?) : MapAt w' M all := by
  obtain ⟨D, ⟨es, clock, h1, h2⟩, h3⟩ := h
  exact ⟨D, ⟨es, clock, hb.trans h1, h2⟩, h3⟩
theorem MapAt.put {w w' : World} {M : Nat} {all : List Re} {D : DataW Unit} (hD : w.ownsMap Tryz.prog 9 (plainElem Tryz.prog 3) M all.length D) (h1 : ∀ x : Re, Maps.has D (kl x) = all.any fun y => y.key == x.key)
    (h2 : ∀ (i : Nat) (x : Re), all[i]? = some x → D.atKey (kl x) (.lit (.int .i64 0)) = .lit (.int .i64 i)) {x : Re} (hx : (all.any fun y => y.key == x.key) = false)
    (hw : w'.ownsMap Tryz.prog 9 (plainElem Tryz.prog 3) M (all.length + 1) (D.put (kl x) (.lit (.int .i64 all.length)))) : MapAt w' M (all ++ [x]) := by
  have hm := hD.isMap
  have hkey : WideAt.IsKeyLit (kl x) := by simp [WideAt.IsKeyLit]
  refine ⟨_, by simpa using hw, fun z => ?_, fun i z hz => ?_⟩
  · rw [List.any_append]
    by_cases hk : x.key = z.key
    · have e : kl z = kl x := by unfold kl; rw [hk]
      rw [e, has_put_same hm hkey]
      simp [hk]
    · rw [has_put_other (fun e => hk (Lit.string.inj e).symm), h1]
      simp [hk]
  · by_cases hi : i < all.length
    · rw [List.getElem?_append_left hi] at hz
      have hne : kl z ≠ kl x := fun e => by
        have hk : z.key = x.key := Lit.string.inj e
        rw [List.any_eq_false] at hx
        exact hx z (List.mem_of_getElem? hz) (by simp [hk])
      rw [atKey_put_other hne, h2 i z hz]
    · rw [List.getElem?_append_right (by omega)] at hz
      have hi0 : i - all.length = 0 := by
        have := (List.getElem?_eq_some_iff.1 hz).1
        simp at this
        omega
      rw [hi0] at hz
      have e : z = x := by simpa using hz.symm
      subst e
      rw [atKey_put_same hm hkey]
      have : i = all.length := by omega
      rw [this]
end Go.Proofs.YtfpfloahkibcgaaGreatDoor
