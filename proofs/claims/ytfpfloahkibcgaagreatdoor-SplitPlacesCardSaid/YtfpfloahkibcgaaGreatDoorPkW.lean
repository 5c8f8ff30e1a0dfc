/- PkW: Stb, BackP, FuelW, BackW, SplitW, TailsW, PlacesW, each with its own sentence. -/
import Derived.Test.YtfpfloahkibcgaaGreatDoorPkU
import Derived.Test.YtfpfloahkibcgaaGreatDoorDer
import Derived.Test.YtfpfloahkibcgaaGreatDoorByW
import Derived.BigRegion
import Derived.Test.YtfpfloahkibcgaaGreatDoorBuildW2
import Derived.Deep.RegionHeld3
/- What stays as it is where only some blocks are written. -/
namespace Go.Proofs.YtfpfloahkibcgaaGreatDoor
open Go.RowKit Go.Maps

/-- P holds, and goes on to hold where none but the blocks of os are written. -/
def Stb (w : World) (os : List (Option Nat)) (P : World → Prop) : Prop := ∀ w', KeepX (fun k => some k ∈ os) w w' → P w'
section
variable {w w' : World} {os os' : List (Option Nat)} {P Q : World → Prop}
theorem Stb.now (h : Stb w os P) : P w := h w (KeepX.refl _ _)
theorem Stb.keep (h : Stb w os P) (hk : KeepX (fun k => some k ∈ os) w w') : Stb w' os P := fun _ h' => h _ (hk.trans h' fun _ _ e => e)
/-- The written blocks may become other ones, where these are new. -/
theorem Stb.move (h : Stb w os P) (hk : KeepX (fun k => some k ∈ os) w w') (hos : ∀ k, some k ∈ os' → some k ∈ os ∨ w.heap.size ≤ k) : Stb w' os' P :=
  fun _ h' => h _ (hk.trans h' fun j hj e => (hos j e).resolve_right (by omega))
theorem Stb.below (h : Stb w os P) (hb : Below w.heap.size w w') : Stb w' os P := h.keep (KeepX.of_below hb)
theorem Stb.mono (h : Stb w os P) (hpq : ∀ w, P w → Q w) : Stb w os Q := fun w' hk => hpq w' (h w' hk)
theorem Stb.and (h : Stb w os P) (h' : Stb w os Q) : Stb w os fun w => P w ∧ Q w := fun w' hk => ⟨h w' hk, h' w' hk⟩
theorem Stb.all {α : Sort _} {P : α → World → Prop} (h : ∀ a, Stb w os (P a)) : Stb w os fun w => ∀ a, P a w := fun w' hk a => h a w' hk
theorem Stb.imp {C : Prop} (h : C → Stb w os P) : Stb w os fun w => C → P w := fun w' hk c => h c w' hk
theorem Stb.sub (h : Stb w os P) (hos : ∀ k, some k ∈ os' → some k ∈ os ∨ w.heap.size ≤ k) : Stb w os' P := h.move (KeepX.refl _ _) hos
/-- What lies below those blocks. -/
theorem Stb.of_below {B : Nat} (h : ∀ w', Below B w w' → P w') (hB : B ≤ w.heap.size) (hos : ∀ k, some k ∈ os → B ≤ k) : Stb w os P := fun w' hk => h w' (hk.below hB fun k hk e => by have := hos k e; omega)
end
/-- A slice that a call made, once it isn't written any more. -/
theorem Stb.own {w : World} {os : List (Option Nat)} {base : Nat} {e : TypeId} {v : Value} {xs : List Value} (h : w.ownsRow base e 1 v xs.length xs) (hv : ∀ k, v.ownBlock = some k → some k ∉ os) : Stb w os fun w => RdV w v xs := fun _ hk =>
  rdV_of (row_blk h fun k e => hk.blk k (World.ownsRow.lt h k e).2 (hv k e))
theorem Stb.ownC {w : World} {os : List (Option Nat)} {base : Nat} {v : Value} {xs : List CSet} (h : OwnC w base v xs) (hv : ∀ k, v.ownBlock = some k → some k ∉ os) : Stb w os fun w => ∃ A c, v = .slice A xs.length c ∧ RdC w A xs.length xs ∧ CapOk xs.length A c := fun w' hk => by
  have h' : OwnC w' base v xs := by
    unfold OwnC at h ⊢
    refine ⟨h.1, ?_⟩
    rcases h.2 with hn | ⟨g, cap, cur, rfl, h1, h2, rest⟩
    · exact .inl hn
    · exact .inr ⟨g, cap, cur, rfl, h1, (hk.blk g (lt_of_heap h2) (hv g rfl)).trans h2, rest⟩
  obtain ⟨A, c, rfl⟩ := h'.form
  obtain ⟨-, h2, h3⟩ := h'.rd
  exact ⟨A, c, rfl, h3, h2⟩
/-- Sets to be read through a slice. -/
def RdS (w : World) (v : Value) (xs : List CSet) : Prop := ∃ A c, v = .slice A xs.length c ∧ RdC w A xs.length xs ∧ CapOk xs.length A c
theorem RdS.below {w w' : World} {v : Value} {xs : List CSet} (h : RdS w v xs) (hb : Below w.heap.size w w') : RdS w' v xs := by
  obtain ⟨A, c, e, hr, hc⟩ := h
  exact ⟨A, c, e, hr.below hb, hc⟩
/-- Rows of numbers to be read through a slice of slices. -/
def RdR (w : World) (v : Value) (rows : List (List Int)) : Prop := ∃ vs : List Value, RdV w v vs ∧ vs.length = rows.length ∧ ∀ (i : Nat) (u : Value) (r : List Int), vs[i]? = some u → rows[i]? = some r → RdV w u (r.map (Value.int .i64))
theorem RdR.below {w w' : World} {v : Value} {rows : List (List Int)} (h : RdR w v rows) (hb : Below w.heap.size w w') : RdR w' v rows := by
  obtain ⟨vs, h1, h2, h3⟩ := h
  exact ⟨vs, h1.below hb, h2, fun i u r e1 e2 => (h3 i u r e1 e2).below hb⟩
end Go.Proofs.YtfpfloahkibcgaaGreatDoor

/- Plain: an expression read from the end. -/
namespace Go.Proofs.YtfpfloahkibcgaaGreatDoor

mutual
/-- (*Re).Back. -/
def backR : Re → Re
  | .cat l => thenL (backs l).reverse
  | .or l => anyL (backs l)
  | .and l => bothL (backs l)
  | .star x => manyR (backR x)
  | .minus x y => butR (backR x) (backR y)
  | .cls s => .cls s
  | .none => .none
  | .eps => .eps
def backs : List Re → List Re
  | [] => []
  | r :: l => backR r :: backs l
end
theorem backs_eq (l : List Re) : backs l = l.map backR := by
  induction l with
  | nil => rfl
  | cons r l ih => rw [backs, ih]; rfl
theorem backR_cat (l : List Re) : backR (.cat l) = thenL (l.map backR).reverse := by rw [backR, backs_eq]
theorem backR_or (l : List Re) : backR (.or l) = anyL (l.map backR) := by rw [backR, backs_eq]
theorem backR_and (l : List Re) : backR (.and l) = bothL (l.map backR) := by rw [backR, backs_eq]
theorem backR_star (x : Re) : backR (.star x) = manyR (backR x) := by rw [backR]
theorem backR_minus (x y : Re) : backR (.minus x y) = butR (backR x) (backR y) := by rw [backR]
theorem backR_cls (s : CSet) : backR (.cls s) = .cls s := by rw [backR]
theorem backR_none : backR .none = .none := by rw [backR]
theorem backR_eps : backR .eps = .eps := by rw [backR]
theorem manyR_size' (r : Re) : (manyR r).size ≤ 1 + r.size := by
  unfold manyR
  have := Re.size_pos r
  split
  · simp only [Re.size]; omega
  · split
    · omega
    · simp only [Re.size]; omega
theorem sizes_reverse (l : List Re) : Re.sizes l.reverse = Re.sizes l := by
  have h : ∀ a b : List Re, Re.sizes (a ++ b) = Re.sizes a + Re.sizes b := fun a b => by
    induction a with
    | nil => simp [Re.sizes]
    | cons x a ih => simp only [List.cons_append, Re.sizes, ih]; omega
  induction l with
  | nil => rfl
  | cons x l ih => rw [List.reverse_cons, h, ih]; simp only [Re.sizes]; omega
theorem sizes_map_le (l : List Re) (f : Re → Re) (h : ∀ k ∈ l, (f k).size ≤ 2 * k.size) : Re.sizes (l.map f) ≤ 2 * Re.sizes l := by
  induction l with
  | nil => exact Nat.le_refl _
  | cons x l ih =>
    simp only [List.map_cons, Re.sizes]
    have := h x (List.mem_cons_self ..)
    have := ih fun k hk => h k (List.mem_cons_of_mem _ hk)
    omega
theorem backR_size (r : Re) : (backR r).size ≤ 2 * r.size := by
  induction r using Re.indBy with
  | h r ih =>
    have hk : ∀ k ∈ r.kids, (backR k).size ≤ 2 * k.size := fun k hk => ih k (kid_size hk)
    cases r with
    | none => rw [backR_none]; simp only [Re.size]; omega
    | eps => rw [backR_eps]; simp only [Re.size]; omega
    | cls s => rw [backR_cls]; simp only [Re.size]; omega
    | cat l =>
      rw [backR_cat]
      have h1 := thenL_size (l.map backR).reverse
      rw [sizes_reverse] at h1
      have h2 := sizes_map_le l backR hk
      simp only [Re.size]; omega
    | or l =>
      rw [backR_or]
      have h1 := anyL_size (l.map backR)
      have h2 := sizes_map_le l backR hk
      simp only [Re.size]; omega
    | and l =>
      rw [backR_and]
      have h1 := bothL_size (l.map backR)
      have h2 := sizes_map_le l backR hk
      simp only [Re.size]; omega
    | star x =>
      rw [backR_star]
      have h1 := manyR_size' (backR x)
      have h2 := hk x (by simp [Re.kids])
      simp only [Re.size]; omega
    | minus x y =>
      rw [backR_minus]
      have h1 := butR_size (backR x) (backR y)
      have h2 := hk x (by simp [Re.kids])
      have h3 := hk y (by simp [Re.kids])
      simp only [Re.size]; omega
theorem backR_goods {l : List Re} (h : ∀ k ∈ l, Good (backR k)) : Goods (l.map backR) := fun r hr => by
  obtain ⟨k, hk, rfl⟩ := List.mem_map.1 hr
  exact h k hk
theorem backR_good (r : Re) : Good r → Good (backR r) := by
  induction r using Re.indBy with
  | h r ih =>
    intro hg
    have hk : ∀ k ∈ r.kids, Good (backR k) := fun k hk => ih k (kid_size hk) (hg.kid hk).1
    cases r with
    | none => rw [backR_none]; exact hg
    | eps => rw [backR_eps]; exact hg
    | cls s => rw [backR_cls]; exact hg
    | cat l => rw [backR_cat]; exact thenL_good fun r hr => backR_goods hk r (List.mem_reverse.1 hr)
    | or l => rw [backR_or]; exact anyL_good (backR_goods hk)
    | and l => rw [backR_and]; exact bothL_good (backR_goods hk)
    | star x => rw [backR_star]; exact manyR_good (hk x (by simp [Re.kids]))
    | minus x y => rw [backR_minus]; exact butR_good (hk x (by simp [Re.kids])) (hk y (by simp [Re.kids]))
theorem catP_rev {P : Re → Txt → Prop} {Q : Re → Txt → Prop} (l : List Re) (h : ∀ k ∈ l, ∀ t, P k t ↔ Q k t.reverse) : ∀ t, CatP (l.reverse.map P) t ↔ CatP (l.map Q) t.reverse := by
  induction l with
  | nil => intro t; simp [CatP]
  | cons x l ih =>
    intro t
    have ih := ih fun k hk => h k (List.mem_cons_of_mem _ hk)
    have hx := h x (List.mem_cons_self ..)
    rw [List.reverse_cons, List.map_append, catP_append]
    show (∃ i, i ≤ t.length ∧ CatP (l.reverse.map P) (t.take i) ∧ CatP [P x] (t.drop i)) ↔ CatP (Q x :: l.map Q) t.reverse
    rw [catP_cons]
    simp only [catP_one, ih, hx]
    constructor
    · rintro ⟨i, hi, h1, h2⟩
      refine ⟨t.length - i, by rw [List.length_reverse]; omega, ?_, ?_⟩
      · rw [List.take_reverse, show t.length - (t.length - i) = i by omega]; exact h2
      · rw [List.drop_reverse, show t.length - (t.length - i) = i by omega]; exact h1
    · rintro ⟨i, hi, h1, h2⟩
      rw [List.length_reverse] at hi
      refine ⟨t.length - i, by omega, ?_, ?_⟩
      · rw [List.reverse_take, show t.length - (t.length - i) = i by omega]; exact h2
      · rw [List.reverse_drop, show t.length - (t.length - i) = i by omega]; exact h1
theorem starP_rev {P Q : Txt → Prop} (h : ∀ t, P t → Q t.reverse) {t : Txt} (hs : StarP P t) : StarP Q t.reverse := by
  induction hs with
  | nil => exact .nil
  | step a b hne ha _ ih =>
    rw [List.reverse_append]
    refine starP_append ih ?_
    have := StarP.step a.reverse [] (by simpa using hne) (h a ha) (StarP.nil (P := Q))
    rwa [List.append_nil] at this
/-- THE TEXTS OF AN EXPRESSION READ FROM THE END. -/
theorem lang_back (r : Re) : Good r → ∀ t, Lang (backR r) t ↔ Lang r t.reverse := by
  induction r using Re.indBy with
  | h r ih =>
    intro hg t
    have hk : ∀ k ∈ r.kids, ∀ t, Lang (backR k) t ↔ Lang k t.reverse := fun k hk => ih k (kid_size hk) (hg.kid hk).1
    have hgk : ∀ k ∈ r.kids, Good (backR k) := fun k hk => backR_good _ (hg.kid hk).1
    cases r with
    | none => rw [backR_none, lang_none, lang_none]
    | eps => rw [backR_eps, lang_eps, lang_eps]; simp
    | cls s =>
      rw [backR_cls, lang_cls, lang_cls]
      constructor
      · rintro ⟨b, rfl, h⟩; exact ⟨b, rfl, h⟩
      · rintro ⟨b, e, h⟩
        exact ⟨b, by rw [← List.reverse_reverse t, e]; rfl, h⟩
    | cat l =>
      rw [backR_cat, lang_then, lang_cat, ← List.map_reverse, List.map_map]
      exact catP_rev l hk t
    | or l =>
      rw [backR_or, lang_any (backR_goods (l := l) hgk), lang_or]
      constructor
      · rintro ⟨r, hr, h⟩
        obtain ⟨k, hkl, rfl⟩ := List.mem_map.1 hr
        exact ⟨k, hkl, (hk k hkl t).1 h⟩
      · rintro ⟨k, hkl, h⟩
        exact ⟨_, List.mem_map_of_mem hkl, (hk k hkl t).2 h⟩
    | and l =>
      rw [backR_and, lang_both (backR_goods (l := l) hgk), lang_and]
      constructor
      · intro h k hkl
        exact (hk k hkl t).1 (h _ (List.mem_map_of_mem hkl))
      · intro h r hr
        obtain ⟨k, hkl, rfl⟩ := List.mem_map.1 hr
        exact (hk k hkl t).2 (h k hkl)
    | star x =>
      rw [backR_star, lang_many, lang_star]
      have hx := hk x (by simp [Re.kids])
      constructor
      · exact fun h => starP_rev (fun t ht => (hx t).1 ht) h
      · intro h
        have := starP_rev (Q := Lang (backR x)) (fun t ht => by rw [hx, List.reverse_reverse]; exact ht) h
        rwa [List.reverse_reverse] at this
    | minus x y => rw [backR_minus, lang_but, lang_minus, hk x (by simp [Re.kids]), hk y (by simp [Re.kids])]
theorem withR_back {r : Re} (h : r.kids ≠ []) : withR r (if r.op = 3 then (r.kids.map backR).reverse else r.kids.map backR) = backR r := by
  unfold withR
  cases r with
  | cat l => simp [Re.op, Re.kids, backR_cat]
  | or l => simp [Re.op, Re.kids, backR_or]
  | and l => simp [Re.op, Re.kids, backR_and]
  | star x => simp [Re.op, Re.kids, backR_star]
  | minus x y => simp [Re.op, Re.kids, backR_minus]
  | _ => simp [Re.kids] at h
theorem backR_nokids {r : Re} (hg : Good r) (h : r.kids = []) : backR r = r := by
  cases r with
  | none => exact backR_none
  | eps => exact backR_eps
  | cls s => exact backR_cls s
  | cat l => have := hg.fit.1; simp only [Re.kids] at h; subst h; simp at this
  | or l => have := hg.fit.1; simp only [Re.kids] at h; subst h; simp at this
  | and l => have := hg.fit.1; simp only [Re.kids] at h; subst h; simp at this
  | star x => simp [Re.kids] at h
  | minus x y => simp [Re.kids] at h
end Go.Proofs.YtfpfloahkibcgaaGreatDoor

/- The walks of split.Fill, Fuel.Burn, Fuel.Used. -/
namespace Go.Proofs.YtfpfloahkibcgaaGreatDoor
open Go.RowKit Go.Maps

/-- Steps that are left, and those that were done. -/
def FuelAt (w : World) (f left used : Nat) : Prop := w.heap[f]? = some (.cells #[.int .i64 (left : Int), .int .i64 (used : Int)] 121 (0, 0))
theorem FuelAt.below {w w' : World} {f left used : Nat} (h : FuelAt w f left used) (hb : Below w.heap.size w w') : FuelAt w' f left used := blk_below h hb
theorem FuelAt.cells {w : World} {f left used : Nat} (h : FuelAt w f left used) : w.cell? ⟨f, 0, none⟩ = some (.int .i64 (left : Int)) ∧ w.cell? ⟨f, 1, none⟩ = some (.int .i64 (used : Int)) ∧ w.frozen? ⟨f, 0, none⟩ = false ∧ w.frozen? ⟨f, 1, none⟩ = false :=
  ⟨(blk_cell h 0).trans (by simp), (blk_cell h 1).trans (by simp), blk_free h 0, blk_free h 1⟩
set_option maxRecDepth 100000 in
theorem fill_any (n : Int) (m : Nat) (hm : m = n.toNat) (w : World) : Calls Tryz.prog 21 #[.int .i64 n] w fun e w' => e = .returned (ptr w.heap.size) ∧ FuelAt w' w.heap.size m 0 ∧ Below w.heap.size w w' := by
  have hmax : ((m : Nat) : Int) = max n 0 := by omega
  have HM := hid hmax
  clear hmax hm
  unfold ptr
  go_enter Tryz.func21, Tryz.ntmps21
  go_wp2_with fail
  go_ret
  exact ⟨rfl, by unfold FuelAt; rw [HM.out]; exact blk_new w _, (Below.refl _ _).alloc (Nat.le_refl _) _⟩
theorem fused_any (f left used : Nat) (w : World) (h : FuelAt w f left used) : Calls Tryz.prog 23 #[ptr f] w fun e w' => e = .returned (.int .i64 (used : Int)) ∧ w = w' := by
  obtain ⟨c0, c1, -, -⟩ := h.cells
  clear h
  unfold ptr
  go_enter Tryz.func23, Tryz.ntmps23
  go_wp2_with fail
  go_ret
  exact ⟨rfl, rfl⟩
theorem fused_nil (w : World) : Calls Tryz.prog 23 #[.pointer none] w fun e w' => e = .returned (.int .i64 0) ∧ w = w' := by
  go_enter Tryz.func23, Tryz.ntmps23
  go_wp2_with fail
  go_ret
  exact ⟨rfl, rfl⟩
theorem burn_nil (n : Int) (w : World) : Calls Tryz.prog 27 #[.pointer none, .int .i64 n] w fun e w' => e = .returned (.int .i64 31) ∧ w = w' := by
  go_enter Tryz.func27, Tryz.ntmps27
  go_wp2_with fail
  go_ret
  exact ⟨rfl, rfl⟩
/-- What a call of Burn comes to. -/
def BurnRet (w : World) (f left used : Nat) (n : Int) (e : Ending) (w' : World) : Prop :=
  KeepX (fun k => k = f) w w' ∧ if 0 ≤ n ∧ n ≤ left then e = .returned (.int .i64 0) ∧ FuelAt w' f (left - n.toNat) (used + n.toNat) else e = .returned (.int .i64 31) ∧ FuelAt w' f 0 used
set_option maxRecDepth 100000 in
theorem burn_any (f left used : Nat) (n : Int) (w : World) (h : FuelAt w f left used) (hl : left ≤ 1000000000) (hu : used ≤ 1000000000) : Calls Tryz.prog 27 #[ptr f, .int .i64 n] w (BurnRet w f left used n) := by
  obtain ⟨c0, c1, f0, f1⟩ := h.cells
  unfold BurnRet
  by_cases hn : 0 ≤ n ∧ n ≤ left
  · simp only [if_pos hn]
    obtain ⟨k, rfl⟩ : ∃ k : Nat, n = k := ⟨n.toNat, by omega⟩
    have hk : k ≤ left := by omega
    have h0 : ¬ (k : Int) < 0 := by omega
    have h1 : ¬ (left : Int) < (k : Int) := by omega
    have HF : Hid (FuelAt ((w.setCell ⟨f, 0, none⟩ (.int .i64 ((left : Int) - (k : Int)))).setCell ⟨f, 1, none⟩ (.int .i64 ((used : Int) + (k : Int)))) f (left - k) (used + k)) := hid (by
      unfold FuelAt at h ⊢
      rw [blk_set (blk_set h 0 _) 1 _]
      have e1 : ((left : Int) - (k : Int)) = ((left - k : Nat) : Int) := by omega
      have e2 : ((used : Int) + (k : Int)) = ((used + k : Nat) : Int) := by omega
      rw [e1, e2]
      rfl)
    have d1 : (w.setCell ⟨f, 0, none⟩ (.int .i64 ((left : Int) - (k : Int)))).cell? ⟨f, 1, none⟩ = some (.int .i64 (used : Int)) := (World.cell?_setCell_other w ⟨f, 0, none⟩ ⟨f, 1, none⟩ _ (by simp)).trans c1
    clear h hn
    unfold ptr
    go_enter Tryz.func27, Tryz.ntmps27
    go_wp2_with fail
    go_ret
    exact ⟨(KeepX.set_ (X := fun k => k = f) w ⟨f, 0, none⟩ _ rfl).trans (KeepX.set_ (X := fun k => k = f) _ ⟨f, 1, none⟩ _ rfl) fun _ _ e => e, rfl, HF.out⟩
  · simp only [if_neg hn]
    have HF : Hid (FuelAt (w.setCell ⟨f, 0, none⟩ (.int .i64 0)) f 0 used) := hid (by
      unfold FuelAt at h ⊢
      rw [blk_set h 0 _]
      rfl)
    clear h
    by_cases h0 : n < 0
    · clear hn
      unfold ptr
      go_enter Tryz.func27, Tryz.ntmps27
      go_wp2_with fail
      go_ret
      exact ⟨KeepX.set_ (X := fun k => k = f) w ⟨f, 0, none⟩ _ rfl, rfl, HF.out⟩
    · have h1 : (left : Int) < n := by omega
      clear hn
      unfold ptr
      go_enter Tryz.func27, Tryz.ntmps27
      go_wp2_with fail
      go_ret
      exact ⟨KeepX.set_ (X := fun k => k = f) w ⟨f, 0, none⟩ _ rfl, rfl, HF.out⟩
end Go.Proofs.YtfpfloahkibcgaaGreatDoor

/- The walks of slices.Reverse over expressions, of Re.Back. -/
namespace Go.Proofs.YtfpfloahkibcgaaGreatDoor
open Go.RowKit

/-- A row of n pointers of which the first ones are written. -/
def pA (n : Nat) (cs : List Nat) : Array Value := fnA n fun i => if i < cs.length then ptr (cs.getD i 0) else .pointer none
theorem pA_set {n : Nat} {cs : List Nat} (b : Nat) : (pA n cs).setIfInBounds cs.length (ptr b) = pA n (cs ++ [b]) := by
  unfold pA
  rw [fnA_set]
  refine fnA_ext fun i _ => ?_
  by_cases e : i = cs.length
  · subst e; simp
  · rw [if_neg e]
    by_cases h : i < cs.length
    · rw [if_pos h, if_pos (by simp; omega)]
      congr 1
      rw [List.getD_eq_getElem?_getD, List.getD_eq_getElem?_getD, List.getElem?_append_left h]
    · rw [if_neg h, if_neg (by simp; omega)]
theorem pA_get {n : Nat} {cs : List Nat} {i b : Nat} (hn : i < n) (h : cs[i]? = some b) : (pA n cs)[i]? = some (ptr b) := by
  unfold pA
  rw [fnA_get hn, if_pos (List.getElem?_eq_some_iff.1 h).1, List.getD_eq_getElem?_getD, h]
  rfl
theorem pA_full (cs : List Nat) : pA cs.length cs = (cs.map ptr).toArray := by
  unfold pA fnA
  congr 1
  apply List.ext_getElem?
  intro i
  by_cases h : i < cs.length
  · rw [List.getElem?_map, List.getElem?_range h, List.getElem?_map, List.getElem?_eq_getElem h]
    simp [h]
  · rw [List.getElem?_eq_none (by simp; omega), List.getElem?_eq_none (by simp; omega)]
theorem rd_pA {w : World} {g : Nat} {cs : List Nat} (h : w.heap[g]? = some (.cells (pA cs.length cs) 32 (0, 0))) : Rd w (some ⟨g, 0, none⟩) cs.length (cs.map ptr) := by
  refine ⟨by simp, fun _ => ⟨g, 0, rfl, lt_of_heap h, fun j u hu => ?_⟩⟩
  rw [Nat.zero_add, blk_cell h j, pA_full, List.getElem?_toArray]
  exact hu
/-- Turned round as far as place i. -/
def revA (n i : Nat) (cs : List Nat) : Array Value := fnA n fun p => ptr (if p < i ∨ n ≤ p + i then cs.getD (n - 1 - p) 0 else cs.getD p 0)
theorem revA_zero (cs : List Nat) : revA cs.length 0 cs = pA cs.length cs := by
  refine fnA_ext fun p hp => ?_
  rw [if_neg (by omega), if_pos hp]
theorem revA_done {cs : List Nat} {i : Nat} (h : cs.length ≤ 2 * i + 1) : revA cs.length i cs = pA cs.reverse.length cs.reverse := by
  unfold revA pA
  rw [List.length_reverse]
  refine fnA_ext fun p hp => ?_
  rw [if_pos hp]
  congr 1
  have e : cs.reverse.getD p 0 = cs.getD (cs.length - 1 - p) 0 := by rw [List.getD_eq_getElem?_getD, List.getD_eq_getElem?_getD, List.getElem?_reverse hp]
  rw [e]
  by_cases h1 : p < i ∨ cs.length ≤ p + i
  · rw [if_pos h1]
  · rw [if_neg h1]
    congr 1
    omega
theorem revA_step {n i : Nat} {cs : List Nat} (h : 2 * i + 1 < n) : ((revA n i cs).setIfInBounds i (ptr (cs.getD (n - 1 - i) 0))).setIfInBounds (n - 1 - i) (ptr (cs.getD i 0)) = revA n (i + 1) cs := by
  unfold revA
  rw [fnA_set, fnA_set]
  refine fnA_ext fun p hp => ?_
  by_cases e1 : p = n - 1 - i
  · rw [if_pos e1, if_pos (by omega)]
    congr 2
    omega
  · rw [if_neg e1]
    by_cases e2 : p = i
    · rw [if_pos e2, if_pos (by omega), e2]
    · rw [if_neg e2]
      by_cases h1 : p < i ∨ n ≤ p + i
      · rw [if_pos h1, if_pos (by omega)]
      · rw [if_neg h1, if_neg (by omega)]
set_option maxRecDepth 100000 in
set_option maxHeartbeats 2000000 in
theorem reverse_any (g : Nat) (cs : List Nat) (w : World) (h : w.heap[g]? = some (.cells (pA cs.length cs) 32 (0, 0))) (hn : cs.length ≤ 1000000) :
    Calls Tryz.prog 111 #[.slice (some ⟨g, 0, none⟩) cs.length cs.length] w fun e w' => e = .returned (.tuple #[]) ∧ w'.heap[g]? = some (.cells (pA cs.reverse.length cs.reverse) 32 (0, 0)) ∧ KeepX (fun k => k = g) w w' := by
  obtain ⟨n, hnn⟩ : ∃ n, n = cs.length := ⟨_, rfl⟩
  have HN := hid hnn
  have H0 : Hid (w.heap[g]? = some (.cells (revA n 0 cs) 32 (0, 0))) := hid (by rw [hnn, revA_zero]; exact h)
  have HD : Hid (∀ i, n ≤ 2 * i + 1 → revA n i cs = pA cs.reverse.length cs.reverse) := hid (fun i hi => by rw [hnn] at hi ⊢; exact revA_done hi)
  rw [← hnn] at hn ⊢
  clear h hnn
  generalize pA cs.reverse.length cs.reverse = z at *
  go_enter Tryz.func111, Tryz.ntmps111
  go_wp2_with fail
  go_loopw [2, 3] (fun iv jv wr => ∃ i : Nat, 2 * i ≤ n + 1 ∧ iv = .int .i64 i ∧ jv = .int .i64 ((n : Int) - 1 - i) ∧ Hid (wr.heap[g]? = some (.cells (revA n i cs) 32 (0, 0)) ∧ KeepX (fun k => k = g) w wr)) (fun iv _ _ => n - (intOf iv).toNat)
  case atStart => exact ⟨0, by omega, rfl, by go_num, H0.out, KeepX.refl _ _⟩
  case round =>
    obtain ⟨i, hi, rfl, rfl, hin⟩ := hrel
    obtain ⟨hat, hkp⟩ := hin.out
    obtain ⟨wi, hwi⟩ : ∃ W : World, W = wr := ⟨_, rfl⟩
    subst hwi
    have HAT := hid hat
    have HKP := hid hkp
    by_cases hlt : 2 * i + 1 < n
    · obtain ⟨j, hj⟩ : ∃ j, j = n - 1 - i := ⟨_, rfl⟩
      have ej : ((n : Int) - 1 - i) = (j : Int) := by omega
      rw [ej]
      have c1 : wi.cell? ⟨g, i, none⟩ = some (ptr (cs.getD i 0)) := by
        rw [blk_cell hat i]
        unfold revA
        rw [fnA_get (by omega), if_neg (by omega)]
      have c2 : wi.cell? ⟨g, j, none⟩ = some (ptr (cs.getD j 0)) := by
        rw [blk_cell hat j]
        unfold revA
        rw [fnA_get (by omega), if_neg (by omega)]
      have f1 := blk_free hat i
      have f2 := blk_free hat j
      have HSET : Hid (((wi.setCell ⟨g, i, none⟩ (ptr (cs.getD j 0))).setCell ⟨g, j, none⟩ (ptr (cs.getD i 0))).heap[g]? = some (.cells (revA n (i + 1) cs) 32 (0, 0))) := hid (by
        rw [blk_set (blk_set hat i _) j _, hj, revA_step hlt])
      have c3 : (wi.setCell ⟨g, i, none⟩ (ptr (cs.getD j 0))).cell? ⟨g, j, none⟩ = some (ptr (cs.getD j 0)) := (World.cell?_setCell_other wi ⟨g, i, none⟩ ⟨g, j, none⟩ _ (fun e => by have := congrArg Addr.off e; simp at this; omega)).trans c2
      have i1 : (i : Int) < (j : Int) := by omega
      have i2 : (i : Int) < (n : Int) := by omega
      have i3 : (j : Int) < (n : Int) := by omega
      have HJ := hid hj
      clear hin hat hkp hj ej
      unfold ptr at *
      generalize cs.getD i 0 = bi at *
      generalize cs.getD j 0 = bj at *
      go_wp2_with fail
      go_region
      all_goals
        go_wp2_with fail
        go_roundw
        case rel => exact ⟨i + 1, by omega, by go_num, by have := HJ.out; first | go_num | (congr 1; omega), by first | exact HSET.out | exact (below_drewN _ _ 1).heap_eq HSET.out | (simpa using HSET.out), HKP.out.trans (by first | exact (KeepX.set_ (X := fun k => k = g) wi ⟨g, i, none⟩ _ rfl).trans (KeepX.set_ (X := fun k => k = g) _ ⟨g, j, none⟩ _ rfl) fun _ _ e => e | exact ((KeepX.set_ (X := fun k => k = g) wi ⟨g, i, none⟩ _ rfl).trans (KeepX.set_ (X := fun k => k = g) _ ⟨g, j, none⟩ _ rfl) fun _ _ e => e).trans (KeepX.drewN _ 1) fun _ _ e => e) fun _ _ e => e⟩
        case measure => simp [intOf]; omega
    · have i1 : ¬ (i : Int) < (n : Int) - 1 - i := by omega
      have HZ := hid (HD.out i (by omega))
      clear hin hat hkp
      go_wp2_with fail
      go_end0
      exact ⟨rfl, by rw [← HZ.out]; exact HAT.out, HKP.out⟩
theorem els_reverse {w : World} {X : Nat → Prop} {rs : List Re} {bs : List Nat} (h : Els w X rs bs) : Els w X rs.reverse bs.reverse := by
  refine ⟨by simp [h.1], fun i r b h1 h2 => ?_⟩
  have hi : i < rs.length := by have := (List.getElem?_eq_some_iff.1 h1).1; simpa using this
  rw [List.getElem?_reverse hi] at h1
  rw [List.getElem?_reverse (by rw [← h.1]; exact hi), ← h.1] at h2
  exact h.2 _ r b h1 h2
def BackFn (r : Re) : Prop := ∀ (X : Nat → Prop) (b : Nat) (w : World), ReAt w X r b → (∀ k, X k → k < w.heap.size) → Calls Tryz.prog 66 #[ptr b] w (RetRe w X (backR r))
set_option maxRecDepth 100000 in
set_option maxHeartbeats 1000000 in
theorem back_leaf (r : Re) (hg : Good r) (hk : r.kids = []) : BackFn r := by
  intro X b w h hX
  obtain ⟨A, c, bs, hbc, -, -⟩ := h.row
  obtain ⟨k0, k1, k2, k3, k4, k5, -⟩ := cellsOf hbc
  rw [hk] at k5
  have HH := hid h
  rw [backR_nokids hg hk]
  clear h hbc k0 k1 k2 k3 k4
  unfold ptr
  go_enter Tryz.func66, Tryz.ntmps66
  go_wp2_with fail
  go_ret
  exact ⟨b, rfl, HH.out, Below.refl _ _⟩
set_option maxRecDepth 100000 in
set_option maxHeartbeats 4000000 in
theorem back_kids (r : Re) (hn0 : r.kids ≠ []) (ih : ∀ k ∈ r.kids, BackFn k) (hsz : r.size ≤ 1000000) : BackFn r := by
  intro X b w h hX
  have HR := hid h
  obtain ⟨A, c, bs, hbc, hcap, hrow⟩ := h.row
  obtain ⟨k0, k1, k2, k3, k4, k5, -⟩ := cellsOf hbc
  have hbl := lt_of_heap hbc
  have hwb := withR_back hn0
  have hlen : r.kids.length ≤ 1000000 := by have := Re.length_le_sizes r.kids; have := Re.size_kids r; omega
  have hms := sizes_map_le r.kids backR fun k _ => backR_size k
  have hks : Re.sizes r.kids ≤ 1000000 := by have := Re.size_kids r; omega
  have hop : r.op ≠ 3 ∨ r.op = 3 := (Classical.em _).symm
  generalize hl : r.kids = l at *
  obtain ⟨n, hn⟩ : ∃ n, n = l.length := ⟨_, rfl⟩
  have hnp : 0 < n := by rw [hn]; exact List.length_pos_iff.2 hn0
  have HN := hid hn
  rw [← hn] at k5 hrow hlen
  have HROW := hid hrow
  have HIH := hid ih
  have HXl := hid hX
  obtain ⟨o, ho⟩ : ∃ o, o = r.op := ⟨_, rfl⟩
  have HW : Hid (∀ W g rs cs, Below w.heap.size w W → w.heap.size ≤ g → W.heap[g]? = some (.cells (pA cs.length cs) 32 (0, 0)) → cs.length = n → Els W (fun j => X j ∨ j = g) rs cs → rs = (if o = 3 then (l.map backR).reverse else l.map backR) → Calls Tryz.prog 112 #[ptr b, .slice (some ⟨g, 0, none⟩) n n] W (RetRe W X (backR r))) := fun W g rs cs hW hgw hg hcl he hrs => by
    have hrd := rd_pA hg
    have hs : Re.sizes rs ≤ 549755813888 := by
      rw [hrs]
      split
      · rw [sizes_reverse]; omega
      · omega
    have := with_any r b (some ⟨g, 0, none⟩) n n rs cs X W (HR.out.under hW) ⟨by rw [← hcl]; exact hrd, he.also (fun k hk hlt => .inl hk), fun a _ e hx => by cases e; have := HXl.out _ hx; simp at this; omega⟩ (fun k hk => Nat.lt_of_lt_of_le (HXl.out k hk) hW.size) hs
    rw [hrs, ho, hwb] at this
    exact this
  rw [← ho] at k0 hop
  obtain ⟨z, hz⟩ : ∃ z, z = backR r := ⟨_, rfl⟩
  rw [← hz] at HW ⊢
  obtain ⟨i0, hi, hz0, hz1, hz2⟩ := info_parts info_ptr
  clear h hbc hcap hrow k1 k2 k3 k4 ih hX hn hl hwb hz ho hn0 hms hks hsz
  have hni : ¬ (n : Int) = 0 := by omega
  unfold ptr at *
  go_enter Tryz.func66, Tryz.ntmps66
  go_wp2_with (at_make; refine wpList_make_full _ rfl (.tmp 21) (.tmp 21) 69 rfl w.heap.size 32 i0 (.pointer none) 1 Tryz.underlying69 hi hz0 hz1 .i64 .i64 _ _ n rfl rfl rfl rfl (by rw [hz2]; omega) (by unfold maxLen; omega) (Nat.le_refl _) ?_; intro w1 ho hg; have HMK := hid (made_fn (z := .pointer none) rfl ho); have HB1 := hid (below_none hg); have d5 := (HB1.out.cell (p := ⟨b, 5, none⟩) hbl).trans k5; have d0 := (HB1.out.cell (p := ⟨b, 0, none⟩) hbl).trans k0; clear ho hg)
  obtain ⟨g, hg⟩ : ∃ g, g = w.heap.size := ⟨_, rfl⟩
  rw [← hg] at HMK ⊢
  have HG := hid hg
  have HM0 : Hid (w1.heap[g]? = some (.cells (pA n []) 32 (0, 0))) := HMK
  clear hg HMK
  go_loopw [28] (fun iv wr => ∃ (k : Nat) (cs : List Nat), k ≤ n ∧ iv = .int .i64 k ∧ Hid (wr.heap[g]? = some (.cells (pA n cs) 32 (0, 0)) ∧ cs.length = k ∧ Els wr (fun j => X j ∨ j = g) ((l.take k).map backR) cs ∧ Below w.heap.size w wr)) (fun iv _ => n - (intOf iv).toNat)
  case atStart => exact ⟨0, [], Nat.zero_le _, rfl, HM0.out, rfl, Els.nil, HB1.out⟩
  case round =>
    obtain ⟨k, cs, hk, rfl, hin⟩ := hrel
    obtain ⟨hat, hcl, hels, hbel⟩ := hin.out
    obtain ⟨wi, hwi⟩ : ∃ W : World, W = wr := ⟨_, rfl⟩
    subst hwi
    have HAT := hid hat
    have HELS := hid hels
    have HBEL := hid hbel
    have HCL := hid hcl
    by_cases hlt : k < n
    · obtain ⟨gk, ok, x, bx, rfl, c1, hx, -, hax, hgk⟩ := HROW.out.at_ (k := k) hlt
      have hc1 := (hbel.cell (p := ⟨gk, ok + k, none⟩) hgk).trans c1
      have hsw := hbel.size
      have hal : ReAt wi (fun j => X j ∨ j = g) x bx := (hax.also (Y := fun j => X j ∨ j = g) fun j hj hlj => hj.elim id fun e => by have := HG.out; omega).under hbel
      have HC := hid (HIH.out x (List.mem_of_getElem? hx) _ bx wi hal fun j hj => by
        rcases hj with hj | hj
        · exact Nat.lt_of_lt_of_le (HXl.out j hj) hsw
        · rw [hj]; exact lt_of_heap hat)
      have HSN : Hid ((l.take (k + 1)).map backR = (l.take k).map backR ++ [backR x]) := hid (by
        obtain ⟨hl, e⟩ := List.getElem?_eq_some_iff.1 hx
        rw [List.take_succ_eq_append_getElem hl, e, List.map_append]
        rfl)
      have hki : (k : Int) < (n : Int) := by omega
      unfold ptr at hc1 HC
      clear hx hax hal c1 hin hat hels hbel hcl
      go_wp2_with (go_at_call 66; refine HC.out.mono ?_; rintro e w3 ⟨bn, rfl, h3, hb3⟩; have H3 := hid h3; have HB3 := hid hb3; have HA3 := hid (blk_below HAT.out hb3); obtain ⟨vo, hvo⟩ : ∃ v, w3.cell? ⟨g, k, none⟩ = some v := ⟨_, (blk_cell HA3.out k).trans (fnA_get hlt)⟩; have fo := blk_free HA3.out k; clear h3 hb3)
      go_roundw
      case rel =>
        have e1 := blk_set HA3.out k (ptr bn)
        rw [← HCL.out, pA_set] at e1
        refine ⟨k + 1, cs ++ [bn], by omega, by go_num, by rw [← HCL.out]; exact e1, by simp [HCL.out], ?_, (HBEL.out.trans (HB3.out.mono HBEL.out.size)).trans (KeepX.below (KeepX.set_ (X := fun j => j = g) w3 ⟨g, k, none⟩ _ rfl) (Nat.le_trans HBEL.out.size HB3.out.size) fun j hj e => by have := HG.out; omega)⟩
        rw [HSN.out]
        exact ((HELS.out.below HB3.out).append (Els.one H3.out)).keep (Keeps.set_ (X := fun j => j = g) w3 ⟨g, k, none⟩ _ rfl) fun j hj => .inr hj
      case measure => simp [intOf]; omega
    · have hkn : k = n := by omega
      subst hkn
      have htl : l.take cs.length = l := by rw [HCL.out, HN.out, List.take_length]
      have hel2 := hels
      rw [← hcl, htl] at hel2
      have HEL2 := hid hel2
      have hat2 := hat
      rw [← hcl] at hat2
      have e0 := (HBEL.out.cell (p := ⟨b, 0, none⟩) hbl).trans k0
      have HAT2 := hid hat2
      rcases hop with hop | hop
      · have hoi : ¬ (o : Int) = 3 := by omega
        have HWW := hid (HW.out wi g _ cs hbel (Nat.le_of_eq HG.out.symm) hat2 hcl hel2 (by rw [if_neg hop]))
        unfold ptr at HWW
        clear hin hat hels hbel hcl hel2 hat2 htl
        go_wp2_with (go_at_call 112; refine HWW.out.mono ?_; rintro e w3 hre; have HRE := hid (hre.trans HBEL.out); obtain ⟨bn, rfl, -⟩ := hre)
        go_ret
        exact HRE.out
      · have hoi : (o : Int) = 3 := by omega
        have HREV := hid (reverse_any g cs wi hat2 (by omega))
        rw [hcl] at HREV
        have HW2 := hid (fun W rs cs hW hg hcl he hrs => HW.out W g rs cs hW (Nat.le_of_eq HG.out.symm) hg hcl he hrs)
        unfold ptr at HW2
        have HCL2 : Hid (cs.reverse.length = k) := hid (by rw [List.length_reverse]; exact hcl)
        clear hin hat hels hbel hcl hel2 hat2 htl
        go_wp2_with (first | (go_at_call 111; refine HREV.out.mono ?_; rintro e w2 ⟨rfl, h2, hk2⟩; have HB2 := hid (HBEL.out.trans (hk2.below HBEL.out.size fun j hj e => by have := HG.out; omega)); have HWW := hid (HW2.out w2 (l.map backR).reverse cs.reverse HB2.out h2 HCL2.out ((HEL2.out.keep hk2.keeps fun j hj => .inr hj) |> els_reverse) (by rw [if_pos hop])); clear h2 hk2) | (go_at_call 112; refine HWW.out.mono ?_; rintro e w3 hre; have HRE := hid (hre.trans HB2.out); obtain ⟨bn, rfl, -⟩ := hre))
        go_ret
        exact HRE.out
/-- BACK: whatever the expression. -/
theorem back_any (r : Re) : Good r → r.size ≤ 1000000 → BackFn r := by
  induction r using Re.indBy with
  | h r ih =>
    intro hg hsz
    by_cases hk : r.kids = []
    · exact back_leaf r hg hk
    · exact back_kids r hk (fun k hk => ih k (kid_size hk) (hg.kid hk).1 (by have := kid_size hk; omega)) hsz
end Go.Proofs.YtfpfloahkibcgaaGreatDoor

/- The walks of split.Build, Side.heads, Side.tails, Side.Match. -/
namespace Go.Proofs.YtfpfloahkibcgaaGreatDoor
open Go.RowKit Go.Maps

def SideAt (w : World) (S Df Db : Nat) : Prop := w.heap[S]? = some (.cells #[ptr Df, ptr Db] 108 (0, 0))
theorem SideAt.below {w w' : World} {S Df Db : Nat} (h : SideAt w S Df Db) (hb : Below w.heap.size w w') : SideAt w' S Df Db := blk_below h hb
theorem SideAt.cells {w : World} {S Df Db : Nat} (h : SideAt w S Df Db) : w.cell? ⟨S, 0, none⟩ = some (ptr Df) ∧ w.cell? ⟨S, 1, none⟩ = some (ptr Db) := ⟨(blk_cell h 0).trans (by simp), (blk_cell h 1).trans (by simp)⟩
/-- What a call of Build comes to. -/
def SideRet (r : Re) (left : Nat) (e : Ending) (w' : World) : Prop :=
  match buildR ((refineR (setsR r)).map leastN) r left with
  | none => e = .returned (.tuple #[.pointer none, .int .i64 5])
  | some (all, nx, left1) => match buildR ((refineR (setsR (backR r))).map leastN) (backR r) left1 with
    | none => e = .returned (.tuple #[.pointer none, .int .i64 5])
    | some (all2, nx2, _) => ∃ S Df Db, e = .returned (.tuple #[ptr S, .int .i64 0]) ∧ SideAt w' S Df Db ∧ DfaAt w' Df (Fr r) ((refineR (setsR r)).map leastN) nx (all.map Re.null) ∧ DfaAt w' Db (Fr (backR r)) ((refineR (setsR (backR r))).map leastN) nx2 (all2.map Re.null)
set_option maxRecDepth 100000 in
set_option maxHeartbeats 1000000 in
theorem sbuilt_any (r : Re) (hg : Good r) (hsz : r.size ≤ 500000) (left : Nat) (hl : left ≤ 1000000) (w0 w : World) (b : Nat) (h : ReAt w0 X0 r b) (hb : Below w0.heap.size w0 w) (hB : BudAt w w0.heap.size left 0) (hT : Tab w0) :
    Calls Tryz.prog 17 #[ptr b, ptr w0.heap.size] w fun e w' => Below w0.heap.size w0 w' ∧ SideRet r left e w' := by
  obtain ⟨B, hBB⟩ : ∃ B, B = w0.heap.size := ⟨_, rfl⟩
  have HBB0 := hid hBB
  rw [← hBB] at hB ⊢
  have hBlt := lt_of_heap hB
  have hre : ReAt w (fun k => k = B) r b := (h.also (Y := fun k => k = B) fun k e hlt => by omega).under hb
  have HB1 := hid (build_st r b B left 0 w hre hg (by omega) hB hl (by omega) (hT.below hb))
  have HBK := hid (fun W (hk : KeepX (fun k => k = B) w W) => back_any r hg (by omega) (fun k => k = B) b W (hre.keep hk.keeps fun _ e => e) (fun k e => by have := hk.size; omega))
  have HBW := hid hb
  have HT := hid hT
  have hbs := backR_size r
  have hbg := backR_good r hg
  unfold BuildSt at HB1
  unfold SideRet
  cases hq : buildR ((refineR (setsR r)).map leastN) r left with
  | none =>
    rw [hq] at HB1
    clear hq h hre hB hT hb hBB
    unfold ptr at *
    go_enter Tryz.func17, Tryz.ntmps17
    go_wp2_with ((go_at_call 65; (with_reducible refine HB1.out.mono ?_); rintro e w2 hret; obtain ⟨hk, rfl, l', u', hbu, hu⟩ := hret; have HK2 := hid hk; clear hk hbu))
    refine bodyPost_ret (v := .tuple #[.pointer none, .int .i64 5]) (by simp [results, Tryz.results17, go_sem]) rfl (And.intro (by rw [HBB0.out]; exact HBW.out.trans (HK2.out.below HBW.out.size fun k hk e => by have := HBB0.out; omega)) rfl)
  | some t =>
    obtain ⟨all, nx, left1⟩ := t
    rw [hq] at HB1
    have hl1 : left1 ≤ left := by have := (build_ok hq).2.2.2; omega
    have HBB := hid (fun W2 W3 (hk : KeepX (fun k => k = B) w W2) (hb3 : Below W2.heap.size W2 W3) (hbu : BudAt W2 B left1 (0 + (left - left1))) {bb : Nat} (h3 : ReAt W3 (fun k => k = B) (backR r) bb) =>
      build_st (backR r) bb B left1 (0 + (left - left1)) W3 h3 hbg (by omega) (blk_below hbu hb3) (by omega) (by omega) (HT.out.below ((HBW.out.trans (hk.below HBW.out.size fun k hk e => by have := HBB0.out; omega)).trans (hb3.mono (HBW.out.trans (hk.below HBW.out.size fun k hk e => by have := HBB0.out; omega)).size))))
    unfold BuildSt at HBB
    dsimp only
    cases hq2 : buildR ((refineR (setsR (backR r))).map leastN) (backR r) left1 with
    | none =>
      rw [hq2] at HBB
      clear hq hq2 h hre hB hT hb hbg hbs hBB
      unfold ptr at *
      go_enter Tryz.func17, Tryz.ntmps17
      go_wp2_with (first | (go_at_call 65; (with_reducible refine HB1.out.mono ?_); rintro e w2 hret; obtain ⟨hk, hbu, Df, rfl, hlt, hst⟩ := hret; have HK2 := hid hk; have HBU := hid hbu; clear hk hbu hlt hst) | (go_at_call 66; refine (HBK.out _ HK2.out).mono ?_; rintro e w3 ⟨bb, rfl, h3, hb3⟩; have H3 := hid h3; have HB3 := hid hb3; have HB2 := hid (HBB.out _ _ HK2.out hb3 HBU.out h3); clear h3 hb3) | (go_at_call 65; (with_reducible refine HB2.out.mono ?_); rintro e w4 hret; obtain ⟨hk, rfl, l', u', hbu, hu⟩ := hret; have HK4 := hid hk; clear hk hbu))
      refine bodyPost_ret (v := .tuple #[.pointer none, .int .i64 5]) (by simp [results, Tryz.results17, go_sem]) rfl ⟨?_, rfl⟩
      have h2 := HBW.out.trans (HK2.out.below HBW.out.size fun k hk e => by have := HBB0.out; omega)
      have h3 := h2.trans (HB3.out.mono h2.size)
      rw [HBB0.out]
      exact h3.trans (HK4.out.below h3.size fun k hk e => by have := HBB0.out; omega)
    | some t2 =>
      obtain ⟨all2, nx2, left2⟩ := t2
      rw [hq2] at HBB
      clear hq hq2 h hre hB hT hb hbg hbs hBB
      unfold ptr at *
      go_enter Tryz.func17, Tryz.ntmps17
      go_wp2_with (first | (go_at_call 65; (with_reducible refine HB1.out.mono ?_); rintro e w2 hret; obtain ⟨hk, hbu, Df, rfl, hlt, hst⟩ := hret; have HK2 := hid hk; have HBU := hid hbu; have HST := hid hst; clear hk hbu hlt hst) | (go_at_call 66; refine (HBK.out _ HK2.out).mono ?_; rintro e w3 ⟨bb, rfl, h3, hb3⟩; have H3 := hid h3; have HB3 := hid hb3; have HB2 := hid (HBB.out _ _ HK2.out hb3 HBU.out h3); clear h3 hb3) | (go_at_call 65; (with_reducible refine HB2.out.mono ?_); rintro e w4 hret; obtain ⟨hk, hbu, Db, rfl, hlt, hst2⟩ := hret; have HK4 := hid hk; have HST2 := hid hst2; clear hk hbu hlt hst2))
      refine bodyPost_ret (v := .tuple #[.pointer (some ⟨w4.heap.size, 0, none⟩), .int .i64 0]) (by simp [results, Tryz.results17, go_sem]) rfl ⟨?_, ?_⟩
      · have h2 := HBW.out.trans (HK2.out.below HBW.out.size fun k hk e => by have := HBB0.out; omega)
        have h3 := h2.trans (HB3.out.mono h2.size)
        have h4 := h3.trans (HK4.out.below h3.size fun k hk e => by have := HBB0.out; omega)
        rw [HBB0.out]
        exact h4.alloc h4.size _
      · have hba : Below w4.heap.size w4 (w4.alloc (.cells #[.pointer (some ⟨Df, 0, none⟩), .pointer (some ⟨Db, 0, none⟩)] 108)) := (Below.refl _ _).alloc (Nat.le_refl _) _
        exact ⟨w4.heap.size, Df, Db, rfl, blk_new w4 _, (HST.out w4 ((KeepX.of_below HB3.out).trans HK4.out fun _ _ e => e)).below hba, HST2.out.now.below hba⟩
/-- The answers at each place, as they are filled in. -/
def bA (n k : Nat) (f : Nat → Bool) : Array Value := fnA n fun p => .bool (if p < k then f p else false)
theorem bA_set {n k : Nat} {f : Nat → Bool} {b : Bool} (h : b = f k) : (bA n k f).setIfInBounds k (.bool b) = bA n (k + 1) f := by
  unfold bA
  rw [fnA_set]
  refine fnA_ext fun i _ => ?_
  by_cases e : i = k
  · subst e; rw [if_pos rfl, if_pos (by omega), h]
  · rw [if_neg e]
    by_cases h2 : i < k
    · rw [if_pos h2, if_pos (by omega)]
    · rw [if_neg h2, if_neg (by omega)]
theorem bA_full (n : Nat) (f : Nat → Bool) : bA n n f = fnA n fun p => .bool (f p) := fnA_ext fun i hi => by rw [if_pos hi]
theorem runN_take (δ : Nat → Nat → Nat) (q : Nat) {l : Txt} {k : Nat} {b : UInt8} (h : l[k]? = some b) : runN δ q (l.take (k + 1)) = δ (runN δ q (l.take k)) b.toNat := by
  obtain ⟨hl, e⟩ := List.getElem?_eq_some_iff.1 h
  unfold runN
  rw [List.take_succ_eq_append_getElem hl, e, List.foldl_append]
  rfl
theorem runN_lt {δ : Nat → Nat → Nat} {n : Nat} (hcl : ∀ q b, q < n → b < 256 → δ q b < n) : ∀ (t : Txt) (q : Nat), q < n → runN δ q t < n
  | [], _, h => h
  | b :: t, q, h => runN_lt hcl t _ (hcl q _ h b.toNat_lt)
set_option maxRecDepth 100000 in
theorem info_bool1 : (Tryz.prog.info? 4).map (fun i => (i.zero, i.size, i.bytes)) = some (some (.bool false), 1, 1) := by kernel_rfl
/-- What heads tells. -/
def HdRet (w : World) (n : Nat) (f : Nat → Bool) (e : Ending) (w' : World) : Prop := ∃ g, e = .returned (.slice (some ⟨g, 0, none⟩) n n) ∧ w'.heap[g]? = some (.cells (fnA n fun p => .bool (f p)) 4 (0, 0)) ∧ Below w.heap.size w w'
set_option maxRecDepth 100000 in
set_option maxHeartbeats 2000000 in
theorem sheads_any (S Df Db n : Nat) (δ : Nat → Nat → Nat) (yes : Nat → Bool) (t : ByteArray) (ht : t.size ≤ 1000000) (w : World) (hS : SideAt w S Df Db) (hD : DCon w Df n δ yes) (hn : 0 < n) :
    Calls Tryz.prog 73 #[ptr S, .string t] w (HdRet w (t.size + 1) fun i => yes (runN δ 0 (t.data.toList.take i))) := by
  obtain ⟨i0, hi0, hz0, hz1, hz2⟩ := info_parts info_bool1
  obtain ⟨l, hl⟩ : ∃ l, l = t.data.toList := ⟨_, rfl⟩
  have HL := hid hl
  have HLM : Hid (l.length = t.size) := hid (by rw [hl]; simp)
  have hi8 : i0.bytes * (t.size + 1) ≤ 281474976710656 := by rw [hz2]; omega
  have HSD := hid hS
  have HDC := hid hD
  have hrl : ∀ i, runN δ 0 (l.take i) < n := fun i => runN_lt hD.closed _ 0 hn
  have HRL := hid hrl
  obtain ⟨f, hf⟩ : ∃ f : Nat → Bool, f = fun i => yes (runN δ 0 (l.take i)) := ⟨_, rfl⟩
  have HF := hid hf
  unfold HdRet
  rw [← hl, ← hf]
  clear hl hS hD hrl hf
  unfold ptr at *
  go_enter Tryz.func73, Tryz.ntmps73
  go_wp2_with (at_make; refine wpList_make_full _ rfl (.tmp 10) (.tmp 10) 55 rfl w.heap.size 4 i0 (.bool false) 1 Tryz.underlying55 hi0 hz0 hz1 .i64 .i64 _ _ (t.size + 1) rfl rfl (by go_num) (by go_num) hi8 (by unfold maxLen; omega) (Nat.le_refl _) ?_; intro w1 ho hg; have HMK := hid (made_fn (z := .bool false) rfl ho); have HMB := hid (below_none hg); clear ho hg)
  obtain ⟨g, hg⟩ : ∃ g, g = w.heap.size := ⟨_, rfl⟩
  rw [← hg] at HMK ⊢
  have HG := hid hg
  have HM0 : Hid (w1.heap[g]? = some (.cells (bA (t.size + 1) 0 f) 4 (0, 0))) := hid (by rw [HMK.out]; congr 2; try exact fnA_ext fun i _ => by simp)
  have HB1 := HMB
  clear HMK HMB hg
  go_loopw [6, 7] (fun qv iv wr => ∃ i : Nat, i ≤ t.size ∧ iv = .int .i64 i ∧ qv = .int .i64 (runN δ 0 (l.take i) : Nat) ∧ Hid (wr.heap[g]? = some (.cells (bA (t.size + 1) i f) 4 (0, 0)) ∧ Below w.heap.size w wr)) (fun _ iv _ => t.size - (intOf iv).toNat)
  case atStart => exact ⟨0, Nat.zero_le _, rfl, rfl, HM0.out, HB1.out⟩
  case round =>
    obtain ⟨i, hi, rfl, rfl, hin⟩ := hrel
    obtain ⟨hat, hbl⟩ := hin.out
    obtain ⟨wi, hwi⟩ : ∃ W : World, W = wr := ⟨_, rfl⟩
    subst hwi
    have HAT := hid hat
    have HBL := hid hbl
    have hqn := HRL.out i
    have HY := hid (fun W (hW : Below wi.heap.size wi W) => HDC.out.yes W _ (hbl.trans (hW.mono hbl.size)) hqn)
    have HSA := HSD.out.below hbl
    obtain ⟨cS, -⟩ := HSA.cells
    have hSl := lt_of_heap HSA
    obtain ⟨v0, hv0⟩ : ∃ v, wi.cell? ⟨g, i, none⟩ = some v := ⟨_, (blk_cell hat i).trans (fnA_get (by omega))⟩
    have f0 := blk_free hat i
    have hgS : g ≠ S := by
      have := lt_of_heap HSD.out
      have := HG.out
      omega
    have hi1 : (i : Int) < (t.size : Int) + 1 := by omega
    have HFI : Hid (f i = yes (runN δ 0 (l.take i))) := hid (by rw [HF.out])
    have HSET := hid (blk_set hat i (.bool (f i)))
    rw [bA_set rfl] at HSET
    have HBS : Hid (Below w.heap.size w (wi.setCell ⟨g, i, none⟩ (.bool (f i)))) := hid (hbl.trans (KeepX.below (KeepX.set_ (X := fun k => k = g) wi ⟨g, i, none⟩ _ rfl) hbl.size fun k hk e => by have := HG.out; omega))
    rw [← HFI.out] at HY
    obtain ⟨q, hq⟩ : ∃ q, q = runN δ 0 (l.take i) := ⟨_, rfl⟩
    have HQ := hid hq
    rw [← hq] at HY hqn ⊢
    obtain ⟨b, hb⟩ : ∃ b, b = f i := ⟨_, rfl⟩
    rw [← hb] at HY HSET HBS
    have cS2 : (wi.setCell ⟨g, i, none⟩ (.bool b)).cell? ⟨S, 0, none⟩ = some (ptr Df) := (World.cell?_setCell_other wi ⟨g, i, none⟩ ⟨S, 0, none⟩ _ (fun e => hgS (congrArg Addr.block e))).trans cS
    unfold ptr at HY cS cS2
    clear hin hat hbl HSA hq hb
    by_cases him : i = t.size
    · subst him
      go_wp2_with (go_at_call 114; (with_reducible refine (HY.out _ (Below.refl _ _)).mono ?_); rintro e w4 ⟨rfl, rfl⟩)
      go_ret
      exact ⟨g, rfl, by rw [HSET.out, bA_full], HBS.out⟩
    · have hlt : i < t.size := by omega
      have hne : ¬ (i : Int) = (t.size : Int) := by omega
      have hx : l[i]? = some (t[i]'hlt) := by
        have hkl : i < t.data.toList.length := by simpa using hlt
        rw [HL.out, List.getElem?_eq_getElem hkl]
        rfl
      have HST : Hid (runN δ 0 (l.take (i + 1)) = δ q (t[i]'hlt).toNat) := hid (by rw [runN_take δ 0 hx, HQ.out])
      have HS := hid (fun W (hW : Below (wi.setCell ⟨g, i, none⟩ (.bool b)).heap.size (wi.setCell ⟨g, i, none⟩ (.bool b)) W) => HDC.out.step W q (t[i]'hlt).toNat (HBS.out.trans (hW.mono HBS.out.size)) hqn (t[i]'hlt).toNat_lt)
      rw [← HST.out] at HS
      unfold ptr at HS
      clear hx
      go_wp2_with (go_at_call 114; (with_reducible refine (HY.out _ (Below.refl _ _)).mono ?_); rintro e w4 ⟨rfl, rfl⟩)
      obtain ⟨ws, hws⟩ : ∃ W : World, W = wi.setCell ⟨g, i, none⟩ (.bool b) := ⟨_, rfl⟩
      rw [← hws] at HS HSET HBS cS2 ⊢
      have cS := cS2
      have hSl : S < ws.heap.size := World.block_lt_of_cell? ws ⟨S, 0, none⟩ cS2
      clear hws hv0 f0
      go_region_held3 (fun w' => w'.cell? ⟨S, 0, none⟩ = some (.pointer (some ⟨Df, 0, none⟩))) (first | exact cS | go_keep) (first | (go_at_call 115; refine (HS.out _ (by first | exact Below.refl _ _ | exact (Below.refl _ _).drew)).mono ?_; rintro e w5 ⟨rfl, hb1⟩; (first | (have hb1 := undrew hb1) | skip); have HB5 := hid hb1; have cS := (hb1.cell (p := ⟨S, 0, none⟩) hSl).trans cS; clear hb1))
      all_goals
        go_wp2_with fail
        go_roundw
        case rel => exact ⟨i + 1, by omega, by go_num, rfl, blk_below HSET.out HB5.out, HBS.out.trans (HB5.out.mono HBS.out.size)⟩
        case measure => simp [intOf]; omega
end Go.Proofs.YtfpfloahkibcgaaGreatDoor

/- The walk of Side.tails. -/
namespace Go.Proofs.YtfpfloahkibcgaaGreatDoor
open Go.RowKit Go.Maps

/-- The answers from place k on. -/
def tA (n k : Nat) (f : Nat → Bool) : Array Value := fnA n fun p => .bool (if k ≤ p then f p else false)
theorem tA_set {n k : Nat} {f : Nat → Bool} {b : Bool} (h : b = f k) : (tA n (k + 1) f).setIfInBounds k (.bool b) = tA n k f := by
  unfold tA
  rw [fnA_set]
  refine fnA_ext fun i _ => ?_
  by_cases e : i = k
  · subst e; rw [if_pos rfl, if_pos (by omega), h]
  · rw [if_neg e]
    by_cases h2 : k ≤ i
    · rw [if_pos h2, if_pos (by omega)]
    · rw [if_neg h2, if_neg (by omega)]
theorem tA_full (n : Nat) (f : Nat → Bool) : tA n 0 f = fnA n fun p => .bool (f p) := fnA_ext fun i _ => by rw [if_pos (Nat.zero_le _)]
theorem runN_back (δ : Nat → Nat → Nat) (q : Nat) {l : Txt} {k : Nat} {b : UInt8} (h : l[k]? = some b) : runN δ q (l.drop k).reverse = δ (runN δ q (l.drop (k + 1)).reverse) b.toNat := by
  obtain ⟨hl, e⟩ := List.getElem?_eq_some_iff.1 h
  unfold runN
  rw [List.drop_eq_getElem_cons hl, e, List.reverse_cons, List.foldl_append]
  rfl
set_option maxRecDepth 100000 in
set_option maxHeartbeats 2000000 in
theorem stails_any (S Df Db n : Nat) (δ : Nat → Nat → Nat) (yes : Nat → Bool) (t : ByteArray) (ht : t.size ≤ 1000000) (w : World) (hS : SideAt w S Df Db) (hD : DCon w Db n δ yes) (hn : 0 < n) :
    Calls Tryz.prog 72 #[ptr S, .string t] w (HdRet w (t.size + 1) fun i => yes (runN δ 0 (t.data.toList.drop i).reverse)) := by
  obtain ⟨i0, hi0, hz0, hz1, hz2⟩ := info_parts info_bool1
  obtain ⟨l, hl⟩ : ∃ l, l = t.data.toList := ⟨_, rfl⟩
  have HL := hid hl
  have HLM : Hid (l.length = t.size) := hid (by rw [hl]; simp)
  have hi8 : i0.bytes * (t.size + 1) ≤ 281474976710656 := by rw [hz2]; omega
  have HSD := hid hS
  have HDC := hid hD
  have hrl : ∀ i, runN δ 0 (l.drop i).reverse < n := fun i => runN_lt hD.closed _ 0 hn
  have HRL := hid hrl
  obtain ⟨f, hf⟩ : ∃ f : Nat → Bool, f = fun i => yes (runN δ 0 (l.drop i).reverse) := ⟨_, rfl⟩
  have HF := hid hf
  unfold HdRet
  rw [← hl, ← hf]
  clear hl hS hD hrl hf
  unfold ptr at *
  go_enter Tryz.func72, Tryz.ntmps72
  go_wp2_with (at_make; refine wpList_make_full _ rfl (.tmp 10) (.tmp 10) 55 rfl w.heap.size 4 i0 (.bool false) 1 Tryz.underlying55 hi0 hz0 hz1 .i64 .i64 _ _ (t.size + 1) rfl rfl (by go_num) (by go_num) hi8 (by unfold maxLen; omega) (Nat.le_refl _) ?_; intro w1 ho hg; have HMK := hid (made_fn (z := .bool false) rfl ho); have HMB := hid (below_none hg); clear ho hg)
  obtain ⟨g, hg⟩ : ∃ g, g = w.heap.size := ⟨_, rfl⟩
  rw [← hg] at HMK ⊢
  have HG := hid hg
  have HM0 : Hid (w1.heap[g]? = some (.cells (tA (t.size + 1) (t.size + 1) f) 4 (0, 0))) := hid (by rw [HMK.out]; congr 2; exact fnA_ext fun i hi => by simp; omega)
  have HB1 := HMB
  clear HMK HMB hg
  go_loopw [6, 7] (fun qv iv wr => ∃ i : Nat, i ≤ t.size ∧ iv = .int .i64 i ∧ qv = .int .i64 (runN δ 0 (l.drop i).reverse : Nat) ∧ Hid (wr.heap[g]? = some (.cells (tA (t.size + 1) (i + 1) f) 4 (0, 0)) ∧ Below w.heap.size w wr)) (fun _ iv _ => (intOf iv).toNat)
  case atStart => exact ⟨t.size, Nat.le_refl _, rfl, by rw [List.drop_of_length_le (by rw [HLM.out]; exact Nat.le_refl _)]; rfl, HM0.out, HB1.out⟩
  case round =>
    obtain ⟨i, hi, rfl, rfl, hin⟩ := hrel
    obtain ⟨hat, hbl⟩ := hin.out
    obtain ⟨wi, hwi⟩ : ∃ W : World, W = wr := ⟨_, rfl⟩
    subst hwi
    have HAT := hid hat
    have HBL := hid hbl
    have hqn := HRL.out i
    have HY := hid (fun W (hW : Below wi.heap.size wi W) => HDC.out.yes W _ (hbl.trans (hW.mono hbl.size)) hqn)
    have HSA := HSD.out.below hbl
    obtain ⟨-, cS⟩ := HSA.cells
    have hSl := lt_of_heap HSA
    obtain ⟨v0, hv0⟩ : ∃ v, wi.cell? ⟨g, i, none⟩ = some v := ⟨_, (blk_cell hat i).trans (fnA_get (by omega))⟩
    have f0 := blk_free hat i
    have hgS : g ≠ S := by
      have := lt_of_heap HSD.out
      have := HG.out
      omega
    have hi1 : (i : Int) < (t.size : Int) + 1 := by omega
    have HFI : Hid (f i = yes (runN δ 0 (l.drop i).reverse)) := hid (by rw [HF.out])
    have HSET := hid (blk_set hat i (.bool (f i)))
    rw [tA_set rfl] at HSET
    have HBS : Hid (Below w.heap.size w (wi.setCell ⟨g, i, none⟩ (.bool (f i)))) := hid (hbl.trans (KeepX.below (KeepX.set_ (X := fun k => k = g) wi ⟨g, i, none⟩ _ rfl) hbl.size fun k hk e => by have := HG.out; omega))
    rw [← HFI.out] at HY
    obtain ⟨q, hq⟩ : ∃ q, q = runN δ 0 (l.drop i).reverse := ⟨_, rfl⟩
    have HQ := hid hq
    rw [← hq] at HY hqn ⊢
    obtain ⟨b, hb⟩ : ∃ b, b = f i := ⟨_, rfl⟩
    rw [← hb] at HY HSET HBS
    have cS2 : (wi.setCell ⟨g, i, none⟩ (.bool b)).cell? ⟨S, 1, none⟩ = some (ptr Db) := (World.cell?_setCell_other wi ⟨g, i, none⟩ ⟨S, 1, none⟩ _ (fun e => hgS (congrArg Addr.block e))).trans cS
    unfold ptr at HY cS cS2
    clear hin hat hbl HSA hq hb
    by_cases him : i = 0
    · subst him
      go_wp2_with (go_at_call 114; (with_reducible refine (HY.out _ (Below.refl _ _)).mono ?_); rintro e w4 ⟨rfl, rfl⟩)
      go_ret
      exact ⟨g, rfl, by rw [HSET.out, tA_full], HBS.out⟩
    · obtain ⟨j, hj⟩ : ∃ j, i = j + 1 := ⟨i - 1, by omega⟩
      have HJ := hid hj
      have hlt : j < t.size := by omega
      have hne : ¬ (i : Int) = 0 := by omega
      have hx : l[j]? = some (t[j]'hlt) := by
        have hkl : j < t.data.toList.length := by simpa using hlt
        rw [HL.out, List.getElem?_eq_getElem hkl]
        rfl
      have HST : Hid (runN δ 0 (l.drop j).reverse = δ q (t[j]'hlt).toNat) := hid (by rw [runN_back δ 0 hx, HQ.out, hj])
      have HS := hid (fun W (hW : Below (wi.setCell ⟨g, i, none⟩ (.bool b)).heap.size (wi.setCell ⟨g, i, none⟩ (.bool b)) W) => HDC.out.step W q (t[j]'hlt).toNat (HBS.out.trans (hW.mono HBS.out.size)) hqn (t[j]'hlt).toNat_lt)
      rw [← HST.out] at HS
      unfold ptr at HS
      have ej : (i : Int) - 1 = (j : Int) := by omega
      have ew : IntKind.i64.wrap (j : Int) = (j : Int) := by rw [IntKind.wrap_i64]; omega
      clear hx hj
      go_wp2_with (go_at_call 114; (with_reducible refine (HY.out _ (Below.refl _ _)).mono ?_); rintro e w4 ⟨rfl, rfl⟩)
      obtain ⟨ws, hws⟩ : ∃ W : World, W = wi.setCell ⟨g, i, none⟩ (.bool b) := ⟨_, rfl⟩
      rw [← hws] at HS HSET HBS cS2 ⊢
      have cS := cS2
      have hSl : S < ws.heap.size := World.block_lt_of_cell? ws ⟨S, 1, none⟩ cS2
      clear hws hv0 f0
      go_region_held3 (fun w' => w'.cell? ⟨S, 1, none⟩ = some (.pointer (some ⟨Db, 0, none⟩))) (first | exact cS | go_keep) (first | (go_at_call 115; refine (HS.out _ (by first | exact Below.refl _ _ | exact (Below.refl _ _).drew)).mono ?_; rintro e w5 ⟨rfl, hb1⟩; (first | (have hb1 := undrew hb1) | skip); have HB5 := hid hb1; have cS := (hb1.cell (p := ⟨S, 1, none⟩) hSl).trans cS; clear hb1))
      all_goals
        go_wp2_with fail
        go_roundw
        case rel => exact ⟨j, by omega, (by first | rfl | go_num), rfl, by rw [← HJ.out]; exact blk_below HSET.out HB5.out, HBS.out.trans (HB5.out.mono HBS.out.size)⟩
        case measure => have := HJ.out; simp [intOf]; omega
end Go.Proofs.YtfpfloahkibcgaaGreatDoor

/- The walks of split.Places, split.Cat, Side.Match. -/
namespace Go.Proofs.YtfpfloahkibcgaaGreatDoor
open Go.RowKit Go.Maps

/-- The places below k. -/
def plB (f g : Nat → Bool) (k : Nat) : List Nat := (List.range k).filter fun i => f i && g i
theorem plB_succ (f g : Nat → Bool) (k : Nat) : plB f g (k + 1) = plB f g k ++ if f k && g k then [k] else [] := by
  unfold plB
  rw [List.range_succ, List.filter_append]
  cases h : (f k && g k) <;> simp [h]
theorem plB_len (f g : Nat → Bool) (k : Nat) : (plB f g k).length ≤ k := by
  unfold plB
  have := List.length_filter_le (fun i => f i && g i) (List.range k)
  simpa using this
/-- What a call of Places comes to. -/
def PlRet (w : World) (F left used m : Nat) (l : List Nat) (e : Ending) (w' : World) : Prop :=
  Below F w w' ∧ if 2 * (m + 1) ≤ left then FuelAt w' F (left - 2 * (m + 1)) (used + 2 * (m + 1)) ∧ ∃ v, e = .returned (.tuple #[v, .int .i64 0]) ∧ RdV w' v (natsV l)
    else FuelAt w' F 0 used ∧ e = .returned (.tuple #[.slice none 0 0, .int .i64 31])
set_option maxRecDepth 100000 in
set_option maxHeartbeats 4000000 in
theorem places_any (Sx Sy F left used : Nat) (f g : Nat → Bool) (t : ByteArray) (ht : t.size ≤ 1000000) (w : World) (hF : FuelAt w F left used) (hl : left ≤ 1000000000) (hu : used ≤ 1000000000)
    (hh : ∀ W, Below F w W → Calls Tryz.prog 73 #[ptr Sx, .string t] W (HdRet W (t.size + 1) f)) (htl : ∀ W, Below F w W → Calls Tryz.prog 72 #[ptr Sy, .string t] W (HdRet W (t.size + 1) g)) :
    Calls Tryz.prog 22 #[ptr Sx, ptr Sy, .string t, ptr F] w (PlRet w F left used t.size (plB f g (t.size + 1))) := by
  have hFl := lt_of_heap hF
  have HBN := hid (burn_any F left used (2 * ((t.size : Int) + 1)) w hF hl hu)
  have HHD := hid hh
  have HTL := hid htl
  unfold BurnRet at HBN
  unfold PlRet
  clear hF hh htl
  by_cases hle : 2 * (t.size + 1) ≤ left
  · simp only [if_pos (show 0 ≤ 2 * ((t.size : Int) + 1) ∧ 2 * ((t.size : Int) + 1) ≤ (left : Int) by omega)] at HBN
    simp only [if_pos hle]
    have en : (2 * ((t.size : Int) + 1)).toNat = 2 * (t.size + 1) := by omega
    rw [en] at HBN
    unfold ptr at *
    go_enter Tryz.func22, Tryz.ntmps22
    go_wp2_with (first | (go_at_call 27; refine HBN.out.mono ?_; rintro e w2 ⟨hk2, hret⟩; obtain ⟨rfl, hfu⟩ := hret; have HFU := hid hfu; have HB2 := hid (hk2.below (Nat.le_of_lt hFl) fun k hk e => by omega); have HZ2 := hid (Nat.le_trans (Nat.le_of_lt hFl) hk2.size); clear hk2 hfu) | (go_at_call 72; refine (HTL.out _ HB2.out).mono ?_; rintro e w3 ⟨gt, rfl, ht3, hb3⟩; have HT3 := hid ht3; have HB3 := hid (HB2.out.trans (hb3.mono HZ2.out)); have HZ3 := hid (Nat.le_trans HZ2.out hb3.size); have HFU := hid (HFU.out.below hb3); clear ht3 hb3) | (go_at_call 73; refine (HHD.out _ HB3.out).mono ?_; rintro e w4 ⟨gh, rfl, hh4, hb4⟩; have HH4 := hid hh4; have HT4 := hid (blk_below HT3.out hb4); have HB4 := hid (HB3.out.trans (hb4.mono HZ3.out)); have HZ4 := hid (Nat.le_trans HZ3.out hb4.size); have HFU := hid (HFU.out.below hb4); clear hh4 hb4))
    obtain ⟨base, hbase⟩ : ∃ b, b = w4.heap.size := ⟨_, rfl⟩
    have HBASE := hid hbase
    have HOWN0 : Hid (w4.ownsRow base 3 1 nilV (natsV (plB f g 0)).length (natsV (plB f g 0))) := hid (World.ownsRow_nil _ _ _ 1)
    clear hbase
    go_loopw [11, 37] (fun lv iv wr => ∃ i : Nat, i ≤ t.size + 1 ∧ iv = .int .i64 i ∧ Hid (wr.ownsRow base 3 1 lv (natsV (plB f g i)).length (natsV (plB f g i)) ∧ Below base w4 wr ∧ base ≤ wr.heap.size)) (fun _ iv _ => t.size + 1 - (intOf iv).toNat)
    case atStart => exact ⟨0, Nat.zero_le _, rfl, HOWN0.out, Below.refl _ _, Nat.le_of_eq HBASE.out⟩
    case round =>
      obtain ⟨i, hi, rfl, hin⟩ := hrel
      obtain ⟨hown, hbl, hbz⟩ := hin.out
      obtain ⟨wi, hwi⟩ : ∃ W : World, W = wr := ⟨_, rfl⟩
      subst hwi
      obtain ⟨Al, cl, hvl⟩ := own_form hown
      rw [natsV_len] at hvl
      subst hvl
      have HOWN := hid hown
      have HBL := hid hbl
      have hpl := plB_len f g i
      by_cases hlt : i < t.size + 1
      · have hgl := lt_of_heap HH4.out
        have hgt := lt_of_heap HT4.out
        have hh5 : wi.heap[gh]? = some (.cells (fnA (t.size + 1) fun p => .bool (f p)) 4 (0, 0)) := (hbl.block gh (by rw [HBASE.out]; exact hgl)).trans HH4.out
        have ht5 : wi.heap[gt]? = some (.cells (fnA (t.size + 1) fun p => .bool (g p)) 4 (0, 0)) := (hbl.block gt (by rw [HBASE.out]; exact hgt)).trans HT4.out
        have c1 := (blk_cell hh5 i).trans (fnA_get hlt)
        have c2 := (blk_cell ht5 i).trans (fnA_get hlt)
        have HS := hid (plB_succ f g i)
        have hi1 : (i : Int) < (t.size : Int) + 1 := by omega
        obtain ⟨b1, hb1⟩ : ∃ b, b = f i := ⟨_, rfl⟩
        obtain ⟨b2, hb2⟩ : ∃ b, b = g i := ⟨_, rfl⟩
        rw [← hb1] at c1 HS
        rw [← hb2] at c2 HS
        have HLEN : Hid ((natsV (plB f g i)).length = (plB f g i).length) := natsV_len _
        clear hin hown hbl hh5 ht5 hgl hgt hb1 hb2
        cases b1
        · go_wp2_with fail
          go_roundw
          case rel => exact ⟨i + 1, by omega, by go_num, by rw [HS.out]; simpa using HOWN.out, HBL.out, hbz⟩
          case measure => simp [intOf]; omega
        · cases b2
          · go_wp2_with fail
            go_roundw
            case rel => exact ⟨i + 1, by omega, by go_num, by rw [HS.out]; simpa using HOWN.out, HBL.out, hbz⟩
            case measure => simp [intOf]; omega
          · go_wp2_with (at_builtin; go_loud (refine wpList_app_one one_no _ (by rfl) (.tmp 49) (.tmp 51) (by rfl) base (.slice Al (plB f g i).length cl) (natsV (plB f g i)) (by rfl) (row_blk HOWN.out fun j e => (((Below.refl _ _ : Below wi.heap.size wi wi)).alloc (Nat.le_refl _) (.cells #[Value.int IntKind.i64 ↑i] 3)).block j (World.ownsRow.lt HOWN.out j e).2) wi.heap.size 1 (.int .i64 (i : Int)) (by rfl) (cell0_new wi (.int .i64 (i : Int)) 3) (by rfl) (by rw [HLEN.out]; omega) (Nat.le_trans hbz (Below.size (((Below.refl _ _ : Below wi.heap.size wi wi)).alloc (Nat.le_refl _) (.cells #[Value.int IntKind.i64 ↑i] 3)))) ?_; intro v9 w9 hy9 hg9 hat9; have HY9 := hid hy9; have HB9 := hid ((KeepX.of_grown (X := fun k => base ≤ k) hg9 fun k e => (World.ownsRow.lt HOWN.out k e).1)); clear hy9 hg9 hat9))
            go_roundw
            case rel =>
              have hb9 : Below base (wi.alloc (.cells #[Value.int IntKind.i64 ↑i] 3)) w9 := HB9.out.below (Nat.le_trans hbz (Below.size (((Below.refl _ _ : Below wi.heap.size wi wi)).alloc (Nat.le_refl _) (.cells #[Value.int IntKind.i64 ↑i] 3)))) fun k hk e => by omega
              refine ⟨i + 1, by omega, by go_num, ?_, (HBL.out.trans ((((Below.refl _ _ : Below wi.heap.size wi wi)).alloc (Nat.le_refl _) (.cells #[Value.int IntKind.i64 ↑i] 3)).mono hbz)).trans hb9, Nat.le_trans (Nat.le_trans hbz (Below.size (((Below.refl _ _ : Below wi.heap.size wi wi)).alloc (Nat.le_refl _) (.cells #[Value.int IntKind.i64 ↑i] 3)))) HB9.out.size⟩
              rw [HS.out]
              have e : natsV (plB f g i ++ if (true && true) = true then [i] else []) = natsV (plB f g i) ++ [Value.int .i64 (i : Int)] := by simp [natsV]
              rw [e]
              exact HY9.out
            case measure => simp [intOf]; omega
      · have him : i = t.size + 1 := by omega
        subst him
        have HRV := hid (rdV_of hown)
        have HFE := hid (HFU.out.below (by rw [HBASE.out] at hbl; exact hbl))
        have HBE := hid (HB4.out.trans (hbl.mono (by rw [HBASE.out]; exact HZ4.out)))
        clear hin hown hbl
        go_wp2_with fail
        refine bodyPost_ret (v := .tuple #[.slice Al (plB f g (t.size + 1)).length cl, .int .i64 0]) (by simp [results, Tryz.results22, go_sem]) rfl ⟨HBE.out, HFE.out, _, rfl, HRV.out⟩
  · simp only [if_neg (show ¬ (0 ≤ 2 * ((t.size : Int) + 1) ∧ 2 * ((t.size : Int) + 1) ≤ (left : Int)) by omega)] at HBN
    simp only [if_neg hle]
    unfold ptr at *
    go_enter Tryz.func22, Tryz.ntmps22
    go_wp2_with (first | (go_at_call 27; refine HBN.out.mono ?_; rintro e w2 ⟨hk2, hret⟩; obtain ⟨rfl, hfu⟩ := hret; have HFU := hid hfu; have HB2 := hid (hk2.below (Nat.le_of_lt hFl) fun k hk e => by omega); clear hk2 hfu))
    refine bodyPost_ret (v := .tuple #[.slice none 0 0, .int .i64 31]) (by simp [results, Tryz.results22, go_sem]) rfl ⟨HB2.out, HFU.out, rfl⟩
/-- What a call of Cat comes to. -/
def CatRet (w : World) (F left used : Nat) (l : List Nat) (t : ByteArray) (e : Ending) (w' : World) : Prop :=
  Below F w w' ∧ if 2 * (t.size + 1) ≤ left then FuelAt w' F (left - 2 * (t.size + 1)) (used + 2 * (t.size + 1)) ∧
      (∀ i, l = [i] → e = .returned (.tuple #[.string (t.extract 0 i), .string (t.extract i t.size), .int .i64 0])) ∧ (l.length ≠ 1 → e = .returned (.tuple #[.string ⟨#[]⟩, .string ⟨#[]⟩, .int .i64 30]))
    else FuelAt w' F 0 used ∧ e = .returned (.tuple #[.string ⟨#[]⟩, .string ⟨#[]⟩, .int .i64 31])
set_option maxRecDepth 100000 in
set_option maxHeartbeats 1000000 in
theorem cat_split (p1 p2 p4 : Value) (F left used : Nat) (l : List Nat) (t : ByteArray) (hlt : ∀ i ∈ l, i ≤ t.size) (hll : l.length ≤ 1000000000) (w : World)
    (h : Calls Tryz.prog 22 #[p1, p2, .string t, p4] w (PlRet w F left used t.size l)) :
    Calls Tryz.prog 25 #[p1, p2, .string t, p4] w (CatRet w F left used l t) := by
  have HPL := hid h
  unfold PlRet at HPL
  unfold CatRet
  clear h
  by_cases hle : 2 * (t.size + 1) ≤ left
  · simp only [if_pos hle] at HPL ⊢
    by_cases hl : l.length = 1
    · obtain ⟨i, rfl⟩ : ∃ i, l = [i] := List.length_eq_one_iff.1 hl
      have hit := hlt i (List.mem_singleton.2 rfl)
      clear hl hlt hll
      go_enter Tryz.func25, Tryz.ntmps25
      go_wp2_with ((go_at_call 22; refine HPL.out.mono ?_; rintro e w2 ⟨hb2, hret⟩; obtain ⟨hfu, v, rfl, ⟨A, c, rfl, hrd, -⟩⟩ := hret; obtain ⟨g, o, rfl, hg, hc⟩ := hrd.2 (by simp [natsV]); have x0 := hc 0 (.int .i64 (i : Int)) rfl; rw [Nat.add_zero] at x0; rw [show (natsV [i]).length = 1 from rfl]; have HB2 := hid hb2; have HFU := hid hfu; clear hfu hb2 hrd hg hc))
      have hi0 : (0 : Int) ≤ (i : Int) := by omega
      have hi1 : (i : Int) ≤ (t.size : Int) := by omega
      go_region
      all_goals
        go_wp2_with fail
        refine bodyPost_ret (v := .tuple #[.string (t.extract 0 i), .string (t.extract i t.size), .int .i64 0]) (by simp [results, Tryz.results25, go_sem]) rfl ⟨HB2.out.trans (below_drewN _ _ 1), HFU.out.below (below_drewN _ _ 1), fun j e => (by cases e; rfl), fun e => absurd rfl e⟩
    · have hln : ¬ ((l.length : Nat) : Int) = 1 := by omega
      have HNL := hid (natsV_len l)
      go_enter Tryz.func25, Tryz.ntmps25
      go_wp2_with ((go_at_call 22; refine HPL.out.mono ?_; rintro e w2 ⟨hb2, hret⟩; obtain ⟨hfu, v, rfl, ⟨A, c, rfl, hrd, -⟩⟩ := hret; rw [HNL.out]; have HB2 := hid hb2; have HFU := hid hfu; clear hfu hb2 hrd))
      refine bodyPost_ret (v := .tuple #[.string ⟨#[]⟩, .string ⟨#[]⟩, .int .i64 30]) (by simp [results, Tryz.results25, go_sem]) rfl ⟨HB2.out, HFU.out, fun j e => absurd (by rw [e]; rfl) hl, fun _ => rfl⟩
  · simp only [if_neg hle] at HPL ⊢
    go_enter Tryz.func25, Tryz.ntmps25
    go_wp2_with ((go_at_call 22; refine HPL.out.mono ?_; rintro e w2 ⟨hb2, hret⟩; obtain ⟨hfu, rfl⟩ := hret; have HB2 := hid hb2; have HFU := hid hfu; clear hfu hb2))
    refine bodyPost_ret (v := .tuple #[.string ⟨#[]⟩, .string ⟨#[]⟩, .int .i64 31]) (by simp [results, Tryz.results25, go_sem]) rfl ⟨HB2.out, HFU.out, rfl⟩
/-- Match. -/
def SmRet (w : World) (F left used : Nat) (m : Nat) (b : Bool) (e : Ending) (w' : World) : Prop :=
  Below F w w' ∧ if m + 1 ≤ left then FuelAt w' F (left - (m + 1)) (used + (m + 1)) ∧ e = .returned (.tuple #[.bool b, .int .i64 0]) else FuelAt w' F 0 used ∧ e = .returned (.tuple #[.bool false, .int .i64 31])
set_option maxRecDepth 100000 in
set_option maxHeartbeats 1000000 in
theorem smatch_any (S Df Db F left used : Nat) (b : Bool) (t : ByteArray) (ht : t.size ≤ 1000000) (w : World) (hF : FuelAt w F left used) (hl : left ≤ 1000000000) (hu : used ≤ 1000000000) (hS : SideAt w S Df Db) (hSF : S < F)
    (hm : ∀ W, Below F w W → Calls Tryz.prog 75 #[ptr Df, .string t] W fun e w' => e = .returned (.bool b) ∧ Below W.heap.size W w') :
    Calls Tryz.prog 26 #[ptr S, .string t, ptr F] w (SmRet w F left used t.size b) := by
  have hFl := lt_of_heap hF
  have HBN := hid (burn_any F left used ((t.size : Int) + 1) w hF hl hu)
  have HM := hid hm
  have HS := hid (fun W (hW : Below F w W) => (blk_cell ((hW.block S hSF).trans hS) 0).trans (show #[ptr Df, ptr Db][0]? = some (ptr Df) from rfl))
  unfold BurnRet at HBN
  unfold SmRet
  clear hF hS hm
  by_cases hle : t.size + 1 ≤ left
  · simp only [if_pos (show 0 ≤ (t.size : Int) + 1 ∧ (t.size : Int) + 1 ≤ (left : Int) by omega)] at HBN
    simp only [if_pos hle]
    have en : ((t.size : Int) + 1).toNat = t.size + 1 := by omega
    rw [en] at HBN
    unfold ptr at *
    go_enter Tryz.func26, Tryz.ntmps26
    go_wp2_with (first | (go_at_call 27; refine HBN.out.mono ?_; rintro e w2 ⟨hk2, hret⟩; obtain ⟨rfl, hfu⟩ := hret; have HFU := hid hfu; have HB2 := hid (hk2.below (Nat.le_of_lt hFl) fun k hk e => by omega); have HZ2 := hid (Nat.le_trans (Nat.le_of_lt hFl) hk2.size); have cS := HS.out _ HB2.out; clear hk2 hfu) | (go_at_call 75; refine (HM.out _ HB2.out).mono ?_; rintro e w3 ⟨rfl, hb3⟩; have HB3 := hid (HB2.out.trans (hb3.mono HZ2.out)); have HF3 := hid (HFU.out.below hb3); clear hb3))
    refine bodyPost_ret (v := .tuple #[.bool b, .int .i64 0]) (by simp [results, Tryz.results26, go_sem]) rfl ⟨HB3.out, HF3.out, rfl⟩
  · simp only [if_neg (show ¬ (0 ≤ (t.size : Int) + 1 ∧ (t.size : Int) + 1 ≤ (left : Int)) by omega)] at HBN
    simp only [if_neg hle]
    unfold ptr at *
    go_enter Tryz.func26, Tryz.ntmps26
    go_wp2_with ((go_at_call 27; refine HBN.out.mono ?_; rintro e w2 ⟨hk2, hret⟩; obtain ⟨rfl, hfu⟩ := hret; have HFU := hid hfu; have HB2 := hid (hk2.below (Nat.le_of_lt hFl) fun k hk e => by omega); clear hk2 hfu))
    refine bodyPost_ret (v := .tuple #[.bool false, .int .i64 31]) (by simp [results, Tryz.results26, go_sem]) rfl ⟨HB2.out, HFU.out, rfl⟩
end Go.Proofs.YtfpfloahkibcgaaGreatDoor
