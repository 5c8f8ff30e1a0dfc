/- PkG: Opened, RowKit, each with its own sentence. -/
import Derived.Test.YtfpfloahkibcgaaGreatDoorPkD
import Derived.ProofKit
import Derived.LaidMore
import Derived.OpenShut
import Derived.Stop.Joined
import Derived.SliceStrings
import Derived.ChangeAt
import Derived.ChangeArms
import Derived.Test.YtfpfloahkibcgaaGreatDoorTie
/- What the arguments hold: shapes. -/
namespace Go.Proofs.YtfpfloahkibcgaaGreatDoor
open Go.ChangeShapes Go.WideShapes Go.ChangeAt Go.WideMaps Go.WideElems Go.RowKit

/-- Lists of things, one for each number. -/
theorem list_of {α β : Type} {P : Nat → α → β → Prop} : ∀ n : Nat, (∀ i, i < n → ∃ a b, P i a b) →
    ∃ (xs : List α) (bs : List β), xs.length = n ∧ bs.length = n ∧ ∀ (i : Nat) (a : α) (b : β), xs[i]? = some a → bs[i]? = some b → P i a b
  | 0, _ => ⟨[], [], rfl, rfl, fun i a b h => by simp at h⟩
  | n + 1, h => by
    obtain ⟨xs, bs, h1, h2, h3⟩ := list_of n (fun i hi => h i (by omega))
    obtain ⟨a, b, hab⟩ := h n (by omega)
    refine ⟨xs ++ [a], bs ++ [b], by simp [h1], by simp [h2], fun i x y hx hy => ?_⟩
    rcases Nat.lt_trichotomy i n with hi | hi | hi
    · rw [List.getElem?_append_left (by omega)] at hx hy
      exact h3 i x y hx hy
    · subst hi
      rw [List.getElem?_append_right (by omega), h1] at hx
      rw [List.getElem?_append_right (by omega), h2] at hy
      simp at hx hy
      subst hx; subst hy
      exact hab
    · rw [List.getElem?_eq_none (by simp [h1]; omega)] at hx
      cases hx

section
variable {H : Type} {enc : TypeId × Value → H} {w : World} {sp : Nat → Bool} {held : Bool}
theorem maxLen_eq : maxLen = 9223372036854775807 := by decide
/-- The types that a shape is made of. -/
structure ShTypes (P : Program) (tS tL tI tB tG : TypeId) (fs : Array Field) (f0 f1 f2 f3 f4 : Field) : Prop where
  S : P.underlying tS = some (.struct fs)
  L : P.underlying tL = some (.slice tS)
  I : P.underlying tI = some (.int .i64)
  B : P.underlying tB = some (.int .u8)
  G : P.underlying tG = some .string
  cS : P.cellsOf tS = 5
  cL : P.cellsOf tL = 1
  cI : P.cellsOf tI = 1
  cB : P.cellsOf tB = 1
  cG : P.cellsOf tG = 1
  n : fs.size = 5
  e0 : fs[0]? = some f0 ∧ f0.type = tI ∧ f0.offset = 0
  e1 : fs[1]? = some f1 ∧ f1.type = tB ∧ f1.offset = 1
  e2 : fs[2]? = some f2 ∧ f2.type = tB ∧ f2.offset = 2
  e3 : fs[3]? = some f3 ∧ f3.type = tG ∧ f3.offset = 3
  e4 : fs[4]? = some f4 ∧ f4.type = tL ∧ f4.offset = 4
variable {P : Program} {tS tL tI tB tG : TypeId} {fs : Array Field} {f0 f1 f2 f3 f4 : Field}

/-- The cells of a shape. -/
def shCells (s : Shp) (A : Option Addr) (c : Nat) : List Value := [.int .i64 s.op, .int .u8 s.low, .int .u8 s.high, .string s.text, .slice A s.kids.length c]

theorem open_kids (T : ShTypes P tS tL tI tB tG fs f0 f1 f2 f3 f4) {n : Nat} (ih : ∀ m, m < n → ∀ (cs : List Value) (x : DataW H × List MemPlace), DataW.trod enc P w 0 sp held m tS cs = some x → ∃ s A c, cs = shCells s A c ∧ ShAt w s (A, c))
    {cs : List Value} {x : DataW H × List MemPlace} (h : DataW.trod enc P w 0 sp held n tL cs = some x) :
    ∃ (A : Option Addr) (c : Nat) (ks : List Shp), cs = [.slice A ks.length c] ∧ CapOk ks.length A c ∧ ks.length ≤ 9223372036854775807 ∧ ShKids w A ks := by
  rcases DataW.trod_slice T.L h with ⟨rfl, _⟩ | ⟨a, len, cap, elems, rest, m, rfl, rfl, rfl, hb, hl, hm, hlen, hel, _⟩
  · exact ⟨none, 0, [], rfl, ⟨Nat.le_refl _, fun _ => rfl⟩, Nat.zero_le _, [], ⟨rfl, fun h => absurd h (by simp)⟩, fun j k h' e => by simp at e⟩
  have hsp : 0 < len → a.spot = none := fun hi => by
    have he := hel 0 hi
    have hei : elems[0]? = some elems[0] := List.getElem?_eq_getElem (by omega)
    rw [hei, T.cS, Option.bind_eq_some_iff] at he
    obtain ⟨cs, hcs, hx⟩ := he
    obtain ⟨s, A, c, rfl, hat⟩ := ih m (by omega) cs _ hx
    obtain ⟨_, _, hc⟩ := World.cells?_some hcs
    have h0 := hc 0 (by omega)
    have e0 : (a.add (0 * 5)).add 0 = a := by simp [Addr.add]
    rw [e0] at h0
    cases hq : a.spot with
    | none => rfl
    | some q =>
      unfold World.cell? at h0
      split at h0
      · rw [hq] at h0; simp [shCells] at h0
      · simp [shCells] at h0
  have each : ∀ i, i < len → ∃ (s : Shp) (hd : Hd), ((a.spot = none ∧ a.block < w.heap.size) ∧ w.cell? ⟨a.block, a.off + i * 5, none⟩ = some (.int .i64 s.op) ∧ w.cell? ⟨a.block, a.off + i * 5 + 1, none⟩ = some (.int .u8 s.low) ∧ w.cell? ⟨a.block, a.off + i * 5 + 2, none⟩ = some (.int .u8 s.high) ∧
      w.cell? ⟨a.block, a.off + i * 5 + 3, none⟩ = some (.string s.text) ∧ w.cell? ⟨a.block, a.off + i * 5 + 4, none⟩ = some (.slice hd.1 s.kids.length hd.2)) ∧ ShAt w s hd := by
    intro i hi
    have he := hel i hi
    have hei : elems[i]? = some elems[i] := List.getElem?_eq_getElem (by omega)
    rw [hei, T.cS, Option.bind_eq_some_iff] at he
    obtain ⟨cs, hcs, hx⟩ := he
    obtain ⟨s, A, c, rfl, hat⟩ := ih m (by omega) cs _ hx
    obtain ⟨_, _, hc⟩ := World.cells?_some hcs
    have h0 := hc 0 (by omega); have h1 := hc 1 (by omega); have h2 := hc 2 (by omega); have h3 := hc 3 (by omega); have h4 := hc 4 (by omega)
    have hsp := hsp (by omega)
    have ea : ∀ k, (a.add (i * 5)).add k = ⟨a.block, a.off + i * 5 + k, none⟩ := fun k => by
      cases a with
      | mk b o q =>
        simp only at hsp
        subst hsp
        simp only [Addr.add]
        split <;> split <;> simp_all
    rw [ea] at h0 h1 h2 h3 h4
    have hlt : a.block < w.heap.size := World.block_lt_of_cell? w ⟨a.block, a.off + i * 5 + 1, none⟩ h1
    exact ⟨s, (A, c), ⟨⟨hsp, hlt⟩, by simpa [shCells] using h0, by simpa [shCells] using h1, by simpa [shCells] using h2, by simpa [shCells] using h3, by simpa [shCells] using h4⟩, hat⟩
  obtain ⟨ks, hs, hk1, hk2, hall⟩ := list_of len each
  refine ⟨some a, cap, ks, by rw [hk1], ⟨by omega, fun h => by cases h⟩, by rw [hk1]; rw [maxLen_eq] at hm; exact Nat.le_trans hl hm, hs, ⟨by omega, fun hn => ?_⟩, fun j k h' e1 e2 => (hall j k h' e1 e2).2⟩
  obtain ⟨k0, hk0⟩ : ∃ k, ks[0]? = some k := ⟨ks[0], List.getElem?_eq_getElem hn⟩
  obtain ⟨h0, hh0⟩ : ∃ h, hs[0]? = some h := ⟨hs[0]'(by omega), List.getElem?_eq_getElem _⟩
  obtain ⟨⟨⟨hsp, hlt⟩, _⟩, _⟩ := hall 0 k0 h0 hk0 hh0
  refine ⟨a.block, a.off, ?_, hlt, fun j k h' e1 e2 => (hall j k h' e1 e2).1.2⟩
  rw [← hsp]

theorem open_shape (T : ShTypes P tS tL tI tB tG fs f0 f1 f2 f3 f4) : ∀ (n : Nat) (cs : List Value) (x : DataW H × List MemPlace), DataW.trod enc P w 0 sp held n tS cs = some x → ∃ s A c, cs = shCells s A c ∧ ShAt w s (A, c) := by
  intro n
  induction n using Nat.strongRecOn with
  | ind n ih =>
    intro cs x h
    obtain ⟨xs, m, rfl, hx, hl, hn, hf⟩ := DataW.trod_struct T.S h
    rw [T.cS] at hl
    rw [T.n] at hn
    match cs, hl with
    | [v0, v1, v2, v3, v4], _ =>
      match xs, hn with
      | [x0, x1, x2, x3, x4], _ =>
        have g0 := hf 0 _ T.e0.1; have g1 := hf 1 _ T.e1.1; have g2 := hf 2 _ T.e2.1; have g3 := hf 3 _ T.e3.1; have g4 := hf 4 _ T.e4.1
        rw [T.e0.2.1, T.e0.2.2, T.cI] at g0
        rw [T.e1.2.1, T.e1.2.2, T.cB] at g1
        rw [T.e2.2.1, T.e2.2.2, T.cB] at g2
        rw [T.e3.2.1, T.e3.2.2, T.cG] at g3
        rw [T.e4.2.1, T.e4.2.2, T.cL] at g4
        simp only [List.drop, List.take, List.getElem?_cons_zero, List.getElem?_cons_succ] at g0 g1 g2 g3 g4
        obtain ⟨op, e0, -, w0⟩ := DataW.trod_int T.I g0
        obtain ⟨lo, e1, -, w1⟩ := DataW.trod_int T.B g1
        obtain ⟨hi, e2, -, w2⟩ := DataW.trod_int T.B g2
        obtain ⟨t, e3, -, w3⟩ := DataW.trod_string T.G g3
        obtain ⟨A, c, ks, e4, hc, hkl, hks⟩ := open_kids T (fun k hk => ih k (by omega)) g4
        simp only [List.cons.injEq, and_true] at e0 e1 e2 e3 e4
        subst e0; subst e1; subst e2; subst e3; subst e4
        rw [maxLen_eq] at w3
        have wI : -9223372036854775808 ≤ op ∧ op < 9223372036854775808 := by
          simp only [Lit.wf, IntKind.min, IntKind.max, IntKind.signed, IntKind.bits, Bool.and_eq_true, decide_eq_true_eq, if_true] at w0
          omega
        have wB : ∀ n : Int, (Lit.int .u8 n).wf = true → 0 ≤ n ∧ n < 256 := fun n h => by
          simp only [Lit.wf, IntKind.min, IntKind.max, IntKind.signed, IntKind.bits, Bool.and_eq_true, decide_eq_true_eq, if_false, Bool.false_eq_true] at h
          omega
        obtain ⟨l0, l1⟩ := wB _ w1
        obtain ⟨h0, h1⟩ := wB _ w2
        refine ⟨.mk op lo.toNat hi.toNat t ks, A, c, ?_, .mk _ _ hks.choose ⟨wI, ?_, ?_, w3, hkl⟩ hc hks.choose_spec.1 hks.choose_spec.2⟩
        · show _ = [Value.int IntKind.i64 op, Value.int IntKind.u8 (lo.toNat : Int), Value.int IntKind.u8 (hi.toNat : Int), Value.string t, Value.slice A ks.length c]
          rw [Int.toNat_of_nonneg l0, Int.toNat_of_nonneg h0]
        · show lo.toNat < 256
          omega
        · show hi.toNat < 256
          omega
/-- A shape as an argument. -/
theorem open_shp (T : ShTypes P tS tL tI tB tG fs f0 f1 f2 f3 f4) {r : Reach} {b0 : Nat} {v : Value} {d : DataW H} {ps : List MemPlace} (hval : Value.okWide P w r b0 tS v) (hd : DataW.Trod enc P w 0 sp held tS v d ps) :
    ∃ s A c, v = Shp.val s A c ∧ ShAt w s (A, c) := by
  obtain ⟨cs, rfl, -⟩ := okWide_struct T.S hval
  obtain ⟨fuel, hf⟩ := hd
  obtain ⟨s, A, c, h, hat⟩ := open_shape T _ _ _ hf
  have h' : cs.toList = shCells s A c := h
  refine ⟨s, A, c, ?_, hat⟩
  have : cs = (shCells s A c).toArray := by rw [← h']
  rw [this]
  rfl
/-- Shapes as an argument. -/
theorem open_shps (T : ShTypes P tS tL tI tB tG fs f0 f1 f2 f3 f4) {r : Reach} {b0 : Nat} {v : Value} {d : DataW H} {ps : List MemPlace} (hval : Value.okWide P w r b0 tL v) (hd : DataW.Trod enc P w 0 sp held tL v d ps) :
    ∃ A c ks, v = .slice A ks.length c ∧ CapOk ks.length A c ∧ ks.length ≤ 9223372036854775807 ∧ ShKids w A ks := by
  obtain ⟨a, len, cap, rfl⟩ := okWide_slice T.L hval
  obtain ⟨fuel, hf⟩ := hd
  obtain ⟨A, c, ks, h, h1, h2, h3⟩ := open_kids T (fun m _ cs x hx => open_shape T m cs x hx) hf
  refine ⟨A, c, ks, ?_, h1, h2, h3⟩
  simpa [Value.cells] using h
end

theorem shTypes : ∃ fs f0 f1 f2 f3 f4, ShTypes Tryz.prog 24 22 3 5 9 fs f0 f1 f2 f3 f4 := ⟨_, _, _, _, _, _, {
  S := Tryz.underlying24
  L := Tryz.underlying22
  I := Tryz.underlying3
  B := Tryz.underlying5
  G := Tryz.underlying9
  cS := by kernel_rfl
  cL := by kernel_rfl
  cI := by kernel_rfl
  cB := by kernel_rfl
  cG := by kernel_rfl
  n := rfl
  e0 := ⟨rfl, rfl, rfl⟩
  e1 := ⟨rfl, rfl, rfl⟩
  e2 := ⟨rfl, rfl, rfl⟩
  e3 := ⟨rfl, rfl, rfl⟩
  e4 := ⟨rfl, rfl, rfl⟩ }⟩
end Go.Proofs.YtfpfloahkibcgaaGreatDoor

/- What every row of this seat shares: the start that fits, and what the listed tables give. -/
namespace Go.Proofs.YtfpfloahkibcgaaGreatDoor
open Go.ChangeShapes Go.WideShapes Go.ChangeAt Go.WideMaps Go.WideElems Go.RowKit

theorem own : ownKnob Tryz.prog.godebug = none := by kernel_rfl
theorem laidOut : laidOutB Tryz.prog = true := by kernel_rfl
/-- The row's listed tables. -/
abbrev laidL : List (String × DataW Unit) := [("math/bits.deBruijn32tab", Rows.laid_math_bits_deBruijn32tab), ("math/bits.deBruijn64tab", Rows.laid_math_bits_deBruijn64tab), ("internal/strconv.uint64pow10", Rows.laid_internal_strconv_uint64pow10)]
set_option maxRecDepth 100000 in
theorem door_met (os : Os) (args : Array Value) : laidMetH Tryz.prog laidL ((World.doorLaid Tryz.prog 400 os).forCall (fun _ _ => 0) ⟨#[], args, []⟩).memory :=
  laidMetH_of_parts3 (fuel := 8) (laidMet_of_run' 8 (by kernel_rfl) (by kernel_rfl)) (by kernel_rfl) (by kernel_rfl)
end Go.Proofs.YtfpfloahkibcgaaGreatDoor
