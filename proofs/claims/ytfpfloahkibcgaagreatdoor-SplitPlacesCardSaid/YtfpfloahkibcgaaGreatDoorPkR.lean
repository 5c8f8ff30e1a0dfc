/- PkR: Short, ShortM, ShortP, each with its own sentence. -/
import Derived.Test.YtfpfloahkibcgaaGreatDoorDfaPlain
import Derived.Test.YtfpfloahkibcgaaGreatDoorSortedW
import Derived.Test.YtfpfloahkibcgaaGreatDoorLeastW
/- Plain: texts by length, then byte by byte; the least text by going through states in breadth. -/
namespace Go.Proofs.YtfpfloahkibcgaaGreatDoor

/-- Byte by byte: texts of one length. -/
def lexLt : Txt → Txt → Prop
  | a :: u, b :: v => a.toNat < b.toNat ∨ (a = b ∧ lexLt u v)
  | _, _ => False
/-- By length, then byte by byte. -/
def slt (u v : Txt) : Prop := u.length < v.length ∨ (u.length = v.length ∧ lexLt u v)
def sle (u v : Txt) : Prop := u = v ∨ slt u v
theorem lexLt_irrefl : ∀ u : Txt, ¬ lexLt u u
  | [], h => h
  | a :: u, h => by
    rcases h with h | ⟨-, h⟩
    · omega
    · exact lexLt_irrefl u h
theorem lexLt_trans : ∀ {u v x : Txt}, lexLt u v → lexLt v x → lexLt u x
  | [], _, _, h, _ => by cases h
  | _ :: _, [], _, h, _ => by cases h
  | _ :: _, _ :: _, [], _, h => by cases h
  | a :: u, b :: v, c :: x, h1, h2 => by
    rcases h1 with h1 | ⟨rfl, h1⟩ <;> rcases h2 with h2 | ⟨rfl, h2⟩
    · exact .inl (by omega)
    · exact .inl h1
    · exact .inl h2
    · exact .inr ⟨rfl, lexLt_trans h1 h2⟩
theorem lexLt_tri : ∀ {u v : Txt}, u.length = v.length → u = v ∨ lexLt u v ∨ lexLt v u
  | [], [], _ => .inl rfl
  | [], _ :: _, h => by cases h
  | _ :: _, [], h => by cases h
  | a :: u, b :: v, h => by
    rcases Nat.lt_trichotomy a.toNat b.toNat with hl | he | hl
    · exact .inr (.inl (.inl hl))
    · have e : a = b := UInt8.toNat_inj.1 he
      rcases lexLt_tri (u := u) (v := v) (by simpa using h) with h | h | h
      · exact .inl (by rw [e, h])
      · exact .inr (.inl (.inr ⟨e, h⟩))
      · exact .inr (.inr (.inr ⟨e.symm, h⟩))
    · exact .inr (.inr (.inl hl))
theorem lexLt_app : ∀ {u v : Txt} (x y : Txt), lexLt u v → lexLt (u ++ x) (v ++ y)
  | [], _, _, _, h => by cases h
  | _ :: _, [], _, _, h => by cases h
  | a :: u, b :: v, x, y, h => by
    rcases h with h | ⟨rfl, h⟩
    · exact .inl h
    · exact .inr ⟨rfl, lexLt_app x y h⟩
theorem lexLt_last : ∀ (u : Txt) {a b : UInt8}, a.toNat < b.toNat → lexLt (u ++ [a]) (u ++ [b])
  | [], _, _, h => .inl h
  | _ :: u, _, _, h => .inr ⟨rfl, lexLt_last u h⟩
theorem slt_irrefl (u : Txt) : ¬ slt u u := fun h => by
  rcases h with h | ⟨-, h⟩
  · omega
  · exact lexLt_irrefl u h
theorem slt_trans {u v x : Txt} (h1 : slt u v) (h2 : slt v x) : slt u x := by
  rcases h1 with h1 | ⟨e1, h1⟩ <;> rcases h2 with h2 | ⟨e2, h2⟩
  · exact .inl (by omega)
  · exact .inl (by omega)
  · exact .inl (by omega)
  · exact .inr ⟨by omega, lexLt_trans h1 h2⟩
theorem sle_slt {u v x : Txt} (h1 : sle u v) (h2 : slt v x) : slt u x := by
  rcases h1 with rfl | h1
  · exact h2
  · exact slt_trans h1 h2
theorem sle_trans {u v x : Txt} (h1 : sle u v) (h2 : sle v x) : sle u x := by
  rcases h2 with rfl | h2
  · exact h1
  · exact .inr (sle_slt h1 h2)
theorem slt_tri (u v : Txt) : u = v ∨ slt u v ∨ slt v u := by
  rcases Nat.lt_trichotomy u.length v.length with h | h | h
  · exact .inr (.inl (.inl h))
  · rcases lexLt_tri h with h2 | h2 | h2
    · exact .inl h2
    · exact .inr (.inl (.inr ⟨h, h2⟩))
    · exact .inr (.inr (.inr ⟨h.symm, h2⟩))
  · exact .inr (.inr (.inl h))
theorem slt_asymm {u v : Txt} (h : slt u v) : ¬ slt v u := fun h2 => slt_irrefl u (slt_trans h h2)
theorem slt_snoc {u v : Txt} (a b : UInt8) (h : slt u v) : slt (u ++ [a]) (v ++ [b]) := by
  rcases h with h | ⟨e, h⟩
  · exact .inl (by simp; omega)
  · exact .inr ⟨by simp [e], lexLt_app _ _ h⟩
theorem sle_snoc {u v : Txt} (a : UInt8) (h : sle u v) : sle (u ++ [a]) (v ++ [a]) := by
  rcases h with rfl | h
  · exact .inl rfl
  · exact .inr (slt_snoc a a h)
theorem slt_last (u : Txt) {a b : UInt8} (h : a.toNat < b.toNat) : slt (u ++ [a]) (u ++ [b]) := .inr ⟨by simp, lexLt_last u h⟩
theorem slt_self (u : Txt) (a : UInt8) : slt u (u ++ [a]) := .inl (by simp)
theorem slt_nil (u : Txt) (a : UInt8) : slt [] (u ++ [a]) := .inl (by simp)

/-- A state, the text by which it was come to, from which one, by which byte. -/
structure Nd where
  q : Nat
  t : Txt
  p : Int
  b : Nat
def root : Nd := ⟨0, [], -1, 0⟩
section
variable (δ : Nat → Nat → Nat) (yes : Nat → Bool)
/-- One byte of a state. -/
def pushN (nd : Nd) (L : List Nd) (h : Nat) : List Nd := if L.any (fun x => x.q == δ nd.q h) then L else L ++ [⟨δ nd.q h, nd.t ++ [UInt8.ofNat h], nd.q, h⟩]
def rowN (nd : Nd) : List Nat → List Nd → List Nd
  | [], L => L
  | h :: hs, L => rowN nd hs (pushN δ nd L h)
def runN (q : Nat) (t : Txt) : Nat := t.foldl (fun q b => δ q b.toNat) q
theorem runN_snoc (q : Nat) (t : Txt) (b : UInt8) : runN δ q (t ++ [b]) = δ (runN δ q t) b.toNat := by
  unfold runN
  rw [List.foldl_append]
  rfl
/-- What holds while states are gone through: those ahead of number i are done, of number i the bytes pre. -/
structure BInv (hs : List Nat) (i : Nat) (pre : List Nat) (L : List Nd) : Prop where
  root : L[0]? = some root
  par : ∀ (m : Nat) (nd : Nd), L[m]? = some nd → 0 < m → ∃ (k : Nat) (pn : Nd) (h : Nat), L[k]? = some pn ∧ k < m ∧ (k < i ∨ (k = i ∧ h ∈ pre)) ∧ h ∈ hs ∧ nd.q = δ pn.q h ∧ nd.t = pn.t ++ [UInt8.ofNat h] ∧ nd.p = (pn.q : Int) ∧ nd.b = h
  dis : ∀ (m m' : Nat) (nd nd' : Nd), L[m]? = some nd → L[m']? = some nd' → nd.q = nd'.q → m = m'
  ord : ∀ (m m' : Nat) (nd nd' : Nd), m < m' → L[m]? = some nd → L[m']? = some nd' → slt nd.t nd'.t
  done : ∀ (k : Nat) (nd : Nd) (h : Nat), L[k]? = some nd → ((k < i ∧ h ∈ hs) ∨ (k = i ∧ h ∈ pre)) → ∃ (m : Nat) (nd' : Nd), L[m]? = some nd' ∧ nd'.q = δ nd.q h ∧ sle nd'.t (nd.t ++ [UInt8.ofNat h])
  no : ∀ (k : Nat) (nd : Nd), k < i → L[k]? = some nd → yes nd.q = false
variable {δ : Nat → Nat → Nat} {yes : Nat → Bool} {hs : List Nat} {i : Nat} {pre : List Nat} {L : List Nd} {nd : Nd}
theorem BInv.start (hs : List Nat) : BInv δ yes hs 0 [] [Go.Proofs.YtfpfloahkibcgaaGreatDoor.root] where
  root := rfl
  par m nd h hm := by
    have := (List.getElem?_eq_some_iff.1 h).1
    simp at this
    omega
  dis m m' nd nd' h1 h2 _ := by
    have := (List.getElem?_eq_some_iff.1 h1).1
    have := (List.getElem?_eq_some_iff.1 h2).1
    simp at *
    omega
  ord m m' nd nd' hm h1 h2 := by
    have := (List.getElem?_eq_some_iff.1 h2).1
    simp at this
    omega
  done k nd h _ hk := by
    rcases hk with ⟨hk, -⟩ | ⟨-, hk⟩
    · omega
    · cases hk
  no k nd hk := by omega
/-- All texts that are there are ahead of the next one. -/
theorem BInv.ahead {h : Nat} (hI : BInv δ yes hs i pre L) (hi : L[i]? = some nd) (hp : ∀ x ∈ pre, x < h) (h256 : h < 256) {m : Nat} {x : Nd} (hm : L[m]? = some x) : slt x.t (nd.t ++ [UInt8.ofNat h]) := by
  by_cases hm0 : m = 0
  · subst hm0
    rw [hI.root] at hm
    cases hm
    exact slt_nil _ _
  · obtain ⟨k, pn, h', e1, -, e3, -, -, e6, -, -⟩ := hI.par m x hm (by omega)
    rw [e6]
    rcases e3 with hk | ⟨rfl, hk⟩
    · exact slt_snoc _ _ (hI.ord k i pn nd hk e1 hi)
    · rw [hi] at e1
      cases e1
      have hlt := hp h' hk
      refine slt_last _ ?_
      have a1 : (UInt8.ofNat h').toNat = h' := by simp; omega
      have a2 : (UInt8.ofNat h).toNat = h := by simp; omega
      rw [a1, a2]
      exact hlt
theorem BInv.push {h : Nat} (hI : BInv δ yes hs i pre L) (hi : L[i]? = some nd) (hh : h ∈ hs) (hp : ∀ x ∈ pre, x < h) (h256 : h < 256) : BInv δ yes hs i (pre ++ [h]) (pushN δ nd L h) := by
  unfold pushN
  cases ha : L.any (fun x => x.q == δ nd.q h) with
  | true =>
    rw [if_pos rfl]
    obtain ⟨x, hx, hq⟩ := List.any_eq_true.1 ha
    obtain ⟨m, hm⟩ := List.getElem?_of_mem hx
    exact { hI with
      par := fun m nd' e hm => by
        obtain ⟨k, pn, h', e1, e2, e3, e4⟩ := hI.par m nd' e hm
        exact ⟨k, pn, h', e1, e2, e3.imp id fun h => ⟨h.1, List.mem_append_left _ h.2⟩, e4⟩
      done := fun k nd' h' e hk => by
        rcases hk with hk | ⟨rfl, hk⟩
        · exact hI.done k nd' h' e (.inl hk)
        · rcases List.mem_append.1 hk with hk | hk
          · exact hI.done k nd' h' e (.inr ⟨rfl, hk⟩)
          · rw [List.mem_singleton.1 hk]
            rw [hi] at e
            cases e
            exact ⟨m, x, hm, by simpa using hq, .inr (hI.ahead hi hp h256 hm)⟩ }
  | false =>
    rw [if_neg (by simp)]
    have hno : ∀ (m : Nat) (x : Nd), L[m]? = some x → x.q ≠ δ nd.q h := fun m x hm e => by
      rw [List.any_eq_false] at ha
      exact ha x (List.mem_of_getElem? hm) (by simp [e])
    have hold : ∀ (m : Nat) (x : Nd), L[m]? = some x → (L ++ [(⟨δ nd.q h, nd.t ++ [UInt8.ofNat h], nd.q, h⟩ : Nd)])[m]? = some x := fun m x hm => by
      rw [List.getElem?_append_left (List.getElem?_eq_some_iff.1 hm).1]
      exact hm
    have hcase : ∀ (m : Nat) (x : Nd), (L ++ [(⟨δ nd.q h, nd.t ++ [UInt8.ofNat h], nd.q, h⟩ : Nd)])[m]? = some x → L[m]? = some x ∨ (m = L.length ∧ x = ⟨δ nd.q h, nd.t ++ [UInt8.ofNat h], nd.q, h⟩) := fun m x hm => by
      by_cases hl : m < L.length
      · rw [List.getElem?_append_left hl] at hm
        exact .inl hm
      · rw [List.getElem?_append_right (by omega)] at hm
        have h0 : m - L.length = 0 := by
          have := (List.getElem?_eq_some_iff.1 hm).1
          simp at this
          omega
        rw [h0] at hm
        exact .inr ⟨by omega, by simpa using hm.symm⟩
    have hil := (List.getElem?_eq_some_iff.1 hi).1
    have hlen : ∀ (m : Nat) (x : Nd), L[m]? = some x → m < L.length := fun m x hm => (List.getElem?_eq_some_iff.1 hm).1
    exact {
      root := hold 0 _ hI.root
      par := fun m x hm h0 => by
        rcases hcase m x hm with hm | ⟨rfl, rfl⟩
        · obtain ⟨k, pn, h', e1, e2, e3, e4⟩ := hI.par m x hm h0
          exact ⟨k, pn, h', hold k pn e1, e2, e3.imp id fun h => ⟨h.1, List.mem_append_left _ h.2⟩, e4⟩
        · exact ⟨i, nd, h, hold i nd hi, hil, .inr ⟨rfl, List.mem_append_right _ (List.mem_singleton.2 rfl)⟩, hh, rfl, rfl, rfl, rfl⟩
      dis := fun m m' x x' e1 e2 eq => by
        rcases hcase m x e1 with e1 | ⟨rfl, rfl⟩ <;> rcases hcase m' x' e2 with e2 | ⟨rfl, rfl⟩
        · exact hI.dis m m' x x' e1 e2 eq
        · exact absurd eq (hno m x e1)
        · exact absurd eq.symm (hno m' x' e2)
        · rfl
      ord := fun m m' x x' hm e1 e2 => by
        rcases hcase m x e1 with e1 | ⟨rfl, rfl⟩ <;> rcases hcase m' x' e2 with e2 | ⟨rfl, rfl⟩
        · exact hI.ord m m' x x' hm e1 e2
        · exact hI.ahead hi hp h256 e1
        · have := hlen m' x' e2; omega
        · omega
      done := fun k x h' e hk => by
        rcases hcase k x e with e | ⟨rfl, rfl⟩
        · rcases hk with hk | ⟨rfl, hk⟩
          · obtain ⟨m, nd', f1, f2, f3⟩ := hI.done k x h' e (.inl hk)
            exact ⟨m, nd', hold m nd' f1, f2, f3⟩
          · rcases List.mem_append.1 hk with hk | hk
            · obtain ⟨m, nd', f1, f2, f3⟩ := hI.done k x h' e (.inr ⟨rfl, hk⟩)
              exact ⟨m, nd', hold m nd' f1, f2, f3⟩
            · rw [List.mem_singleton.1 hk]
              rw [hi] at e
              cases e
              exact ⟨L.length, _, by rw [List.getElem?_append_right (Nat.le_refl _), Nat.sub_self]; rfl, rfl, .inl rfl⟩
        · rcases hk with ⟨hk, -⟩ | ⟨hk, -⟩ <;> omega
      no := fun k x hk e => by
        rcases hcase k x e with e | ⟨rfl, rfl⟩
        · exact hI.no k x hk e
        · omega }
theorem BInv.next (hI : BInv δ yes hs i hs L) (hi : L[i]? = some nd) (hy : yes nd.q = false) : BInv δ yes hs (i + 1) [] L :=
  { hI with
    par := fun m x e hm => by
      obtain ⟨k, pn, h', e1, e2, e3, e4⟩ := hI.par m x e hm
      exact ⟨k, pn, h', e1, e2, .inl (by rcases e3 with h | h <;> omega), e4⟩
    done := fun k x h e hk => by
      rcases hk with ⟨hk, hh⟩ | ⟨-, hk⟩
      · refine hI.done k x h e ?_
        by_cases hki : k < i
        · exact .inl ⟨hki, hh⟩
        · exact .inr ⟨by omega, hh⟩
      · cases hk
    no := fun k x hk e => by
      by_cases hki : k < i
      · exact hI.no k x hki e
      · have : k = i := by omega
        subst this
        rw [hi] at e
        cases e
        exact hy }
/-- The text leads to its state. -/
theorem BInv.run (hI : BInv δ yes hs i pre L) (h256 : ∀ h ∈ hs, h < 256) : ∀ (m : Nat) (x : Nd), L[m]? = some x → runN δ 0 x.t = x.q := fun m => by
  induction m using Nat.strongRecOn with
  | ind m ih =>
    intro x hx
    by_cases hm : m = 0
    · subst hm
      rw [hI.root] at hx
      cases hx
      rfl
    · obtain ⟨k, pn, h, e1, e2, -, e4, e5, e6, -, -⟩ := hI.par m x hx (by omega)
      have hh := h256 h e4
      have a : (UInt8.ofNat h).toNat = h := by simp; omega
      rw [e6, runN_snoc, ih k e2 pn e1, e5, a]
/-- Whatever is ahead of a text is among those that are done. -/
theorem BInv.below_ (hI : BInv δ yes hs i [] L) {T : Txt} (hT : ∀ (m : Nat) (x : Nd), L[m]? = some x → slt x.t T → m < i) : ∀ (u : Txt), (∀ b ∈ u, b.toNat ∈ hs) → slt u T → ∃ (k : Nat) (x : Nd), k < i ∧ L[k]? = some x ∧ runN δ 0 u = x.q ∧ sle x.t u := fun u => by
  induction hn : u.length generalizing u with
  | zero =>
    intro _ hlt
    have : u = [] := List.eq_nil_of_length_eq_zero hn
    subst this
    exact ⟨0, Go.Proofs.YtfpfloahkibcgaaGreatDoor.root, hT 0 _ hI.root hlt, hI.root, rfl, .inl rfl⟩
  | succ n ih =>
    intro hu hlt
    obtain ⟨v, b, rfl⟩ : ∃ v b, u = v ++ [b] := by
      have hne : u ≠ [] := fun e => by rw [e] at hn; cases hn
      exact ⟨u.dropLast, u.getLast hne, (List.dropLast_concat_getLast hne).symm⟩
    have hb : b.toNat ∈ hs := hu b (List.mem_append_right _ (List.mem_singleton.2 rfl))
    obtain ⟨k, x, hk, hx, hr, hs'⟩ := ih v (by simpa using hn) (fun c hc => hu c (List.mem_append_left _ hc)) (slt_trans (slt_self v b) hlt)
    obtain ⟨m, y, hy, hq, hle⟩ := hI.done k x b.toNat hx (.inl ⟨hk, hb⟩)
    have e : UInt8.ofNat b.toNat = b := by simp
    rw [e] at hle
    have hle2 := sle_trans hle (sle_snoc b hs')
    exact ⟨m, y, hT m y hy (sle_slt hle2 hlt), hy, by rw [runN_snoc, hr, hq], hle2⟩
/-- THE FIRST ONE THAT IS MET IS THE LEAST. -/
theorem BInv.least (hI : BInv δ yes hs i [] L) (hi : L[i]? = some nd) (u : Txt) (hu : ∀ b ∈ u, b.toNat ∈ hs) (hy : yes (runN δ 0 u) = true) : ¬ slt u nd.t := fun hlt => by
  obtain ⟨k, x, hk, hx, hr, -⟩ := hI.below_ (T := nd.t) (fun m y hm hs => by
    rcases Nat.lt_trichotomy m i with h | h | h
    · exact h
    · subst h
      rw [hi] at hm
      cases hm
      exact absurd hs (slt_irrefl _)
    · exact absurd hs (slt_asymm (hI.ord i m nd y h hi hm))) u hu hlt
  rw [hr, hI.no k x hk hx] at hy
  cases hy
/-- WHERE NONE IS MET THERE IS NONE. -/
theorem BInv.none_ (hI : BInv δ yes hs i [] L) (hi : L.length = i) (u : Txt) (hu : ∀ b ∈ u, b.toNat ∈ hs) : yes (runN δ 0 u) = false := by
  obtain ⟨k, x, hk, hx, hr, -⟩ := hI.below_ (T := u ++ [0]) (fun m y hm _ => by have := (List.getElem?_eq_some_iff.1 hm).1; omega) u hu (slt_self u 0)
  rw [hr]
  exact hI.no k x hk hx
end
end Go.Proofs.YtfpfloahkibcgaaGreatDoor

/- How the states that are gone through in breadth lie: the map of where each was come from, the row. -/
namespace Go.Proofs.YtfpfloahkibcgaaGreatDoor
open Go.RowKit Go.Maps

/-- How an element of the map reads: a state and a byte. -/
def fromElem : Value → Option (DataW Unit × List MemPlace)
  | .agg cs => match cs.toList with
    | [.int .i64 a, .int .u8 b] => some (.agg [.lit (.int .i64 a), .lit (.int .u8 b)], [])
    | _ => none
  | _ => none
theorem fromElem_inv {v : Value} {d : DataW Unit} {ps : List MemPlace} (h : fromElem v = some (d, ps)) : ∃ a b : Int, v = .agg #[.int .i64 a, .int .u8 b] ∧ d = .agg [.lit (.int .i64 a), .lit (.int .u8 b)] := by
  unfold fromElem at h
  split at h
  · next cs =>
    split at h
    · next a b e =>
      simp only [Option.some.injEq, Prod.mk.injEq] at h
      refine ⟨a, b, ?_, h.1.symm⟩
      rw [← Array.toArray_toList (xs := cs), e]
    · cases h
  · cases h
abbrev kq (q : Nat) : Lit := .int .i64 (q : Int)
abbrev cameD (nd : Nd) : DataW Unit := .agg [.lit (.int .i64 nd.p), .lit (.int .u8 (nd.b : Int))]
abbrev zeD : DataW Unit := .agg [.lit (.int .i64 0), .lit (.int .u8 0)]
theorem kq_of (q : Nat) (hq : q ≤ 1000000) : keyOf Tryz.prog 3 (.int .i64 (q : Int)) = some (kq q) := keyOf_int_mk Tryz.underlying3 (by show (decide (IntKind.i64.min ≤ (q : Int)) && decide ((q : Int) ≤ IntKind.i64.max)) = true; rw [show IntKind.i64.min = -9223372036854775808 by decide, show IntKind.i64.max = 9223372036854775807 by decide, Bool.and_eq_true, decide_eq_true_eq, decide_eq_true_eq]; omega)
theorem zero_from (w : World) : (zeroValue 207).run Tryz.prog w = .ok (.agg #[.int .i64 0, .int .u8 0]) w := Tryz.zeroValue207 w
/-- WHERE EACH STATE WAS COME FROM. -/
def CameAt (w : World) (M : Nat) (L : List Nd) : Prop := ∃ D : DataW Unit, w.ownsMap Tryz.prog 3 fromElem M L.length D ∧ (∀ q : Nat, Maps.has D (kq q) = L.any fun x => x.q == q) ∧
  ∀ (i : Nat) (nd : Nd), L[i]? = some nd → D.atKey (kq nd.q) zeD = cameD nd
theorem CameAt.lt {w : World} {M : Nat} {L : List Nd} (h : CameAt w M L) : M < w.heap.size := by
  obtain ⟨D, ⟨es, clock, h1, -⟩, -⟩ := h
  exact lt_of_heap h1
theorem CameAt.kept {w w' : World} {M : Nat} {L : List Nd} (h : CameAt w M L) (hb : w'.heap[M]? = w.heap[M]?) : CameAt w' M L := by
  obtain ⟨D, ⟨es, clock, h1, h2⟩, h3⟩ := h
  exact ⟨D, ⟨es, clock, hb.trans h1, h2⟩, h3⟩
theorem CameAt.nocell {w : World} {M : Nat} {L : List Nd} (h : CameAt w M L) (i : Nat) : w.cell? ⟨M, i, none⟩ = none := by
  obtain ⟨D, ⟨es, clock, h1, -⟩, -⟩ := h
  simp [World.cell?, h1]
theorem CameAt.put {w w' : World} {M : Nat} {L : List Nd} {D : DataW Unit} (hD : w.ownsMap Tryz.prog 3 fromElem M L.length D) (h1 : ∀ q : Nat, Maps.has D (kq q) = L.any fun x => x.q == q)
    (h2 : ∀ (i : Nat) (nd : Nd), L[i]? = some nd → D.atKey (kq nd.q) zeD = cameD nd) {nd : Nd} (hx : (L.any fun x => x.q == nd.q) = false)
    (hw : w'.ownsMap Tryz.prog 3 fromElem M (L.length + 1) (D.put (kq nd.q) (cameD nd))) : CameAt w' M (L ++ [nd]) := by
  have hm := hD.isMap
  have hkey : WideAt.IsKeyLit (kq nd.q) := by simp [WideAt.IsKeyLit]
  refine ⟨_, by simpa using hw, fun z => ?_, fun i z hz => ?_⟩
  · rw [List.any_append]
    by_cases hk : nd.q = z
    · subst hk
      rw [has_put_same hm hkey]
      simp
    · have hne : kq z ≠ kq nd.q := fun e => hk (by have := (Lit.int.inj e).2; omega)
      rw [has_put_other hne, h1]
      simp [hk]
  · by_cases hi : i < L.length
    · rw [List.getElem?_append_left hi] at hz
      have hne : kq z.q ≠ kq nd.q := fun e => by
        have hk : z.q = nd.q := by have := (Lit.int.inj e).2; omega
        rw [List.any_eq_false] at hx
        exact hx z (List.mem_of_getElem? hz) (by simp [hk])
      rw [atKey_put_other hne, h2 i z hz]
    · rw [List.getElem?_append_right (by omega)] at hz
      have hi0 : i - L.length = 0 := by
        have := (List.getElem?_eq_some_iff.1 hz).1
        simp at this
        omega
      rw [hi0] at hz
      have e : z = nd := by simpa using hz.symm
      subst e
      exact atKey_put_same hm hkey _ _
/-- The look-up that also tells. -/
theorem CameAt.look {w : World} {M : Nat} {L : List Nd} (h : CameAt w M L) (q : Nat) (hq : q ≤ 1000000) :
    ∃ a b : Int, ∀ W : World, W.heap[M]? = w.heap[M]? → (Instr.lookup 208 (.map (some M)) (.int .i64 (q : Int)) true).run Tryz.prog W = .ok (.tuple #[.agg #[.int .i64 a, .int .u8 b], .bool (L.any fun x => x.q == q)]) W := by
  obtain ⟨D, hown, h1, h2⟩ := h
  have K := int_keyed Tryz.underlying3
  have hl : ∀ W : World, W.heap[M]? = w.heap[M]? → ∃ a b : Int, (Instr.lookup 208 (.map (some M)) (.int .i64 (q : Int)) true).run Tryz.prog W = .ok (.tuple #[.agg #[.int .i64 a, .int .u8 b], .bool (L.any fun x => x.q == q)]) W ∧ D.atKey (kq q) zeD = .agg [.lit (.int .i64 a), .lit (.int .u8 b)] := fun W hW => by
    have ho : W.ownsMap Tryz.prog 3 fromElem M L.length D := by obtain ⟨es, clock, g1, g2⟩ := hown; exact ⟨es, clock, hW.trans g1, g2⟩
    obtain ⟨v, ps, hrun, hv⟩ := ho.look_ok K Tryz.underlying208 (zero_from W) (zd := zeD) (zp := []) rfl (kq_of q hq)
    obtain ⟨a, b, rfl, hd⟩ := fromElem_inv hv
    exact ⟨a, b, by rw [hrun, h1], hd⟩
  obtain ⟨a, b, hr, hd⟩ := hl w rfl
  refine ⟨a, b, fun W hW => ?_⟩
  obtain ⟨a', b', hr', hd'⟩ := hl W hW
  rw [hd] at hd'
  have e : a = a' ∧ b = b' := by simpa using hd'
  rw [hr', e.1, e.2]
/-- The look-up of one that is there. -/
theorem CameAt.get {w : World} {M : Nat} {L : List Nd} (h : CameAt w M L) {i : Nat} {nd : Nd} (hi : L[i]? = some nd) (hq : nd.q ≤ 1000000) :
    (Instr.lookup 208 (.map (some M)) (.int .i64 (nd.q : Int)) false).run Tryz.prog w = .ok (.agg #[.int .i64 nd.p, .int .u8 (nd.b : Int)]) w := by
  obtain ⟨D, hown, h1, h2⟩ := h
  obtain ⟨v, ps, hrun, hv⟩ := hown.lookup (int_keyed Tryz.underlying3) Tryz.underlying208 (zero_from w) (zd := zeD) (zp := []) rfl (kq_of nd.q hq)
  obtain ⟨a, b, rfl, hd⟩ := fromElem_inv hv
  rw [h2 i nd hi] at hd
  have e : nd.p = a ∧ (nd.b : Int) = b := by simpa using hd
  rw [hrun, e.1, e.2]
/-- The literal with the first one. -/
theorem came_start (w : World) : ∃ w', (Instr.mapUpdate 208 (.map (some w.heap.size)) (.int .i64 0) (.agg #[.int .i64 (-1), .int .u8 0])).run Tryz.prog (w.alloc (.map #[] 0)) = .ok () w' ∧ CameAt w' w.heap.size [root] ∧ Below w.heap.size w w' := by
  have h0 := World.ownsMap_made (H := Unit) w Tryz.prog 3 fromElem
  obtain ⟨w', hrun, ho, ht⟩ := h0.store (int_keyed Tryz.underlying3) Tryz.underlying208 (by decide) (key := .int .i64 0) (val := .agg #[.int .i64 (-1), .int .u8 0]) (kl := kq 0) (d := cameD root) (ps := []) (kq_of 0 (by omega)) rfl
  refine ⟨w', hrun, ?_, ?_⟩
  · have := CameAt.put (L := []) (nd := root) h0 (fun q => rfl) (fun i nd e => by simp at e) rfl ho
    simpa using this
  · have hb : Below w.heap.size w (w.alloc (.map #[] 0)) := (Below.refl _ _).alloc (Nat.le_refl _) _
    have hg := ht.grown
    exact hb.trans (KeepX.below (KeepX.of_grown (X := fun k => k = w.heap.size) hg fun k e => by cases e; rfl) (by simp) fun k hk e => by omega)
theorem one_no : OneCell 25 3 (.int .i64 0) 8 := ⟨Tryz.underlying25, by kernel_rfl, by decide, rfl⟩
def qsV (L : List Nd) : List Value := L.map fun x => Value.int .i64 (x.q : Int)
theorem qsV_len (L : List Nd) : (qsV L).length = L.length := by simp [qsV]
structure ShI (w5 w : World) (M g1 : Nat) (vl : Value) (L : List Nd) : Prop where
  hM : CameAt w M L
  hL : w.ownsRow g1 3 1 vl (qsV L).length (qsV L)
  ne : vl.ownBlock ≠ some M
  kp : KeepX (fun k => k = M ∨ k = g1) w5 w
  new : ∀ k, vl.ownBlock = some k → k = g1 ∨ w5.heap.size ≤ k
  mg : M < g1
  z : g1 < w5.heap.size
theorem ShI.below {w5 w w' : World} {M g1 : Nat} {vl : Value} {L : List Nd} (h : ShI w5 w M g1 vl L) (hb : Below w.heap.size w w') : ShI w5 w' M g1 vl L :=
  { h with
    hM := h.hM.kept (hb.block _ h.hM.lt)
    hL := row_blk h.hL fun k e => hb.block k (World.ownsRow.lt h.hL k e).2
    kp := h.kp.trans (KeepX.of_below (X := fun _ => False) hb) fun _ _ e => e.elim }
theorem ShI.sz {w5 w : World} {M g1 : Nat} {vl : Value} {L : List Nd} (h : ShI w5 w M g1 vl L) : g1 ≤ w.heap.size := Nat.le_trans (Nat.le_of_lt h.z) h.kp.size
/-- The map is written. -/
theorem ShI.upd {w5 w w1 : World} {M g1 : Nat} {vl : Value} {L L' : List Nd} (h : ShI w5 w M g1 vl L) (ht : w.mapTurned w1 M) (hc : CameAt w1 M L') :
    CameAt w1 M L' ∧ w1.ownsRow g1 3 1 vl (qsV L).length (qsV L) ∧ KeepX (fun k => k = M ∨ k = g1) w5 w1 ∧ g1 ≤ w1.heap.size := by
  have hk : KeepX (fun k => k = M) w w1 := KeepX.of_grown ht.grown fun k e => by cases e; rfl
  exact ⟨hc, row_blk h.hL fun k e => hk.blk k (World.ownsRow.lt h.hL k e).2 fun e2 => h.ne (by rw [← e2]; exact e), h.kp.trans hk fun _ _ e => .inl e, Nat.le_trans h.sz hk.size⟩
/-- .. and the row. -/
theorem ShI.push {w5 w w1 W w2 : World} {M g1 : Nat} {vl vl' : Value} {L : List Nd} {nd : Nd} (h : ShI w5 w M g1 vl L) (hc : CameAt w1 M (L ++ [nd])) (hk : KeepX (fun k => k = M ∨ k = g1) w5 w1) (hb : Below w1.heap.size w1 W)
    (hg : W.grownBy w2 vl.ownBlock) (hy : w2.ownsRow g1 3 1 vl' (qsV L ++ [Value.int .i64 (nd.q : Int)]).length (qsV L ++ [Value.int .i64 (nd.q : Int)])) (hat : vl'.ownBlock = vl.ownBlock ∨ vl'.ownBlock = some W.heap.size) : ShI w5 w2 M g1 vl' (L ++ [nd]) :=
  have hW := hk.trans (KeepX.of_below (X := fun _ => False) hb) fun _ _ e => e.elim
  have hg2 : KeepX (fun k => vl.ownBlock = some k) W w2 := KeepX.of_grown hg fun k e => e
  have hML := hc.lt
  { hM := hc.kept ((hg2.blk M (Nat.lt_of_lt_of_le hML hb.size) fun e => h.ne e).trans (hb.block M hML))
    hL := by
      have e : qsV (L ++ [nd]) = qsV L ++ [Value.int .i64 (nd.q : Int)] := by simp [qsV]
      rw [e]
      exact hy
    ne := by
      rcases hat with e | e
      · rw [e]; exact h.ne
      · rw [e]; intro e2; cases e2; have := hb.size; omega
    kp := hW.trans hg2 fun j hj e => .inr ((h.new j e).resolve_right (by omega))
    new := fun k e => by
      rcases hat with e2 | e2
      · exact h.new k (e2 ▸ e)
      · rw [e2] at e; cases e; exact .inr hW.size
    mg := h.mg
    z := h.z }
/-- The step, as a number. -/
def dN (F : Nat → Nat) (nx : List (List Nat)) (q b : Nat) : Nat := (nx.getD q []).getD (F b) 0
def yN (ys : List Bool) (q : Nat) : Bool := ys.getD q false
theorem stepD_dN (F : Nat → Nat) (nx : List (List Nat)) {q : Nat} (h : q < nx.length) (b : Nat) : stepD F nx q b = (dN F nx q b : Nat) := by
  unfold stepD dN
  rw [if_pos ⟨by omega, by omega⟩]
  rfl
theorem yesD_yN (ys : List Bool) {q : Nat} (h : q < ys.length) : yesD ys q = yN ys q := by
  unfold yesD yN
  rw [decide_eq_true (show (0 : Int) ≤ (q : Int) ∧ (q : Int) < (ys.length : Int) by omega), Bool.true_and]
  rfl
/-- What a call of Shortest comes to. -/
def ShortRet (w : World) (δ : Nat → Nat → Nat) (yes : Nat → Bool) (hs : List Nat) (e : Ending) (w' : World) : Prop :=
  Below w.heap.size w w' ∧
    ((∃ t : ByteArray, e = .returned (.tuple #[.string t, .bool true]) ∧ yes (runN δ 0 t.data.toList) = true ∧ ∀ u : Txt, (∀ b ∈ u, b.toNat ∈ hs) → yes (runN δ 0 u) = true → ¬ slt u t.data.toList) ∨
      (e = .returned (.tuple #[.string ⟨#[]⟩, .bool false]) ∧ ∀ u : Txt, (∀ b ∈ u, b.toNat ∈ hs) → yes (runN δ 0 u) = false))
/-- Distinct states below n are at most n. -/
theorem BInv.count {δ : Nat → Nat → Nat} {yes : Nat → Bool} {hs : List Nat} {i : Nat} {pre : List Nat} {L : List Nd} (h : BInv δ yes hs i pre L) {n : Nat} (hn : ∀ (m : Nat) (x : Nd), L[m]? = some x → x.q < n) : L.length ≤ n := by
  have hnd : (L.map Nd.q).Nodup := by
    unfold List.Nodup
    rw [List.pairwise_iff_getElem]
    intro a b ha hb hab e
    have hb' : b < L.length := by simpa using hb
    have ha' : a < L.length := by omega
    rw [List.getElem_map, List.getElem_map] at e
    have := h.dis a b L[a] L[b] (List.getElem?_eq_getElem ha') (List.getElem?_eq_getElem hb') e
    omega
  have hsub : (L.map Nd.q) ⊆ List.range n := fun q hq => by
    obtain ⟨x, hx, rfl⟩ := List.mem_map.1 hq
    obtain ⟨m, hm⟩ := List.getElem?_of_mem hx
    exact List.mem_range.2 (hn m x hm)
  have := hnd.length_le_of_subset hsub
  simpa using this
theorem BInv.index {δ : Nat → Nat → Nat} {yes : Nat → Bool} {hs : List Nat} {i : Nat} {pre : List Nat} {L : List Nd} (h : BInv δ yes hs i pre L) {m : Nat} {x : Nd} (hm : L[m]? = some x) : L.findIdx (fun y => (y.q : Int) == (x.q : Int)) = m := by
  obtain ⟨hl, e⟩ := List.getElem?_eq_some_iff.1 hm
  rw [List.findIdx_eq hl]
  refine ⟨by rw [e]; simp, fun j hj => ?_⟩
  have hjl : j < L.length := by omega
  rw [Bool.eq_false_iff]
  intro hq
  have := h.dis j m L[j] x (List.getElem?_eq_getElem hjl) hm (by simp at hq; omega)
  omega
end Go.Proofs.YtfpfloahkibcgaaGreatDoor

/- Plain: the heads of parts are in order, each the least byte of its part. -/
namespace Go.Proofs.YtfpfloahkibcgaaGreatDoor

theorem ctz_le (x : BitVec 64) (h : x ≠ 0) {c : Nat} (hc : x.getLsbD c = true) : Lib.ctz 64 x.toNat ≤ c := by
  have h0 : x.toNat ≠ 0 := fun e => h (BitVec.eq_of_toNat_eq (by simpa using e))
  obtain ⟨m, hm, -⟩ := Lib.ctzFrom_spec 64 x.toNat (by omega) x.isLt
  have e : Lib.ctz 64 x.toNat = Lib.ctzFrom 64 x.toNat := by unfold Lib.ctz; rw [if_neg h0]
  rw [e]
  generalize Lib.ctzFrom 64 x.toNat = k at *
  rw [← BitVec.testBit_toNat, hm, Nat.testBit_two_pow_mul] at hc
  simp at hc
  exact hc.1
theorem ne_of_bit {x : BitVec 64} {c : Nat} (h : x.getLsbD c = true) : x ≠ 0 := fun e => by rw [e] at h; simp at h
theorem least_le (s : CSet) {b : Nat} (hb : b < 256) (h : s.has b = true) : leastN s ≤ b := by
  have hc : b % 64 < 64 := Nat.mod_lt _ (by decide)
  have e : b = 64 * (b / 64) + b % 64 := by omega
  rw [e, has_word s (b / 64) (b % 64) hc] at h
  have hk : b / 64 = 0 ∨ b / 64 = 1 ∨ b / 64 = 2 ∨ b / 64 = 3 := by omega
  unfold leastN
  rcases hk with hk | hk | hk | hk <;> rw [hk] at h e
  · have h : s.a.getLsbD (b % 64) = true := h
    have h0 := ne_of_bit h
    rw [if_pos h0]
    have := ctz_le _ h0 h
    omega
  · have h : s.b.getLsbD (b % 64) = true := h
    split
    · next h0 => have := (ctz_bit _ h0).2; omega
    · have h0 := ne_of_bit h
      rw [if_pos h0]
      have := ctz_le _ h0 h
      omega
  · have h : s.c.getLsbD (b % 64) = true := h
    split
    · next h0 => have := (ctz_bit _ h0).2; omega
    · split
      · next h0 => have := (ctz_bit _ h0).2; omega
      · have h0 := ne_of_bit h
        rw [if_pos h0]
        have := ctz_le _ h0 h
        omega
  · have h : s.d.getLsbD (b % 64) = true := h
    split
    · next h0 => have := (ctz_bit _ h0).2; omega
    · split
      · next h0 => have := (ctz_bit _ h0).2; omega
      · split
        · next h0 => have := (ctz_bit _ h0).2; omega
        · have h0 := ne_of_bit h
          have := ctz_le _ h0 h
          omega
theorem sortGo_heads {ps : List CSet} (hp : Parts ps) : ∀ (m k : Nat) (out : List CSet) (seen : CSet), k + m = 256 → (out.map leastN).Pairwise (· < ·) → (∀ p ∈ out, p ∈ ps ∧ leastN p < k) → (∀ b, b < k → seen.has b = true) → (∀ b, seen.has b = true → ∃ p ∈ out, p.has b = true) →
    (∀ p ∈ out, ∀ b, p.has b = true → seen.has b = true) → ((sortGo ps ((List.range 256).drop k) out seen).map leastN).Pairwise (· < ·)
  | 0, k, out, seen, hkm, h1, _, _, _, _ => by
    rw [List.drop_of_length_le (by simp; omega)]
    exact h1
  | m + 1, k, out, seen, hkm, h1, h2, h3, h4, h5 => by
    have hk : k < 256 := by omega
    cases hs : seen.has k with
    | true =>
      rw [sortGo_seen hk hs]
      refine sortGo_heads hp m (k + 1) out seen (by omega) h1 (fun p h => ⟨(h2 p h).1, by have := (h2 p h).2; omega⟩) (fun b hb => ?_) h4 h5
      by_cases hbk : b < k
      · exact h3 b hbk
      · have : b = k := by omega
        rw [this]; exact hs
    | false =>
      obtain ⟨p0, hp0, hpk⟩ := hp.all k hk
      cases hf : ps.find? fun p => p.has k with
      | none =>
        have := List.find?_eq_none.1 hf p0 hp0
        rw [hpk] at this
        exact absurd rfl this
      | some p =>
        have hpm := List.mem_of_find?_eq_some hf
        have hph : p.has k = true := by have := List.find?_some hf; simpa using this
        rw [sortGo_some hk hs hf]
        have hle := least_le p hk hph
        have hlh := least_has p (hp.ne p hpm)
        have heq : leastN p = k := by
          rcases Nat.lt_or_ge (leastN p) k with hl | hl
          · obtain ⟨q, hq, hqb⟩ := h4 _ (h3 _ hl)
            have e := hp.apart p hpm q (h2 q hq).1 _ hlh.1 hqb
            rw [h5 q hq k (e ▸ hph)] at hs
            cases hs
          · omega
        refine sortGo_heads hp m (k + 1) (out ++ [p]) (seen.or p) (by omega) ?_ (fun q hq => ?_) (fun b hb => ?_) (fun b hb => ?_) (fun q hq b hb => ?_)
        · rw [List.map_append, List.pairwise_append]
          refine ⟨h1, by simp, fun a ha b hb => ?_⟩
          obtain ⟨q, hq, rfl⟩ := List.mem_map.1 ha
          have hb : b = leastN p := by simpa using hb
          rw [hb, heq]
          exact (h2 q hq).2
        · rcases List.mem_append.1 hq with hq | hq
          · exact ⟨(h2 q hq).1, by have := (h2 q hq).2; omega⟩
          · rw [List.mem_singleton.1 hq]
            exact ⟨hpm, by omega⟩
        · rw [CSet.has_or, Bool.or_eq_true]
          by_cases hbk : b < k
          · exact .inl (h3 b hbk)
          · have : b = k := by omega
            rw [this]; exact .inr hph
        · rw [CSet.has_or, Bool.or_eq_true] at hb
          rcases hb with hb | hb
          · obtain ⟨q, hq, hqb⟩ := h4 b hb
            exact ⟨q, List.mem_append_left _ hq, hqb⟩
          · exact ⟨p, List.mem_append_right _ (List.mem_singleton.2 rfl), hb⟩
        · rw [CSet.has_or, Bool.or_eq_true]
          rcases List.mem_append.1 hq with hq | hq
          · exact .inl (h5 q hq b hb)
          · rw [List.mem_singleton.1 hq] at hb
            exact .inr hb
theorem heads_sorted (ss : List CSet) : ((refineR ss).map leastN).Pairwise (· < ·) := by
  unfold refineR sortedR
  have h := sortGo_heads (Parts.cuts ss .one) 256 0 [] CSet.zero rfl List.Pairwise.nil (fun p h => by cases h) (fun b h => by omega) (fun b h => by rw [CSet.has_zero] at h; cases h) (fun p h => by cases h)
  rw [List.drop_zero] at h
  exact h
section
variable {r : Re} {left : Nat} {all : List Re} {nx : List (List Nat)} {left' : Nat}
abbrev Fr (r : Re) : Nat → Nat := atN (refineR (setsR r)) (refineR (setsR r)).length
theorem built_closed (h : buildR ((refineR (setsR r)).map leastN) r left = some (all, nx, left')) : ∀ q b, q < (all.map Re.null).length → b < 256 → dN (Fr r) nx q b < (all.map Re.null).length := fun q b hq hb => by
  rw [List.length_map] at hq ⊢
  obtain ⟨t, h0, e1, e2, -, -⟩ := dfa_step h (List.getElem?_eq_getElem hq) hb
  have hn := (build_ok h).1
  rw [stepD_dN _ _ (by omega)] at e1
  have e3 : dN (Fr r) nx q b = t := Int.ofNat_inj.1 e1
  have := (List.getElem?_eq_some_iff.1 e2).1
  rw [e3]
  exact this
theorem built_run (h : buildR ((refineR (setsR r)).map leastN) r left = some (all, nx, left')) : ∀ (t : Txt) (q : Nat), q < all.length → runD (Fr r) nx q t = (runN (dN (Fr r) nx) q t : Nat) ∧ runN (dN (Fr r) nx) q t < all.length
  | [], q, hq => ⟨rfl, hq⟩
  | b :: t, q, hq => by
    have hn := (build_ok h).1
    have hc := built_closed h q b.toNat (by rw [List.length_map]; exact hq) b.toNat_lt
    rw [List.length_map] at hc
    have h2 := built_run h t _ hc
    unfold runD runN at h2 ⊢
    rw [List.foldl_cons, List.foldl_cons, stepD_dN _ _ (by omega)]
    exact h2
open Classical in
theorem built_lang (hg : Good r) (h : buildR ((refineR (setsR r)).map leastN) r left = some (all, nx, left')) (t : Txt) : yN (all.map Re.null) (runN (dN (Fr r) nx) 0 t) = true ↔ Lang r t := by
  have h0 : 0 < all.length := (List.getElem?_eq_some_iff.1 (build_ok h).2.2.1).1
  obtain ⟨e1, e2⟩ := built_run h t 0 h0
  have hm := dfa_match hg h t
  have e1 : runD (atN (refineR (setsR r)) (refineR (setsR r)).length) nx 0 t = (runN (dN (Fr r) nx) 0 t : Nat) := e1
  rw [e1, yesD_yN _ (by rw [List.length_map]; exact e2)] at hm
  rw [hm, decide_eq_true_iff]
/-- A text of the least bytes alone. -/
def headT (r : Re) (t : Txt) : Txt := t.map fun b => UInt8.ofNat (((refineR (setsR r)).map leastN).getD (Fr r b.toNat) 0)
theorem head_at (r : Re) (b : UInt8) : ∃ p : CSet, (refineR (setsR r))[Fr r b.toNat]? = some p ∧ p.has b.toNat = true ∧ ((refineR (setsR r)).map leastN).getD (Fr r b.toNat) 0 = leastN p ∧ leastN p < 256 ∧ p.has (leastN p) = true := by
  obtain ⟨p, h1, h2, -, h4⟩ := at_facts (setsR r) b.toNat_lt
  refine ⟨p, h1, h2, ?_, h4, (least_has p (CSet.of_has h2)).1⟩
  rw [List.getD_eq_getElem?_getD, List.getElem?_map, h1]
  rfl
theorem headT_mem (r : Re) (t : Txt) : ∀ b ∈ headT r t, b.toNat ∈ (refineR (setsR r)).map leastN := fun b hb => by
  obtain ⟨c, -, rfl⟩ := List.mem_map.1 hb
  obtain ⟨p, h1, -, h3, h4, -⟩ := head_at r c
  rw [h3]
  have e : (UInt8.ofNat (leastN p)).toNat = leastN p := by simp; omega
  rw [e]
  exact List.mem_map.2 ⟨p, List.mem_of_getElem? h1, rfl⟩
theorem headT_run (r : Re) (nx : List (List Nat)) : ∀ (t : Txt) (q : Nat), runN (dN (Fr r) nx) q (headT r t) = runN (dN (Fr r) nx) q t
  | [], q => rfl
  | b :: t, q => by
    obtain ⟨p, h1, h2, h3, h4, h5⟩ := head_at r b
    have e : (UInt8.ofNat (leastN p)).toNat = leastN p := by simp; omega
    obtain ⟨p', g1, g2, -⟩ := at_facts (setsR r) h4
    have hF : Fr r (leastN p) = Fr r b.toNat := out_unique (refine_facts (setsR r)).2.1 g1 h1 g2 h5
    have h6 : dN (Fr r) nx q (UInt8.ofNat (((refineR (setsR r)).map leastN).getD (Fr r b.toNat) 0)).toNat = dN (Fr r) nx q b.toNat := by
      rw [h3, e]
      unfold dN
      rw [hF]
    have := headT_run r nx t (dN (Fr r) nx q b.toNat)
    unfold runN headT at this ⊢
    rw [List.map_cons, List.foldl_cons, List.foldl_cons, h6]
    exact this
theorem headT_le (r : Re) : ∀ t : Txt, sle (headT r t) t := fun t => by
  have hlen : (headT r t).length = t.length := by simp [headT]
  have : headT r t = t ∨ lexLt (headT r t) t := by
    clear hlen
    induction t with
    | nil => exact .inl rfl
    | cons b t ih =>
      obtain ⟨p, h1, h2, h3, h4, h5⟩ := head_at r b
      have e : (UInt8.ofNat (leastN p)).toNat = leastN p := by simp; omega
      have hle := least_le p b.toNat_lt h2
      have hc : headT r (b :: t) = UInt8.ofNat (leastN p) :: headT r t := by
        unfold headT
        rw [List.map_cons, h3]
      rw [hc]
      rcases Nat.lt_or_ge (leastN p) b.toNat with hl | hl
      · exact .inr (.inl (by rw [e]; exact hl))
      · have hb : UInt8.ofNat (leastN p) = b := UInt8.toNat_inj.1 (by rw [e]; omega)
        rw [hb]
        rcases ih with ih | ih
        · exact .inl (by rw [ih])
        · exact .inr (.inr ⟨rfl, ih⟩)
  rcases this with h | h
  · exact .inl h
  · exact .inr (.inr ⟨hlen, h⟩)
/-- THE LEAST TEXT OF AN EXPRESSION. -/
theorem built_least (hg : Good r) (h : buildR ((refineR (setsR r)).map leastN) r left = some (all, nx, left')) {t : Txt} (ht : yN (all.map Re.null) (runN (dN (Fr r) nx) 0 t) = true)
    (hm : ∀ u : Txt, (∀ b ∈ u, b.toNat ∈ (refineR (setsR r)).map leastN) → yN (all.map Re.null) (runN (dN (Fr r) nx) 0 u) = true → ¬ slt u t) : Lang r t ∧ ∀ u, Lang r u → ¬ slt u t := by
  refine ⟨(built_lang hg h t).1 ht, fun u hu hlt => ?_⟩
  refine hm (headT r u) (headT_mem r u) ?_ (sle_slt (headT_le r u) hlt)
  rw [headT_run]
  exact (built_lang hg h u).2 hu
theorem built_none (hg : Good r) (h : buildR ((refineR (setsR r)).map leastN) r left = some (all, nx, left'))
    (hm : ∀ u : Txt, (∀ b ∈ u, b.toNat ∈ (refineR (setsR r)).map leastN) → yN (all.map Re.null) (runN (dN (Fr r) nx) 0 u) = false) : ∀ u, ¬ Lang r u := fun u hu => by
  have h1 := hm (headT r u) (headT_mem r u)
  rw [headT_run, (built_lang hg h u).2 hu] at h1
  cases h1
end
end Go.Proofs.YtfpfloahkibcgaaGreatDoor
