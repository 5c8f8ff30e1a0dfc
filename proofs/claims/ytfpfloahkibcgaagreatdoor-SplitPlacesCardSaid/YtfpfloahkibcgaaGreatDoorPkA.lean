/- PkA: Alg, Ord, Inj, Mk, Mk2, Good, Good2, each with its own sentence. -/
import Derived.Laws.Strings
import Derived.Lib.Join
import Derived.Sort.Statements
/- Plain: expressions as a datatype, their keys, sizes, texts, and what the calls make of them. No program in sight. -/
namespace Go.Proofs.YtfpfloahkibcgaaGreatDoor

/-- A set of bytes: four words. -/
structure CSet where
  a : BitVec 64
  b : BitVec 64
  c : BitVec 64
  d : BitVec 64
  deriving DecidableEq, Inhabited

namespace CSet
def zero : CSet := ⟨0, 0, 0, 0⟩
def or (s t : CSet) : CSet := ⟨s.a ||| t.a, s.b ||| t.b, s.c ||| t.c, s.d ||| t.d⟩
def and (s t : CSet) : CSet := ⟨s.a &&& t.a, s.b &&& t.b, s.c &&& t.c, s.d &&& t.d⟩
def minus (s t : CSet) : CSet := ⟨s.a &&& ~~~t.a, s.b &&& ~~~t.b, s.c &&& ~~~t.c, s.d &&& ~~~t.d⟩
def not (s : CSet) : CSet := ⟨~~~s.a, ~~~s.b, ~~~s.c, ~~~s.d⟩
/-- Word number i. -/
def word (s : CSet) : Nat → BitVec 64
  | 0 => s.a
  | 1 => s.b
  | 2 => s.c
  | 3 => s.d
  | _ => 0
/-- Is byte b in it? -/
def has (s : CSet) (b : Nat) : Bool := (s.word (b / 64)).getLsbD (b % 64)
def all : CSet := CSet.not zero
/-- With another word number i. -/
def put (s : CSet) (i : Nat) (x : BitVec 64) : CSet := match i with
  | 0 => { s with a := x }
  | 1 => { s with b := x }
  | 2 => { s with c := x }
  | _ => { s with d := x }
/-- With byte b. -/
def add (s : CSet) (b : Nat) : CSet := s.put (b / 64) (s.word (b / 64) ||| BitVec.twoPow 64 (b % 64))
def ofList (l : List Nat) : CSet := l.foldl add zero
/-- From low on, n of them. -/
def fromN (low : Nat) (n : Nat) : CSet := ofList ((List.range n).map (low + ·))
theorem or_assoc (s t u : CSet) : (s.or t).or u = s.or (t.or u) := by simp [or, BitVec.or_assoc]
theorem or_comm (s t : CSet) : s.or t = t.or s := by simp [or, BitVec.or_comm]
theorem or_self (s : CSet) : s.or s = s := by simp [or]
theorem or_zero (s : CSet) : s.or zero = s := by simp [or, zero]
theorem zero_or (s : CSet) : zero.or s = s := by simp [or, zero]
theorem and_assoc (s t u : CSet) : (s.and t).and u = s.and (t.and u) := by simp [and, BitVec.and_assoc]
theorem and_comm (s t : CSet) : s.and t = t.and s := by simp [and, BitVec.and_comm]
theorem and_self (s : CSet) : s.and s = s := by simp [and]
theorem and_zero (s : CSet) : s.and zero = zero := by simp [and, zero]
theorem zero_and (s : CSet) : zero.and s = zero := by simp [and, zero]
end CSet

/-- An expression. -/
inductive Re where
  | none
  | eps
  | cls (s : CSet)
  | cat (l : List Re)
  | or (l : List Re)
  | star (r : Re)
  | and (l : List Re)
  | minus (x y : Re)
  deriving Inhabited

namespace Re
def op : Re → Nat
  | none => 0
  | eps => 1
  | cls _ => 2
  | cat _ => 3
  | or _ => 4
  | star _ => 5
  | and _ => 6
  | minus _ _ => 7
def set : Re → CSet
  | cls s => s
  | _ => CSet.zero
def kids : Re → List Re
  | cat l => l
  | or l => l
  | star r => [r]
  | and l => l
  | minus x y => [x, y]
  | _ => []

mutual
def null : Re → Bool
  | none => false
  | eps => true
  | cls _ => false
  | cat l => nullAll l
  | or l => nullAny l
  | star _ => true
  | and l => nullAll l
  | minus x y => null x && !null y
def nullAll : List Re → Bool
  | [] => true
  | r :: l => null r && nullAll l
def nullAny : List Re → Bool
  | [] => false
  | r :: l => null r || nullAny l
end

mutual
def size : Re → Nat
  | none => 1
  | eps => 1
  | cls _ => 1
  | cat l => 1 + sizes l
  | or l => 1 + sizes l
  | star r => 1 + size r
  | and l => 1 + sizes l
  | minus x y => 1 + (size x + size y)
def sizes : List Re → Nat
  | [] => 0
  | r :: l => size r + sizes l
end

/-- A digit to the base 36. -/
def dig36 (n : Nat) : UInt8 := UInt8.ofNat (if n < 10 then 48 + n else 87 + n)
/-- A number to the base 36, ahead of what is there. -/
def fmtOnto (n : Nat) (l : List UInt8) : List UInt8 := if h : n < 36 then dig36 n :: l else fmtOnto (n / 36) (dig36 (n % 36) :: l)
  termination_by n
  decreasing_by exact Nat.div_lt_self (by omega) (by omega)
def fmt36 (n : Nat) : List UInt8 := fmtOnto n []

/-- The words of a class, each with a blank ahead. -/
def words (s : CSet) : List UInt8 := 32 :: fmt36 s.a.toNat ++ 32 :: fmt36 s.b.toNat ++ 32 :: fmt36 s.c.toNat ++ 32 :: fmt36 s.d.toNat

mutual
def key : Re → List UInt8
  | none => [40, 48, 41]
  | eps => [40, 49, 41]
  | cls s => 40 :: 50 :: (words s ++ [41])
  | cat l => 40 :: 51 :: (keys l ++ [41])
  | or l => 40 :: 52 :: (keys l ++ [41])
  | star r => 40 :: 53 :: 32 :: (key r ++ [41])
  | and l => 40 :: 54 :: (keys l ++ [41])
  | minus x y => 40 :: 55 :: 32 :: (key x ++ 32 :: (key y ++ [41]))
def keys : List Re → List UInt8
  | [] => []
  | r :: l => 32 :: (key r ++ keys l)
end

theorem nullAll_eq (l : List Re) : nullAll l = l.all null := by
  induction l with
  | nil => simp [nullAll]
  | cons r l ih => simp [nullAll, ih]
theorem nullAny_eq (l : List Re) : nullAny l = l.any null := by
  induction l with
  | nil => simp [nullAny]
  | cons r l ih => simp [nullAny, ih]
theorem sizes_eq (l : List Re) : sizes l = (l.map size).sum := by
  induction l with
  | nil => simp [sizes]
  | cons r l ih => simp [sizes, ih]
theorem keys_eq (l : List Re) : keys l = l.flatMap fun r => 32 :: key r := by
  induction l with
  | nil => simp [keys]
  | cons r l ih => simp [keys, ih]
theorem sizes_append (l m : List Re) : sizes (l ++ m) = sizes l + sizes m := by simp [sizes_eq]
theorem keys_append (l m : List Re) : keys (l ++ m) = keys l ++ keys m := by simp [keys_eq]
theorem size_kids (r : Re) : r.size = 1 + sizes r.kids := by cases r <;> simp [size, sizes, kids]
theorem size_pos (r : Re) : 1 ≤ r.size := by rw [size_kids]; omega

/-- What stands between op and kids. -/
def mids (r : Re) : List UInt8 := match r with
  | cls s => words s
  | _ => []
theorem key_kids (r : Re) : r.key = 40 :: UInt8.ofNat (48 + r.op) :: (r.mids ++ (keys r.kids ++ [41])) := by
  cases r <;> simp [key, keys, kids, op, mids]

theorem fmtOnto_len : ∀ (k n : Nat) (l : List UInt8), n < 36 ^ (k + 1) → (fmtOnto n l).length ≤ l.length + (k + 1) := by
  intro k
  induction k with
  | zero =>
    intro n l h
    rw [fmtOnto, dif_pos (by simpa using h)]
    simp
  | succ k ih =>
    intro n l h
    rw [fmtOnto]
    split
    · simp
    · have := ih (n / 36) (dig36 (n % 36) :: l) (by rw [Nat.div_lt_iff_lt_mul (by omega)]; rw [Nat.pow_succ] at h; exact h)
      simp at this
      omega
theorem fmt36_len (x : BitVec 64) : (fmt36 x.toNat).length ≤ 13 := by
  have := fmtOnto_len 12 x.toNat [] (Nat.lt_trans x.isLt (by decide))
  simpa [fmt36] using this
theorem words_len (s : CSet) : (words s).length ≤ 56 := by
  have h1 := fmt36_len s.a; have h2 := fmt36_len s.b; have h3 := fmt36_len s.c; have h4 := fmt36_len s.d
  simp only [words, List.length_cons, List.length_append]
  omega
mutual
/-- A key is no longer than its expression's size allows. -/
theorem key_len : ∀ r : Re, r.key.length + 1 ≤ 64 * r.size
  | none => by simp [key, size]
  | eps => by simp [key, size]
  | cls s => by have := words_len s; simp [key, size]; omega
  | cat l => by have := keys_len l; simp [key, size]; omega
  | or l => by have := keys_len l; simp [key, size]; omega
  | star r => by have := key_len r; simp [key, size]; omega
  | and l => by have := keys_len l; simp [key, size]; omega
  | minus x y => by have := key_len x; have := key_len y; simp [key, size]; omega
theorem keys_len : ∀ l : List Re, (keys l).length ≤ 64 * sizes l
  | [] => by simp [keys, sizes]
  | r :: l => by have := key_len r; have := keys_len l; simp [keys, sizes]; omega
end
theorem sizes_take (l : List Re) (k : Nat) : sizes (l.take k) ≤ sizes l := by
  have := sizes_append (l.take k) (l.drop k)
  rw [List.take_append_drop] at this
  omega
theorem length_le_sizes (l : List Re) : l.length ≤ sizes l := by
  induction l with
  | nil => simp
  | cons r l ih => have := size_pos r; simp [sizes]; omega
end Re
/-- re.flat: expressions, the kids of those of an op in their places. -/
def flat1 (o : Nat) (r : Re) : List Re := if r.op = o then r.kids else [r]
def flatL (o : Nat) (l : List Re) : List Re := l.flatMap (flat1 o)
end Go.Proofs.YtfpfloahkibcgaaGreatDoor

/- Plain: the order of keys; sorted rows of expressions. -/
namespace Go.Proofs.YtfpfloahkibcgaaGreatDoor

theorem bl_irrefl : ∀ a : List UInt8, Op.bytesLess a a = false
  | [] => rfl
  | x :: a => by simp [Op.bytesLess, bl_irrefl a]
theorem bl_trans : ∀ a b c : List UInt8, Op.bytesLess a b = true → Op.bytesLess b c = true → Op.bytesLess a c = true
  | _, [], _, h, _ => by cases ‹List UInt8› <;> simp [Op.bytesLess] at h
  | _, _ :: _, [], _, h => by simp [Op.bytesLess] at h
  | [], _ :: _, _ :: _, _, _ => rfl
  | x :: a, y :: b, z :: c, h1, h2 => by
    simp only [Op.bytesLess, Bool.or_eq_true, decide_eq_true_eq, Bool.and_eq_true, beq_iff_eq] at h1 h2 ⊢
    rcases h1 with h1 | ⟨rfl, h1⟩
    · rcases h2 with h2 | ⟨rfl, h2⟩
      · exact .inl (UInt8.lt_trans h1 h2)
      · exact .inl h1
    · rcases h2 with h2 | ⟨rfl, h2⟩
      · exact .inl h2
      · exact .inr ⟨rfl, bl_trans a b c h1 h2⟩
theorem bl_total : ∀ a b : List UInt8, Op.bytesLess a b = false → Op.bytesLess b a = false → a = b
  | [], [], _, _ => rfl
  | [], _ :: _, h, _ => by simp [Op.bytesLess] at h
  | _ :: _, [], _, h => by simp [Op.bytesLess] at h
  | x :: a, y :: b, h1, h2 => by
    simp only [Op.bytesLess, Bool.or_eq_false_iff, decide_eq_false_iff_not, Bool.and_eq_false_iff] at h1 h2
    obtain ⟨h1, h1'⟩ := h1
    obtain ⟨h2, h2'⟩ := h2
    have e : x = y := by
      apply UInt8.toNat_inj.1
      rw [UInt8.lt_iff_toNat_lt] at h1 h2
      omega
    subst e
    have h1'' : Op.bytesLess a b = false := by simpa using h1'
    have h2'' : Op.bytesLess b a = false := by simpa using h2'
    rw [bl_total a b h1'' h2'']

/-- Which of two expressions stands ahead, by their keys. -/
def lessR (x y : Re) : Bool := Op.bytesLess x.key y.key
theorem lessR_swo : Sort.SWO lessR where
  irrefl x := bl_irrefl _
  trans x y z h1 h2 := bl_trans _ _ _ h1 h2
  ntrans x y z h1 h2 := by
    unfold lessR at *
    cases h : Op.bytesLess x.key z.key with
    | false => rfl
    | true =>
      cases h3 : Op.bytesLess y.key x.key with
      | true => rw [bl_trans _ _ _ h3 h] at h2; cases h2
      | false =>
        have := bl_total _ _ h1 h3
        rw [this] at h
        rw [h] at h2; cases h2
/-- What cmp.Compare tells of two texts. -/
def cmpB (a b : List UInt8) : Int := if Op.bytesLess a b then -1 else if Op.bytesLess b a then 1 else 0
theorem cmpB_neg (a b : List UInt8) : decide (cmpB a b < 0) = Op.bytesLess a b := by
  unfold cmpB
  cases Op.bytesLess a b <;> cases Op.bytesLess b a <;> simp
end Go.Proofs.YtfpfloahkibcgaaGreatDoor

/- Plain: keys are one just where the expressions are. -/
namespace Go.Proofs.YtfpfloahkibcgaaGreatDoor
namespace Re

def dval (c : UInt8) : Nat := if c.toNat < 58 then c.toNat - 48 else c.toNat - 87
theorem dval_dig (d : Nat) (h : d < 36) : dval (dig36 d) = d := by
  have : ∀ d : Fin 36, dval (dig36 d.val) = d.val := by decide +kernel
  exact this ⟨d, h⟩
theorem dig_ge (d : Nat) (h : d < 36) : 48 ≤ (dig36 d).toNat := by
  have : ∀ d : Fin 36, 48 ≤ (dig36 d.val).toNat := by decide +kernel
  exact this ⟨d, h⟩
theorem fmtOnto_val : ∀ (n : Nat) (l : List UInt8), (fmtOnto n l).foldl (fun a c => a * 36 + dval c) 0 = l.foldl (fun a c => a * 36 + dval c) n := by
  intro n
  induction n using Nat.strongRecOn with
  | ind n ih =>
    intro l
    rw [fmtOnto]
    split
    · rename_i h
      simp [dval_dig n h]
    · rename_i h
      rw [ih (n / 36) (Nat.div_lt_self (by omega) (by omega))]
      simp only [List.foldl_cons, dval_dig (n % 36) (by omega)]
      congr 1
      omega
theorem fmtOnto_ge : ∀ (n : Nat) (l : List UInt8), (∀ c ∈ l, 48 ≤ c.toNat) → ∀ c ∈ fmtOnto n l, 48 ≤ c.toNat := by
  intro n
  induction n using Nat.strongRecOn with
  | ind n ih =>
    intro l hl
    rw [fmtOnto]
    split
    · rename_i h
      intro c hc
      rcases List.mem_cons.1 hc with rfl | hc
      · exact dig_ge n h
      · exact hl c hc
    · rename_i h
      refine ih (n / 36) (Nat.div_lt_self (by omega) (by omega)) _ (fun c hc => ?_)
      rcases List.mem_cons.1 hc with rfl | hc
      · exact dig_ge _ (by omega)
      · exact hl c hc
theorem fmt36_inj {a b : Nat} (h : fmt36 a = fmt36 b) : a = b := by
  have h1 := fmtOnto_val a []
  have h2 := fmtOnto_val b []
  unfold fmt36 at h
  rw [h, h2] at h1
  exact h1.symm
theorem digits_pre : ∀ (l m : List UInt8) (x y : UInt8) (t u : List UInt8), (∀ c ∈ l, 48 ≤ c.toNat) → (∀ c ∈ m, 48 ≤ c.toNat) → x.toNat < 48 → y.toNat < 48 → l ++ x :: t = m ++ y :: u → l = m ∧ x :: t = y :: u
  | [], [], _, _, _, _, _, _, _, _, h => ⟨rfl, h⟩
  | [], c :: m, x, y, t, u, _, hm, hx, _, h => by
    simp at h
    have := hm c (by simp)
    rw [← h.1] at this
    omega
  | c :: l, [], x, y, t, u, hl, _, _, hy, h => by
    simp at h
    have := hl c (by simp)
    rw [h.1] at this
    omega
  | c :: l, d :: m, x, y, t, u, hl, hm, hx, hy, h => by
    simp at h
    obtain ⟨rfl, h⟩ := h
    obtain ⟨h1, h2⟩ := digits_pre l m x y t u (fun c hc => hl c (by simp [hc])) (fun c hc => hm c (by simp [hc])) hx hy (by simpa using h)
    exact ⟨by rw [h1], h2⟩
theorem fmt_pre (a b : BitVec 64) (x y : UInt8) (t u : List UInt8) (hx : x.toNat < 48) (hy : y.toNat < 48) (h : fmt36 a.toNat ++ x :: t = fmt36 b.toNat ++ y :: u) : a = b ∧ t = u := by
  obtain ⟨h1, h2⟩ := digits_pre _ _ x y t u (fmtOnto_ge _ [] (by simp)) (fmtOnto_ge _ [] (by simp)) hx hy h
  exact ⟨BitVec.eq_of_toNat_eq (fmt36_inj h1), (List.cons.inj h2).2⟩
theorem words_pre (s z : CSet) (t u : List UInt8) (h : words s ++ 41 :: t = words z ++ 41 :: u) : s = z ∧ t = u := by
  obtain ⟨a, b, c, d⟩ := s
  obtain ⟨a', b', c', d'⟩ := z
  simp only [words, List.cons_append, List.append_assoc, List.cons.injEq, true_and] at h
  obtain ⟨e1, h1⟩ := fmt_pre _ _ 32 32 _ _ (by decide) (by decide) h
  obtain ⟨e2, h2⟩ := fmt_pre _ _ 32 32 _ _ (by decide) (by decide) h1
  obtain ⟨e3, h3⟩ := fmt_pre _ _ 32 32 _ _ (by decide) (by decide) h2
  obtain ⟨e4, h4⟩ := fmt_pre _ _ 41 41 _ _ (by decide) (by decide) h3
  exact ⟨by rw [e1, e2, e3, e4], h4⟩

mutual
theorem key_pre : ∀ (r s : Re) (t u : List UInt8), r.key ++ t = s.key ++ u → r = s ∧ t = u
  | none, s, t, u, h => by cases s <;> simp [key] at h ⊢ <;> exact h
  | eps, s, t, u, h => by cases s <;> simp [key] at h ⊢ <;> exact h
  | cls z, s, t, u, h => by
    cases s <;> simp [key] at h ⊢
    exact words_pre _ _ _ _ h
  | cat l, s, t, u, h => by
    cases s <;> simp [key] at h ⊢
    exact keys_pre l _ _ _ h
  | or l, s, t, u, h => by
    cases s <;> simp [key] at h ⊢
    exact keys_pre l _ _ _ h
  | star r, s, t, u, h => by
    cases s <;> simp [key] at h ⊢
    obtain ⟨h1, h2⟩ := key_pre r _ _ _ h
    exact ⟨h1, (List.cons.inj h2).2⟩
  | and l, s, t, u, h => by
    cases s <;> simp [key] at h ⊢
    exact keys_pre l _ _ _ h
  | minus x y, s, t, u, h => by
    cases s <;> simp [key] at h ⊢
    obtain ⟨h1, h2⟩ := key_pre x _ _ _ h
    obtain ⟨h3, h4⟩ := key_pre y _ _ _ (List.cons.inj h2).2
    exact ⟨⟨h1, h3⟩, (List.cons.inj h4).2⟩
theorem keys_pre : ∀ (l m : List Re) (t u : List UInt8), keys l ++ 41 :: t = keys m ++ 41 :: u → l = m ∧ t = u
  | [], m, t, u, h => by
    cases m with
    | nil => simpa [keys] using h
    | cons s m => simp [keys] at h
  | r :: l, m, t, u, h => by
    cases m with
    | nil => simp [keys] at h
    | cons s m =>
      simp [keys] at h
      obtain ⟨h1, h2⟩ := key_pre r s _ _ h
      obtain ⟨h3, h4⟩ := keys_pre l m _ _ h2
      exact ⟨by rw [h1, h3], h4⟩
end
theorem key_inj {r s : Re} (h : r.key = s.key) : r = s := (key_pre r s [] [] (by rw [h])).1
theorem key_eq_iff (r s : Re) : r.key = s.key ↔ r = s := ⟨key_inj, fun h => by rw [h]⟩
end Re

/-- Strictly ascending by the keys. -/
def SSorted (l : List Re) : Prop := l.Pairwise fun a b => lessR a b = true
/-- Put into its place, once. -/
def ins (x : Re) : List Re → List Re
  | [] => [x]
  | y :: l => if lessR x y then x :: y :: l else if lessR y x then y :: ins x l else y :: l
def uniq (l : List Re) : List Re := l.foldr ins []

theorem less_total (x y : Re) (h1 : lessR x y = false) (h2 : lessR y x = false) : x = y := Re.key_inj (bl_total _ _ h1 h2)
theorem mem_ins (x z : Re) (l : List Re) : z ∈ ins x l ↔ z = x ∨ z ∈ l := by
  induction l with
  | nil => simp [ins]
  | cons y l ih =>
    unfold ins
    by_cases h1 : lessR x y = true
    · simp [h1]
    · by_cases h2 : lessR y x = true
      · simp only [h1, h2, if_true]
        simp [ih]
        constructor
        · rintro (h | h | h) <;> simp [h]
        · rintro (h | h | h) <;> simp [h]
      · have e := less_total x y (by simpa using h1) (by simpa using h2)
        simp only [h1, h2]
        simp [e]
theorem ins_sorted (x : Re) (l : List Re) (h : SSorted l) : SSorted (ins x l) := by
  induction l with
  | nil => simp [ins, SSorted]
  | cons y l ih =>
    unfold SSorted at h ih ⊢
    rw [List.pairwise_cons] at h
    unfold ins
    by_cases h1 : lessR x y = true
    · simp only [h1, if_true, List.pairwise_cons]
      refine ⟨fun z hz => ?_, h⟩
      rcases List.mem_cons.1 hz with rfl | hz
      · exact h1
      · exact lessR_swo.trans _ _ _ h1 (h.1 z hz)
    · by_cases h2 : lessR y x = true
      · simp only [h1, h2, if_true]
        simp only [Bool.false_eq_true, if_false, List.pairwise_cons]
        refine ⟨fun z hz => ?_, ih h.2⟩
        rcases (mem_ins x z l).1 hz with rfl | hz
        · exact h2
        · exact h.1 z hz
      · simp only [h1, h2]
        simpa using h
theorem uniq_sorted (l : List Re) : SSorted (uniq l) := by
  induction l with
  | nil => simp [uniq, SSorted]
  | cons x l ih => exact ins_sorted x _ ih
theorem mem_uniq (l : List Re) (z : Re) : z ∈ uniq l ↔ z ∈ l := by
  induction l with
  | nil => simp [uniq]
  | cons x l ih => rw [show uniq (x :: l) = ins x (uniq l) from rfl, mem_ins, ih]; simp
/-- Two strictly ascending rows with the same elements are one. -/
theorem sorted_unique : ∀ (l m : List Re), SSorted l → SSorted m → (∀ z, z ∈ l ↔ z ∈ m) → l = m
  | [], [], _, _, _ => rfl
  | [], y :: m, _, _, h => by have := (h y).2 (by simp); simp at this
  | x :: l, [], _, _, h => by have := (h x).1 (by simp); simp at this
  | x :: l, y :: m, hl, hm, h => by
    unfold SSorted at hl hm
    rw [List.pairwise_cons] at hl hm
    have e : x = y := by
      have hx := (h x).1 (by simp)
      have hy := (h y).2 (by simp)
      rcases List.mem_cons.1 hx with e | hx
      · exact e
      · rcases List.mem_cons.1 hy with e | hy
        · exact e.symm
        · have h1 := hm.1 x hx
          have h2 := hl.1 y hy
          have := lessR_swo.trans _ _ _ h1 h2
          rw [lessR_swo.irrefl] at this; cases this
    subst e
    congr 1
    refine sorted_unique l m hl.2 hm.2 (fun z => ⟨fun hz => ?_, fun hz => ?_⟩)
    · rcases List.mem_cons.1 ((h z).1 (by simp [hz])) with e | h'
      · rw [e] at hz
        have := hl.1 x hz
        rw [lessR_swo.irrefl] at this; cases this
      · exact h'
    · rcases List.mem_cons.1 ((h z).2 (by simp [hz])) with e | h'
      · rw [e] at hz
        have := hm.1 x hz
        rw [lessR_swo.irrefl] at this; cases this
      · exact h'
theorem uniq_congr {l m : List Re} (h : ∀ z, z ∈ l ↔ z ∈ m) : uniq l = uniq m :=
  sorted_unique _ _ (uniq_sorted l) (uniq_sorted m) (fun z => by rw [mem_uniq, mem_uniq]; exact h z)
end Go.Proofs.YtfpfloahkibcgaaGreatDoor

/- Plain: what the calls of package re make of expressions. -/
namespace Go.Proofs.YtfpfloahkibcgaaGreatDoor

/-- The loop of re.join: what is left, what has been put out, the class so far. -/
def joinGo (f : CSet → CSet → CSet) : List Re → List Re → Option CSet → List Re
  | [], out, one => uniq (out ++ (one.map Re.cls).toList)
  | .cls s :: l, out, none => joinGo f l out (some s)
  | .cls s :: l, out, some o => if f o s = CSet.zero then out ++ [.none] else joinGo f l out (some (f o s))
  | r :: l, out, one => joinGo f l (out ++ [r]) one
def joinL (o : Nat) (f : CSet → CSet → CSet) (l : List Re) : List Re := joinGo f (flatL o l) [] none
theorem joinGo_other (f : CSet → CSet → CSet) (r : Re) (l out : List Re) (one : Option CSet) (h : r.op ≠ 2) : joinGo f (r :: l) out one = joinGo f l (out ++ [r]) one := by
  cases r <;> first | rfl | exact absurd rfl h
def isNone (r : Re) : Bool := r.op == 0
def isEps (r : Re) : Bool := r.op == 1
/-- Then, behind the flattening. -/
def packCat : List Re → Re
  | [] => .eps
  | [r] => r
  | l => .cat l
def thenL (l : List Re) : Re :=
  let all := (flatL 3 l).filter fun r => !isEps r
  if all.any isNone then .none else packCat all
def packOr : List Re → Re
  | [] => .none
  | [r] => r
  | l => .or l
def anyL (l : List Re) : Re := packOr ((joinL 4 CSet.or l).filter fun r => !isNone r)
def packAnd : List Re → Re
  | [] => .star (.cls CSet.all)
  | [r] => r
  | l => .and l
def bothL (l : List Re) : Re :=
  let all := joinL 6 CSet.and l
  if all.any isNone then .none else packAnd all
def manyR (r : Re) : Re := if r.op = 0 ∨ r.op = 1 then .eps else if r.op = 5 then r else .star r
def oneR (s : CSet) : Re := if s = CSet.zero then .none else .cls s
def butR (a b : Re) : Re :=
  if a.op = 0 ∨ a.key = b.key then .none else if b.op = 0 then a else if a.op = 2 ∧ b.op = 2 then oneR (a.set.minus b.set) else .minus a b
/-- What re.Word makes. -/
def byteR (b : UInt8) : Re := oneR (CSet.ofList [b.toNat])
def wordR (s : List UInt8) : Re := thenL (s.map byteR)
end Go.Proofs.YtfpfloahkibcgaaGreatDoor

/- Plain: how great what the calls make is. -/
namespace Go.Proofs.YtfpfloahkibcgaaGreatDoor
open Re

theorem sizes_cons (r : Re) (l : List Re) : sizes (r :: l) = r.size + sizes l := rfl
theorem flat1_sizes (o : Nat) (r : Re) : sizes (flat1 o r) ≤ r.size := by
  unfold flat1
  split
  · rw [size_kids r]; omega
  · simp [sizes]
theorem flatL_sizes (o : Nat) (l : List Re) : sizes (flatL o l) ≤ sizes l := by
  induction l with
  | nil => simp [flatL, sizes]
  | cons r l ih =>
    have h1 := flat1_sizes o r
    rw [show flatL o (r :: l) = flat1 o r ++ flatL o l by simp [flatL], sizes_append, sizes_cons]
    omega
theorem filter_sizes (p : Re → Bool) (l : List Re) : sizes (l.filter p) ≤ sizes l := by
  induction l with
  | nil => simp
  | cons r l ih =>
    rw [List.filter_cons, sizes_cons]
    split
    · rw [sizes_cons]; omega
    · omega
theorem ins_sizes (x : Re) (l : List Re) : sizes (ins x l) ≤ x.size + sizes l := by
  induction l with
  | nil => simp [ins, sizes]
  | cons y l ih =>
    unfold ins
    split
    · simp [sizes]
    · split
      · simp [sizes] at ih ⊢; omega
      · simp [sizes]
theorem uniq_sizes (l : List Re) : sizes (uniq l) ≤ sizes l := by
  induction l with
  | nil => simp [uniq]
  | cons x l ih =>
    have := ins_sizes x (uniq l)
    rw [sizes_cons]
    simp only [uniq, List.foldr_cons] at ih this ⊢
    omega
theorem joinGo_sizes (f : CSet → CSet → CSet) : ∀ (l out : List Re) (one : Option CSet), sizes (joinGo f l out one) ≤ sizes l + sizes out + sizes (one.map Re.cls).toList
  | [], out, one => by
    have := uniq_sizes (out ++ (one.map Re.cls).toList)
    rw [sizes_append] at this
    simp [joinGo, sizes]
    omega
  | r :: l, out, one => by
    by_cases h : r.op = 2
    · obtain ⟨s, rfl⟩ : ∃ s, r = .cls s := by cases r <;> first | exact ⟨_, rfl⟩ | simp [Re.op] at h
      cases one with
      | none =>
        have := joinGo_sizes f l out (some s)
        simp [joinGo, sizes, size] at this ⊢
        omega
      | some o =>
        simp only [joinGo]
        split
        · simp [sizes_append, sizes, size]
        · have := joinGo_sizes f l out (some (f o s))
          simp [sizes, size] at this ⊢
          omega
    · rw [joinGo_other _ _ _ _ _ h]
      have := joinGo_sizes f l (out ++ [r]) one
      rw [sizes_append] at this
      simp [sizes] at this ⊢
      omega
theorem joinL_sizes (o : Nat) (f : CSet → CSet → CSet) (l : List Re) : sizes (joinL o f l) ≤ sizes l := by
  have h1 := joinGo_sizes f (flatL o l) [] none
  have h2 := flatL_sizes o l
  simp [sizes] at h1
  unfold joinL
  omega
theorem len_sizes (l : List Re) : l.length ≤ sizes l := length_le_sizes l
theorem packCat_size (l : List Re) : (packCat l).size ≤ 1 + sizes l := by
  match l with
  | [] => simp [packCat, size]
  | [r] => simp [packCat, sizes]
  | a :: b :: l => simp [packCat, size]
theorem packOr_size (l : List Re) : (packOr l).size ≤ 1 + sizes l := by
  match l with
  | [] => simp [packOr, size]
  | [r] => simp [packOr, sizes]
  | a :: b :: l => simp [packOr, size]
theorem packAnd_size (l : List Re) : (packAnd l).size ≤ 2 + sizes l := by
  match l with
  | [] => simp [packAnd, size]
  | [r] => simp [packAnd, sizes]
  | a :: b :: l => simp [packAnd, size]
theorem thenL_size (l : List Re) : (thenL l).size ≤ 1 + sizes l := by
  unfold thenL
  simp only []
  have h1 := filter_sizes (fun r => !isEps r) (flatL 3 l)
  have h2 := flatL_sizes 3 l
  split
  · simp [size]
  · have := packCat_size ((flatL 3 l).filter fun r => !isEps r); omega
theorem anyL_size (l : List Re) : (anyL l).size ≤ 1 + sizes l := by
  unfold anyL
  have h1 := filter_sizes (fun r => !isNone r) (joinL 4 CSet.or l)
  have h2 := joinL_sizes 4 CSet.or l
  have := packOr_size ((joinL 4 CSet.or l).filter fun r => !isNone r)
  omega
theorem bothL_size (l : List Re) : (bothL l).size ≤ 2 + sizes l := by
  unfold bothL
  simp only []
  have h2 := joinL_sizes 6 CSet.and l
  split
  · simp [size]; omega
  · have := packAnd_size (joinL 6 CSet.and l); omega
end Go.Proofs.YtfpfloahkibcgaaGreatDoor

/- Plain: settled expressions, and what the makers make of settled ones. -/
namespace Go.Proofs.YtfpfloahkibcgaaGreatDoor

namespace CSet
theorem bv_and (x : BitVec 64) : x &&& ~~~(0#64) = x := by rw [BitVec.not_zero, BitVec.and_allOnes]
theorem and_all (s : CSet) : s.and all = s := by
  obtain ⟨a, b, c, d⟩ := s
  show CSet.mk (a &&& ~~~(0#64)) (b &&& ~~~(0#64)) (c &&& ~~~(0#64)) (d &&& ~~~(0#64)) = _
  rw [bv_and, bv_and, bv_and, bv_and]
theorem all_and (s : CSet) : all.and s = s := by rw [and_comm, and_all]
/-- All that stands in one of them. -/
def orL (cs : List CSet) : CSet := cs.foldl or zero
/-- All that stands in each of them. -/
def andL (cs : List CSet) : CSet := cs.foldl and all
theorem foldl_or (cs : List CSet) : ∀ z, cs.foldl or z = z.or (orL cs) := by
  induction cs with
  | nil => intro z; simp [orL, or_zero]
  | cons s l ih => intro z; simp only [List.foldl_cons, orL]; rw [ih, ih (zero.or s), zero_or, or_assoc]
theorem foldl_and (cs : List CSet) : ∀ z, cs.foldl and z = z.and (andL cs) := by
  induction cs with
  | nil => intro z; simp [andL, and_all]
  | cons s l ih => intro z; simp only [List.foldl_cons, andL]; rw [ih, ih (all.and s), all_and, and_assoc]
theorem orL_cons (s : CSet) (cs : List CSet) : orL (s :: cs) = s.or (orL cs) := by rw [orL, List.foldl_cons, foldl_or, zero_or]
theorem andL_cons (s : CSet) (cs : List CSet) : andL (s :: cs) = s.and (andL cs) := by rw [andL, List.foldl_cons, foldl_and, all_and]
theorem orL_append (cs ds : List CSet) : orL (cs ++ ds) = (orL cs).or (orL ds) := by
  induction cs with
  | nil => exact (zero_or _).symm
  | cons s l ih => rw [List.cons_append, orL_cons, orL_cons, ih, or_assoc]
theorem andL_append (cs ds : List CSet) : andL (cs ++ ds) = (andL cs).and (andL ds) := by
  induction cs with
  | nil => exact (all_and _).symm
  | cons s l ih => rw [List.cons_append, andL_cons, andL_cons, ih, and_assoc]
theorem or_absorb {s : CSet} {cs : List CSet} (h : s ∈ cs) : s.or (orL cs) = orL cs := by
  induction cs with
  | nil => cases h
  | cons t l ih =>
    rw [orL_cons]
    rcases List.mem_cons.1 h with e | e
    · rw [e, ← or_assoc, or_self]
    · rw [or_comm t, ← or_assoc, ih e]
theorem and_absorb {s : CSet} {cs : List CSet} (h : s ∈ cs) : s.and (andL cs) = andL cs := by
  induction cs with
  | nil => cases h
  | cons t l ih =>
    rw [andL_cons]
    rcases List.mem_cons.1 h with e | e
    · rw [e, ← and_assoc, and_self]
    · rw [and_comm t, ← and_assoc, ih e]
theorem orL_le {cs ds : List CSet} (h : ∀ s ∈ cs, s ∈ ds) : (orL cs).or (orL ds) = orL ds := by
  induction cs with
  | nil => exact zero_or _
  | cons s l ih => rw [orL_cons, or_assoc, ih (fun x hx => h x (List.mem_cons_of_mem _ hx)), or_absorb (h s (List.mem_cons_self ..))]
theorem andL_le {cs ds : List CSet} (h : ∀ s ∈ cs, s ∈ ds) : (andL cs).and (andL ds) = andL ds := by
  induction cs with
  | nil => exact all_and _
  | cons s l ih => rw [andL_cons, and_assoc, ih (fun x hx => h x (List.mem_cons_of_mem _ hx)), and_absorb (h s (List.mem_cons_self ..))]
theorem orL_congr {cs ds : List CSet} (h : ∀ s, s ∈ cs ↔ s ∈ ds) : orL cs = orL ds := by
  have h1 := orL_le (fun s hs => (h s).1 hs)
  have h2 := orL_le (fun s hs => (h s).2 hs)
  rw [or_comm] at h2
  exact h2.symm.trans h1
theorem andL_congr {cs ds : List CSet} (h : ∀ s, s ∈ cs ↔ s ∈ ds) : andL cs = andL ds := by
  have h1 := andL_le (fun s hs => (h s).1 hs)
  have h2 := andL_le (fun s hs => (h s).2 hs)
  rw [and_comm] at h2
  exact h2.symm.trans h1
theorem or_eq_zero {s t : CSet} (h : s.or t = zero) : s = zero := by
  obtain ⟨a, b, c, d⟩ := s
  obtain ⟨a', b', c', d'⟩ := t
  simp only [or, zero, CSet.mk.injEq] at h ⊢
  refine ⟨?_, ?_, ?_, ?_⟩
  · have := h.1; ext i; have := congrArg (fun x => x.getLsbD i) this; simp at this; simp_all
  · have := h.2.1; ext i; have := congrArg (fun x => x.getLsbD i) this; simp at this; simp_all
  · have := h.2.2.1; ext i; have := congrArg (fun x => x.getLsbD i) this; simp at this; simp_all
  · have := h.2.2.2; ext i; have := congrArg (fun x => x.getLsbD i) this; simp at this; simp_all
end CSet

/-- The sets of the classes among them. -/
def clss : List Re → List CSet
  | [] => []
  | .cls s :: l => s :: clss l
  | _ :: l => clss l
/-- Those that are no class. -/
def oths (l : List Re) : List Re := l.filter fun r => r.op != 2
theorem mem_clss (l : List Re) (s : CSet) : s ∈ clss l ↔ Re.cls s ∈ l := by
  induction l with
  | nil => simp [clss]
  | cons r l ih => cases r <;> simp [clss, ih]
theorem clss_append (l m : List Re) : clss (l ++ m) = clss l ++ clss m := by
  induction l with
  | nil => rfl
  | cons r l ih => cases r <;> simp [clss, ih]
theorem mem_oths (l : List Re) (z : Re) : z ∈ oths l ↔ z ∈ l ∧ z.op ≠ 2 := by simp [oths]
theorem clss_other (r : Re) (l : List Re) (h : r.op ≠ 2) : clss (r :: l) = clss l := by cases r <;> first | rfl | exact absurd rfl h
theorem oths_other (r : Re) (l : List Re) (h : r.op ≠ 2) : oths (r :: l) = r :: oths l := by simp [oths, h]
theorem op_two {r : Re} (h : r.op = 2) : ∃ s, r = .cls s := by cases r <;> first | exact ⟨_, rfl⟩ | (simp [Re.op] at h)
theorem op_zero {r : Re} (h : r.op = 0) : r = .none := by cases r <;> first | rfl | (simp [Re.op] at h)

/-- One class out of those so far and these: none where one is empty. -/
def joinC (f : CSet → CSet → CSet) : Option CSet → List CSet → Option (Option CSet)
  | one, [] => some one
  | none, s :: l => joinC f (some s) l
  | some o, s :: l => if f o s = CSet.zero then none else joinC f (some (f o s)) l
theorem joinGo_eq (f : CSet → CSet → CSet) : ∀ (l out : List Re) (one : Option CSet),
    (∀ o, joinC f one (clss l) = some o → joinGo f l out one = uniq (out ++ oths l ++ (o.map Re.cls).toList)) ∧
    (joinC f one (clss l) = none → ∃ out', joinGo f l out one = out' ++ [.none])
  | [], out, one => ⟨fun o h => by cases h; simp [joinGo, oths], fun h => by cases one <;> simp [clss, joinC] at h⟩
  | r :: l, out, one => by
    by_cases hr : r.op = 2
    · obtain ⟨s, rfl⟩ := op_two hr
      have e1 : clss (.cls s :: l) = s :: clss l := rfl
      have e2 : oths (.cls s :: l) = oths l := by simp [oths, Re.op]
      rw [e1, e2]
      cases one with
      | none => simp only [joinC, joinGo]; exact joinGo_eq f l out (some s)
      | some o =>
        simp only [joinC, joinGo]
        by_cases hz : f o s = CSet.zero
        · rw [if_pos hz, if_pos hz]
          exact ⟨fun _ h => (by cases h), fun _ => ⟨out, rfl⟩⟩
        · rw [if_neg hz, if_neg hz]
          exact joinGo_eq f l out (some (f o s))
    · rw [clss_other r l hr, oths_other r l hr, joinGo_other f r l out one hr]
      have := joinGo_eq f l (out ++ [r]) one
      simpa [List.append_assoc] using this
theorem joinC_or : ∀ (cs : List CSet) (o : CSet), o ≠ CSet.zero → joinC CSet.or (some o) cs = some (some (o.or (CSet.orL cs)))
  | [], o, _ => by simp [joinC, CSet.orL, CSet.or_zero]
  | s :: l, o, h => by
    have hne : ¬ o.or s = CSet.zero := fun e => h (CSet.or_eq_zero e)
    rw [joinC, if_neg hne, joinC_or l _ hne, CSet.orL_cons, CSet.or_assoc]
theorem joinC_or0 (cs : List CSet) (h : ∀ s ∈ cs, s ≠ CSet.zero) : joinC CSet.or none cs = some (if cs = [] then none else some (CSet.orL cs)) := by
  cases cs with
  | nil => rfl
  | cons s l => rw [joinC, joinC_or l s (h s (List.mem_cons_self ..)), if_neg (by simp), CSet.orL_cons]
theorem joinC_and : ∀ (cs : List CSet) (o : CSet), o ≠ CSet.zero → joinC CSet.and (some o) cs = if o.and (CSet.andL cs) = CSet.zero then none else some (some (o.and (CSet.andL cs)))
  | [], o, h => by
    have e : o.and (CSet.andL []) = o := CSet.and_all o
    rw [e, if_neg h, joinC]
  | s :: l, o, h => by
    rw [joinC, CSet.andL_cons, ← CSet.and_assoc]
    by_cases hz : o.and s = CSet.zero
    · rw [if_pos hz, hz, CSet.zero_and, if_pos rfl]
    · rw [if_neg hz, joinC_and l _ hz]
theorem joinC_and0 (cs : List CSet) (h : ∀ s ∈ cs, s ≠ CSet.zero) : joinC CSet.and none cs = if cs = [] then some none else if CSet.andL cs = CSet.zero then none else some (some (CSet.andL cs)) := by
  cases cs with
  | nil => rfl
  | cons s l => rw [joinC, joinC_and l s (h s (List.mem_cons_self ..)), CSet.andL_cons, if_neg (show ¬ (s :: l = []) by simp)]

/-- What an Any holds, of these flat ones. -/
def AnyMem (F : List Re) (z : Re) : Prop := (z ∈ F ∧ z.op ≠ 2 ∧ z.op ≠ 0) ∨ (clss F ≠ [] ∧ z = .cls (CSet.orL (clss F)))
/-- What a Both holds. -/
def BothMem (F : List Re) (z : Re) : Prop := (z ∈ F ∧ z.op ≠ 2) ∨ (clss F ≠ [] ∧ z = .cls (CSet.andL (clss F)))
/-- No empty class. -/
def NZ (F : List Re) : Prop := ∀ s ∈ clss F, s ≠ CSet.zero
theorem filter_sorted {l : List Re} (p : Re → Bool) (h : SSorted l) : SSorted (l.filter p) := List.Pairwise.filter p h
theorem anyL_char (rs : List Re) (h : NZ (flatL 4 rs)) : ∃ L, anyL rs = packOr L ∧ SSorted L ∧ ∀ z, z ∈ L ↔ AnyMem (flatL 4 rs) z := by
  have h1 := (joinGo_eq CSet.or (flatL 4 rs) [] none).1 _ (joinC_or0 _ h)
  refine ⟨_, rfl, filter_sorted _ (by unfold joinL; rw [h1]; exact uniq_sorted _), fun z => ?_⟩
  unfold joinL AnyMem
  rw [h1, List.mem_filter, mem_uniq, List.nil_append, List.mem_append, mem_oths]
  have hn : ∀ x : Re, (!isNone x) = true ↔ x.op ≠ 0 := fun x => by simp [isNone]
  rw [hn]
  by_cases hc : clss (flatL 4 rs) = []
  · rw [if_pos hc]
    constructor
    · intro ⟨h2, h3⟩
      rcases h2 with h2 | h2
      · exact .inl ⟨h2.1, h2.2, h3⟩
      · cases h2
    · intro h2
      rcases h2 with h2 | h2
      · exact ⟨.inl ⟨h2.1, h2.2.1⟩, h2.2.2⟩
      · exact absurd hc h2.1
  · rw [if_neg hc, Option.map_some, Option.toList_some, List.mem_singleton]
    constructor
    · intro ⟨h2, h3⟩
      rcases h2 with h2 | h2
      · exact .inl ⟨h2.1, h2.2, h3⟩
      · exact .inr ⟨hc, h2⟩
    · intro h2
      rcases h2 with h2 | h2
      · exact ⟨.inl ⟨h2.1, h2.2.1⟩, h2.2.2⟩
      · exact ⟨.inr h2.2, by rw [h2.2]; simp [Re.op]⟩
/-- Is a Both of these nothing? -/
def BothNo (F : List Re) : Prop := Re.none ∈ F ∨ (clss F ≠ [] ∧ CSet.andL (clss F) = CSet.zero)
theorem bothL_no (rs : List Re) (h : NZ (flatL 6 rs)) (hn : BothNo (flatL 6 rs)) : bothL rs = .none := by
  unfold bothL
  by_cases hz : clss (flatL 6 rs) ≠ [] ∧ CSet.andL (clss (flatL 6 rs)) = CSet.zero
  · obtain ⟨out, e⟩ := (joinGo_eq CSet.and (flatL 6 rs) [] none).2 (by rw [joinC_and0 _ h, if_neg hz.1, if_pos hz.2])
    unfold joinL
    rw [e, if_pos (by simp [isNone, Re.op])]
  · have hm : Re.none ∈ flatL 6 rs := hn.resolve_right hz
    have : ∃ o, joinC CSet.and none (clss (flatL 6 rs)) = some o := by
      rw [joinC_and0 _ h]
      by_cases hc : clss (flatL 6 rs) = []
      · rw [if_pos hc]; exact ⟨_, rfl⟩
      · rw [if_neg hc, if_neg (fun e => hz ⟨hc, e⟩)]; exact ⟨_, rfl⟩
    obtain ⟨o, ho⟩ := this
    have h1 := (joinGo_eq CSet.and (flatL 6 rs) [] none).1 o ho
    unfold joinL
    rw [h1, if_pos]
    rw [List.any_eq_true]
    exact ⟨.none, by rw [mem_uniq]; simp [mem_oths, hm, Re.op], rfl⟩
theorem bothL_char (rs : List Re) (h : NZ (flatL 6 rs)) (hn : ¬ BothNo (flatL 6 rs)) : ∃ L, bothL rs = packAnd L ∧ SSorted L ∧ ∀ z, z ∈ L ↔ BothMem (flatL 6 rs) z := by
  have hno : Re.none ∉ flatL 6 rs := fun e => hn (.inl e)
  have hz : clss (flatL 6 rs) ≠ [] → CSet.andL (clss (flatL 6 rs)) ≠ CSet.zero := fun hc e => hn (.inr ⟨hc, e⟩)
  have ho : joinC CSet.and none (clss (flatL 6 rs)) = some (if clss (flatL 6 rs) = [] then none else some (CSet.andL (clss (flatL 6 rs)))) := by
    rw [joinC_and0 _ h]
    by_cases hc : clss (flatL 6 rs) = []
    · rw [if_pos hc, if_pos hc]
    · rw [if_neg hc, if_neg hc, if_neg (hz hc)]
  have h1 := (joinGo_eq CSet.and (flatL 6 rs) [] none).1 _ ho
  have hmem : ∀ z, z ∈ joinL 6 CSet.and rs ↔ BothMem (flatL 6 rs) z := fun z => by
    unfold joinL BothMem
    rw [h1, mem_uniq, List.nil_append, List.mem_append, mem_oths]
    by_cases hc : clss (flatL 6 rs) = []
    · simp [hc]
    · simp [hc]
  refine ⟨joinL 6 CSet.and rs, ?_, by unfold joinL; rw [h1]; exact uniq_sorted _, hmem⟩
  unfold bothL
  simp only []
  rw [if_neg]
  rw [List.any_eq_true]
  rintro ⟨z, hz1, hz2⟩
  have hz0 : z = .none := op_zero (by simpa [isNone] using hz2)
  subst hz0
  rcases (hmem _).1 hz1 with h | h
  · exact hno h.1
  · exact absurd h.2 (by intro e; cases e)
theorem thenL_no (l : List Re) (h : Re.none ∈ flatL 3 l) : thenL l = .none := by
  unfold thenL
  simp only []
  rw [if_pos]
  rw [List.any_eq_true]
  exact ⟨.none, List.mem_filter.2 ⟨h, rfl⟩, rfl⟩
theorem thenL_eq (l : List Re) (h : Re.none ∉ flatL 3 l) : thenL l = packCat ((flatL 3 l).filter fun r => !isEps r) := by
  unfold thenL
  simp only []
  rw [if_neg]
  rw [List.any_eq_true]
  intro ⟨z, hz1, hz2⟩
  have hz : z = .none := op_zero (by simpa [isNone] using hz2)
  subst hz
  exact h (List.mem_filter.1 hz1).1
end Go.Proofs.YtfpfloahkibcgaaGreatDoor

/- Plain: settled expressions; the makers settle; with its own kids an expression is itself. -/
namespace Go.Proofs.YtfpfloahkibcgaaGreatDoor

/-- At most one class. -/
def OneCls (l : List Re) : Prop := (clss l).length ≤ 1
/-- What the settled form asks of an op with its kids. -/
def Fit : Re → Prop
  | .none => True
  | .eps => True
  | .cls s => s ≠ CSet.zero
  | .cat l => 2 ≤ l.length ∧ ∀ k ∈ l, k.op ≠ 3 ∧ k.op ≠ 1
  | .or l => 2 ≤ l.length ∧ (∀ k ∈ l, k.op ≠ 4) ∧ SSorted l ∧ OneCls l
  | .star r => r.op ≠ 5 ∧ r.op ≠ 1
  | .and l => 2 ≤ l.length ∧ (∀ k ∈ l, k.op ≠ 6) ∧ SSorted l ∧ OneCls l
  | .minus x y => x ≠ y ∧ ¬ (x.op = 2 ∧ y.op = 2)
/-- SETTLED. -/
inductive Good : Re → Prop
  | mk (r : Re) (h : Fit r) (hk : ∀ k ∈ r.kids, Good k) (h0 : ∀ k ∈ r.kids, k.op ≠ 0) : Good r
theorem Good.fit {r : Re} (h : Good r) : Fit r := by cases h; assumption
theorem Good.kid {r k : Re} (h : Good r) (hk : k ∈ r.kids) : Good k ∧ k.op ≠ 0 := by
  cases h with
  | mk _ _ h h0 => exact ⟨h k hk, h0 k hk⟩
theorem Good.of {r : Re} (h : Fit r) (hk : ∀ k ∈ r.kids, Good k ∧ k.op ≠ 0) : Good r := .mk r h (fun k h => (hk k h).1) (fun k h => (hk k h).2)
theorem Good.none : Good .none := .of trivial (fun k hk => by cases hk)
theorem Good.eps : Good .eps := .of trivial (fun k hk => by cases hk)
theorem Good.cls {s : CSet} (h : s ≠ CSet.zero) : Good (.cls s) := .of h (fun k hk => by cases hk)
theorem Good.all_ : Good (.star (.cls CSet.all)) := by
  have h : CSet.all ≠ CSet.zero := by decide
  refine .of ⟨by simp [Re.op], by simp [Re.op]⟩ fun k hk => ?_
  simp [Re.kids] at hk
  subst hk
  exact ⟨.cls h, by simp [Re.op]⟩
def Goods (l : List Re) : Prop := ∀ r ∈ l, Good r
theorem mem_flat {o : Nat} {l : List Re} {z : Re} : z ∈ flatL o l ↔ ∃ r ∈ l, z ∈ flat1 o r := by simp [flatL]
theorem mem_flat1 {o : Nat} {r z : Re} : z ∈ flat1 o r ↔ (r.op = o ∧ z ∈ r.kids) ∨ (r.op ≠ o ∧ z = r) := by
  unfold flat1
  by_cases h : r.op = o
  · rw [if_pos h]; simp [h]
  · rw [if_neg h]; simp [h]
theorem flat_good {o : Nat} {l : List Re} (h : Goods l) : Goods (flatL o l) := fun z hz => by
  obtain ⟨r, hr, hz⟩ := mem_flat.1 hz
  rcases mem_flat1.1 hz with ⟨-, hk⟩ | ⟨-, e⟩
  · exact ((h r hr).kid hk).1
  · rw [e]; exact h r hr
theorem kid_op {r k : Re} (h : Good r) (hk : k ∈ r.kids) (ho : r.op = 3 ∨ r.op = 4 ∨ r.op = 6) : k.op ≠ r.op := by
  have hf := h.fit
  cases r with
  | cat l => exact (hf.2 k hk).1
  | or l => exact hf.2.1 k hk
  | and l => exact hf.2.1 k hk
  | _ => simp [Re.op] at ho
theorem flat_op {o : Nat} {l : List Re} (h : Goods l) (ho : o = 3 ∨ o = 4 ∨ o = 6) {z : Re} (hz : z ∈ flatL o l) : z.op ≠ o := by
  obtain ⟨r, hr, hz⟩ := mem_flat.1 hz
  rcases mem_flat1.1 hz with ⟨e, hk⟩ | ⟨e, e'⟩
  · have := kid_op (h r hr) hk (by rw [e]; exact ho)
    rw [e] at this
    exact this
  · rw [e']; exact e
theorem good_nz {l : List Re} (h : Goods l) : NZ l := fun s hs => (h _ ((mem_clss l s).1 hs)).fit
theorem oneCls_of {L : List Re} {u : CSet} (hs : SSorted L) (h : ∀ s, Re.cls s ∈ L → s = u) : OneCls L := by
  unfold OneCls
  have hn : (clss L).Nodup := by
    induction L with
    | nil => exact List.nodup_nil
    | cons r l ih =>
      have hs' : SSorted l := (List.pairwise_cons.1 hs).2
      have h' := ih hs' (fun s hs => h s (List.mem_cons_of_mem _ hs))
      by_cases hr : r.op = 2
      · obtain ⟨s, rfl⟩ := op_two hr
        refine List.nodup_cons.2 ⟨fun hm => ?_, h'⟩
        have := (List.pairwise_cons.1 hs).1 _ ((mem_clss l s).1 hm)
        rw [lessR_swo.irrefl] at this
        cases this
      · rw [clss_other r l hr]; exact h'
  match hc : clss L, hn with
  | [], _ => simp
  | [a], _ => simp
  | a :: b :: m, hn =>
    have ha := h a ((mem_clss L a).1 (by rw [hc]; simp))
    have hb := h b ((mem_clss L b).1 (by rw [hc]; simp))
    rw [ha, hb] at hn
    simp at hn
end Go.Proofs.YtfpfloahkibcgaaGreatDoor
