/- Plain: expressions as a datatype, their keys, sizes, texts, and what the calls make of them. No program in sight. -/
import Derived.Laws.Strings
import Derived.Lib.Join
namespace Go.Proofs.YtihloigpdcinkaaDoor

/-- A set of bytes: four words. -/
structure CSet where
  a : BitVec 64
  b : BitVec 64
  c : BitVec 64
  d : BitVec 64
  deriving DecidableEq, Inhabited

namespace CSet
def zero : CSet := ⟨0, 0, 0, 0⟩
def or (s t : CSet) : CSet := ⟨s.a ||| t.a, s.b ||| t.b, s.c ||| t.c, s.d ||| t.d⟩
def and (s t : CSet) : CSet := ⟨s.a &&& t.a, s.b &&& t.b, s.c &&& t.c, s.d &&& t.d⟩
def minus (s t : CSet) : CSet := ⟨s.a &&& ~~~t.a, s.b &&& ~~~t.b, s.c &&& ~~~t.c, s.d &&& ~~~t.d⟩
def not (s : CSet) : CSet := ⟨~~~s.a, ~~~s.b, ~~~s.c, ~~~s.d⟩
/-- Word number i. -/
def word (s : CSet) : Nat → BitVec 64
  | 0 => s.a
  | 1 => s.b
  | 2 => s.c
  | 3 => s.d
  | _ => 0
/-- Is byte b in it? -/
def has (s : CSet) (b : Nat) : Bool := (s.word (b / 64)).getLsbD (b % 64)
def all : CSet := CSet.not zero
/-- With another word number i. -/
def put (s : CSet) (i : Nat) (x : BitVec 64) : CSet := match i with
  | 0 => { s with a := x }
  | 1 => { s with b := x }
  | 2 => { s with c := x }
  | _ => { s with d := x }
/-- With byte b. -/
def add (s : CSet) (b : Nat) : CSet := s.put (b / 64) (s.word (b / 64) ||| BitVec.twoPow 64 (b % 64))
def ofList (l : List Nat) : CSet := l.foldl add zero
/-- From low on, n of them. -/
def fromN (low : Nat) (n : Nat) : CSet := ofList ((List.range n).map (low + ·))
theorem or_assoc (s t u : CSet) : (s.or t).or u = s.or (t.or u) := by simp [or, BitVec.or_assoc]
theorem or_comm (s t : CSet) : s.or t = t.or s := by simp [or, BitVec.or_comm]
theorem or_self (s : CSet) : s.or s = s := by simp [or]
theorem or_zero (s : CSet) : s.or zero = s := by simp [or, zero]
theorem zero_or (s : CSet) : zero.or s = s := by simp [or, zero]
theorem and_assoc (s t u : CSet) : (s.and t).and u = s.and (t.and u) := by simp [and, BitVec.and_assoc]
theorem and_comm (s t : CSet) : s.and t = t.and s := by simp [and, BitVec.and_comm]
theorem and_self (s : CSet) : s.and s = s := by simp [and]
theorem and_zero (s : CSet) : s.and zero = zero := by simp [and, zero]
theorem zero_and (s : CSet) : zero.and s = zero := by simp [and, zero]
end CSet

/-- An expression. -/
inductive Re where
  | none
  | eps
  | cls (s : CSet)
  | cat (l : List Re)
  | or (l : List Re)
  | star (r : Re)
  | and (l : List Re)
  | minus (x y : Re)
  deriving Inhabited

namespace Re
def op : Re → Nat
  | none => 0
  | eps => 1
  | cls _ => 2
  | cat _ => 3
  | or _ => 4
  | star _ => 5
  | and _ => 6
  | minus _ _ => 7
def set : Re → CSet
  | cls s => s
  | _ => CSet.zero
def kids : Re → List Re
  | cat l => l
  | or l => l
  | star r => [r]
  | and l => l
  | minus x y => [x, y]
  | _ => []

mutual
def null : Re → Bool
  | none => false
  | eps => true
  | cls _ => false
  | cat l => nullAll l
  | or l => nullAny l
  | star _ => true
  | and l => nullAll l
  | minus x y => null x && !null y
def nullAll : List Re → Bool
  | [] => true
  | r :: l => null r && nullAll l
def nullAny : List Re → Bool
  | [] => false
  | r :: l => null r || nullAny l
end

mutual
def size : Re → Nat
  | none => 1
  | eps => 1
  | cls _ => 1
  | cat l => 1 + sizes l
  | or l => 1 + sizes l
  | star r => 1 + size r
  | and l => 1 + sizes l
  | minus x y => 1 + (size x + size y)
def sizes : List Re → Nat
  | [] => 0
  | r :: l => size r + sizes l
end

/-- A digit to the base 36. -/
def dig36 (n : Nat) : UInt8 := UInt8.ofNat (if n < 10 then 48 + n else 87 + n)
/-- A number to the base 36, ahead of what is there. -/
def fmtOnto (n : Nat) (l : List UInt8) : List UInt8 := if h : n < 36 then dig36 n :: l else fmtOnto (n / 36) (dig36 (n % 36) :: l)
  termination_by n
  decreasing_by exact Nat.div_lt_self (by omega) (by omega)
def fmt36 (n : Nat) : List UInt8 := fmtOnto n []

/-- The words of a class, each with a blank ahead. -/
def words (s : CSet) : List UInt8 := 32 :: fmt36 s.a.toNat ++ 32 :: fmt36 s.b.toNat ++ 32 :: fmt36 s.c.toNat ++ 32 :: fmt36 s.d.toNat

mutual
def key : Re → List UInt8
  | none => [40, 48, 41]
  | eps => [40, 49, 41]
  | cls s => 40 :: 50 :: (words s ++ [41])
  | cat l => 40 :: 51 :: (keys l ++ [41])
  | or l => 40 :: 52 :: (keys l ++ [41])
  | star r => 40 :: 53 :: 32 :: (key r ++ [41])
  | and l => 40 :: 54 :: (keys l ++ [41])
  | minus x y => 40 :: 55 :: 32 :: (key x ++ 32 :: (key y ++ [41]))
def keys : List Re → List UInt8
  | [] => []
  | r :: l => 32 :: (key r ++ keys l)
end

theorem nullAll_eq (l : List Re) : nullAll l = l.all null := by
  induction l with
  | nil => simp [nullAll]
  | cons r l ih => simp [nullAll, ih]
theorem nullAny_eq (l : List Re) : nullAny l = l.any null := by
  induction l with
  | nil => simp [nullAny]
  | cons r l ih => simp [nullAny, ih]
theorem sizes_eq (l : List Re) : sizes l = (l.map size).sum := by
  induction l with
  | nil => simp [sizes]
  | cons r l ih => simp [sizes, ih]
theorem keys_eq (l : List Re) : keys l = l.flatMap fun r => 32 :: key r := by
  induction l with
  | nil => simp [keys]
  | cons r l ih => simp [keys, ih]
theorem sizes_append (l m : List Re) : sizes (l ++ m) = sizes l + sizes m := by simp [sizes_eq]
theorem keys_append (l m : List Re) : keys (l ++ m) = keys l ++ keys m := by simp [keys_eq]
theorem size_kids (r : Re) : r.size = 1 + sizes r.kids := by cases r <;> simp [size, sizes, kids]
theorem size_pos (r : Re) : 1 ≤ r.size := by rw [size_kids]; omega

/-- What stands between op and kids. -/
def mids (r : Re) : List UInt8 := match r with
  | cls s => words s
  | _ => []
theorem key_kids (r : Re) : r.key = 40 :: UInt8.ofNat (48 + r.op) :: (r.mids ++ (keys r.kids ++ [41])) := by
  cases r <;> simp [key, keys, kids, op, mids]

theorem fmtOnto_len : ∀ (k n : Nat) (l : List UInt8), n < 36 ^ (k + 1) → (fmtOnto n l).length ≤ l.length + (k + 1) := by
  intro k
  induction k with
  | zero =>
    intro n l h
    rw [fmtOnto, dif_pos (by simpa using h)]
    simp
  | succ k ih =>
    intro n l h
    rw [fmtOnto]
    split
    · simp
    · have := ih (n / 36) (dig36 (n % 36) :: l) (by rw [Nat.div_lt_iff_lt_mul (by omega)]; rw [Nat.pow_succ] at h; exact h)
      simp at this
      omega
theorem fmt36_len (x : BitVec 64) : (fmt36 x.toNat).length ≤ 13 := by
  have := fmtOnto_len 12 x.toNat [] (Nat.lt_trans x.isLt (by decide))
  simpa [fmt36] using this
theorem words_len (s : CSet) : (words s).length ≤ 56 := by
  have h1 := fmt36_len s.a; have h2 := fmt36_len s.b; have h3 := fmt36_len s.c; have h4 := fmt36_len s.d
  simp only [words, List.length_cons, List.length_append]
  omega
mutual
/-- A key is no longer than its expression's size allows. -/
theorem key_len : ∀ r : Re, r.key.length + 1 ≤ 64 * r.size
  | none => by simp [key, size]
  | eps => by simp [key, size]
  | cls s => by have := words_len s; simp [key, size]; omega
  | cat l => by have := keys_len l; simp [key, size]; omega
  | or l => by have := keys_len l; simp [key, size]; omega
  | star r => by have := key_len r; simp [key, size]; omega
  | and l => by have := keys_len l; simp [key, size]; omega
  | minus x y => by have := key_len x; have := key_len y; simp [key, size]; omega
theorem keys_len : ∀ l : List Re, (keys l).length ≤ 64 * sizes l
  | [] => by simp [keys, sizes]
  | r :: l => by have := key_len r; have := keys_len l; simp [keys, sizes]; omega
end
theorem sizes_take (l : List Re) (k : Nat) : sizes (l.take k) ≤ sizes l := by
  have := sizes_append (l.take k) (l.drop k)
  rw [List.take_append_drop] at this
  omega
theorem length_le_sizes (l : List Re) : l.length ≤ sizes l := by
  induction l with
  | nil => simp
  | cons r l ih => have := size_pos r; simp [sizes]; omega
end Re
/-- re.flat: expressions, the kids of those of an op in their places. -/
def flat1 (o : Nat) (r : Re) : List Re := if r.op = o then r.kids else [r]
def flatL (o : Nat) (l : List Re) : List Re := l.flatMap (flat1 o)
end Go.Proofs.YtihloigpdcinkaaDoor
