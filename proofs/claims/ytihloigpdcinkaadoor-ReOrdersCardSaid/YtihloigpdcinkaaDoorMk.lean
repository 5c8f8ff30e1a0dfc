/- Plain: what the calls of package re make of expressions. -/
import Derived.Test.YtihloigpdcinkaaDoorInj
namespace Go.Proofs.YtihloigpdcinkaaDoor

/-- The loop of re.join: what is left, what has been put out, the class so far. -/
def joinGo (f : CSet → CSet → CSet) : List Re → List Re → Option CSet → List Re
  | [], out, one => uniq (out ++ (one.map Re.cls).toList)
  | .cls s :: l, out, none => joinGo f l out (some s)
  | .cls s :: l, out, some o => if f o s = CSet.zero then out ++ [.none] else joinGo f l out (some (f o s))
  | r :: l, out, one => joinGo f l (out ++ [r]) one
def joinL (o : Nat) (f : CSet → CSet → CSet) (l : List Re) : List Re := joinGo f (flatL o l) [] none
theorem joinGo_other (f : CSet → CSet → CSet) (r : Re) (l out : List Re) (one : Option CSet) (h : r.op ≠ 2) : joinGo f (r :: l) out one = joinGo f l (out ++ [r]) one := by
  cases r <;> first | rfl | exact absurd rfl h
def isNone (r : Re) : Bool := r.op == 0
def isEps (r : Re) : Bool := r.op == 1
/-- Then, behind the flattening. -/
def packCat : List Re → Re
  | [] => .eps
  | [r] => r
  | l => .cat l
def thenL (l : List Re) : Re :=
  let all := (flatL 3 l).filter fun r => !isEps r
  if all.any isNone then .none else packCat all
def packOr : List Re → Re
  | [] => .none
  | [r] => r
  | l => .or l
def anyL (l : List Re) : Re := packOr ((joinL 4 CSet.or l).filter fun r => !isNone r)
def packAnd : List Re → Re
  | [] => .star (.cls CSet.all)
  | [r] => r
  | l => .and l
def bothL (l : List Re) : Re :=
  let all := joinL 6 CSet.and l
  if all.any isNone then .none else packAnd all
def manyR (r : Re) : Re := if r.op = 0 ∨ r.op = 1 then .eps else if r.op = 5 then r else .star r
def oneR (s : CSet) : Re := if s = CSet.zero then .none else .cls s
def butR (a b : Re) : Re :=
  if a.op = 0 ∨ a.key = b.key then .none else if b.op = 0 then a else if a.op = 2 ∧ b.op = 2 then oneR (a.set.minus b.set) else .minus a b
/-- What re.Word makes. -/
def byteR (b : UInt8) : Re := oneR (CSet.ofList [b.toNat])
def wordR (s : List UInt8) : Re := thenL (s.map byteR)
end Go.Proofs.YtihloigpdcinkaaDoor
