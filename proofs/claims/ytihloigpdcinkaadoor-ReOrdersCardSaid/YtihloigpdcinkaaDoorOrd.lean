/- Plain: the order of keys; sorted rows of expressions. -/
import Derived.Test.YtihloigpdcinkaaDoorAlg
import Derived.Sort.Statements
namespace Go.Proofs.YtihloigpdcinkaaDoor

theorem bl_irrefl : ∀ a : List UInt8, Op.bytesLess a a = false
  | [] => rfl
  | x :: a => by simp [Op.bytesLess, bl_irrefl a]
theorem bl_trans : ∀ a b c : List UInt8, Op.bytesLess a b = true → Op.bytesLess b c = true → Op.bytesLess a c = true
  | _, [], _, h, _ => by cases ‹List UInt8› <;> simp [Op.bytesLess] at h
  | _, _ :: _, [], _, h => by simp [Op.bytesLess] at h
  | [], _ :: _, _ :: _, _, _ => rfl
  | x :: a, y :: b, z :: c, h1, h2 => by
    simp only [Op.bytesLess, Bool.or_eq_true, decide_eq_true_eq, Bool.and_eq_true, beq_iff_eq] at h1 h2 ⊢
    rcases h1 with h1 | ⟨rfl, h1⟩
    · rcases h2 with h2 | ⟨rfl, h2⟩
      · exact .inl (UInt8.lt_trans h1 h2)
      · exact .inl h1
    · rcases h2 with h2 | ⟨rfl, h2⟩
      · exact .inl h2
      · exact .inr ⟨rfl, bl_trans a b c h1 h2⟩
theorem bl_total : ∀ a b : List UInt8, Op.bytesLess a b = false → Op.bytesLess b a = false → a = b
  | [], [], _, _ => rfl
  | [], _ :: _, h, _ => by simp [Op.bytesLess] at h
  | _ :: _, [], _, h => by simp [Op.bytesLess] at h
  | x :: a, y :: b, h1, h2 => by
    simp only [Op.bytesLess, Bool.or_eq_false_iff, decide_eq_false_iff_not, Bool.and_eq_false_iff] at h1 h2
    obtain ⟨h1, h1'⟩ := h1
    obtain ⟨h2, h2'⟩ := h2
    have e : x = y := by
      apply UInt8.toNat_inj.1
      rw [UInt8.lt_iff_toNat_lt] at h1 h2
      omega
    subst e
    have h1'' : Op.bytesLess a b = false := by simpa using h1'
    have h2'' : Op.bytesLess b a = false := by simpa using h2'
    rw [bl_total a b h1'' h2'']

/-- Which of two expressions stands ahead, by their keys. -/
def lessR (x y : Re) : Bool := Op.bytesLess x.key y.key
theorem lessR_swo : Sort.SWO lessR where
  irrefl x := bl_irrefl _
  trans x y z h1 h2 := bl_trans _ _ _ h1 h2
  ntrans x y z h1 h2 := by
    unfold lessR at *
    cases h : Op.bytesLess x.key z.key with
    | false => rfl
    | true =>
      cases h3 : Op.bytesLess y.key x.key with
      | true => rw [bl_trans _ _ _ h3 h] at h2; cases h2
      | false =>
        have := bl_total _ _ h1 h3
        rw [this] at h
        rw [h] at h2; cases h2
/-- What cmp.Compare tells of two texts. -/
def cmpB (a b : List UInt8) : Int := if Op.bytesLess a b then -1 else if Op.bytesLess b a then 1 else 0
theorem cmpB_neg (a b : List UInt8) : decide (cmpB a b < 0) = Op.bytesLess a b := by
  unfold cmpB
  cases Op.bytesLess a b <;> cases Op.bytesLess b a <;> simp
end Go.Proofs.YtihloigpdcinkaaDoor
