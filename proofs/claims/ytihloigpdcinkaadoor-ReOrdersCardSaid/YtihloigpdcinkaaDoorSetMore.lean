/- '==' of sets; set.Empty. -/
import Derived.Test.YtihloigpdcinkaaDoorSets
namespace Go.Proofs.YtihloigpdcinkaaDoor
open Go.RowKit
theorem run_equalIn_array4 {P : Program} (w : World) (d : Nat) (t e : TypeId) (k : IntKind) (a0 a1 a2 a3 b0 b1 b2 b3 : Int) (ht : P.underlying t = some (.array 4 e)) (he : P.underlying e = some (.int k))
    (hz : ∀ w, (sizeOf e).run P w = .ok 1 w) (hg : ∀ w, (isAgg e).run P w = .ok false w) :
    (Op.equalIn (d + 2) t (.agg #[.int k a0, .int k a1, .int k a2, .int k a3]) (.agg #[.int k b0, .int k b1, .int k b2, .int k b3])).run P w = .ok (a0 == b0 && a1 == b1 && a2 == b2 && a3 == b3) w := by
  simp only [Op.equalIn, Sem.run_bind, run_underlying ht, Result.andThen_ok, hz]
  simp [List.range'_succ, Sem.run_bind, part, hz, hg, run_underlying he, List.forIn_cons, Sem.run_ite, go_sem]
  by_cases h0 : a0 = b0 <;> by_cases h1 : a1 = b1 <;> by_cases h2 : a2 = b2 <;> by_cases h3 : a3 = b3 <;> simp [h0, h1, h2, h3]

theorem CSet.beq_words (s t : CSet) : ((s.a.toNat : Int) == t.a.toNat && (s.b.toNat : Int) == t.b.toNat && (s.c.toNat : Int) == t.c.toNat && (s.d.toNat : Int) == t.d.toNat) = decide (s = t) := by
  rw [Bool.eq_iff_iff]
  obtain ⟨a, b, c, d⟩ := s
  obtain ⟨a', b', c', d'⟩ := t
  simp only [Bool.and_eq_true, beq_iff_eq, decide_eq_true_eq, CSet.mk.injEq, ← BitVec.toNat_inj]
  omega

/-- '==' of two sets. -/
theorem run_eql_set (s t : CSet) (w : World) : (binOp .eql 42 (.agg #[.int .u64 s.a.toNat, .int .u64 s.b.toNat, .int .u64 s.c.toNat, .int .u64 s.d.toNat]) (.agg #[.int .u64 t.a.toNat, .int .u64 t.b.toNat, .int .u64 t.c.toNat, .int .u64 t.d.toNat])).run Tryd.prog w = .ok (.bool (decide (s = t))) w := by
  rw [run_eql_struct, show (10000 : Nat) = 9998 + 2 from rfl, run_equalIn_array4 w 9998 42 40 .u64 _ _ _ _ _ _ _ _ (by kernel_rfl) Tryd.underlying40 Tryd.sizeOf40 Tryd.isAgg40, CSet.beq_words]
  rfl
theorem run_neq_set (s t : CSet) (w : World) : (binOp .neq 42 (.agg #[.int .u64 s.a.toNat, .int .u64 s.b.toNat, .int .u64 s.c.toNat, .int .u64 s.d.toNat]) (.agg #[.int .u64 t.a.toNat, .int .u64 t.b.toNat, .int .u64 t.c.toNat, .int .u64 t.d.toNat])).run Tryd.prog w = .ok (.bool (!decide (s = t))) w := by
  rw [run_neq_struct, show (10000 : Nat) = 9998 + 2 from rfl, run_equalIn_array4 w 9998 42 40 .u64 _ _ _ _ _ _ _ _ (by kernel_rfl) Tryd.underlying40 Tryd.sizeOf40 Tryd.isAgg40, CSet.beq_words]
  rfl

set_option maxHeartbeats 400000 in
theorem setEmpty_any (s : CSet) (w : World) : Calls Tryd.prog 62 #[cv s] w fun e w' => e = .returned (.bool (decide (s = CSet.zero))) ∧ Below w.heap.size w w' := by
  have hq : ∀ W, (binOp .eql 42 (.agg #[.int .u64 s.a.toNat, .int .u64 s.b.toNat, .int .u64 s.c.toNat, .int .u64 s.d.toNat]) (.agg #[.int .u64 0, .int .u64 0, .int .u64 0, .int .u64 0])).run Tryd.prog W = .ok (.bool (decide (s = CSet.zero))) W := fun W => run_eql_set s CSet.zero W
  have hm : ∀ (op : BinOp) (x y : Operand) (xs ys : Array Value) (W : World), (eqGuard op 42 x y (.agg xs) (.agg ys)).run Tryd.prog W = .ok () W := fun op x y xs ys W => run_eqGuard_agg W op _ x y xs ys (by kernel_rfl)
  unfold cv
  generalize decide (s = CSet.zero) = r at hq ⊢
  go_enter Tryd.func62, Tryd.ntmps62
  go_wp2
  go_ret
  exact ⟨rfl, (Below.refl _ _).alloc (Nat.le_refl _) _⟩
end Go.Proofs.YtihloigpdcinkaaDoor
