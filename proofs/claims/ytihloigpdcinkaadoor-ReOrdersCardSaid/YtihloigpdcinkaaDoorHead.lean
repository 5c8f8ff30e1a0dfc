/- The walk of the layers' head. -/
import Derived.Test.YtihloigpdcinkaaDoorMake
import Derived.Deep.RegionHeld3
namespace Go.Proofs.YtihloigpdcinkaaDoor
open Go.RowKit

/-- No block is forbidden. -/
abbrev X0 : Nat → Prop := fun _ => False
theorem X0_lt (w : World) : ∀ k, X0 k → k < w.heap.size := fun _ h => h.elim

theorem of_bytes (l : List Nat) (w : World) (hl : ∀ b ∈ l, b < 256) (hn : l.length ≤ 1000) :
    Calls Tryd.prog 45 #[.slice (some ⟨w.heap.size, 0, none⟩) l.length l.length] (w.alloc (.cells (l.map fun b : Nat => Value.int .u8 (b : Int)).toArray 5)) fun e w' => e = .returned (cv (CSet.ofList l)) ∧ Below w.heap.size w w' := by
  refine (setOf_any (some ⟨w.heap.size, 0, none⟩) l.length l.length l _ hl ⟨by simp, fun _ => ⟨w.heap.size, 0, rfl, by simp, fun j u hj => ?_⟩⟩ (by omega)).mono fun e w' h => ⟨h.1, ((Below.refl _ _).alloc (Nat.le_refl _) _).trans (h.2.mono (by simp))⟩
  rw [Nat.zero_add]
  exact (blk_cell (blk_new _ _) j).trans (by simpa using hj)
theorem of_bytes_d (l : List Nat) (w : World) (hl : ∀ b ∈ l, b < 256) (hn : l.length ≤ 1000) :
    Calls Tryd.prog 45 #[.slice (some ⟨w.heap.size, 0, none⟩) l.length l.length] (w.alloc (.cells (l.map fun b : Nat => Value.int .u8 (b : Int)).toArray 5)).drew fun e w' => e = .returned (cv (CSet.ofList l)) ∧ Below w.heap.size w w' := by
  refine (setOf_any (some ⟨w.heap.size, 0, none⟩) l.length l.length l _ hl ⟨by simp, fun _ => ⟨w.heap.size, 0, rfl, by simp, fun j u hj => ?_⟩⟩ (by omega)).mono fun e w' h => ⟨h.1, ((Below.refl _ _).alloc (Nat.le_refl _) _).drew.trans (h.2.mono (by simp))⟩
  rw [Nat.zero_add]
  exact (blk_cell (blk_new _ _) j).trans (by simpa using hj)
theorem Rd.news (w : World) (bs : List Nat) (T : TypeId) : Rd (w.alloc (.cells (bs.map ptr).toArray T)) (some ⟨w.heap.size, 0, none⟩) bs.length (bs.map ptr) :=
  ⟨by simp, fun _ => ⟨w.heap.size, 0, rfl, by simp, fun j u hj => by
    rw [Nat.zero_add]
    exact (blk_cell (blk_new _ _) j).trans (by simpa using hj)⟩⟩
/-- A new row of expressions. -/
theorem ReRow.news {w : World} {X : Nat → Prop} {rs : List Re} {bs : List Nat} (h : Els w X rs bs) (hX : ∀ k, X k → k < w.heap.size) (T : TypeId) : ReRow (w.alloc (.cells (bs.map ptr).toArray T)) X (some ⟨w.heap.size, 0, none⟩) bs.length rs bs :=
  ⟨Rd.news w bs T, h.alloc _, fun a _ e hx => by cases e; have := hX _ hx; simp at this⟩

abbrev ua : CSet := CSet.ofList [97]
abbrev ub : CSet := CSet.ofList [98]
abbrev uab : CSet := CSet.ofList [97, 98]
theorem one_ua : oneR ua = .cls ua := by unfold oneR; rw [if_neg (by decide)]
theorem one_ub : oneR ub = .cls ub := by unfold oneR; rw [if_neg (by decide)]
theorem any_ab : anyL [.cls ua, .cls ub] = .cls uab := by
  have h : CSet.or ua ub = uab := by decide
  have h0 : ¬ uab = CSet.zero := by decide
  simp only [anyL, joinL, flatL, flat1, List.flatMap_cons, List.flatMap_nil, Re.op]
  simp [joinGo, h, h0, uniq, ins, isNone, Re.op, packOr]
theorem then_ea : thenL [.eps, .cls ua] = .cls ua := by
  simp [thenL, flatL, flat1, Re.op, isEps, isNone, packCat]
theorem keys_ab : ((Re.cls ua).key == (Re.cls uab).key) = false := by
  have hne : ¬ ua = uab := by decide
  have : ¬ (Re.cls ua).key = (Re.cls uab).key := fun e => by
    have := Re.key_inj e
    injection this with h
    exact hne h
  simpa using this

theorem undrew {w w' : World} (h : Below w.drew.heap.size w.drew w') : Below w.heap.size w w' := ⟨h.os, h.tape, h.output, h.size, h.block⟩
set_option maxRecDepth 100000 in
set_option maxHeartbeats 2000000 in
theorem head3_any (w : World) : Calls Tryd.prog 11 #[] w fun e w' => e = .returned (.bool true) ∧ Below w.heap.size w w' := by
  have HA := hid (fun W => of_bytes [97] W (by decide) (by decide))
  have HB := hid (fun W => of_bytes [98] W (by decide) (by decide))
  have HAB := hid (fun W => of_bytes [97, 98] W (by decide) (by decide))
  have HABD := hid (fun W => of_bytes_d [97, 98] W (by decide) (by decide))
  have HOA : Hid (∀ W, Calls Tryd.prog 44 #[cv (CSet.ofList [97])] W (RetRe W X0 (.cls (CSet.ofList [97])))) := fun W => one_ua ▸ one_any (CSet.ofList [97]) X0 W (X0_lt W)
  have HOB : Hid (∀ W, Calls Tryd.prog 44 #[cv (CSet.ofList [98])] W (RetRe W X0 (.cls (CSet.ofList [98])))) := fun W => one_ub ▸ one_any (CSet.ofList [98]) X0 W (X0_lt W)
  have HAN : Hid (∀ W a b, ReAt W X0 (.cls (CSet.ofList [97])) a → ReAt W X0 (.cls (CSet.ofList [98])) b → Calls Tryd.prog 14 #[.slice (some ⟨W.heap.size, 0, none⟩) 2 2] (W.alloc (.cells #[ptr a, ptr b] 27)) (RetRe W X0 (.cls (CSet.ofList [97, 98])))) := fun W a b ha hb =>
    any_ab ▸ (any_any _ 2 2 _ [a, b] X0 _ (ReRow.news ((Els.one ha).append (Els.one hb)) (X0_lt W) _) (X0_lt _) (by decide)).mono fun _ _ h => h.trans ((Below.refl _ _).alloc (Nat.le_refl _) _)
  have HTH : Hid (∀ W a b, ReAt W X0 .eps a → ReAt W X0 (.cls (CSet.ofList [97])) b → Calls Tryd.prog 17 #[.slice (some ⟨W.heap.size, 0, none⟩) 2 2] (W.alloc (.cells #[ptr a, ptr b] 27)) (RetRe W X0 (.cls (CSet.ofList [97])))) := fun W a b ha hb =>
    then_ea ▸ (then_any _ 2 2 _ [a, b] X0 _ (ReRow.news ((Els.one ha).append (Els.one hb)) (X0_lt W) _) (X0_lt _) (by decide)).mono fun _ _ h => h.trans ((Below.refl _ _).alloc (Nat.le_refl _) _)
  have HTHD : Hid (∀ W a b, ReAt W X0 .eps a → ReAt W X0 (.cls (CSet.ofList [97])) b → Calls Tryd.prog 17 #[.slice (some ⟨W.heap.size, 0, none⟩) 2 2] (W.alloc (.cells #[ptr a, ptr b] 27)).drew (RetRe W X0 (.cls (CSet.ofList [97])))) := fun W a b ha hb =>
    then_ea ▸ (then_any _ 2 2 _ [a, b] X0 _ ((ReRow.news ((Els.one ha).append (Els.one hb)) (X0_lt W) _).below (Below.refl _ _).drew) (X0_lt _) (by decide)).mono fun _ _ h => h.trans ((Below.refl _ _).alloc (Nat.le_refl _) _).drew
  have HEM : Hid (∀ W, Calls Tryd.prog 37 #[] W (RetRe W X0 .eps)) := fun W => empty_any X0 W (X0_lt W)
  have HSA : Hid (∀ W a b, ReAt W X0 (.cls (CSet.ofList [97])) a → ReAt W X0 (.cls (CSet.ofList [97])) b → Calls Tryd.prog 15 #[ptr a, ptr b] W fun e w' => e = .returned (.bool true) ∧ W = w') := fun W a b ha hb => (same_any _ _ X0 X0 a b W ha hb).mono fun e w' h => ⟨by rw [h.1, beq_self_eq_true], h.2⟩
  have HKE := hid (fun W (r : Re) b (h : ReAt W X0 r b) => key_any r X0 b W h)
  have HK : Hid (((Re.cls (CSet.ofList [97])).key == (Re.cls (CSet.ofList [97, 98])).key) = false) := keys_ab
  simp only [List.map_cons, List.map_nil, List.length_cons, List.length_nil] at HA HB HAB HABD
  have hq : ∀ W, (binOp .eql 42 (.agg #[.int .u64 (CSet.ofList [97, 98]).a.toNat, .int .u64 (CSet.ofList [97, 98]).b.toNat, .int .u64 (CSet.ofList [97, 98]).c.toNat, .int .u64 (CSet.ofList [97, 98]).d.toNat]) (.agg #[.int .u64 (CSet.ofList [97, 98]).a.toNat, .int .u64 (CSet.ofList [97, 98]).b.toNat, .int .u64 (CSet.ofList [97, 98]).c.toNat, .int .u64 (CSet.ofList [97, 98]).d.toNat])).run Tryd.prog W = .ok (.bool true) W := fun W => (run_eql_set _ _ W).trans (by rw [decide_eq_true rfl])
  have hm : ∀ (op : BinOp) (x y : Operand) (xs ys : Array Value) (W : World), (eqGuard op 42 x y (.agg xs) (.agg ys)).run Tryd.prog W = .ok () W := fun op x y xs ys W => run_eqGuard_agg W op _ x y xs ys (by kernel_rfl)
  generalize CSet.ofList [97] = va at *
  generalize CSet.ofList [98] = vb at *
  generalize CSet.ofList [97, 98] = vab at *
  unfold cv at HA HB HAB HABD HOA HOB
  go_enter Tryd.func11, Tryd.ntmps11
  have HBL : Hid (Below w.heap.size w w) := Below.refl _ _
  have HF1 : Hid (0 = 0) := rfl
  have HF2 : Hid (0 = 0) := rfl
  have HF3 : Hid (0 = 0) := rfl
  go_wp2_with (first | (go_at_call 45; clear HF1; refine (HA.out _).mono ?_; rintro e w2 ⟨rfl, hb1⟩; have HBL := hid (HBL.out.trans (hb1.mono HBL.out.size)); (first | (have HRa := hid (HRa.out.under hb1)) | skip); (first | (have HRb := hid (HRb.out.under hb1)) | skip); clear hb1) | (go_at_call 45; clear HF2; refine (HB.out _).mono ?_; rintro e w2 ⟨rfl, hb1⟩; have HBL := hid (HBL.out.trans (hb1.mono HBL.out.size)); (first | (have HRa := hid (HRa.out.under hb1)) | skip); (first | (have HRb := hid (HRb.out.under hb1)) | skip); clear hb1) | (go_at_call 44; clear HF3; refine (HOA.out _).mono ?_; rintro e w2 ⟨ba, rfl, ha, hb1⟩; have HBL := hid (HBL.out.trans (hb1.mono HBL.out.size)); (first | (have HRa := hid (HRa.out.under hb1)) | skip); (first | (have HRb := hid (HRb.out.under hb1)) | skip); clear hb1; have HRa := hid ha; clear ha) | (go_at_call 44; refine (HOB.out _).mono ?_; rintro e w2 ⟨bb, rfl, ha, hb1⟩; have HBL := hid (HBL.out.trans (hb1.mono HBL.out.size)); (first | (have HRa := hid (HRa.out.under hb1)) | skip); (first | (have HRb := hid (HRb.out.under hb1)) | skip); clear hb1; have HRb := hid ha; clear ha) | (go_at_call 14; refine (HAN.out _ _ _ HRa.out HRb.out).mono ?_; rintro e w2 ⟨bx, rfl, ha, hb1⟩; have HBL := hid (HBL.out.trans (hb1.mono HBL.out.size)); (first | (have HRa := hid (HRa.out.under hb1)) | skip); (first | (have HRb := hid (HRb.out.under hb1)) | skip); clear hb1; have HRx := hid ha; clear ha))
  obtain ⟨Ax, cx, bsx, hxc, -, -⟩ := HRx.out.row
  obtain ⟨x0, x1, x2, x3, x4, -⟩ := cellsOf hxc
  clear hxc
  simp only [Re.op, Re.set] at x0 x1 x2 x3 x4
  have xn := World.new_ne _ _ x0
  unfold ptr
  go_region_held3 (fun w' => w'.cell? ⟨bx, 0, none⟩ = some (.int .i64 2) ∧ w'.cell? ⟨bx, 1, none⟩ = some (.int .u64 vab.a.toNat) ∧ w'.cell? ⟨bx, 2, none⟩ = some (.int .u64 vab.b.toNat) ∧ w'.cell? ⟨bx, 3, none⟩ = some (.int .u64 vab.c.toNat) ∧ w'.cell? ⟨bx, 4, none⟩ = some (.int .u64 vab.d.toNat)) (go_keep)
    (first | (go_at_call 45; refine (HABD.out _).mono ?_; rintro e w3 ⟨rfl, hb1⟩; have HBL := hid (HBL.out.trans (Below.mono hb1 HBL.out.size)); have HRa := hid (HRa.out.under hb1); have HRx := hid (HRx.out.under hb1); (first | (have HRe := hid (HRe.out.under hb1)) | skip); clear hb1; obtain ⟨Ax, cx, bsx, hxc, -, -⟩ := HRx.out.row; obtain ⟨x0, x1, x2, x3, x4, -⟩ := cellsOf hxc; clear hxc; simp only [Re.op, Re.set] at x0 x1 x2 x3 x4; have xn := World.new_ne _ _ x0) | (go_at_call 37; refine (HEM.out _).mono ?_; rintro e w4 ⟨be, rfl, he, hb1⟩; have HBL := hid (HBL.out.trans (Below.mono hb1 HBL.out.size)); have HRa := hid (HRa.out.under hb1); have HRx := hid (HRx.out.under hb1); (first | (have HRe := hid (HRe.out.under hb1)) | skip); clear hb1; obtain ⟨Ax, cx, bsx, hxc, -, -⟩ := HRx.out.row; obtain ⟨x0, x1, x2, x3, x4, -⟩ := cellsOf hxc; clear hxc; simp only [Re.op, Re.set] at x0 x1 x2 x3 x4; have xn := World.new_ne _ _ x0; have HRe := hid he; clear he) | (go_at_call 17; (first | refine (HTH.out _ _ _ HRe.out HRa.out).mono ?_ | refine (HTHD.out _ _ _ HRe.out HRa.out).mono ?_); rintro e w5 ⟨bt, rfl, ht, hb1⟩; have HBL := hid (HBL.out.trans (Below.mono hb1 HBL.out.size)); have HRa := hid (HRa.out.under hb1); have HRx := hid (HRx.out.under hb1); (first | (have HRe := hid (HRe.out.under hb1)) | skip); clear hb1; obtain ⟨Ax, cx, bsx, hxc, -, -⟩ := HRx.out.row; obtain ⟨x0, x1, x2, x3, x4, -⟩ := cellsOf hxc; clear hxc; simp only [Re.op, Re.set] at x0 x1 x2 x3 x4; have xn := World.new_ne _ _ x0; have HRt := hid ht; clear ht) | (go_at_call 15; refine (HSA.out _ _ _ HRt.out HRa.out).mono ?_; rintro e w6 ⟨rfl, rfl⟩) | (go_at_call 28; refine (HKE.out _ _ _ HRa.out).mono ?_; rintro e w6 ⟨rfl, rfl⟩) | (go_at_call 28; refine (HKE.out _ _ _ HRx.out).mono ?_; rintro e w6 ⟨rfl, rfl⟩))
  all_goals
    have HK' := HK.out
    clear HK hq hm
    go_wp2_with fail
    go_ret
    refine ⟨?_, HBL.out⟩
    show Ending.returned (Value.bool (!((Re.cls va).key == (Re.cls vab).key))) = _
    rw [HK']
    rfl
end Go.Proofs.YtihloigpdcinkaaDoor
