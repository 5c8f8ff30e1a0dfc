/- The walk of re.made, of a class. -/
import Derived.Test.YtihloigpdcinkaaDoorMade
namespace Go.Proofs.YtihloigpdcinkaaDoor
open Go.RowKit

theorem MadeRel.under {w wr w2 : World} {r : Re} {A : Option Addr} {c : Nat} {ps : List (List UInt8)} {s : Nat} {v : Value} (h : MadeRel w r A c ps s v wr) (hb : Below wr.heap.size wr w2) : MadeRel w r A c ps s v w2 := by
  obtain ⟨h1, h2, h3, h4⟩ := h
  exact ⟨h1.kept hb, blk_below h2 hb, h3.trans (hb.mono h3.size), Nat.le_trans h4 hb.size⟩
theorem MadeRel.ownAlloc {w wr : World} {r : Re} {A : Option Addr} {c : Nat} {ps : List (List UInt8)} {s : Nat} {v : Value} (h : MadeRel w r A c ps s v wr) (o : Obj) : OwnS (wr.alloc o) (w.heap.size + 2) v ps := World.ownsRow.alloc h.1 o
def wordL (s : CSet) : List (List UInt8) := [Re.fmt36 s.a.toNat, Re.fmt36 s.b.toNat, Re.fmt36 s.c.toNat, Re.fmt36 s.d.toNat]

set_option maxHeartbeats 1000000 in
theorem made_cls (s : CSet) (X : Nat → Prop) (w : World) (hX : ∀ k, X k → k < w.heap.size) :
    Calls Tryd.prog 54 #[.int .i64 2, cv s, .bool false, .slice none 0 0] w (RetRe w X (.cls s)) := by
  have hit := fun W => Tryd.strconv_Itoa_small 2 (by decide) W
  have HI := hid hit
  have HF : Hid (∀ (x : BitVec 64) W, Calls Tryd.prog 73 #[.int .u64 x.toNat, .int .i64 36] W fun e w' => e = .returned (.string ⟨(Re.fmt36 x.toNat).toArray⟩) ∧ Below W.heap.size W w') := fun x W => fmt_any _ W x.isLt
  have HX := hid hX
  clear hit hX
  unfold cv
  go_enter Tryd.func54, Tryd.ntmps54
  go_wp2_with (first | (go_at_call 72; refine (HI.out _).mono ?_; rintro e w' ⟨rfl, rfl⟩))
  go_loopw [10, 27] (fun v i wr => ∃ k : Nat, k ≤ 4 ∧ i = .int .i64 k ∧ MadeRel w (.cls s) none 0 (Lib.decDigits 2 :: (wordL s).take k) 1 v wr) (fun _ i _ => 4 - (intOf i).toNat)
  case atStart =>
    refine ⟨0, Nat.zero_le _, rfl, ?_, ?_, ?_, by simp⟩
    · simpa using OwnS.one ((w.alloc _).alloc _) (Lib.decDigits 2) (w.heap.size + 2) (by simp)
    · refine blk_alloc (by simpa [reCells0, Re.op, Re.set, Re.kids, Re.null] using blk_new (w.alloc _) _) _
    · exact ((((Below.refl _ _).alloc (Nat.le_refl _) _).alloc (by simp) _).alloc (by simp; omega) _)
  case round =>
    obtain ⟨k, hk, rfl, hr⟩ := hrel
    have HR := hid hr
    have hsz0 : w.heap.size + 2 ≤ wr.heap.size := hr.2.2.2
    clear hr
    rcases (by omega : k = 0 ∨ k = 1 ∨ k = 2 ∨ k = 3 ∨ k = 4) with rfl | rfl | rfl | rfl | rfl
    · have i0 : ∀ W, (Instr.index 42 (.agg #[.int .u64 s.a.toNat, .int .u64 s.b.toNat, .int .u64 s.c.toNat, .int .u64 s.d.toNat]) (.int .i64 0)).run Tryd.prog W = .ok (.int .u64 s.a.toNat) W := fun _ => by kernel_rfl
      have hl40 : (Lib.decDigits 2 :: List.take 0 (wordL s)).length + 1 ≤ 1099511627776 := by simp [wordL]
      go_wp2_with (first | (go_at_call 73; refine (HF.out _ _).mono ?_; rintro e w3 ⟨rfl, hb3⟩; have HR3 := hid (HR.out.under hb3); have hsz3 := HR3.out.2.2.2; clear hb3) | (at_builtin; refine wpList_app_str _ rfl (.tmp 30) (.tmp 33) rfl (w.heap.size + 2) _ _ rfl (HR3.out.ownAlloc _) w3.heap.size 1 _ rfl (cell0_new _ _ _) hl40 (le_alloc hsz3 _) ?_; intro v' w2 hown' hg'; have HR2 := hid (HR3.out.app hown' hg'); clear hown' hg'))
      go_roundw
      case rel => exact ⟨1, by omega, rfl, HR2.out⟩
      case measure => simp [intOf]
    · have i0 : ∀ W, (Instr.index 42 (.agg #[.int .u64 s.a.toNat, .int .u64 s.b.toNat, .int .u64 s.c.toNat, .int .u64 s.d.toNat]) (.int .i64 1)).run Tryd.prog W = .ok (.int .u64 s.b.toNat) W := fun _ => by kernel_rfl
      have hl40 : (Lib.decDigits 2 :: List.take 1 (wordL s)).length + 1 ≤ 1099511627776 := by simp [wordL]
      go_wp2_with (first | (go_at_call 73; refine (HF.out _ _).mono ?_; rintro e w3 ⟨rfl, hb3⟩; have HR3 := hid (HR.out.under hb3); have hsz3 := HR3.out.2.2.2; clear hb3) | (at_builtin; refine wpList_app_str _ rfl (.tmp 30) (.tmp 33) rfl (w.heap.size + 2) _ _ rfl (HR3.out.ownAlloc _) w3.heap.size 1 _ rfl (cell0_new _ _ _) hl40 (le_alloc hsz3 _) ?_; intro v' w2 hown' hg'; have HR2 := hid (HR3.out.app hown' hg'); clear hown' hg'))
      go_roundw
      case rel => exact ⟨2, by omega, rfl, HR2.out⟩
      case measure => simp [intOf]
    · have i0 : ∀ W, (Instr.index 42 (.agg #[.int .u64 s.a.toNat, .int .u64 s.b.toNat, .int .u64 s.c.toNat, .int .u64 s.d.toNat]) (.int .i64 2)).run Tryd.prog W = .ok (.int .u64 s.c.toNat) W := fun _ => by kernel_rfl
      have hl40 : (Lib.decDigits 2 :: List.take 2 (wordL s)).length + 1 ≤ 1099511627776 := by simp [wordL]
      go_wp2_with (first | (go_at_call 73; refine (HF.out _ _).mono ?_; rintro e w3 ⟨rfl, hb3⟩; have HR3 := hid (HR.out.under hb3); have hsz3 := HR3.out.2.2.2; clear hb3) | (at_builtin; refine wpList_app_str _ rfl (.tmp 30) (.tmp 33) rfl (w.heap.size + 2) _ _ rfl (HR3.out.ownAlloc _) w3.heap.size 1 _ rfl (cell0_new _ _ _) hl40 (le_alloc hsz3 _) ?_; intro v' w2 hown' hg'; have HR2 := hid (HR3.out.app hown' hg'); clear hown' hg'))
      go_roundw
      case rel => exact ⟨3, by omega, rfl, HR2.out⟩
      case measure => simp [intOf]
    · have i0 : ∀ W, (Instr.index 42 (.agg #[.int .u64 s.a.toNat, .int .u64 s.b.toNat, .int .u64 s.c.toNat, .int .u64 s.d.toNat]) (.int .i64 3)).run Tryd.prog W = .ok (.int .u64 s.d.toNat) W := fun _ => by kernel_rfl
      have hl40 : (Lib.decDigits 2 :: List.take 3 (wordL s)).length + 1 ≤ 1099511627776 := by simp [wordL]
      go_wp2_with (first | (go_at_call 73; refine (HF.out _ _).mono ?_; rintro e w3 ⟨rfl, hb3⟩; have HR3 := hid (HR.out.under hb3); have hsz3 := HR3.out.2.2.2; clear hb3) | (at_builtin; refine wpList_app_str _ rfl (.tmp 30) (.tmp 33) rfl (w.heap.size + 2) _ _ rfl (HR3.out.ownAlloc _) w3.heap.size 1 _ rfl (cell0_new _ _ _) hl40 (le_alloc hsz3 _) ?_; intro v' w2 hown' hg'; have HR2 := hid (HR3.out.app hown' hg'); clear hown' hg'))
      go_roundw
      case rel => exact ⟨4, by omega, rfl, HR2.out⟩
      case measure => simp [intOf]
    · have hr := HR.out
      have hkey : (Re.cls s).key = 40 :: (Lib.join (Lib.decDigits 2 :: List.take 4 (wordL s)) [32] ++ [41]) := by
        have := key_parts (.cls s)
        simpa [parts0, Re.op, Re.kids, wordL] using this
      have hklen := Re.key_len (.cls s)
      have hjl : (Lib.join (Lib.decDigits 2 :: List.take 4 (wordL s)) [32]).length ≤ 140737488355328 := by rw [hkey] at hklen; simp [Re.size] at hklen; omega
      have HJ := hid (join_row wr _ _ _ hr.1 (by simp) hjl (by simp [wordL]))
      have hj63 : ((Lib.join (Lib.decDigits 2 :: List.take 4 (wordL s)) [32]).length : Int) ≤ 140737488355328 := by omega
      have HK := hid hkey
      have hB : w.heap.size + 1 < wr.heap.size := lt_of_heap hr.2.1
      obtain ⟨-, -, m7, n7⟩ := hr.cells
      have HB := hid hr.2.2.1
      have HH := hid hr.2.1
      clear hkey hklen hjl hr
      generalize Lib.join (Lib.decDigits 2 :: List.take 4 (wordL s)) [32] = jn at HJ HK hj63
      go_wp2_with fail
      refine wp_loop_rounds 1 ?_
      rw [rounds_succ]
      go_wp2_with (go_at_call 74; refine HJ.out.mono ?_; rintro e w3 ⟨rfl, hb3⟩; have c7 := (hb3.cell (p := ⟨w.heap.size + 1, 7, none⟩) hB).trans m7; have f7 := (hb3.frozen (p := ⟨w.heap.size + 1, 7, none⟩) hB).trans n7; clear m7 n7)
      go_ret
      have hke : (⟨#[40]⟩ ++ ⟨jn.toArray⟩ ++ ⟨#[41]⟩ : ByteArray) = ⟨(Re.cls s).key.toArray⟩ := by
        rw [HK.out]
        apply ByteArray.ext
        simp
      rw [hke]
      have hb4 : Below w.heap.size w (w3.setCell ⟨w.heap.size + 1, 7, none⟩ (.string ⟨(Re.cls s).key.toArray⟩)) := (HB.out.trans (hb3.mono (by have := HB.out.size; omega))).setCell (by show w.heap.size ≤ w.heap.size + 1; omega) _
      refine ⟨w.heap.size + 1, rfl, ?_, hb4⟩
      refine ReAt.mk (.cls s) (w.heap.size + 1) none 0 [] (fun h => by have := HX.out _ h; omega) ?_ ⟨Nat.le_refl _, fun _ => rfl⟩ Rd.nil (fun _ h => absurd h (by simp [Re.kids])) (fun i k b' h => by simp [Re.kids] at h)
      rw [blk_set (blk_below HH.out hb3)]
      simp [reCells0, reCells, Re.size]

/-- A class, made of its set. -/
theorem made_leaf (r : Re) (o : Nat) (ho : r.op = o) (hop : r.op ≠ 2) (hk : r.kids = []) (X : Nat → Prop) (w : World) (hX : ∀ k, X k → k < w.heap.size) :
    Calls Tryd.prog 54 #[.int .i64 (o : Int), cv r.set, .bool r.null, .slice none 0 0] w (RetRe w X r) := by
  have h0 : r.kids.length = 0 := by rw [hk]; rfl
  have := made_kids r X none 0 [] w ⟨by rw [h0]; exact Rd.nil, by rw [hk]; exact Els.nil, fun a ha => by omega⟩ ⟨by omega, fun _ => rfl⟩ (by rw [Re.size_kids, hk]; simp [Re.sizes]) hX hop o ho
  rw [h0] at this
  exact this
theorem made_none (X : Nat → Prop) (w : World) (hX : ∀ k, X k → k < w.heap.size) : Calls Tryd.prog 54 #[.int .i64 0, .agg #[.int .u64 0, .int .u64 0, .int .u64 0, .int .u64 0], .bool false, .slice none 0 0] w (RetRe w X .none) :=
  made_leaf .none 0 rfl (by decide) rfl X w hX
theorem made_eps (X : Nat → Prop) (w : World) (hX : ∀ k, X k → k < w.heap.size) : Calls Tryd.prog 54 #[.int .i64 1, .agg #[.int .u64 0, .int .u64 0, .int .u64 0, .int .u64 0], .bool true, .slice none 0 0] w (RetRe w X .eps) :=
  made_leaf .eps 1 rfl (by decide) rfl X w hX

theorem nothing_any (X : Nat → Prop) (w : World) (hX : ∀ k, X k → k < w.heap.size) : Calls Tryd.prog 35 #[] w (RetRe w X .none) := by
  have H := hid (made_none X w hX)
  clear hX
  go_enter Tryd.func35, Tryd.ntmps35
  go_wp2_with (go_at_call 54; refine H.out.mono ?_; rintro e w' ⟨b, rfl, h1, h2⟩)
  go_ret
  exact ⟨b, rfl, h1, h2⟩
theorem empty_any (X : Nat → Prop) (w : World) (hX : ∀ k, X k → k < w.heap.size) : Calls Tryd.prog 37 #[] w (RetRe w X .eps) := by
  have H := hid (made_eps X w hX)
  clear hX
  go_enter Tryd.func37, Tryd.ntmps37
  go_wp2_with (go_at_call 54; refine H.out.mono ?_; rintro e w' ⟨b, rfl, h1, h2⟩)
  go_ret
  exact ⟨b, rfl, h1, h2⟩
end Go.Proofs.YtihloigpdcinkaaDoor
