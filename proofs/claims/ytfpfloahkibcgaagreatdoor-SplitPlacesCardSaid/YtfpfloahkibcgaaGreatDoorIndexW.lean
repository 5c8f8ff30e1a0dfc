/- The walk of part.Index: a range over Set.Bytes in each round. -/
import Derived.Test.YtfpfloahkibcgaaGreatDoorBudgetW
import Derived.RangeFuncNested
import Derived.RangeFuncBound
import Derived.RangeFuncCalls
import Derived.RangeFuncLeaves
import Derived.RangeFuncFrom
import Derived.RangeFuncBox
import Derived.Shelf.Abstract
import Derived.WalkKit
import Derived.OwnWalkIn
import Derived.TacticsInMore
import Derived.LoopNIn
import Derived.LoopIn
import Derived.Great.BuildSlice
namespace Go.Proofs.YtfpfloahkibcgaaGreatDoor
open Go.RowKit Go.Shelf

attribute [local go_sem] Oper.semAt_some

/-- The bytes of a set below k, in order. -/
def upB (p : CSet) : Nat → List (Fin 256)
  | 0 => []
  | k + 1 => upB p k ++ if h : k < 256 then (if p.has k then [⟨k, h⟩] else []) else []
theorem upB_yes {p : CSet} {k : Nat} (hk : k < 256) (h : p.has k = true) : upB p (k + 1) = upB p k ++ [⟨k, hk⟩] := by rw [upB, dif_pos hk, if_pos h]
theorem upB_no {p : CSet} {k : Nat} (h : p.has k = false) : upB p (k + 1) = upB p k := by rw [upB, h]; split <;> simp
theorem upB_len (p : CSet) : ∀ k, (upB p k).length ≤ k
  | 0 => by simp [upB]
  | k + 1 => by
    have := upB_len p k
    rw [upB, List.length_append]
    split <;> (try split) <;> simp <;> omega
/-- The set's box stands. -/
def BoxK (Bs : Nat) (p : CSet) (A B : World) : Prop := A.heap[Bs]? = some (.cells (setCellsA p) 87 (0, 0)) → B.heap[Bs]? = some (.cells (setCellsA p) 87 (0, 0))
theorem grown_none {w w' : World} (h : Below w.heap.size w w') : w.grownBy w' none := ⟨h.os, h.tape, h.output, h.size, fun k hk _ => h.block k hk⟩

set_option maxRecDepth 100000 in
set_option maxHeartbeats 2000000 in
theorem bytes1_in (m l Bs : Nat) (hm : 1 ≤ m) (p : CSet) (J Jx : List (Fin 256) → World → Prop) (B0 : Nat) (hJa : AbidesFrom B0 J)
    (hY : ∀ pre x W, J pre W → pre.length < 256 → YieldAt Fence.wide (m - 1) Tryz.prog l #[.int .u8 x.val] W fun e W' =>
      (e = .returned (.bool true) ∧ J (pre ++ [x]) W' ∧ BoxK Bs p W W') ∨ (e = .returned (.bool false) ∧ Jx (pre ++ [x]) W'))
    (W : World) (hBs : W.heap[Bs]? = some (.cells (setCellsA p) 87 (0, 0))) (h0 : J [] W) :
    CallsIn Fence.wide m Tryz.prog 155 #[.func (.yield l) #[] #[], .pointer (some ⟨Bs, 0, none⟩)] W fun e W' => (∃ v, e = .returned v) ∧
      ((∃ ys, ys = upB p 256 ∧ J ys W') ∨ (∃ pre, (∃ k, pre = upB p k) ∧ Jx pre W')) := by
  refine callsIn_of_wp Tryz.func155 rfl trivial ?_ rfl
  simp only [Tryz.ntmps155, List.size_toArray, List.length_cons, List.length_nil, Nat.reduceAdd, Nat.reduceSub, Array.replicate_succ, Array.replicate_zero, List.push_toArray, List.append_toArray, List.nil_append, List.cons_append]
  gi_wp2
  gi_loopw [4] (fun i wr => ∃ k : Nat, k ≤ 256 ∧ i = .int .i64 k ∧ J (upB p k) wr ∧ wr.heap[Bs]? = some (.cells (setCellsA p) 87 (0, 0))) (fun i _ => 256 - (intOf i).toNat)
  case atStart => exact ⟨0, Nat.zero_le _, rfl, h0, hBs⟩
  case round =>
    obtain ⟨k, hk, rfl, hJs, hbx⟩ := hrel
    have c0 := (blk_cell hbx 0).trans (show (setCellsA p)[0]? = some (Value.int IntKind.u64 ↑p.a.toNat) by rfl)
    have c1 := (blk_cell hbx 1).trans (show (setCellsA p)[1]? = some (Value.int IntKind.u64 ↑p.b.toNat) by rfl)
    have c2 := (blk_cell hbx 2).trans (show (setCellsA p)[2]? = some (Value.int IntKind.u64 ↑p.c.toNat) by rfl)
    have c3 := (blk_cell hbx 3).trans (show (setCellsA p)[3]? = some (Value.int IntKind.u64 ↑p.d.toNat) by rfl)
    by_cases hlt : k < 256
    · have HH := has_any p k wr hlt
      unfold cv at HH
      cases hp : p.has k with
      | false =>
        rw [hp] at HH
        gi_wp2_with (refine ⟨trivial, ?_⟩; gi_at_call 79; refine (callsIn_wide.2 HH).mono ?_; rintro e W2 ⟨rfl, hb2⟩)
        refine ⟨fun _ h => (by cases h), ?_⟩
        gi_wp2
        go_roundw
        case rel => exact ⟨k + 1, by omega, by go_num, by rw [upB_no hp]; exact hJa _ _ _ none hJs (grown_none hb2) (fun r h => by cases h), blk_below hbx hb2⟩
        case measure => simp [intOf]; omega
      | true =>
        rw [hp] at HH
        gi_wp2_with (refine ⟨trivial, ?_⟩; gi_at_call 79; refine (callsIn_wide.2 HH).mono ?_; rintro e W2 ⟨rfl, hb2⟩; have hJ2 := hJa _ _ _ none hJs (grown_none hb2) (fun r h => by cases h); have hbx2 := blk_below hbx hb2; obtain ⟨fn, tmps, assign, body, hy, hR⟩ := hY _ ⟨k, hlt⟩ W2 hJ2 (Nat.lt_of_le_of_lt (upB_len p k) hlt))
        refine hR.mono ?_
        rintro e W3 (⟨rfl, hJ3, hk3⟩ | ⟨rfl, hJx3⟩)
        · gi_wp2
          go_roundw
          case rel => exact ⟨k + 1, by omega, by go_num, by rw [upB_yes hlt hp]; exact hJ3, hk3 hbx2⟩
          case measure => simp [intOf]; omega
        · gi_wp2
          refine bodyPost_ret (results_none rfl _ _ _) rfl ?_
          exact ⟨⟨_, rfl⟩, .inr ⟨_, ⟨k + 1, (upB_yes hlt hp).symm⟩, hJx3⟩⟩
    · obtain rfl : k = 256 := by omega
      gi_wp2
      go_end0
      exact ⟨⟨_, rfl⟩, .inl ⟨_, rfl, hJs⟩⟩
theorem bytes_stops (m : Nat) (hm : 1 ≤ m) (Bs : Nat) (p : CSet) (w : World) (hBs : w.heap[Bs]? = some (.cells (setCellsA p) 87 (0, 0))) :
    SeqStopsK Fence.wide m Tryz.prog 155 #[.pointer (some ⟨Bs, 0, none⟩)] (fun x : Fin 256 => #[Value.int .u8 x.val]) (BoxK Bs p) (fun ys => ys = upB p 256) (fun pre => ∃ k, pre = upB p k) 256 w :=
  fun l J Jx W hW hJ _ hY h0 => bytes1_in m l Bs hm p J Jx _ hJ hY W (blk_below hBs hW) h0
theorem bytes_any (p : CSet) (w : World) : Calls Tryz.prog 140 #[cv p] w fun e w' => e = .returned (.func (.func 155) #[] #[.pointer (some ⟨w.heap.size, 0, none⟩)]) ∧ w' = w.alloc (.cells (setCellsA p) 87) := by
  unfold cv
  go_enter Tryz.func140, Tryz.ntmps140
  go_wp2
  go_ret
  exact ⟨rfl, rfl⟩
/-- A row of 256 bytes. -/
def atF (f : Nat → Nat) : Array Value := Array.ofFn (n := 256) fun b => .int .u8 (f b.val)
theorem atF_size (f : Nat → Nat) : (atF f).size = 256 := by simp [atF]
theorem atF_get (f : Nat → Nat) {b : Nat} (hb : b < 256) : (atF f)[b]? = some (.int .u8 (f b)) := by
  unfold atF
  rw [Array.getElem?_eq_getElem (by simpa using hb)]
  simp
theorem atF_set (f : Nat → Nat) {b : Nat} (hb : b < 256) (k : Nat) : (atF f).setIfInBounds b (.int .u8 k) = atF fun c => if c = b then k else f c := by
  apply Array.ext_getElem?
  intro i
  rw [Array.getElem?_setIfInBounds]
  by_cases hi : i < 256
  · by_cases he : b = i
    · subst he
      rw [if_pos rfl, if_pos (by simpa [atF] using hb), atF_get _ hb, if_pos rfl]
    · rw [if_neg he, atF_get _ hi, atF_get _ hi, if_neg (fun e => he e.symm)]
  · have h1 : ∀ g : Nat → Nat, (atF g)[i]? = none := fun g => Array.getElem?_eq_none (by rw [atF_size]; omega)
    rw [h1, h1]
    split <;> (try split) <;> first | rfl | (rw [atF_size] at *; omega)
theorem atF_congr {f g : Nat → Nat} (h : ∀ b, b < 256 → f b = g b) : atF f = atF g := by
  unfold atF
  congr 1
  funext b
  rw [h b.val b.isLt]
/-- Of each byte, in which of the first k parts it is. -/
def atN (ps : List CSet) : Nat → Nat → Nat
  | 0, _ => 0
  | k + 1, b => if (ps.getD k CSet.zero).has b then k else atN ps k b
/-- Some bytes written. -/
def inN (f : Nat → Nat) (k : Nat) (pre : List (Fin 256)) (b : Nat) : Nat := if pre.any (fun x => x.val == b) then k else f b
theorem upB_any (p : CSet) : ∀ (n : Nat), n ≤ 256 → ∀ b, (upB p n).any (fun x => x.val == b) = (decide (b < n) && p.has b)
  | 0, _, b => by simp [upB]
  | n + 1, hn, b => by
    have ih := upB_any p n (by omega) b
    rw [upB, dif_pos (by omega : n < 256), List.any_append, ih]
    by_cases hb : b = n
    · subst hb
      cases h : p.has b <;> simp
    · have h1 : decide (b < n + 1) = decide (b < n) := decide_eq_decide.2 (by omega)
      rw [h1]
      have hb' : ¬ n = b := fun e => hb e.symm
      cases h : p.has n <;> simp [hb']
theorem inN_all (ps : List CSet) (k : Nat) (p : CSet) (hp : ps[k]? = some p) (b : Nat) (hb : b < 256) : inN (atN ps k) k (upB p 256) b = atN ps (k + 1) b := by
  unfold inN
  rw [upB_any p 256 (Nat.le_refl _), decide_eq_true hb, Bool.true_and]
  show _ = if (ps.getD k CSet.zero).has b then k else atN ps k b
  rw [List.getD_eq_getElem?_getD, hp]
  rfl
/-- The marks of loops that are over. -/
def marks (Ds : List Nat) : List Deferred := Ds.map fun D => { target := .collected D, args := #[] }
theorem marks_leave {n : Nat} {fn : Func} {tmps : Array Value} {R : Ending → World → Prop} : ∀ (Ds : List Nat) (w : World), Ds.Nodup → (∀ D ∈ Ds, w.heap[D]? = some (.deferred (some []))) →
    (∀ w' : World, w'.heap.size = w.heap.size → w'.os = w.os → w'.tape = w.tape → w'.output = w.output → (∀ k, k ∉ Ds → w'.heap[k]? = w.heap[k]?) → LeavesIn Fence.wide n Tryz.prog fn tmps R [] .returning w') →
    LeavesInM Fence.wide n Tryz.prog fn tmps R (marks Ds) .returning w
  | [], w, _, _, h => h w rfl rfl rfl rfl fun _ _ => rfl
  | D :: Ds, w, hn, hd, h => by
    obtain ⟨hn1, hn2⟩ := List.nodup_cons.1 hn
    have hD := hd D (List.mem_cons_self ..)
    refine ⟨by simp, .inl ⟨D, _, rfl, run_takeDeferred hD, ?_⟩⟩
    refine marks_leave Ds _ hn2 (fun E hE => ?_) fun w' h1 h2 h3 h4 h5 => ?_
    · exact (World.putObj_heap_other (fun e => hn1 (by rw [← e]; exact hE))).trans (hd E (List.mem_cons_of_mem _ hE))
    · refine h w' (h1.trans (by simp [World.putObj])) (h2.trans rfl) (h3.trans rfl) (h4.trans rfl) fun k hk => ?_
      exact (h5 k fun e => hk (List.mem_cons_of_mem _ e)).trans (World.putObj_heap_other (fun e => hk (by rw [e]; exact List.mem_cons_self ..)))
theorem World.heap_set_far (w : World) (p : Addr) (v : Value) {k : Nat} (h : k ≠ p.block) : (w.setCell p v).heap[k]? = w.heap[k]? := Below.heap_setCell w p v k h
theorem own_blk {A B : World} {row : Option Nat} {N b : Nat} {o : Obj} (hg : A.grownBy B row) (hr : ∀ r, row = some r → N ≤ r ∧ ∃ o : Obj, A.heap[r]? = some o ∧ o.isCells = false) (h : A.heap[b]? = some o) (hb : b < N) : B.heap[b]? = some o :=
  (hg.block b (lt_of_heap h) fun e => by have := (hr b e.symm).1; omega).trans h
theorem zero256 : (atF fun _ => 0) = Tryz.zeroCells157 := by kernel_rfl
theorem size256 {f : Nat → Nat} : (Tryz.prog.info? 157).map (·.size) = some (atF f).size := by rw [atF_size]; kernel_rfl
theorem atF_one (f : Nat → Nat) : (atF f).all (·.oneCell') = true := by
  rw [Array.all_eq_true]
  intro i hi
  simp [atF, Value.oneCell']
/-- What holds at the head of Index's loop. -/
structure IxInv (w : World) (ps : List CSet) (k : Nat) (Ds : List Nat) (wr : World) : Prop where
  out : wr.heap[w.heap.size + 1]? = some (.cells (atF (atN ps k)) 157 (0, 0))
  res : wr.heap[w.heap.size]? = some (.cells (atF fun _ => 0) 157 (0, 0))
  bel : Below w.heap.size w wr
  nod : Ds.Nodup
  ds : ∀ D ∈ Ds, w.heap.size + 1 < D ∧ wr.heap[D]? = some (.deferred (some []))
set_option maxRecDepth 100000 in
set_option maxHeartbeats 2000000 in
theorem index_any (A : Option Addr) (n c : Nat) (ps : List CSet) (w : World) (hr : RdC w A n ps) (hn : n ≤ 256) :
    Calls Tryz.prog 106 #[.slice A n c] w fun e w' => e = .returned (.agg (atF (atN ps n))) ∧ Below w.heap.size w w' := by
  have HR := hid hr
  clear hr
  refine (callsIn_wide (n := 4)).1 ?_
  refine callsIn_of_wp_marks Tryz.func106 rfl trivial ?_ rfl
  refine wpIn_wide.2 ?_
  simp only [Tryz.ntmps106, List.size_toArray, List.length_cons, List.length_nil, Nat.reduceAdd, Nat.reduceSub, Array.replicate_succ, Array.replicate_zero, List.push_toArray, List.append_toArray, List.nil_append, List.cons_append]
  go_wp2
  refine wp_loop (fun a wr => ∃ (k : Nat) (Ds : List Nat) (u4 u5 u6 u10 u11 u12 u13 u14 u15 u16 u17 u18 u19 u20 u21 u22 : Value), k ≤ n ∧
    a = { tmps := #[.slice A n c, undef, .pointer (some ⟨w.heap.size, 0, none⟩), .pointer (some ⟨w.heap.size + 1, 0, none⟩), u4, u5, u6, .slice A n c, .int .i64 n, .int .i64 k, u10, u11, u12, u13, u14, u15, u16, u17, u18, u19, u20, u21, u22], defers := marks Ds } ∧ Hid (IxInv w ps k Ds wr))
    (fun a _ => n - (intOf (a.tmps.getD 9 undef)).toNat) ?start ?round
  case start =>
    refine ⟨0, [], undef, undef, undef, undef, undef, undef, undef, undef, undef, undef, undef, undef, undef, undef, undef, undef, Nat.zero_le _, rfl, ?_⟩
    have e0 : atN ps 0 = fun _ => 0 := rfl
    exact hid ⟨by rw [e0, zero256]; have := blk_new (w.alloc (.cells Tryz.zeroCells157 157)) (.cells Tryz.zeroCells157 157); simpa using this, by rw [zero256]; exact blk_alloc (blk_new w _) _,
      ((Below.refl _ _).alloc (Nat.le_refl _) _).alloc (by simp) _, List.nodup_nil, fun D hD => by cases hD⟩
  case round =>
    rintro a wr ⟨k, Ds, u4, u5, u6, u10, u11, u12, u13, u14, u15, u16, u17, u18, u19, u20, u21, u22, hk, rfl, HI⟩
    by_cases hlt : k < n
    · obtain ⟨g, o, p, rfl, hp, hg, a0, a1, a2, a3⟩ := HR.out.at_ (k := k) hlt
      have ha := fun i => HI.out.bel.cell (p := ⟨g, i, none⟩) hg
      have a0 := (ha _).trans a0; have a1 := (ha _).trans a1; have a2 := (ha _).trans a2; have a3 := (ha _).trans a3
      have HP := hid hp
      have HBY := hid (fun W => bytes_any p W)
      unfold cv at HBY
      clear ha hp
      have hk256 : k < 256 := by omega
      go_wp2_with (go_at_call 140; refine (HBY.out _).mono ?_; rintro e w2 ⟨rfl, hw2⟩)
      rw [← hw2]
      obtain ⟨hO, hres, hbel, hnod, hds⟩ := HI.out
      have hOl := lt_of_heap hO
      have hBel2 : Below wr.heap.size wr w2 := by rw [hw2]; exact (((Below.refl _ _).alloc (Nat.le_refl _) _).alloc (by simp) _).alloc (by simp; omega) _
      have hsz2 : w2.heap.size = wr.heap.size + 3 := by rw [hw2]; simp
      have hi2 : w2.heap[wr.heap.size]? = some (.cells #[.int .i64 k] 3 (0, 0)) := by rw [hw2]; exact blk_alloc (blk_alloc (blk_new wr _) _) _
      have hs2 : w2.heap[wr.heap.size + 1 + 1]? = some (.cells (setCellsA p) 87 (0, 0)) := by
        rw [hw2]
        have := blk_new ((wr.alloc (.cells #[Value.int IntKind.i64 ↑k] 3)).alloc (.cells #[Value.int IntKind.u64 ↑p.a.toNat, Value.int IntKind.u64 ↑p.b.toNat, Value.int IntKind.u64 ↑p.c.toNat, Value.int IntKind.u64 ↑p.d.toNat] 87)) (.cells (setCellsA p) 87)
        simpa using this
      clear hw2
      have hgl := lt_of_heap hO
      have hwl : w.heap.size < wr.heap.size := by omega
      refine wpIn_wide.1 (wpIn_rangeFunc_ownF (n := 4) rfl (by decide) (gf := 155) (lb := #[.pointer (some ⟨wr.heap.size + 1 + 1, 0, none⟩)]) rfl trivial (enters_of Tryz.func155 (by kernel_rfl) rfl)
        (bytes_stops 3 (by decide) (wr.heap.size + 1 + 1) p w2 hs2) (fun h1 h2 h => h2 (h1 h)) (fun W l o o' _ hl ho _ h => (World.putObj_heap_other (fun e => by rw [e] at h; rw [h] at hl; cases hl; cases ho)).trans h) (Below.refl _ _) (fun _ => rfl)
        (fun pre W => (W.heap[w.heap.size + 1]? = some (.cells (atF (inN (atN ps k) k pre)) 157 (0, 0)) ∧ W.heap[wr.heap.size]? = some (.cells #[.int .i64 k] 3 (0, 0)) ∧ W.heap[w.heap.size]? = some (.cells (atF fun _ => 0) 157 (0, 0)) ∧ (∀ D ∈ Ds, W.heap[D]? = some (.deferred (some [])))) ∧ Below w.heap.size w W)
        (fun _ _ _ => False)
        (OwnFrom.and (fun s A B row hs hg hr => ⟨own_blk hg hr hs.1 (by omega), own_blk hg hr hs.2.1 (by omega), own_blk hg hr hs.2.2.1 (by omega), fun D hD => own_blk hg hr (hs.2.2.2 D hD) (by have := lt_of_heap (hds D hD).2; omega)⟩) (ownFrom_below (Nat.le_refl _) (by omega)))
        (fun _ _ _ _ _ hs _ _ => hs)
        ⟨⟨by rw [show inN (atN ps k) k [] = atN ps k from rfl]; exact blk_below hO hBel2, hi2, blk_below hres hBel2, fun D hD => blk_below (hds D hD).2 hBel2⟩, hbel.trans (hBel2.mono hbel.size)⟩
        (fun x => { tmps := #[.slice (some ⟨g, o, none⟩) n c, undef, .pointer (some ⟨w.heap.size, 0, none⟩), .pointer (some ⟨w.heap.size + 1, 0, none⟩), .pointer (some ⟨wr.heap.size, 0, none⟩), .pointer (some ⟨wr.heap.size + 1, 0, none⟩), .int .u8 x.val, .slice (some ⟨g, o, none⟩) n c, .int .i64 n, .int .i64 k, .bool true, .int .i64 k, .pointer (some ⟨g, o + k * 4, none⟩), .agg #[.int .u64 p.a.toNat, .int .u64 p.b.toNat, .int .u64 p.c.toNat, .int .u64 p.d.toNat], .agg #[.int .u64 p.a.toNat, .int .u64 p.b.toNat, .int .u64 p.c.toNat, .int .u64 p.d.toNat], .func (.func 155) #[] #[.pointer (some ⟨wr.heap.size + 1 + 1, 0, none⟩)], .int .u8 x.val, u17, u18, u19, u20, u21, u22], defers := [] }) ?assign ?body ?done ?stop)
      case assign =>
        intro l x W K hK
        gi_wp2
        exact hK
      case body =>
        rintro l pre x W ⟨⟨qO, qi, qr, qd⟩, qB⟩ _
        obtain ⟨b, hb⟩ := x
        have cO := (blk_cell qO b).trans (atF_get _ hb)
        have fO := blk_free qO b
        have ci := (blk_cell qi 0).trans (show #[Value.int IntKind.i64 ↑k][0]? = some (Value.int IntKind.i64 ↑k) by rfl)
        have hbi : (0 : Int) ≤ (b : Int) ∧ (b : Int) < 256 := by omega
        gi_wp2
        refine ⟨KeepsOthers.setCell _ _ _, fun h => (World.heap_set_far W _ _ (by simp; omega)).trans h, ⟨?_, (World.heap_set_far W _ _ (by simp; omega)).trans qi, (World.heap_set_far W _ _ (by simp)).trans qr, fun D hD => (World.heap_set_far W _ _ (by have := (hds D hD).1; simp; omega)).trans (qd D hD)⟩, qB.setCell (p := ⟨w.heap.size + 1, b, none⟩) (by simp) _⟩
        rw [blk_set qO b, atF_set _ hb]
        refine congrArg (fun z => some (Obj.cells z 157 (0, 0))) (atF_congr fun c _ => ?_)
        unfold inN
        rw [List.any_append]
        by_cases hc : c = b
        · subst hc; simp
        · have hc' : ¬ b = c := fun e => hc e.symm
          simp [hc, hc']
      case done =>
        intro D ys W hD hys ⟨⟨qO, qi, qr, qd⟩, qB⟩ hK
        have hys' : ys = upB p 256 := hys
        rw [hys', atF_congr (inN_all ps k p HP.out)] at qO
        clear hys hys'
        have HI2 : Hid (IxInv w ps (k + 1) (D :: Ds) W) := hid ⟨qO, qr, qB, List.nodup_cons.2 ⟨fun hm => by have := lt_of_heap (hds D hm).2; omega, hnod⟩, fun E hE => by
          rcases List.mem_cons.1 hE with e | hE
          · rw [e]; exact ⟨by omega, hK⟩
          · exact ⟨(hds E hE).1, qd E hE⟩⟩
        clear qO qi qr qd qB hK hO hres hbel hnod hds hi2 hs2 hBel2
        go_wp2
        refine ⟨⟨k + 1, D :: Ds, _, _, _, _, _, _, _, _, _, _, _, _, _, _, _, _, by omega, rfl, HI2⟩, ?_⟩
        simp [intOf]
        omega
      case stop =>
        rintro D c pre W _ _ h _
        exact h.elim
    · have hkn : k = n := by omega
      subst hkn
      obtain ⟨hO, hres, hbel, hnod, hds⟩ := HI.out
      have HO := hid hO
      have HRS := hid hres
      have HBL := hid hbel
      have HND := hid hnod
      have HDS := hid hds
      clear hO hres hbel hnod hds HI
      go_wp2_with (first | (refine wpList_load_row rfl 157 (.tmp 3) rfl (w.heap.size + 1) rfl 157 _ (0, 0) _ HO.out Tryz.underlying157 rfl size256 ?_) | (refine wpList_store_rowTo rfl 157 (.tmp 2) (.tmp 22) rfl rfl w.heap.size _ rfl rfl 157 _ HRS.out size256 (by rw [atF_size, atF_size]) (atF_one _) ?_))
      have hnd : ∀ j, j ≤ w.heap.size → j ∉ Ds := fun j hj hm => by have := (HDS.out j hm).1; omega
      refine marks_leave Ds _ HND.out (fun D hD => (setRow_other _ _ _ _ (by have := (HDS.out D hD).1; omega)).trans (HDS.out D hD).2) fun w' h1 h2 h3 h4 h5 => ?_
      have hb := HBL.out
      refine ⟨_, results_cell_row rfl _ w' w.heap.size 157 (atF (atN ps k)) (0, 0) _ rfl ((h5 _ (hnd _ (Nat.le_refl _))).trans (setRow_heap _ _ _ _ _ _ HRS.out)) Tryz.underlying157 rfl size256, rfl, ?_⟩
      exact ⟨h2.trans hb.os, h3.trans hb.tape, h4.trans hb.output, by rw [h1, size_setRow]; exact hb.size, fun j hj => (h5 j (hnd j (Nat.le_of_lt hj))).trans ((setRow_other _ _ _ _ (by omega)).trans (hb.block j hj))⟩
end Go.Proofs.YtfpfloahkibcgaaGreatDoor
