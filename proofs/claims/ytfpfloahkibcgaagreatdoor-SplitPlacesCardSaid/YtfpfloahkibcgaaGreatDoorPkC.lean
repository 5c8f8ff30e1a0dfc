/- PkC: Made, MadeCls, Small, Rows2, Rows3, Rows4, Rows5, Rows6, each with its own sentence. -/
import Derived.Test.YtfpfloahkibcgaaGreatDoorPkB
import Derived.Test.YtfpfloahkibcgaaGreatDoorShelf
import Derived.Test.YtfpfloahkibcgaaGreatDoorPkA
import Derived.Lib.SliceRun
/- The walk of re.made. -/
namespace Go.Proofs.YtfpfloahkibcgaaGreatDoor
open Go.RowKit

/-- The cells of an expression's block while it is made: no key yet, this size. -/
def reCells0 (r : Re) (A : Option Addr) (c : Nat) (sz : Nat) : Array Value :=
  #[.int .i64 r.op, .int .u64 r.set.a.toNat, .int .u64 r.set.b.toNat, .int .u64 r.set.c.toNat, .int .u64 r.set.d.toNat, .slice A r.kids.length c, .bool r.null, .string ⟨#[]⟩, .int .i64 sz]
/-- The head of a round of the loop over the kids: the parts so far, the size so far. -/
def MadeRel (w : World) (r : Re) (A : Option Addr) (c : Nat) (ps : List (List UInt8)) (s : Nat) (v : Value) (wr : World) : Prop :=
  OwnS wr (w.heap.size + 2) v ps ∧ wr.heap[w.heap.size + 1]? = some (.cells (reCells0 r A c s) 130 (0, 0)) ∧ Below w.heap.size w wr ∧ w.heap.size + 2 ≤ wr.heap.size
/-- Behind the append of a kid's key: what the sum reads and writes. -/
theorem MadeRel.app {w wr w2 : World} {r : Re} {A : Option Addr} {c : Nat} {ps : List (List UInt8)} {s : Nat} {v v' : Value} {u : List UInt8} {T : TypeId} {cs : Array Value} (h : MadeRel w r A c ps s v wr)
    (hown : OwnS w2 (w.heap.size + 2) v' (ps ++ [u])) (hg : (wr.alloc (.cells cs T)).grownBy w2 v.ownBlock) : MadeRel w r A c (ps ++ [u]) s v' w2 := by
  obtain ⟨h1, h2, h3, h4⟩ := h
  have hlt := fun k hk => (World.ownsRow.lt h1 k hk)
  have hgr := hg.size
  simp at hgr
  refine ⟨hown, ?_, ?_, by omega⟩
  · rw [hg.block _ (by simp; omega) (fun e => by have := (hlt _ e.symm).1; omega)]
    exact blk_alloc h2 _
  · exact (h3.alloc h3.size _).grown hg (by simp; have := h3.size; omega) (fun k hk => by have := (hlt _ hk).1; omega)
theorem MadeRel.sum {w w2 : World} {r : Re} {A : Option Addr} {c : Nat} {ps : List (List UInt8)} {s : Nat} {v : Value} (h : MadeRel w r A c ps s v w2) (z : Nat) :
    MadeRel w r A c ps (s + z) v (w2.setCell ⟨w.heap.size + 1, 8, none⟩ (.int .i64 ((s : Int) + z))).drew := by
  obtain ⟨h1, h2, h3, h4⟩ := h
  refine ⟨(h1.setCell (a := ⟨w.heap.size + 1, 8, none⟩) (by show w.heap.size + 1 < w.heap.size + 2; omega) _).drew, ?_, (h3.setCell (p := ⟨w.heap.size + 1, 8, none⟩) (by show w.heap.size ≤ w.heap.size + 1; omega) _).drew, by simpa [World.setCell] using h4⟩
  rw [show (w2.setCell ⟨w.heap.size + 1, 8, none⟩ (.int .i64 ((s : Int) + z))).drew.heap = (w2.setCell ⟨w.heap.size + 1, 8, none⟩ (.int .i64 ((s : Int) + z))).heap from rfl, blk_set h2]
  simp [reCells0]
theorem MadeRel.cells {w wr : World} {r : Re} {A : Option Addr} {c : Nat} {ps : List (List UInt8)} {s : Nat} {v : Value} (h : MadeRel w r A c ps s v wr) :
    wr.cell? ⟨w.heap.size + 1, 8, none⟩ = some (.int .i64 s) ∧ wr.frozen? ⟨w.heap.size + 1, 8, none⟩ = false ∧ wr.cell? ⟨w.heap.size + 1, 7, none⟩ = some (.string ⟨#[]⟩) ∧ wr.frozen? ⟨w.heap.size + 1, 7, none⟩ = false :=
  ⟨(blk_cell h.2.1 8).trans (by simp [reCells0]), blk_free h.2.1 8, (blk_cell h.2.1 7).trans (by simp [reCells0]), blk_free h.2.1 7⟩
/-- The parts of a key, ahead of the kids'. -/
def parts0 (r : Re) : List (List UInt8) := Lib.decDigits r.op :: (match r with | .cls s => [Re.fmt36 s.a.toNat, Re.fmt36 s.b.toNat, Re.fmt36 s.c.toNat, Re.fmt36 s.d.toNat] | _ => [])
theorem key_parts (r : Re) : r.key = 40 :: (Lib.join (parts0 r ++ r.kids.map Re.key) [32] ++ [41]) := by
  rw [Re.key_kids]
  have hd : Lib.decDigits r.op = [UInt8.ofNat (48 + r.op)] := by cases r <;> (simp only [Re.op]; decide +kernel)
  have hj : ∀ l : List (List UInt8), Lib.joinTail [32] l = l.flatMap fun s => 32 :: s := by intro l; simp [Lib.joinTail, List.flatMap]
  unfold parts0
  rw [List.cons_append, Lib.join_cons, hj, hd, Re.keys_eq]
  cases r <;> simp [Re.mids, Re.words, List.flatMap_map]

theorem join_row (w : World) (base : Nat) (v : Value) (ps : List (List UInt8)) (h : OwnS w base v ps) (hne : ps ≠ []) (hl : (Lib.join ps [32]).length ≤ 140737488355328) (hn : ps.length ≤ 140737488355328) :
    Calls Tryz.prog 135 #[v, .string ⟨#[32]⟩] w fun e w' => e = .returned (.string ⟨(Lib.join ps [32]).toArray⟩) ∧ Below w.heap.size w w' := by
  obtain ⟨g, c, rfl, hc, hb, hg, hcs⟩ := h.form hne
  have hm : (ps.map fun s => (⟨s.toArray⟩ : ByteArray)).map (·.data.toList) = ps := by rw [List.map_map]; simp [Function.comp_def]
  have := Tryz.strings_Join g 0 c (ps.map fun s => ⟨s.toArray⟩) ⟨#[32]⟩ w (fun j x hx => by
    rw [List.getElem?_map] at hx
    cases hp : ps[j]? with
    | none => rw [hp] at hx; cases hx
    | some u => rw [hp] at hx; cases hx; exact hcs j u hp) hg (by simpa using hn) (by simpa using hc) (by rw [hm]; exact hl)
  rw [hm, List.length_map] at this
  exact this

set_option maxHeartbeats 1000000 in
theorem made_kids (r : Re) (X : Nat → Prop) (A : Option Addr) (c : Nat) (bs : List Nat) (w : World) (hrow : ReRow w X A r.kids.length r.kids bs) (hc : CapOk r.kids.length A c) (hsz : r.size ≤ 1099511627776) (hX : ∀ k, X k → k < w.heap.size)
    (hop : r.op ≠ 2) (o : Nat) (ho : r.op = o) :
    Calls Tryz.prog 99 #[.int .i64 (o : Int), cv r.set, .bool r.null, .slice A r.kids.length c] w (RetRe w X r) := by
  have hit := fun W => Tryz.strconv_Itoa_small o (by subst ho; cases r <;> simp [Re.op]) W
  have HI := hid hit
  have h2 : ((o : Int) == 2) = false := by subst ho; simp; omega
  have HROW := hid hrow
  have hp0 : Hid (parts0 r = [Lib.decDigits o]) := by subst ho; cases r <;> first | rfl | exact absurd rfl hop
  have hkl : r.kids.length ≤ 1099511627776 := by have := Re.length_le_sizes r.kids; have := Re.size_kids r; omega
  have HX := hid hX
  have HOP := hid ho
  have HSZ := hid hsz
  clear hit hrow ho hop hX hsz
  unfold cv
  go_enter Tryz.func99, Tryz.ntmps99
  go_wp2_with (first | (go_at_call 133; refine (HI.out _).mono ?_; rintro e w' ⟨rfl, rfl⟩))
  go_loopw [10, 38] (fun v i wr => ∃ k : Nat, k ≤ r.kids.length ∧ i = .int .i64 k ∧ MadeRel w r A c (parts0 r ++ (r.kids.take k).map Re.key) (1 + Re.sizes (r.kids.take k)) v wr) (fun _ i _ => r.kids.length - (intOf i).toNat)
  case atStart =>
    refine ⟨0, Nat.zero_le _, rfl, ?_, ?_, ?_, by simp⟩
    · rw [hp0.out]
      simpa using OwnS.one ((w.alloc _).alloc _) (Lib.decDigits o) (w.heap.size + 2) (by simp)
    · refine blk_alloc (by simpa [Re.sizes, reCells0, HOP.out] using blk_new (w.alloc _) _) _
    · exact ((((Below.refl _ _).alloc (Nat.le_refl _) _).alloc (by simp) _).alloc (by simp; omega) _)
  case round =>
    obtain ⟨k, hk, rfl, hr⟩ := hrel
    by_cases hlt : k < r.kids.length
    · obtain ⟨g, of, kr, kb, rfl, hcell, hkr, hkb, hat, hg⟩ := HROW.out.at_ hlt
      obtain ⟨A', c', bs', hkc, -, -⟩ := hat.row
      have hkb' := hat.lt
      have hc1 := (hr.2.2.1.cell (p := ⟨g, of + k, none⟩) hg).trans hcell
      have hk7 := (hr.2.2.1.cell (p := ⟨kb, 7, none⟩) hkb').trans (cellsOf hkc).2.2.2.2.2.2.2.1
      have HK8 := hid (cellsOf hkc).2.2.2.2.2.2.2.2
      have hsn : (r.kids.take (k + 1)) = r.kids.take k ++ [kr] := by
        obtain ⟨hl, e⟩ := List.getElem?_eq_some_iff.1 hkr
        rw [List.take_succ_eq_append_getElem hl, e]
      have hss : Re.sizes (r.kids.take (k + 1)) ≤ r.size := by have := Re.sizes_take r.kids (k + 1); have := Re.size_kids r; omega
      rw [hsn, Re.sizes_append] at hss
      simp only [Re.sizes, Nat.add_zero] at hss
      have HR := hid hr
      have HP : Hid (∀ v' w2, MadeRel w r (some ⟨g, of, none⟩) c (parts0 r ++ (r.kids.take k).map Re.key ++ [kr.key]) (1 + Re.sizes (r.kids.take k) + kr.size) v' w2 → MadeRel w r (some ⟨g, of, none⟩) c (parts0 r ++ (r.kids.take (k + 1)).map Re.key) (1 + Re.sizes (r.kids.take (k + 1))) v' w2) := by
        intro v' w2 h
        rw [hsn, List.map_append, Re.sizes_append]
        simpa [Re.sizes, Nat.add_assoc] using h
      have hl40 : (parts0 r ++ (r.kids.take k).map Re.key).length + 1 ≤ 1099511627776 := by
        rw [hp0.out]
        have := Re.length_le_sizes r.kids; have := Re.size_kids r; have := HSZ.out
        simp; omega
      have HO := hid (fun o => World.ownsRow.alloc hr.1 o)
      have hsz0 : w.heap.size + 2 ≤ wr.heap.size := hr.2.2.2
      obtain ⟨s, hs⟩ : ∃ s, s = 1 + Re.sizes (r.kids.take k) := ⟨_, rfl⟩
      obtain ⟨z, hz⟩ : ∃ z, z = kr.size := ⟨_, rfl⟩
      have HSZ' := HSZ.out
      have hs1 : s + z ≤ 1099511627777 := by omega
      rw [← hs] at HR HP
      rw [← hz] at HK8 HP
      generalize parts0 r ++ (r.kids.take k).map Re.key = ps at HR HP HO hl40
      generalize kr.key = u at hk7 HP
      clear hr hs hz hsn hss hkc hcell hkr hkb hat HSZ'
      go_wp2_with (at_builtin; refine wpList_app_str _ rfl (.tmp 42) (.tmp 47) rfl (w.heap.size + 2) _ ps rfl (HO.out _) wr.heap.size 1 u rfl (cell0_new _ _ _) hl40 (le_alloc hsz0 _) ?_; intro v' w2 hown' hg'; have HR2 := hid (HR.out.app hown' hg'); clear hown' hg')
      obtain ⟨e1, e2, -, -⟩ := HR2.out.cells
      have e3 := (HR2.out.2.2.1.cell (p := ⟨kb, 8, none⟩) hkb').trans HK8.out
      have hsw : IntKind.i64.wrap ((s : Int) + z) = (s : Int) + z := IntWalk.i64_in _ (by omega)
      go_region
      go_wp2_with fail
      go_roundw
      case rel => exact ⟨k + 1, by omega, by go_num, HP.out _ _ (HR2.out.sum z)⟩
      case measure => simp [intOf]; omega
    · have hkn : k = r.kids.length := by omega
      subst hkn
      rw [List.take_length] at hr
      have HR := hid hr
      have hkey := key_parts r
      have hklen := Re.key_len r
      have HSZ' := HSZ.out
      have hjl : (Lib.join ((parts0 r ++ r.kids.map Re.key)) [32]).length ≤ 140737488355328 := by rw [hkey] at hklen; simp at hklen; omega
      have HJ := hid (join_row wr _ _ _ hr.1 (by unfold parts0; simp) hjl (by rw [hp0.out]; have := hkl; simp; omega))
      have hj63 : ((Lib.join ((parts0 r ++ r.kids.map Re.key)) [32]).length : Int) ≤ 140737488355328 := by omega
      have HK := hid hkey
      have hB : w.heap.size + 1 < wr.heap.size := lt_of_heap hr.2.1
      obtain ⟨-, -, m7, n7⟩ := hr.cells
      have HB := hid hr.2.2.1
      have HH := hid hr.2.1
      clear hkey hklen HSZ' hjl hr
      generalize Lib.join ((parts0 r ++ r.kids.map Re.key)) [32] = jn at HJ HK hj63
      go_wp2_with (go_at_call 135; refine HJ.out.mono ?_; rintro e w3 ⟨rfl, hb3⟩; have c7 := (hb3.cell (p := ⟨w.heap.size + 1, 7, none⟩) hB).trans m7; have f7 := (hb3.frozen (p := ⟨w.heap.size + 1, 7, none⟩) hB).trans n7; clear m7 n7)
      go_ret
      have hke : (⟨#[40]⟩ ++ ⟨jn.toArray⟩ ++ ⟨#[41]⟩ : ByteArray) = ⟨r.key.toArray⟩ := by
        rw [HK.out]
        apply ByteArray.ext
        simp
      rw [hke]
      have hb4 : Below w.heap.size w (w3.setCell ⟨w.heap.size + 1, 7, none⟩ (.string ⟨r.key.toArray⟩)) := (HB.out.trans (hb3.mono (by have := HB.out.size; omega))).setCell (by show w.heap.size ≤ w.heap.size + 1; omega) _
      refine ⟨w.heap.size + 1, rfl, ?_, hb4⟩
      have hrow := HROW.out.below hb4
      refine ReAt.mk r (w.heap.size + 1) A c bs (fun h => by have := HX.out _ h; omega) ?_ hc hrow.1 hrow.2.2 hrow.2.1.2
      rw [blk_set (blk_below HH.out hb3)]
      simp [reCells0, reCells, Re.size_kids r]
end Go.Proofs.YtfpfloahkibcgaaGreatDoor

/- The walk of re.made, of a class. -/
namespace Go.Proofs.YtfpfloahkibcgaaGreatDoor
open Go.RowKit

theorem MadeRel.under {w wr w2 : World} {r : Re} {A : Option Addr} {c : Nat} {ps : List (List UInt8)} {s : Nat} {v : Value} (h : MadeRel w r A c ps s v wr) (hb : Below wr.heap.size wr w2) : MadeRel w r A c ps s v w2 := by
  obtain ⟨h1, h2, h3, h4⟩ := h
  exact ⟨h1.kept hb, blk_below h2 hb, h3.trans (hb.mono h3.size), Nat.le_trans h4 hb.size⟩
theorem MadeRel.ownAlloc {w wr : World} {r : Re} {A : Option Addr} {c : Nat} {ps : List (List UInt8)} {s : Nat} {v : Value} (h : MadeRel w r A c ps s v wr) (o : Obj) : OwnS (wr.alloc o) (w.heap.size + 2) v ps := World.ownsRow.alloc h.1 o
def wordL (s : CSet) : List (List UInt8) := [Re.fmt36 s.a.toNat, Re.fmt36 s.b.toNat, Re.fmt36 s.c.toNat, Re.fmt36 s.d.toNat]

set_option maxHeartbeats 1000000 in
theorem made_cls (s : CSet) (X : Nat → Prop) (w : World) (hX : ∀ k, X k → k < w.heap.size) :
    Calls Tryz.prog 99 #[.int .i64 2, cv s, .bool false, .slice none 0 0] w (RetRe w X (.cls s)) := by
  have hit := fun W => Tryz.strconv_Itoa_small 2 (by decide) W
  have HI := hid hit
  have HF : Hid (∀ (x : BitVec 64) W, Calls Tryz.prog 134 #[.int .u64 x.toNat, .int .i64 36] W fun e w' => e = .returned (.string ⟨(Re.fmt36 x.toNat).toArray⟩) ∧ Below W.heap.size W w') := fun x W => fmt_any _ W x.isLt
  have HX := hid hX
  clear hit hX
  unfold cv
  go_enter Tryz.func99, Tryz.ntmps99
  go_wp2_with (first | (go_at_call 133; refine (HI.out _).mono ?_; rintro e w' ⟨rfl, rfl⟩))
  go_loopw [10, 27] (fun v i wr => ∃ k : Nat, k ≤ 4 ∧ i = .int .i64 k ∧ MadeRel w (.cls s) none 0 (Lib.decDigits 2 :: (wordL s).take k) 1 v wr) (fun _ i _ => 4 - (intOf i).toNat)
  case atStart =>
    refine ⟨0, Nat.zero_le _, rfl, ?_, ?_, ?_, by simp⟩
    · simpa using OwnS.one ((w.alloc _).alloc _) (Lib.decDigits 2) (w.heap.size + 2) (by simp)
    · refine blk_alloc (by simpa [reCells0, Re.op, Re.set, Re.kids, Re.null] using blk_new (w.alloc _) _) _
    · exact ((((Below.refl _ _).alloc (Nat.le_refl _) _).alloc (by simp) _).alloc (by simp; omega) _)
  case round =>
    obtain ⟨k, hk, rfl, hr⟩ := hrel
    have HR := hid hr
    have hsz0 : w.heap.size + 2 ≤ wr.heap.size := hr.2.2.2
    clear hr
    rcases (by omega : k = 0 ∨ k = 1 ∨ k = 2 ∨ k = 3 ∨ k = 4) with rfl | rfl | rfl | rfl | rfl
    · have i0 : ∀ W, (Instr.index 87 (.agg #[.int .u64 s.a.toNat, .int .u64 s.b.toNat, .int .u64 s.c.toNat, .int .u64 s.d.toNat]) (.int .i64 0)).run Tryz.prog W = .ok (.int .u64 s.a.toNat) W := fun _ => by kernel_rfl
      have hl40 : (Lib.decDigits 2 :: List.take 0 (wordL s)).length + 1 ≤ 1099511627776 := by simp [wordL]
      go_wp2_with (first | (go_at_call 134; refine (HF.out _ _).mono ?_; rintro e w3 ⟨rfl, hb3⟩; have HR3 := hid (HR.out.under hb3); have hsz3 := HR3.out.2.2.2; clear hb3) | (at_builtin; refine wpList_app_str _ rfl (.tmp 30) (.tmp 33) rfl (w.heap.size + 2) _ _ rfl (HR3.out.ownAlloc _) w3.heap.size 1 _ rfl (cell0_new _ _ _) hl40 (le_alloc hsz3 _) ?_; intro v' w2 hown' hg'; have HR2 := hid (HR3.out.app hown' hg'); clear hown' hg'))
      go_roundw
      case rel => exact ⟨1, by omega, rfl, HR2.out⟩
      case measure => simp [intOf]
    · have i0 : ∀ W, (Instr.index 87 (.agg #[.int .u64 s.a.toNat, .int .u64 s.b.toNat, .int .u64 s.c.toNat, .int .u64 s.d.toNat]) (.int .i64 1)).run Tryz.prog W = .ok (.int .u64 s.b.toNat) W := fun _ => by kernel_rfl
      have hl40 : (Lib.decDigits 2 :: List.take 1 (wordL s)).length + 1 ≤ 1099511627776 := by simp [wordL]
      go_wp2_with (first | (go_at_call 134; refine (HF.out _ _).mono ?_; rintro e w3 ⟨rfl, hb3⟩; have HR3 := hid (HR.out.under hb3); have hsz3 := HR3.out.2.2.2; clear hb3) | (at_builtin; refine wpList_app_str _ rfl (.tmp 30) (.tmp 33) rfl (w.heap.size + 2) _ _ rfl (HR3.out.ownAlloc _) w3.heap.size 1 _ rfl (cell0_new _ _ _) hl40 (le_alloc hsz3 _) ?_; intro v' w2 hown' hg'; have HR2 := hid (HR3.out.app hown' hg'); clear hown' hg'))
      go_roundw
      case rel => exact ⟨2, by omega, rfl, HR2.out⟩
      case measure => simp [intOf]
    · have i0 : ∀ W, (Instr.index 87 (.agg #[.int .u64 s.a.toNat, .int .u64 s.b.toNat, .int .u64 s.c.toNat, .int .u64 s.d.toNat]) (.int .i64 2)).run Tryz.prog W = .ok (.int .u64 s.c.toNat) W := fun _ => by kernel_rfl
      have hl40 : (Lib.decDigits 2 :: List.take 2 (wordL s)).length + 1 ≤ 1099511627776 := by simp [wordL]
      go_wp2_with (first | (go_at_call 134; refine (HF.out _ _).mono ?_; rintro e w3 ⟨rfl, hb3⟩; have HR3 := hid (HR.out.under hb3); have hsz3 := HR3.out.2.2.2; clear hb3) | (at_builtin; refine wpList_app_str _ rfl (.tmp 30) (.tmp 33) rfl (w.heap.size + 2) _ _ rfl (HR3.out.ownAlloc _) w3.heap.size 1 _ rfl (cell0_new _ _ _) hl40 (le_alloc hsz3 _) ?_; intro v' w2 hown' hg'; have HR2 := hid (HR3.out.app hown' hg'); clear hown' hg'))
      go_roundw
      case rel => exact ⟨3, by omega, rfl, HR2.out⟩
      case measure => simp [intOf]
    · have i0 : ∀ W, (Instr.index 87 (.agg #[.int .u64 s.a.toNat, .int .u64 s.b.toNat, .int .u64 s.c.toNat, .int .u64 s.d.toNat]) (.int .i64 3)).run Tryz.prog W = .ok (.int .u64 s.d.toNat) W := fun _ => by kernel_rfl
      have hl40 : (Lib.decDigits 2 :: List.take 3 (wordL s)).length + 1 ≤ 1099511627776 := by simp [wordL]
      go_wp2_with (first | (go_at_call 134; refine (HF.out _ _).mono ?_; rintro e w3 ⟨rfl, hb3⟩; have HR3 := hid (HR.out.under hb3); have hsz3 := HR3.out.2.2.2; clear hb3) | (at_builtin; refine wpList_app_str _ rfl (.tmp 30) (.tmp 33) rfl (w.heap.size + 2) _ _ rfl (HR3.out.ownAlloc _) w3.heap.size 1 _ rfl (cell0_new _ _ _) hl40 (le_alloc hsz3 _) ?_; intro v' w2 hown' hg'; have HR2 := hid (HR3.out.app hown' hg'); clear hown' hg'))
      go_roundw
      case rel => exact ⟨4, by omega, rfl, HR2.out⟩
      case measure => simp [intOf]
    · have hr := HR.out
      have hkey : (Re.cls s).key = 40 :: (Lib.join (Lib.decDigits 2 :: List.take 4 (wordL s)) [32] ++ [41]) := by
        have := key_parts (.cls s)
        simpa [parts0, Re.op, Re.kids, wordL] using this
      have hklen := Re.key_len (.cls s)
      have hjl : (Lib.join (Lib.decDigits 2 :: List.take 4 (wordL s)) [32]).length ≤ 140737488355328 := by rw [hkey] at hklen; simp [Re.size] at hklen; omega
      have HJ := hid (join_row wr _ _ _ hr.1 (by simp) hjl (by simp [wordL]))
      have hj63 : ((Lib.join (Lib.decDigits 2 :: List.take 4 (wordL s)) [32]).length : Int) ≤ 140737488355328 := by omega
      have HK := hid hkey
      have hB : w.heap.size + 1 < wr.heap.size := lt_of_heap hr.2.1
      obtain ⟨-, -, m7, n7⟩ := hr.cells
      have HB := hid hr.2.2.1
      have HH := hid hr.2.1
      clear hkey hklen hjl hr
      generalize Lib.join (Lib.decDigits 2 :: List.take 4 (wordL s)) [32] = jn at HJ HK hj63
      go_wp2_with fail
      refine wp_loop_rounds 1 ?_
      rw [rounds_succ]
      go_wp2_with (go_at_call 135; refine HJ.out.mono ?_; rintro e w3 ⟨rfl, hb3⟩; have c7 := (hb3.cell (p := ⟨w.heap.size + 1, 7, none⟩) hB).trans m7; have f7 := (hb3.frozen (p := ⟨w.heap.size + 1, 7, none⟩) hB).trans n7; clear m7 n7)
      go_ret
      have hke : (⟨#[40]⟩ ++ ⟨jn.toArray⟩ ++ ⟨#[41]⟩ : ByteArray) = ⟨(Re.cls s).key.toArray⟩ := by
        rw [HK.out]
        apply ByteArray.ext
        simp
      rw [hke]
      have hb4 : Below w.heap.size w (w3.setCell ⟨w.heap.size + 1, 7, none⟩ (.string ⟨(Re.cls s).key.toArray⟩)) := (HB.out.trans (hb3.mono (by have := HB.out.size; omega))).setCell (by show w.heap.size ≤ w.heap.size + 1; omega) _
      refine ⟨w.heap.size + 1, rfl, ?_, hb4⟩
      refine ReAt.mk (.cls s) (w.heap.size + 1) none 0 [] (fun h => by have := HX.out _ h; omega) ?_ ⟨Nat.le_refl _, fun _ => rfl⟩ Rd.nil (fun _ h => absurd h (by simp [Re.kids])) (fun i k b' h => by simp [Re.kids] at h)
      rw [blk_set (blk_below HH.out hb3)]
      simp [reCells0, reCells, Re.size]

/-- A class, made of its set. -/
theorem made_leaf (r : Re) (o : Nat) (ho : r.op = o) (hop : r.op ≠ 2) (hk : r.kids = []) (X : Nat → Prop) (w : World) (hX : ∀ k, X k → k < w.heap.size) :
    Calls Tryz.prog 99 #[.int .i64 (o : Int), cv r.set, .bool r.null, .slice none 0 0] w (RetRe w X r) := by
  have h0 : r.kids.length = 0 := by rw [hk]; rfl
  have := made_kids r X none 0 [] w ⟨by rw [h0]; exact Rd.nil, by rw [hk]; exact Els.nil, fun a ha => by omega⟩ ⟨by omega, fun _ => rfl⟩ (by rw [Re.size_kids, hk]; simp [Re.sizes]) hX hop o ho
  rw [h0] at this
  exact this
theorem made_none (X : Nat → Prop) (w : World) (hX : ∀ k, X k → k < w.heap.size) : Calls Tryz.prog 99 #[.int .i64 0, .agg #[.int .u64 0, .int .u64 0, .int .u64 0, .int .u64 0], .bool false, .slice none 0 0] w (RetRe w X .none) :=
  made_leaf .none 0 rfl (by decide) rfl X w hX
theorem made_eps (X : Nat → Prop) (w : World) (hX : ∀ k, X k → k < w.heap.size) : Calls Tryz.prog 99 #[.int .i64 1, .agg #[.int .u64 0, .int .u64 0, .int .u64 0, .int .u64 0], .bool true, .slice none 0 0] w (RetRe w X .eps) :=
  made_leaf .eps 1 rfl (by decide) rfl X w hX

theorem nothing_any (X : Nat → Prop) (w : World) (hX : ∀ k, X k → k < w.heap.size) : Calls Tryz.prog 67 #[] w (RetRe w X .none) := by
  have H := hid (made_none X w hX)
  clear hX
  go_enter Tryz.func67, Tryz.ntmps67
  go_wp2_with (go_at_call 99; refine H.out.mono ?_; rintro e w' ⟨b, rfl, h1, h2⟩)
  go_ret
  exact ⟨b, rfl, h1, h2⟩
theorem empty_any (X : Nat → Prop) (w : World) (hX : ∀ k, X k → k < w.heap.size) : Calls Tryz.prog 58 #[] w (RetRe w X .eps) := by
  have H := hid (made_eps X w hX)
  clear hX
  go_enter Tryz.func58, Tryz.ntmps58
  go_wp2_with (go_at_call 99; refine H.out.mono ?_; rintro e w' ⟨b, rfl, h1, h2⟩)
  go_ret
  exact ⟨b, rfl, h1, h2⟩
end Go.Proofs.YtfpfloahkibcgaaGreatDoor

/- The walks of the small functions of package re. -/
namespace Go.Proofs.YtfpfloahkibcgaaGreatDoor
open Go.RowKit


set_option maxHeartbeats 400000 in
theorem one_any (s : CSet) (X : Nat → Prop) (w : World) (hX : ∀ k, X k → k < w.heap.size) : Calls Tryz.prog 70 #[cv s] w (RetRe w X (oneR s)) := by
  have HE := hid (fun W => setEmpty_any s W)
  have H0 : Hid (∀ W, w.heap.size ≤ W.heap.size → Calls Tryz.prog 67 #[] W (RetRe W X .none)) := fun W h => nothing_any X W (fun k hk => Nat.lt_of_lt_of_le (hX k hk) h)
  have H1 : Hid (∀ W, w.heap.size ≤ W.heap.size → Calls Tryz.prog 99 #[.int .i64 2, cv s, .bool false, .slice none 0 0] W (RetRe W X (.cls s))) := fun W h => made_cls s X W (fun k hk => Nat.lt_of_lt_of_le (hX k hk) h)
  clear hX
  unfold oneR
  by_cases hs : s = CSet.zero
  · rw [if_pos hs]
    have hd : decide (s = CSet.zero) = true := decide_eq_true hs
    clear hs
    rw [hd] at HE
    clear hd
    unfold cv at *
    go_enter Tryz.func70, Tryz.ntmps70
    go_wp2_with (first | (go_at_call 88; refine (HE.out _).mono ?_; rintro e w1 ⟨rfl, hb1⟩; have hz : w.heap.size ≤ w1.heap.size := (by have := hb1.size; simp at this; omega)) | (go_at_call 67; refine (H0.out _ hz).mono ?_; rintro e w' ⟨b, rfl, h1, h2⟩))
    go_ret
    exact ⟨b, rfl, h1, (((Below.refl _ _).alloc (Nat.le_refl _) _).trans (hb1.mono (by simp))).trans (h2.mono hz)⟩
  · rw [if_neg hs]
    have hd : decide (s = CSet.zero) = false := decide_eq_false hs
    clear hs
    rw [hd] at HE
    clear hd
    unfold cv at *
    go_enter Tryz.func70, Tryz.ntmps70
    go_wp2_with (first | (go_at_call 88; refine (HE.out _).mono ?_; rintro e w1 ⟨rfl, hb1⟩; have hz : w.heap.size ≤ w1.heap.size := (by have := hb1.size; simp at this; omega); obtain ⟨hc, hf⟩ := bcell hb1) | (go_at_call 99; refine (H1.out _ hz).mono ?_; rintro e w' ⟨b, rfl, h1, h2⟩))
    go_ret
    exact ⟨b, rfl, h1, (((Below.refl _ _).alloc (Nat.le_refl _) _).trans (hb1.mono (by simp))).trans (h2.mono hz)⟩

theorem key_any (r : Re) (X : Nat → Prop) (b : Nat) (w : World) (h : ReAt w X r b) : Calls Tryz.prog 109 #[ptr b] w fun e w' => e = .returned (.string ⟨r.key.toArray⟩) ∧ w = w' := by
  obtain ⟨A, c, bs, hb, -, -⟩ := h.row
  obtain ⟨-, -, -, -, -, -, -, hk, -⟩ := cellsOf hb
  clear h hb
  unfold ptr
  go_enter Tryz.func109, Tryz.ntmps109
  go_wp2
  go_ret
  exact ⟨rfl, rfl⟩
theorem size_any (r : Re) (X : Nat → Prop) (b : Nat) (w : World) (h : ReAt w X r b) : Calls Tryz.prog 35 #[ptr b] w fun e w' => e = .returned (.int .i64 r.size) ∧ w = w' := by
  obtain ⟨A, c, bs, hb, -, -⟩ := h.row
  obtain ⟨-, -, -, -, -, -, -, -, hk⟩ := cellsOf hb
  clear h hb
  unfold ptr
  go_enter Tryz.func35, Tryz.ntmps35
  go_wp2
  go_ret
  exact ⟨rfl, rfl⟩
theorem null_any (r : Re) (X : Nat → Prop) (b : Nat) (w : World) (h : ReAt w X r b) : Calls Tryz.prog 56 #[ptr b] w fun e w' => e = .returned (.bool r.null) ∧ w = w' := by
  obtain ⟨A, c, bs, hb, -, -⟩ := h.row
  obtain ⟨-, -, -, -, -, -, hk, -, -⟩ := cellsOf hb
  clear h hb
  unfold ptr
  go_enter Tryz.func56, Tryz.ntmps56
  go_wp2
  go_ret
  exact ⟨rfl, rfl⟩
theorem key_nil (w : World) : Calls Tryz.prog 109 #[.pointer none] w fun e w' => e = .returned (.string ⟨#[]⟩) ∧ w = w' := by
  go_enter Tryz.func109, Tryz.ntmps109
  go_wp2
  go_ret
  exact ⟨rfl, rfl⟩
theorem size_nil (w : World) : Calls Tryz.prog 35 #[.pointer none] w fun e w' => e = .returned (.int .i64 0) ∧ w = w' := by
  go_enter Tryz.func35, Tryz.ntmps35
  go_wp2
  go_ret
  exact ⟨rfl, rfl⟩
theorem null_nil (w : World) : Calls Tryz.prog 56 #[.pointer none] w fun e w' => e = .returned (.bool false) ∧ w = w' := by
  go_enter Tryz.func56, Tryz.ntmps56
  go_wp2
  go_ret
  exact ⟨rfl, rfl⟩
theorem same_any (r s : Re) (X Y : Nat → Prop) (b c : Nat) (w : World) (h : ReAt w X r b) (h' : ReAt w Y s c) : Calls Tryz.prog 103 #[ptr b, ptr c] w fun e w' => e = .returned (.bool (r.key == s.key)) ∧ w = w' := by
  have H1 := hid (key_any r X b w h)
  have H2 := hid (key_any s Y c w h')
  clear h h'
  unfold ptr at *
  go_enter Tryz.func103, Tryz.ntmps103
  go_wp2_with fail
  refine H1.out.mono ?_
  rintro e w' ⟨rfl, rfl⟩
  go_wp2_with fail
  refine H2.out.mono ?_
  rintro e w' ⟨rfl, rfl⟩
  go_wp2_with fail
  go_ret
  exact ⟨by simp, rfl⟩
theorem op_beq (r : Re) (k : Nat) : ((r.op : Int) == (k : Int)) = (r.op == k) := by
  rw [Bool.eq_iff_iff]; simp only [beq_iff_eq]; omega
theorem isEps_any (r : Re) (X : Nat → Prop) (b : Nat) (w : World) (h : ReAt w X r b) : Calls Tryz.prog 102 #[ptr b] w fun e w' => e = .returned (.bool (r.op == 1)) ∧ w = w' := by
  obtain ⟨A, c, bs, hb, -, -⟩ := h.row
  obtain ⟨hk, -⟩ := cellsOf hb
  clear h hb
  unfold ptr
  go_enter Tryz.func102, Tryz.ntmps102
  go_wp2
  go_ret
  rw [← op_beq r 1]
  exact ⟨rfl, rfl⟩
theorem isNone_any (r : Re) (X : Nat → Prop) (b : Nat) (w : World) (h : ReAt w X r b) : Calls Tryz.prog 98 #[ptr b] w fun e w' => e = .returned (.bool (r.op == 0)) ∧ w = w' := by
  obtain ⟨A, c, bs, hb, -, -⟩ := h.row
  obtain ⟨hk, -⟩ := cellsOf hb
  clear h hb
  unfold ptr
  go_enter Tryz.func98, Tryz.ntmps98
  go_wp2
  go_ret
  rw [← op_beq r 0]
  exact ⟨rfl, rfl⟩
end Go.Proofs.YtfpfloahkibcgaaGreatDoor

/- Rows of expressions that a call makes: what an append does to them. -/
namespace Go.Proofs.YtfpfloahkibcgaaGreatDoor
open Go.RowKit

/-- WHAT A CALL THAT MAKES A ROW COMES TO. -/
def RetRow (w : World) (X : Nat → Prop) (rs : List Re) (e : Ending) (w' : World) : Prop :=
  ∃ v bs, e = .returned v ∧ OwnP w' w.heap.size v bs ∧ Els w' (Xo X v) rs bs ∧ Below w.heap.size w w'

/-- Elements over an append to their row. -/
theorem Els.grown {w w' : World} {X : Nat → Prop} {v v' : Value} {rs : List Re} {bs : List Nat} (h : Els w (Xo X v) rs bs) (hg : w.grownBy w' v.ownBlock) (hat : v'.ownBlock = v.ownBlock ∨ v'.ownBlock = some w.heap.size) : Els w' (Xo X v') rs bs := by
  have h1 : Els w (fun k => Xo X v k ∨ k = w.heap.size) rs bs := h.also (fun k hk hlt => hk.resolve_right (by omega))
  have h2 := h1.keep (Keeps.of_grown (X := fun k => v.ownBlock = some k) hg (fun k hk => hk)) (fun k hk => .inl (.inr hk))
  refine h2.also (fun k hk _ => ?_)
  rcases hk with hk | hk
  · exact .inl (.inl hk)
  · rcases hat with e | e
    · rw [e] at hk; exact .inl (.inr hk)
    · rw [e] at hk; cases hk; exact .inr rfl
theorem ReAt.grown {w w' : World} {X : Nat → Prop} {v v' : Value} {r : Re} {b : Nat} (h : ReAt w (Xo X v) r b) (hg : w.grownBy w' v.ownBlock) (hat : v'.ownBlock = v.ownBlock ∨ v'.ownBlock = some w.heap.size) : ReAt w' (Xo X v') r b :=
  (Els.grown (Els.one h) hg hat).2 0 r b rfl rfl
theorem Els.alloc {w : World} {X : Nat → Prop} {rs : List Re} {bs : List Nat} (h : Els w X rs bs) (o : Obj) : Els (w.alloc o) X rs bs := h.keep (Keeps.alloc (fun _ => False) w o) (fun _ h => h.elim)
theorem OwnP.alloc {w : World} {base : Nat} {v : Value} {bs : List Nat} (h : OwnP w base v bs) (o : Obj) : OwnP (w.alloc o) base v bs := World.ownsRow.alloc h o
theorem OwnP.lt {w : World} {base : Nat} {v : Value} {bs : List Nat} (h : OwnP w base v bs) : ∀ k, v.ownBlock = some k → base ≤ k ∧ k < w.heap.size := World.ownsRow.lt h
/-- An argument's elements, seen while a row of the call's own grows. -/
theorem ReAt.beside {w wr : World} {X : Nat → Prop} {v : Value} {r : Re} {b : Nat} {bs : List Nat} (h : ReAt w X r b) (hb : Below w.heap.size w wr) (ho : OwnP wr w.heap.size v bs) : ReAt wr (Xo X v) r b :=
  (h.also (fun k hk hlt => hk.resolve_right (fun e => by have := (ho.lt k e).1; omega))).under hb
theorem Els.beside {w wr : World} {X : Nat → Prop} {v : Value} {rs : List Re} {cs bs : List Nat} (h : Els w X rs cs) (hb : Below w.heap.size w wr) (ho : OwnP wr w.heap.size v bs) : Els wr (Xo X v) rs cs :=
  ⟨h.1, fun i r b h1 h2 => (h.2 i r b h1 h2).beside hb ho⟩
theorem below_app {w wr w2 : World} {v : Value} {bs : List Nat} (hb : Below w.heap.size w wr) (ho : OwnP wr w.heap.size v bs) (hg : wr.grownBy w2 v.ownBlock) : Below w.heap.size w w2 :=
  hb.grown hg hb.size (fun k hk => (ho.lt k hk).1)

theorem flatL_snoc (o : Nat) (l : List Re) (r : Re) : flatL o (l ++ [r]) = flatL o l ++ flat1 o r := by simp [flatL]

theorem flatL_take_le (o : Nat) (l : List Re) (k : Nat) : (flatL o (l.take k)).length ≤ (flatL o l).length := by
  have : flatL o l = flatL o (l.take k) ++ flatL o (l.drop k) := by
    unfold flatL; rw [← List.flatMap_append, List.take_append_drop]
  rw [this, List.length_append]
  omega
theorem Rd.one_new (w : World) (b : Nat) (T : TypeId) : Rd (w.alloc (.cells #[.pointer (some ⟨b, 0, none⟩)] T)) (some ⟨w.heap.size, 0, none⟩) 1 ([b].map ptr) :=
  ⟨rfl, fun _ => ⟨w.heap.size, 0, rfl, by simp, fun j u hj => by
    match j, hj with
    | 0, hj => simp at hj; subst hj; exact cell0_new _ _ _⟩⟩

set_option maxHeartbeats 1000000 in
theorem flat_any (o : Nat) (A : Option Addr) (n c : Nat) (rs : List Re) (bs : List Nat) (X : Nat → Prop) (w : World) (hrow : ReRow w X A n rs bs) (hn : n ≤ 1099511627776) (hlen : (flatL o rs).length ≤ 1099511627776) :
    Calls Tryz.prog 101 #[.int .i64 (o : Int), .slice A n c] w (RetRow w X (flatL o rs)) := by
  have HROW := hid hrow
  have hrl := hrow.length.1
  clear hrow
  go_enter Tryz.func101, Tryz.ntmps101
  go_wp2_with fail
  go_loopw [5, 10] (fun v i wr => ∃ (k : Nat) (cs : List Nat), k ≤ n ∧ i = .int .i64 k ∧ OwnP wr w.heap.size v cs ∧ Els wr (Xo X v) (flatL o (rs.take k)) cs ∧ Below w.heap.size w wr) (fun _ i _ => n - (intOf i).toNat)
  case atStart => exact ⟨0, [], Nat.zero_le _, rfl, OwnP.nil _ _, by simpa [flatL] using Els.nil, Below.refl _ _⟩
  case round =>
    obtain ⟨k, cs, hk, rfl, hown, hels, hbel⟩ := hrel
    have HO := hid hown
    have HE := hid hels
    have HB := hid hbel
    have hsz0 : w.heap.size ≤ wr.heap.size := hbel.size
    have hcl : cs.length = (flatL o (rs.take k)).length := hels.1.symm
    clear hown hels
    by_cases hlt : k < n
    · obtain ⟨g, of, r, b, rfl, hcell, hkr, hkb, hat, hg⟩ := HROW.out.at_ hlt
      have hc1 := (hbel.cell (p := ⟨g, of + k, none⟩) hg).trans hcell
      obtain ⟨A', c', bs', hkc, hcap, hkids⟩ := hat.row
      obtain ⟨k0, -, -, -, -, k5, -⟩ := cellsOf (blk_below hkc hbel (w' := wr)) 
      have hsn : rs.take (k + 1) = rs.take k ++ [r] := by
        obtain ⟨hl, e⟩ := List.getElem?_eq_some_iff.1 hkr
        rw [List.take_succ_eq_append_getElem hl, e]
      have hle : (flatL o (rs.take (k + 1))).length ≤ 1099511627776 := Nat.le_trans (flatL_take_le o rs (k + 1)) hlen
      rw [hsn, flatL_snoc, List.length_append] at hle
      have HAT := hid (hat.beside hbel HO.out)
      by_cases hop : r.op = o
      · have hb : ((r.op : Int) == (o : Int)) = true := by rw [op_beq]; simp [hop]
        have hf1 : flat1 o r = r.kids := by unfold flat1; rw [if_pos hop]
        rw [hf1] at hle
        have HSN : Hid (flatL o (rs.take (k + 1)) = flatL o (rs.take k) ++ r.kids) := by rw [hsn, flatL_snoc, hf1]; rfl
        have hrd := hid ((hkids.below hbel).1)
        have hkl := hkids.length.2
        have HK := hid (hkids.2.1.beside hbel HO.out)
        have HC := hid hcap.2
        have hbnd : cs.length + bs'.length ≤ 1099511627776 := by omega
        clear hsn hf1 hop hkc hcell hkr hkb hat hkids hcap hbel hle hcl hkl
        go_wp2_with (at_builtin; refine wpList_app_ptr _ rfl (.tmp 32) (.tmp 36) rfl w.heap.size _ cs rfl HO.out A' r.kids.length c' bs' rfl hrd.out HC.out hbnd hsz0 ?_; intro v' w2 ho2 hg2 hat2; have HO2 := hid ho2; have HG2 := hid hg2; have HT2 := hid hat2; clear ho2 hg2 hat2)
        go_roundw
        case rel => exact ⟨k + 1, cs ++ bs', by omega, by go_num, HO2.out, by rw [HSN.out]; exact (HE.out.append HK.out).grown HG2.out HT2.out, below_app HB.out HO.out HG2.out⟩
        case measure => simp [intOf]; omega
      · have hb : ((r.op : Int) == (o : Int)) = false := by rw [op_beq]; simp [hop]
        have hf1 : flat1 o r = [r] := by unfold flat1; rw [if_neg hop]
        rw [hf1] at hle
        have HSN : Hid (flatL o (rs.take (k + 1)) = flatL o (rs.take k) ++ [r]) := by rw [hsn, flatL_snoc, hf1]; rfl
        have hbnd : cs.length + [b].length ≤ 1099511627776 := by simp at hle ⊢; omega
        clear hsn hf1 hop hkc hcell hkr hkb hat hkids hcap hbel hle hcl
        go_wp2_with (at_builtin; refine wpList_app_ptr _ rfl (.tmp 14) (.tmp 16) rfl w.heap.size _ cs rfl (HO.out.alloc _) (some ⟨wr.heap.size, 0, none⟩) 1 1 [b] rfl (Rd.one_new _ _ _) (fun h => by cases h) hbnd (le_alloc hsz0 _) ?_; intro v' w2 ho2 hg2 hat2; have HO2 := hid ho2; have HG2 := hid hg2; have HT2 := hid hat2; clear ho2 hg2 hat2)
        go_roundw
        case rel => exact ⟨k + 1, cs ++ [b], by omega, by go_num, HO2.out, by rw [HSN.out]; exact ((HE.out.alloc _).append (Els.one HAT.out |>.alloc _)).grown HG2.out HT2.out, below_app (HB.out.alloc HB.out.size _) (HO.out.alloc _) HG2.out⟩
        case measure => simp [intOf]; omega
    · have hkn : k = n := by omega
      subst hkn
      have HT : Hid (rs.take k = rs) := List.take_of_length_le (by omega)
      clear hcl hbel
      go_wp2_with fail
      go_ret
      exact ⟨_, cs, rfl, HO.out, by have := HE.out; rw [HT.out] at this; exact this, HB.out⟩
end Go.Proofs.YtfpfloahkibcgaaGreatDoor

/- slices.IndexFunc, ContainsFunc, DeleteFunc at rows of expressions. -/
namespace Go.Proofs.YtfpfloahkibcgaaGreatDoor
open Go.RowKit

/-- A function of an expression, to a bool, that leaves the world as it was. -/
def PredFn (g : Nat) (p : Re → Bool) : Prop := (∀ (args : Array Value) (W : World), (callFunc g args).run Tryz.prog W = .ok (.enter g args) W) ∧
  ∀ (r : Re) (X : Nat → Prop) (b : Nat) (W : World), ReAt W X r b → Calls Tryz.prog g #[ptr b] W fun e W' => e = .returned (.bool (p r)) ∧ W = W'
/-- The first place at which p holds; -1: nowhere. -/
def idxR (p : Re → Bool) (l : List Re) : Int := match l.findIdx? p with | some i => (i : Int) | none => -1

set_option maxHeartbeats 400000 in
theorem indexFunc_any (g : Nat) (p : Re → Bool) (hp : PredFn g p) (A : Option Addr) (n c : Nat) (rs : List Re) (bs : List Nat) (X : Nat → Prop) (w : World) (hrow : Rd w A n (bs.map ptr)) (hels : Els w X rs bs) (hn : n ≤ 1099511627776) :
    Calls Tryz.prog 130 #[.slice A n c, .func (.func g) #[] #[]] w fun e w' => e = .returned (.int .i64 (idxR p rs)) ∧ w = w' := by
  have hbl : bs.length = n := by simpa using hrow.1
  have hrl : rs.length = n := by rw [hels.1, hbl]
  have HR := hid hrow
  have HE := hid hels
  have HP := hid hp.2
  have eg := hp.1
  clear hrow hels hp
  obtain ⟨z, hz⟩ : ∃ z, z = idxR p rs := ⟨_, rfl⟩
  rw [← hz]
  have HZ := hid hz
  clear hz
  go_enter Tryz.func130, Tryz.ntmps130
  go_wp2_with fail
  go_loop [8] (fun i => ∃ k : Nat, k ≤ n ∧ i = .int .i64 k ∧ Hid (∀ j r, j < k → rs[j]? = some r → p r = false)) (fun i => n - (intOf i).toNat)
  case atStart => exact ⟨0, Nat.zero_le _, rfl, fun j r h => by omega⟩
  case round =>
    obtain ⟨k, hk, rfl, hno⟩ := hrel
    by_cases hlt : k < n
    · obtain ⟨gb, o, rfl, hg, hc⟩ := HR.out.2 (by omega)
      have hkb : bs[k]? = some bs[k] := List.getElem?_eq_getElem (by omega)
      have hkr : rs[k]? = some rs[k] := List.getElem?_eq_getElem (by omega)
      have hcell := hc k _ (by rw [List.getElem?_map, hkb]; rfl)
      have HC := hid (HP.out _ X _ w (HE.out.2 k _ _ hkr hkb))
      have HK := hid hkr
      clear hc hkb hkr
      generalize bs[k] = b at *
      generalize rs[k] = r at *
      cases hpr : p r with
      | false =>
        rw [hpr] at HC
        have HPR := hid hpr
        clear hpr
        go_wp2_with fail
        refine HC.out.mono ?_
        rintro e w' ⟨rfl, rfl⟩
        go_wp2_with fail
        go_round
        case rel =>
          refine ⟨k + 1, by omega, by go_num, fun j r' hj hr' => ?_⟩
          rcases Nat.lt_or_ge j k with h | h
          · exact hno.out j r' h hr'
          · have : j = k := by omega
            subst this
            rw [HK.out] at hr'
            cases hr'
            exact HPR.out
        case measure => simp [intOf]; omega
      | true =>
        rw [hpr] at HC
        have hzk : z = (k : Int) := by
          rw [HZ.out]
          unfold idxR
          have : rs.findIdx? p = some k := by
            rw [List.findIdx?_eq_some_iff_getElem]
            obtain ⟨h1, h2⟩ := List.getElem?_eq_some_iff.1 HK.out
            refine ⟨h1, by rw [h2]; exact hpr, fun j hj => ?_⟩
            have := hno.out j rs[j] hj (List.getElem?_eq_getElem (by omega))
            rw [this]; simp
          rw [this]
        subst hzk
        clear hpr
        go_wp2_with fail
        refine HC.out.mono ?_
        rintro e w' ⟨rfl, rfl⟩
        go_wp2_with fail
        go_ret
        exact ⟨rfl, rfl⟩
    · have hkn : k = n := by omega
      subst hkn
      have hzk : z = -1 := by
        rw [HZ.out]
        unfold idxR
        have : rs.findIdx? p = none := by
          rw [List.findIdx?_eq_none_iff]
          intro x hx
          obtain ⟨j, hj, e⟩ := List.getElem_of_mem hx
          exact hno.out j x (by omega) (by rw [← e]; exact List.getElem?_eq_getElem hj)
        rw [this]
      subst hzk
      go_wp2_with fail
      go_ret
      exact ⟨rfl, rfl⟩

theorem idxR_any (p : Re → Bool) (l : List Re) : decide (0 ≤ idxR p l) = l.any p := by
  unfold idxR
  cases h : l.findIdx? p with
  | none =>
    rw [List.findIdx?_eq_none_iff] at h
    have : l.any p = false := by rw [List.any_eq_false]; intro x hx; simpa using h x hx
    rw [this]; rfl
  | some i =>
    rw [List.findIdx?_eq_some_iff_getElem] at h
    obtain ⟨h1, h2, -⟩ := h
    have : l.any p = true := List.any_eq_true.2 ⟨l[i], List.getElem_mem _, h2⟩
    rw [this]; simp

theorem containsFunc_any (g : Nat) (p : Re → Bool) (hp : PredFn g p) (A : Option Addr) (n c : Nat) (rs : List Re) (bs : List Nat) (X : Nat → Prop) (w : World) (hrow : Rd w A n (bs.map ptr)) (hels : Els w X rs bs) (hn : n ≤ 1099511627776) :
    Calls Tryz.prog 100 #[.slice A n c, .func (.func g) #[] #[]] w fun e w' => e = .returned (.bool (rs.any p)) ∧ w = w' := by
  have H := hid (indexFunc_any g p hp A n c rs bs X w hrow hels hn)
  have ha := idxR_any p rs
  clear hrow hels hp
  generalize idxR p rs = z at H ha
  generalize rs.any p = q at ha ⊢
  go_enter Tryz.func100, Tryz.ntmps100
  go_wp2_with (go_at_call 130; refine H.out.mono ?_; rintro e w' ⟨rfl, rfl⟩)
  go_ret
  exact ⟨rfl, rfl⟩
end Go.Proofs.YtfpfloahkibcgaaGreatDoor

/- slices.DeleteFunc at rows of expressions. -/
namespace Go.Proofs.YtfpfloahkibcgaaGreatDoor
open Go.RowKit

theorem heap_setCells {g : Nat} {e : TypeId} : ∀ (xs : List Value) (o : Nat) (w : World) (cur : Array Value), w.heap[g]? = some (.cells cur e (0, 0)) →
    ∃ cur', (w.setCells g o xs).heap[g]? = some (.cells cur' e (0, 0)) ∧ cur'.size = cur.size ∧ ∀ j, j < o → cur'[j]? = cur[j]?
  | [], _, _, cur, h => ⟨cur, h, rfl, fun _ _ => rfl⟩
  | x :: xs, o, w, cur, h => by
    obtain ⟨cur', h1, h2, h3⟩ := heap_setCells xs (o + 1) (w.setCell ⟨g, o, none⟩ x) _ (blk_set h o x)
    refine ⟨cur', h1, by simpa using h2, fun j hj => ?_⟩
    rw [h3 j (by omega), Array.getElem?_setIfInBounds_ne (by omega)]
theorem grown_setCell (w : World) (g o : Nat) (x : Value) : w.grownBy (w.setCell ⟨g, o, none⟩ x) (some g) :=
  ⟨rfl, rfl, rfl, by simp [World.setCell], fun k _ hne => Below.heap_setCell _ _ _ _ (fun e => hne (by rw [e]))⟩
theorem grown_setCells (g : Nat) : ∀ (xs : List Value) (o : Nat) (w : World), w.grownBy (w.setCells g o xs) (some g)
  | [], _, w => World.grownBy.refl w _
  | x :: xs, o, w => (grown_setCell w g o x).trans (grown_setCells g xs (o + 1) _)

/-- The pointers of those that are kept. -/
def keepB (q : Re → Bool) (rs : List Re) (bs : List Nat) : List Nat := ((rs.zip bs).filter fun x => q x.1).map (·.2)
theorem keepB_len (q : Re → Bool) (rs : List Re) (bs : List Nat) (h : rs.length = bs.length) : (keepB q rs bs).length = (rs.filter q).length := by
  induction rs generalizing bs with
  | nil => simp [keepB]
  | cons r rs ih =>
    cases bs with
    | nil => simp at h
    | cons b bs =>
      simp only [List.length_cons, Nat.add_right_cancel_iff] at h
      have := ih bs h
      simp only [keepB, List.zip_cons_cons, List.filter_cons] at this ⊢
      split <;> simp_all
theorem keepB_els {w : World} {X : Nat → Prop} (q : Re → Bool) : ∀ (rs : List Re) (bs : List Nat), Els w X rs bs → Els w X (rs.filter q) (keepB q rs bs)
  | [], bs, _ => by simpa [keepB] using Els.nil
  | r :: rs, [], h => by have := h.1; simp at this
  | r :: rs, b :: bs, h => by
    have h1 : ReAt w X r b := h.2 0 r b rfl rfl
    have h2 : Els w X rs bs := ⟨by have := h.1; simpa using this, fun i r' b' h1 h2 => h.2 (i + 1) r' b' (by simpa using h1) (by simpa using h2)⟩
    have ih := keepB_els q rs bs h2
    simp only [keepB, List.zip_cons_cons, List.filter_cons] at ih ⊢
    split
    · exact Els.append (Els.one h1) ih
    · exact ih
theorem keepB_snoc (q : Re → Bool) (rs : List Re) (bs : List Nat) (r : Re) (b : Nat) (h : rs.length = bs.length) : keepB q (rs ++ [r]) (bs ++ [b]) = keepB q rs bs ++ (if q r then [b] else []) := by
  unfold keepB
  rw [List.zip_append h, List.filter_append, List.map_append]
  congr 1
  by_cases hq : q r <;> simp [hq]
theorem keepB_all (q : Re → Bool) (rs : List Re) (bs : List Nat) (h : rs.length = bs.length) (ha : ∀ r ∈ rs, q r = true) : keepB q rs bs = bs := by
  unfold keepB
  rw [List.filter_eq_self.2 (fun x hx => ha _ (List.of_mem_zip hx).1), List.map_snd_zip (by omega)]

/-- The row while it is being cut down: i kept ones ahead, from j on as it was. -/
def DelRel (w : World) (base g cap : Nat) (X : Nat → Prop) (q : Re → Bool) (rs : List Re) (bs : List Nat) (i j : Nat) (wr : World) : Prop :=
  ∃ L : List Nat, OwnP wr base (.slice (some ⟨g, 0, none⟩) L.length cap) L ∧ L.length = bs.length ∧ L.take i = keepB q (rs.take j) (bs.take j) ∧ L.drop j = bs.drop j ∧ i < j ∧ j ≤ bs.length ∧ i = (keepB q (rs.take j) (bs.take j)).length ∧
    Els wr (Xo X (.slice (some ⟨g, 0, none⟩) L.length cap)) rs bs ∧ w.grownBy wr (some g)
theorem DelRel.skip {w wr : World} {base g cap : Nat} {X : Nat → Prop} {q : Re → Bool} {rs : List Re} {bs : List Nat} {i j : Nat} {r : Re} {b : Nat} (h : DelRel w base g cap X q rs bs i j wr)
    (hr : rs[j]? = some r) (hb : bs[j]? = some b) (hq : q r = false) : DelRel w base g cap X q rs bs i (j + 1) wr := by
  obtain ⟨L, h1, h2, h3, h4, h5, h6, h7, h8, h9⟩ := h
  obtain ⟨hjr, er⟩ := List.getElem?_eq_some_iff.1 hr
  obtain ⟨hjb, eb⟩ := List.getElem?_eq_some_iff.1 hb
  have e : keepB q (rs.take (j + 1)) (bs.take (j + 1)) = keepB q (rs.take j) (bs.take j) := by
    rw [List.take_succ_eq_append_getElem hjr, List.take_succ_eq_append_getElem hjb, keepB_snoc _ _ _ _ _ (by simp [h8.1]), er, hq]
    simp
  refine ⟨L, h1, h2, by rw [e]; exact h3, ?_, by omega, hjb, by rw [e]; exact h7, h8, h9⟩
  rw [← List.drop_drop (i := 1) (j := j), h4, List.drop_drop]
theorem DelRel.keep {w wr : World} {base g cap : Nat} {X : Nat → Prop} {q : Re → Bool} {rs : List Re} {bs : List Nat} {i j : Nat} {r : Re} {b : Nat} (h : DelRel w base g cap X q rs bs i j wr)
    (hr : rs[j]? = some r) (hb : bs[j]? = some b) (hq : q r = true) : DelRel w base g cap X q rs bs (i + 1) (j + 1) (wr.setCell ⟨g, i, none⟩ (ptr b)) := by
  obtain ⟨L, h1, h2, h3, h4, h5, h6, h7, h8, h9⟩ := h
  obtain ⟨hjr, er⟩ := List.getElem?_eq_some_iff.1 hr
  obtain ⟨hjb, eb⟩ := List.getElem?_eq_some_iff.1 hb
  have e : keepB q (rs.take (j + 1)) (bs.take (j + 1)) = keepB q (rs.take j) (bs.take j) ++ [b] := by
    rw [List.take_succ_eq_append_getElem hjr, List.take_succ_eq_append_getElem hjb, keepB_snoc _ _ _ _ _ (by simp [h8.1]), er, eb, hq]
    simp
  have hst := World.ownsRow.stored h1 i (ptr b)
  refine ⟨L.set i b, ?_, by simpa using h2, ?_, ?_, by omega, hjb, by rw [e, List.length_append]; simp; omega, ?_, h9.trans hst.2⟩
  · simpa [OwnP, List.map_set] using hst.1
  · rw [e, ← h3, List.take_set, List.take_succ_eq_append_getElem (by omega), List.set_append_right _ _ (by simp; omega)]
    simp [show i - min i L.length = 0 by omega]
  · rw [List.drop_set_of_lt (by omega), ← List.drop_drop (i := 1) (j := j), h4, List.drop_drop]
  · have := h8.keep (Keeps.of_grown (X := fun k => k = g) hst.2 (fun k hk => by cases hk; rfl)) (fun k hk => .inr (by rw [hk]; rfl))
    simpa using this

/-- The end: what lies ahead of i is the row. -/
theorem DelRel.cut {w wr : World} {base g cap : Nat} {X : Nat → Prop} {q : Re → Bool} {rs : List Re} {bs : List Nat} {i : Nat} (h : DelRel w base g cap X q rs bs i bs.length wr) (xs : List Value) :
    OwnP (wr.setCells g i xs) base (.slice (some ⟨g, 0, none⟩) i cap) (keepB q rs bs) ∧ Els (wr.setCells g i xs) (Xo X (.slice (some ⟨g, 0, none⟩) i cap)) (rs.filter q) (keepB q rs bs) ∧ w.grownBy (wr.setCells g i xs) (some g) := by
  obtain ⟨L, h1, h2, h3, h4, h5, h6, h7, h8, h9⟩ := h
  have hrl : rs.take bs.length = rs := List.take_of_length_le (by rw [h8.1]; exact Nat.le_refl _)
  rw [hrl, List.take_length] at h3 h7
  have hgr := grown_setCells g xs i wr
  refine ⟨?_, ?_, h9.trans hgr⟩
  · unfold OwnP at h1 ⊢
    rcases h1.2 with ⟨e, _⟩ | ⟨g', cap', cur, e, hb, hh, hn, hm, hs, ht⟩
    · cases e
    · cases e
      obtain ⟨cur', c1, c2, c3⟩ := heap_setCells xs i wr cur hh
      refine ⟨by simp, .inr ⟨g, cap, cur', by rw [← h7], hb, c1, by omega, hm, by rw [c2]; exact hs, ?_⟩⟩
      rw [← h3, List.map_take, ← ht]
      rw [Nat.mul_one] at ht ⊢
      have hli : (L.take i).length = i := by rw [List.length_take]; omega
      rw [hli, Nat.mul_one, List.take_take, Nat.min_eq_left (by omega)]
      apply List.ext_getElem?
      intro j
      rw [List.getElem?_take, List.getElem?_take]
      split
      · rw [Array.getElem?_toList, Array.getElem?_toList]; exact c3 j (by assumption)
      · rfl
  · have := h8.keep (Keeps.of_grown (X := fun k => k = g) hgr (fun k hk => by cases hk; rfl)) (fun k hk => .inr (by rw [hk]; rfl))
    exact keepB_els q rs bs this

/-- WHAT A CALL THAT CUTS A ROW OF THE CALLER's DOWN COMES TO. -/
def RetCut (w : World) (X : Nat → Prop) (base : Nat) (v : Value) (rs : List Re) (e : Ending) (w' : World) : Prop :=
  ∃ v' bs, e = .returned v' ∧ OwnP w' base v' bs ∧ Els w' (Xo X v') rs bs ∧ w.grownBy w' v.ownBlock ∧ v'.ownBlock = v.ownBlock

set_option maxHeartbeats 1000000 in
theorem deleteFunc_any (g : Nat) (p : Re → Bool) (hp : PredFn g p) (base : Nat) (v : Value) (rs : List Re) (bs : List Nat) (X : Nat → Prop) (w : World) (hown : OwnP w base v bs) (hels : Els w (Xo X v) rs bs) (hn : bs.length ≤ 1099511627776) :
    Calls Tryz.prog 95 #[v, .func (.func g) #[] #[]] w (RetCut w X base v (rs.filter fun r => !p r)) := by
  obtain ⟨A, c, rfl⟩ := hown.form
  obtain ⟨-, hcap, hrd⟩ := hown.rd
  have hI := indexFunc_any g p hp A bs.length c rs bs _ w hrd hels hn
  have HO := hid hown
  have HE := hid hels
  have eg := hp.1
  have HP := hid hp.2
  have hlen := hels.1
  cases hf : rs.findIdx? p with
  | none =>
    have e1 : idxR p rs = -1 := by unfold idxR; rw [hf]
    rw [e1] at hI
    rw [List.findIdx?_eq_none_iff] at hf
    have hq : ∀ r ∈ rs, (!p r) = true := fun r hr => by rw [hf r hr]; rfl
    have HF : Hid (rs.filter (fun r => !p r) = rs) := List.filter_eq_self.2 hq
    have HI := hid hI
    clear hown hels hp hI hf hq hrd e1 hcap
    go_enter Tryz.func95, Tryz.ntmps95
    go_wp2_with (go_at_call 130; refine HI.out.mono ?_; rintro e w' ⟨rfl, rfl⟩)
    go_ret
    exact ⟨_, bs, rfl, HO.out, by rw [HF.out]; exact HE.out, World.grownBy.refl w _, rfl⟩
  | some i0 =>
    have e1 : idxR p rs = (i0 : Int) := by unfold idxR; rw [hf]
    rw [e1] at hI
    rw [List.findIdx?_eq_some_iff_getElem] at hf
    obtain ⟨hi0, hpi, hpj⟩ := hf
    obtain ⟨gb, o, rfl, hgb, hcells⟩ := hrd.2 (by omega)
    obtain rfl : o = 0 := by
      unfold OwnP at hown
      rcases hown.2 with ⟨e, _⟩ | ⟨g', cap', cur, e, _⟩
      · cases e
      · cases e; rfl
    have HS : Hid (DelRel w base gb c X (fun r => !p r) rs bs i0 (i0 + 1) w) := by
      have ek : keepB (fun r => !p r) (rs.take (i0 + 1)) (bs.take (i0 + 1)) = bs.take i0 := by
        rw [List.take_succ_eq_append_getElem hi0, List.take_succ_eq_append_getElem (by omega), keepB_snoc _ _ _ _ _ (by simp; omega), keepB_all _ _ _ (by simp; omega)]
        · simp [hpi]
        · intro r hr
          obtain ⟨j, hj, e⟩ := List.getElem_of_mem hr
          simp at hj
          rw [List.getElem_take] at e
          have := hpj j (by omega)
          rw [e] at this
          simpa using this
      exact ⟨bs, hown, rfl, ek.symm, rfl, by omega, by omega, by rw [ek, List.length_take]; omega, hels, World.grownBy.refl w _⟩
    have hne : ((i0 : Int) == -1) = false := beq_eq_false_iff_ne.2 (by omega)
    have HI := hid hI
    have hc := hcap.1
    have hi0b : i0 + 1 ≤ bs.length := by omega
    clear hown hels hp hI hpi hpj hrd e1 hcap hcells
    go_enter Tryz.func95, Tryz.ntmps95
    go_wp2_with (go_at_call 130; refine HI.out.mono ?_; rintro e w' ⟨rfl, rfl⟩)
    go_loopw [5, 6] (fun s5 s6 wr => ∃ i j : Nat, s5 = .int .i64 i ∧ s6 = .int .i64 j ∧ i < j ∧ j ≤ bs.length ∧ Hid (DelRel w base gb c X (fun r => !p r) rs bs i j wr)) (fun _ s6 _ => bs.length - (intOf s6).toNat)
    case atStart => exact ⟨i0, i0 + 1, rfl, by go_num, by omega, hi0b, HS⟩
    case round =>
      obtain ⟨i, j, rfl, rfl, hij, hjn, hD⟩ := hrel
      obtain ⟨L, h1, h2, h3, h4, -, -, -, h8, h9⟩ := hD.out
      by_cases hlt : j < bs.length
      · obtain ⟨b, hb⟩ : ∃ b, bs[j]? = some b := ⟨bs[j], List.getElem?_eq_getElem hlt⟩
        obtain ⟨r, hr⟩ : ∃ r, rs[j]? = some r := ⟨rs[j], List.getElem?_eq_getElem (by omega)⟩
        obtain ⟨l0, hLi⟩ : ∃ l, L[i]? = some l := ⟨L[i], List.getElem?_eq_getElem (by omega)⟩
        have hLj : L[j]? = some b := by
          have := congrArg (fun l => l[0]?) h4
          simp only [List.getElem?_drop, Nat.add_zero] at this
          rw [this, hb]
        have hrd := h1.rd.2.2.2 (by omega)
        obtain ⟨g', o', e, hg', hcs⟩ := hrd
        cases e
        have cj := hcs j _ (by rw [List.getElem?_map, hLj]; rfl)
        have ci := hcs i _ (by rw [List.getElem?_map, hLi]; rfl)
        have fi := World.ownsRow.frozenAt h1 i
        have HC := hid (HP.out _ _ _ wr (h8.2 j _ _ hr hb))
        have HKB := hid hb
        have HKR := hid hr
        simp only [Nat.zero_add] at cj ci
        clear hcs h1 h2 h3 h4 h8 h9 hb hr hLj hLi
        cases hpr : p r with
        | true =>
          rw [hpr] at HC
          have HN := hid (hD.out.skip HKR.out HKB.out (by rw [hpr]; rfl))
          clear hpr
          go_wp2_with fail
          refine HC.out.mono ?_
          rintro e w' ⟨rfl, rfl⟩
          go_wp2_with fail
          go_roundw
          case rel => exact ⟨i, j + 1, rfl, by go_num, by omega, by omega, HN⟩
          case measure => simp [intOf]; omega
        | false =>
          rw [hpr] at HC
          have HN := hid (hD.out.keep HKR.out HKB.out (by rw [hpr]; rfl))
          clear hpr
          go_wp2_with fail
          refine HC.out.mono ?_
          rintro e w' ⟨rfl, rfl⟩
          go_wp2_with fail
          go_roundw
          case rel => exact ⟨i + 1, j + 1, by go_num, by go_num, by omega, by omega, HN⟩
          case measure => simp [intOf]; omega
      · obtain rfl : j = bs.length := by omega
        have hcl : ∀ ty, (Builtin.clear_ #[69] ty #[.slice (some ⟨gb, i, none⟩) (bs.length - i) (c - i)]).run Tryz.prog wr = .ok (.tuple #[]) (wr.setCells gb i (List.replicate (bs.length - i) (.pointer none))) := by
          obtain ⟨g', o', e, hg', hcs⟩ := h1.rd.2.2.2 (by omega)
          cases e
          intro ty
          refine Lib.run_clear_slice wr _ _ ty _ Tryz.underlying69 Tryz.zeroValue32 rfl rfl gb i _ _ (by omega) (fun t ht => ?_) (fun t ht => World.ownsRow.frozenAt h1 _)
          have := hcs (i + t) (ptr L[i + t]) (by rw [List.getElem?_map, List.getElem?_eq_getElem (by omega)]; rfl)
          rw [Nat.zero_add] at this
          rw [this]; rfl
        have HCUT := hid (hD.out.cut (List.replicate (bs.length - i) (.pointer none)))
        clear h1 h2 h3 h4 h8 h9
        go_wp2_with fail
        go_ret
        exact ⟨_, _, rfl, HCUT.out.1, HCUT.out.2.1, HCUT.out.2.2, rfl⟩
end Go.Proofs.YtfpfloahkibcgaaGreatDoor

/- slices.CompactFunc at rows of expressions, told apart by their keys. -/
namespace Go.Proofs.YtfpfloahkibcgaaGreatDoor
open Go.RowKit

theorem Keeps.drewN (X : Nat → Prop) (w : World) (n : Nat) : Keeps X w (w.drewN n) := ⟨Nat.le_refl _, fun _ _ _ => rfl⟩
theorem ReAt.drewN {w : World} {X : Nat → Prop} {r : Re} {b : Nat} (h : ReAt w X r b) (n : Nat) : ReAt (w.drewN n) X r b := h.keep (Keeps.drewN (fun _ => False) w n) (fun _ h => h.elim)
theorem Els.drewN {w : World} {X : Nat → Prop} {rs : List Re} {bs : List Nat} (h : Els w X rs bs) (n : Nat) : Els (w.drewN n) X rs bs := h.keep (Keeps.drewN (fun _ => False) w n) (fun _ h => h.elim)

/-- Those that a mask lets by. -/
def keepM {α : Type} (ms : List Bool) (xs : List α) : List α := ((ms.zip xs).filter (·.1)).map (·.2)
theorem keepM_els {w : World} {X : Nat → Prop} : ∀ (ms : List Bool) (rs : List Re) (bs : List Nat), ms.length = rs.length → Els w X rs bs → Els w X (keepM ms rs) (keepM ms bs)
  | [], rs, bs, _, _ => by simpa [keepM] using Els.nil
  | m :: ms, [], bs, hl, _ => by simp at hl
  | m :: ms, r :: rs, [], _, h => by have := h.1; simp at this
  | m :: ms, r :: rs, b :: bs, hl, h => by
    have h1 : ReAt w X r b := h.2 0 r b rfl rfl
    have h2 : Els w X rs bs := ⟨by have := h.1; simpa using this, fun i r' b' h1 h2 => h.2 (i + 1) r' b' (by simpa using h1) (by simpa using h2)⟩
    have ih := keepM_els ms rs bs (by simpa using hl) h2
    cases m
    · simpa [keepM] using ih
    · simpa [keepM] using Els.append (Els.one h1) ih
theorem keepM_snoc {α : Type} (ms : List Bool) (xs : List α) (m : Bool) (x : α) (h : ms.length = xs.length) : keepM (ms ++ [m]) (xs ++ [x]) = keepM ms xs ++ (if m then [x] else []) := by
  unfold keepM
  rw [List.zip_append h, List.filter_append, List.map_append]
  cases m <;> simp
theorem keepM_all {α : Type} : ∀ (ms : List Bool) (xs : List α), ms.length = xs.length → (∀ m ∈ ms, m = true) → keepM ms xs = xs
  | [], [], _, _ => rfl
  | m :: ms, x :: xs, h, ha => by
    have ih := keepM_all ms xs (by simpa using h) (fun m hm => ha m (by simp [hm]))
    rw [ha m (by simp)]
    simpa [keepM] using ih

/-- Is element i to be kept: the first one, and each that isn't what stands ahead of it? -/
def cmask1 (rs : List Re) (i : Nat) : Bool := i == 0 || !((rs[i]?.map Re.key) == (rs[i - 1]?.map Re.key))
def cmask (rs : List Re) : List Bool := (List.range rs.length).map (cmask1 rs)
/-- slices.CompactFunc by the keys. -/
def compactK (rs : List Re) : List Re := keepM (cmask rs) rs

/-- The row while it is being cut down: i kept ones ahead, from j on as it was. -/
def CmpRel (w : World) (base g cap : Nat) (X : Nat → Prop) (ms : List Bool) (rs : List Re) (bs : List Nat) (i j : Nat) (wr : World) : Prop :=
  ∃ L : List Nat, OwnP wr base (.slice (some ⟨g, 0, none⟩) L.length cap) L ∧ L.length = bs.length ∧ L.take i = keepM (ms.take j) (bs.take j) ∧ L.drop (j - 1) = bs.drop (j - 1) ∧ i < j ∧ j ≤ bs.length ∧ i = (keepM (ms.take j) (bs.take j)).length ∧ ms.length = bs.length ∧
    Els wr (Xo X (.slice (some ⟨g, 0, none⟩) L.length cap)) rs bs ∧ w.grownBy wr (some g)
theorem CmpRel.skip {w wr : World} {base g cap : Nat} {X : Nat → Prop} {ms : List Bool} {rs : List Re} {bs : List Nat} {i j : Nat} {b : Nat} (h : CmpRel w base g cap X ms rs bs i j wr)
    (hm : ms[j]? = some false) (hb : bs[j]? = some b) : CmpRel w base g cap X ms rs bs i (j + 1) wr := by
  obtain ⟨L, h1, h2, h3, h4, h5, h6, h7, hml, h8, h9⟩ := h
  obtain ⟨hjr, er⟩ := List.getElem?_eq_some_iff.1 hm
  obtain ⟨hjb, eb⟩ := List.getElem?_eq_some_iff.1 hb
  have e : keepM (ms.take (j + 1)) (bs.take (j + 1)) = keepM (ms.take j) (bs.take j) := by
    rw [List.take_succ_eq_append_getElem hjr, List.take_succ_eq_append_getElem hjb, keepM_snoc _ _ _ _ (by simp [hml]), er]
    simp
  refine ⟨L, h1, h2, by rw [e]; exact h3, ?_, by omega, hjb, by rw [e]; exact h7, hml, h8, h9⟩
  rw [show j + 1 - 1 = (j - 1) + 1 by omega, ← List.drop_drop (i := 1) (j := j - 1), h4, List.drop_drop]
theorem CmpRel.keep {w wr : World} {base g cap : Nat} {X : Nat → Prop} {ms : List Bool} {rs : List Re} {bs : List Nat} {i j : Nat} {b : Nat} (h : CmpRel w base g cap X ms rs bs i j wr)
    (hm : ms[j]? = some true) (hb : bs[j]? = some b) : CmpRel w base g cap X ms rs bs (i + 1) (j + 1) (wr.setCell ⟨g, i, none⟩ (ptr b)) := by
  obtain ⟨L, h1, h2, h3, h4, h5, h6, h7, hml, h8, h9⟩ := h
  obtain ⟨hjr, er⟩ := List.getElem?_eq_some_iff.1 hm
  obtain ⟨hjb, eb⟩ := List.getElem?_eq_some_iff.1 hb
  have e : keepM (ms.take (j + 1)) (bs.take (j + 1)) = keepM (ms.take j) (bs.take j) ++ [b] := by
    rw [List.take_succ_eq_append_getElem hjr, List.take_succ_eq_append_getElem hjb, keepM_snoc _ _ _ _ (by simp [hml]), er, eb]
    simp
  have hst := World.ownsRow.stored h1 i (ptr b)
  refine ⟨L.set i b, ?_, by simpa using h2, ?_, ?_, by omega, hjb, by rw [e, List.length_append]; simp; omega, hml, ?_, h9.trans hst.2⟩
  · simpa [OwnP, List.map_set] using hst.1
  · rw [e, ← h3, List.take_set, List.take_succ_eq_append_getElem (by omega), List.set_append_right _ _ (by simp; omega)]
    simp [show i - min i L.length = 0 by omega]
  · rw [List.drop_set_of_lt (by omega), show j + 1 - 1 = (j - 1) + 1 by omega, ← List.drop_drop (i := 1) (j := j - 1), h4, List.drop_drop]
  · have := h8.keep (Keeps.of_grown (X := fun k => k = g) hst.2 (fun k hk => by cases hk; rfl)) (fun k hk => .inr (by rw [hk]; rfl))
    simpa using this
theorem CmpRel.drewN {w wr : World} {base g cap : Nat} {X : Nat → Prop} {ms : List Bool} {rs : List Re} {bs : List Nat} {i j : Nat} (h : CmpRel w base g cap X ms rs bs i j wr) (n : Nat) : CmpRel w base g cap X ms rs bs i j (wr.drewN n) := by
  obtain ⟨L, h1, h2, h3, h4, h5, h6, h7, hml, h8, h9⟩ := h
  exact ⟨L, h1, h2, h3, h4, h5, h6, h7, hml, h8.drewN n, ⟨h9.os, h9.tape, h9.output, h9.size, h9.block⟩⟩
theorem CmpRel.cut {w wr : World} {base g cap : Nat} {X : Nat → Prop} {ms : List Bool} {rs : List Re} {bs : List Nat} {i : Nat} (h : CmpRel w base g cap X ms rs bs i bs.length wr) (xs : List Value) :
    OwnP (wr.setCells g i xs) base (.slice (some ⟨g, 0, none⟩) i cap) (keepM ms bs) ∧ Els (wr.setCells g i xs) (Xo X (.slice (some ⟨g, 0, none⟩) i cap)) (keepM ms rs) (keepM ms bs) ∧ w.grownBy (wr.setCells g i xs) (some g) := by
  obtain ⟨L, h1, h2, h3, h4, h5, h6, h7, hml, h8, h9⟩ := h
  have hrl : ms.take bs.length = ms := List.take_of_length_le (by rw [hml]; exact Nat.le_refl _)
  rw [hrl, List.take_length] at h3 h7
  have hgr := grown_setCells g xs i wr
  refine ⟨?_, ?_, h9.trans hgr⟩
  · unfold OwnP at h1 ⊢
    rcases h1.2 with ⟨e, _⟩ | ⟨g', cap', cur, e, hb, hh, hn, hm, hs, ht⟩
    · cases e
    · cases e
      obtain ⟨cur', c1, c2, c3⟩ := heap_setCells xs i wr cur hh
      refine ⟨by simp, .inr ⟨g, cap, cur', by rw [← h7], hb, c1, by omega, hm, by rw [c2]; exact hs, ?_⟩⟩
      rw [← h3, List.map_take, ← ht]
      rw [Nat.mul_one] at ht ⊢
      have hli : (L.take i).length = i := by rw [List.length_take]; omega
      rw [hli, Nat.mul_one, List.take_take, Nat.min_eq_left (by omega)]
      apply List.ext_getElem?
      intro j
      rw [List.getElem?_take, List.getElem?_take]
      split
      · rw [Array.getElem?_toList, Array.getElem?_toList]; exact c3 j (by assumption)
      · rfl
  · have := h8.keep (Keeps.of_grown (X := fun k => k = g) hgr (fun k hk => by cases hk; rfl)) (fun k hk => .inr (by rw [hk]; rfl))
    exact keepM_els ms rs bs (by rw [hml, h8.1]) this

theorem cmask_at (rs : List Re) (j : Nat) (r s : Re) (hj : 0 < j) (hr : rs[j]? = some r) (hs : rs[j - 1]? = some s) : (cmask rs)[j]? = some (!(r.key == s.key)) := by
  have hl := (List.getElem?_eq_some_iff.1 hr).1
  unfold cmask
  rw [List.getElem?_map, List.getElem?_range hl]
  simp only [Option.map_some, cmask1, hr, hs]
  have : (j == 0) = false := by simp; omega
  rw [this]
  rfl
theorem cmask_zero (rs : List Re) (h : 0 < rs.length) : (cmask rs)[0]? = some true := by
  unfold cmask
  rw [List.getElem?_map, List.getElem?_range h]
  rfl
theorem cmask_len (rs : List Re) : (cmask rs).length = rs.length := by simp [cmask]
/-- The first pair of the same: the row as it came is as it should be up to there. -/
theorem CmpRel.start {w wr : World} {base g cap : Nat} {X : Nat → Prop} {rs : List Re} {bs : List Nat} {k : Nat} (hown : OwnP wr base (.slice (some ⟨g, 0, none⟩) bs.length cap) bs) (hels : Els wr (Xo X (.slice (some ⟨g, 0, none⟩) bs.length cap)) rs bs)
    (hg : w.grownBy wr (some g)) (hk : k < bs.length) (ha : ∀ i m, i < k → (cmask rs)[i]? = some m → m = true) (hm : (cmask rs)[k]? = some false) : CmpRel w base g cap X (cmask rs) rs bs k (k + 1) wr := by
  have hl : (cmask rs).length = bs.length := by rw [cmask_len, hels.1]
  obtain ⟨hkl, ek⟩ := List.getElem?_eq_some_iff.1 hm
  have e : keepM ((cmask rs).take (k + 1)) (bs.take (k + 1)) = bs.take k := by
    rw [List.take_succ_eq_append_getElem hkl, List.take_succ_eq_append_getElem hk, keepM_snoc _ _ _ _ (by simp [hl]), keepM_all _ _ (by simp [hl]), ek]
    · simp
    · intro m hm'
      obtain ⟨i, hi, e⟩ := List.getElem_of_mem hm'
      simp at hi
      rw [List.getElem_take] at e
      exact ha i m (by omega) (by rw [← e]; exact List.getElem?_eq_getElem (by omega))
  exact ⟨bs, hown, rfl, e.symm, rfl, by omega, hk, by rw [e, List.length_take]; omega, hl, hels, hg⟩
theorem compactK_short (rs : List Re) (h : rs.length < 2) : compactK rs = rs := by
  match rs, h with
  | [], _ => rfl
  | [r], _ => rfl
theorem compactK_all (rs : List Re) (ha : ∀ (i : Nat) m, (cmask rs)[i]? = some m → m = true) : compactK rs = rs :=
  keepM_all _ _ (cmask_len rs) (fun m hm => by obtain ⟨i, hi, e⟩ := List.getElem_of_mem hm; exact ha i m (by rw [← e]; exact List.getElem?_eq_getElem hi))
end Go.Proofs.YtfpfloahkibcgaaGreatDoor

/- The walk of slices.CompactFunc by (*Re).Same. -/
namespace Go.Proofs.YtfpfloahkibcgaaGreatDoor
open Go.RowKit

/-- (*Re).Same in whatever world some draws on. -/
theorem same_drewN (r s : Re) (X : Nat → Prop) (b c : Nat) (w : World) (h : ReAt w X r b) (h' : ReAt w X s c) : ∀ n, Calls Tryz.prog 103 #[ptr b, ptr c] (w.drewN n) fun e w' => e = .returned (.bool (r.key == s.key)) ∧ w' = w.drewN n :=
  fun n => (same_any r s X X b c (w.drewN n) (h.drewN n) (h'.drewN n)).mono fun _ _ ⟨h1, h2⟩ => ⟨h1, h2.symm⟩

set_option maxHeartbeats 1000000 in
theorem compactFunc_any (base : Nat) (v : Value) (rs : List Re) (bs : List Nat) (X : Nat → Prop) (w : World) (hown : OwnP w base v bs) (hels : Els w (Xo X v) rs bs) (hn : bs.length ≤ 1099511627776) :
    Calls Tryz.prog 149 #[v, .func (.func 103) #[] #[]] w (RetCut w X base v (compactK rs)) := by
  obtain ⟨A, c, rfl⟩ := hown.form
  obtain ⟨-, hcap, hrd⟩ := hown.rd
  have hlen := hels.1
  by_cases h2 : bs.length < 2
  · have HF : Hid (compactK rs = rs) := compactK_short rs (by omega)
    have HO := hid hown
    have HE := hid hels
    clear hown hels hrd hcap
    go_enter Tryz.func149, Tryz.ntmps149
    go_wp2_with fail
    go_ret
    exact ⟨_, bs, rfl, HO.out, by rw [HF.out]; exact HE.out, World.grownBy.refl w _, rfl⟩
  · obtain ⟨g, o, rfl, hg, hcells⟩ := hrd.2 (by omega)
    obtain rfl : o = 0 := by
      unfold OwnP at hown
      rcases hown.2 with ⟨e, _⟩ | ⟨g', cap', cur, e, _⟩
      · cases e
      · cases e; rfl
    have HO := hid hown
    have HE := hid hels
    have hc := hcap.1
    clear hown hels hrd hcap hcells
    go_enter Tryz.func149, Tryz.ntmps149
    go_wp2_with fail
    go_loopw [5] (fun s5 wr => ∃ m : Nat, s5 = .int .i64 ((m : Int) + 1) ∧ m + 1 ≤ bs.length ∧ Hid (∀ i x, i < m + 1 → (cmask rs)[i]? = some x → x = true) ∧ Hid (OwnP wr base (.slice (some ⟨g, 0, none⟩) bs.length c) bs) ∧ Hid (Els wr (Xo X (.slice (some ⟨g, 0, none⟩) bs.length c)) rs bs) ∧ Hid (w.grownBy wr (some g))) (fun s5 _ => bs.length - (intOf s5).toNat)
    case atStart =>
      refine ⟨0, rfl, by omega, fun i x hi hx => ?_, HO, HE, World.grownBy.refl w _⟩
      obtain rfl : i = 0 := by omega
      rw [cmask_zero rs (by omega)] at hx
      cases hx; rfl
    case round =>
      obtain ⟨m, rfl, hmn, hall, hown, hels, hgr⟩ := hrel
      by_cases hlt : m + 1 < bs.length
      · obtain ⟨b1, hb1⟩ : ∃ b, bs[m + 1]? = some b := ⟨bs[m + 1], List.getElem?_eq_getElem hlt⟩
        obtain ⟨b0, hb0⟩ : ∃ b, bs[m]? = some b := ⟨bs[m], List.getElem?_eq_getElem (by omega)⟩
        obtain ⟨r1, hr1⟩ : ∃ r, rs[m + 1]? = some r := ⟨rs[m + 1], List.getElem?_eq_getElem (by omega)⟩
        obtain ⟨r0, hr0⟩ : ∃ r, rs[m]? = some r := ⟨rs[m], List.getElem?_eq_getElem (by omega)⟩
        obtain ⟨g', o', e, hg', hcs⟩ := hown.out.rd.2.2.2 (by omega)
        cases e
        have c1 := hcs (m + 1) _ (by rw [List.getElem?_map, hb1]; rfl)
        have c0 := hcs m _ (by rw [List.getElem?_map, hb0]; rfl)
        simp only [Nat.zero_add] at c1 c0
        have HC := hid (same_drewN r1 r0 _ b1 b0 wr (hels.out.2 _ _ _ hr1 hb1) (hels.out.2 _ _ _ hr0 hb0))
        have HM := hid (cmask_at rs (m + 1) r1 r0 (by omega) hr1 hr0)
        clear hcs hr1 hr0 hb0
        have HB1 := hid hb1
        clear hb1
        cases hq : (r1.key == r0.key) with
        | false =>
          rw [hq] at HC HM
          clear hq
          go_wp2_with fail
          go_quiet ((go_at_call 103; exact Calls.quiet_of_same (HC.out _)))
          go_wp2_with fail
          go_roundw
          case rel =>
            refine ⟨m + 1, by go_num, by omega, fun i x hi hx => ?_, hown, hels.out.drewN nq, ⟨hgr.out.os, hgr.out.tape, hgr.out.output, hgr.out.size, hgr.out.block⟩⟩
            rcases Nat.lt_or_ge i (m + 1) with h | h
            · exact hall.out i x h hx
            · obtain rfl : i = m + 1 := by omega
              rw [HM.out] at hx
              cases hx; rfl
          case measure => simp [intOf]; omega
        | true =>
          rw [hq] at HC HM
          have HS := hid (CmpRel.start hown.out hels.out hgr.out hlt hall.out HM.out)
          clear hq
          go_wp2_with fail
          go_quiet ((go_at_call 103; exact Calls.quiet_of_same (HC.out _)))
          go_wp2_with fail
          obtain ⟨wo, rfl⟩ : ∃ wo : World, wo = wr := ⟨_, rfl⟩
          clear c1 c0 HC HB1 HM hall hown hels hgr hg'
          go_loopw [5, 7] (fun s5 s7 wq => ∃ i q : Nat, s5 = .int .i64 (i : Int) ∧ s7 = .int .i64 ((q : Int) + 1) ∧ i < m + 2 + q ∧ m + 2 + q ≤ bs.length ∧ Hid (CmpRel w base g c X (cmask rs) rs bs i (m + 2 + q) wq)) (fun _ s7 _ => bs.length - (intOf s7).toNat)
          case atStart => exact ⟨m + 1, 0, by go_num, rfl, by omega, by omega, HS.out.drewN nq⟩
          case round =>
            obtain ⟨i, q, rfl, rfl, hij, hjn, hD⟩ := hrel
            obtain ⟨L, h1, hL2, h3, h4, -, -, -, -, h8, h9⟩ := hD.out
            by_cases hlt2 : m + 2 + q < bs.length
            · obtain ⟨b1, hb1⟩ : ∃ b, bs[m + 2 + q]? = some b := ⟨bs[m + 2 + q], List.getElem?_eq_getElem hlt2⟩
              obtain ⟨b0, hb0⟩ : ∃ b, bs[m + 1 + q]? = some b := ⟨bs[m + 1 + q], List.getElem?_eq_getElem (by omega)⟩
              obtain ⟨r1, hr1⟩ : ∃ r, rs[m + 2 + q]? = some r := ⟨rs[m + 2 + q], List.getElem?_eq_getElem (by omega)⟩
              obtain ⟨r0, hr0⟩ : ∃ r, rs[m + 1 + q]? = some r := ⟨rs[m + 1 + q], List.getElem?_eq_getElem (by omega)⟩
              obtain ⟨l0, hLi⟩ : ∃ l, L[i]? = some l := ⟨L[i], List.getElem?_eq_getElem (by omega)⟩
              have hL0 : L[m + 1 + q]? = some b0 := by
                have := congrArg (fun l => l[0]?) h4
                simp only [List.getElem?_drop, Nat.add_zero] at this
                rw [show m + 2 + q - 1 = m + 1 + q by omega] at this
                rw [this, hb0]
              have hL1 : L[m + 2 + q]? = some b1 := by
                have := congrArg (fun l => l[1]?) h4
                simp only [List.getElem?_drop] at this
                rw [show m + 2 + q - 1 + 1 = m + 2 + q by omega] at this
                rw [this, hb1]
              obtain ⟨g', o', e, hg', hcs⟩ := h1.rd.2.2.2 (by omega)
              cases e
              have c1 := hcs _ _ (by rw [List.getElem?_map, hL1]; rfl)
              have c0 := hcs _ _ (by rw [List.getElem?_map, hL0]; rfl)
              have ci := hcs _ _ (by rw [List.getElem?_map, hLi]; rfl)
              have fi := World.ownsRow.frozenAt h1 i
              rw [show 0 + (m + 2 + q) = m + 1 + (q + 1) by omega] at c1
              rw [show 0 + (m + 1 + q) = m + 1 + q by omega] at c0
              rw [Nat.zero_add] at ci
              have HC := hid (same_drewN r1 r0 _ b1 b0 wr (h8.2 _ _ _ hr1 hb1) (h8.2 _ _ _ hr0 hb0))
              have HM := hid (cmask_at rs (m + 2 + q) r1 r0 (by omega) hr1 (by rw [show m + 2 + q - 1 = m + 1 + q by omega]; exact hr0))
              have HB1 := hid hb1
              clear hcs h1 hL2 h3 h4 h8 h9 hb1 hb0 hr1 hr0 hLi hL0 hL1
              cases hq2 : (r1.key == r0.key) with
              | true =>
                rw [hq2] at HC HM
                have HN := hid (hD.out.skip HM.out HB1.out)
                clear hq2
                go_wp2_with fail
                go_quiet ((go_at_call 103; exact Calls.quiet_of_same (HC.out _)))
                go_wp2_with fail
                go_roundw
                case rel => exact ⟨i, q + 1, rfl, by go_num, by omega, by omega, by have := HN.out.drewN nq; rwa [show m + 2 + q + 1 = m + 2 + (q + 1) by omega] at this⟩
                case measure => simp [intOf]; omega
              | false =>
                rw [hq2] at HC HM
                have HN := hid (fun n => (hD.out.drewN n).keep HM.out HB1.out)
                clear hq2
                go_wp2_with fail
                go_quiet ((go_at_call 103; exact Calls.quiet_of_same (HC.out _)))
                go_wp2_with fail
                go_roundw
                case rel => exact ⟨i + 1, q + 1, by go_num, by go_num, by omega, by omega, by have := HN.out nq; rwa [show m + 2 + q + 1 = m + 2 + (q + 1) by omega] at this⟩
                case measure => simp [intOf]; omega
            · have hjb : m + 2 + q = bs.length := by omega
              have hD' := hD.out
              rw [hjb] at hD'
              have hib : i < bs.length := by omega
              have hcl : ∀ ty, (Builtin.clear_ #[69] ty #[.slice (some ⟨g, i, none⟩) (bs.length - i) (c - i)]).run Tryz.prog wr = .ok (.tuple #[]) (wr.setCells g i (List.replicate (bs.length - i) (.pointer none))) := by
                obtain ⟨g', o', e, hg', hcs⟩ := h1.rd.2.2.2 (by omega)
                cases e
                intro ty
                refine Lib.run_clear_slice wr _ _ ty _ Tryz.underlying69 Tryz.zeroValue32 rfl rfl g i _ _ (by omega) (fun t ht => ?_) (fun t ht => World.ownsRow.frozenAt h1 _)
                have := hcs (i + t) (ptr L[i + t]) (by rw [List.getElem?_map, List.getElem?_eq_getElem (by omega)]; rfl)
                rw [Nat.zero_add] at this
                rw [this]; rfl
              have HCUT := hid (hD'.cut (List.replicate (bs.length - i) (.pointer none)))
              have hge : ¬ (q : Int) + 1 < ((bs.length - (m + 1) : Nat) : Int) := by omega
              clear h1 hL2 h3 h4 h8 h9 hD' hjb hij hjn hlt2
              go_wp2_with fail
              go_ret
              exact ⟨_, _, rfl, HCUT.out.1, HCUT.out.2.1, HCUT.out.2.2, rfl⟩
      · have hmb : m + 1 = bs.length := by omega
        have HF : Hid (compactK rs = rs) := by
          refine compactK_all rs (fun i x hx => hall.out i x ?_ hx)
          have := (List.getElem?_eq_some_iff.1 hx).1
          rw [cmask_len] at this
          omega
        have hge : ¬ (m : Int) + 1 < (bs.length : Int) := by omega
        clear hmb hlt hmn
        go_wp2_with fail
        go_ret
        exact ⟨_, bs, rfl, hown.out, by rw [HF.out]; exact hels.out, hgr.out, rfl⟩
end Go.Proofs.YtfpfloahkibcgaaGreatDoor
