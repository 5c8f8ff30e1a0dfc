/- The walk of re.made. -/
import Derived.Test.YtihloigpdcinkaaDoorApps
import Derived.Test.YtihloigpdcinkaaDoorFmt
import Derived.Test.YtihloigpdcinkaaDoorSets
import Derived.Test.YtihloigpdcinkaaDoorShelf
namespace Go.Proofs.YtihloigpdcinkaaDoor
open Go.RowKit

/-- The cells of an expression's block while it is made: no key yet, this size. -/
def reCells0 (r : Re) (A : Option Addr) (c : Nat) (sz : Nat) : Array Value :=
  #[.int .i64 r.op, .int .u64 r.set.a.toNat, .int .u64 r.set.b.toNat, .int .u64 r.set.c.toNat, .int .u64 r.set.d.toNat, .slice A r.kids.length c, .bool r.null, .string ⟨#[]⟩, .int .i64 sz]
/-- The head of a round of the loop over the kids: the parts so far, the size so far. -/
def MadeRel (w : World) (r : Re) (A : Option Addr) (c : Nat) (ps : List (List UInt8)) (s : Nat) (v : Value) (wr : World) : Prop :=
  OwnS wr (w.heap.size + 2) v ps ∧ wr.heap[w.heap.size + 1]? = some (.cells (reCells0 r A c s) 44 (0, 0)) ∧ Below w.heap.size w wr ∧ w.heap.size + 2 ≤ wr.heap.size
/-- Behind the append of a kid's key: what the sum reads and writes. -/
theorem MadeRel.app {w wr w2 : World} {r : Re} {A : Option Addr} {c : Nat} {ps : List (List UInt8)} {s : Nat} {v v' : Value} {u : List UInt8} {T : TypeId} {cs : Array Value} (h : MadeRel w r A c ps s v wr)
    (hown : OwnS w2 (w.heap.size + 2) v' (ps ++ [u])) (hg : (wr.alloc (.cells cs T)).grownBy w2 v.ownBlock) : MadeRel w r A c (ps ++ [u]) s v' w2 := by
  obtain ⟨h1, h2, h3, h4⟩ := h
  have hlt := fun k hk => (World.ownsRow.lt h1 k hk)
  have hgr := hg.size
  simp at hgr
  refine ⟨hown, ?_, ?_, by omega⟩
  · rw [hg.block _ (by simp; omega) (fun e => by have := (hlt _ e.symm).1; omega)]
    exact blk_alloc h2 _
  · exact (h3.alloc h3.size _).grown hg (by simp; have := h3.size; omega) (fun k hk => by have := (hlt _ hk).1; omega)
theorem MadeRel.sum {w w2 : World} {r : Re} {A : Option Addr} {c : Nat} {ps : List (List UInt8)} {s : Nat} {v : Value} (h : MadeRel w r A c ps s v w2) (z : Nat) :
    MadeRel w r A c ps (s + z) v (w2.setCell ⟨w.heap.size + 1, 8, none⟩ (.int .i64 ((s : Int) + z))).drew := by
  obtain ⟨h1, h2, h3, h4⟩ := h
  refine ⟨(h1.setCell (a := ⟨w.heap.size + 1, 8, none⟩) (by show w.heap.size + 1 < w.heap.size + 2; omega) _).drew, ?_, (h3.setCell (p := ⟨w.heap.size + 1, 8, none⟩) (by show w.heap.size ≤ w.heap.size + 1; omega) _).drew, by simpa [World.setCell] using h4⟩
  rw [show (w2.setCell ⟨w.heap.size + 1, 8, none⟩ (.int .i64 ((s : Int) + z))).drew.heap = (w2.setCell ⟨w.heap.size + 1, 8, none⟩ (.int .i64 ((s : Int) + z))).heap from rfl, blk_set h2]
  simp [reCells0]
theorem MadeRel.cells {w wr : World} {r : Re} {A : Option Addr} {c : Nat} {ps : List (List UInt8)} {s : Nat} {v : Value} (h : MadeRel w r A c ps s v wr) :
    wr.cell? ⟨w.heap.size + 1, 8, none⟩ = some (.int .i64 s) ∧ wr.frozen? ⟨w.heap.size + 1, 8, none⟩ = false ∧ wr.cell? ⟨w.heap.size + 1, 7, none⟩ = some (.string ⟨#[]⟩) ∧ wr.frozen? ⟨w.heap.size + 1, 7, none⟩ = false :=
  ⟨(blk_cell h.2.1 8).trans (by simp [reCells0]), blk_free h.2.1 8, (blk_cell h.2.1 7).trans (by simp [reCells0]), blk_free h.2.1 7⟩
/-- The parts of a key, ahead of the kids'. -/
def parts0 (r : Re) : List (List UInt8) := Lib.decDigits r.op :: (match r with | .cls s => [Re.fmt36 s.a.toNat, Re.fmt36 s.b.toNat, Re.fmt36 s.c.toNat, Re.fmt36 s.d.toNat] | _ => [])
theorem key_parts (r : Re) : r.key = 40 :: (Lib.join (parts0 r ++ r.kids.map Re.key) [32] ++ [41]) := by
  rw [Re.key_kids]
  have hd : Lib.decDigits r.op = [UInt8.ofNat (48 + r.op)] := by cases r <;> (simp only [Re.op]; decide +kernel)
  have hj : ∀ l : List (List UInt8), Lib.joinTail [32] l = l.flatMap fun s => 32 :: s := by intro l; simp [Lib.joinTail, List.flatMap]
  unfold parts0
  rw [List.cons_append, Lib.join_cons, hj, hd, Re.keys_eq]
  cases r <;> simp [Re.mids, Re.words, List.flatMap_map]

theorem join_row (w : World) (base : Nat) (v : Value) (ps : List (List UInt8)) (h : OwnS w base v ps) (hne : ps ≠ []) (hl : (Lib.join ps [32]).length ≤ 140737488355328) (hn : ps.length ≤ 140737488355328) :
    Calls Tryd.prog 74 #[v, .string ⟨#[32]⟩] w fun e w' => e = .returned (.string ⟨(Lib.join ps [32]).toArray⟩) ∧ Below w.heap.size w w' := by
  obtain ⟨g, c, rfl, hc, hb, hg, hcs⟩ := h.form hne
  have hm : (ps.map fun s => (⟨s.toArray⟩ : ByteArray)).map (·.data.toList) = ps := by rw [List.map_map]; simp [Function.comp_def]
  have := Tryd.strings_Join g 0 c (ps.map fun s => ⟨s.toArray⟩) ⟨#[32]⟩ w (fun j x hx => by
    rw [List.getElem?_map] at hx
    cases hp : ps[j]? with
    | none => rw [hp] at hx; cases hx
    | some u => rw [hp] at hx; cases hx; exact hcs j u hp) hg (by simpa using hn) (by simpa using hc) (by rw [hm]; exact hl)
  rw [hm, List.length_map] at this
  exact this

set_option maxHeartbeats 1000000 in
theorem made_kids (r : Re) (X : Nat → Prop) (A : Option Addr) (c : Nat) (bs : List Nat) (w : World) (hrow : ReRow w X A r.kids.length r.kids bs) (hc : CapOk r.kids.length A c) (hsz : r.size ≤ 1099511627776) (hX : ∀ k, X k → k < w.heap.size)
    (hop : r.op ≠ 2) (o : Nat) (ho : r.op = o) :
    Calls Tryd.prog 54 #[.int .i64 (o : Int), cv r.set, .bool r.null, .slice A r.kids.length c] w (RetRe w X r) := by
  have hit := fun W => Tryd.strconv_Itoa_small o (by subst ho; cases r <;> simp [Re.op]) W
  have HI := hid hit
  have h2 : ((o : Int) == 2) = false := by subst ho; simp; omega
  have HROW := hid hrow
  have hp0 : Hid (parts0 r = [Lib.decDigits o]) := by subst ho; cases r <;> first | rfl | exact absurd rfl hop
  have hkl : r.kids.length ≤ 1099511627776 := by have := Re.length_le_sizes r.kids; have := Re.size_kids r; omega
  have HX := hid hX
  have HOP := hid ho
  have HSZ := hid hsz
  clear hit hrow ho hop hX hsz
  unfold cv
  go_enter Tryd.func54, Tryd.ntmps54
  go_wp2_with (first | (go_at_call 72; refine (HI.out _).mono ?_; rintro e w' ⟨rfl, rfl⟩))
  go_loopw [10, 38] (fun v i wr => ∃ k : Nat, k ≤ r.kids.length ∧ i = .int .i64 k ∧ MadeRel w r A c (parts0 r ++ (r.kids.take k).map Re.key) (1 + Re.sizes (r.kids.take k)) v wr) (fun _ i _ => r.kids.length - (intOf i).toNat)
  case atStart =>
    refine ⟨0, Nat.zero_le _, rfl, ?_, ?_, ?_, by simp⟩
    · rw [hp0.out]
      simpa using OwnS.one ((w.alloc _).alloc _) (Lib.decDigits o) (w.heap.size + 2) (by simp)
    · refine blk_alloc (by simpa [Re.sizes, reCells0, HOP.out] using blk_new (w.alloc _) _) _
    · exact ((((Below.refl _ _).alloc (Nat.le_refl _) _).alloc (by simp) _).alloc (by simp; omega) _)
  case round =>
    obtain ⟨k, hk, rfl, hr⟩ := hrel
    by_cases hlt : k < r.kids.length
    · obtain ⟨g, of, kr, kb, rfl, hcell, hkr, hkb, hat, hg⟩ := HROW.out.at_ hlt
      obtain ⟨A', c', bs', hkc, -, -⟩ := hat.row
      have hkb' := hat.lt
      have hc1 := (hr.2.2.1.cell (p := ⟨g, of + k, none⟩) hg).trans hcell
      have hk7 := (hr.2.2.1.cell (p := ⟨kb, 7, none⟩) hkb').trans (cellsOf hkc).2.2.2.2.2.2.2.1
      have HK8 := hid (cellsOf hkc).2.2.2.2.2.2.2.2
      have hsn : (r.kids.take (k + 1)) = r.kids.take k ++ [kr] := by
        obtain ⟨hl, e⟩ := List.getElem?_eq_some_iff.1 hkr
        rw [List.take_succ_eq_append_getElem hl, e]
      have hss : Re.sizes (r.kids.take (k + 1)) ≤ r.size := by have := Re.sizes_take r.kids (k + 1); have := Re.size_kids r; omega
      rw [hsn, Re.sizes_append] at hss
      simp only [Re.sizes, Nat.add_zero] at hss
      have HR := hid hr
      have HP : Hid (∀ v' w2, MadeRel w r (some ⟨g, of, none⟩) c (parts0 r ++ (r.kids.take k).map Re.key ++ [kr.key]) (1 + Re.sizes (r.kids.take k) + kr.size) v' w2 → MadeRel w r (some ⟨g, of, none⟩) c (parts0 r ++ (r.kids.take (k + 1)).map Re.key) (1 + Re.sizes (r.kids.take (k + 1))) v' w2) := by
        intro v' w2 h
        rw [hsn, List.map_append, Re.sizes_append]
        simpa [Re.sizes, Nat.add_assoc] using h
      have hl40 : (parts0 r ++ (r.kids.take k).map Re.key).length + 1 ≤ 1099511627776 := by
        rw [hp0.out]
        have := Re.length_le_sizes r.kids; have := Re.size_kids r; have := HSZ.out
        simp; omega
      have HO := hid (fun o => World.ownsRow.alloc hr.1 o)
      have hsz0 : w.heap.size + 2 ≤ wr.heap.size := hr.2.2.2
      obtain ⟨s, hs⟩ : ∃ s, s = 1 + Re.sizes (r.kids.take k) := ⟨_, rfl⟩
      obtain ⟨z, hz⟩ : ∃ z, z = kr.size := ⟨_, rfl⟩
      have HSZ' := HSZ.out
      have hs1 : s + z ≤ 1099511627777 := by omega
      rw [← hs] at HR HP
      rw [← hz] at HK8 HP
      generalize parts0 r ++ (r.kids.take k).map Re.key = ps at HR HP HO hl40
      generalize kr.key = u at hk7 HP
      clear hr hs hz hsn hss hkc hcell hkr hkb hat HSZ'
      go_wp2_with (at_builtin; refine wpList_app_str _ rfl (.tmp 42) (.tmp 47) rfl (w.heap.size + 2) _ ps rfl (HO.out _) wr.heap.size 1 u rfl (cell0_new _ _ _) hl40 (le_alloc hsz0 _) ?_; intro v' w2 hown' hg'; have HR2 := hid (HR.out.app hown' hg'); clear hown' hg')
      obtain ⟨e1, e2, -, -⟩ := HR2.out.cells
      have e3 := (HR2.out.2.2.1.cell (p := ⟨kb, 8, none⟩) hkb').trans HK8.out
      have hsw : IntKind.i64.wrap ((s : Int) + z) = (s : Int) + z := IntWalk.i64_in _ (by omega)
      go_region
      go_wp2_with fail
      go_roundw
      case rel => exact ⟨k + 1, by omega, by go_num, HP.out _ _ (HR2.out.sum z)⟩
      case measure => simp [intOf]; omega
    · have hkn : k = r.kids.length := by omega
      subst hkn
      rw [List.take_length] at hr
      have HR := hid hr
      have hkey := key_parts r
      have hklen := Re.key_len r
      have HSZ' := HSZ.out
      have hjl : (Lib.join ((parts0 r ++ r.kids.map Re.key)) [32]).length ≤ 140737488355328 := by rw [hkey] at hklen; simp at hklen; omega
      have HJ := hid (join_row wr _ _ _ hr.1 (by unfold parts0; simp) hjl (by rw [hp0.out]; have := hkl; simp; omega))
      have hj63 : ((Lib.join ((parts0 r ++ r.kids.map Re.key)) [32]).length : Int) ≤ 140737488355328 := by omega
      have HK := hid hkey
      have hB : w.heap.size + 1 < wr.heap.size := lt_of_heap hr.2.1
      obtain ⟨-, -, m7, n7⟩ := hr.cells
      have HB := hid hr.2.2.1
      have HH := hid hr.2.1
      clear hkey hklen HSZ' hjl hr
      generalize Lib.join ((parts0 r ++ r.kids.map Re.key)) [32] = jn at HJ HK hj63
      go_wp2_with (go_at_call 74; refine HJ.out.mono ?_; rintro e w3 ⟨rfl, hb3⟩; have c7 := (hb3.cell (p := ⟨w.heap.size + 1, 7, none⟩) hB).trans m7; have f7 := (hb3.frozen (p := ⟨w.heap.size + 1, 7, none⟩) hB).trans n7; clear m7 n7)
      go_ret
      have hke : (⟨#[40]⟩ ++ ⟨jn.toArray⟩ ++ ⟨#[41]⟩ : ByteArray) = ⟨r.key.toArray⟩ := by
        rw [HK.out]
        apply ByteArray.ext
        simp
      rw [hke]
      have hb4 : Below w.heap.size w (w3.setCell ⟨w.heap.size + 1, 7, none⟩ (.string ⟨r.key.toArray⟩)) := (HB.out.trans (hb3.mono (by have := HB.out.size; omega))).setCell (by show w.heap.size ≤ w.heap.size + 1; omega) _
      refine ⟨w.heap.size + 1, rfl, ?_, hb4⟩
      have hrow := HROW.out.below hb4
      refine ReAt.mk r (w.heap.size + 1) A c bs (fun h => by have := HX.out _ h; omega) ?_ hc hrow.1 hrow.2.2 hrow.2.1.2
      rw [blk_set (blk_below HH.out hb3)]
      simp [reCells0, reCells, Re.size_kids r]
end Go.Proofs.YtihloigpdcinkaaDoor
