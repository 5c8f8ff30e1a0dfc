/- Rows of expressions that a call makes: what an append does to them. -/
import Derived.Test.YtihloigpdcinkaaDoorSmall
namespace Go.Proofs.YtihloigpdcinkaaDoor
open Go.RowKit

/-- WHAT A CALL THAT MAKES A ROW COMES TO. -/
def RetRow (w : World) (X : Nat → Prop) (rs : List Re) (e : Ending) (w' : World) : Prop :=
  ∃ v bs, e = .returned v ∧ OwnP w' w.heap.size v bs ∧ Els w' (Xo X v) rs bs ∧ Below w.heap.size w w'

/-- Elements over an append to their row. -/
theorem Els.grown {w w' : World} {X : Nat → Prop} {v v' : Value} {rs : List Re} {bs : List Nat} (h : Els w (Xo X v) rs bs) (hg : w.grownBy w' v.ownBlock) (hat : v'.ownBlock = v.ownBlock ∨ v'.ownBlock = some w.heap.size) : Els w' (Xo X v') rs bs := by
  have h1 : Els w (fun k => Xo X v k ∨ k = w.heap.size) rs bs := h.also (fun k hk hlt => hk.resolve_right (by omega))
  have h2 := h1.keep (Keeps.of_grown (X := fun k => v.ownBlock = some k) hg (fun k hk => hk)) (fun k hk => .inl (.inr hk))
  refine h2.also (fun k hk _ => ?_)
  rcases hk with hk | hk
  · exact .inl (.inl hk)
  · rcases hat with e | e
    · rw [e] at hk; exact .inl (.inr hk)
    · rw [e] at hk; cases hk; exact .inr rfl
theorem ReAt.grown {w w' : World} {X : Nat → Prop} {v v' : Value} {r : Re} {b : Nat} (h : ReAt w (Xo X v) r b) (hg : w.grownBy w' v.ownBlock) (hat : v'.ownBlock = v.ownBlock ∨ v'.ownBlock = some w.heap.size) : ReAt w' (Xo X v') r b :=
  (Els.grown (Els.one h) hg hat).2 0 r b rfl rfl
theorem Els.alloc {w : World} {X : Nat → Prop} {rs : List Re} {bs : List Nat} (h : Els w X rs bs) (o : Obj) : Els (w.alloc o) X rs bs := h.keep (Keeps.alloc (fun _ => False) w o) (fun _ h => h.elim)
theorem OwnP.alloc {w : World} {base : Nat} {v : Value} {bs : List Nat} (h : OwnP w base v bs) (o : Obj) : OwnP (w.alloc o) base v bs := World.ownsRow.alloc h o
theorem OwnP.lt {w : World} {base : Nat} {v : Value} {bs : List Nat} (h : OwnP w base v bs) : ∀ k, v.ownBlock = some k → base ≤ k ∧ k < w.heap.size := World.ownsRow.lt h
/-- An argument's elements, seen while a row of the call's own grows. -/
theorem ReAt.beside {w wr : World} {X : Nat → Prop} {v : Value} {r : Re} {b : Nat} {bs : List Nat} (h : ReAt w X r b) (hb : Below w.heap.size w wr) (ho : OwnP wr w.heap.size v bs) : ReAt wr (Xo X v) r b :=
  (h.also (fun k hk hlt => hk.resolve_right (fun e => by have := (ho.lt k e).1; omega))).under hb
theorem Els.beside {w wr : World} {X : Nat → Prop} {v : Value} {rs : List Re} {cs bs : List Nat} (h : Els w X rs cs) (hb : Below w.heap.size w wr) (ho : OwnP wr w.heap.size v bs) : Els wr (Xo X v) rs cs :=
  ⟨h.1, fun i r b h1 h2 => (h.2 i r b h1 h2).beside hb ho⟩
theorem below_app {w wr w2 : World} {v : Value} {bs : List Nat} (hb : Below w.heap.size w wr) (ho : OwnP wr w.heap.size v bs) (hg : wr.grownBy w2 v.ownBlock) : Below w.heap.size w w2 :=
  hb.grown hg hb.size (fun k hk => (ho.lt k hk).1)

theorem flatL_snoc (o : Nat) (l : List Re) (r : Re) : flatL o (l ++ [r]) = flatL o l ++ flat1 o r := by simp [flatL]

theorem flatL_take_le (o : Nat) (l : List Re) (k : Nat) : (flatL o (l.take k)).length ≤ (flatL o l).length := by
  have : flatL o l = flatL o (l.take k) ++ flatL o (l.drop k) := by
    unfold flatL; rw [← List.flatMap_append, List.take_append_drop]
  rw [this, List.length_append]
  omega
theorem Rd.one_new (w : World) (b : Nat) (T : TypeId) : Rd (w.alloc (.cells #[.pointer (some ⟨b, 0, none⟩)] T)) (some ⟨w.heap.size, 0, none⟩) 1 ([b].map ptr) :=
  ⟨rfl, fun _ => ⟨w.heap.size, 0, rfl, by simp, fun j u hj => by
    match j, hj with
    | 0, hj => simp at hj; subst hj; exact cell0_new _ _ _⟩⟩

set_option maxHeartbeats 1000000 in
theorem flat_any (o : Nat) (A : Option Addr) (n c : Nat) (rs : List Re) (bs : List Nat) (X : Nat → Prop) (w : World) (hrow : ReRow w X A n rs bs) (hn : n ≤ 1099511627776) (hlen : (flatL o rs).length ≤ 1099511627776) :
    Calls Tryd.prog 58 #[.int .i64 (o : Int), .slice A n c] w (RetRow w X (flatL o rs)) := by
  have HROW := hid hrow
  have hrl := hrow.length.1
  clear hrow
  go_enter Tryd.func58, Tryd.ntmps58
  go_wp2_with fail
  go_loopw [5, 10] (fun v i wr => ∃ (k : Nat) (cs : List Nat), k ≤ n ∧ i = .int .i64 k ∧ OwnP wr w.heap.size v cs ∧ Els wr (Xo X v) (flatL o (rs.take k)) cs ∧ Below w.heap.size w wr) (fun _ i _ => n - (intOf i).toNat)
  case atStart => exact ⟨0, [], Nat.zero_le _, rfl, OwnP.nil _ _, by simpa [flatL] using Els.nil, Below.refl _ _⟩
  case round =>
    obtain ⟨k, cs, hk, rfl, hown, hels, hbel⟩ := hrel
    have HO := hid hown
    have HE := hid hels
    have HB := hid hbel
    have hsz0 : w.heap.size ≤ wr.heap.size := hbel.size
    have hcl : cs.length = (flatL o (rs.take k)).length := hels.1.symm
    clear hown hels
    by_cases hlt : k < n
    · obtain ⟨g, of, r, b, rfl, hcell, hkr, hkb, hat, hg⟩ := HROW.out.at_ hlt
      have hc1 := (hbel.cell (p := ⟨g, of + k, none⟩) hg).trans hcell
      obtain ⟨A', c', bs', hkc, hcap, hkids⟩ := hat.row
      obtain ⟨k0, -, -, -, -, k5, -⟩ := cellsOf (blk_below hkc hbel (w' := wr)) 
      have hsn : rs.take (k + 1) = rs.take k ++ [r] := by
        obtain ⟨hl, e⟩ := List.getElem?_eq_some_iff.1 hkr
        rw [List.take_succ_eq_append_getElem hl, e]
      have hle : (flatL o (rs.take (k + 1))).length ≤ 1099511627776 := Nat.le_trans (flatL_take_le o rs (k + 1)) hlen
      rw [hsn, flatL_snoc, List.length_append] at hle
      have HAT := hid (hat.beside hbel HO.out)
      by_cases hop : r.op = o
      · have hb : ((r.op : Int) == (o : Int)) = true := by rw [op_beq]; simp [hop]
        have hf1 : flat1 o r = r.kids := by unfold flat1; rw [if_pos hop]
        rw [hf1] at hle
        have HSN : Hid (flatL o (rs.take (k + 1)) = flatL o (rs.take k) ++ r.kids) := by rw [hsn, flatL_snoc, hf1]; rfl
        have hrd := hid ((hkids.below hbel).1)
        have hkl := hkids.length.2
        have HK := hid (hkids.2.1.beside hbel HO.out)
        have HC := hid hcap.2
        have hbnd : cs.length + bs'.length ≤ 1099511627776 := by omega
        clear hsn hf1 hop hkc hcell hkr hkb hat hkids hcap hbel hle hcl hkl
        go_wp2_with (at_builtin; refine wpList_app_ptr _ rfl (.tmp 32) (.tmp 36) rfl w.heap.size _ cs rfl HO.out A' r.kids.length c' bs' rfl hrd.out HC.out hbnd hsz0 ?_; intro v' w2 ho2 hg2 hat2; have HO2 := hid ho2; have HG2 := hid hg2; have HT2 := hid hat2; clear ho2 hg2 hat2)
        go_roundw
        case rel => exact ⟨k + 1, cs ++ bs', by omega, by go_num, HO2.out, by rw [HSN.out]; exact (HE.out.append HK.out).grown HG2.out HT2.out, below_app HB.out HO.out HG2.out⟩
        case measure => simp [intOf]; omega
      · have hb : ((r.op : Int) == (o : Int)) = false := by rw [op_beq]; simp [hop]
        have hf1 : flat1 o r = [r] := by unfold flat1; rw [if_neg hop]
        rw [hf1] at hle
        have HSN : Hid (flatL o (rs.take (k + 1)) = flatL o (rs.take k) ++ [r]) := by rw [hsn, flatL_snoc, hf1]; rfl
        have hbnd : cs.length + [b].length ≤ 1099511627776 := by simp at hle ⊢; omega
        clear hsn hf1 hop hkc hcell hkr hkb hat hkids hcap hbel hle hcl
        go_wp2_with (at_builtin; refine wpList_app_ptr _ rfl (.tmp 14) (.tmp 16) rfl w.heap.size _ cs rfl (HO.out.alloc _) (some ⟨wr.heap.size, 0, none⟩) 1 1 [b] rfl (Rd.one_new _ _ _) (fun h => by cases h) hbnd (le_alloc hsz0 _) ?_; intro v' w2 ho2 hg2 hat2; have HO2 := hid ho2; have HG2 := hid hg2; have HT2 := hid hat2; clear ho2 hg2 hat2)
        go_roundw
        case rel => exact ⟨k + 1, cs ++ [b], by omega, by go_num, HO2.out, by rw [HSN.out]; exact ((HE.out.alloc _).append (Els.one HAT.out |>.alloc _)).grown HG2.out HT2.out, below_app (HB.out.alloc HB.out.size _) (HO.out.alloc _) HG2.out⟩
        case measure => simp [intOf]; omega
    · have hkn : k = n := by omega
      subst hkn
      have HT : Hid (rs.take k = rs) := List.take_of_length_le (by omega)
      clear hcl hbel
      go_wp2_with fail
      go_ret
      exact ⟨_, cs, rfl, HO.out, by have := HE.out; rw [HT.out] at this; exact this, HB.out⟩
end Go.Proofs.YtihloigpdcinkaaDoor
