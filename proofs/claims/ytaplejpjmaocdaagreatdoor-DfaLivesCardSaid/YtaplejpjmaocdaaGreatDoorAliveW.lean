/- The walks of Dfa.alive, Dfa.Live. -/
import Derived.Test.YtaplejpjmaocdaaGreatDoorOnceW
import Derived.Test.YtaplejpjmaocdaaGreatDoorDfaW
namespace Go.Proofs.YtaplejpjmaocdaaGreatDoor
open Go.RowKit Go.Maps

/-- What holds at the loops' heads. -/
structure AI (w wr : World) (D g n c : Nat) (l : Nat → Bool) : Prop where
  bits : Bits1 wr g n l
  kp : KeepX (fun k => k = D) w wr
  cell : ∀ i, i ≠ 262 → wr.cell? ⟨D, i, none⟩ = w.cell? ⟨D, i, none⟩
  fz : ∀ i, wr.frozen? ⟨D, i, none⟩ = w.frozen? ⟨D, i, none⟩
  lv : wr.cell? ⟨D, 262, none⟩ = some (.slice (some ⟨g, 0, none⟩) n c)
  og : w.heap.size ≤ g
  lt : D < w.heap.size
theorem AI.put {w wr : World} {D g n c p : Nat} {l : Nat → Bool} (h : AI w wr D g n c l) (hp : p < n) : AI w (wr.setCell ⟨g, p, none⟩ (.bool true)) D g n c (bput l p) :=
  have hne : ∀ i, (⟨g, p, none⟩ : Addr) ≠ ⟨D, i, none⟩ := fun i e => by have := h.og; have := h.lt; have := congrArg Addr.block e; simp at this; omega
  { bits := h.bits.put hp
    kp := (h.kp.trans (KeepX.set_ (X := fun k => k = D ∨ w.heap.size ≤ k) wr ⟨g, p, none⟩ (.bool true) (.inr h.og)) fun j hj e => e.resolve_right (by omega))
    cell := fun i hi => (World.cell?_setCell_other wr ⟨g, p, none⟩ ⟨D, i, none⟩ _ (hne i)).trans (h.cell i hi)
    fz := fun i => by rw [← h.fz i]; simp
    lv := (World.cell?_setCell_other wr ⟨g, p, none⟩ ⟨D, 262, none⟩ _ (hne 262)).trans h.lv
    og := h.og, lt := h.lt }
theorem suc_at {nx : List (List Nat)} {q j to : Nat} {row : List Nat} (hr : nx[q]? = some row) (hj : row[j]? = some to) : Suc nx q to := ⟨row, hr, List.mem_of_getElem? hj⟩
abbrev yB (ys : List Bool) (q : Nat) : Bool := ys.getD q false
/-- What a call of alive comes to. -/
def AliveRet (w : World) (D : Nat) (nx : List (List Nat)) (ys : List Bool) (w' : World) : Prop := ∃ g c l, AI w w' D g ys.length c l ∧ ∀ q, q < ys.length → (l q = true ↔ Liv nx (yB ys) q)
theorem blk_same {w w' : World} {g : Nat} (h : w'.heap[g]? = w.heap[g]?) (i : Nat) : w'.cell? ⟨g, i, none⟩ = w.cell? ⟨g, i, none⟩ := by
  unfold World.cell?
  rw [h]
open Classical in
set_option maxRecDepth 100000 in
set_option maxHeartbeats 4000000 in
theorem alive_any (D m : Nat) (vn vy : Value) (gs : List Nat) (nx : List (List Nat)) (ys : List Bool) (w : World) (hlt : D < w.heap.size) (k7 : w.cell? ⟨D, 257, none⟩ = some vn) (k8 : w.cell? ⟨D, 258, none⟩ = some vy) (x9 : Value) (k9 : w.cell? ⟨D, 262, none⟩ = some x9) (f9 : w.frozen? ⟨D, 262, none⟩ = false)
    (hn : RdV w vn (rowVs m gs)) (hy : RdV w vy (ys.map Value.bool)) (n7 : vn.ownBlock ≠ some D) (n8 : vy.ownBlock ≠ some D) (hgl : gs.length = nx.length) (hlen : nx.length = ys.length) (hpos : 0 < ys.length) (hsm : ys.length ≤ 1000000) (hm : m ≤ 256)
    (hrow : ∀ (i g : Nat) (row : List Nat), gs[i]? = some g → nx[i]? = some row → w.heap[g]? = some (.cells (rowA m row) 3 (0, 0)) ∧ row.length = m) (hgd : ∀ g ∈ gs, g ≠ D) (hto : ∀ q to, Suc nx q to → to < ys.length) :
    Calls Tryz.prog 83 #[ptr D] w fun e w' => e = .returned (.tuple #[]) ∧ AliveRet w D nx ys w' := by
  obtain ⟨A, c, hvy, hrd, -⟩ := hy
  rw [List.length_map] at hvy hrd
  obtain ⟨gy, oy, rfl, -, hcy⟩ := hrd.2 hpos
  subst hvy
  obtain ⟨An, cn, hvn, hrn, -⟩ := hn
  have hvl : (rowVs m gs).length = ys.length := by unfold rowVs; rw [List.length_map, hgl, hlen]
  rw [hvl] at hvn hrn
  subst hvn
  obtain ⟨gn, on, rfl, hgn, hcn⟩ := hrn.2 hpos
  obtain ⟨i0, hi, hz0, hz1, hz2⟩ := info_parts one_bool.info
  obtain ⟨n, hn⟩ : ∃ n, n = ys.length := ⟨_, rfl⟩
  have HADD : Hid (∀ j u, (ys.map Value.bool)[j]? = some u → w.cell? ((⟨gy, oy, none⟩ : Addr).add j) = some u) := hid (fun j u hu => by
    have := hcy j u hu
    unfold Addr.add
    split
    · next h0 => rw [show j = 0 from h0, Nat.add_zero] at this; exact this
    · exact this)
  have HONE : Hid (∀ u ∈ ys.map Value.bool, u.oneCell' = true) := hid (fun u hu => by
    obtain ⟨x, -, rfl⟩ := List.mem_map.1 hu
    rfl)
  have HLL : Hid ((ys.map Value.bool).length = n * 1) := hid (by rw [List.length_map, hn, Nat.mul_one])
  have HROW := hid hrow
  have HTO := hid hto
  have HGL : Hid (gs.length = n) := hid (by rw [hgl, hlen, hn])
  have HNL : Hid (nx.length = n) := hid (by rw [hlen, hn])
  have HGN : Hid (gn ≠ D) := hid (fun e => n7 (by rw [e]; rfl))
  have HGD := hid hgd
  have HCN : Hid (∀ j g, gs[j]? = some g → w.cell? ⟨gn, on + j, none⟩ = some (.slice (some ⟨g, 0, none⟩) m m)) := hid (fun j g hj => hcn j _ (by unfold rowVs; rw [List.getElem?_map, hj]; rfl))
  have HGNL := hid hgn
  have HLT := hid hlt
  -- the new row
  have HO : Hid (∀ v' w', w'.ownsRow w.heap.size 4 1 v' (0 + n) ([] ++ ys.map Value.bool) → w.grownBy w' none → ∃ g c', v' = .slice (some ⟨g, 0, none⟩) n c' ∧ Bits1 w' g n (yB ys) ∧ w.heap.size ≤ g ∧ Below w.heap.size w w') := hid (fun v' w' hy hg => by
    rw [Nat.zero_add, List.nil_append] at hy
    rcases hy.2 with ⟨h1, h2⟩ | ⟨g, cap, cur, h1, hb, hh, hc1, hc2, hs, ht⟩
    · omega
    · refine ⟨g, cap, h1, ⟨lt_of_heap hh, fun q hq => ?_, fun q => blk_free hh q⟩, hb, below_none hg⟩
      rw [blk_cell hh q, ← Array.getElem?_toList]
      have h3 : (cur.toList.take (n * 1))[q]? = cur.toList[q]? := by rw [List.getElem?_take, if_pos (by omega)]
      rw [← h3, ht, List.getElem?_map]
      have hq' : q < ys.length := by omega
      rw [List.getElem?_eq_getElem hq', Option.map_some]
      unfold yB
      rw [List.getD_eq_getElem?_getD, List.getElem?_eq_getElem hq']
      rfl)
  unfold AliveRet
  rw [← hn] at k7 k8 hpos hsm HTO ⊢
  have HYB : Hid (∀ q, q < n → yB ys q = true → yB ys q = true) := hid (fun q _ h => h)
  generalize yB ys = yes at *
  clear hcy hrd hrn hcn hrow hto hgd hn n7 n8 hgl hlen hvl HYB
  unfold ptr
  go_enter Tryz.func83, Tryz.ntmps83
  go_wp2_with (at_builtin; refine wpList_append_own_at _ rfl (.const (.slice none 0 0)) (.tmp 11) 65 rfl w.heap.size 4 i0 (.bool false) 1 1 one_bool.und hi hz0 hz1 hz2 one_bool.cell (by decide) (.slice none 0 0) _ _ rfl (World.ownsRow_nil _ _ _ 1) ⟨gy, oy, none⟩ n c (ys.map Value.bool) rfl HLL.out HADD.out HONE.out (by unfold maxLen; omega) (by omega) (Nat.le_refl _) ?_; intro v1 w1 hy1 hg1 _ _; obtain ⟨g, c1, e1, r1, r2, r3⟩ := HO.out v1 w1 hy1 hg1; subst e1; have HR1 := hid r1; have HR2 := hid r2; have HR3 := hid r3; have k9' := (r3.cell (p := ⟨D, 262, none⟩) HLT.out).trans k9; have f9' := ((bcell r3).2 D 262 HLT.out).trans f9; clear hy1 hg1 r1 r2 r3)
  have HAI0 : Hid (AI w (w1.setCell ⟨D, 262, none⟩ (.slice (some ⟨g, 0, none⟩) n c1)) D g n c1 yes) := hid
    { bits := HR1.out.far _ _ (by show g ≠ D; have := HR2.out; omega)
      kp := (KeepX.of_below (X := fun k => k = D) HR3.out).trans (KeepX.set_ (X := fun k => k = D) w1 ⟨D, 262, none⟩ _ rfl) fun _ _ e => e
      cell := fun i hi => (World.cell?_setCell_other w1 ⟨D, 262, none⟩ ⟨D, i, none⟩ _ (fun e => hi (congrArg Addr.off e).symm)).trans (HR3.out.cell (p := ⟨D, i, none⟩) hlt)
      fz := fun i => by rw [← (bcell HR3.out).2 D i hlt]; simp
      lv := World.cell?_setCell_same w1 _ _ k9'
      og := HR2.out, lt := hlt }
  have HA0 : Hid (∃ l, AI w (w1.setCell ⟨D, 262, none⟩ (.slice (some ⟨g, 0, none⟩) n c1)) D g n c1 l ∧ SndL nx yes n l) := hid ⟨_, HAI0.out, fun q _ h => .here q h, fun q _ h => h⟩
  have HK7 : Hid (∀ wr l, AI w wr D g n c1 l → wr.cell? ⟨D, 257, none⟩ = some (.slice (some ⟨gn, on, none⟩) n cn)) := hid (fun wr l h => (h.cell 257 (by omega)).trans k7)
  have HCR : Hid (∀ wr l j gj row, AI w wr D g n c1 l → gs[j]? = some gj → nx[j]? = some row → wr.cell? ⟨gn, on + j, none⟩ = some (.slice (some ⟨gj, 0, none⟩) m m) ∧ ∀ i to, row[i]? = some to → wr.cell? ⟨gj, i, none⟩ = some (.int .i64 (to : Nat))) := hid (fun wr l j gj row h hj hr => by
    have h1 := HCN.out j gj hj
    obtain ⟨h2, h3⟩ := HROW.out j gj row hj hr
    refine ⟨(blk_same (h.kp.blk gn HGNL.out HGN.out) _).trans h1, fun i to hi => ?_⟩
    have h4 : wr.heap[gj]? = some (.cells (rowA m row) 3 (0, 0)) := (h.kp.blk gj (lt_of_heap h2) (HGD.out gj (List.mem_of_getElem? hj))).trans h2
    rw [blk_cell h4 i, rowA_get (List.getElem?_eq_some_iff.1 hi).1, List.getD_eq_getElem?_getD, hi]
    rfl)
  clear HAI0 HR1 HR2 HR3 HO HADD HONE HLL k9' f9' hi hz0 hz1 hz2 k7 k8 k9 f9
  go_loopw [2] (fun bv wr => ∃ b : Bool, bv = .bool b ∧ Hid (∃ l, AI w wr D g n c1 l ∧ SndL nx yes n l ∧ (b = false → CloL nx n l fun q _ => q < n))) (fun bv wr => left1 g n wr + (if bv = .bool true then 1 else 0))
  case atStart =>
    obtain ⟨l, h1, h2⟩ := HA0.out
    exact ⟨true, rfl, l, h1, h2, fun e => by cases e⟩
  case round =>
    obtain ⟨b, rfl, hin⟩ := hrel
    obtain ⟨l0, hai, hsnd, hclo⟩ := hin.out
    obtain ⟨ws, hws⟩ : ∃ W : World, W = wr := ⟨_, rfl⟩
    subst hws
    have HAI := hid hai
    have HSND := hid hsnd
    have HCLO := hid hclo
    clear hin hai hsnd hclo
    cases b
    · have HDN := hid (HSND.out.done (HCLO.out rfl) fun q to _ hs => HTO.out q to hs)
      go_wp2_with fail
      go_end0
      exact ⟨rfl, g, c1, l0, HAI.out, HDN.out⟩
    · have HLM := hid HAI.out.bits.left_eq
      obtain ⟨k0, hk0⟩ : ∃ k0, k0 = falses1 n l0 := ⟨_, rfl⟩
      rw [← hk0] at HLM
      have HR0 : Hid (∃ l, AI w ws D g n c1 l ∧ LRI nx yes n k0 l false (BefL 0 0)) := hid ⟨l0, HAI.out, LRI.start HSND.out hk0.symm fun q j row to _ _ _ h => by omega⟩
      have k7' := HK7.out _ _ HAI.out
      clear HAI HSND HCLO hk0
      go_wp2_with fail
      go_loopw [2, 21] (fun bv qv wr => ∃ (b : Bool) (q : Nat), q ≤ n ∧ bv = .bool b ∧ qv = .int .i64 q ∧ Hid (∃ l, AI w wr D g n c1 l ∧ LRI nx yes n k0 l b (BefL q 0))) (fun _ qv _ => n - (intOf qv).toNat)
      case atStart => exact ⟨false, 0, Nat.zero_le _, rfl, rfl, HR0.out⟩
      case round =>
        obtain ⟨b, q, hq, rfl, rfl, hin2⟩ := hrel
        obtain ⟨w4, hw4⟩ : ∃ W : World, W = wr := ⟨_, rfl⟩
        subst hw4
        by_cases hlt4 : q < n
        · obtain ⟨gj, hgj⟩ : ∃ gj, gs[q]? = some gj := ⟨_, List.getElem?_eq_getElem (by rw [HGL.out]; exact hlt4)⟩
          obtain ⟨row, hrw⟩ : ∃ row, nx[q]? = some row := ⟨_, List.getElem?_eq_getElem (by rw [HNL.out]; exact hlt4)⟩
          have HGJ := hid hgj
          have HRW := hid hrw
          have hml : row.length = m := (HROW.out q gj row hgj hrw).2
          have HML := hid hml
          have x1 : w4.cell? ⟨gn, on + q, none⟩ = some (.slice (some ⟨gj, 0, none⟩) m m) := by
            obtain ⟨l, h1, -⟩ := hin2.out
            exact (HCR.out _ _ _ _ _ h1 hgj hrw).1
          have HI4 := hin2
          clear hin2 hgj hrw hml
          go_wp2_with fail
          go_loopw [2, 28] (fun bv jv wr => ∃ (b : Bool) (j : Nat), j ≤ m ∧ bv = .bool b ∧ jv = .int .i64 j ∧ Hid (∃ l, AI w wr D g n c1 l ∧ LRI nx yes n k0 l b (BefL q j))) (fun _ jv _ => m - (intOf jv).toNat)
          case atStart => exact ⟨b, 0, Nat.zero_le _, rfl, rfl, HI4.out⟩
          case round =>
            obtain ⟨b, j, hj, rfl, rfl, hin3⟩ := hrel
            obtain ⟨w5, hw5⟩ : ∃ W : World, W = wr := ⟨_, rfl⟩
            subst hw5
            by_cases hlt5 : j < m
            · obtain ⟨l, hai, hri⟩ := hin3.out
              obtain ⟨to, hto⟩ : ∃ to, row[j]? = some to := ⟨_, List.getElem?_eq_getElem (by rw [HML.out]; exact hlt5)⟩
              have htn := HTO.out q to (suc_at HRW.out hto)
              have y1 := (HCR.out _ _ _ _ _ hai HGJ.out HRW.out).2 j to hto
              have y2 := hai.lv
              have y3 := hai.bits.cell q hlt4
              have y4 := hai.bits.cell to htn
              have y5 := hai.bits.free q
              have HSTAY := hid (fun h => (hri.stay HRW.out hto h).mono (Q := BefL q (j + 1)) fun q' j' row' to' _ _ _ h => by omega)
              have HPUT := hid (fun h h' => (⟨hai.put hlt4, hri.put (Q := BefL q (j + 1)) hlt4 htn HRW.out hto h h'⟩ : AI w (w5.setCell ⟨g, q, none⟩ (.bool true)) D g n c1 (bput l q) ∧ _))
              have HAI5 := hid hai
              obtain ⟨b1, hb1⟩ : ∃ b, b = l q := ⟨_, rfl⟩
              obtain ⟨b2, hb2⟩ : ∃ b, b = l to := ⟨_, rfl⟩
              rw [← hb1] at y3 HSTAY HPUT
              rw [← hb2] at y4 HSTAY HPUT
              have i1 : (q : Int) < (n : Int) := by omega
              have i2 : (to : Int) < (n : Int) := by omega
              clear hin3 hai hri hto hb1 hb2
              cases b1 <;> cases b2
              all_goals
                go_wp2_with fail
                go_roundw
                case rel => first | exact ⟨b, j + 1, by omega, rfl, by go_num, l, HAI5.out, HSTAY.out (fun e => by first | exact e | rfl)⟩ | exact ⟨true, j + 1, by omega, rfl, by go_num, _, (HPUT.out rfl rfl).1, (HPUT.out rfl rfl).2⟩
                case measure => simp [intOf]; omega
            · have HI5 := hin3
              clear hin3
              go_wp2_with fail
              go_roundw
              case rel =>
                obtain ⟨l, h1, h2⟩ := HI5.out
                exact ⟨b, q + 1, by omega, rfl, by go_num, l, h1, h2.mono fun q' j' row' to' _ h3 h4 h => by
                  have h5 := (List.getElem?_eq_some_iff.1 h4).1
                  by_cases e : q' = q
                  · subst e
                    rw [HRW.out] at h3
                    cases h3
                    have := HML.out
                    omega
                  · omega⟩
              case measure => simp [intOf]; omega
        · have HI4 := hin2
          have HQN : Hid (n ≤ q) := hid (by omega)
          clear hin2
          go_wp2_with fail
          go_roundw
          case rel =>
            obtain ⟨l, h1, h2⟩ := HI4.out
            exact ⟨b, rfl, l, h1, h2.snd, fun e q' j' row' to' hP hq' h3 h4 h5 => h2.no e q' j' row' to' (.inl (by have := HQN.out; omega)) hq' h3 h4 h5⟩
          case measure =>
            obtain ⟨l, h1, h2⟩ := HI4.out
            have e1 := h1.bits.left_eq
            have e2 := HLM.out
            have h3 := h2.le
            cases b
            · simp; omega
            · have := h2.yes_ rfl
              simp; omega
end Go.Proofs.YtaplejpjmaocdaaGreatDoor
