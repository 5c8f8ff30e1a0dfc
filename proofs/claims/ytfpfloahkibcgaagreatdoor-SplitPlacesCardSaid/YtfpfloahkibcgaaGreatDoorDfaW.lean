/- The walks of a Dfa's answers: Len, has, Step, Yes, Run, Match, Heads. -/
import Derived.Test.YtfpfloahkibcgaaGreatDoorRowW
namespace Go.Proofs.YtfpfloahkibcgaaGreatDoor
open Go.RowKit Go.Maps

/-- Where a byte leads to. -/
def stepD (F : Nat → Nat) (nx : List (List Nat)) (q : Int) (b : Nat) : Int := if 0 ≤ q ∧ q < nx.length then (((nx.getD q.toNat []).getD (F b) 0 : Nat) : Int) else -1
def yesD (ys : List Bool) (q : Int) : Bool := decide (0 ≤ q ∧ q < ys.length) && ys.getD q.toNat false
def runD (F : Nat → Nat) (nx : List (List Nat)) (q : Int) (l : List UInt8) : Int := l.foldl (fun q b => stepD F nx q b.toNat) q
/-- A Dfa whose rows fit. -/
structure DOk (F : Nat → Nat) (hs : List Nat) (nx : List (List Nat)) (ys : List Bool) : Prop where
  len : nx.length = ys.length
  row : ∀ row ∈ nx, row.length = hs.length
  at_ : ∀ b, b < 256 → F b < hs.length
  small : ys.length ≤ 1000000
set_option maxRecDepth 100000 in
theorem dlen_any (D : Nat) (F : Nat → Nat) (hs : List Nat) (nx : List (List Nat)) (ys : List Bool) (w : World) (h : DfaAt w D F hs nx ys) :
    Calls Tryz.prog 117 #[ptr D] w fun e w' => e = .returned (.int .i64 (ys.length : Int)) ∧ w = w' := by
  obtain ⟨vh, vn, vy, gs, hD, -, -, ⟨A, c, hvy, -, -⟩, -, -⟩ := h
  have k1 := hD.k8
  rw [hvy, List.length_map] at k1
  clear hD hvy
  unfold ptr
  go_enter Tryz.func117, Tryz.ntmps117
  go_wp2_with fail
  go_ret
  exact ⟨rfl, rfl⟩
set_option maxRecDepth 100000 in
theorem dhas_any (D : Nat) (q : Int) (F : Nat → Nat) (hs : List Nat) (nx : List (List Nat)) (ys : List Bool) (w : World) (h : DfaAt w D F hs nx ys) :
    Calls Tryz.prog 144 #[ptr D, .int .i64 q] w fun e w' => e = .returned (.bool (decide (0 ≤ q ∧ q < ys.length))) ∧ w = w' := by
  have HL := hid (dlen_any D F hs nx ys w h)
  clear h
  generalize ys.length = n at *
  by_cases h0 : 0 ≤ q
  · have e0 : decide (0 ≤ q) = true := decide_eq_true h0
    have e2 : decide (0 ≤ q ∧ q < n) = decide (q < n) := by simp [h0]
    rw [e2]
    unfold ptr at *
    go_enter Tryz.func144, Tryz.ntmps144
    go_wp2_with (go_at_call 117; refine HL.out.mono ?_; rintro e w2 ⟨rfl, rfl⟩)
    go_ret
    exact ⟨rfl, rfl⟩
  · have e0 : decide (0 ≤ q) = false := decide_eq_false h0
    have e2 : decide (0 ≤ q ∧ q < n) = false := by simp [h0]
    rw [e2]
    unfold ptr at *
    go_enter Tryz.func144, Tryz.ntmps144
    go_wp2_with fail
    go_ret
    exact ⟨rfl, rfl⟩
set_option maxRecDepth 100000 in
theorem dyes_any (D : Nat) (q : Int) (F : Nat → Nat) (hs : List Nat) (nx : List (List Nat)) (ys : List Bool) (w : World) (h : DfaAt w D F hs nx ys) :
    Calls Tryz.prog 114 #[ptr D, .int .i64 q] w fun e w' => e = .returned (.bool (yesD ys q)) ∧ w = w' := by
  have HH := hid (dhas_any D q F hs nx ys w h)
  obtain ⟨vh, vn, vy, gs, hD, -, -, ⟨A, c, hvy, hrd, -⟩, -, -⟩ := h
  have k1 := hD.k8
  rw [List.length_map] at hvy hrd
  rw [hvy] at k1
  clear hD hvy
  unfold yesD
  by_cases hq : 0 ≤ q ∧ q < ys.length
  · obtain ⟨k, rfl⟩ : ∃ k : Nat, q = k := ⟨q.toNat, by omega⟩
    have hk : k < ys.length := by omega
    obtain ⟨g, o, rfl, -, hc⟩ := hrd.2 (by omega)
    have k2 := hc k (.bool (ys.getD k false)) (by rw [List.getElem?_map, List.getD_eq_getElem?_getD, List.getElem?_eq_getElem hk]; rfl)
    rw [decide_eq_true hq] at HH ⊢
    rw [show ((k : Int)).toNat = k from rfl, Bool.true_and]
    generalize ys.getD k false = y at *
    clear hc hrd hq
    unfold ptr at *
    go_enter Tryz.func114, Tryz.ntmps114
    go_wp2_with (go_at_call 144; refine HH.out.mono ?_; rintro e w2 ⟨rfl, rfl⟩)
    go_ret
    exact ⟨rfl, rfl⟩
  · rw [decide_eq_false hq] at HH ⊢
    rw [Bool.false_and]
    clear hrd hq
    unfold ptr at *
    go_enter Tryz.func114, Tryz.ntmps114
    go_wp2_with (go_at_call 144; refine HH.out.mono ?_; rintro e w2 ⟨rfl, rfl⟩)
    go_ret
    exact ⟨rfl, rfl⟩
set_option maxRecDepth 100000 in
set_option maxHeartbeats 1000000 in
theorem dstep_any (D : Nat) (q : Int) (b : Nat) (hb : b < 256) (F : Nat → Nat) (hs : List Nat) (nx : List (List Nat)) (ys : List Bool) (hok : DOk F hs nx ys) (w : World) (h : DfaAt w D F hs nx ys) :
    Calls Tryz.prog 115 #[ptr D, .int .i64 q, .int .u8 b] w fun e w' => e = .returned (.int .i64 (stepD F nx q b)) ∧ Below w.heap.size w w' := by
  have HH := hid (dhas_any D q F hs nx ys w h)
  obtain ⟨vh, vn, vy, gs, hD, -, ⟨A, c, hvn, hrd, -⟩, -, hgl, hrow⟩ := h
  have k1 := hD.k7
  have k0 := hD.kb b hb
  have hnl : (rowVs hs.length gs).length = ys.length := by unfold rowVs; rw [List.length_map, hgl, hok.len]
  rw [hnl] at hvn hrd
  rw [hvn] at k1
  clear hD hvn
  unfold stepD
  rw [hok.len]
  have hFb := hok.at_ b hb
  by_cases hq : 0 ≤ q ∧ q < ys.length
  · obtain ⟨k, rfl⟩ : ∃ k : Nat, q = k := ⟨q.toNat, by omega⟩
    have hk : k < ys.length := by omega
    have hgk : k < gs.length := by rw [hgl, hok.len]; exact hk
    obtain ⟨g, o, rfl, -, hc⟩ := hrd.2 (by omega)
    have hxk : nx[k]? = some (nx.getD k []) := by rw [List.getD_eq_getElem?_getD, List.getElem?_eq_getElem (by rw [hok.len]; exact hk)]; rfl
    have k2 := hc k (.slice (some ⟨gs[k], 0, none⟩) hs.length hs.length) (by unfold rowVs; rw [List.getElem?_map, List.getElem?_eq_getElem hgk]; rfl)
    obtain ⟨hr1, hr2⟩ := hrow k gs[k] _ (List.getElem?_eq_getElem hgk) hxk
    have k3 := (blk_cell hr1 (F b)).trans (rowA_get (by omega))
    rw [decide_eq_true hq] at HH
    rw [if_pos hq, show ((k : Int)).toNat = k from rfl]
    have hn := hok.small
    generalize (nx.getD k []).getD (F b) 0 = to at *
    generalize gs[k] = g2 at *
    generalize F b = f at *
    clear hc hrd hq hr1 hr2 hxk hnl hok hgk hgl hrow
    unfold ptr at *
    go_enter Tryz.func115, Tryz.ntmps115
    go_wp2_with (go_at_call 144; refine HH.out.mono ?_; rintro e w2 ⟨rfl, rfl⟩)
    go_region
    go_wp2_with fail
    go_ret
    exact ⟨rfl, below_drewN _ _ 1⟩
  · rw [decide_eq_false hq] at HH
    rw [if_neg hq]
    clear hrd hq hrow hgl hnl
    unfold ptr at *
    go_enter Tryz.func115, Tryz.ntmps115
    go_wp2_with (go_at_call 144; refine HH.out.mono ?_; rintro e w2 ⟨rfl, rfl⟩)
    go_ret
    exact ⟨rfl, Below.refl _ _⟩
theorem runD_take (F : Nat → Nat) (nx : List (List Nat)) (q : Int) {l : List UInt8} {k : Nat} {b : UInt8} (h : l[k]? = some b) : runD F nx q (l.take (k + 1)) = stepD F nx (runD F nx q (l.take k)) b.toNat := by
  unfold runD
  rw [List.take_add_one, h, List.foldl_append]
  rfl
set_option maxRecDepth 100000 in
set_option maxHeartbeats 1000000 in
theorem drun_any (D : Nat) (q : Int) (s : ByteArray) (hs1 : s.size ≤ 1000000) (F : Nat → Nat) (hs : List Nat) (nx : List (List Nat)) (ys : List Bool) (hok : DOk F hs nx ys) (w : World) (h : DfaAt w D F hs nx ys) :
    Calls Tryz.prog 116 #[ptr D, .int .i64 q, .string s] w fun e w' => e = .returned (.int .i64 (runD F nx q s.data.toList)) ∧ Below w.heap.size w w' := by
  have HS := hid (fun (W : World) (hW : Below w.heap.size w W) q b (hb : b < 256) => dstep_any D q b hb F hs nx ys hok W (h.below hW))
  obtain ⟨l, hl⟩ : ∃ l, l = s.data.toList := ⟨_, rfl⟩
  have hlen : l.length = s.size := by rw [hl]; simp
  have HL := hid hl
  have HLEN := hid hlen
  have HT := hid (fun k b (e : l[k]? = some b) => runD_take F nx q e)
  rw [← hl]
  clear h hok hl hlen
  unfold ptr at *
  go_enter Tryz.func116, Tryz.ntmps116
  go_wp2_with fail
  go_loopw [1, 7] (fun p i wr => ∃ k : Nat, k ≤ s.size ∧ i = .int .i64 k ∧ p = .int .i64 (runD F nx q (l.take k)) ∧ Hid (Below w.heap.size w wr)) (fun _ i _ => s.size - (intOf i).toNat)
  case atStart => exact ⟨0, Nat.zero_le _, rfl, rfl, Below.refl _ _⟩
  case round =>
    obtain ⟨k, hk, rfl, rfl, hbel⟩ := hrel
    by_cases hlt : k < s.size
    · have hb : l[k]? = some (s[k]'hlt) := by
        have hkl : k < s.data.toList.length := by simpa using hlt
        rw [HL.out, List.getElem?_eq_getElem hkl]
        rfl
      have HSK := hid (HS.out wr hbel.out (runD F nx q (l.take k)) (s[k]'hlt).toNat (s[k]'hlt).toNat_lt)
      rw [← HT.out k _ hb] at HSK
      clear hb
      go_wp2_with (go_at_call 115; refine HSK.out.mono ?_; rintro e w2 ⟨rfl, h2⟩; have HB2 := hid (hbel.out.trans (h2.mono hbel.out.size)); clear h2)
      go_roundw
      case rel => exact ⟨k + 1, by omega, by go_num, rfl, HB2.out⟩
      case measure => simp [intOf]; omega
    · have hkn : k = s.size := by omega
      subst hkn
      have ht : l.take s.size = l := by rw [← HLEN.out, List.take_length]
      rw [ht]
      go_wp2_with fail
      go_ret
      exact ⟨rfl, hbel.out⟩
set_option maxRecDepth 100000 in
theorem dmatch_any (D : Nat) (s : ByteArray) (hs1 : s.size ≤ 1000000) (F : Nat → Nat) (hs : List Nat) (nx : List (List Nat)) (ys : List Bool) (hok : DOk F hs nx ys) (w : World) (h : DfaAt w D F hs nx ys) :
    Calls Tryz.prog 75 #[ptr D, .string s] w fun e w' => e = .returned (.bool (yesD ys (runD F nx 0 s.data.toList))) ∧ Below w.heap.size w w' := by
  have HR := hid (drun_any D 0 s hs1 F hs nx ys hok w h)
  have HY := hid (fun (W : World) (hW : Below w.heap.size w W) => dyes_any D (runD F nx 0 s.data.toList) F hs nx ys W (h.below hW))
  clear h hok
  unfold ptr at *
  go_enter Tryz.func75, Tryz.ntmps75
  go_wp2_with (first | (go_at_call 116; refine HR.out.mono ?_; rintro e w2 ⟨rfl, h2⟩; have HB2 := hid h2; have HY2 := hid (HY.out w2 h2); clear h2) | (go_at_call 114; refine HY2.out.mono ?_; rintro e w3 ⟨rfl, rfl⟩))
  go_ret
  exact ⟨rfl, HB2.out⟩
/-- What Heads gives. -/
def HeadsRet (w : World) (hs : List Nat) (e : Ending) (w' : World) : Prop := ∃ A c, e = .returned (.slice A hs.length c) ∧ Rd w' A hs.length (u8s hs) ∧ CapOk hs.length A c ∧ Below w.heap.size w w'
/-- .. in memory of its own. -/
def HeadsNew (w : World) (hs : List Nat) (e : Ending) (w' : World) : Prop := ∃ A c, e = .returned (.slice A hs.length c) ∧ Rd w' A hs.length (u8s hs) ∧ CapOk hs.length A c ∧ Below w.heap.size w w' ∧ ∀ g o, A = some ⟨g, o, none⟩ → w.heap.size ≤ g
set_option maxRecDepth 100000 in
theorem dheads_new (D : Nat) (F : Nat → Nat) (hs : List Nat) (nx : List (List Nat)) (ys : List Bool) (hok : DOk F hs nx ys) (hl : hs.length ≤ 256) (w : World) (h : DfaAt w D F hs nx ys) :
    Calls Tryz.prog 118 #[ptr D] w (HeadsNew w hs) := by
  obtain ⟨vh, vn, vy, gs, hD, ⟨A, c, hvh, hrd, -⟩, -, -, -, -⟩ := h
  have k1 := hD.k6
  have hul : (u8s hs).length = hs.length := by simp [u8s]
  have hpos : 0 < hs.length := Nat.lt_of_le_of_lt (Nat.zero_le _) (hok.at_ 0 (by omega))
  rw [hul] at hvh hrd
  rw [hvh] at k1
  obtain ⟨g, o, rfl, -, hc⟩ := hrd.2 hpos
  have HC := hid hc
  have HADD : Hid (∀ j u, (u8s hs)[j]? = some u → w.cell? ((⟨g, o, none⟩ : Addr).add j) = some u) := hid (fun j u hu => by
    have := hc j u hu
    unfold Addr.add
    split
    · next h0 => rw [show j = 0 from h0, Nat.add_zero] at this; exact this
    · exact this)
  have HUL := hid hul
  obtain ⟨i0, hi, hz0, hz1, hz2⟩ := info_parts one_u8.info
  have HO : Hid (∀ v' w', w'.ownsRow w.heap.size 5 1 v' (0 + hs.length) ([] ++ u8s hs) → w.grownBy w' none → ∃ A' c', v' = .slice A' hs.length c' ∧ Rd w' A' hs.length (u8s hs) ∧ CapOk hs.length A' c' ∧ Below w.heap.size w w' ∧ ∀ g o, A' = some ⟨g, o, none⟩ → w.heap.size ≤ g) := hid (fun v' w' hy hg => by
    rw [Nat.zero_add, List.nil_append, ← hul] at hy
    obtain ⟨A', c', e, hr, hcap⟩ := rdV_of (xs := u8s hs) hy
    rw [hul] at e hr hcap
    exact ⟨A', c', e, hr, hcap, below_none hg, fun g o e2 => (World.ownsRow.lt hy g (by rw [e, e2]; rfl)).1⟩)
  have HONE : Hid (∀ u ∈ u8s hs, u.oneCell' = true) := hid (fun u hu => by
    obtain ⟨x, -, rfl⟩ := List.mem_map.1 hu
    rfl)
  clear hD hvh hrd hok hc hul
  unfold ptr
  go_enter Tryz.func118, Tryz.ntmps118
  go_wp2_with (at_builtin; refine wpList_append_own_at _ rfl (.const (.slice none 0 0)) (.tmp 8) 89 rfl w.heap.size 5 i0 (.int .u8 0) 1 1 one_u8.und hi hz0 hz1 hz2 one_u8.cell (by decide) (.slice none 0 0) _ _ rfl (World.ownsRow_nil _ _ _ 1) ⟨g, o, none⟩ hs.length c (u8s hs) rfl (by rw [HUL.out, Nat.mul_one]) HADD.out HONE.out (by unfold maxLen; omega) (by omega) (Nat.le_refl _) ?_; intro v1 w1 hy1 hg1 _ _; obtain ⟨A1, c1, e1, r1, r2, r3, r4⟩ := HO.out v1 w1 hy1 hg1; subst e1; have HR1 := hid r1; have HR2 := hid r2; have HR3 := hid r3; have HR4 := hid r4; clear hy1 hg1 r1 r2 r3 r4)
  go_ret
  exact ⟨A1, c1, rfl, HR1.out, HR2.out, HR3.out, HR4.out⟩
theorem dheads_any (D : Nat) (F : Nat → Nat) (hs : List Nat) (nx : List (List Nat)) (ys : List Bool) (hok : DOk F hs nx ys) (hl : hs.length ≤ 256) (w : World) (h : DfaAt w D F hs nx ys) :
    Calls Tryz.prog 118 #[ptr D] w (HeadsRet w hs) := (dheads_new D F hs nx ys hok hl w h).mono fun e w' hh => by
  obtain ⟨A, c, h1, h2, h3, h4, -⟩ := hh
  exact ⟨A, c, h1, h2, h3, h4⟩
end Go.Proofs.YtfpfloahkibcgaaGreatDoor
