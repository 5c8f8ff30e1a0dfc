/- PkS: ShortW, WitW, OutW, Head7, each with its own sentence. -/
import Derived.Test.YtfpfloahkibcgaaGreatDoorPkR
import Derived.Test.YtfpfloahkibcgaaGreatDoorHead6
/- The walk of auto.Shortest. -/
namespace Go.Proofs.YtfpfloahkibcgaaGreatDoor
open Go.RowKit Go.Maps

theorem conv_heads {w : World} {A : Option Addr} {n c : Nat} {hs : List Nat} (hn : 0 < n) (hl : hs.length = n) (h : Rd w A n (u8s hs)) :
    (convert 89 9 (.slice A n c)).run Tryz.prog w = .ok (.string (strOfNums (hs.map fun (h : Nat) => (h : Int)))) w := by
  obtain ⟨g, o, rfl, -, hc⟩ := h.2 hn
  refine run_convert_bytes_arg w 89 5 Tryz.underlying89 Tryz.underlying5 g o n c _ (by rw [List.length_map, hl]) (fun i hi => ?_) 9 Tryz.underlying9
  have hi2 : i < hs.length := by omega
  rw [hc i (.int .u8 (hs[i] : Nat)) (by unfold u8s; rw [List.getElem?_map, List.getElem?_eq_getElem hi2]; rfl), List.getD_eq_getElem?_getD, List.getElem?_map, List.getElem?_eq_getElem hi2]
  rfl
/-- A byte put ahead of what is there. -/
theorem wpList_ahead {ops : Array Oper} {rest : List Oper} {o : Oper} {a : Act} {Q : Exit → Act → World → Prop} (w : World) (hgd : o.guard = none) (s x : Operand)
    (ho : o.op = .call { callee := .builtin .append, args := #[s, x], argTypes := #[89, 89] })
    (g h : Nat) (hg : w.heap[g]? = some (.cells #[Value.int .u8 (h : Int)] 5 (0, 0))) (hs : a.eval s = .slice (some ⟨g, 0, none⟩) 1 1) (A : Option Addr) (n c : Nat) (os : List Nat) (hx : a.eval x = .slice A n c) (hl : os.length = n)
    (hr : Rd w A n (u8s os)) (h0 : n = 0 → A = none ∧ c = 0) (hn : n ≤ 1000000)
    (K : ∀ (A' : Option Addr) (c' : Nat) (w' : World), Rd w' A' (n + 1) (u8s (h :: os)) → Below g w w' → wpList Tryz.prog ops Q rest (a.put o.dst (.slice A' (n + 1) c')) w') : wpList Tryz.prog ops Q (o :: rest) a w := by
  have hgl := lt_of_heap hg
  have hown : w.ownsRow g 5 1 (.slice (some ⟨g, 0, none⟩) 1 1) 1 [Value.int .u8 (h : Int)] := ⟨rfl, .inr ⟨g, 1, #[Value.int .u8 (h : Int)], rfl, Nat.le_refl _, hg, Nat.le_refl _, by decide, rfl, rfl⟩⟩
  obtain ⟨i0, hi, hz0, hz1, hz2⟩ := info_parts one_u8.info
  by_cases hn0 : n = 0
  · subst hn0
    obtain ⟨rfl, rfl⟩ := h0 rfl
    have hos : os = [] := List.eq_nil_of_length_eq_zero hl
    subst hos
    refine wpList_append_own_none hgd s x 89 ho g 5 i0 1 one_u8.und hi _ 1 _ hs hown hx ?_
    refine K (some ⟨g, 0, none⟩) 1 w ?_ (Below.refl _ _)
    obtain ⟨A', c', e, hr', -⟩ := rdV_of (xs := [Value.int .u8 (h : Int)]) hown
    cases e
    exact hr'
  · obtain ⟨ga, oa, rfl, hga, hc⟩ := hr.2 (by omega)
    have hul : (u8s os).length = n := by simp [u8s, hl]
    refine wpList_append_own_at w hgd s x 89 ho g 5 i0 (.int .u8 0) 1 1 one_u8.und hi hz0 hz1 hz2 one_u8.cell (by decide) _ 1 _ hs hown ⟨ga, oa, none⟩ n c (u8s os) hx (by rw [hul, Nat.mul_one]) (fun j u hu => by
      have := hc j u hu
      unfold Addr.add
      split
      · next e0 => rw [show j = 0 from e0, Nat.add_zero] at this; exact this
      · exact this) (fun u hu => by
      obtain ⟨y, -, rfl⟩ := List.mem_map.1 hu
      rfl) (by unfold maxLen; omega) (by omega) (Nat.le_of_lt hgl) ?_
    intro v' w' hy hgr _ _
    rw [Nat.add_comm 1 n] at hy
    have hlen : ([Value.int .u8 (h : Int)] ++ u8s os).length = n + 1 := by simp [hul]
    rw [← hlen] at hy
    obtain ⟨A', c', e, hr', -⟩ := rdV_of hy
    rw [hlen] at e hr'
    subst e
    exact K A' c' w' hr' (KeepX.below (KeepX.of_grown (X := fun k => k = g) hgr fun k e => by cases e; rfl) (Nat.le_of_lt hgl) fun k hk e => by omega)
theorem strOf_u8s (os : List Nat) : (strOfNums (os.map fun (h : Nat) => (h : Int))).data.toList = os.map UInt8.ofNat := by
  rw [strOfNums_data, List.map_map]
  apply List.map_congr_left
  intro h _
  simp
theorem ownsMap_below {w w' : World} {M n : Nat} {D : DataW Unit} (h : w.ownsMap Tryz.prog 3 fromElem M n D) (hb : Below w.heap.size w w') : w'.ownsMap Tryz.prog 3 fromElem M n D := by
  obtain ⟨es, clock, h1, h2⟩ := h
  exact ⟨es, clock, blk_below h1 hb, h2⟩
theorem from_by (a b : Int) (W : World) : (Instr.field 207 (.agg #[.int .i64 a, .int .u8 b]) 1).run Tryz.prog W = .ok (.int .u8 b) W := by
  have h := Tryz.isAgg5 W
  simp [Instr.field, run_underlying Tryz.underlying207, Result.andThen, asAgg, part, h]
theorem from_state (a b : Int) (W : World) : (Instr.field 207 (.agg #[.int .i64 a, .int .u8 b]) 0).run Tryz.prog W = .ok (.int .i64 a) W := by
  have h := Tryz.isAgg3 W
  simp [Instr.field, run_underlying Tryz.underlying207, Result.andThen, asAgg, part, h]
set_option maxRecDepth 100000 in
set_option maxHeartbeats 4000000 in
theorem shortest_any (D : Nat) (F : Nat → Nat) (hs : List Nat) (nx : List (List Nat)) (ys : List Bool) (hok : DOk F hs nx ys) (hl : hs.length ≤ 256) (h256 : ∀ h ∈ hs, h < 256) (hso : hs.Pairwise (· < ·))
    (hcl : ∀ q b, q < ys.length → b < 256 → dN F nx q b < ys.length) (h1 : 0 < ys.length) (w : World) (h : DfaAt w D F hs nx ys) :
    Calls Tryz.prog 129 #[ptr D] w (ShortRet w (dN F nx) (yN ys) hs) := by
  obtain ⟨n, hn⟩ : ∃ n, n = ys.length := ⟨_, rfl⟩
  have hnb : n ≤ 1000000 := by rw [hn]; exact hok.small
  have HLE : Hid (∀ W, Below w.heap.size w W → Calls Tryz.prog 117 #[ptr D] W fun e w' => e = .returned (.int .i64 (n : Int)) ∧ W = w') := hid (fun W hW => by rw [hn]; exact dlen_any D F hs nx ys W (h.below hW))
  obtain ⟨nh, hnh⟩ : ∃ m, m = hs.length := ⟨_, rfl⟩
  have HHD : Hid (∀ W, Below w.heap.size w W → Calls Tryz.prog 118 #[ptr D] W fun e w' => ∃ A c, e = .returned (.slice A nh c) ∧ Rd w' A nh (u8s hs) ∧ Below W.heap.size W w') := hid (fun W hW => (dheads_any D F hs nx ys hok hl W (h.below hW)).mono fun e w' hh => by
    obtain ⟨A, c, h1, h2, -, h3⟩ := hh
    rw [hnh]
    exact ⟨A, c, h1, h2, h3⟩)
  obtain ⟨δ, hδ⟩ : ∃ δ, δ = dN F nx := ⟨_, rfl⟩
  obtain ⟨yes, hyes⟩ : ∃ y, y = yN ys := ⟨_, rfl⟩
  have HST : Hid (∀ W (q b : Nat), Below w.heap.size w W → q < n → b < 256 → Calls Tryz.prog 115 #[ptr D, .int .i64 (q : Int), .int .u8 (b : Int)] W fun e w' => e = .returned (.int .i64 (δ q b : Nat)) ∧ Below W.heap.size W w') := hid (fun W q b hW hq hb => by
    have := dstep_any D (q : Int) b hb F hs nx ys hok W (h.below hW)
    rw [stepD_dN F nx (by rw [hok.len, ← hn]; exact hq) b, ← hδ] at this
    exact this)
  have HYE : Hid (∀ W (q : Nat), Below w.heap.size w W → q < n → Calls Tryz.prog 114 #[ptr D, .int .i64 (q : Int)] W fun e w' => e = .returned (.bool (yes q)) ∧ W = w') := hid (fun W q hW hq => by
    have := dyes_any D (q : Int) F hs nx ys W (h.below hW)
    rw [yesD_yN ys (by rw [← hn]; exact hq), ← hyes] at this
    exact this)
  have HCL : Hid (∀ q b, q < n → b < 256 → δ q b < n) := hid (fun q b hq hb => by rw [hδ, hn]; exact hcl q b (by omega) hb)
  have HNH := hid hnh
  have hpos : 0 < nh := by rw [hnh]; exact Nat.lt_of_le_of_lt (Nat.zero_le _) (hok.at_ 0 (by omega))
  have hnl : nh ≤ 256 := by omega
  have H256 := hid h256
  have HSO := hid hso
  rw [← hδ, ← hyes]
  have hn1 : ¬ (n : Int) = 0 := by omega
  obtain ⟨w1, hins, hc1, hb1⟩ := came_start w
  have hmm := @run_makeMap Tryz.prog
  have HC1 := hid hc1
  clear h hok hcl hn hnh hδ hyes h256 hso hl h1 hc1
  unfold ptr at *
  go_enter Tryz.func129, Tryz.ntmps129
  go_wp2_with (first | (go_at_call 117; refine (HLE.out _ (Below.refl _ _)).mono ?_; rintro e w2 ⟨rfl, rfl⟩) | (go_at_call 118; refine (HHD.out _ (by exact hb1.alloc hb1.size _)).mono ?_; rintro e w5 ⟨A5, c5, rfl, h5, hb5⟩; have HH5 := hid h5; have HB5 := hid hb5; clear h5 hb5))
  obtain ⟨M, hM⟩ : ∃ M, M = w.heap.size := ⟨_, rfl⟩
  obtain ⟨g1, hg1⟩ : ∃ g, g = w1.heap.size := ⟨_, rfl⟩
  obtain ⟨w4, hw4⟩ : ∃ W : World, W = w1.alloc (.cells #[Value.int .i64 0] 3) := ⟨_, rfl⟩
  have hb4 : Below w1.heap.size w1 w4 := by rw [hw4]; exact (Below.refl _ _).alloc (Nat.le_refl _) _
  have hk4 : w4.heap[g1]? = some (.cells #[Value.int .i64 0] 3 (0, 0)) := by rw [hw4, hg1]; exact blk_new w1 _
  have hb45 : Below w4.heap.size w4 w5 := by rw [hw4]; exact HB5.out
  have hk5 := blk_below hk4 hb45
  have hc5 : CameAt w5 M [root] := by rw [hM]; exact (HC1.out.kept (hb4.block _ HC1.out.lt)).kept (hb45.block _ (Nat.lt_of_lt_of_le HC1.out.lt hb4.size))
  have hMg : M < g1 := by rw [hM, hg1]; exact HC1.out.lt
  have HW5 := hid (hb1.trans ((hb4.trans (hb45.mono hb4.size)).mono hb1.size))
  obtain ⟨gh, oh, hAh, hgh, hch⟩ := HH5.out.2 hpos
  subst hAh
  have hne1 : gh ≠ M := fun e => by
    have h2 := hc5.nocell (oh + 0)
    have h3 := hch 0 (.int .u8 (hs[0]'(by rw [← HNH.out]; exact hpos) : Nat)) (by unfold u8s; rw [List.getElem?_map, List.getElem?_eq_getElem (by rw [← HNH.out]; exact hpos)]; rfl)
    rw [e, h2] at h3
    cases h3
  have hne2 : gh ≠ g1 := fun e => by
    have h3 := hch 0 (.int .u8 (hs[0]'(by rw [← HNH.out]; exact hpos) : Nat)) (by unfold u8s; rw [List.getElem?_map, List.getElem?_eq_getElem (by rw [← HNH.out]; exact hpos)]; rfl)
    rw [e, blk_cell hk5] at h3
    by_cases ho : oh + 0 = 0
    · rw [ho] at h3
      cases h3
    · rw [Array.getElem?_eq_none (by simp; omega)] at h3
      cases h3
  have HHX : Hid (∀ W, KeepX (fun k => k = M ∨ k = g1) w5 W → Rd W (some ⟨gh, oh, none⟩) nh (u8s hs)) := hid (fun W hW => HH5.out.keep (X := fun k => k = M ∨ k = g1) (fun a _ e => by cases e; exact fun h => by rcases h with h | h; exact hne1 h; exact hne2 h) hW.keeps)
  have HSH0 : Hid (ShI w5 w5 M g1 (.slice (some ⟨g1, 0, none⟩) 1 1) [root]) := hid
    { hM := hc5, hL := ⟨rfl, .inr ⟨g1, 1, #[Value.int .i64 0], rfl, Nat.le_refl _, hk5, Nat.le_refl _, by decide, rfl, rfl⟩⟩
      ne := fun e => by have e : g1 = M := Option.some.inj e; omega
      kp := KeepX.refl _ _, new := fun k e => by cases e; exact .inl rfl, mg := hMg, z := lt_of_heap hk5 }
  have HB5W : Hid (∀ W, KeepX (fun k => k = M ∨ k = g1) w5 W → Below w.heap.size w W) := hid (fun W hW => HW5.out.trans (hW.below HW5.out.size fun k hk e => by
    rcases e with e | e
    · have e : k = M := e; omega
    · have e : k = g1 := e; omega))
  have hz5 : g1 < w5.heap.size := lt_of_heap hk5
  rw [← hM, ← hg1]
  clear hb1 hw4 hb4 hk4 hb45 hk5 hc5 hMg hgh hch hne1 hne2 hins hM hg1 HB5 HH5 HC1 hz5
  go_loopw [5, 7] (fun vl iv wr => ∃ i : Nat, i ≤ n ∧ iv = .int .i64 i ∧ Hid (∃ L, ShI w5 wr M g1 vl L ∧ BInv δ yes hs i [] L ∧ (∀ (m : Nat) (x : Nd), L[m]? = some x → x.q < n) ∧ i ≤ L.length)) (fun _ iv _ => n + 1 - (intOf iv).toNat)
  case atStart => exact ⟨0, Nat.zero_le _, rfl, [root], HSH0.out, BInv.start hs, fun m x e => (by
    have hm := (List.getElem?_eq_some_iff.1 e).1
    have hm : m = 0 := by simp at hm; exact hm
    subst hm
    cases e
    exact Nat.pos_of_ne_zero fun e => hn1 (by rw [e]; rfl)), Nat.zero_le _⟩
  case round =>
    obtain ⟨i, hi, rfl, hin⟩ := hrel
    obtain ⟨L, hsh, hbi, hq, hiL⟩ := hin.out
    obtain ⟨wr0, hwr⟩ : ∃ W : World, W = wr := ⟨_, rfl⟩
    subst hwr
    have HSH := hid hsh
    have HBI := hid hbi
    have HQ := hid hq
    have hcnt := hbi.count hq
    obtain ⟨Al, cl, hvl⟩ := own_form hsh.hL
    rw [qsV_len] at hvl
    subst hvl
    have hbw := HB5W.out wr0 hsh.kp
    by_cases hlt : i < L.length
    · obtain ⟨nd, hnd⟩ : ∃ nd, L[i]? = some nd := ⟨_, List.getElem?_eq_getElem hlt⟩
      have HND := hid hnd
      have hqn := hq i nd hnd
      obtain ⟨A', c', e', hrd, -⟩ := rdV_of hsh.hL
      rw [qsV_len] at e' hrd
      cases e'
      obtain ⟨gl, ol, rfl, hgl, hcl⟩ := hrd.2 (by omega)
      have x1 := hcl i (.int .i64 (nd.q : Int)) (by unfold qsV; rw [List.getElem?_map, hnd]; rfl)
      have HYQ := hid (HYE.out wr0 nd.q hbw hqn)
      have HBW := hid hbw
      clear hcl hrd hgl hin hq hbi hsh hbw hnd
      cases hy : yes nd.q
      · have HY := hid hy
        rw [hy] at HYQ
        clear hy
        go_wp2_with (go_at_call 114; refine HYQ.out.mono ?_; rintro e w6 ⟨rfl, rfl⟩)
        go_loopw [5, 54] (fun vl jv wk => ∃ j : Nat, j ≤ nh ∧ jv = .int .i64 j ∧ Hid (∃ L, ShI w5 wk M g1 vl L ∧ BInv δ yes hs i (hs.take j) L ∧ (∀ (m : Nat) (x : Nd), L[m]? = some x → x.q < n) ∧ L[i]? = some nd)) (fun _ jv _ => nh - (intOf jv).toNat)
        case atStart => exact ⟨0, Nat.zero_le _, rfl, L, HSH.out, by rw [List.take_zero]; exact HBI.out, HQ.out, HND.out⟩
        case round =>
          obtain ⟨j, hj, rfl, hin⟩ := hrel
          obtain ⟨L2, hsh2, hbi2, hq2, hnd2⟩ := hin.out
          obtain ⟨wk, hwk⟩ : ∃ W : World, W = wr := ⟨_, rfl⟩
          subst hwk
          have HSH2 := hid hsh2
          have HBI2 := hid hbi2
          have HQ2 := hid hq2
          have HND2 := hid hnd2
          obtain ⟨Al2, cl2, hvl⟩ := own_form hsh2.hL
          rw [qsV_len] at hvl
          subst hvl
          have hc2 := hbi2.count hq2
          by_cases hlt2 : j < nh
          · obtain ⟨h0, hh0⟩ : ∃ h0, hs[j]? = some h0 := ⟨_, List.getElem?_eq_getElem (by rw [← HNH.out]; exact hlt2)⟩
            have hm0 : h0 ∈ hs := List.mem_of_getElem? hh0
            have h256 := H256.out h0 hm0
            obtain ⟨gh', oh', e', hgh, hch⟩ := (HHX.out wk hsh2.kp).2 (by omega)
            cases e'
            have xh := hch j (.int .u8 (h0 : Int)) (by unfold u8s; rw [List.getElem?_map, hh0]; rfl)
            have HSTQ := hid (HST.out wk nd.q h0 (HB5W.out wk hsh2.kp) hqn h256)
            have hto := HCL.out nd.q h0 hqn h256
            have htk : hs.take (j + 1) = hs.take j ++ [h0] := by rw [List.take_add_one, hh0]; rfl
            have hsort : ∀ x ∈ hs.take j, x < h0 := fun x hx => by
              obtain ⟨k, hk⟩ := List.getElem?_of_mem hx
              obtain ⟨hkl, hke⟩ := List.getElem?_eq_some_iff.1 hk
              have hkj : k < j := by simp at hkl; omega
              obtain ⟨hjl, hje⟩ := List.getElem?_eq_some_iff.1 hh0
              have := List.pairwise_iff_getElem.1 HSO.out k j (by omega) hjl hkj
              rw [List.getElem_take] at hke
              omega
            have hpush := hbi2.push hnd2 hm0 hsort h256
            unfold pushN at hpush
            rw [← htk] at hpush
            have HE8 : Hid (UInt8.ofNat h0 = UInt8.ofNat h0) := rfl
            obtain ⟨to, hto2⟩ : ∃ to, to = δ nd.q h0 := ⟨_, rfl⟩
            rw [← hto2] at HSTQ hto hpush
            obtain ⟨va, vb, hlk⟩ := hsh2.hM.look to (by omega)
            have HLK := hid hlk
            have HTO := hid hto2
            have hMl := hsh2.hM.lt
            cases hany : L2.any (fun x => x.q == to) with
            | true =>
              rw [hany] at HLK hpush
              rw [if_pos rfl] at hpush
              have HPU := hid hpush
              clear hin hsh2 hbi2 hq2 hnd2 hh0 hm0 hgh hch htk hsort hpush hlk hto2 hany
              go_wp2_with (go_at_call 115; refine HSTQ.out.mono ?_; rintro e w7 ⟨rfl, hb7⟩; have hlk7 := HLK.out w7 (hb7.block M hMl); have HB7 := hid hb7; clear hb7)
              go_roundw
              case rel => exact ⟨j + 1, by omega, by go_num, L2, HSH2.out.below (HB7.out.alloc HB7.out.size _), HPU.out, HQ2.out, HND2.out⟩
              case measure => simp [intOf]; omega
            | false =>
              obtain ⟨D2, hown, hd1, hd2⟩ := hsh2.hM
              have HOWN := hid hown
              have HD1 := hid hd1
              have HD2 := hid hd2
              have HANY := hid hany
              rw [hany] at HLK hpush
              rw [if_neg (by simp)] at hpush
              have HPU := hid hpush
              have HQ3 : Hid (∀ (m : Nat) (x : Nd), (L2 ++ [(⟨to, nd.t ++ [UInt8.ofNat h0], nd.q, h0⟩ : Nd)])[m]? = some x → x.q < n) := hid (fun m x hm => by
                have := List.mem_of_getElem? hm
                rcases List.mem_append.1 this with h | h
                · obtain ⟨m', hm'⟩ := List.getElem?_of_mem h
                  exact hq2 m' x hm'
                · rw [List.mem_singleton.1 h]; exact hto)
              have HND3 : Hid ((L2 ++ [(⟨to, nd.t ++ [UInt8.ofNat h0], nd.q, h0⟩ : Nd)])[i]? = some nd) := hid (by rw [List.getElem?_append_left (List.getElem?_eq_some_iff.1 hnd2).1]; exact hnd2)
              clear hin hsh2 hbi2 hq2 hnd2 hh0 hm0 hgh hch htk hsort hpush hlk hto2 hany hown hd1 hd2
              go_wp2_with (first | (go_at_call 115; refine HSTQ.out.mono ?_; rintro e w7 ⟨rfl, hb7⟩; have hlk7 := HLK.out w7 (hb7.block M hMl); have HB7 := hid hb7; clear hb7) | (at_mapUpdate; go_loud (refine wpList_mapUpdate_in _ (by rfl) (.tmp 70) (.tmp 71) (.tmp 74) 208 (by rfl) 3 207 (int_keyed Tryz.underlying3) Tryz.underlying208 fromElem M L2.length D2 (by rfl) (ownsMap_below HOWN.out (HB7.out.alloc HB7.out.size (.cells #[.int .i64 va, .int .u8 vb] 207))) (by unfold maxLen; omega) (.int .i64 (to : Int)) (.agg #[.int .i64 (nd.q : Int), .int .u8 (h0 : Int)]) (kq to) (by rfl) (by rfl) (kq_of to (by omega)) (cameD (⟨to, nd.t ++ [UInt8.ofNat h0], nd.q, h0⟩ : Nd)) [] (by rfl) ?_; intro w8 ho8 ht8; have HU8 := hid ((HSH2.out.below (HB7.out.alloc HB7.out.size (.cells #[.int .i64 va, .int .u8 vb] 207))).upd ht8 (CameAt.put (nd := (⟨to, nd.t ++ [UInt8.ofNat h0], nd.q, h0⟩ : Nd)) (ownsMap_below HOWN.out (HB7.out.alloc HB7.out.size (.cells #[.int .i64 va, .int .u8 vb] 207))) HD1.out HD2.out HANY.out ho8)); clear ho8 ht8)) | (at_builtin; go_loud (refine wpList_app_one one_no _ (by rfl) (.tmp 75) (.tmp 77) (by rfl) g1 (.slice Al2 L2.length cl2) (qsV L2) (by rfl) (row_blk HU8.out.2.1 fun k e => (show Below w8.heap.size w8 _ from (Below.refl _ _).alloc (Nat.le_refl _) (.cells #[Value.int IntKind.i64 ↑to] 3)).block k (World.ownsRow.lt HU8.out.2.1 k e).2) w8.heap.size 1 (.int .i64 (to : Int)) (by rfl) (by exact cell0_new w8 (.int .i64 (to : Int)) 3) (by rfl) (by rw [qsV_len]; omega) (Nat.le_trans HU8.out.2.2.2 (Below.size (show Below w8.heap.size w8 _ from (Below.refl _ _).alloc (Nat.le_refl _) (.cells #[Value.int IntKind.i64 ↑to] 3)))) ?_; intro v9 w9 hy9 hg9 hat9; have HSH9 := hid ((HSH2.out.below (HB7.out.alloc HB7.out.size (.cells #[.int .i64 va, .int .u8 vb] 207))).push HU8.out.1 HU8.out.2.2.1 ((Below.refl _ _).alloc (Nat.le_refl _) (.cells #[Value.int IntKind.i64 ↑to] 3)) hg9 hy9 hat9); clear hy9 hg9 hat9)))
              go_roundw
              case rel => exact ⟨j + 1, by omega, by go_num, _, HSH9.out, HPU.out, HQ3.out, HND3.out⟩
              case measure => simp [intOf]; omega
          · have hjn : j = nh := by omega
            subst hjn
            rw [List.take_of_length_le (by rw [← HNH.out]; exact Nat.le_refl _)] at hbi2
            have HNX := hid (hbi2.next hnd2 HY.out)
            have hil := (List.getElem?_eq_some_iff.1 hnd2).1
            clear hin hsh2 hbi2 hq2 hnd2
            go_wp2_with fail
            go_roundw
            case rel => exact ⟨i + 1, by omega, by go_num, L2, HSH2.out, HNX.out, HQ2.out, hil⟩
            case measure => simp [intOf]; omega
      · have HY := hid hy
        rw [hy] at HYQ
        clear hy
        go_wp2_with (go_at_call 114; refine HYQ.out.mono ?_; rintro e w6 ⟨rfl, rfl⟩)
        go_loopw [8, 9] (fun qv ov wk => ∃ (m : Nat) (x : Nd) (os : List Nat) (A : Option Addr) (c : Nat), qv = .int .i64 x.q ∧ ov = .slice A os.length c ∧ Hid (L[m]? = some x ∧ nd.t = x.t ++ os.map UInt8.ofNat ∧ m + os.length ≤ i ∧ Rd wk A os.length (u8s os) ∧ (os.length = 0 → A = none ∧ c = 0)) ∧ Hid (Below wr0.heap.size wr0 wk)) (fun qv _ _ => L.findIdx (fun y => (y.q : Int) == intOf qv))
        case atStart => exact ⟨i, nd, [], none, 0, rfl, rfl, ⟨HND.out, by simp, by simp, Rd.nil, fun _ => ⟨rfl, rfl⟩⟩, Below.refl _ _⟩
        case round =>
          obtain ⟨m, x, os, A, c, rfl, rfl, hb, hbk⟩ := hrel
          obtain ⟨hmx, hnt, hmo, hrd, hnil⟩ := hb.out
          obtain ⟨wk, hwk⟩ : ∃ W : World, W = wr := ⟨_, rfl⟩
          subst hwk
          have hxq := HQ.out m x hmx
          obtain ⟨n2, hn2⟩ : ∃ k, k = os.length := ⟨_, rfl⟩
          have HN2 := hid hn2
          rw [← hn2] at hrd hnil hmo ⊢
          have HBWk := hid (HBW.out.trans (hbk.out.mono HBW.out.size))
          by_cases hq0 : x.q = 0
          · have hxr : x = root := by
              have e := HBI.out.dis m 0 x root hmx HBI.out.root hq0
              subst e
              have := HBI.out.root
              rw [hmx] at this
              exact Option.some.inj this
            have hntx : nd.t = os.map UInt8.ofNat := by rw [hnt, hxr]; rfl
            have hcv : (convert 89 9 (.slice A n2 c)).run Tryz.prog wk = .ok (.string (strOfNums (os.map fun (h : Nat) => (h : Int)))) wk := by
              by_cases h0 : n2 = 0
              · obtain ⟨rfl, rfl⟩ := hnil h0
                have hos : os = [] := List.eq_nil_of_length_eq_zero (by omega)
                subst hos
                exact run_convert_bytes_nil (w := wk) 89 5 Tryz.underlying89 Tryz.underlying5 n2 0 9 Tryz.underlying9
              · exact conv_heads (by omega) HN2.out.symm hrd
            have htx := strOf_u8s os
            generalize strOfNums (os.map fun (h : Nat) => (h : Int)) = tx at *
            have HTX : Hid (tx.data.toList = nd.t) := hid (htx.trans hntx.symm)
            have HYR : Hid (yes (runN δ 0 nd.t) = true) := hid (by rw [HBI.out.run H256.out i nd HND.out]; exact HY.out)
            have HLS := hid (fun u hu hyu => HBI.out.least HND.out u hu hyu)
            have hz0 : (x.q : Int) = 0 := by omega
            clear hmx hnt hrd hnil hq0 hxr hntx htx hb hn2
            go_wp2_with fail
            refine bodyPost_ret (v := .tuple #[.string tx, .bool true]) (by simp [results, Tryz.results129, go_sem]) rfl ⟨HBWk.out, .inl ⟨tx, rfl, ?_, ?_⟩⟩
            · rw [HTX.out]; exact HYR.out
            · rw [HTX.out]; exact HLS.out
          · have hm0 : 0 < m := Nat.pos_of_ne_zero fun e => by
              subst e
              have := HBI.out.root
              rw [hmx] at this
              cases this
              exact hq0 rfl
            obtain ⟨k, pn, h, hpn, hkm, -, hhm, -, hxt, hxp, hxb⟩ := HBI.out.par m x hmx hm0
            have hpq := HQ.out k pn hpn
            have HG := hid (fun W (hW : Below wk.heap.size wk W) => ((HSH.out.below hbk.out).below hW).hM.get hmx (by omega))
            rw [hxp, hxb] at HG
            have hlk1 := HG.out wk (Below.refl _ _)
            have hf1 := from_by
            have hf0 := from_state
            have HIX : Hid (L.findIdx (fun y => (y.q : Int) == (pn.q : Int)) < L.findIdx (fun y => (y.q : Int) == (x.q : Int))) := hid (by rw [HBI.out.index hpn, HBI.out.index hmx]; exact hkm)
            have HPN : Hid (L[k]? = some pn ∧ nd.t = pn.t ++ (h :: os).map UInt8.ofNat ∧ k + (n2 + 1) ≤ i) := hid ⟨hpn, by rw [hnt, hxt]; simp, by omega⟩
            have HRD := hid hrd
            have HNIL := hid hnil
            have hz0 : ¬ (x.q : Int) = 0 := by omega
            have hn21 : n2 ≤ 1000000 := by omega
            clear hmx hnt hrd hnil hq0 hb hn2 hm0 hpn hkm hhm hxt hxp hxb
            go_wp2_with (at_builtin; go_loud (refine wpList_ahead _ (by rfl) (.tmp 43) (.tmp 44) (by rfl) wk.heap.size h (by exact blk_new wk _) (by rfl) A n2 c os (by rfl) HN2.out.symm (HRD.out.below (by exact (Below.refl _ _).alloc (Nat.le_refl _) _)) HNIL.out hn21 ?_; intro A9 c9 w9 h9 hb9; have hb99 : Below wk.heap.size wk w9 := (((Below.refl _ _).alloc (Nat.le_refl _) (.cells #[Value.int IntKind.u8 ↑h] 5)).trans hb9); have hlk2 := HG.out w9 hb99; have HB9 := hid hb99; have HR9 := hid h9; clear h9 hb9 hb99))
            go_roundw
            case rel => exact ⟨k, pn, h :: os, A9, c9, rfl, by rw [List.length_cons, ← HN2.out], ⟨HPN.out.1, HPN.out.2.1, by rw [List.length_cons, ← HN2.out]; exact HPN.out.2.2, by rw [List.length_cons, ← HN2.out]; exact HR9.out, fun h => by cases h⟩, hbk.out.trans (HB9.out.mono hbk.out.size)⟩
            case measure => exact HIX.out
    · have hiL2 : L.length = i := by omega
      have HNO := hid (fun u hu => hbi.none_ hiL2 u hu)
      have HBW := hid hbw
      clear hin hq hbi hsh hbw
      go_wp2_with fail
      refine bodyPost_ret (v := .tuple #[.string ⟨#[]⟩, .bool false]) (by simp [results, Tryz.results129, go_sem]) rfl ⟨HBW.out, .inr ⟨rfl, HNO.out⟩⟩
end Go.Proofs.YtfpfloahkibcgaaGreatDoor

/- The walk of auto.Witness. -/
namespace Go.Proofs.YtfpfloahkibcgaaGreatDoor
open Go.RowKit Go.Maps

theorem ShortRet.one {w w' : World} {δ : Nat → Nat → Nat} {yes : Nat → Bool} {hs : List Nat} {e : Ending} (h : ShortRet w δ yes hs e w') : Below w.heap.size w w' ∧ ∃ (t : ByteArray) (v : Bool), e = .returned (.tuple #[.string t, .bool v]) ∧
    (v = true → yes (runN δ 0 t.data.toList) = true ∧ ∀ u : Txt, (∀ b ∈ u, b.toNat ∈ hs) → yes (runN δ 0 u) = true → ¬ slt u t.data.toList) ∧ (v = false → t = ⟨#[]⟩ ∧ ∀ u : Txt, (∀ b ∈ u, b.toNat ∈ hs) → yes (runN δ 0 u) = false) := by
  obtain ⟨hb, h⟩ := h
  refine ⟨hb, ?_⟩
  rcases h with ⟨t, rfl, h1, h2⟩ | ⟨rfl, h1⟩
  · exact ⟨t, true, rfl, fun _ => ⟨h1, h2⟩, fun e => absurd e (by decide)⟩
  · exact ⟨_, false, rfl, fun e => absurd e (by decide), fun _ => ⟨rfl, h1⟩⟩
/-- What a witness is. -/
structure Wit (P : Txt → Prop) (t : ByteArray) (v : Bool) : Prop where
  yes : v = true → P t.data.toList ∧ ∀ u, P u → ¬ slt u t.data.toList
  no : v = false → t = ⟨#[]⟩ ∧ ∀ u, ¬ P u
def WitRet (r : Re) (left : Nat) (e : Ending) : Prop := match buildR ((refineR (setsR r)).map leastN) r left with
  | none => e = .returned (.tuple #[.string ⟨#[]⟩, .bool false, .int .i64 5])
  | some _ => ∃ (t : ByteArray) (v : Bool), e = .returned (.tuple #[.string t, .bool v, .int .i64 0]) ∧ Wit (Lang r) t v
set_option maxRecDepth 100000 in
set_option maxHeartbeats 1000000 in
theorem witness_any (r : Re) (rb B left : Nat) (w : World) (h : ReAt w (fun k => k = B) r rb) (hg : Good r) (hsz : r.size ≤ 1000000) (hB : BudAt w B left 0) (hl : left ≤ 1000000) (hT : Tab w) :
    Calls Tryz.prog 94 #[ptr rb, ptr B] w fun e w' => KeepX (fun k => k = B) w w' ∧ WitRet r left e := by
  have HBU := hid (build_any r rb B left 0 w h hg hsz hB hl (by omega) hT)
  unfold BuildRet at HBU
  unfold WitRet
  cases hq : buildR ((refineR (setsR r)).map leastN) r left with
  | none =>
    rw [hq] at HBU
    clear h hB hT hq
    unfold ptr at *
    go_enter Tryz.func94, Tryz.ntmps94
    go_wp2_with (go_at_call 65; refine HBU.out.mono ?_; rintro e w2 ⟨hk, rfl, -⟩; have HK := hid hk; clear hk)
    refine bodyPost_ret (v := .tuple #[.string ⟨#[]⟩, .bool false, .int .i64 5]) (by simp [results, Tryz.results94, go_sem]) rfl ⟨HK.out, rfl⟩
  | some t =>
    obtain ⟨all, nx, left'⟩ := t
    rw [hq] at HBU
    have hok := dfa_ok hq hl
    obtain ⟨-, hout, hcov⟩ := refine_facts (setsR r)
    have hlen := out_len hout hcov
    have h1 : 0 < (all.map Re.null).length := by rw [List.length_map]; exact (List.getElem?_eq_some_iff.1 (build_ok hq).2.2.1).1
    have HSH := hid (fun D W (hD : DfaAt W D (Fr r) ((refineR (setsR r)).map leastN) nx (all.map Re.null)) => shortest_any D (Fr r) ((refineR (setsR r)).map leastN) nx (all.map Re.null) hok (by rw [List.length_map]; exact hlen) (fun h hh => by
      obtain ⟨p, hp, rfl⟩ := List.mem_map.1 hh
      exact (least_has p (hout.ne p hp)).2) (heads_sorted (setsR r)) (built_closed hq) h1 W hD)
    have HLE := hid (fun t h1 h2 => built_least hg hq (t := t) h1 h2)
    have HNO := hid (fun h => built_none hg hq h)
    clear h hB hT hok hout hcov hlen h1 hq
    unfold ptr at *
    go_enter Tryz.func94, Tryz.ntmps94
    go_wp2_with (first | (go_at_call 65; refine HBU.out.mono ?_; rintro e w2 ⟨hk, -, D, rfl, -, hd⟩; have HK := hid hk; have HS := hid (HSH.out D w2 hd); clear hk hd; unfold ptr at HS) | (go_at_call 129; refine HS.out.mono ?_; rintro e w3 hret; obtain ⟨hb, t, v, rfl, hy, hn⟩ := hret.one; have HB := hid hb; have HY := hid hy; have HN := hid hn; clear hret hb hy hn))
    refine bodyPost_ret (v := .tuple #[.string t, .bool v, .int .i64 0]) (by simp [results, Tryz.results94, go_sem]) rfl ⟨HK.out.trans (KeepX.of_below (X := fun _ => False) HB.out) fun _ _ e => e.elim, t, v, rfl, fun e => ?_, fun e => ?_⟩
    · obtain ⟨h1, h2⟩ := HY.out e
      exact HLE.out _ h1 h2
    · obtain ⟨h1, h2⟩ := HN.out e
      exact ⟨h1, HNO.out h2⟩
end Go.Proofs.YtfpfloahkibcgaaGreatDoor

/- The walks of auto.Outside, Shared, Unlike; law 07's example. -/
namespace Go.Proofs.YtfpfloahkibcgaaGreatDoor
open Go.RowKit Go.Maps

theorem both_two (p q : Re) (X : Nat → Prop) (W : World) (a b : Nat) (ha : ReAt W X p a) (hb : ReAt W X q b) (hX : ∀ k, X k → k < W.heap.size) (hsz : p.size + q.size ≤ 549755813888) :
    Calls Tryz.prog 57 #[.slice (some ⟨W.heap.size, 0, none⟩) 2 2] (W.alloc (.cells #[ptr a, ptr b] 32)) (RetRe W X (bothL [p, q])) :=
  (both_any _ 2 2 [p, q] [a, b] X _ (ReRow.news ((Els.one ha).append (Els.one hb)) hX _) (fun k hk => by have := hX k hk; simp; omega) (by simp only [Re.sizes]; omega)).mono fun _ _ h => h.trans ((Below.refl _ _).alloc (Nat.le_refl _) _)
/-- What a call that ends in Witness comes to. -/
def OutRet (w : World) (B left : Nat) (r : Re) (e : Ending) (w' : World) : Prop := KeepX (fun k => k = B) w w' ∧ WitRet r left e
set_option maxRecDepth 100000 in
set_option maxHeartbeats 1000000 in
theorem outside_any (x y : Re) (a b B left : Nat) (w : World) (hx : ReAt w (fun k => k = B) x a) (hy : ReAt w (fun k => k = B) y b) (gx : Good x) (gy : Good y) (sx : x.size ≤ 400000) (sy : y.size ≤ 400000) (hB : BudAt w B left 0) (hl : left ≤ 1000000) (hT : Tab w) :
    Calls Tryz.prog 51 #[ptr a, ptr b, ptr B] w (OutRet w B left (butR x y)) := by
  have hlt := lt_of_heap hB
  have hsz := butR_size x y
  have HBUT := hid (but_any x y (fun k => k = B) a b w hx hy (fun k e => by omega) (by omega))
  have HWI := hid (fun W r (h : ReAt W (fun k => k = B) (butR x y) r) (hb : Below w.heap.size w W) => witness_any (butR x y) r B left W h (butR_good gx gy) (by omega) (blk_below hB hb) hl (hT.below hb))
  unfold WitRet at HWI
  unfold OutRet WitRet
  cases hq : buildR ((refineR (setsR (butR x y))).map leastN) (butR x y) left with
  | none =>
    rw [hq] at HWI
    clear hx hy hB hT hq
    unfold ptr at *
    go_enter Tryz.func51, Tryz.ntmps51
    go_wp2_with (first | (go_at_call 59; refine HBUT.out.mono ?_; rintro e w2 ⟨b2, rfl, h2, hb2⟩; have H2 := hid h2; have HB2 := hid hb2; clear h2 hb2) | (go_at_call 94; refine (HWI.out _ _ H2.out HB2.out).mono ?_; rintro e w3 ⟨hk, hret⟩; have HK := hid hk; subst hret; clear hk))
    refine bodyPost_ret (v := .tuple #[.string ⟨#[]⟩, .bool false, .int .i64 5]) (by simp [results, Tryz.results51, go_sem]) rfl ⟨(KeepX.of_below (X := fun k => k = B) HB2.out).trans HK.out fun _ _ e => e, rfl⟩
  | some q =>
    rw [hq] at HWI
    clear hx hy hB hT hq
    unfold ptr at *
    go_enter Tryz.func51, Tryz.ntmps51
    go_wp2_with (first | (go_at_call 59; refine HBUT.out.mono ?_; rintro e w2 ⟨b2, rfl, h2, hb2⟩; have H2 := hid h2; have HB2 := hid hb2; clear h2 hb2) | (go_at_call 94; refine (HWI.out _ _ H2.out HB2.out).mono ?_; rintro e w3 ⟨hk, hret⟩; have HK := hid hk; obtain ⟨t, v, rfl, hw⟩ := hret; have HWT := hid hw; clear hw; clear hk))
    refine bodyPost_ret (v := .tuple #[.string t, .bool v, .int .i64 0]) (by simp [results, Tryz.results51, go_sem]) rfl ⟨(KeepX.of_below (X := fun k => k = B) HB2.out).trans HK.out fun _ _ e => e, t, v, rfl, HWT.out⟩
/-- The texts of one of two alone. -/
abbrev unlikeR (x y : Re) : Re := anyL [butR x y, butR y x]
set_option maxRecDepth 100000 in
set_option maxHeartbeats 1000000 in
theorem unlike_any (x y : Re) (a b B left : Nat) (w : World) (hx : ReAt w (fun k => k = B) x a) (hy : ReAt w (fun k => k = B) y b) (gx : Good x) (gy : Good y) (sx : x.size ≤ 200000) (sy : y.size ≤ 200000) (hB : BudAt w B left 0) (hl : left ≤ 1000000) (hT : Tab w) :
    Calls Tryz.prog 55 #[ptr a, ptr b, ptr B] w (OutRet w B left (anyL [butR x y, butR y x])) := by
  have hlt := lt_of_heap hB
  have hs1 := butR_size x y
  have hs2 := butR_size y x
  have hsz := anyL_size [butR x y, butR y x]
  simp only [Re.sizes] at hsz
  have HB1 := hid (but_any x y (fun k => k = B) a b w hx hy (fun k e => by omega) (by omega))
  have HB2' := hid (fun W (hW : Below w.heap.size w W) => but_any y x (fun k => k = B) b a W (hy.under hW) (hx.under hW) (fun k e => by have := hW.size; omega) (by omega))
  have HAN := hid (fun W p q (hW : Below w.heap.size w W) (hp : ReAt W (fun k => k = B) (butR x y) p) (hq : ReAt W (fun k => k = B) (butR y x) q) => any_two (butR x y) (butR y x) (fun k => k = B) W p q hp hq (fun k e => by have := hW.size; omega) (by omega))
  have hg : Good (anyL [butR x y, butR y x]) := anyL_good fun r hr => by
    simp only [List.mem_cons, List.not_mem_nil, or_false] at hr
    rcases hr with rfl | rfl
    · exact butR_good gx gy
    · exact butR_good gy gx
  have HWI := hid (fun W r (h : ReAt W (fun k => k = B) (anyL [butR x y, butR y x]) r) (hb : Below w.heap.size w W) => witness_any (anyL [butR x y, butR y x]) r B left W h hg (by omega) (blk_below hB hb) hl (hT.below hb))
  unfold WitRet at HWI
  unfold OutRet WitRet
  generalize butR x y = p1 at *
  generalize butR y x = p2 at *
  cases hq : buildR ((refineR (setsR (anyL [p1, p2]))).map leastN) (anyL [p1, p2]) left with
  | none =>
    rw [hq] at HWI
    clear hx hy hB hT hq hg
    unfold ptr at *
    go_enter Tryz.func55, Tryz.ntmps55
    go_wp2_with (first | (go_at_call 59; (with_reducible refine HB1.out.mono ?_); rintro e w4 ⟨b4, rfl, h4, hb4⟩; have H4 := hid h4; have HB4 := hid hb4; have HB5 := hid (HB2'.out _ hb4); clear h4 hb4 HB1) | (go_at_call 59; (with_reducible refine HB5.out.mono ?_); rintro e w5 ⟨b5, rfl, h5, hb5⟩; have H5 := hid h5; have H45 := hid (H4.out.under hb5); have HB45 := hid (HB4.out.trans (hb5.mono HB4.out.size)); clear h5 hb5) | (go_at_call 52; refine (HAN.out _ _ _ HB45.out H45.out H5.out).mono ?_; rintro e w2 ⟨b2, rfl, h2, hb2⟩; have H2 := hid h2; have HB2 := hid (HB45.out.trans (hb2.mono HB45.out.size)); clear h2 hb2) | (go_at_call 94; refine (HWI.out _ _ H2.out HB2.out).mono ?_; rintro e w3 ⟨hk, hret⟩; have HK := hid hk; subst hret; clear hk))
    refine bodyPost_ret (v := .tuple #[.string ⟨#[]⟩, .bool false, .int .i64 5]) (by simp [results, Tryz.results55, go_sem]) rfl ⟨(KeepX.of_below (X := fun k => k = B) HB2.out).trans HK.out fun _ _ e => e, rfl⟩
  | some q =>
    rw [hq] at HWI
    clear hx hy hB hT hq hg
    unfold ptr at *
    go_enter Tryz.func55, Tryz.ntmps55
    go_wp2_with (first | (go_at_call 59; (with_reducible refine HB1.out.mono ?_); rintro e w4 ⟨b4, rfl, h4, hb4⟩; have H4 := hid h4; have HB4 := hid hb4; have HB5 := hid (HB2'.out _ hb4); clear h4 hb4 HB1) | (go_at_call 59; (with_reducible refine HB5.out.mono ?_); rintro e w5 ⟨b5, rfl, h5, hb5⟩; have H5 := hid h5; have H45 := hid (H4.out.under hb5); have HB45 := hid (HB4.out.trans (hb5.mono HB4.out.size)); clear h5 hb5) | (go_at_call 52; refine (HAN.out _ _ _ HB45.out H45.out H5.out).mono ?_; rintro e w2 ⟨b2, rfl, h2, hb2⟩; have H2 := hid h2; have HB2 := hid (HB45.out.trans (hb2.mono HB45.out.size)); clear h2 hb2) | (go_at_call 94; refine (HWI.out _ _ H2.out HB2.out).mono ?_; rintro e w3 ⟨hk, hret⟩; have HK := hid hk; obtain ⟨t, v, rfl, hw⟩ := hret; have HWT := hid hw; clear hw; clear hk))
    refine bodyPost_ret (v := .tuple #[.string t, .bool v, .int .i64 0]) (by simp [results, Tryz.results55, go_sem]) rfl ⟨(KeepX.of_below (X := fun k => k = B) HB2.out).trans HK.out fun _ _ e => e, t, v, rfl, HWT.out⟩
end Go.Proofs.YtfpfloahkibcgaaGreatDoor

/- The walk of law 07's example. -/
namespace Go.Proofs.YtfpfloahkibcgaaGreatDoor
open Go.RowKit Go.Maps

abbrev a7 : Re := manyR (wordR [97])
abbrev aa7 : Re := manyR (wordR [97, 97])
theorem lang_nul {r : Re} (hg : Good r) (u : Txt) : Lang r u ↔ (bysL r u).null = true := by
  rw [null_lang, lang_bys hg, List.append_nil]
theorem y7_some : (buildR ((refineR (setsR (butR a7 aa7))).map leastN) (butR a7 aa7) 100).isSome = true := by decide +kernel
theorem n7_all : (buildR ((refineR (setsR (butR aa7 a7))).map leastN) (butR aa7 a7) 100).map (fun t => t.1.all fun x => !x.null) = some true := by decide +kernel
theorem y7_a : (bysL (butR a7 aa7) [97]).null = true := by decide +kernel
theorem y7_nil : (bysL (butR a7 aa7) []).null = false := by decide +kernel
theorem y7_less : (List.range 97).all (fun n => !(bysL (butR a7 aa7) [UInt8.ofNat n]).null) = true := by decide +kernel
theorem good7 : Good a7 ∧ Good aa7 := ⟨manyR_good (wordR_good _), manyR_good (wordR_good _)⟩
theorem wit7_yes {t : ByteArray} {v : Bool} (h : Wit (Lang (butR a7 aa7)) t v) : t = ⟨#[97]⟩ ∧ v = true := by
  have hg : Good (butR a7 aa7) := butR_good good7.1 good7.2
  have ha : Lang (butR a7 aa7) [97] := (lang_nul hg _).2 y7_a
  cases v
  · exact absurd ha ((h.no rfl).2 _)
  · obtain ⟨h1, h2⟩ := h.yes rfl
    refine ⟨?_, rfl⟩
    have e : t.data.toList = [97] := by
      rcases slt_tri t.data.toList [97] with h3 | h3 | h3
      · exact h3
      · exfalso
        generalize t.data.toList = u at *
        match u with
        | [] =>
          have := (lang_nul hg _).1 h1
          rw [y7_nil] at this
          cases this
        | [b] =>
          rcases h3 with h3 | ⟨-, h3⟩
          · simp at h3
          · rcases h3 with h3 | ⟨-, h3⟩
            · have hb : b.toNat < 97 := h3
              have := List.all_eq_true.1 y7_less b.toNat (List.mem_range.2 hb)
              have e : UInt8.ofNat b.toNat = b := by simp
              rw [e, (lang_nul hg _).1 h1] at this
              cases this
            · cases h3
        | a :: b :: u =>
          rcases h3 with h3 | ⟨h3, -⟩ <;> simp at h3
      · exact absurd h3 (h2 _ ha)
    rw [← e]
theorem wit7_no {t : ByteArray} {v : Bool} (h : Wit (Lang (butR aa7 a7)) t v) : t = ⟨#[]⟩ ∧ v = false := by
  have hg : Good (butR aa7 a7) := butR_good good7.2 good7.1
  have hno : ∀ u, ¬ Lang (butR aa7 a7) u := fun u hu => by
    have hn := n7_all
    cases hq : buildR ((refineR (setsR (butR aa7 a7))).map leastN) (butR aa7 a7) 100 with
    | none => rw [hq] at hn; cases hn
    | some q =>
      obtain ⟨all, nx, l'⟩ := q
      rw [hq] at hn
      have hn : (all.all fun x => !x.null) = true := by simpa using hn
      have h1 := (built_lang hg hq u).2 hu
      unfold yN at h1
      rw [List.getD_eq_getElem?_getD, List.getElem?_map] at h1
      cases hx : all[runN (dN (Fr (butR aa7 a7)) nx) 0 u]? with
      | none => rw [hx] at h1; cases h1
      | some x =>
        rw [hx] at h1
        have := List.all_eq_true.1 hn x (List.mem_of_getElem? hx)
        have h1 : x.null = true := h1
        rw [h1] at this
        cases this
  cases v
  · exact ⟨(h.no rfl).1, rfl⟩
  · exact absurd (h.yes rfl).1 (hno _)
theorem n7_some : (buildR ((refineR (setsR (butR aa7 a7))).map leastN) (butR aa7 a7) 100).isSome = true := by
  have hn := n7_all
  cases hq : buildR ((refineR (setsR (butR aa7 a7))).map leastN) (butR aa7 a7) 100 with
  | none => rw [hq] at hn; cases hn
  | some q => rfl
theorem out7 (x y : Re) (gx : Good x) (gy : Good y) (sx : x.size ≤ 400000) (sy : y.size ≤ 400000) (r : ByteArray × Bool) (hs : (buildR ((refineR (setsR (butR x y))).map leastN) (butR x y) 100).isSome = true) (hr : ∀ t v, Wit (Lang (butR x y)) t v → t = r.1 ∧ v = r.2)
    (w0 w : World) (a b : Nat) (hx : ReAt w0 X0 x a) (hy : ReAt w0 X0 y b) (hb : Below w0.heap.size w0 w) (hB : BudAt w w0.heap.size 100 0) (hT : Tab w) :
    Calls Tryz.prog 51 #[ptr a, ptr b, ptr w0.heap.size] w fun e w' => e = .returned (.tuple #[.string r.1, .bool r.2, .int .i64 0]) ∧ Below w0.heap.size w0 w' :=
  (outside_any x y a b w0.heap.size 100 w ((hx.also (Y := fun k => k = w0.heap.size) fun k e hlt => by omega).under hb) ((hy.also (Y := fun k => k = w0.heap.size) fun k e hlt => by omega).under hb) gx gy sx sy hB (by omega) hT).mono fun e w' hh => by
    obtain ⟨hk, hw⟩ := hh
    refine ⟨?_, hb.trans (hk.below hb.size fun k hk e => by omega)⟩
    unfold WitRet at hw
    cases hq : buildR ((refineR (setsR (butR x y))).map leastN) (butR x y) 100 with
    | none => rw [hq] at hs; cases hs
    | some q =>
      rw [hq] at hw
      obtain ⟨t, v, rfl, hw⟩ := hw
      obtain ⟨rfl, rfl⟩ := hr t v hw
      rfl
end Go.Proofs.YtfpfloahkibcgaaGreatDoor
