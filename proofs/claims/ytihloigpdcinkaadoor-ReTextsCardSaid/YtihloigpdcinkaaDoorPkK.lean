/- PkK: SizeW, Settled, Settled2, Settled3, each with its own sentence. -/
import Derived.Test.YtihloigpdcinkaaDoorPkJ
import Derived.Laws.BytesArg
import Derived.Laws.Concat
/- The walks of size (law 03) and of Some. -/
namespace Go.Proofs.YtihloigpdcinkaaDoor
open Go.RowKit

set_option maxRecDepth 100000 in
set_option maxHeartbeats 1000000 in
theorem sz_any (r : Re) : ∀ (X : Nat → Prop) (b : Nat) (w : World), ReAt w X r b → r.size ≤ 549755813888 →
    Calls Tryd.prog 24 #[ptr b] w fun e w' => e = .returned (.int .i64 r.size) ∧ w = w' := by
  induction r using Re.ind_ with
  | h r ih =>
    intro X b w ha hsz
    obtain ⟨A, c, bs, hac, -, hka⟩ := ha.row
    obtain ⟨k0, k1, k2, k3, k4, k5, -⟩ := cellsOf hac
    obtain ⟨n, hn⟩ : ∃ n, n = r.kids.length := ⟨_, rfl⟩
    obtain ⟨z, hz⟩ : ∃ z, z = r.size := ⟨_, rfl⟩
    have HS : Hid (z = 1 + Re.sizes r.kids) := hid (hz.trans (Re.size_kids r))
    have hnz : n + 1 ≤ z := by have := Re.length_le_sizes r.kids; have := HS.out; omega
    rw [← hz] at hsz ⊢
    rw [← hn] at k5 hka
    have HIH := hid ih
    have HKA := hid hka
    have HN := hid hn
    clear ih ha hac hka hz hn k0 k1 k2 k3 k4
    unfold ptr
    go_enter Tryd.func24, Tryd.ntmps24
    go_wp2_with fail
    go_loop [3, 11] (fun m i => ∃ k : Nat, k ≤ n ∧ i = .int .i64 k ∧ m = .int .i64 ((1 + Re.sizes (r.kids.take k) : Nat) : Int)) (fun _ i => n - (intOf i).toNat)
    case atStart => exact ⟨0, Nat.zero_le _, rfl, rfl⟩
    case round =>
      obtain ⟨k, hk, rfl, rfl⟩ := hrel
      obtain ⟨m, hm⟩ : ∃ m, m = 1 + Re.sizes (r.kids.take k) := ⟨_, rfl⟩
      have hml : m ≤ z := by rw [hm, HS.out]; have := Re.sizes_take r.kids k; omega
      rw [← hm]
      have HM := hid hm
      clear hm
      by_cases hlt : k < n
      · obtain ⟨g, o, x, bx, rfl, c1, hx, -, hax, hg⟩ := HKA.out.at_ (k := k) hlt
        have hxs : x.size ≤ Re.sizes r.kids := getD_mem_size r.kids x (List.mem_of_getElem? hx)
        have HC := hid (HIH.out x (List.mem_of_getElem? hx) X bx w hax (by have := HS.out; omega))
        have HST : Hid (m + x.size = 1 + Re.sizes (r.kids.take (k + 1))) := hid (by
          obtain ⟨l1, e1⟩ := List.getElem?_eq_some_iff.1 hx
          rw [List.take_succ_eq_append_getElem l1, e1, Re.sizes_append, HM.out]
          simp [Re.sizes]; omega)
        have hmx : m + x.size ≤ z := by
          have := HST.out; have := HS.out; have := Re.sizes_take r.kids (k + 1); omega
        obtain ⟨y, hy⟩ : ∃ y, y = x.size := ⟨_, rfl⟩
        rw [← hy] at HC HST hmx
        unfold ptr at HC c1
        clear hx hax hxs hy
        go_wp2_with (go_at_call 24; refine HC.out.mono ?_; rintro e w' ⟨rfl, rfl⟩)
        go_round
        case rel => exact ⟨k + 1, by omega, by go_num, by rw [← HST.out]; go_num⟩
        case measure => simp [intOf]; omega
      · have HE : Hid (m = z) := hid (by
          rw [HM.out, List.take_of_length_le (by rw [← HN.out]; omega), HS.out])
        go_wp2_with fail
        go_ret
        exact ⟨by rw [HE.out]; rfl, rfl⟩

/-- The text of few letters of some numbers. -/
def letters (zs : List Int) : List UInt8 := zs.map fun n => UInt8.ofNat (97 + (n % 4).toNat)
/-- A slice of ints. -/
def Nums (w : World) (A : Option Addr) (n : Nat) (zs : List Int) : Prop := zs.length = n ∧ (0 < n → ∃ g o, A = some ⟨g, o, none⟩ ∧ g < w.heap.size ∧ ∀ j, j < n → w.cell? ⟨g, o + j, none⟩ = some (.int .i64 (zs.getD j 0)))
theorem Nums.below {w w' : World} {A : Option Addr} {n : Nat} {zs : List Int} (h : Nums w A n zs) (hk : Below w.heap.size w w') : Nums w' A n zs := by
  refine ⟨h.1, fun hn => ?_⟩
  obtain ⟨g, o, e, hg, hc⟩ := h.2 hn
  exact ⟨g, o, e, Nat.lt_of_lt_of_le hg hk.size, fun j hj => (hk.cell (p := ⟨g, o + j, none⟩) hg).trans (hc j hj)⟩

set_option maxRecDepth 100000 in
set_option maxHeartbeats 1000000 in
theorem some_any (A : Option Addr) (n c : Nat) (zs : List Int) (w : World) (hr : Nums w A n zs) (hn : n ≤ 1000000) :
    Calls Tryd.prog 18 #[.slice A n c] w fun e w' => e = .returned (.string ⟨(letters zs).toArray⟩) ∧ Below w.heap.size w w' := by
  have HR := hid hr
  have HL := hid hr.1
  clear hr
  go_enter Tryd.func18, Tryd.ntmps18
  go_wp2_with fail
  go_loopw [3, 8] (fun m i wr => ∃ k : Nat, k ≤ n ∧ i = .int .i64 k ∧ m = .string ⟨(letters (zs.take k)).toArray⟩ ∧ Hid (Below w.heap.size w wr)) (fun _ i _ => n - (intOf i).toNat)
  case atStart => exact ⟨0, Nat.zero_le _, rfl, rfl, Below.refl _ _⟩
  case round =>
    obtain ⟨k, hk, rfl, rfl, hbel⟩ := hrel
    by_cases hlt : k < n
    · obtain ⟨g, o, rfl, hg, hc⟩ := HR.out.2 (by omega)
      have c1 := (hbel.out.cell (p := ⟨g, o + k, none⟩) hg).trans (hc k hlt)
      have h4 := i64_and3 (zs.getD k 0)
      have hx0 : 0 ≤ zs.getD k 0 % 4 := Int.emod_nonneg _ (by decide)
      have hx4 : zs.getD k 0 % 4 < 4 := Int.emod_lt_of_pos _ (by decide)
      have HST : Hid (letters (zs.take (k + 1)) = letters (zs.take k) ++ [UInt8.ofNat (97 + (zs.getD k 0 % 4).toNat)]) := hid (by
        have hl : k < zs.length := by rw [HL.out]; exact hlt
        rw [List.take_succ_eq_append_getElem hl]
        unfold letters
        rw [List.map_append, List.map_cons, List.map_nil, List.getD_eq_getElem?_getD, List.getElem?_eq_getElem hl]
        rfl)
      have hll : (letters (zs.take k)).length ≤ 1000000 := by simp [letters]; omega
      generalize zs.getD k 0 = v at *
      generalize hx : v % 4 = x at *
      obtain ⟨y, rfl⟩ : ∃ y : Nat, x = y := ⟨x.toNat, by omega⟩
      clear hx hc
      have hcv := run_convert_bytes_arg (P := Tryd.prog) (wr.alloc (.cells #[.int .u8 (97 + (y : Int))] 5)) 53 5 Tryd.underlying53 Tryd.underlying5 wr.heap.size 0 1 1 [97 + (y : Int)] rfl (fun i hi => by
        obtain rfl : i = 0 := by omega
        exact cell0_new _ _ _) 9 Tryd.underlying9
      have hq : strOfNums [97 + (y : Int)] = ⟨[UInt8.ofNat (97 + y)].toArray⟩ := by
        simp only [strOfNums, List.map_cons, List.map_nil]
        rw [show (97 + (y : Int)).toNat = 97 + y by omega]
      rw [hq] at hcv
      have HAPP : Hid ((ByteArray.mk (letters (zs.take k)).toArray) ++ (ByteArray.mk #[97 + UInt8.ofNat y]) = ⟨(letters (zs.take (k + 1))).toArray⟩) := hid (by
        refine (ByteArray.mk_append_mk (letters (zs.take k)) [97 + UInt8.ofNat y]).trans ?_
        rw [HST.out]
        simp)
      clear hq
      go_wp2_with fail
      go_roundw
      case rel => exact ⟨k + 1, by omega, by go_num, congrArg Value.string HAPP.out, hbel.out.alloc hbel.out.size _⟩
      case measure => simp [intOf]; omega
    · go_wp2_with fail
      go_ret
      exact ⟨by rw [List.take_of_length_le (by rw [HL.out]; omega)]; rfl, hbel.out⟩
end Go.Proofs.YtihloigpdcinkaaDoor

/- The walk of settled: a settled expression is told to be one. -/
namespace Go.Proofs.YtihloigpdcinkaaDoor
open Go.RowKit

/-- What a call of settled comes to. -/
def SetFn_ (r : Re) : Prop := ∀ (X : Nat → Prop) (b : Nat) (w : World), ReAt w X r b → Calls Tryd.prog 22 #[ptr b] w fun e w' => e = .returned (.bool true) ∧ Below w.heap.size w w'
theorem clss_succ {l : List Re} {k : Nat} {x : Re} (hx : l[k]? = some x) : (clss (l.take (k + 1))).length = (clss (l.take k)).length + if x.op = 2 then 1 else 0 := by
  obtain ⟨l1, e1⟩ := List.getElem?_eq_some_iff.1 hx
  rw [List.take_succ_eq_append_getElem l1, e1, clss_append, List.length_append]
  cases x <;> simp [clss, Re.op]
theorem clss_le (l : List Re) : (clss l).length ≤ l.length := by
  induction l with
  | nil => simp [clss]
  | cons r l ih => cases r <;> simp [clss] <;> omega
theorem clss_take (l : List Re) (k : Nat) : (clss (l.take k)).length ≤ (clss l).length := by
  have := clss_append (l.take k) (l.drop k)
  rw [List.take_append_drop] at this
  rw [this, List.length_append]
  omega
theorem int_ne {a : Nat} {b : Nat} (h : a ≠ b) : ((a : Int) == (b : Int)) = false := by
  have : ¬ (a : Int) = (b : Int) := by omega
  simp [this]

set_option maxRecDepth 100000 in
set_option maxHeartbeats 2000000 in
theorem settled_none : SetFn_ .none := by
  intro X b w h; obtain ⟨A, c, bs, hbc, hcap, hrow⟩ := h.row; obtain ⟨k0, k1, k2, k3, k4, k5, -⟩ := cellsOf hbc; have hbl := lt_of_heap hbc
  clear h hbc hcap hrow
  simp only [Re.op, Re.kids, List.length_nil] at k0 k5
  unfold ptr
  go_enter Tryd.func22, Tryd.ntmps22
  go_wp2_with fail
  go_loop [14] (fun i => i = .int .i64 0) (fun _ => 0)
  case atStart => rfl
  case round =>
    obtain rfl := hrel
    go_wp2_with fail
    go_ret
    exact ⟨rfl, Below.refl _ _⟩
set_option maxRecDepth 100000 in
set_option maxHeartbeats 2000000 in
theorem settled_eps : SetFn_ .eps := by
  intro X b w h; obtain ⟨A, c, bs, hbc, hcap, hrow⟩ := h.row; obtain ⟨k0, k1, k2, k3, k4, k5, -⟩ := cellsOf hbc; have hbl := lt_of_heap hbc
  clear h hbc hcap hrow
  simp only [Re.op, Re.kids, List.length_nil] at k0 k5
  unfold ptr
  go_enter Tryd.func22, Tryd.ntmps22
  go_wp2_with fail
  go_loop [14] (fun i => i = .int .i64 0) (fun _ => 0)
  case atStart => rfl
  case round =>
    obtain rfl := hrel
    go_wp2_with fail
    go_ret
    exact ⟨rfl, Below.refl _ _⟩
set_option maxRecDepth 100000 in
set_option maxHeartbeats 2000000 in
theorem settled_cls (u : CSet) (hu : u ≠ CSet.zero) : SetFn_ (.cls u) := by
  intro X b w h; obtain ⟨A, c, bs, hbc, hcap, hrow⟩ := h.row; obtain ⟨k0, k1, k2, k3, k4, k5, -⟩ := cellsOf hbc; have hbl := lt_of_heap hbc
  have HE := hid (setEmpty_any u w)
  rw [decide_eq_false hu] at HE
  clear h hbc hcap hrow hu
  simp only [Re.op, Re.kids, Re.set, List.length_nil] at k0 k1 k2 k3 k4 k5
  unfold ptr
  unfold cv at HE
  go_enter Tryd.func22, Tryd.ntmps22
  go_wp2_with fail
  go_loop [14] (fun i => i = .int .i64 0) (fun _ => 0)
  case atStart => rfl
  case round =>
    obtain rfl := hrel
    go_wp2_with (go_at_call 62; refine HE.out.mono ?_; rintro e w2 ⟨rfl, hb1⟩; have HB2 := hid hb1; clear hb1)
    go_ret
    exact ⟨rfl, HB2.out⟩


set_option maxRecDepth 100000 in
set_option maxHeartbeats 2000000 in
theorem settled_cat (l : List Re) (hl : 2 ≤ l.length) (hl2 : l.length ≤ 1000000) (hop : ∀ k ∈ l, k.op ≠ 3 ∧ k.op ≠ 1) (ih : ∀ k ∈ l, SetFn_ k ∧ k.op ≠ 0) : SetFn_ (.cat l) := by
  intro X b w h; obtain ⟨A, c, bs, hbc, hcap, hrow⟩ := h.row; obtain ⟨k0, k1, k2, k3, k4, k5, -⟩ := cellsOf hbc; have hbl := lt_of_heap hbc
  simp only [Re.op, Re.kids] at k0 k5 hrow
  obtain ⟨n, hn⟩ : ∃ n, n = l.length := ⟨_, rfl⟩
  have HN := hid hn
  rw [← hn] at k5 hrow hl hl2
  have HROW := hid hrow
  have HIH := hid ih
  have HOP := hid hop
  clear h hbc hcap hrow k1 k2 k3 k4 ih hop hn
  unfold ptr
  go_enter Tryd.func22, Tryd.ntmps22
  go_wp2_with fail
  go_loopw [3, 14] (fun m i wr => ∃ k : Nat, k ≤ n ∧ i = .int .i64 k ∧ m = .int .i64 ((clss (l.take k)).length : Int) ∧ Hid (Below w.heap.size w wr)) (fun _ i _ => n - (intOf i).toNat)
  case atStart => exact ⟨0, Nat.zero_le _, rfl, rfl, Below.refl _ _⟩
  case round =>
    obtain ⟨k, hk, rfl, rfl, hbel⟩ := hrel
    obtain ⟨m, hm⟩ : ∃ m, m = (clss (l.take k)).length := ⟨_, rfl⟩
    have hml : m ≤ 1000000 := by rw [hm]; have := clss_le (l.take k); have := List.length_take_le k l; omega
    have HM := hid hm
    rw [← hm]
    clear hm
    by_cases hlt : k < n
    · obtain ⟨g, o, x, bx, rfl, c1, hx, -, hax, hg⟩ := HROW.out.at_ (k := k) hlt; have HSX := hid hax; obtain ⟨A2, c2, bs2, hxc, -, -⟩ := (hax.under hbel.out).row; obtain ⟨x0, -⟩ := cellsOf hxc; have hxl := lt_of_heap hxc; have c1 := (hbel.out.cell (p := ⟨g, o + k, none⟩) hg).trans c1; have r0 := (hbel.out.cell (p := ⟨b, 0, none⟩) hbl).trans k0; have r5 := (hbel.out.cell (p := ⟨b, 5, none⟩) hbl).trans k5; have hgr := Nat.lt_of_lt_of_le hg hbel.out.size; have hbr := Nat.lt_of_lt_of_le hbl hbel.out.size; have HX := hid hx; have HQ := HIH.out x (List.mem_of_getElem? hx); have HC := hid (HQ.1 X bx wr (hax.under hbel.out)); have hq0 : ((x.op : Int) == 0) = false := int_ne (b := 0) HQ.2; have HCS := hid (clss_succ hx)
      have hq3 : ((x.op : Int) == 3) = false := int_ne (b := 3) (HOP.out x (List.mem_of_getElem? hx)).1
      have hq1 : ((x.op : Int) == 1) = false := int_ne (b := 1) (HOP.out x (List.mem_of_getElem? hx)).2
      rw [← HM.out] at HCS
      unfold ptr at HC c1
      clear hx hxc hax HQ
      generalize x.op = q at *
      by_cases h2 : q = 2
      · have HM2 : Hid ((clss (l.take (k + 1))).length = m + 1) := hid (by rw [HCS.out, if_pos h2])
        clear HCS
        subst h2
        go_wp2_with (go_at_call 22; refine HC.out.mono ?_; rintro e w2 ⟨rfl, hb1⟩; have HB2 := hid hb1; have e0 := (hb1.cell (p := ⟨b, 0, none⟩) hbr).trans r0; have e5 := (hb1.cell (p := ⟨b, 5, none⟩) hbr).trans r5; have y0 := (hb1.cell (p := ⟨bx, 0, none⟩) hxl).trans x0; clear hb1)
        go_roundw; (case rel => exact ⟨k + 1, by omega, by go_num, by (rw [HM2.out] <;> go_num), hbel.out.trans (HB2.out.mono hbel.out.size)⟩); (case measure => simp [intOf]; omega)
      · have HM2 : Hid ((clss (l.take (k + 1))).length = m) := hid (by rw [HCS.out, if_neg h2]; rfl)
        have hq2 : ((q : Int) == 2) = false := int_ne (b := 2) h2
        clear HCS h2
        go_wp2_with (go_at_call 22; refine HC.out.mono ?_; rintro e w2 ⟨rfl, hb1⟩; have HB2 := hid hb1; have e0 := (hb1.cell (p := ⟨b, 0, none⟩) hbr).trans r0; have e5 := (hb1.cell (p := ⟨b, 5, none⟩) hbr).trans r5; have y0 := (hb1.cell (p := ⟨bx, 0, none⟩) hxl).trans x0; clear hb1)
        go_roundw; (case rel => exact ⟨k + 1, by omega, by go_num, by (rw [HM2.out] <;> go_num), hbel.out.trans (HB2.out.mono hbel.out.size)⟩); (case measure => simp [intOf]; omega)
    · have r0 := (hbel.out.cell (p := ⟨b, 0, none⟩) hbl).trans k0; have r5 := (hbel.out.cell (p := ⟨b, 5, none⟩) hbl).trans k5
      have hn2 : decide ((2 : Int) ≤ (n : Int)) = true := decide_eq_true (by omega)
      go_wp2_with fail
      go_ret
      exact ⟨by first | rfl | (rw [hn2]; rfl), hbel.out⟩
end Go.Proofs.YtihloigpdcinkaaDoor

/- The walk of settled: a choice, all of them, a star, one and not the other. -/
namespace Go.Proofs.YtihloigpdcinkaaDoor
open Go.RowKit


set_option maxRecDepth 100000 in
set_option maxHeartbeats 4000000 in
theorem settled_or (l : List Re) (hl : 2 ≤ l.length) (hl2 : l.length ≤ 1000000) (hop : ∀ k ∈ l, k.op ≠ 4) (hsrt : SSorted l) (hone : OneCls l) (ih : ∀ k ∈ l, SetFn_ k ∧ k.op ≠ 0) : SetFn_ (.or l) := by
  intro X b w h; obtain ⟨A, c, bs, hbc, hcap, hrow⟩ := h.row; obtain ⟨k0, k1, k2, k3, k4, k5, -⟩ := cellsOf hbc; have hbl := lt_of_heap hbc
  simp only [Re.op, Re.kids] at k0 k5 hrow
  obtain ⟨n, hn⟩ : ∃ n, n = l.length := ⟨_, rfl⟩
  have HN := hid hn
  rw [← hn] at k5 hrow hl hl2
  have HROW := hid hrow
  have HIH := hid ih
  have HOP := hid hop
  have HSRT := hid hsrt
  have HONE := hid hone
  clear h hbc hcap hrow k1 k2 k3 k4 ih hop hn hsrt hone
  unfold ptr
  go_enter Tryd.func22, Tryd.ntmps22
  go_wp2_with fail
  go_loopw [3, 14] (fun m i wr => ∃ k : Nat, k ≤ n ∧ i = .int .i64 k ∧ m = .int .i64 ((clss (l.take k)).length : Int) ∧ Hid (Below w.heap.size w wr)) (fun _ i _ => n - (intOf i).toNat)
  case atStart => exact ⟨0, Nat.zero_le _, rfl, rfl, Below.refl _ _⟩
  case round =>
    obtain ⟨k, hk, rfl, rfl, hbel⟩ := hrel
    obtain ⟨m, hm⟩ : ∃ m, m = (clss (l.take k)).length := ⟨_, rfl⟩
    have hml : m ≤ 1 := by rw [hm]; have h1 := clss_take l k; have h2 : (clss l).length ≤ 1 := HONE.out; omega
    have HM := hid hm
    rw [← hm]
    clear hm
    by_cases hlt : k < n
    · obtain ⟨g, o, x, bx, rfl, c1, hx, -, hax, hg⟩ := HROW.out.at_ (k := k) hlt; have HSX := hid hax; obtain ⟨A2, c2, bs2, hxc, -, -⟩ := (hax.under hbel.out).row; obtain ⟨x0, -⟩ := cellsOf hxc; have hxl := lt_of_heap hxc; have c1 := (hbel.out.cell (p := ⟨g, o + k, none⟩) hg).trans c1; have r0 := (hbel.out.cell (p := ⟨b, 0, none⟩) hbl).trans k0; have r5 := (hbel.out.cell (p := ⟨b, 5, none⟩) hbl).trans k5; have hgr := Nat.lt_of_lt_of_le hg hbel.out.size; have hbr := Nat.lt_of_lt_of_le hbl hbel.out.size; have HX := hid hx; have HQ := HIH.out x (List.mem_of_getElem? hx); have HC := hid (HQ.1 X bx wr (hax.under hbel.out)); have hq0 : ((x.op : Int) == 0) = false := int_ne (b := 0) HQ.2; have HCS := hid (clss_succ hx)
      have hq4 : ((x.op : Int) == 4) = false := int_ne (b := 4) (HOP.out x (List.mem_of_getElem? hx))
      rw [← HM.out] at HCS
      have HKX : Hid (∀ W, Below w.heap.size w W → ∀ m, Calls Tryd.prog 28 #[ptr bx] (W.drewN m) fun e w' => e = .returned (.string ⟨x.key.toArray⟩) ∧ ∃ m', w' = (W.drewN m).drewN m') := fun W hW m => (key_any _ X bx (W.drewN m) ((hax.under hW).drewN m)).mono fun e w' h => ⟨h.1, 0, by rw [← h.2]; rfl⟩
      by_cases hk0 : k = 0
      · subst hk0
        have hd0 : decide ((0 : Int) < 0) = false := rfl
        rw [Nat.add_zero] at c1
        unfold ptr at HC c1
        clear hx hxc hax HQ HKX
        generalize x.op = q at *
        by_cases h2 : q = 2
        · have HM2 : Hid ((clss (l.take (0 + 1))).length = m + 1) := hid (by rw [HCS.out, if_pos h2])
          clear HCS
          subst h2
          go_wp2_with (go_at_call 22; refine HC.out.mono ?_; rintro e w2 ⟨rfl, hb1⟩; have HB2 := hid hb1; have HBW2 := hid (hbel.out.trans (hb1.mono hbel.out.size)); have e0 := (hb1.cell (p := ⟨b, 0, none⟩) hbr).trans r0; have e5 := (hb1.cell (p := ⟨b, 5, none⟩) hbr).trans r5; have y0 := (hb1.cell (p := ⟨bx, 0, none⟩) hxl).trans x0; skip; clear hb1)
          go_quiet (fail)
          go_wp2_with fail
          go_roundw; (case rel => exact ⟨0 + 1, by omega, by go_num, by (rw [HM2.out] <;> go_num), hbel.out.trans ((HB2.out.mono hbel.out.size).trans (below_drewN _ _ _))⟩); (case measure => simp [intOf]; omega)
        · have HM2 : Hid ((clss (l.take (0 + 1))).length = m) := hid (by rw [HCS.out, if_neg h2]; rfl)
          have hq2 : ((q : Int) == 2) = false := int_ne (b := 2) h2
          clear HCS h2
          go_wp2_with (go_at_call 22; refine HC.out.mono ?_; rintro e w2 ⟨rfl, hb1⟩; have HB2 := hid hb1; have HBW2 := hid (hbel.out.trans (hb1.mono hbel.out.size)); have e0 := (hb1.cell (p := ⟨b, 0, none⟩) hbr).trans r0; have e5 := (hb1.cell (p := ⟨b, 5, none⟩) hbr).trans r5; have y0 := (hb1.cell (p := ⟨bx, 0, none⟩) hxl).trans x0; skip; clear hb1)
          go_quiet (fail)
          go_wp2_with fail
          go_roundw; (case rel => exact ⟨0 + 1, by omega, by go_num, by (rw [HM2.out] <;> go_num), hbel.out.trans ((HB2.out.mono hbel.out.size).trans (below_drewN _ _ _))⟩); (case measure => simp [intOf]; omega)
      · have i5 : (1 : Int) ≤ (k : Int) := by omega
        have i6 : 0 < k := by omega
        have i7 : (0 : Int) < (k : Int) := by omega
        obtain ⟨g', o', y, bp, e', c3, hy, -, hay, -⟩ := HROW.out.at_ (k := k - 1) (by omega)
        obtain ⟨rfl, rfl⟩ : g = g' ∧ o = o' := by simpa using e'
        have c3 := (hbel.out.cell (p := ⟨g, o + (k - 1), none⟩) hg).trans c3
        have HKY : Hid (∀ W, Below w.heap.size w W → ∀ m, Calls Tryd.prog 28 #[ptr bp] (W.drewN m) fun e w' => e = .returned (.string ⟨y.key.toArray⟩) ∧ ∃ m', w' = (W.drewN m).drewN m') := fun W hW m => (key_any _ X bp (W.drewN m) ((hay.under hW).drewN m)).mono fun e w' h => ⟨h.1, 0, by rw [← h.2]; rfl⟩
        have hless : Op.bytesLess y.key x.key = true := by
          obtain ⟨l1, e1⟩ := List.getElem?_eq_some_iff.1 hx
          obtain ⟨l2, e2⟩ := List.getElem?_eq_some_iff.1 hy
          have := List.pairwise_iff_getElem.1 HSRT.out (k - 1) k l2 l1 (by omega)
          rw [e1, e2] at this
          exact this
        generalize x.key = kx at *
        generalize y.key = ky at *
        unfold ptr at HC c1 c3 HKX HKY
        clear hx hxc hax HQ hy hay e'
        generalize x.op = q at *
        by_cases h2 : q = 2
        · have HM2 : Hid ((clss (l.take (k + 1))).length = m + 1) := hid (by rw [HCS.out, if_pos h2])
          clear HCS
          subst h2
          go_wp2_with (go_at_call 22; refine HC.out.mono ?_; rintro e w2 ⟨rfl, hb1⟩; have HB2 := hid hb1; have HBW2 := hid (hbel.out.trans (hb1.mono hbel.out.size)); have e0 := (hb1.cell (p := ⟨b, 0, none⟩) hbr).trans r0; have e5 := (hb1.cell (p := ⟨b, 5, none⟩) hbr).trans r5; have y0 := (hb1.cell (p := ⟨bx, 0, none⟩) hxl).trans x0; have d3 := (hb1.cell (p := ⟨g, o + (k - 1), none⟩) hgr).trans c3; clear hb1)
          go_quiet ((go_at_call 28; first | exact Calls.quiet_of (HKY.out _ HBW2.out _) | exact Calls.quiet_of (HKX.out _ HBW2.out _)))
          go_wp2_with fail
          go_roundw; (case rel => exact ⟨k + 1, by omega, by go_num, by (rw [HM2.out] <;> go_num), hbel.out.trans ((HB2.out.mono hbel.out.size).trans (below_drewN _ _ _))⟩); (case measure => simp [intOf]; omega)
        · have HM2 : Hid ((clss (l.take (k + 1))).length = m) := hid (by rw [HCS.out, if_neg h2]; rfl)
          have hq2 : ((q : Int) == 2) = false := int_ne (b := 2) h2
          clear HCS h2
          go_wp2_with (go_at_call 22; refine HC.out.mono ?_; rintro e w2 ⟨rfl, hb1⟩; have HB2 := hid hb1; have HBW2 := hid (hbel.out.trans (hb1.mono hbel.out.size)); have e0 := (hb1.cell (p := ⟨b, 0, none⟩) hbr).trans r0; have e5 := (hb1.cell (p := ⟨b, 5, none⟩) hbr).trans r5; have y0 := (hb1.cell (p := ⟨bx, 0, none⟩) hxl).trans x0; have d3 := (hb1.cell (p := ⟨g, o + (k - 1), none⟩) hgr).trans c3; clear hb1)
          go_quiet ((go_at_call 28; first | exact Calls.quiet_of (HKY.out _ HBW2.out _) | exact Calls.quiet_of (HKX.out _ HBW2.out _)))
          go_wp2_with fail
          go_roundw; (case rel => exact ⟨k + 1, by omega, by go_num, by (rw [HM2.out] <;> go_num), hbel.out.trans ((HB2.out.mono hbel.out.size).trans (below_drewN _ _ _))⟩); (case measure => simp [intOf]; omega)
    · have r0 := (hbel.out.cell (p := ⟨b, 0, none⟩) hbl).trans k0; have r5 := (hbel.out.cell (p := ⟨b, 5, none⟩) hbl).trans k5
      have hn2 : (2 : Int) ≤ (n : Int) := by omega
      have hm1 : (m : Int) ≤ 1 := by omega
      go_wp2_with fail
      go_ret
      exact ⟨by first | rfl | (rw [hn2]; rfl), hbel.out⟩

set_option maxRecDepth 100000 in
set_option maxHeartbeats 4000000 in
theorem settled_and (l : List Re) (hl : 2 ≤ l.length) (hl2 : l.length ≤ 1000000) (hop : ∀ k ∈ l, k.op ≠ 6) (hsrt : SSorted l) (hone : OneCls l) (ih : ∀ k ∈ l, SetFn_ k ∧ k.op ≠ 0) : SetFn_ (.and l) := by
  intro X b w h; obtain ⟨A, c, bs, hbc, hcap, hrow⟩ := h.row; obtain ⟨k0, k1, k2, k3, k4, k5, -⟩ := cellsOf hbc; have hbl := lt_of_heap hbc
  simp only [Re.op, Re.kids] at k0 k5 hrow
  obtain ⟨n, hn⟩ : ∃ n, n = l.length := ⟨_, rfl⟩
  have HN := hid hn
  rw [← hn] at k5 hrow hl hl2
  have HROW := hid hrow
  have HIH := hid ih
  have HOP := hid hop
  have HSRT := hid hsrt
  have HONE := hid hone
  clear h hbc hcap hrow k1 k2 k3 k4 ih hop hn hsrt hone
  unfold ptr
  go_enter Tryd.func22, Tryd.ntmps22
  go_wp2_with fail
  go_loopw [3, 14] (fun m i wr => ∃ k : Nat, k ≤ n ∧ i = .int .i64 k ∧ m = .int .i64 ((clss (l.take k)).length : Int) ∧ Hid (Below w.heap.size w wr)) (fun _ i _ => n - (intOf i).toNat)
  case atStart => exact ⟨0, Nat.zero_le _, rfl, rfl, Below.refl _ _⟩
  case round =>
    obtain ⟨k, hk, rfl, rfl, hbel⟩ := hrel
    obtain ⟨m, hm⟩ : ∃ m, m = (clss (l.take k)).length := ⟨_, rfl⟩
    have hml : m ≤ 1 := by rw [hm]; have h1 := clss_take l k; have h2 : (clss l).length ≤ 1 := HONE.out; omega
    have HM := hid hm
    rw [← hm]
    clear hm
    by_cases hlt : k < n
    · obtain ⟨g, o, x, bx, rfl, c1, hx, -, hax, hg⟩ := HROW.out.at_ (k := k) hlt; have HSX := hid hax; obtain ⟨A2, c2, bs2, hxc, -, -⟩ := (hax.under hbel.out).row; obtain ⟨x0, -⟩ := cellsOf hxc; have hxl := lt_of_heap hxc; have c1 := (hbel.out.cell (p := ⟨g, o + k, none⟩) hg).trans c1; have r0 := (hbel.out.cell (p := ⟨b, 0, none⟩) hbl).trans k0; have r5 := (hbel.out.cell (p := ⟨b, 5, none⟩) hbl).trans k5; have hgr := Nat.lt_of_lt_of_le hg hbel.out.size; have hbr := Nat.lt_of_lt_of_le hbl hbel.out.size; have HX := hid hx; have HQ := HIH.out x (List.mem_of_getElem? hx); have HC := hid (HQ.1 X bx wr (hax.under hbel.out)); have hq0 : ((x.op : Int) == 0) = false := int_ne (b := 0) HQ.2; have HCS := hid (clss_succ hx)
      have hq4 : ((x.op : Int) == 6) = false := int_ne (b := 6) (HOP.out x (List.mem_of_getElem? hx))
      rw [← HM.out] at HCS
      have HKX : Hid (∀ W, Below w.heap.size w W → ∀ m, Calls Tryd.prog 28 #[ptr bx] (W.drewN m) fun e w' => e = .returned (.string ⟨x.key.toArray⟩) ∧ ∃ m', w' = (W.drewN m).drewN m') := fun W hW m => (key_any _ X bx (W.drewN m) ((hax.under hW).drewN m)).mono fun e w' h => ⟨h.1, 0, by rw [← h.2]; rfl⟩
      by_cases hk0 : k = 0
      · subst hk0
        have hd0 : decide ((0 : Int) < 0) = false := rfl
        rw [Nat.add_zero] at c1
        unfold ptr at HC c1
        clear hx hxc hax HQ HKX
        generalize x.op = q at *
        by_cases h2 : q = 2
        · have HM2 : Hid ((clss (l.take (0 + 1))).length = m + 1) := hid (by rw [HCS.out, if_pos h2])
          clear HCS
          subst h2
          go_wp2_with (go_at_call 22; refine HC.out.mono ?_; rintro e w2 ⟨rfl, hb1⟩; have HB2 := hid hb1; have HBW2 := hid (hbel.out.trans (hb1.mono hbel.out.size)); have e0 := (hb1.cell (p := ⟨b, 0, none⟩) hbr).trans r0; have e5 := (hb1.cell (p := ⟨b, 5, none⟩) hbr).trans r5; have y0 := (hb1.cell (p := ⟨bx, 0, none⟩) hxl).trans x0; skip; clear hb1)
          go_quiet (fail)
          go_wp2_with fail
          go_roundw; (case rel => exact ⟨0 + 1, by omega, by go_num, by (rw [HM2.out] <;> go_num), hbel.out.trans ((HB2.out.mono hbel.out.size).trans (below_drewN _ _ _))⟩); (case measure => simp [intOf]; omega)
        · have HM2 : Hid ((clss (l.take (0 + 1))).length = m) := hid (by rw [HCS.out, if_neg h2]; rfl)
          have hq2 : ((q : Int) == 2) = false := int_ne (b := 2) h2
          clear HCS h2
          go_wp2_with (go_at_call 22; refine HC.out.mono ?_; rintro e w2 ⟨rfl, hb1⟩; have HB2 := hid hb1; have HBW2 := hid (hbel.out.trans (hb1.mono hbel.out.size)); have e0 := (hb1.cell (p := ⟨b, 0, none⟩) hbr).trans r0; have e5 := (hb1.cell (p := ⟨b, 5, none⟩) hbr).trans r5; have y0 := (hb1.cell (p := ⟨bx, 0, none⟩) hxl).trans x0; skip; clear hb1)
          go_quiet (fail)
          go_wp2_with fail
          go_roundw; (case rel => exact ⟨0 + 1, by omega, by go_num, by (rw [HM2.out] <;> go_num), hbel.out.trans ((HB2.out.mono hbel.out.size).trans (below_drewN _ _ _))⟩); (case measure => simp [intOf]; omega)
      · have i5 : (1 : Int) ≤ (k : Int) := by omega
        have i6 : 0 < k := by omega
        have i7 : (0 : Int) < (k : Int) := by omega
        obtain ⟨g', o', y, bp, e', c3, hy, -, hay, -⟩ := HROW.out.at_ (k := k - 1) (by omega)
        obtain ⟨rfl, rfl⟩ : g = g' ∧ o = o' := by simpa using e'
        have c3 := (hbel.out.cell (p := ⟨g, o + (k - 1), none⟩) hg).trans c3
        have HKY : Hid (∀ W, Below w.heap.size w W → ∀ m, Calls Tryd.prog 28 #[ptr bp] (W.drewN m) fun e w' => e = .returned (.string ⟨y.key.toArray⟩) ∧ ∃ m', w' = (W.drewN m).drewN m') := fun W hW m => (key_any _ X bp (W.drewN m) ((hay.under hW).drewN m)).mono fun e w' h => ⟨h.1, 0, by rw [← h.2]; rfl⟩
        have hless : Op.bytesLess y.key x.key = true := by
          obtain ⟨l1, e1⟩ := List.getElem?_eq_some_iff.1 hx
          obtain ⟨l2, e2⟩ := List.getElem?_eq_some_iff.1 hy
          have := List.pairwise_iff_getElem.1 HSRT.out (k - 1) k l2 l1 (by omega)
          rw [e1, e2] at this
          exact this
        generalize x.key = kx at *
        generalize y.key = ky at *
        unfold ptr at HC c1 c3 HKX HKY
        clear hx hxc hax HQ hy hay e'
        generalize x.op = q at *
        by_cases h2 : q = 2
        · have HM2 : Hid ((clss (l.take (k + 1))).length = m + 1) := hid (by rw [HCS.out, if_pos h2])
          clear HCS
          subst h2
          go_wp2_with (go_at_call 22; refine HC.out.mono ?_; rintro e w2 ⟨rfl, hb1⟩; have HB2 := hid hb1; have HBW2 := hid (hbel.out.trans (hb1.mono hbel.out.size)); have e0 := (hb1.cell (p := ⟨b, 0, none⟩) hbr).trans r0; have e5 := (hb1.cell (p := ⟨b, 5, none⟩) hbr).trans r5; have y0 := (hb1.cell (p := ⟨bx, 0, none⟩) hxl).trans x0; have d3 := (hb1.cell (p := ⟨g, o + (k - 1), none⟩) hgr).trans c3; clear hb1)
          go_quiet ((go_at_call 28; first | exact Calls.quiet_of (HKY.out _ HBW2.out _) | exact Calls.quiet_of (HKX.out _ HBW2.out _)))
          go_wp2_with fail
          go_roundw; (case rel => exact ⟨k + 1, by omega, by go_num, by (rw [HM2.out] <;> go_num), hbel.out.trans ((HB2.out.mono hbel.out.size).trans (below_drewN _ _ _))⟩); (case measure => simp [intOf]; omega)
        · have HM2 : Hid ((clss (l.take (k + 1))).length = m) := hid (by rw [HCS.out, if_neg h2]; rfl)
          have hq2 : ((q : Int) == 2) = false := int_ne (b := 2) h2
          clear HCS h2
          go_wp2_with (go_at_call 22; refine HC.out.mono ?_; rintro e w2 ⟨rfl, hb1⟩; have HB2 := hid hb1; have HBW2 := hid (hbel.out.trans (hb1.mono hbel.out.size)); have e0 := (hb1.cell (p := ⟨b, 0, none⟩) hbr).trans r0; have e5 := (hb1.cell (p := ⟨b, 5, none⟩) hbr).trans r5; have y0 := (hb1.cell (p := ⟨bx, 0, none⟩) hxl).trans x0; have d3 := (hb1.cell (p := ⟨g, o + (k - 1), none⟩) hgr).trans c3; clear hb1)
          go_quiet ((go_at_call 28; first | exact Calls.quiet_of (HKY.out _ HBW2.out _) | exact Calls.quiet_of (HKX.out _ HBW2.out _)))
          go_wp2_with fail
          go_roundw; (case rel => exact ⟨k + 1, by omega, by go_num, by (rw [HM2.out] <;> go_num), hbel.out.trans ((HB2.out.mono hbel.out.size).trans (below_drewN _ _ _))⟩); (case measure => simp [intOf]; omega)
    · have r0 := (hbel.out.cell (p := ⟨b, 0, none⟩) hbl).trans k0; have r5 := (hbel.out.cell (p := ⟨b, 5, none⟩) hbl).trans k5
      have hn2 : (2 : Int) ≤ (n : Int) := by omega
      have hm1 : (m : Int) ≤ 1 := by omega
      go_wp2_with fail
      go_ret
      exact ⟨by first | rfl | (rw [hn2]; rfl), hbel.out⟩

set_option maxRecDepth 100000 in
set_option maxHeartbeats 2000000 in
theorem settled_star (y : Re) (hop : y.op ≠ 5 ∧ y.op ≠ 1) (ihy : SetFn_ y ∧ y.op ≠ 0) : SetFn_ (.star y) := by
  intro X b w h; obtain ⟨A, c, bs, hbc, hcap, hrow⟩ := h.row; obtain ⟨k0, k1, k2, k3, k4, k5, -⟩ := cellsOf hbc; have hbl := lt_of_heap hbc
  obtain ⟨l, hl⟩ : ∃ l, l = [y] := ⟨_, rfl⟩
  have HIH : Hid (∀ k ∈ l, SetFn_ k ∧ k.op ≠ 0) := hid (by rw [hl]; intro k hk; rw [List.mem_singleton.1 hk]; exact ihy)
  have HOP : Hid (∀ k ∈ l, k.op ≠ 5 ∧ k.op ≠ 1) := hid (by rw [hl]; intro k hk; rw [List.mem_singleton.1 hk]; exact hop)
  simp only [Re.op, Re.kids] at k0 k5 hrow
  rw [← hl] at k5 hrow
  obtain ⟨n, hn⟩ : ∃ n, n = l.length := ⟨_, rfl⟩
  have hn1 : n = 1 := by rw [hn, hl]; rfl
  have HN := hid hn
  rw [← hn] at k5 hrow
  have HROW := hid hrow
  clear h hbc hcap hrow k1 k2 k3 k4 ihy hop hn hl
  unfold ptr
  go_enter Tryd.func22, Tryd.ntmps22
  go_wp2_with fail
  go_loopw [3, 14] (fun m i wr => ∃ k : Nat, k ≤ n ∧ i = .int .i64 k ∧ m = .int .i64 ((clss (l.take k)).length : Int) ∧ Hid (Below w.heap.size w wr)) (fun _ i _ => n - (intOf i).toNat)
  case atStart => exact ⟨0, Nat.zero_le _, rfl, rfl, Below.refl _ _⟩
  case round =>
    obtain ⟨k, hk, rfl, rfl, hbel⟩ := hrel
    obtain ⟨m, hm⟩ : ∃ m, m = (clss (l.take k)).length := ⟨_, rfl⟩
    have hml : m ≤ 1000000 := by rw [hm]; have := clss_le (l.take k); have := List.length_take_le k l; omega
    have HM := hid hm
    rw [← hm]
    clear hm
    by_cases hlt : k < n
    · obtain ⟨g, o, x, bx, rfl, c1, hx, -, hax, hg⟩ := HROW.out.at_ (k := k) hlt; have HSX := hid hax; obtain ⟨A2, c2, bs2, hxc, -, -⟩ := (hax.under hbel.out).row; obtain ⟨x0, -⟩ := cellsOf hxc; have hxl := lt_of_heap hxc; have c1 := (hbel.out.cell (p := ⟨g, o + k, none⟩) hg).trans c1; have r0 := (hbel.out.cell (p := ⟨b, 0, none⟩) hbl).trans k0; have r5 := (hbel.out.cell (p := ⟨b, 5, none⟩) hbl).trans k5; have hgr := Nat.lt_of_lt_of_le hg hbel.out.size; have hbr := Nat.lt_of_lt_of_le hbl hbel.out.size; have HX := hid hx; have HQ := HIH.out x (List.mem_of_getElem? hx); have HC := hid (HQ.1 X bx wr (hax.under hbel.out)); have hq0 : ((x.op : Int) == 0) = false := int_ne (b := 0) HQ.2; have HCS := hid (clss_succ hx)
      have hq3 : ((x.op : Int) == 5) = false := int_ne (b := 5) (HOP.out x (List.mem_of_getElem? hx)).1
      have hq1 : ((x.op : Int) == 1) = false := int_ne (b := 1) (HOP.out x (List.mem_of_getElem? hx)).2
      rw [← HM.out] at HCS
      unfold ptr at HC c1
      clear hx hxc hax HQ
      generalize x.op = q at *
      by_cases h2 : q = 2
      · have HM2 : Hid ((clss (l.take (k + 1))).length = m + 1) := hid (by rw [HCS.out, if_pos h2])
        clear HCS
        subst h2
        go_wp2_with (go_at_call 22; refine HC.out.mono ?_; rintro e w2 ⟨rfl, hb1⟩; have HB2 := hid hb1; have e0 := (hb1.cell (p := ⟨b, 0, none⟩) hbr).trans r0; have e5 := (hb1.cell (p := ⟨b, 5, none⟩) hbr).trans r5; have y0 := (hb1.cell (p := ⟨bx, 0, none⟩) hxl).trans x0; clear hb1)
        go_roundw; (case rel => exact ⟨k + 1, by omega, by go_num, by (rw [HM2.out] <;> go_num), hbel.out.trans (HB2.out.mono hbel.out.size)⟩); (case measure => simp [intOf]; omega)
      · have HM2 : Hid ((clss (l.take (k + 1))).length = m) := hid (by rw [HCS.out, if_neg h2]; rfl)
        have hq2 : ((q : Int) == 2) = false := int_ne (b := 2) h2
        clear HCS h2
        go_wp2_with (go_at_call 22; refine HC.out.mono ?_; rintro e w2 ⟨rfl, hb1⟩; have HB2 := hid hb1; have e0 := (hb1.cell (p := ⟨b, 0, none⟩) hbr).trans r0; have e5 := (hb1.cell (p := ⟨b, 5, none⟩) hbr).trans r5; have y0 := (hb1.cell (p := ⟨bx, 0, none⟩) hxl).trans x0; clear hb1)
        go_roundw; (case rel => exact ⟨k + 1, by omega, by go_num, by (rw [HM2.out] <;> go_num), hbel.out.trans (HB2.out.mono hbel.out.size)⟩); (case measure => simp [intOf]; omega)
    · have r0 := (hbel.out.cell (p := ⟨b, 0, none⟩) hbl).trans k0; have r5 := (hbel.out.cell (p := ⟨b, 5, none⟩) hbl).trans k5
      rw [hn1] at *
      go_wp2_with fail
      go_ret
      exact ⟨rfl, hbel.out⟩
end Go.Proofs.YtihloigpdcinkaaDoor

/- The walk of settled: one and not the other; every settled expression. -/
namespace Go.Proofs.YtihloigpdcinkaaDoor
open Go.RowKit

set_option maxRecDepth 100000 in
set_option maxHeartbeats 4000000 in
theorem settled_minus (u v : Re) (hne : u ≠ v) (hcl : ¬ (u.op = 2 ∧ v.op = 2)) (ihu : SetFn_ u ∧ u.op ≠ 0) (ihv : SetFn_ v ∧ v.op ≠ 0) : SetFn_ (.minus u v) := by
  intro X b w h; obtain ⟨A, c, bs, hbc, hcap, hrow⟩ := h.row; obtain ⟨k0, k1, k2, k3, k4, k5, -⟩ := cellsOf hbc; have hbl := lt_of_heap hbc
  obtain ⟨l, hl⟩ : ∃ l, l = [u, v] := ⟨_, rfl⟩
  have HIH : Hid (∀ k ∈ l, SetFn_ k ∧ k.op ≠ 0) := hid (by
    rw [hl]; intro k hk
    have e : k = u ∨ k = v := by simpa using hk
    rcases e with e | e
    · rw [e]; exact ihu
    · rw [e]; exact ihv)
  simp only [Re.op, Re.kids] at k0 k5 hrow
  obtain ⟨g, o, u', bu, rfl, p0, hu, -, hau, hg⟩ := hrow.at_ (k := 0) (by simp)
  obtain ⟨g', o', v', bv, e', p1, hv, -, hav, -⟩ := hrow.at_ (k := 1) (by simp)
  obtain ⟨rfl, rfl⟩ : g = g' ∧ o = o' := by simpa using e'
  have hu : u = u' := by simpa using hu
  have hv : v = v' := by simpa using hv
  subst hu; subst hv
  rw [Nat.add_zero] at p0
  have HSM : Hid (∀ W, Below w.heap.size w W → ∀ m, Calls Tryd.prog 15 #[ptr bu, ptr bv] (W.drewN m) fun e w' => e = .returned (.bool false) ∧ ∃ m', w' = (W.drewN m).drewN m') := fun W hW m =>
    (same_any u v X X bu bv (W.drewN m) ((hau.under hW).drewN m) ((hav.under hW).drewN m)).mono fun e w' h => ⟨by
      rw [h.1]
      have : (u.key == v.key) = false := by
        rw [← Bool.not_eq_true, beq_iff_eq]
        exact fun e => hne (Re.key_inj e)
      rw [this], 0, by rw [← h.2]; rfl⟩
  have hone : (clss l).length ≤ 1 := by
    rw [hl]
    cases u <;> cases v <;> first | (simp [clss]; done) | exact absurd ⟨rfl, rfl⟩ hcl
  rw [← hl] at k5 hrow
  obtain ⟨n, hn⟩ : ∃ n, n = l.length := ⟨_, rfl⟩
  have hn1 : n = 2 := by rw [hn, hl]; rfl
  have HN := hid hn
  rw [← hn] at k5 hrow
  have HROW := hid hrow
  clear h hbc hcap hrow k1 k2 k3 k4 ihu ihv hn hl hau hav e' hne hcl
  unfold ptr
  unfold ptr at p0 p1 HSM
  go_enter Tryd.func22, Tryd.ntmps22
  go_wp2_with fail
  go_loopw [3, 14] (fun m i wr => ∃ k : Nat, k ≤ n ∧ i = .int .i64 k ∧ m = .int .i64 ((clss (l.take k)).length : Int) ∧ Hid (Below w.heap.size w wr)) (fun _ i _ => n - (intOf i).toNat)
  case atStart => exact ⟨0, Nat.zero_le _, rfl, rfl, Below.refl _ _⟩
  case round =>
    obtain ⟨k, hk, rfl, rfl, hbel⟩ := hrel
    obtain ⟨m, hm⟩ : ∃ m, m = (clss (l.take k)).length := ⟨_, rfl⟩
    have hml : m ≤ 1 := by rw [hm]; have h1 := clss_take l k; omega
    have HM := hid hm
    rw [← hm]
    clear hm
    by_cases hlt : k < n
    · obtain ⟨g1, o1, x, bx, e1, c1, hx, -, hax, -⟩ := HROW.out.at_ (k := k) hlt; obtain ⟨rfl, rfl⟩ : g = g1 ∧ o = o1 := by simpa using e1
      have HSX := hid hax; obtain ⟨A2, c2, bs2, hxc, -, -⟩ := (hax.under hbel.out).row; obtain ⟨x0, -⟩ := cellsOf hxc; have hxl := lt_of_heap hxc; have c1 := (hbel.out.cell (p := ⟨g, o + k, none⟩) hg).trans c1; have r0 := (hbel.out.cell (p := ⟨b, 0, none⟩) hbl).trans k0; have r5 := (hbel.out.cell (p := ⟨b, 5, none⟩) hbl).trans k5; have hgr := Nat.lt_of_lt_of_le hg hbel.out.size; have hbr := Nat.lt_of_lt_of_le hbl hbel.out.size; have HX := hid hx; have HQ := HIH.out x (List.mem_of_getElem? hx); have HC := hid (HQ.1 X bx wr (hax.under hbel.out)); have hq0 : ((x.op : Int) == 0) = false := int_ne (b := 0) HQ.2; have HCS := hid (clss_succ hx)
      rw [← HM.out] at HCS
      unfold ptr at HC c1
      clear hx hxc hax HQ e1 p0 p1
      generalize x.op = q at *
      by_cases h2 : q = 2
      · have HM2 : Hid ((clss (l.take (k + 1))).length = m + 1) := hid (by rw [HCS.out, if_pos h2])
        clear HCS
        subst h2
        go_wp2_with (go_at_call 22; refine HC.out.mono ?_; rintro e w2 ⟨rfl, hb1⟩; have HB2 := hid hb1; have e0 := (hb1.cell (p := ⟨b, 0, none⟩) hbr).trans r0; have e5 := (hb1.cell (p := ⟨b, 5, none⟩) hbr).trans r5; have y0 := (hb1.cell (p := ⟨bx, 0, none⟩) hxl).trans x0; clear hb1)
        go_roundw; (case rel => exact ⟨k + 1, by omega, by go_num, by (rw [HM2.out] <;> go_num), hbel.out.trans (HB2.out.mono hbel.out.size)⟩); (case measure => simp [intOf]; omega)
      · have HM2 : Hid ((clss (l.take (k + 1))).length = m) := hid (by rw [HCS.out, if_neg h2]; rfl)
        have hq2 : ((q : Int) == 2) = false := int_ne (b := 2) h2
        clear HCS h2
        go_wp2_with (go_at_call 22; refine HC.out.mono ?_; rintro e w2 ⟨rfl, hb1⟩; have HB2 := hid hb1; have e0 := (hb1.cell (p := ⟨b, 0, none⟩) hbr).trans r0; have e5 := (hb1.cell (p := ⟨b, 5, none⟩) hbr).trans r5; have y0 := (hb1.cell (p := ⟨bx, 0, none⟩) hxl).trans x0; clear hb1)
        go_roundw; (case rel => exact ⟨k + 1, by omega, by go_num, by (rw [HM2.out] <;> go_num), hbel.out.trans (HB2.out.mono hbel.out.size)⟩); (case measure => simp [intOf]; omega)
    · have r0 := (hbel.out.cell (p := ⟨b, 0, none⟩) hbl).trans k0; have r5 := (hbel.out.cell (p := ⟨b, 5, none⟩) hbl).trans k5
      have d0 := (hbel.out.cell (p := ⟨g, o, none⟩) hg).trans p0; have d1 := (hbel.out.cell (p := ⟨g, o + 1, none⟩) hg).trans p1
      have hm1 : (m : Int) ≤ 1 := by omega
      have i0 : (0 : Int) < 2 := by decide
      have i1 : (1 : Int) < 2 := by decide
      rw [hn1] at *
      have HSM2 := hid (HSM.out wr hbel.out)
      clear p0 p1 k0 k5
      go_wp2_with fail
      go_quiet ((go_at_call 15; exact Calls.quiet_of (HSM2.out _)))
      go_wp2_with fail
      go_ret
      exact ⟨rfl, hbel.out.trans (below_drewN _ _ _)⟩
theorem settled_any (r : Re) : Good r → r.size ≤ 1000000 → SetFn_ r := by
  induction r using Re.ind_ with
  | h r ih =>
    intro hg hsz
    have hk : ∀ k ∈ r.kids, SetFn_ k ∧ k.op ≠ 0 := fun k hk => ⟨ih k hk (hg.kid hk).1 (by
      have := getD_mem_size r.kids k hk
      have := Re.size_kids r
      omega), (hg.kid hk).2⟩
    have hl : r.kids.length ≤ 1000000 := by
      have := Re.length_le_sizes r.kids
      have := Re.size_kids r
      omega
    have hf := hg.fit
    cases r with
    | none => exact settled_none
    | eps => exact settled_eps
    | cls u => exact settled_cls u hf
    | cat l => exact settled_cat l hf.1 hl hf.2 hk
    | or l => exact settled_or l hf.1 hl hf.2.1 hf.2.2.1 hf.2.2.2 hk
    | star x => exact settled_star x hf (hk x (by simp [Re.kids]))
    | and l => exact settled_and l hf.1 hl hf.2.1 hf.2.2.1 hf.2.2.2 hk
    | minus x y => exact settled_minus x y hf.1 hf.2 (hk x (by simp [Re.kids])) (hk y (by simp [Re.kids]))
end Go.Proofs.YtihloigpdcinkaaDoor
