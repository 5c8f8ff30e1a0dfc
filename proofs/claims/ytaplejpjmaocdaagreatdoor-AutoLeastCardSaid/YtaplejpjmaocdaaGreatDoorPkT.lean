/- PkT: TextsW, PureW, LeastT, each with its own sentence. -/
import Derived.Test.YtaplejpjmaocdaaGreatDoorPkS
import Derived.Test.YtaplejpjmaocdaaGreatDoorPkJ
/- The walk of law 07's Texts: all texts of few letters, the least first. -/
namespace Go.Proofs.YtaplejpjmaocdaaGreatDoor
open Go.RowKit Go.Maps

def four (s : Txt) : List Txt := [s ++ [97], s ++ [98], s ++ [99], s ++ [100]]
def nextT (l : List Txt) : List Txt := l.flatMap four
def levT : Nat → List Txt
  | 0 => [[]]
  | k + 1 => nextT (levT k)
def textsT : Nat → List Txt
  | 0 => [[]]
  | k + 1 => textsT k ++ levT (k + 1)
def strs (l : List Txt) : List Value := l.map fun t => Value.string ⟨t.toArray⟩
theorem strs_len (l : List Txt) : (strs l).length = l.length := by simp [strs]
theorem strs_app (l m : List Txt) : strs (l ++ m) = strs l ++ strs m := by simp [strs]
theorem one_str : OneCell 118 9 (.string ⟨#[]⟩) 16 := ⟨Tryz.underlying118, by kernel_rfl, by decide, rfl⟩
theorem nextT_take {l : List Txt} {j : Nat} {s : Txt} (h : l[j]? = some s) : nextT (l.take (j + 1)) = nextT (l.take j) ++ four s := by
  unfold nextT
  rw [List.take_add_one, h, List.flatMap_append]
  simp
theorem four_take (s : Txt) (d : Nat) (hd : d < 4) : (four s).take (d + 1) = (four s).take d ++ [s ++ [UInt8.ofNat (97 + d)]] := by
  have : d = 0 ∨ d = 1 ∨ d = 2 ∨ d = 3 := by omega
  rcases this with rfl | rfl | rfl | rfl <;> rfl
theorem strs_step (Y : List Txt) (s : Txt) (d : Nat) (hd : d < 4) : strs (Y ++ (four s).take d) ++ [Value.string ⟨(s ++ [UInt8.ofNat (97 + d)]).toArray⟩] = strs (Y ++ (four s).take (d + 1)) := by
  rw [four_take s d hd, ← List.append_assoc, strs_app (Y ++ (four s).take d)]
  rfl
theorem nextT_len (l : List Txt) : (nextT l).length = 4 * l.length := by
  unfold nextT
  induction l with
  | nil => rfl
  | cons s l ih => rw [List.flatMap_cons, List.length_append, ih]; simp [four]; omega
theorem levT_len (k : Nat) : (levT k).length = 4 ^ k := by
  induction k with
  | zero => rfl
  | succ k ih => rw [levT, nextT_len, ih, Nat.pow_succ, Nat.mul_comm]
theorem levT_size : ∀ (k : Nat), ∀ t ∈ levT k, t.length = k
  | 0, t, h => by have : t = [] := by simpa [levT] using h
                  rw [this]; rfl
  | k + 1, t, h => by
    obtain ⟨s, hs, ht⟩ := List.mem_flatMap.1 h
    have := levT_size k s hs
    simp only [four, List.mem_cons, List.not_mem_nil, or_false] at ht
    rcases ht with rfl | rfl | rfl | rfl <;> simp [this]
/-- How the texts lie. -/
structure TxI (w0 w : World) (base : Nat) (vo vl : Value) (k : Nat) : Prop where
  ho : w.ownsRow base 9 1 vo (strs (textsT k)).length (strs (textsT k))
  hl : ∃ A c, vl = .slice A (levT k).length c ∧ Rd w A (levT k).length (strs (levT k))
  kp : Below base w0 w
  bz : base ≤ w.heap.size
theorem TxI.below {w0 w w' : World} {base : Nat} {vo vl : Value} {k : Nat} (h : TxI w0 w base vo vl k) (hb : Below w.heap.size w w') : TxI w0 w' base vo vl k where
  ho := row_blk h.ho fun j e => hb.block j (World.ownsRow.lt h.ho j e).2
  hl := by obtain ⟨A, c, e, hr⟩ := h.hl; exact ⟨A, c, e, hr.below hb⟩
  kp := h.kp.trans (hb.mono h.bz)
  bz := Nat.le_trans h.bz hb.size
set_option maxRecDepth 100000 in
set_option maxHeartbeats 4000000 in
theorem texts_any (m : Nat) (hm : m ≤ 4) (w : World) :
    Calls Tryz.prog 74 #[.int .i64 m] w fun e w' => ∃ A c, e = .returned (.slice A (textsT m).length c) ∧ Rd w' A (textsT m).length (strs (textsT m)) ∧ Below w.heap.size w w' := by
  go_enter Tryz.func74, Tryz.ntmps74
  go_wp2_with fail
  obtain ⟨base, hbase⟩ : ∃ b, b = w.heap.size := ⟨_, rfl⟩
  obtain ⟨w1, hw1⟩ : ∃ W : World, W = w.alloc (.cells #[Value.string ⟨#[]⟩] 9) := ⟨_, rfl⟩
  rw [← hw1, ← hbase]
  have hk1 : w1.heap[base]? = some (.cells #[Value.string ⟨#[]⟩] 9 (0, 0)) := by rw [hw1, hbase]; exact blk_new w _
  have hb1 : Below base w w1 := by rw [hw1, hbase]; exact (Below.refl _ _).alloc (Nat.le_refl _) _
  have hown : w1.ownsRow base 9 1 (.slice (some ⟨base, 0, none⟩) 1 1) (strs (textsT 0)).length (strs (textsT 0)) := ⟨rfl, .inr ⟨base, 1, #[Value.string ⟨#[]⟩], rfl, Nat.le_refl _, hk1, Nat.le_refl _, by decide, rfl, rfl⟩⟩
  have HI0 : Hid (TxI w w1 base (.slice (some ⟨base, 0, none⟩) 1 1) (.slice (some ⟨base, 0, none⟩) 1 1) 0) := hid
    { ho := hown, hl := by obtain ⟨A, c, e, hr, -⟩ := rdV_of hown; cases e; exact ⟨_, _, rfl, hr⟩
      kp := hb1, bz := Nat.le_of_lt (lt_of_heap hk1) }
  have HBS := hid hbase
  clear hw1 hk1 hb1 hown hbase
  go_loopw [3, 4, 5] (fun vo vl iv wr => ∃ k : Nat, k ≤ m ∧ iv = .int .i64 k ∧ Hid (TxI w wr base vo vl k)) (fun _ _ iv _ => m - (intOf iv).toNat)
  case atStart => exact ⟨0, Nat.zero_le _, rfl, HI0.out⟩
  case round =>
    obtain ⟨k, hk, rfl, hin⟩ := hrel
    obtain ⟨wq, hwq⟩ : ∃ W : World, W = wr := ⟨_, rfl⟩
    subst hwq
    by_cases hlt : k < m
    · obtain ⟨Al, cl, rfl, hrl⟩ := hin.out.hl
      have HRL := hid hrl
      obtain ⟨Ao, co, hvo⟩ := own_form hin.out.ho
      rw [strs_len] at hvo
      subst hvo
      obtain ⟨nl, hnl⟩ : ∃ n, n = (levT k).length := ⟨_, rfl⟩
      obtain ⟨no, hno⟩ : ∃ n, n = (textsT k).length := ⟨_, rfl⟩
      have HNL := hid hnl
      have HNO := hid hno
      have hnl2 : nl ≤ 256 := by
        rw [hnl, levT_len]
        exact Nat.le_trans (Nat.pow_le_pow_right (by decide) (show k ≤ 4 by omega)) (by decide)
      rw [← hnl] at HRL ⊢
      rw [← hno]
      obtain ⟨lv, hlv⟩ : ∃ l, l = levT k := ⟨_, rfl⟩
      have HLV := hid hlv
      rw [← hlv] at HRL
      have hll : lv.length = nl := by rw [hlv, hnl]
      have HLL := hid hll
      have HSZ : Hid (∀ t ∈ lv, t.length = k) := hid (by rw [hlv]; exact levT_size k)
      have HIN := hid hin.out
      rw [← hnl, ← hno] at HIN
      clear hin hrl hlv hnl hno hll
      go_wp2_with fail
      obtain ⟨g2, hg2⟩ : ∃ g, g = wq.heap.size := ⟨_, rfl⟩
      obtain ⟨w2, hw2⟩ : ∃ W : World, W = wq.alloc (.cells #[] 9) := ⟨_, rfl⟩
      rw [← hw2, ← hg2]
      have hk2 : w2.heap[g2]? = some (.cells #[] 9 (0, 0)) := by rw [hw2, hg2]; exact blk_new wq _
      have HB2 : Hid (Below g2 wq w2) := hid (by rw [hw2, hg2]; exact (Below.refl _ _).alloc (Nat.le_refl _) _)
      have HN0 : Hid (w2.ownsRow g2 9 1 (.slice (some ⟨g2, 0, none⟩) 0 0) (strs (nextT (lv.take 0))).length (strs (nextT (lv.take 0)))) := hid ⟨rfl, .inr ⟨g2, 0, #[], rfl, Nat.le_refl _, hk2, Nat.le_refl _, by decide, rfl, rfl⟩⟩
      have HZ2 : Hid (g2 ≤ w2.heap.size) := hid (Nat.le_of_lt (lt_of_heap hk2))
      have HG2 := hid hg2
      clear hw2 hk2 hg2
      go_loopw [6, 20] (fun vn jv wk => ∃ j : Nat, j ≤ nl ∧ jv = .int .i64 j ∧ Hid (wk.ownsRow g2 9 1 vn (strs (nextT (lv.take j))).length (strs (nextT (lv.take j))) ∧ Below g2 wq wk ∧ g2 ≤ wk.heap.size)) (fun _ jv _ => nl - (intOf jv).toNat)
      case atStart => exact ⟨0, Nat.zero_le _, rfl, HN0.out, HB2.out, HZ2.out⟩
      case round =>
        obtain ⟨j, hj, rfl, hj2⟩ := hrel
        obtain ⟨hown, hbk, hzk⟩ := hj2.out
        obtain ⟨wk, hwk⟩ : ∃ W : World, W = wr := ⟨_, rfl⟩
        subst hwk
        have HOWN := hid hown
        have HBK := hid hbk
        have HZK := hid hzk
        by_cases hlt2 : j < nl
        · obtain ⟨s, hs⟩ : ∃ s, lv[j]? = some s := ⟨_, List.getElem?_eq_getElem (by rw [HLL.out]; exact hlt2)⟩
          have HS := hid hs
          obtain ⟨gl, ol, rfl, hgl, hcl⟩ := HRL.out.2 (by omega)
          have xs := (hbk.cell (p := ⟨gl, ol + j, none⟩) (by rw [HG2.out]; exact hgl)).trans (hcl j (.string ⟨s.toArray⟩) (by unfold strs; rw [List.getElem?_map, hs]; rfl))
          have hsz : s.length = k := HSZ.out s (List.mem_of_getElem? hs)
          clear hs hcl hgl hj2 hown hbk hzk
          go_wp2_with fail
          go_loopw [6, 9] (fun vn cv wc => ∃ d : Nat, d ≤ 4 ∧ cv = .int .u8 (97 + (d : Int)) ∧ Hid (wc.ownsRow g2 9 1 vn (strs (nextT (lv.take j) ++ (four s).take d)).length (strs (nextT (lv.take j) ++ (four s).take d)) ∧ Below g2 wq wc ∧ g2 ≤ wc.heap.size)) (fun _ cv _ => 101 - (intOf cv).toNat)
          case atStart => exact ⟨0, Nat.zero_le _, rfl, by rw [List.take_zero, List.append_nil]; exact HOWN.out, HBK.out, HZK.out⟩
          case round =>
            obtain ⟨d, hd, rfl, hd2⟩ := hrel
            obtain ⟨hown, hbk, hzk⟩ := hd2.out
            obtain ⟨wc, hwc⟩ : ∃ W : World, W = wr := ⟨_, rfl⟩
            subst hwc
            by_cases hd4 : d < 4
            · obtain ⟨An, cn, hvn⟩ := own_form hown
              obtain ⟨nn, hnn⟩ : ∃ n, n = (strs (nextT (lv.take j) ++ (four s).take d)).length := ⟨_, rfl⟩
              have HNN := hid hnn
              have hnn2 : nn ≤ 2000 := by
                rw [hnn, strs_len, List.length_append, nextT_len, List.length_take, List.length_take]
                omega
              rw [← hnn] at hvn
              subst hvn
              have HO3 := hid hown
              have HB3 := hid hbk
              have HZ3 := hid hzk
              have hcv := run_convert_bytes_arg (P := Tryz.prog) (wc.alloc (.cells #[.int .u8 (97 + (d : Int))] 5)) 42 5 Tryz.underlying42 Tryz.underlying5 wc.heap.size 0 1 1 [97 + (d : Int)] rfl (fun i hi => by
                obtain rfl : i = 0 := by omega
                exact cell0_new _ _ _) 9 Tryz.underlying9
              have hq : strOfNums [97 + (d : Int)] = ⟨#[UInt8.ofNat (97 + d)]⟩ := by
                simp only [strOfNums, List.map_cons, List.map_nil]
                rw [show (97 + (d : Int)).toNat = 97 + d by omega]
              rw [hq] at hcv
              have HAPP : Hid ((ByteArray.mk s.toArray) ++ (ByteArray.mk #[97 + UInt8.ofNat d]) = ⟨(s ++ [UInt8.ofNat (97 + d)]).toArray⟩) := hid ((ByteArray.mk_append_mk s [97 + UInt8.ofNat d]).trans (by rw [show UInt8.ofNat (97 + d) = 97 + UInt8.ofNat d by rw [UInt8.ofNat_add]; rfl]))
              have hw1 : IntKind.u8.wrap (97 + (d : Int) + 1) = 97 + (d : Int) + 1 := by rw [IntKind.wrap_u8]; omega
              have hdi : (97 : Int) + (d : Int) ≤ 100 := by omega
              clear hown hbk hzk hd2 hnn hq
              go_wp2_with (at_builtin; go_loud (refine wpList_app_one one_str _ (by rfl) (.tmp 28) (.tmp 34) (by rfl) g2 (.slice An nn cn) (strs (nextT (lv.take j) ++ (four s).take d)) (by rfl) (row_blk HO3.out fun k e => (show Below wc.heap.size wc _ from ((Below.refl _ _).alloc (Nat.le_refl _) (.cells #[Value.int IntKind.u8 (97 + (d : Int))] 5)).alloc (by simp) (.cells #[Value.string ((ByteArray.mk s.toArray) ++ (ByteArray.mk #[97 + UInt8.ofNat d]))] 9)).block k (World.ownsRow.lt HO3.out k e).2) (wc.heap.size + 1) 1 (.string ((ByteArray.mk s.toArray) ++ (ByteArray.mk #[97 + UInt8.ofNat d]))) (by rfl) (by simp) (by rfl) (by rw [← HNN.out]; omega) (by have := HZ3.out; simp; omega) ?_; intro v9 w9 hy9 hg9 hat9; have HY9 := hid hy9; have HK9 := hid (KeepX.of_grown (X := fun k => (Value.slice An nn cn).ownBlock = some k) hg9 fun k e => e); clear hy9 hg9 hat9))
              go_roundw
              case rel => exact ⟨d + 1, by omega, by go_num, (by
                have h := HY9.out
                rw [HAPP.out, strs_step _ _ _ hd4] at h
                exact h), (HB3.out.trans (((Below.refl _ _).alloc HZ3.out (.cells #[Value.int IntKind.u8 (97 + (d : Int))] 5)).alloc (by have := HZ3.out; simp; omega) (.cells #[Value.string ((ByteArray.mk s.toArray) ++ (ByteArray.mk #[97 + UInt8.ofNat d]))] 9))).trans (HK9.out.below (by have := HZ3.out; simp; omega) fun k hk e => by have := (World.ownsRow.lt HO3.out k e).1; omega), by have := HK9.out.size; have := HZ3.out; simp at *; omega⟩
              case measure => simp [intOf]; omega
            · have hd4' : d = 4 := by omega
              subst hd4'
              have HN4 : Hid (nextT (lv.take j) ++ (four s).take 4 = nextT (lv.take (j + 1))) := hid (by rw [nextT_take HS.out]; rfl)
              have HO3 := hid hown
              rw [HN4.out] at HO3
              have HB3 := hid hbk
              have HZ3 := hid hzk
              clear hown hbk hzk hd2
              go_wp2_with fail
              go_roundw
              case rel => exact ⟨j + 1, by omega, by go_num, HO3.out, HB3.out, HZ3.out⟩
              case measure => simp [intOf]; omega
        · have hjn : j = nl := by omega
          subst hjn
          rw [List.take_of_length_le (by rw [HLL.out]; exact Nat.le_refl _)] at hown
          have hnx : nextT lv = levT (k + 1) := by rw [HLV.out]; rfl
          rw [hnx] at hown
          obtain ⟨An, cn, hvn, hrn, hcn⟩ := rdV_of hown
          obtain ⟨nn, hnn⟩ : ∃ n, n = (levT (k + 1)).length := ⟨_, rfl⟩
          rw [strs_len, ← hnn] at hvn hrn
          subst hvn
          have hnn1 : 0 < nn := by rw [hnn, levT_len]; exact Nat.pow_pos (by decide)
          have hnn2 : nn ≤ 2000 := by
            rw [hnn, levT_len]
            exact Nat.le_trans (Nat.pow_le_pow_right (by decide) (show k + 1 ≤ 4 by omega)) (by decide)
          have hno2 : no ≤ 2000 := by
            rw [HNO.out]
            have : k = 0 ∨ k = 1 ∨ k = 2 ∨ k = 3 := by omega
            rcases this with rfl | rfl | rfl | rfl <;> decide
          obtain ⟨gn, on, rfl, hgn, hcn2⟩ := hrn.2 hnn1
          have hgn2 : g2 ≤ gn := (World.ownsRow.lt hown gn (by rfl)).1
          obtain ⟨i0, hi, hz0, hz1, hz2⟩ := info_parts one_str.info
          have HNN := hid hnn
          have HRN := hid hrn
          have HBK2 := hid hbk
          have HOW : Hid (wk.ownsRow base 9 1 (.slice Ao no co) no (strs (textsT k))) := hid (by
            have h := row_blk HIN.out.ho fun b e => hbk.block b (by rw [HG2.out]; exact (World.ownsRow.lt HIN.out.ho b e).2)
            rw [strs_len, ← HNO.out] at h
            exact h)
          have HOL : Hid (∀ b, (Value.slice Ao no co).ownBlock = some b → base ≤ b ∧ b < g2) := hid (fun b e => by have := World.ownsRow.lt HIN.out.ho b e; rw [HG2.out]; exact this)
          have HZ5 : Hid (base ≤ wk.heap.size) := hid (by have := HIN.out.bz; have := HG2.out; omega)
          have HNEWS : Hid (∀ j u, (strs (levT (k + 1)))[j]? = some u → wk.cell? ((⟨gn, on, none⟩ : Addr).add j) = some u) := hid (fun j u hu => by
            have := hcn2 j u hu
            unfold Addr.add
            split
            · next e0 => rw [show j = 0 from e0, Nat.add_zero] at this; exact this
            · exact this)
          have HONE : Hid (∀ u ∈ strs (levT (k + 1)), u.oneCell' = true) := hid (fun u hu => by
            obtain ⟨y, -, rfl⟩ := List.mem_map.1 hu
            rfl)
          clear hown hbk hzk hj2 hrn hcn hcn2 hnn
          go_wp2_with (at_builtin; go_loud (refine wpList_append_own_at _ (by rfl) (.tmp 37) (.tmp 38) 118 (by rfl) base 9 i0 (.string ⟨#[]⟩) 1 16 one_str.und hi hz0 hz1 hz2 one_str.cell (by decide) (.slice Ao no co) no (strs (textsT k)) (by rfl) HOW.out ⟨gn, on, none⟩ nn cn (strs (levT (k + 1))) (by rfl) (by rw [strs_len, ← HNN.out, Nat.mul_one]) HNEWS.out HONE.out (by unfold maxLen; omega) (by omega) HZ5.out ?_; intro v9 w9 hy9 hg9 _ hat9; have HY9 := hid hy9; have HK9 := hid (KeepX.of_grown (X := fun k => (Value.slice Ao no co).ownBlock = some k) hg9 fun k e => e); clear hy9 hg9 hat9))
          go_roundw
          case rel => exact ⟨k + 1, by omega, by go_num, {
            ho := by
              have h := HY9.out
              have e : no + nn = (strs (textsT (k + 1))).length := by rw [strs_len, textsT, List.length_append, ← HNO.out, ← HNN.out]
              rw [← strs_app, e] at h
              exact h
            hl := ⟨some ⟨gn, on, none⟩, cn, by rw [← HNN.out], by
              rw [← HNN.out]
              exact HRN.out.keep (X := fun k => (Value.slice Ao no co).ownBlock = some k) (fun a _ e => by cases e; exact fun h => by have := (HOL.out gn h).2; omega) HK9.out.keeps⟩
            kp := (HIN.out.kp.trans (HBK2.out.mono (by have := HIN.out.bz; have := HG2.out; omega))).trans (HK9.out.below HZ5.out fun k hk e => by have := (HOL.out k e).1; omega)
            bz := Nat.le_trans HZ5.out HK9.out.size }⟩
          case measure => simp [intOf]; omega
    · have hkm : k = m := by omega
      subst hkm
      obtain ⟨Ao, co, hvo, hro, -⟩ := rdV_of hin.out.ho
      rw [strs_len] at hvo hro
      subst hvo
      have HRO := hid hro
      have HKP := hid hin.out.kp
      clear hin hro
      go_wp2_with fail
      go_ret
      exact ⟨Ao, co, rfl, HRO.out, by rw [← HBS.out]; exact HKP.out⟩
end Go.Proofs.YtaplejpjmaocdaaGreatDoor

/- Plain: shapes of the letters a to d alone; and the walk of law 07's Pure. -/
namespace Go.Proofs.YtaplejpjmaocdaaGreatDoor
open Go.RowKit Go.Maps

def letter (b : UInt8) : Bool := decide (97 ≤ b.toNat ∧ b.toNat ≤ 100)
namespace Shp
mutual
def pure : Shp → Bool
  | mk o l h t ks => t.data.toList.all letter && pures ks && (decide ((mk o l h t []).code ≠ 6) || decide (0 < ks.length))
def pures : List Shp → Bool
  | [] => true
  | k :: l => pure k && pures l
end
theorem pures_eq (l : List Shp) : pures l = l.all pure := by
  induction l with
  | nil => rfl
  | cons k l ih => rw [pures, ih]; rfl
theorem pure_eq (s : Shp) : s.pure = (s.text.data.toList.all letter && s.kids.all pure && (decide (s.code ≠ 6) || decide (0 < s.kids.length))) := by
  cases s with
  | mk o l h t ks => rw [pure, pures_eq]; rfl
end Shp
def AllL (t : Txt) : Prop := ∀ b ∈ t, letter b = true
theorem AllL.app {t u : Txt} (h : AllL t) (h' : AllL u) : AllL (t ++ u) := fun b hb => by
  rcases List.mem_append.1 hb with hb | hb
  · exact h b hb
  · exact h' b hb
theorem catP_all : ∀ (Ps : List (Txt → Prop)), (∀ P ∈ Ps, ∀ t, P t → AllL t) → ∀ t, CatP Ps t → AllL t
  | [], _, t, h => by
    have h : t = [] := h
    rw [h]
    intro b hb
    cases hb
  | P :: l, hl, t, h => by
    obtain ⟨i, -, h1, h2⟩ := h
    have := (hl P (List.mem_cons_self ..) _ h1).app (catP_all l (fun Q hQ => hl Q (List.mem_cons_of_mem _ hQ)) _ h2)
    rwa [List.take_append_drop] at this
theorem starP_all (P : Txt → Prop) (hP : ∀ t, P t → AllL t) : ∀ t, StarP P t → AllL t := fun t h => by
  induction h with
  | nil => intro b hb; cases hb
  | step a b _ hPa _ ih => exact (hP a hPa).app ih
theorem pure_in (s : Shp) : s.pure = true → ∀ t, s.InS t → AllL t := by
  induction s using Shp.ind_ with
  | h s ih =>
    intro hp t ht
    rw [Shp.pure_eq, Bool.and_eq_true, Bool.and_eq_true] at hp
    obtain ⟨⟨h1, h2⟩, h3⟩ := hp
    have hk : ∀ P ∈ s.kids.map Shp.InS, ∀ t, P t → AllL t := fun P hP t ht => by
      obtain ⟨k, hk, rfl⟩ := List.mem_map.1 hP
      exact ih k hk (List.all_eq_true.1 h2 k hk) t ht
    have hg : ∀ i t, (s.kids.map Shp.InS).getD i NoP t → AllL t := fun i t ht => by
      by_cases hi : i < (s.kids.map Shp.InS).length
      · rw [List.getD_eq_getElem?_getD, List.getElem?_eq_getElem hi] at ht
        exact hk _ (List.getElem_mem hi) t ht
      · rw [List.getD_eq_getElem?_getD, List.getElem?_eq_none (by omega)] at ht
        exact absurd ht (by exact fun h => h)
    have hc := code_lt s
    rcases (by omega : s.code = 0 ∨ s.code = 1 ∨ s.code = 2 ∨ s.code = 3 ∨ s.code = 4 ∨ s.code = 5 ∨ s.code = 6 ∨ s.code = 7 ∨ s.code = 8) with h | h | h | h | h | h | h | h | h
    all_goals rw [inS_code s _ h] at ht
    · exact ht.elim
    · have ht : t = [] := ht
      rw [ht]; intro b hb; cases hb
    · obtain ⟨b, rfl, hb1, hb2⟩ := ht
      intro x hx
      rw [List.mem_singleton.1 hx]
      unfold Shp.lo at hb1
      unfold Shp.hi at hb2
      unfold letter
      rw [decide_eq_true_iff]
      omega
    · exact catP_all _ hk t ht
    · obtain ⟨P, hP, hPt⟩ := ht
      exact hk P hP t hPt
    · exact starP_all _ (hg 0) t ht
    · rw [h] at h3
      have h3 : 0 < s.kids.length := by simpa using h3
      have hm : (s.kids[0]'h3).InS ∈ s.kids.map Shp.InS := List.mem_map.2 ⟨_, List.getElem_mem h3, rfl⟩
      exact hk _ hm t (ht _ hm)
    · exact hg 0 t ht.1
    · have ht : t = s.text.data.toList := ht
      rw [ht]
      exact fun b hb => List.all_eq_true.1 h1 b hb
set_option maxRecDepth 100000 in
set_option maxHeartbeats 4000000 in
theorem pure_any (s : Shp) : ∀ (A : Option Addr) (c : Nat) (w : World), ShAt w s (A, c) → s.short → Calls Tryz.prog 32 #[s.val A c] w fun e w' => e = .returned (.bool s.pure) ∧ Below w.heap.size w w' := by
  induction s using Shp.ind_ with
  | h s ih =>
    intro A c w hat hsh
    have hts : s.text.size ≤ 1000000 := by have := ((Shp.short_eq s).1 hsh).1; omega
    obtain ⟨-, -, hkids⟩ := hat.open_
    have hkl : s.kids.length ≤ 9223372036854775807 := hat.open_.1.2.2.2.2
    obtain ⟨z, hz⟩ : ∃ z, z = s.pure := ⟨_, rfl⟩
    rw [← hz]
    rw [Shp.pure_eq] at hz
    have HZ := hid hz
    have HK := hid hkids
    have HIH := hid ih
    have HSS := hid ((Shp.short_eq s).1 hsh).2
    have hcw := code_wrap s
    have hcl := code_lt s
    clear hz ih hat hkids hsh
    unfold Shp.val
    obtain ⟨n, hn⟩ : ∃ n, n = s.kids.length := ⟨_, rfl⟩
    rw [← hn] at hkl ⊢
    have HN := hid hn
    clear hn
    go_enter Tryz.func32, Tryz.ntmps32
    go_wp2_with fail
    obtain ⟨w2, hw2⟩ : ∃ w2 : World, w2 = w.alloc (.cells #[Value.int IntKind.i64 s.op, Value.int IntKind.u8 ↑s.low, Value.int IntKind.u8 ↑s.high, Value.string s.text, Value.slice A n c] 24) := ⟨_, rfl⟩
    obtain ⟨g, hg⟩ : ∃ g, g = w.heap.size := ⟨_, rfl⟩
    rw [← hw2, ← hg]
    have HB2 : Hid (Below w.heap.size w w2) := hid (by rw [hw2]; exact (Below.refl _ _).alloc (Nat.le_refl _) _)
    have hk1 : w2.heap[g]? = some (.cells #[Value.int IntKind.i64 s.op, Value.int IntKind.u8 ↑s.low, Value.int IntKind.u8 ↑s.high, Value.string s.text, Value.slice A n c] 24) := by rw [hw2, hg]; exact blk_new w _
    have HBX : Hid (∀ W, Below w2.heap.size w2 W → W.cell? ⟨g, 0, none⟩ = some (.int .i64 s.op) ∧ W.cell? ⟨g, 3, none⟩ = some (.string s.text) ∧ W.cell? ⟨g, 4, none⟩ = some (.slice A n c)) := fun W hW => by
      have h1 := blk_below hk1 hW
      exact ⟨(blk_cell h1 0).trans (by simp), (blk_cell h1 3).trans (by simp), (blk_cell h1 4).trans (by simp)⟩
    clear hw2 hg hk1
    go_loopw [3] (fun iv wr => ∃ k : Nat, k ≤ s.text.size ∧ iv = .int .i64 k ∧ Hid (∀ b ∈ s.text.data.toList.take k, letter b = true) ∧ Hid (Below w2.heap.size w2 wr)) (fun iv _ => s.text.size - (intOf iv).toNat)
    case atStart => exact ⟨0, Nat.zero_le _, rfl, fun b hb => by simp at hb, Below.refl _ _⟩
    case round =>
      obtain ⟨k, hk, rfl, hall, hbel⟩ := hrel
      obtain ⟨x0, x3, x4⟩ := HBX.out _ hbel.out
      by_cases hlt : k < s.text.size
      · have hkl2 : k < s.text.data.toList.length := by simpa using hlt
        have hb : s.text.data.toList[k]? = some (s.text[k]'hlt) := by
          rw [List.getElem?_eq_getElem hkl2]
          rfl
        have HTK : Hid (s.text.data.toList.take (k + 1) = s.text.data.toList.take k ++ [s.text[k]'hlt]) := hid (by rw [List.take_add_one, hb]; rfl)
        have HMB : Hid ((s.text[k]'hlt) ∈ s.text.data.toList) := hid (List.mem_of_getElem? hb)
        have HBLT := hid hlt
        obtain ⟨bn, hbn⟩ : ∃ b, b = (s.text[k]'hlt).toNat := ⟨_, rfl⟩
        have HBN := hid hbn
        by_cases hlet : 97 ≤ bn ∧ bn ≤ 100
        · have h1 : ¬ (((s.text[k]'hlt).toNat : Nat) : Int) < 97 := by omega
          have h2 : ¬ (100 : Int) < (((s.text[k]'hlt).toNat : Nat) : Int) := by omega
          clear hb hkl2 hbn
          go_wp2_with fail
          go_roundw
          case rel => exact ⟨k + 1, by omega, by go_num, (fun b hb => by
            rw [HTK.out] at hb
            rcases List.mem_append.1 hb with hb | hb
            · exact hall.out b hb
            · rw [List.mem_singleton.1 hb]
              unfold letter
              rw [decide_eq_true_iff, ← HBN.out]
              exact hlet), hbel.out⟩
          case measure => simp [intOf]; omega
        · have HNL : Hid (z = false) := hid (by
            rw [HZ.out]
            have : s.text.data.toList.all letter = false := by
              rw [Bool.eq_false_iff]
              intro h
              have := List.all_eq_true.1 h _ HMB.out
              unfold letter at this
              rw [decide_eq_true_iff, ← HBN.out] at this
              exact hlet this
            rw [this]; rfl)
          clear hb hkl2 hbn
          by_cases hlo : bn < 97
          · have h1 : (((s.text[k]'hlt).toNat : Nat) : Int) < 97 := by rw [← HBN.out]; omega
            go_wp2_with fail
            go_ret
            exact ⟨by rw [HNL.out]; rfl, HB2.out.trans (hbel.out.mono HB2.out.size)⟩
          · have h1 : ¬ (((s.text[k]'hlt).toNat : Nat) : Int) < 97 := by rw [← HBN.out]; omega
            have h2 : (100 : Int) < (((s.text[k]'hlt).toNat : Nat) : Int) := by rw [← HBN.out]; omega
            go_wp2_with fail
            go_ret
            exact ⟨by rw [HNL.out]; rfl, HB2.out.trans (hbel.out.mono HB2.out.size)⟩
      · have hkn : k = s.text.size := by omega
        have HTA : Hid (s.text.data.toList.all letter = true) := hid (by
          have h := hall.out
          rw [List.take_of_length_le (by rw [hkn]; simp)] at h
          exact List.all_eq_true.2 h)
        clear hall
        subst hkn
        go_wp2_with fail
        have HB2r := hid (HB2.out.trans (hbel.out.mono HB2.out.size))
        go_loopw [28] (fun iv wk => ∃ k : Nat, k ≤ n ∧ iv = .int .i64 k ∧ Hid (∀ x ∈ s.kids.take k, x.pure = true) ∧ Hid (Below w2.heap.size w2 wk)) (fun iv _ => n - (intOf iv).toNat)
        case atStart => exact ⟨0, Nat.zero_le _, rfl, fun x hx => by simp at hx, hbel.out⟩
        case round =>
          obtain ⟨k2, hk2, rfl, hall2, hbel2⟩ := hrel
          have HBk := hid (HB2.out.trans (hbel2.out.mono HB2.out.size))
          by_cases hlt2 : k2 < n
          · obtain ⟨g2, o, x, B, cx, rfl, hx, hg, hatx, k0, k1, k2', k3, k4⟩ := HK.out.at_ (k := k2) (by rw [← HN.out]; exact hlt2)
            have hb := fun i => HBk.out.cell (p := ⟨g2, i, none⟩) hg
            have c0 := (hb _).trans k0; have c1 := (hb _).trans k1; have c2 := (hb _).trans k2'; have c3 := (hb _).trans k3; have c4 := (hb _).trans k4
            have hxm := List.mem_of_getElem? hx
            have HC := hid (fun W (hW : ShAt W x (B, cx)) => HIH.out x hxm B cx W hW (Shp.shorts_mem HSS.out hxm))
            have HTK : Hid (s.kids.take (k2 + 1) = s.kids.take k2 ++ [x]) := hid (by rw [List.take_add_one, hx]; rfl)
            have HXM := hid hxm
            have HWx := hid (hatx.under HBk.out)
            unfold Shp.val at HC
            clear k0 k1 k2' k3 k4 hb hx hatx hxm
            cases hxp : x.pure
            · rw [hxp] at HC
              have HNL : Hid (z = false) := hid (by
                rw [HZ.out]
                have : s.kids.all Shp.pure = false := by
                  rw [Bool.eq_false_iff]
                  intro h
                  have := List.all_eq_true.1 h _ HXM.out
                  rw [hxp] at this
                  cases this
                rw [this, Bool.and_false, Bool.false_and])
              clear hxp
              go_wp2_with (go_at_call 32; refine (HC.out _ (HWx.out.under (Below.alloc (Below.refl _ _) (Nat.le_refl _) _))).mono ?_; rintro e w' ⟨rfl, hb2⟩; have HB3 := hid hb2; clear hb2)
              go_ret
              exact ⟨by rw [HNL.out]; rfl, HBk.out.trans ((Below.alloc (Below.refl _ _) (Nat.le_refl _) _).trans (HB3.out.mono (by simp)) |>.mono HBk.out.size)⟩
            · have HXP := hid hxp
              rw [hxp] at HC
              clear hxp
              go_wp2_with (go_at_call 32; refine (HC.out _ (HWx.out.under (Below.alloc (Below.refl _ _) (Nat.le_refl _) _))).mono ?_; rintro e w' ⟨rfl, hb2⟩; have HB3 := hid hb2; clear hb2)
              go_roundw
              case rel => exact ⟨k2 + 1, by omega, by go_num, (fun y hy => by
                rw [HTK.out] at hy
                rcases List.mem_append.1 hy with hy | hy
                · exact hall2.out y hy
                · rw [List.mem_singleton.1 hy]; exact HXP.out), hbel2.out.trans ((Below.alloc (Below.refl _ _) (Nat.le_refl _) _).trans (HB3.out.mono (by simp)) |>.mono hbel2.out.size)⟩
              case measure => simp [intOf]; omega
          · have HKA : Hid (s.kids.all Shp.pure = true) := hid (by
              have h := hall2.out
              rw [List.take_of_length_le (by rw [← HN.out]; omega)] at h
              exact List.all_eq_true.2 h)
            have HZZ : Hid (z = (decide (s.code ≠ 6) || decide (0 < n))) := hid (by rw [HZ.out, HTA.out, HKA.out, HN.out]; rfl)
            obtain ⟨y0, y3, y4⟩ := HBX.out _ hbel2.out
            generalize s.code = cd at *
            by_cases h6 : cd = 6
            · subst h6
              by_cases hn0 : 0 < n
              · have hni : (0 : Int) < (n : Int) := by omega
                go_wp2_with fail
                go_ret
                exact ⟨by rw [HZZ.out]; simp [hn0], HBk.out⟩
              · have hni : ¬ (0 : Int) < (n : Int) := by omega
                go_wp2_with fail
                go_ret
                exact ⟨by rw [HZZ.out]; simp [hn0], HBk.out⟩
            · have h6i : ¬ (cd : Int) = 6 := by omega
              go_wp2_with fail
              go_ret
              exact ⟨by rw [HZZ.out]; simp [h6], HBk.out⟩
end Go.Proofs.YtaplejpjmaocdaaGreatDoor

/- Plain: all texts of few letters, in order; and the walk of law 07's least. -/
namespace Go.Proofs.YtaplejpjmaocdaaGreatDoor
open Go.RowKit Go.Maps

theorem mem_lev : ∀ (k : Nat) (t : Txt), t.length = k → AllL t → t ∈ levT k
  | 0, t, h, _ => by rw [List.eq_nil_of_length_eq_zero h]; exact List.mem_singleton.2 rfl
  | k + 1, t, h, ha => by
    have hne : t ≠ [] := fun e => by rw [e] at h; cases h
    obtain ⟨v, b, rfl⟩ : ∃ v b, t = v ++ [b] := ⟨t.dropLast, t.getLast hne, (List.dropLast_concat_getLast hne).symm⟩
    have hv := mem_lev k v (by simpa using h) fun c hc => ha c (List.mem_append_left _ hc)
    have hb := ha b (List.mem_append_right _ (List.mem_singleton.2 rfl))
    unfold letter at hb
    rw [decide_eq_true_iff] at hb
    refine List.mem_flatMap.2 ⟨v, hv, ?_⟩
    have h4 : b.toNat = 97 ∨ b.toNat = 98 ∨ b.toNat = 99 ∨ b.toNat = 100 := by omega
    have he : ∀ c : UInt8, b.toNat = c.toNat → b = c := fun c h => UInt8.toNat_inj.1 h
    unfold four
    simp only [List.mem_cons, List.append_cancel_left_eq, List.cons.injEq, and_true, List.not_mem_nil, or_false]
    rcases h4 with h4 | h4 | h4 | h4
    · exact .inl (he 97 h4)
    · exact .inr (.inl (he 98 h4))
    · exact .inr (.inr (.inl (he 99 h4)))
    · exact .inr (.inr (.inr (he 100 h4)))
theorem mem_texts : ∀ (m : Nat) (t : Txt), t.length ≤ m → AllL t → t ∈ textsT m
  | 0, t, h, _ => by
    have e : t = [] := List.eq_nil_of_length_eq_zero (by omega)
    rw [e]
    exact List.mem_singleton.2 rfl
  | m + 1, t, h, ha => by
    rw [textsT]
    by_cases hm : t.length ≤ m
    · exact List.mem_append_left _ (mem_texts m t hm ha)
    · exact List.mem_append_right _ (mem_lev (m + 1) t (by omega) ha)
theorem texts_len : ∀ (m : Nat), ∀ t ∈ textsT m, t.length ≤ m
  | 0, t, h => by have : t = [] := by simpa [textsT] using h
                  rw [this]; exact Nat.le_refl _
  | m + 1, t, h => by
    rw [textsT] at h
    rcases List.mem_append.1 h with h | h
    · have := texts_len m t h; omega
    · have := levT_size (m + 1) t h; omega
theorem four_sorted (s : Txt) : (four s).Pairwise slt := by
  unfold four
  simp only [List.pairwise_cons, List.mem_cons, List.not_mem_nil, or_false, forall_eq_or_imp, forall_eq, List.Pairwise.nil, and_true]
  exact ⟨⟨slt_last _ (by decide), slt_last _ (by decide), slt_last _ (by decide)⟩, ⟨slt_last _ (by decide), slt_last _ (by decide)⟩, slt_last _ (by decide), fun a h => by cases h⟩
theorem four_cross {a b : Txt} (h : slt a b) : ∀ x ∈ four a, ∀ y ∈ four b, slt x y := fun x hx y hy => by
  unfold four at hx hy
  simp only [List.mem_cons, List.not_mem_nil, or_false] at hx hy
  rcases hx with rfl | rfl | rfl | rfl <;> rcases hy with rfl | rfl | rfl | rfl <;> exact slt_snoc _ _ h
theorem lev_sorted : ∀ k, (levT k).Pairwise slt
  | 0 => List.pairwise_singleton _ _
  | k + 1 => by
    rw [levT, nextT, List.pairwise_flatMap]
    exact ⟨fun a _ => four_sorted a, (lev_sorted k).imp fun h => four_cross h⟩
theorem texts_sorted : ∀ m, (textsT m).Pairwise slt
  | 0 => List.pairwise_singleton _ _
  | m + 1 => by
    rw [textsT, List.pairwise_append]
    exact ⟨texts_sorted m, lev_sorted (m + 1), fun a ha b hb => .inl (by have := texts_len m a ha; have := levT_size (m + 1) b hb; omega)⟩
/-- The first one that is met is the least. -/
theorem first_is {P : Txt → Prop} {x : Txt} (hx : P x) (hl : ∀ u, P u → ¬ slt u x) (ha : AllL x) {m k : Nat} {t : Txt} (ht : (textsT m)[k]? = some t) (hp : P t) (hno : ∀ u ∈ (textsT m).take k, ¬ P u) : x = t := by
  rcases slt_tri x t with h | h | h
  · exact h
  · exfalso
    have htl := texts_len m t (List.mem_of_getElem? ht)
    have hxl : x.length ≤ m := by rcases h with h | ⟨h, -⟩ <;> omega
    obtain ⟨j, hj⟩ := List.getElem?_of_mem (mem_texts m x hxl ha)
    obtain ⟨hjl, hje⟩ := List.getElem?_eq_some_iff.1 hj
    obtain ⟨hkl, hke⟩ := List.getElem?_eq_some_iff.1 ht
    have hjk : j < k := by
      rcases Nat.lt_trichotomy j k with h1 | h1 | h1
      · exact h1
      · subst h1
        rw [hj] at ht
        cases ht
        exact absurd h (slt_irrefl _)
      · have := List.pairwise_iff_getElem.1 (texts_sorted m) k j hkl hjl h1
        rw [hje, hke] at this
        exact absurd h (slt_asymm this)
    refine hno x ?_ hx
    refine List.mem_iff_getElem?.2 ⟨j, ?_⟩
    rw [List.getElem?_take, if_pos hjk]
    exact hj
  · exact absurd h (hl t hp)
theorem none_is {P : Txt → Prop} {x : Txt} (hx : P x) (ha : AllL x) {m : Nat} (hno : ∀ u ∈ textsT m, ¬ P u) : m < x.length := Nat.lt_of_not_le fun h => hno x (mem_texts m x h ha) hx
open Classical in
set_option maxRecDepth 100000 in
set_option maxHeartbeats 4000000 in
theorem leastIn_any (P : Txt → Prop) (hPL : ∀ t, P t → AllL t) (x : ByteArray) (ok : Bool) (hx8 : x.size ≤ 1000000) (hw : Wit P x ok) (recv : Value) (w : World)
    (HP : ∀ (W : World) (t : ByteArray), Below w.heap.size w W → t.size ≤ 1000000 → Calls Tryz.prog 18 #[recv, .string t] W fun e w' => e = .returned (.bool (decide (P t.data.toList))) ∧ Below W.heap.size W w') :
    Calls Tryz.prog 34 #[.string x, .bool ok, .func (Fn.func 18) #[recv] #[]] w fun e w' => e = .returned (.bool true) ∧ Below w.heap.size w w' := by
  have HTX := hid (fun W => texts_any 4 (Nat.le_refl _) W)
  obtain ⟨T, hT⟩ : ∃ T, T = textsT 4 := ⟨_, rfl⟩
  have hTl : T.length = 341 := by rw [hT]; decide
  rw [← hT] at HTX
  have HT := hid hT
  have HTL := hid hTl
  rw [hTl] at HTX
  have HW := hid hw
  have HPL := hid hPL
  clear hT hTl hw hPL
  have HPW := hid HP
  clear HP
  have HNOW : Hid (Below w.heap.size w w) := Below.refl _ _
  cases ok
  · have hno := (HW.out.no rfl).2
    have HNO := hid hno
    have HPN : Hid (∀ (W : World) (t : ByteArray), Below w.heap.size w W → t.size ≤ 1000000 → Calls Tryz.prog 18 #[recv, .string t] W fun e w' => e = .returned (.bool false) ∧ Below W.heap.size W w') := hid (fun W t hW ht => by
      have := HPW.out W t hW ht
      rw [decide_eq_false (hno _)] at this
      exact this)
    clear hno
    go_enter Tryz.func34, Tryz.ntmps34
    go_wp2_with (first | (go_at_call 74; refine (HTX.out _).mono ?_; rintro e w3 ⟨A3, c3, rfl, h3, hb1⟩; have HR3 := hid h3; (first | (have hb1 := undrew hb1) | skip); have HNOW := hid (HNOW.out.trans (hb1.mono HNOW.out.size)); clear h3 hb1))
    go_loopw [18] (fun iv wr => ∃ k : Nat, k ≤ 341 ∧ iv = .int .i64 k ∧ Hid (Below w3.heap.size w3 wr)) (fun iv _ => 341 - (intOf iv).toNat)
    case atStart => exact ⟨0, Nat.zero_le _, rfl, Below.refl _ _⟩
    case round =>
      obtain ⟨k, hk, rfl, hbel⟩ := hrel
      have HN3 := HNOW
      have HNOW := hid (HN3.out.trans (hbel.out.mono HN3.out.size))
      by_cases hlt : k < 341
      · obtain ⟨g, o, rfl, hg, hc⟩ := HR3.out.2 (by omega)
        obtain ⟨t, ht⟩ : ∃ t, T[k]? = some t := ⟨_, List.getElem?_eq_getElem (by rw [HTL.out]; exact hlt)⟩
        have x1 := (hbel.out.cell (p := ⟨g, o + k, none⟩) hg).trans (hc k (.string ⟨t.toArray⟩) (by unfold strs; rw [List.getElem?_map, ht]; rfl))
        have htl : (ByteArray.mk t.toArray).size ≤ 1000000 := by
          have := texts_len 4 t (by rw [← HT.out]; exact List.mem_of_getElem? ht)
          simp only [ByteArray.size, List.size_toArray]
          omega
        have HPT := hid (fun W hW => HPN.out W ⟨t.toArray⟩ hW htl)
        have HNQ : Hid (Below wr.heap.size wr wr) := Below.refl _ _
        clear hc ht
        go_wp2_with (go_at_call 18; refine (HPT.out _ HNOW.out).mono ?_; rintro e w9 ⟨rfl, hb1⟩; have HN9 := hid (hbel.out.trans (hb1.mono hbel.out.size)); clear hb1)
        go_roundw
        case rel => exact ⟨k + 1, by omega, by go_num, HN9.out⟩
        case measure => simp [intOf]; omega
      · go_wp2_with fail
        go_ret
        exact ⟨rfl, HNOW.out⟩
  · obtain ⟨hxp, hxl⟩ := HW.out.yes rfl
    have HXP := hid hxp
    have HXL := hid hxl
    have HXA := hid (HPL.out _ hxp)
    have HPX : Hid (∀ (W : World), Below w.heap.size w W → Calls Tryz.prog 18 #[recv, .string x] W fun e w' => e = .returned (.bool true) ∧ Below W.heap.size W w') := hid (fun W hW => by
      have := HPW.out W x hW hx8
      rw [decide_eq_true hxp] at this
      exact this)
    clear hxp hxl
    go_enter Tryz.func34, Tryz.ntmps34
    go_wp2_with (first | (go_at_call 18; refine (HPX.out _ HNOW.out).mono ?_; rintro e w2 ⟨rfl, hb1⟩; have HNOW := hid (HNOW.out.trans (hb1.mono HNOW.out.size)); clear hb1) | (go_at_call 74; refine (HTX.out _).mono ?_; rintro e w3 ⟨A3, c3, rfl, h3, hb1⟩; have HR3 := hid h3; (first | (have hb1 := undrew hb1) | skip); have HNOW := hid (HNOW.out.trans (hb1.mono HNOW.out.size)); clear h3 hb1))
    go_loopw [18] (fun iv wr => ∃ k : Nat, k ≤ 341 ∧ iv = .int .i64 k ∧ Hid (∀ u ∈ T.take k, ¬ P u) ∧ Hid (Below w3.heap.size w3 wr)) (fun iv _ => 341 - (intOf iv).toNat)
    case atStart => exact ⟨0, Nat.zero_le _, rfl, fun u hu => by simp at hu, Below.refl _ _⟩
    case round =>
      obtain ⟨k, hk, rfl, hnk, hbel⟩ := hrel
      have HN3 := HNOW
      have HNOW := hid (HN3.out.trans (hbel.out.mono HN3.out.size))
      by_cases hlt : k < 341
      · obtain ⟨g, o, rfl, hg, hc⟩ := HR3.out.2 (by omega)
        obtain ⟨t, ht⟩ : ∃ t, T[k]? = some t := ⟨_, List.getElem?_eq_getElem (by rw [HTL.out]; exact hlt)⟩
        have x1 := (hbel.out.cell (p := ⟨g, o + k, none⟩) hg).trans (hc k (.string ⟨t.toArray⟩) (by unfold strs; rw [List.getElem?_map, ht]; rfl))
        have htl : (ByteArray.mk t.toArray).size ≤ 1000000 := by
          have := texts_len 4 t (by rw [← HT.out]; exact List.mem_of_getElem? ht)
          simp only [ByteArray.size, List.size_toArray]
          omega
        have HPT := hid (fun W hW => HPW.out W ⟨t.toArray⟩ hW htl)
        by_cases hp : P t
        · have hxt : x = ⟨t.toArray⟩ := by
            have := first_is HXP.out HXL.out HXA.out (by rw [← HT.out]; exact ht) hp (by rw [← HT.out]; exact hnk.out)
            rw [← this]
          have hd : decide (P (ByteArray.mk t.toArray).data.toList) = true := decide_eq_true hp
          rw [hd] at HPT
          rw [← hxt] at HPT x1
          clear hc ht hp hd hxt htl
          go_wp2_with (go_at_call 18; refine (HPT.out _ HNOW.out).mono ?_; rintro e w9 ⟨rfl, hb1⟩; have HN9 := hid (HNOW.out.trans (hb1.mono HNOW.out.size)); clear hb1)
          go_ret
          exact ⟨by simp, HN9.out⟩
        · have HTK : Hid (∀ u ∈ T.take (k + 1), ¬ P u) := hid (fun u hu => by
            rw [List.take_add_one, ht] at hu
            rcases List.mem_append.1 hu with hu | hu
            · exact hnk.out u hu
            · have : u = t := by simpa using hu
              rw [this]; exact hp)
          have hd : decide (P (ByteArray.mk t.toArray).data.toList) = false := decide_eq_false hp
          rw [hd] at HPT
          clear hc ht hp hd
          go_wp2_with (go_at_call 18; refine (HPT.out _ HNOW.out).mono ?_; rintro e w9 ⟨rfl, hb1⟩; have HN9 := hid (hbel.out.trans (hb1.mono hbel.out.size)); clear hb1)
          go_roundw
          case rel => exact ⟨k + 1, by omega, by go_num, HTK.out, HN9.out⟩
          case measure => simp [intOf]; omega
      · have hk341 : k = 341 := by omega
        have h4 : (4 : Int) < (x.size : Int) := by
          have h := hnk.out
          rw [List.take_of_length_le (by rw [HTL.out]; omega), HT.out] at h
          have := none_is HXP.out HXA.out h
          have : 4 < x.size := by simpa using this
          omega
        go_wp2_with fail
        go_ret
        exact ⟨by simp, HNOW.out⟩
end Go.Proofs.YtaplejpjmaocdaaGreatDoor
