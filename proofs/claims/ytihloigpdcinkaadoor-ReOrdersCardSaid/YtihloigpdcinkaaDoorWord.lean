/- The walk of re.Word. -/
import Derived.Test.YtihloigpdcinkaaDoorWith
import Derived.Lib.ConvBytes
namespace Go.Proofs.YtihloigpdcinkaaDoor
open Go.RowKit

/-- '[]byte(s)': the bytes, in a new row. -/
theorem conv_bytes (s : ByteArray) (w : World) : ∃ c w1, (convert 9 53 (.string s)).run Tryd.prog w = .ok (.slice (some ⟨w.heap.size, 0, none⟩) s.size c) w1 ∧ Below w.heap.size w w1 ∧ w.heap.size < w1.heap.size ∧
    ∀ (j : Nat) b, s.data.toList[j]? = some b → w1.cell? ⟨w.heap.size, j, none⟩ = some (.int .u8 b.toNat) := by
  refine ⟨_, _, Lib.run_convert_string_bytes w _ _ 5 s Tryd.underlying9 Tryd.underlying53 Tryd.underlying5, ⟨?_, ?_, ?_, ?_, ?_⟩, ?_, ?_⟩
  · simp [Lib.bytesWorld, World.freeze, World.alloc, World.drew, -World.alloc_eq, -World.drew_eq]
  · simp [Lib.bytesWorld, World.freeze, World.alloc, World.drew, -World.alloc_eq, -World.drew_eq]
  · simp [Lib.bytesWorld, World.freeze, World.alloc, World.drew, -World.alloc_eq, -World.drew_eq]
  · rw [Lib.bytesWorld_size]; omega
  · exact fun k hk => Lib.bytesWorld_at_old w _ s k hk
  · rw [Lib.bytesWorld_size]; omega
  · intro j b hb
    obtain ⟨hj, e⟩ := List.getElem?_eq_some_iff.1 hb
    rw [Lib.bytesWorld_cell w _ s j (by simpa using hj)]
    simp only [List.getD, hb, Option.getD_some]

theorem byteR_size (b : UInt8) : (byteR b).size = 1 := by unfold byteR oneR; split <;> rfl
theorem word_sizes (l : List UInt8) : Re.sizes (l.map byteR) = l.length := by
  induction l with
  | nil => rfl
  | cons b l ih => simp only [List.map_cons, List.length_cons, sizes_cons, byteR_size, ih]; omega

set_option maxHeartbeats 1000000 in
theorem word_any (s : ByteArray) (X : Nat → Prop) (w : World) (hX : ∀ k, X k → k < w.heap.size) (hs : s.size ≤ 1000000) :
    Calls Tryd.prog 32 #[.string s] w (RetRe w X (wordR s.data.toList)) := by
  have HX := hid hX
  obtain ⟨c, w1, hconv, hb1, hz1, hcells⟩ := conv_bytes s w
  have HB1 := hid hb1
  have HC := hid hcells
  have hlen : s.data.toList.length = s.size := by simp
  have HLEN := hid hlen
  clear hX hb1 hcells hlen
  go_enter Tryd.func32, Tryd.ntmps32
  go_wp2_with fail
  clear hconv
  obtain ⟨l, hl⟩ : ∃ l, l = s.data.toList := ⟨_, rfl⟩
  have HL := hid hl
  rw [← hl] at HC HLEN
  clear hl
  go_loopw [3, 9] (fun v i wr => ∃ (k : Nat) (cs : List Nat), k ≤ s.size ∧ i = .int .i64 k ∧ Hid (OwnP wr w1.heap.size v cs) ∧ Hid (Els wr (Xo X v) ((l.take k).map byteR) cs) ∧ Hid (Below w1.heap.size w1 wr)) (fun _ i _ => s.size - (intOf i).toNat)
  case atStart => exact ⟨0, [], Nat.zero_le _, rfl, OwnP.nil _ _, by show Els _ _ _ _; simpa using Els.nil, Below.refl _ _⟩
  case round =>
    obtain ⟨k, cs, hk, rfl, hown, hels, hbel⟩ := hrel
    have hszr : w1.heap.size ≤ wr.heap.size := hbel.out.size
    by_cases hlt : k < s.size
    · obtain ⟨b, hb⟩ : ∃ b, l[k]? = some b := ⟨l[k]'(by rw [HLEN.out]; exact hlt), List.getElem?_eq_getElem _⟩
      have hc1 := (hbel.out.cell (p := ⟨w.heap.size, k, none⟩) hz1).trans (HC.out k b hb)
      have HSN : Hid (l.take (k + 1) = l.take k ++ [b]) := by
        obtain ⟨hl, e⟩ := List.getElem?_eq_some_iff.1 hb
        show _ = _
        rw [List.take_succ_eq_append_getElem hl, e]
      have HOF : Hid (∀ W, Calls Tryd.prog 45 #[.slice (some ⟨W.heap.size, 0, none⟩) 1 1] (W.alloc (.cells #[.int .u8 b.toNat] 5)) fun e w' => e = .returned (cv (CSet.ofList [b.toNat])) ∧ Below W.heap.size W w') := by
        intro W
        refine (setOf_any (some ⟨W.heap.size, 0, none⟩) 1 1 [b.toNat] _ (fun x hx => ?_) ⟨rfl, fun _ => ⟨W.heap.size, 0, rfl, by simp, fun j u hj => ?_⟩⟩ (by omega)).mono fun e w' h => ⟨h.1, ((Below.refl _ _).alloc (Nat.le_refl _) _).trans (h.2.mono (by simp))⟩
        · simp at hx; subst hx; exact b.toNat_lt
        · match j, hj with
          | 0, hj => simp at hj; subst hj; exact cell0_new _ _ _
      have hxl : ∀ k, Xo X u3 k → k < wr.heap.size := fun k hk => by
        rcases hk with hk | hk
        · have := HX.out k hk; omega
        · exact (hown.out.lt k hk).2
      have HON : Hid (∀ W, wr.heap.size ≤ W.heap.size → Calls Tryd.prog 44 #[cv (CSet.ofList [b.toNat])] W (RetRe W (Xo X u3) (byteR b))) := fun W h => one_any _ _ W (fun k hk => Nat.lt_of_lt_of_le (hxl k hk) h)
      have hbn : cs.length + [b].length ≤ 1099511627776 := by
        have := hels.out.1
        simp at this ⊢
        omega
      clear hb hxl
      generalize CSet.ofList [b.toNat] = u at HOF HON
      unfold cv at HOF HON
      go_wp2_with (first | (go_at_call 45; refine (HOF.out _).mono ?_; rintro e w2 ⟨rfl, hb2⟩; have HB2 := hid hb2; have hz2 : wr.heap.size ≤ w2.heap.size := hb2.size; clear hb2) | (go_at_call 44; refine (HON.out _ hz2).mono ?_; rintro e w3 ⟨bn, rfl, h3, hb3⟩; have H3 := hid h3; have HB3 := hid hb3; have hz3 : w1.heap.size ≤ w3.heap.size := Nat.le_trans hszr (Nat.le_trans hz2 hb3.size); clear h3 hb3; have HO3 := hid (OwnP.kept (OwnP.kept hown.out HB2.out) HB3.out); have HE3 := hid (Els.below (Els.below hels.out HB2.out) HB3.out); have HB13 := hid ((hbel.out.trans (HB2.out.mono hszr)).trans (HB3.out.mono (Nat.le_trans hszr hz2)))) | (at_builtin; refine wpList_app_ptr _ rfl (.tmp 13) (.tmp 18) rfl w1.heap.size _ cs rfl (HO3.out.alloc _) (some ⟨w3.heap.size, 0, none⟩) 1 1 [bn] rfl (Rd.one_new _ _ _) (fun h => by cases h) hbn (le_alloc hz3 _) ?_; intro v' w4 ho4 hg4 hat4; have HO4 := hid ho4; have HG4 := hid hg4; have HT4 := hid hat4; clear ho4 hg4 hat4))
      go_roundw
      case rel => exact ⟨k + 1, cs ++ [bn], by omega, by go_num, HO4.out, by show Els _ _ _ _; rw [HSN.out, List.map_append]; exact ((HE3.out.alloc _).append (Els.one H3.out |>.alloc _)).grown HG4.out HT4.out, below_app (HB13.out.alloc HB13.out.size _) (HO3.out.alloc _) HG4.out⟩
      case measure => simp [intOf]; omega
    · have hkn : k = s.size := by omega
      have HT : Hid (l.take k = l) := List.take_of_length_le (by rw [HLEN.out]; omega)
      have hown' := hown.out
      have hels' := hels.out
      rw [HT.out] at hels'
      obtain ⟨A1, c1, hv⟩ := hown'.form
      subst hv
      have hX1 : ∀ k, X k → k < w1.heap.size := fun k hk => by have := HX.out k hk; omega
      obtain ⟨hrw, -, -⟩ := hown'.row hels' hX1
      have HTH := hid (then_any A1 cs.length c1 _ cs X wr hrw (fun k hk => Nat.lt_of_lt_of_le (hX1 k hk) hszr) (by rw [word_sizes, HLEN.out]; omega))
      have HBB := hid ((HB1.out.trans (hbel.out.mono (Nat.le_of_lt hz1))))
      clear hown' hels' hrw hX1 hkn
      go_wp2_with (go_at_call 17; refine HTH.out.mono ?_; rintro e w5 hre; have HRE := hid hre; obtain ⟨bn, rfl, -⟩ := hre)
      go_ret
      have hfin := HRE.out.trans HBB.out
      rw [HL.out] at hfin
      exact hfin
end Go.Proofs.YtihloigpdcinkaaDoor
