/- DfaTexts: the row, the card. -/
import Derived.Test.YtaplejpjmaocdaaGreatDoorPkG
import Derived.Test.YtaplejpjmaocdaaGreatDoorOpenNums
import Derived.Test.YtaplejpjmaocdaaGreatDoorLawDTexts
import Derived.Test.YtaplejpjmaocdaaGreatDoorTabRow
import Derived.Test.YtaplejpjmaocdaaGreatDoorCards
namespace Go.Proofs.YtaplejpjmaocdaaGreatDoor
open Go.ChangeShapes Go.WideShapes Go.ChangeAt Go.WideMaps Go.WideElems Go.RowKit

set_option maxRecDepth 100000 in
theorem dfaTexts_lifted (os : Os) (started : os.Started) (H : Type) (enc : TypeId × Value → H) :
    ReturnsInHanded {} Tryz.checked os 3 .any (fun w args => (Rows.dfaTextsSpec.pre enc Tryz.prog Tryz.f3 [] false w args ∧ laidMetH Tryz.prog laidL w) ∧ sizedMet enc Tryz.prog Tryz.f3 (OpenSpec.ofChange Rows.dfaTextsSpec) false w args)
      (Rows.dfaTextsSpec.post enc Tryz.prog Tryz.f3 false true false false) := by
  refine returnsInHanded_of_change_and (C := Tryz.checked) (X := fun w _ => laidMetH Tryz.prog laidL w) (fun _ _ _ hh h => h.of_heap hh) own started (by kernel_rfl) Tryz.func3
    (ChangeSpec.witness_shaped (enc := enc) (C := Tryz.checked) (os := os) (X := fun w _ => laidMetH Tryz.prog laidL w) false (World.doorLaid Tryz.prog 400 os) #[.agg #[.int .i64 0, .int .u8 0, .int .u8 0, .string ⟨#[]⟩, .slice none 0 0], .slice none 0 0, .int .i64 0] 8 rfl (World.shaped_of_RefB (by kernel_rfl) (by kernel_rfl)) (by kernel_rfl) (by kernel_rfl) (by kernel_rfl) (door_met os _)) ?_
  intro W base args ds gs before hval0 hW _ _ hL _
  have hval : ∀ (j : Nat) t v, Tryz.f3.params[j]? = some t → args[j]? = some v → Value.okWide Tryz.prog W .any base t v := hval0
  have hW' := hW
  obtain ⟨p, q, hA0, hV, rfl, hfz, hnd⟩ := hW
  have hA : DataW.TrodAll enc Tryz.prog W 0 (fun _ => true) true Tryz.f3.params.toList args.toList ds p := hA0
  rw [Tryz.params3] at hA hval
  obtain ⟨v0, v1, v2, d0, d1, d2, p0, p1, p2, rfl, rfl, rfl, h0, h1, h2⟩ := trodAll_three hA
  obtain ⟨rfl, rfl⟩ := trodVars_none hV
  obtain ⟨fs, f0, f1, f2, f3, f4, T⟩ := shTypes
  obtain ⟨s0, A0, c0, e0, hs0⟩ := open_shp T (hval 0 _ v0 rfl rfl) h0
  obtain ⟨A1, c1, ns1, e1, hl1, hn1⟩ := open_nums_ numTypes.1 numTypes.2.1 numTypes.2.2 (hval 1 _ v1 rfl rfl) h1
  have h2k := h2
  obtain ⟨n2, e2, -, -, w2⟩ := open_int Tryz.underlying3 (hval 2 _ v2 rfl rfl) h2k
  clear hA0 hval0
  simp only [List.append_nil] at hW'
  have hlt : ∀ x ∈ p0 ++ p1 ++ p2, x.block < W.heap.size := fun x hx => by simpa using hW'.lt x hx
  have hwalk := dfaTexts_any s0 A0 c0 ns1 A1 ns1.length c1 n2 W hs0 hn1 hl1 (tab_laid hL)
  rw [← e0, ← e1, ← e2] at hwalk
  refine hwalk.mono fun e W' ⟨he, hb⟩ => ⟨_, he, ?_⟩
  refine ⟨_, _, _, [], p0 ++ p1 ++ p2, [], hW', ?_, ?_, rfl, hb.frame _, fun h => by cases h⟩
  · exact trodAll_mk1 (shut_bool Tryz.underlying4 _)
  · rw [List.append_assoc]; exact trodAll_mk3 (Below.trod laidOut (by kernel_rfl) (of_decide_eq_true (by kernel_rfl)) h0 hb (fun x hx => hlt x (List.mem_append_left _ (List.mem_append_left _ hx)))) (Below.trod laidOut (by kernel_rfl) (of_decide_eq_true (by kernel_rfl)) h1 hb (fun x hx => hlt x (List.mem_append_left _ (List.mem_append_right _ hx)))) (Below.trod laidOut (by kernel_rfl) (of_decide_eq_true (by kernel_rfl)) h2 hb (fun x hx => hlt x (List.mem_append_right _ hx)))

theorem dfaTexts_holds : Rows.DfaTextsSaid :=
  OpenClaim.holds_of_wide 3 Tryz.f3 rfl rfl rfl rfl rfl rfl rfl ⟨rfl, rfl, rfl, rfl, rfl⟩ rfl rfl rfl rfl rfl (by kernel_rfl) Tryz.func3 (by kernel_rfl)
    (of_decide_eq_true (by kernel_rfl)) (by unfold Func.isWrapper; first | (rw [if_pos (by decide +kernel)]; kernel_rfl) | (rw [if_neg (by decide +kernel)]; exact ⟨rfl, rfl⟩))
    (fun os started H enc _ => dfaTexts_lifted os started H enc)

/-- THE TIED CARD. -/
theorem dfaTexts_card : Rows.DfaTextsCardSaid :=
  Claim7.holds_tied_plain_at .later [] [.data, .data, .data] true Rows.dfaTextsCard.stood.harness false
    dfaTexts_holds (fun _ h => by cases h) (by kernel_rfl) (fun _ h => by cases h) dfaTexts_row_tie rfl ⟨rfl, rfl⟩ (by kernel_rfl) rfl
    (fun f fn hf hfn => by
      obtain rfl : f = 3 := Option.some.inj ((show Tryz.prog.funcNamed "periscope/periscopelaw06.DfaTexts" = some 3 by kernel_rfl).symm.trans hf) |>.symm
      obtain rfl : fn = Tryz.f3 := (Option.some.inj (Tryz.func3.symm.trans hfn)).symm
      exact ⟨by kernel_rfl, fun j t ht => by
        rw [Tryz.params3] at ht
        have hm : t ∈ [24, 25, 3] := by simpa using Array.mem_of_getElem? ht
        have hall : ([24, 25, 3].all fun u => !Tryz.prog.wantsStandIn u) = true := by kernel_rfl
        exact (show Tryz.prog.wantsStandIn t = false by simpa using List.all_eq_true.1 hall t hm)⟩)
    (by kernel_rfl)
#print axioms dfaTexts_card
end Go.Proofs.YtaplejpjmaocdaaGreatDoor
