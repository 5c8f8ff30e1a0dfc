/- The walk of law 06's head. -/
import Derived.Test.YtaplejpjmaocdaaGreatDoorDfaW
import Derived.Test.YtaplejpjmaocdaaGreatDoorBuildW2
import Derived.Test.YtaplejpjmaocdaaGreatDoorDerWord
namespace Go.Proofs.YtaplejpjmaocdaaGreatDoor
open Go.RowKit Go.Maps

abbrev hd6 : Re := manyR (wordR [97, 98])
def nx6 : List (List Nat) := [[1, 2, 1], [1, 1, 1], [1, 1, 0]]
theorem hd6_heads : headsR (refineR (setsR hd6)) = [0, 97, 98] := by decide +kernel
theorem hd6_build : (buildR [0, 97, 98] hd6 100).map (fun t => (t.1.map Re.null, t.2.1, t.2.2)) = some ([true, false, false], nx6, 97) := by decide +kernel
theorem hd6_at : (List.range 256).all (fun b => decide (atN (refineR (setsR hd6)) (refineR (setsR hd6)).length b < 3)) = true := by decide +kernel
theorem hd6_yes : yesD [true, false, false] (runD (atN (refineR (setsR hd6)) (refineR (setsR hd6)).length) nx6 0 [97, 98, 97, 98]) = true := by decide +kernel
theorem hd6_no : yesD [true, false, false] (runD (atN (refineR (setsR hd6)) (refineR (setsR hd6)).length) nx6 0 [97, 98, 97]) = false := by decide +kernel
theorem X0X6 {W : World} : ∀ k, X0 k → k < W.heap.size := X0_lt W
set_option maxRecDepth 100000 in
set_option maxHeartbeats 2000000 in
theorem head6_any (w : World) (hT : Tab w) : Calls Tryz.prog 11 #[] w fun e w' => e = .returned (.bool true) ∧ Below w.heap.size w w' := by
  have HW := hid (word_any ⟨#[97, 98]⟩ X0 w (X0_lt w) (by decide))
  have hw1 := wordR_size [97, 98]
  simp only [List.length_cons, List.length_nil] at hw1
  have hsz : hd6.size ≤ 1000000 := by have := bys_many_size [] [97, 98]; simp [bysL] at this; unfold hd6; omega
  have HMA : Hid (∀ W b, ReAt W X0 (wordR [97, 98]) b → Calls Tryz.prog 47 #[ptr b] W (RetRe W X0 hd6)) := fun W b hb => many_any _ X0 b W hb X0X6 (by omega)
  have HGR := hid (fun W => grant_any 100 100 rfl W)
  have HBU : Hid (∀ W0 W b, ReAt W0 X0 hd6 b → Below W0.heap.size W0 W → BudAt W W0.heap.size 100 0 → Tab W → Calls Tryz.prog 13 #[ptr b, ptr W0.heap.size] W (BuildRet W W0.heap.size 100 0 hd6 (refineR (setsR hd6)))) := hid (fun W0 W b hb hW hB hT => build_any hd6 b W0.heap.size 100 0 W ((hb.also (Y := fun k => k = W0.heap.size) fun k e hlt => by omega).under hW) (manyR_good (wordR_good _)) hsz hB (by omega) (by omega) hT)
  obtain ⟨ps, hps⟩ : ∃ ps, ps = refineR (setsR hd6) := ⟨_, rfl⟩
  have hh := hd6_heads
  have hbd := hd6_build
  have hat := hd6_at
  have hy := hd6_yes
  have hn := hd6_no
  rw [← hps] at HBU hh hat hy hn
  clear hps hw1 hsz
  have HRET : Hid (∀ W0 B W e w', BuildRet W B 100 0 hd6 ps e w' → W0 ≤ B → W0 ≤ W.heap.size → Below W0 W w' ∧ ∃ D, e = .returned (.tuple #[ptr D, .int .i64 0]) ∧ DfaAt w' D (atN ps ps.length) [0, 97, 98] nx6 [true, false, false]) := hid (fun W0 B W e w' h h1 h2 => by
    obtain ⟨hk, h⟩ := h
    refine ⟨hk.below h2 fun k hk e => by omega, ?_⟩
    rw [show ps.map leastN = [0, 97, 98] from hh] at h
    cases hb : buildR [0, 97, 98] hd6 100 with
    | none => rw [hb] at hbd; cases hbd
    | some t =>
      obtain ⟨all, nx, left'⟩ := t
      rw [hb] at h hbd
      simp only [Option.map_some, Option.some.injEq, Prod.mk.injEq] at hbd
      obtain ⟨b1, b2, b3⟩ := hbd
      obtain ⟨-, D, rfl, -, hd⟩ := h
      rw [b1, b2] at hd
      exact ⟨D, rfl, hd⟩)
  obtain ⟨F, hF⟩ : ∃ F, F = atN ps ps.length := ⟨_, rfl⟩
  rw [← hF] at HRET hat hy hn
  have hok : DOk F [0, 97, 98] nx6 [true, false, false] := ⟨rfl, by intro row hr; simp [nx6] at hr; rcases hr with rfl | rfl | rfl <;> rfl, fun b hb => by have := List.all_eq_true.1 hat b (List.mem_range.2 hb); simpa using this, by decide⟩
  have HM1 := hid (fun W D (h : DfaAt W D F [0, 97, 98] nx6 [true, false, false]) => dmatch_any D ⟨#[97, 98, 97, 98]⟩ (by decide) F _ _ _ hok W h)
  have HM2 := hid (fun W D (h : DfaAt W D F [0, 97, 98] nx6 [true, false, false]) => dmatch_any D ⟨#[97, 98, 97]⟩ (by decide) F _ _ _ hok W h)
  have HLEN := hid (fun W D (h : DfaAt W D F [0, 97, 98] nx6 [true, false, false]) => dlen_any D F _ _ _ W h)
  simp only [hy, hn] at HM1 HM2
  rw [show ([true, false, false] : List Bool).length = 3 from rfl] at HLEN
  have HT := hid hT
  clear hF hat hy hn hh hbd hok hT
  generalize hd6 = S at *
  generalize wordR [97, 98] = R at *
  generalize nx6 = nx at *
  unfold ptr at *
  go_enter Tryz.func11, Tryz.ntmps11
  go_wp2_with (first
    | (go_at_call 48; refine HW.out.mono ?_; rintro e w2 ⟨b2, rfl, h2, hb2⟩; have HR2 := hid (HMA.out _ _ h2); have HB2 := hid hb2; clear h2 hb2)
    | (go_at_call 47; refine HR2.out.mono ?_; rintro e w3 ⟨b3, rfl, h3, hb3⟩; have HR3 := hid h3; have HB3 := hid (HB2.out.trans (hb3.mono HB2.out.size)); clear h3 hb3)
    | (go_at_call 15; refine (HGR.out _).mono ?_; rintro e w4 ⟨rfl, h4, hb4⟩; have HB4 := hid (HB3.out.trans (hb4.mono HB3.out.size)); have HBD := hid (HBU.out _ _ _ HR3.out hb4 h4 (HT.out.below HB4.out)); clear h4 hb4)
    | (go_at_call 13; refine HBD.out.mono ?_; rintro e w5 h5; obtain ⟨hb5, D, rfl, hd5⟩ := HRET.out w.heap.size _ _ _ _ h5 HB3.out.size HB4.out.size; have HB5 := hid (HB4.out.trans hb5); have HD5 := hid hd5; clear h5 hb5 hd5)
    | (go_at_call 24; refine (HLEN.out _ _ HD5.out).mono ?_; rintro e w6 ⟨rfl, rfl⟩)
    | (go_at_call 17; refine (HM1.out _ _ HD5.out).mono ?_; rintro e w7 ⟨rfl, hb7⟩; have HB7 := hid (HB5.out.trans (hb7.mono HB5.out.size)); have HD7 := hid (HD5.out.below hb7); clear hb7)
    | (go_at_call 17; refine (HM2.out _ _ HD7.out).mono ?_; rintro e w8 ⟨rfl, hb8⟩; have HB8 := hid (HB7.out.trans (hb8.mono HB7.out.size)); clear hb8))
  go_ret
  exact ⟨rfl, HB8.out⟩
end Go.Proofs.YtaplejpjmaocdaaGreatDoor
