/- PkX: SideP, Head9, each with its own sentence. -/
import Derived.Test.YtfpfloahkibcgaaGreatDoorPkW
import Derived.Test.YtfpfloahkibcgaaGreatDoorPkV
import Derived.Test.YtfpfloahkibcgaaGreatDoorDerWord
/- A Side that is built: what its places tell; the walk of law 09's head. -/
namespace Go.Proofs.YtfpfloahkibcgaaGreatDoor
open Go.RowKit Go.Maps

theorem i64_and31' (n : Int) : bits .and .i64 n 31 = n % 32 := by
  have hm : (BitVec.ofInt 64 31).toNat = 2 ^ 5 - 1 := by decide
  have key : (BitVec.ofInt 64 n &&& BitVec.ofInt 64 31).toNat = (n % ((2 ^ 64 : Nat) : Int)).toNat % 2 ^ 5 := by
    rw [BitVec.toNat_and, BitVec.toNat_ofInt, hm, Nat.and_two_pow_sub_one_eq_mod]
  show IntKind.i64.wrap ((BitVec.ofInt 64 n &&& BitVec.ofInt 64 31).toNat : Nat) = n % 32
  rw [key, IntKind.wrap_i64]
  omega
noncomputable def langB (r : Re) (t : Txt) : Bool := @decide (Lang r t) (Classical.propDecidable _)
theorem langB_iff (r : Re) (t : Txt) : langB r t = true ↔ Lang r t := @decide_eq_true_iff _ (Classical.propDecidable _)
theorem langB_null {r : Re} (hg : Good r) (t : Txt) : langB r t = (bysL r t).null := by
  rw [Bool.eq_iff_iff, langB_iff, null_lang, lang_bys hg, List.append_nil]
/-- What a Side answers. -/
structure SideK (w : World) (S : Nat) (r : Re) : Prop where
  lt : S < w.heap.size
  heads : ∀ (t : ByteArray) (W : World), t.size ≤ 1000000 → Below w.heap.size w W → Calls Tryz.prog 73 #[ptr S, .string t] W (HdRet W (t.size + 1) fun i => langB r (t.data.toList.take i))
  tails : ∀ (t : ByteArray) (W : World), t.size ≤ 1000000 → Below w.heap.size w W → Calls Tryz.prog 72 #[ptr S, .string t] W (HdRet W (t.size + 1) fun i => langB r (t.data.toList.drop i))
  mat : ∀ (t : ByteArray) (F left used : Nat) (W : World), t.size ≤ 1000000 → Below w.heap.size w W → w.heap.size ≤ F → FuelAt W F left used → left ≤ 1000000000 → used ≤ 1000000000 → Calls Tryz.prog 26 #[ptr S, .string t, ptr F] W (SmRet W F left used t.size (langB r t.data.toList))
theorem SideK.under {w w' : World} {S : Nat} {r : Re} (h : SideK w S r) (hb : Below w.heap.size w w') : SideK w' S r where
  lt := Nat.lt_of_lt_of_le h.lt hb.size
  heads t W ht hW := h.heads t W ht (hb.trans (hW.mono hb.size))
  tails t W ht hW := h.tails t W ht (hb.trans (hW.mono hb.size))
  mat t F left used W ht hW hF := h.mat t F left used W ht (hb.trans (hW.mono hb.size)) (Nat.le_trans hb.size hF)
theorem side_k {w : World} {S Df Db : Nat} {r : Re} (hg : Good r) {left left1 left2 left3 : Nat} {all all2 : List Re} {nx nx2 : List (List Nat)} (hl : left ≤ 1000000) (hl2 : left2 ≤ 1000000)
    (hq : buildR ((refineR (setsR r)).map leastN) r left = some (all, nx, left1)) (hq2 : buildR ((refineR (setsR (backR r))).map leastN) (backR r) left2 = some (all2, nx2, left3))
    (hS : SideAt w S Df Db) (hf : DfaAt w Df (Fr r) ((refineR (setsR r)).map leastN) nx (all.map Re.null)) (hb : DfaAt w Db (Fr (backR r)) ((refineR (setsR (backR r))).map leastN) nx2 (all2.map Re.null)) : SideK w S r := by
  have hbg := backR_good r hg
  have n1 : 0 < (all.map Re.null).length := by rw [List.length_map]; exact (List.getElem?_eq_some_iff.1 (build_ok hq).2.2.1).1
  have n2 : 0 < (all2.map Re.null).length := by rw [List.length_map]; exact (List.getElem?_eq_some_iff.1 (build_ok hq2).2.2.1).1
  have c1 := DfaAt.con hf (dfa_ok hq hl) (built_closed hq)
  have c2 := DfaAt.con hb (dfa_ok hq2 hl2) (built_closed hq2)
  refine ⟨lt_of_heap hS, fun t W ht hW => ?_, fun t W ht hW => ?_, fun t F left used W ht hW hF hFu h1 h2 => ?_⟩
  · have h := sheads_any S Df Db _ _ _ t ht W (hS.below hW) (c1.under hW) n1
    rw [show (fun i => yN (all.map Re.null) (runN (dN (Fr r) nx) 0 (t.data.toList.take i))) = fun i => langB r (t.data.toList.take i) from funext fun i => by rw [Bool.eq_iff_iff, built_lang hg hq, langB_iff]] at h
    exact h
  · have h := stails_any S Df Db _ _ _ t ht W (hS.below hW) (c2.under hW) n2
    rw [show (fun i => yN (all2.map Re.null) (runN (dN (Fr (backR r)) nx2) 0 (t.data.toList.drop i).reverse)) = fun i => langB r (t.data.toList.drop i) from funext fun i => by rw [Bool.eq_iff_iff, built_lang hbg hq2, lang_back r hg, List.reverse_reverse, langB_iff]] at h
    exact h
  · refine smatch_any S Df Db F left used _ t ht W hFu h1 h2 (hS.below hW) (Nat.lt_of_lt_of_le (lt_of_heap hS) hF) fun W' hW' => ?_
    have h := dmatch_any Df t ht (Fr r) _ nx _ (dfa_ok hq hl) W' (hf.below (hW.trans (hW'.mono hF)))
    rw [@dfa_match r hg _ all nx _ hq t.data.toList] at h
    have e : @decide (Lang r t.data.toList) (Classical.propDecidable _) = langB r t.data.toList := rfl
    rw [← e]
    exact h
/-- Both of a Side's Dfas are built with so many states. -/
def sideB (r : Re) (left : Nat) : Bool := match buildR ((refineR (setsR r)).map leastN) r left with
  | none => false
  | some (_, _, left1) => (buildR ((refineR (setsR (backR r))).map leastN) (backR r) left1).isSome
theorem side_any (r : Re) (hg : Good r) (hsz : r.size ≤ 500000) (left : Nat) (hl : left ≤ 1000000) (w0 w : World) (b : Nat) (h : ReAt w0 X0 r b) (hb : Below w0.heap.size w0 w) (hB : BudAt w w0.heap.size left 0) (hT : Tab w0) :
    Calls Tryz.prog 17 #[ptr b, ptr w0.heap.size] w fun e w' => Below w0.heap.size w0 w' ∧ if sideB r left = true then ∃ S, e = .returned (.tuple #[ptr S, .int .i64 0]) ∧ SideK w' S r else e = .returned (.tuple #[.pointer none, .int .i64 5]) :=
  (sbuilt_any r hg hsz left hl w0 w b h hb hB hT).mono fun e w' ⟨h1, h2⟩ => ⟨h1, by
    unfold SideRet at h2
    unfold sideB
    cases hq : buildR ((refineR (setsR r)).map leastN) r left with
    | none => rw [hq] at h2; exact h2
    | some t =>
      obtain ⟨all, nx, left1⟩ := t
      rw [hq] at h2
      dsimp only at h2 ⊢
      have hl1 := (build_ok hq).2.2.2
      obtain ⟨x, hx⟩ : ∃ x, x = buildR ((refineR (setsR (backR r))).map leastN) (backR r) left1 := ⟨_, rfl⟩
      rw [← hx] at h2
      simp only [← hx]
      cases x with
      | none => exact h2
      | some t2 =>
        obtain ⟨all2, nx2, left2⟩ := t2
        obtain ⟨S, Df, Db, e1, e2, e3, e4⟩ := h2
        exact ⟨S, e1, side_k hg hl (by omega) hq hx.symm e2 e3 e4⟩⟩
end Go.Proofs.YtfpfloahkibcgaaGreatDoor

/- The walk of law 09's head. -/
namespace Go.Proofs.YtfpfloahkibcgaaGreatDoor
open Go.RowKit Go.Maps

abbrev h9a : Re := manyR (wordR [97])
abbrev h9b : Re := manyR (wordR [98])
theorem h9_good (b : UInt8) : Good (manyR (wordR [b])) := manyR_good (wordR_good _)
theorem h9a_side : sideB h9a 100 = true := by decide +kernel
theorem h9b_side : sideB h9b 100 = true := by decide +kernel
theorem h9_places : plB (fun i => langB h9a (([97, 97, 98, 98] : Txt).take i)) (fun i => langB h9b (([97, 97, 98, 98] : Txt).drop i)) 5 = [2] := by
  simp only [langB_null (h9_good _)]
  decide +kernel
theorem h9_size (b : UInt8) : (manyR (wordR [b])).size ≤ 1000 := by
  have := bys_many_size [] [b]
  simp [bysL] at this
  omega
theorem h9_x : (ByteArray.mk #[97, 97, 98, 98]).extract 0 2 = ⟨#[97, 97]⟩ := by kernel_rfl
theorem h9_y : (ByteArray.mk #[97, 97, 98, 98]).extract 2 (ByteArray.mk #[97, 97, 98, 98]).size = ⟨#[98, 98]⟩ := by kernel_rfl
theorem h9_ret {e : Ending} (h : e = .returned (.tuple #[.string ((ByteArray.mk #[97, 97, 98, 98]).extract 0 2), .string ((ByteArray.mk #[97, 97, 98, 98]).extract 2 (ByteArray.mk #[97, 97, 98, 98]).size), .int .i64 0])) : e = .returned (.tuple #[.string ⟨#[97, 97]⟩, .string ⟨#[98, 98]⟩, .int .i64 0]) := by
  rw [h9_x, h9_y] at h
  exact h
set_option maxRecDepth 100000 in
set_option maxHeartbeats 2000000 in
theorem head9_any (w : World) (hT : Tab w) : Calls Tryz.prog 15 #[] w fun e w' => e = .returned (.bool true) ∧ Below w.heap.size w w' := by
  have HWA := hid (fun W => word_any ⟨#[97]⟩ X0 W (X0_lt W) (by decide))
  have HWB := hid (fun W => word_any ⟨#[98]⟩ X0 W (X0_lt W) (by decide))
  have hwa := wordR_size [97]
  have hwb := wordR_size [98]
  simp only [List.length_cons, List.length_nil] at hwa hwb
  have sa := h9_size 97
  have sb := h9_size 98
  have HMA : Hid (∀ W b, ReAt W X0 (wordR [97]) b → Calls Tryz.prog 54 #[ptr b] W (RetRe W X0 h9a)) := fun W b hb => many_any _ X0 b W hb (X0_lt W) (by omega)
  have HMB : Hid (∀ W b, ReAt W X0 (wordR [98]) b → Calls Tryz.prog 54 #[ptr b] W (RetRe W X0 h9b)) := fun W b hb => many_any _ X0 b W hb (X0_lt W) (by omega)
  have HGR := hid (fun W => grant_any 100 100 rfl W)
  have HFI := hid (fun W => fill_any 100 100 rfl W)
  have HBA := hid (fun w0 W b (h : ReAt w0 X0 h9a b) hb hB hT => side_any h9a (h9_good _) (by unfold h9a; omega) 100 (by omega) w0 W b h hb hB hT)
  have HBB := hid (fun w0 W b (h : ReAt w0 X0 h9b b) hb hB hT => side_any h9b (h9_good _) (by unfold h9b; omega) 100 (by omega) w0 W b h hb hB hT)
  simp only [if_pos h9a_side] at HBA
  simp only [if_pos h9b_side] at HBB
  have HCAT := hid (fun (W0 W : World) (Sa Sb : Nat) (ka : SideK W0 Sa h9a) (kb : SideK W0 Sb h9b) (hF : FuelAt W W0.heap.size 100 0) (hb : Below W0.heap.size W0 W) =>
    cat_split (ptr Sa) (ptr Sb) (ptr W0.heap.size) W0.heap.size 100 0 [2] ⟨#[97, 97, 98, 98]⟩ (by decide) (by decide) W (by
      have h := places_any Sa Sb W0.heap.size 100 0 (fun i => langB h9a (([97, 97, 98, 98] : Txt).take i)) (fun i => langB h9b (([97, 97, 98, 98] : Txt).drop i)) ⟨#[97, 97, 98, 98]⟩ (by decide) W hF (by decide) (by decide)
        (fun W' hW' => ka.heads ⟨#[97, 97, 98, 98]⟩ W' (by decide) (hb.trans hW')) (fun W' hW' => kb.tails ⟨#[97, 97, 98, 98]⟩ W' (by decide) (hb.trans hW'))
      rw [show ByteArray.size ⟨#[97, 97, 98, 98]⟩ = 4 from rfl, h9_places] at h
      exact h))
  unfold CatRet at HCAT
  have HT := hid hT
  have HNOW : Hid (Below w.heap.size w w) := Below.refl _ _
  clear hT sa sb hwa hwb
  generalize h9a = ra at *
  generalize h9b = rb at *
  generalize wordR [97] = r1 at *
  generalize wordR [98] = r2 at *
  unfold ptr at *
  go_enter Tryz.func15, Tryz.ntmps15
  go_wp2_with (first | (go_at_call 64; refine (HWA.out _).mono ?_; rintro e w2 ⟨b2, rfl, h2, hb2⟩; have HR2 := hid (HMA.out _ _ h2); have HB2 := hid (HNOW.out.trans (hb2.mono HNOW.out.size)); clear h2 hb2) | (go_at_call 54; refine HR2.out.mono ?_; rintro e w3 ⟨b3, rfl, h3, hb3⟩; have HR3 := hid h3; have HB3 := hid (HB2.out.trans (hb3.mono HB2.out.size)); clear h3 hb3 HR2 HB2) | (go_at_call 19; refine (HGR.out _).mono ?_; rintro e w4 ⟨rfl, h4, hb4⟩; have HBD := hid (HBA.out _ _ _ HR3.out hb4 h4 (HT.out.below HB3.out)); clear h4 hb4) | (go_at_call 17; refine HBD.out.mono ?_; rintro e w5 ⟨hb5, Sa, rfl, hka⟩; have HKA := hid hka; have HB5 := hid (HB3.out.trans (hb5.mono HB3.out.size)); have HN5 : Hid (Below w5.heap.size w5 w5) := Below.refl _ _; clear hka hb5 HBD HR3 HB3 HWA))
  go_wp2_with (first | (go_at_call 64; refine (HWB.out _).mono ?_; rintro e w2 ⟨b2, rfl, h2, hb2⟩; have HR2 := hid (HMB.out _ _ h2); have HB2 := hid (HN5.out.trans (hb2.mono HN5.out.size)); clear h2 hb2) | (go_at_call 54; refine HR2.out.mono ?_; rintro e w3 ⟨b3, rfl, h3, hb3⟩; have HR3 := hid h3; have HB3 := hid (HB2.out.trans (hb3.mono HB2.out.size)); clear h3 hb3 HR2 HB2) | (go_at_call 19; refine (HGR.out _).mono ?_; rintro e w4 ⟨rfl, h4, hb4⟩; have HBD := hid (HBB.out _ _ _ HR3.out hb4 h4 (HT.out.below (HB5.out.trans (HB3.out.mono HB5.out.size)))); clear h4 hb4) | (go_at_call 17; refine HBD.out.mono ?_; rintro e w6 ⟨hb6, Sb, rfl, hkb⟩; have HKB := hid hkb; have HB6 := hid (HB3.out.trans (hb6.mono HB3.out.size)); clear hkb hb6) | (go_at_call 21; refine (HFI.out _).mono ?_; rintro e w7 ⟨rfl, h7, hb7⟩; have HF7 := hid h7; have HB7 := hid hb7; clear h7 hb7) | (go_at_call 25; refine (HCAT.out w6 w7 Sa Sb (HKA.out.under HB6.out) HKB.out HF7.out HB7.out).mono ?_; rintro e w8 ⟨hb8, hret⟩; rw [if_pos (by decide)] at hret; obtain ⟨-, hret, -⟩ := hret; obtain rfl : e = .returned (.tuple #[.string ⟨#[97, 97]⟩, .string ⟨#[98, 98]⟩, .int .i64 0]) := h9_ret (hret 2 rfl); have HB8 := hid hb8; clear hb8 hret))
  go_ret
  exact ⟨rfl, HB5.out.trans ((HB6.out.trans ((HB7.out.trans HB8.out).mono HB6.out.size)).mono HB5.out.size)⟩
end Go.Proofs.YtfpfloahkibcgaaGreatDoor
