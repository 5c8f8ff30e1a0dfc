/- The walk of deriv.By. -/
import Derived.Test.YtfpfloahkibcgaaGreatDoorDer
namespace Go.Proofs.YtfpfloahkibcgaaGreatDoor
open Go.RowKit

/-- What a call of By comes to. -/
def ByFn (y : Nat) (r : Re) : Prop := ∀ (X : Nat → Prop) (b : Nat) (w : World), ReAt w X r b → (∀ k, X k → k < w.heap.size) → Calls Tryz.prog 78 #[ptr b, .int .u8 y] w (RetRe w X (byR y r))
theorem below_none {w w' : World} (h : w.grownBy w' none) : Below w.heap.size w w' := ⟨h.os, h.tape, h.output, h.size, fun k hk => h.block k hk (by simp)⟩
theorem RetRe.ret {w w' : World} {X : Nat → Prop} {r : Re} {b : Nat} (h : ReAt w' X r b) (hb : Below w.heap.size w w') : RetRe w X r (.returned (ptr b)) w' := ⟨b, rfl, h, hb⟩

set_option maxRecDepth 100000 in
set_option maxHeartbeats 1000000 in
theorem by_none (y : Nat) : ByFn y .none := by
  intro X b w h hX
  obtain ⟨A, c, bs, hbc, -, -⟩ := h.row
  obtain ⟨k0, -⟩ := cellsOf hbc
  have HN := hid (nothing_any X w hX)
  rw [byR_none]
  clear h hbc
  simp only [Re.op] at k0
  unfold ptr
  go_enter Tryz.func78, Tryz.ntmps78
  go_wp2_with (go_at_call 67; refine HN.out.mono ?_; rintro e w2 hre; have HRE := hid hre; obtain ⟨bn, rfl, -⟩ := hre)
  go_ret
  exact HRE.out
set_option maxRecDepth 100000 in
set_option maxHeartbeats 1000000 in
theorem by_eps (y : Nat) : ByFn y .eps := by
  intro X b w h hX
  obtain ⟨A, c, bs, hbc, -, -⟩ := h.row
  obtain ⟨k0, -⟩ := cellsOf hbc
  have HN := hid (nothing_any X w hX)
  rw [byR_eps]
  clear h hbc
  simp only [Re.op] at k0
  unfold ptr
  go_enter Tryz.func78, Tryz.ntmps78
  go_wp2_with (go_at_call 67; refine HN.out.mono ?_; rintro e w2 hre; have HRE := hid hre; obtain ⟨bn, rfl, -⟩ := hre)
  go_ret
  exact HRE.out
set_option maxRecDepth 100000 in
set_option maxHeartbeats 1000000 in
theorem by_cls (y : Nat) (hy : y < 256) (s : CSet) : ByFn y (.cls s) := by
  intro X b w h hX
  obtain ⟨A, c, bs, hbc, -, -⟩ := h.row
  obtain ⟨k0, k1, k2, k3, k4, -⟩ := cellsOf hbc
  have HH := hid (has_any s y w hy)
  have HN := hid (fun W (hW : Below w.heap.size w W) => nothing_any X W (fun k hk => Nat.lt_of_lt_of_le (hX k hk) hW.size))
  have HE := hid (fun W (hW : Below w.heap.size w W) => empty_any X W (fun k hk => Nat.lt_of_lt_of_le (hX k hk) hW.size))
  rw [byR_cls]
  clear h hbc
  simp only [Re.op, Re.set] at k0 k1 k2 k3 k4
  unfold cv at HH
  unfold ptr
  generalize s.has y = q at *
  cases q
  · go_enter Tryz.func78, Tryz.ntmps78
    go_wp2_with (first | (go_at_call 79; refine HH.out.mono ?_; rintro e w2 ⟨rfl, hb1⟩; have HB2 := hid hb1; clear hb1) | (go_at_call 67; refine (HN.out _ HB2.out).mono ?_; rintro e w3 hre; have HRE := hid (hre.trans HB2.out); obtain ⟨bn, rfl, -⟩ := hre))
    go_ret
    exact HRE.out
  · go_enter Tryz.func78, Tryz.ntmps78
    go_wp2_with (first | (go_at_call 79; refine HH.out.mono ?_; rintro e w2 ⟨rfl, hb1⟩; have HB2 := hid hb1; clear hb1) | (go_at_call 58; refine (HE.out _ HB2.out).mono ?_; rintro e w3 hre; have HRE := hid (hre.trans HB2.out); obtain ⟨bn, rfl, -⟩ := hre))
    go_ret
    exact HRE.out
theorem then_two (p q : Re) (X : Nat → Prop) (W : World) (a b : Nat) (ha : ReAt W X p a) (hb : ReAt W X q b) (hX : ∀ k, X k → k < W.heap.size) (hsz : p.size + q.size ≤ 549755813888) :
    Calls Tryz.prog 53 #[.slice (some ⟨W.heap.size, 0, none⟩) 2 2] (W.alloc (.cells #[ptr a, ptr b] 32)) (RetRe W X (thenL [p, q])) :=
  (then_any _ 2 2 [p, q] [a, b] X _ (ReRow.news ((Els.one ha).append (Els.one hb)) hX _) (fun k hk => by have := hX k hk; simp; omega) (by simp only [Re.sizes]; omega)).mono fun _ _ h => h.trans ((Below.refl _ _).alloc (Nat.le_refl _) _)
theorem any_two (p q : Re) (X : Nat → Prop) (W : World) (a b : Nat) (ha : ReAt W X p a) (hb : ReAt W X q b) (hX : ∀ k, X k → k < W.heap.size) (hsz : p.size + q.size ≤ 549755813888) :
    Calls Tryz.prog 52 #[.slice (some ⟨W.heap.size, 0, none⟩) 2 2] (W.alloc (.cells #[ptr a, ptr b] 32)) (RetRe W X (anyL [p, q])) :=
  (any_any _ 2 2 [p, q] [a, b] X _ (ReRow.news ((Els.one ha).append (Els.one hb)) hX _) (fun k hk => by have := hX k hk; simp; omega) (by simp only [Re.sizes]; omega)).mono fun _ _ h => h.trans ((Below.refl _ _).alloc (Nat.le_refl _) _)

set_option maxRecDepth 100000 in
set_option maxHeartbeats 1000000 in
theorem by_star (y : Nat) (x : Re) (ih : ByFn y x) (hsz : (byR y x).size + (1 + x.size) ≤ 549755813888) : ByFn y (.star x) := by
  intro X b w h hX
  have HR := hid h
  obtain ⟨A, c, bs, hbc, hcap, hrow⟩ := h.row
  obtain ⟨k0, k1, k2, k3, k4, k5, -⟩ := cellsOf hbc
  have hbl := lt_of_heap hbc
  simp only [Re.op, Re.kids, List.length_cons, List.length_nil, Nat.zero_add] at k0 k5 hrow
  obtain ⟨g, o, x', bx, rfl, c0, hx, -, hax, hg⟩ := hrow.at_ (k := 0) (by omega)
  have hx : x = x' := by simpa using hx
  subst hx
  rw [Nat.add_zero] at c0
  have HC := hid (ih X bx w hax hX)
  have HXl := hid hX
  have HT : Hid (∀ W a b, Below w.heap.size w W → ReAt W X (byR y x) a → ReAt W X (.star x) b → Calls Tryz.prog 53 #[.slice (some ⟨W.heap.size, 0, none⟩) 2 2] (W.alloc (.cells #[ptr a, ptr b] 32)) (RetRe W X (thenL [byR y x, .star x]))) := fun W a b hW ha hb =>
    then_two _ _ X W a b ha hb (fun k hk => Nat.lt_of_lt_of_le (HXl.out k hk) hW.size) (by simpa only [Re.size] using hsz)
  rw [byR_star]
  clear h hbc hcap hrow k1 k2 k3 k4 ih hax hsz hX
  unfold ptr at *
  go_enter Tryz.func78, Tryz.ntmps78
  go_wp2_with (first | (go_at_call 78; refine HC.out.mono ?_; rintro e w2 ⟨b2, rfl, h2, hb2⟩; have H2 := hid h2; have HB2 := hid hb2; clear h2 hb2) | (go_at_call 53; refine (HT.out _ _ _ HB2.out H2.out (HR.out.under HB2.out)).mono ?_; rintro e w3 hre; have HRE := hid (hre.trans HB2.out); obtain ⟨bn, rfl, -⟩ := hre))
  go_ret
  exact HRE.out

theorem withR_by (y : Nat) {r : Re} (h : r.op = 4 ∨ r.op = 6 ∨ r.op = 7) : withR r (r.kids.map (byR y)) = byR y r := by
  unfold withR
  cases r with
  | or l => simp [Re.op, Re.kids, byR_or]
  | and l => simp [Re.op, Re.kids, byR_and]
  | minus a b => simp [Re.op, Re.kids, byR_minus]
  | _ => simp [Re.op] at h
set_option maxRecDepth 100000 in
set_option maxHeartbeats 4000000 in
theorem by_kids (y : Nat) (r : Re) (hop : r.op = 4 ∨ r.op = 6 ∨ r.op = 7) (ih : ∀ k ∈ r.kids, ByFn y k) (hn0 : 0 < r.kids.length) (hlen : r.kids.length ≤ 549755813888) (hsz : Re.sizes (r.kids.map (byR y)) ≤ 549755813888) : ByFn y r := by
  intro X b w h hX
  have HR := hid h
  obtain ⟨A, c, bs, hbc, hcap, hrow⟩ := h.row
  obtain ⟨k0, k1, k2, k3, k4, k5, -⟩ := cellsOf hbc
  have hbl := lt_of_heap hbc
  have hby := withR_by y hop
  generalize hl : r.kids = l at *
  obtain ⟨n, hn⟩ : ∃ n, n = l.length := ⟨_, rfl⟩
  have HN := hid hn
  rw [← hn] at k5 hrow hlen hn0
  have HROW := hid hrow
  have HIH := hid ih
  have HXl := hid hX
  have HSZ := hid hsz
  have HW : Hid (∀ W A c bs, Below w.heap.size w W → ReRow W X A n (l.map (byR y)) bs → Calls Tryz.prog 112 #[ptr b, .slice A n c] W (RetRe W X (byR y r))) := fun W A c bs hW hr => by
    have := with_any r b A n c (l.map (byR y)) bs X W (HR.out.under hW) hr (fun k hk => Nat.lt_of_lt_of_le (HXl.out k hk) hW.size) HSZ.out
    rw [hby] at this
    exact this
  obtain ⟨z, hz⟩ : ∃ z, z = byR y r := ⟨_, rfl⟩
  rw [← hz] at HW ⊢
  obtain ⟨i0, hi, hz0, hz1, hz2⟩ := info_parts info_ptr
  clear h hbc hcap hrow k1 k2 k3 k4 ih hX hsz hn hl hby hz
  unfold ptr at *
  rcases hop with hop | hop | hop
  all_goals
    rw [hop] at k0
    clear hop
    go_enter Tryz.func78, Tryz.ntmps78
    go_wp2_with (at_make; refine wpList_make_own _ rfl _ _ 69 rfl w.heap.size 32 i0 (.pointer none) 1 Tryz.underlying69 hi hz0 hz1 _ _ _ n rfl rfl (by omega) (by rw [hz2]; omega) (by unfold maxLen; omega) (Nat.le_refl _) ?_; intro w1 ho hg; have HOWN0 : Hid (OwnP w1 w.heap.size (.slice (some ⟨w.heap.size, 0, none⟩) 0 n) []) := ho; have HB1 := hid (below_none hg); have d5 := (HB1.out.cell (p := ⟨b, 5, none⟩) hbl).trans k5; have d0 := (HB1.out.cell (p := ⟨b, 0, none⟩) hbl).trans k0; clear ho hg)
    go_loopw [8, 84] (fun v i wr => ∃ (k : Nat) (cs : List Nat), k ≤ n ∧ i = .int .i64 k ∧ Hid (OwnP wr w.heap.size v cs) ∧ Hid (Els wr (Xo X v) ((l.take k).map (byR y)) cs) ∧ Hid (Below w.heap.size w wr)) (fun _ i _ => n - (intOf i).toNat)
    case atStart => exact ⟨0, [], Nat.zero_le _, rfl, HOWN0.out, Els.nil, HB1.out⟩
    case round =>
      obtain ⟨k, cs, hk, rfl, hown, hels, hbel⟩ := hrel
      have hszr : w.heap.size ≤ wr.heap.size := hbel.out.size
      by_cases hlt : k < n
      · obtain ⟨g, o, x, bx, rfl, c1, hx, -, hax, hg⟩ := HROW.out.at_ (k := k) hlt
        have hc1 := (hbel.out.cell (p := ⟨g, o + k, none⟩) hg).trans c1
        have hxl : ∀ k, Xo X u8 k → k < wr.heap.size := fun k hk => by
          rcases hk with hk | hk
          · exact Nat.lt_of_lt_of_le (HXl.out k hk) hszr
          · exact (hown.out.lt k hk).2
        have hal : ReAt wr (Xo X u8) x bx := (hax.also (Y := Xo X u8) fun j hj hlj => hj.elim id fun e => absurd (hown.out.lt j e).1 (by omega)).under hbel.out
        have HC := hid (HIH.out x (List.mem_of_getElem? hx) (Xo X u8) bx wr hal hxl)
        have HSN : Hid ((l.take (k + 1)).map (byR y) = (l.take k).map (byR y) ++ [byR y x]) := hid (by
          obtain ⟨hl, e⟩ := List.getElem?_eq_some_iff.1 hx
          rw [List.take_succ_eq_append_getElem hl, e, List.map_append]
          rfl)
        have hbn : cs.length + [k].length ≤ 1099511627776 := by
          have := hels.out.1
          simp at this ⊢
          omega
        unfold ptr at hc1 HC
        clear hx hax hal hxl c1
        go_wp2_with (first | (go_at_call 78; refine HC.out.mono ?_; rintro e w3 ⟨bn, rfl, h3, hb3⟩; have H3 := hid h3; have HB3 := hid hb3; have hz3 : w.heap.size ≤ w3.heap.size := Nat.le_trans hszr hb3.size; clear h3 hb3; have HO3 := hid (OwnP.kept hown.out HB3.out); have HE3 := hid (Els.below hels.out HB3.out); have HB13 := hid (hbel.out.trans (HB3.out.mono hszr))) | (at_builtin; refine wpList_app_ptr _ rfl (.tmp 88) (.tmp 92) rfl w.heap.size _ cs rfl (HO3.out.alloc _) (some ⟨w3.heap.size, 0, none⟩) 1 1 [bn] rfl (Rd.one_new _ _ _) (fun h => by cases h) hbn (le_alloc hz3 _) ?_; intro v' w4 ho4 hg4 hat4; have HO4 := hid ho4; have HG4 := hid hg4; have HT4 := hid hat4; clear ho4 hg4 hat4))
        go_roundw
        case rel => exact ⟨k + 1, cs ++ [bn], by omega, by go_num, HO4.out, by show Els _ _ _ _; rw [HSN.out]; exact ((HE3.out.alloc _).append (Els.one H3.out |>.alloc _)).grown HG4.out HT4.out, below_app (HB13.out.alloc HB13.out.size _) (HO3.out.alloc _) HG4.out⟩
        case measure => simp [intOf]; omega
      · have hkn : k = n := by omega
        subst hkn
        have hown' := hown.out
        have hels' := hels.out
        rw [List.take_of_length_le (by rw [← HN.out]; exact Nat.le_refl _)] at hels'
        obtain ⟨A1, c1, hv⟩ := hown'.form
        have hcl : cs.length = k := by rw [← hels'.1, List.length_map, ← HN.out]
        rw [hcl] at hv
        subst hv
        obtain ⟨hrw, -, -⟩ := hown'.row hels' HXl.out
        have HC := hid (HW.out wr A1 c1 cs hbel.out hrw)
        clear hown' hels' hlt hown hels hrw
        go_wp2_with (go_at_call 112; refine HC.out.mono ?_; rintro e w3 hre; have HRE := hid (hre.trans hbel.out); obtain ⟨bn, rfl, -⟩ := hre)
        go_ret
        exact HRE.out
end Go.Proofs.YtfpfloahkibcgaaGreatDoor
