/- The walk of re.join, by whatever function of two sets. -/
import Derived.Test.YtihloigpdcinkaaDoorUniq
namespace Go.Proofs.YtihloigpdcinkaaDoor
open Go.RowKit

theorem OwnP.base {w : World} {b b' : Nat} {v : Value} {bs : List Nat} (h : OwnP w b v bs) (hb : b' ≤ b) : OwnP w b' v bs := by
  unfold OwnP at h ⊢
  refine ⟨h.1, ?_⟩
  rcases h.2 with h2 | ⟨g, cap, cur, h1, h3, r⟩
  · exact .inl h2
  · exact .inr ⟨g, cap, cur, h1, Nat.le_trans hb h3, r⟩
/-- The class so far: no expression yet, or one. -/
def OneAt (w : World) (X : Nat → Prop) (one : Option CSet) (p : Value) : Prop := match one with
  | none => p = .pointer none
  | some s => ∃ b, p = ptr b ∧ ReAt w X (.cls s) b
theorem OneAt.grown {w w' : World} {X : Nat → Prop} {v v' p : Value} {one : Option CSet} (h : OneAt w (Xo X v) one p) (hg : w.grownBy w' v.ownBlock) (hat : v'.ownBlock = v.ownBlock ∨ v'.ownBlock = some w.heap.size) : OneAt w' (Xo X v') one p := by
  cases one with
  | none => exact h
  | some s => obtain ⟨b, h1, h2⟩ := h; exact ⟨b, h1, h2.grown hg hat⟩
theorem OneAt.alloc {w : World} {X : Nat → Prop} {p : Value} {one : Option CSet} (h : OneAt w X one p) (o : Obj) : OneAt (w.alloc o) X one p := by
  cases one with
  | none => exact h
  | some s => obtain ⟨b, h1, h2⟩ := h; exact ⟨b, h1, h2.keep (Keeps.alloc (fun _ => False) w o) (fun _ h => h.elim)⟩

/-- A function of two sets, as a value. -/
def SetFn (g : Nat) (f : CSet → CSet → CSet) : Prop := (∀ (args : Array Value) (W : World), (callFunc g args).run Tryd.prog W = .ok (.enter g args) W) ∧
  ∀ (s t : CSet) (W : World), Calls Tryd.prog g #[cv s, cv t] W fun e W' => e = .returned (cv (f s t)) ∧ Below W.heap.size W W'

/-- The head of a round: k of the flat row are done. -/
def JoinRel (w1 : World) (X : Nat → Prop) (f : CSet → CSet → CSet) (fl : List Re) (k : Nat) (v p : Value) (wr : World) : Prop :=
  ∃ (cs : List Nat) (ors : List Re) (one : Option CSet), OwnP wr w1.heap.size v cs ∧ Els wr (Xo X v) ors cs ∧ OneAt wr (Xo X v) one p ∧ Below w1.heap.size w1 wr ∧ ors.length ≤ k ∧ joinGo f (fl.drop k) ors one = joinGo f fl [] none

set_option maxHeartbeats 1000000 in
theorem join_any (o g : Nat) (f : CSet → CSet → CSet) (hf : SetFn g f) (A : Option Addr) (n c : Nat) (rs : List Re) (bs : List Nat) (X : Nat → Prop) (w : World) (hrow : ReRow w X A n rs bs) (hX : ∀ k, X k → k < w.heap.size) (hn : n ≤ 1099511627776) (hlen : (flatL o rs).length ≤ 1099511627770) :
    Calls Tryd.prog 51 #[.int .i64 (o : Int), .slice A n c, .func (.func g) #[] #[]] w (RetRow w X (joinL o f rs)) := by
  have HFL := hid (flat_any o A n c rs bs X w hrow hn (by omega))
  have eg := hf.1
  have HF := hid hf.2
  have HX := hid hX
  obtain ⟨z, hz⟩ : ∃ z, z = joinL o f rs := ⟨_, rfl⟩
  rw [← hz]
  have HZ := hid hz
  clear hrow hX hf hz
  go_enter Tryd.func51, Tryd.ntmps51
  go_wp2_with (go_at_call 58; refine HFL.out.mono ?_; rintro e w1 ⟨v0, fbs, rfl, h1, h2, h3⟩; obtain ⟨A0, c0, rfl⟩ := h1.form; have H1 := hid h1; have H2 := hid h2; have H3 := hid h3; clear h1 h2 h3)
  obtain ⟨fl, hfl⟩ : ∃ fl, fl = flatL o rs := ⟨_, rfl⟩
  rw [← hfl] at H2 hlen
  have HFE := hid hfl
  clear hfl
  have hsz1 : w.heap.size ≤ w1.heap.size := H3.out.size
  have hfb : fl.length = fbs.length := H2.out.1
  have HROW : Hid (ReRow w1 X A0 fbs.length fl fbs) := by
    refine ⟨H1.out.rd.2.2, H2.out.also (fun k hk _ => .inl hk), fun a ha e hx => ?_⟩
    have := (H1.out.lt a.block (by rw [e]; rfl)).1
    have := HX.out _ hx
    omega
  go_loopw [7, 8, 15] (fun v p i wr => ∃ k : Nat, k ≤ fbs.length ∧ i = .int .i64 k ∧ Hid (JoinRel w1 X f fl k v p wr)) (fun _ _ i _ => fbs.length - (intOf i).toNat)
  case atStart => exact ⟨0, Nat.zero_le _, rfl, [], [], none, OwnP.nil _ _, Els.nil, rfl, Below.refl _ _, Nat.le_refl _, rfl⟩
  case round =>
    obtain ⟨k, hk, rfl, hr⟩ := hrel
    obtain ⟨cs, ors, one, hown, hels, hone, hbel, hol, hgo⟩ := hr.out
    have HO := hid hown
    have HE := hid hels
    have HB := hid hbel
    have HON := hid hone
    have HGO := hid hgo
    have hszr : w1.heap.size ≤ wr.heap.size := hbel.size
    have hcl : cs.length ≤ k := by have := hels.1; omega
    by_cases hlt : k < fbs.length
    · obtain ⟨g1, of, r, b, rfl, hcell, hkr, hkb, hat, hg⟩ := HROW.out.at_ hlt
      have hc1 := (hbel.cell (p := ⟨g1, of + k, none⟩) hg).trans hcell
      obtain ⟨A', c', bs', hkc, -, -⟩ := hat.row
      obtain ⟨k0, k1, k2, k3, k4, -⟩ := cellsOf (blk_below hkc hbel (w' := wr))
      have hdr : fl.drop k = r :: fl.drop (k + 1) := by
        obtain ⟨hl, e⟩ := List.getElem?_eq_some_iff.1 hkr
        rw [List.drop_eq_getElem_cons hl, e]
      rw [hdr] at hgo
      have HAT := hid (hat.beside hbel hown)
      have hbnd : cs.length + [b].length ≤ 1099511627776 := by simp; omega
      by_cases hop : r.op = 2
      · obtain ⟨s, rfl⟩ : ∃ s, r = .cls s := by cases r <;> first | exact ⟨_, rfl⟩ | simp [Re.op] at hop
        have hne : (((Re.cls s).op : Int) != 2) = false := rfl
        cases one with
        | none =>
          cases hone
          have HN := hid hgo
          clear hown hels hbel hgo hcell hkr hkb hat hkc hdr hr hbnd k1 k2 k3 k4 hop hol
          go_wp2_with fail
          go_roundw
          case rel => exact ⟨k + 1, by omega, by go_num, cs, ors, some s, HO.out, HE.out, ⟨b, rfl, HAT.out⟩, HB.out, by have := HE.out.1; omega, HN.out⟩
          case measure => simp [intOf]; omega
        | some so =>
          obtain ⟨bo, rfl, hro⟩ := hone
          obtain ⟨Ao, co, bso, hoc, -, -⟩ := hro.row
          obtain ⟨-, o1, o2, o3, o4, -⟩ := cellsOf hoc
          simp only [Re.set] at o1 o2 o3 o4 k1 k2 k3 k4
          have hxl : ∀ k, Xo X u7 k → k < wr.heap.size := fun k hk => by
            rcases hk with hk | hk
            · have := HX.out k hk; omega
            · exact (hown.lt k hk).2
          have HFc := hid (fun W => HF.out so s W)
          have HOne : Hid (∀ W, wr.heap.size ≤ W.heap.size → Calls Tryd.prog 44 #[cv (f so s)] W (RetRe W (Xo X u7) (oneR (f so s)))) := fun W h => one_any _ _ W (fun k hk => Nat.lt_of_lt_of_le (hxl k hk) h)
          simp only [joinGo] at hgo
          by_cases hz0 : f so s = CSet.zero
          · rw [if_pos hz0] at hgo
            have hoo : oneR (f so s) = .none := by unfold oneR; rw [if_pos hz0]
            rw [hoo] at HOne
            have HGO2 := hid hgo
            generalize f so s = fs at HFc HOne
            clear hown hels hbel hgo hcell hkr hkb hat hkc hdr hr hop hol hoc hro hxl hz0 hoo
            unfold cv at HFc HOne
            go_wp2_with fail
            go_region_with (first | (go_at_call 44; refine (HOne.out _ hszw2).mono ?_; rintro e w3 ⟨bn, rfl, hre3, hb3⟩; have HRE3 := hid hre3; have HB3 := hid hb3; clear hre3 hb3; obtain ⟨An, cn, bsn, hnc, -, -⟩ := HRE3.out.row; obtain ⟨n0, -⟩ := cellsOf hnc; clear hnc; have HO3 := hid (OwnP.kept (OwnP.kept (show OwnP wr.drew _ _ _ from HO.out) HB2.out) HB3.out); have HE3 := hid (Els.below (Els.below (show Els wr.drew _ _ _ from HE.out.drewN 1) HB2.out) HB3.out); have HB13 := hid ((HB.out.drew.trans (HB2.out.mono hszr)).trans (HB3.out.mono (Nat.le_trans hszr hszw2))); have hsz3 : w1.heap.size ≤ w3.heap.size := HB13.out.size) | (refine (HFc.out _).mono ?_; rintro e w2 ⟨rfl, hb2⟩; have hszw2 : wr.heap.size ≤ w2.heap.size := hb2.size; have HB2 := hid hb2; clear hb2))
            all_goals
              have hbn : cs.length + [bn].length ≤ 1099511627776 := hbnd
              simp only [Re.op] at n0
              go_wp2_with (at_builtin; refine wpList_app_ptr _ rfl (.tmp 35) (.tmp 37) rfl w1.heap.size _ cs rfl (HO3.out.alloc _) (some ⟨w3.heap.size, 0, none⟩) 1 1 [bn] rfl (Rd.one_new _ _ _) (fun h => by cases h) hbn (le_alloc hsz3 _) ?_; intro v' w4 ho4 hg4 hat4; have HO4 := hid ho4; have HG4 := hid hg4; have HT4 := hid hat4; clear ho4 hg4 hat4)
              go_ret
              refine ⟨v', cs ++ [bn], rfl, HO4.out.base hsz1, ?_, H3.out.trans ((below_app (HB13.out.alloc HB13.out.size _) (HO3.out.alloc _) HG4.out).mono hsz1)⟩
              have hzz : z = ors ++ [Re.none] := by rw [HGO2.out, HZ.out, HFE.out]; rfl
              rw [hzz]
              exact ((HE3.out.alloc _).append (Els.one HRE3.out |>.alloc _)).grown HG4.out HT4.out
          · rw [if_neg hz0] at hgo
            have hoo : oneR (f so s) = .cls (f so s) := by unfold oneR; rw [if_neg hz0]
            rw [hoo] at HOne
            have HN := hid hgo
            obtain ⟨fs, hfs⟩ : ∃ fs, fs = f so s := ⟨_, rfl⟩
            rw [← hfs] at HFc HOne HN
            clear hown hels hbel hgo hcell hkr hkb hat hkc hdr hr hop hoc hro hxl hz0 hoo hfs
            unfold cv at HFc HOne
            go_wp2_with fail
            go_region_with (first | (go_at_call 44; refine (HOne.out _ hszw2).mono ?_; rintro e w3 ⟨bn, rfl, hre3, hb3⟩; have HRE3 := hid hre3; have HB3 := hid hb3; clear hre3 hb3; obtain ⟨An, cn, bsn, hnc, -, -⟩ := HRE3.out.row; obtain ⟨n0, -⟩ := cellsOf hnc; clear hnc; have HO3 := hid (OwnP.kept (OwnP.kept (show OwnP wr.drew _ _ _ from HO.out) HB2.out) HB3.out); have HE3 := hid (Els.below (Els.below (show Els wr.drew _ _ _ from HE.out.drewN 1) HB2.out) HB3.out); have HB13 := hid ((HB.out.drew.trans (HB2.out.mono hszr)).trans (HB3.out.mono (Nat.le_trans hszr hszw2))); have hsz3 : w1.heap.size ≤ w3.heap.size := HB13.out.size) | (refine (HFc.out _).mono ?_; rintro e w2 ⟨rfl, hb2⟩; have hszw2 : wr.heap.size ≤ w2.heap.size := hb2.size; have HB2 := hid hb2; clear hb2))
            all_goals
              have hn2 : ((Re.cls fs).op : Int) = 2 := rfl
              rw [hn2] at n0
              clear hn2
              go_wp2_with fail
              go_roundw
              case rel => exact ⟨k + 1, by omega, by go_num, cs, ors, some fs, HO3.out, HE3.out, ⟨bn, rfl, HRE3.out⟩, HB13.out, by omega, HN.out⟩
              case measure => simp [intOf]; omega
      · have hne : ((r.op : Int) != 2) = true := by
          have := op_beq r 2
          simp only [bne]
          rw [show ((r.op : Int) == 2) = (r.op == 2) from this]
          simp [hop]
        rw [joinGo_other _ _ _ _ _ hop] at hgo
        have HN := hid hgo
        clear hown hels hbel hgo hcell hkr hkb hat hkc hdr hr hop k1 k2 k3 k4
        go_wp2_with (at_builtin; refine wpList_app_ptr _ rfl (.tmp 45) (.tmp 47) rfl w1.heap.size _ cs rfl (HO.out.alloc _) (some ⟨wr.heap.size, 0, none⟩) 1 1 [b] rfl (Rd.one_new _ _ _) (fun h => by cases h) hbnd (le_alloc hszr _) ?_; intro v' w2 ho2 hg2 hat2; have HO2 := hid ho2; have HG2 := hid hg2; have HT2 := hid hat2; clear ho2 hg2 hat2)
        go_roundw
        case rel => exact ⟨k + 1, by omega, by go_num, cs ++ [b], ors ++ [r], one, HO2.out, ((HE.out.alloc _).append (Els.one HAT.out |>.alloc _)).grown HG2.out HT2.out, (HON.out.alloc _).grown HG2.out HT2.out, below_app (HB.out.alloc HB.out.size _) (HO.out.alloc _) HG2.out, by simp; omega, HN.out⟩
        case measure => simp [intOf]; omega
    · obtain rfl : k = fbs.length := by omega
      have hdr : fl.drop fbs.length = [] := List.drop_of_length_le (by omega)
      rw [hdr] at hgo
      simp only [joinGo] at hgo
      have hzz : z = uniq (ors ++ (one.map Re.cls).toList) := by rw [hgo, HZ.out, HFE.out]; rfl
      subst hzz
      cases one with
      | none =>
        cases hone
        have HU := hid (unique_any w1.heap.size _ ors cs X wr hown hels (by omega))
        clear hown hels hbel hgo hdr hr hlt
        go_wp2_with (go_at_call 69; refine HU.out.mono ?_; rintro e w2 ⟨v', bs2, rfl, q1, q2, q3, q4⟩)
        go_ret
        refine ⟨v', bs2, rfl, q1.base hsz1, ?_, H3.out.trans ((below_app HB.out HO.out q3).mono hsz1)⟩
        simpa using q2
      | some so =>
        obtain ⟨bo, rfl, hro⟩ := hone
        have HRO := hid hro
        have hbnd : cs.length + [bo].length ≤ 1099511627776 := by simp; omega
        have HU : Hid (∀ v' w2, OwnP w2 w1.heap.size v' (cs ++ [bo]) → Els w2 (Xo X v') (ors ++ [Re.cls so]) (cs ++ [bo]) → Calls Tryd.prog 69 #[v'] w2 (RetCut w2 X w1.heap.size v' (uniq (ors ++ [Re.cls so])))) := fun v' w2 h1 h2 => unique_any w1.heap.size v' _ _ X w2 h1 h2 (by simpa using hbnd)
        clear hown hels hbel hgo hdr hr hlt hro
        go_wp2_with (first | (at_builtin; refine wpList_app_ptr _ rfl (.tmp 56) (.tmp 58) rfl w1.heap.size _ cs rfl (HO.out.alloc _) (some ⟨wr.heap.size, 0, none⟩) 1 1 [bo] rfl (Rd.one_new _ _ _) (fun h => by cases h) hbnd (le_alloc hszr _) ?_; intro v' w2 ho2 hg2 hat2; have HO2 := hid ho2; have HG2 := hid hg2; have HT2 := hid hat2; clear ho2 hg2 hat2; have HE2 := hid (((HE.out.alloc _).append (Els.one HRO.out |>.alloc _)).grown HG2.out HT2.out)) | (go_at_call 69; refine (HU.out _ _ HO2.out HE2.out).mono ?_; rintro e w3 ⟨v3, bs3, rfl, q1, q2, q3, q4⟩))
        go_ret
        refine ⟨v3, bs3, rfl, q1.base hsz1, ?_, H3.out.trans ((below_app (below_app (HB.out.alloc HB.out.size _) (HO.out.alloc _) HG2.out) HO2.out q3).mono hsz1)⟩
        simpa using q2
end Go.Proofs.YtihloigpdcinkaaDoor
