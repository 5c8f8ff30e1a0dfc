/- The walk of deriv.Parts. -/
import Derived.Test.YtihloigpdcinkaaDoorRefineW
namespace Go.Proofs.YtihloigpdcinkaaDoor
open Go.RowKit

set_option maxRecDepth 100000 in
set_option maxHeartbeats 1000000 in
theorem parts_any (r : Re) (X : Nat → Prop) (b : Nat) (w : World) (h : ReAt w X r b) (hsz : r.size ≤ 1000000) : Calls Tryd.prog 40 #[ptr b] w (RetSets w (refineR (firstsR r))) := by
  have HA := hid (acc_any r w.heap.size b w (.slice none 0 0) [] (h.also (Y := fun k => w.heap.size ≤ k) fun k hk hl => absurd hl (by omega)) (OwnC.nil _ _) (Nat.le_refl _) (by simp; omega))
  have HR := hid (fun W A n c (hr : RdC W A n (firstsR r)) (hn : n ≤ 1000000) => refine_any A n c (firstsR r) W hr hn)
  have HL := hid (Nat.le_trans (firstsR_len r) hsz)
  rw [List.nil_append] at HA
  clear h hsz
  unfold ptr at *
  go_enter Tryd.func40, Tryd.ntmps40
  go_wp2_with (first | (go_at_call 65; refine HA.out.mono ?_; rintro e w1 ⟨v, rfl, ho, hb⟩; have HB := hid hb; obtain ⟨A, c, hv⟩ := ho.form; subst hv; have HRD := hid ho.rd; clear ho hb) | (go_at_call 42; refine (HR.out _ _ _ _ HRD.out.2.2 HL.out).mono ?_; rintro e w2 ⟨v2, rfl, ho2, hb2⟩; have HO2 := hid ho2; have HB2 := hid hb2; clear ho2 hb2))
  go_ret
  exact ⟨_, rfl, HO2.out.mono HB.out.size, HB.out.trans (HB2.out.mono HB.out.size)⟩
end Go.Proofs.YtihloigpdcinkaaDoor
