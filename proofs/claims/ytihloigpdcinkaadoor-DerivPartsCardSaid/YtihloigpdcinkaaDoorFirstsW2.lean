/- The walk of deriv.sets: what is there already, and the first sets behind it. -/
import Derived.Test.YtihloigpdcinkaaDoorFirstsW
namespace Go.Proofs.YtihloigpdcinkaaDoor
open Go.RowKit

/-- What a call of deriv.sets comes to. -/
def AccFn (r : Re) : Prop := ∀ (B b : Nat) (w : World) (v0 : Value) (xs : List CSet), ReAt w (fun k => B ≤ k) r b → OwnC w B v0 xs → B ≤ w.heap.size → xs.length + r.size ≤ 2000000 →
  Calls Tryd.prog 65 #[ptr b, v0] w fun e w' => ∃ v, e = .returned v ∧ OwnC w' B v (xs ++ firstsR r) ∧ Below B w w'
theorem ReAt.keepB {w w' : World} {B : Nat} {r : Re} {b : Nat} (h : ReAt w (fun k => B ≤ k) r b) (hb : Below B w w') : ReAt w' (fun k => B ≤ k) r b :=
  h.keep (Y := fun k => B ≤ k) ⟨hb.size, fun k _ hn => hb.block k (by omega)⟩ (fun _ h => h)
theorem ReAt.ltB {w : World} {B : Nat} {r : Re} {b : Nat} (h : ReAt w (fun k => B ≤ k) r b) : b < B := by
  match h with
  | .mk _ _ _ _ _ hX _ _ _ _ _ => omega
theorem OwnC.belowB {w wr w2 : World} {B : Nat} {v : Value} {xs : List CSet} (hB : B ≤ w.heap.size) (hb : Below B w wr) (ho : OwnC wr B v xs) (hg : wr.grownBy w2 v.ownBlock) : Below B w w2 :=
  ⟨hg.os.trans hb.os, hg.tape.trans hb.tape, hg.output.trans hb.output, Nat.le_trans hb.size hg.size, fun k hk => (hg.block k (Nat.lt_of_lt_of_le hk (Nat.le_trans hB hb.size)) (fun e => by have := (ho.lt k e.symm).1; omega)).trans (hb.block k hk)⟩
theorem rowB {w : World} {B : Nat} {A : Option Addr} {n : Nat} {rs : List Re} {bs : List Nat} (h : ReRow w (fun k => B ≤ k) A n rs bs) {k : Nat} (hk : k < n) :
    ∃ g o r b, A = some ⟨g, o, none⟩ ∧ w.cell? ⟨g, o + k, none⟩ = some (ptr b) ∧ rs[k]? = some r ∧ ReAt w (fun k => B ≤ k) r b ∧ g < B := by
  obtain ⟨g, o, r, b, rfl, h1, h2, -, h3, -⟩ := h.at_ hk
  exact ⟨g, o, r, b, rfl, h1, h2, h3, by have := h.2.2 ⟨g, o, none⟩ (by omega) rfl; simp at this; exact this⟩

set_option maxRecDepth 100000 in
set_option maxHeartbeats 4000000 in
theorem acc_any (r : Re) : AccFn r := by
  induction r using Re.ind_ with
  | h r ih =>
    intro B b w v0 xs h hown0 hB hsz
    have hbl := h.ltB
    obtain ⟨A, c, bs, hbc, hcap, hrow⟩ := h.row
    obtain ⟨k0, k1, k2, k3, k4, k5, -⟩ := cellsOf hbc
    have HOWN0 := hid hown0
    by_cases h2 : r.op = 2
    · obtain ⟨s, rfl⟩ := op_two h2
      have x0 := World.new_ne _ _ k0
      simp only [Re.op, Re.set] at k0 k1 k2 k3 k4
      have hal := (Below.refl w.heap.size w).alloc (Nat.le_refl _) (.cells #[.int .u64 s.a.toNat, .int .u64 s.b.toNat, .int .u64 s.c.toNat, .int .u64 s.d.toNat] 42)
      have H1 := hid (OwnC.one w s w.heap.size (Nat.le_refl _)).rd
      have HO1 := hid (hown0.kept hal)
      have HBA : Hid (Below B w (w.alloc (.cells #[.int .u64 s.a.toNat, .int .u64 s.b.toNat, .int .u64 s.c.toNat, .int .u64 s.d.toNat] 42))) := hid (hal.mono hB)
      have hbn : xs.length + [s].length ≤ 1099511627776 := by simp; omega
      have hB1 : B ≤ (w.alloc (.cells #[.int .u64 s.a.toNat, .int .u64 s.b.toNat, .int .u64 s.c.toNat, .int .u64 s.d.toNat] 42)).heap.size := by simp; omega
      clear h hbc hcap hrow ih h2 hal hown0
      unfold ptr
      go_enter Tryd.func65, Tryd.ntmps65
      go_wp2_with (at_builtin; refine wpList_app_set _ rfl (.tmp 18) (.tmp 23) rfl B _ _ rfl HO1.out _ _ _ [s] rfl H1.out.2.2 H1.out.2.1.2 hbn hB1 ?_; intro v' w4 ho4 hg4; have HO4 := hid ho4; have HB4 := hid (OwnC.belowB hB HBA.out HO1.out hg4); clear ho4 hg4)
      go_ret
      exact ⟨_, rfl, HO4.out, HB4.out⟩
    · have hb2 : ((r.op : Int) == 2) = false := intNe (b := 2) h2
      have hks := Re.size_kids r
      obtain ⟨z, hz⟩ : ∃ z, z = firstsR r := ⟨_, rfl⟩
      rw [← hz]
      have hz3 : r.op = 3 → z = firstsR.firstsC r.kids := fun h3 => by
        rw [hz]
        cases r with
        | cat l => rfl
        | _ => simp [Re.op] at h3
      have hzn : r.op ≠ 3 → z = r.kids.flatMap firstsR := fun h3 => hz.trans (firstsR_kids h2 h3)
      generalize hl : r.kids = l at *
      generalize r.op = o at *
      obtain ⟨n, hn⟩ : ∃ n, n = l.length := ⟨_, rfl⟩
      have HN := hid hn
      have hnl := Re.length_le_sizes l
      rw [← hn] at k5 hrow hnl
      have HROW := hid hrow
      have HIH := hid ih
      have HSL : Hid (xs.length + Re.sizes l ≤ 2000000) := hid (by omega)
      have hn1 : n ≤ 2000000 := by omega
      have HB := hid hB
      clear h hbc hcap hrow k1 k2 k3 k4 ih hn hl hz h2 hks hsz hnl hown0
      unfold ptr at *
      by_cases h3 : o = 3
      · have HZ := hid (hz3 h3)
        have hb3 : ((o : Int) == 3) = true := by rw [h3]; rfl
        clear h3 hz3 hzn
        go_enter Tryd.func65, Tryd.ntmps65
        go_wp2_with fail
        go_loopw [1, 32] (fun v i wr => ∃ (k : Nat), k ≤ n ∧ i = .int .i64 k ∧ Hid (∀ x ∈ l.take k, x.null = true) ∧ Hid (OwnC wr B v (xs ++ (l.take k).flatMap firstsR)) ∧ Hid (Below B w wr)) (fun _ i _ => n - (intOf i).toNat)
        case atStart => exact ⟨0, Nat.zero_le _, rfl, fun x hx => by simp at hx, by show OwnC _ _ _ _; simpa using HOWN0.out, Below.refl _ _⟩
        case round =>
          obtain ⟨k, hk, rfl, hnul, hown, hbel⟩ := hrel
          by_cases hlt : k < n
          · obtain ⟨g, o', x, bx, rfl, c1, hx, hax, hg⟩ := rowB HROW.out (k := k) hlt
            have hc1 := (hbel.out.cell (p := ⟨g, o' + k, none⟩) hg).trans c1
            have HST := hid (firsts_take hx)
            have hlen := firsts_take_len l (k + 1)
            have HC := hid (HIH.out x (List.mem_of_getElem? hx) B bx wr _ _ (hax.keepB hbel.out) hown.out (Nat.le_trans HB.out hbel.out.size) (by
              have h1 := HSL.out
              have h3 : ((l.take k).flatMap firstsR).length + x.size ≤ Re.sizes l := by
                have h4 := firsts_take_len (l.take k) k
                rw [List.take_take, Nat.min_self] at h4
                have h5 := Re.sizes_take l (k + 1)
                obtain ⟨l1, e1⟩ := List.getElem?_eq_some_iff.1 hx
                rw [List.take_succ_eq_append_getElem l1, e1, Re.sizes_append] at h5
                simp only [Re.sizes] at h5
                omega
              rw [List.length_append]; omega))
            have HNU : Hid (∀ W, Below B w W → Calls Tryd.prog 21 #[ptr bx] W fun e w' => e = .returned (.bool x.null) ∧ W = w') := fun W hW => null_any x _ bx W (hax.keepB hW)
            have HX := hid hx
            rw [List.append_assoc, ← HST.out] at HC
            unfold ptr at HC hc1 HNU
            cases hxn : x.null
            · have HZ2 : Hid (z = (l.take (k + 1)).flatMap firstsR) := hid (by rw [HZ.out, firstsC_stop HX.out hnul.out hxn])
              rw [hxn] at HNU
              clear hx hax c1 hxn hlen
              go_wp2_with (first | (go_at_call 65; refine HC.out.mono ?_; rintro e w3 ⟨v2, rfl, h3, hb3⟩; have H3 := hid h3; have HB3 := hid (hbel.out.trans hb3); clear h3 hb3) | (go_at_call 21; refine (HNU.out _ HB3.out).mono ?_; rintro e w5 ⟨rfl, rfl⟩))
              go_ret
              exact ⟨_, rfl, by rw [HZ2.out]; exact H3.out, HB3.out⟩
            · have HNX : Hid (∀ y ∈ l.take (k + 1), y.null = true) := fun y hy => by
                obtain ⟨l1, e1⟩ := List.getElem?_eq_some_iff.1 HX.out
                rw [List.take_succ_eq_append_getElem l1, e1] at hy
                rcases List.mem_append.1 hy with h | h
                · exact hnul.out y h
                · rw [List.mem_singleton.1 h]; exact hxn
              rw [hxn] at HNU
              clear hx hax c1 hxn hlen
              go_wp2_with (first | (go_at_call 65; refine HC.out.mono ?_; rintro e w3 ⟨v2, rfl, h3, hb3⟩; have H3 := hid h3; have HB3 := hid (hbel.out.trans hb3); clear h3 hb3) | (go_at_call 21; refine (HNU.out _ HB3.out).mono ?_; rintro e w5 ⟨rfl, rfl⟩))
              go_roundw
              case rel => exact ⟨k + 1, by omega, by go_num, HNX.out, H3.out, HB3.out⟩
              case measure => simp [intOf]; omega
          · have hkn : k = n := by omega
            subst hkn
            go_wp2_with fail
            go_ret
            refine ⟨_, rfl, ?_, hbel.out⟩
            rw [HZ.out, firstsC_end (Nat.le_of_eq HN.out.symm) hnul.out, ← List.take_of_length_le (Nat.le_of_eq HN.out.symm)]
            exact hown.out
      · have HZ := hid (hzn h3)
        have hb3 : ((o : Int) == 3) = false := intNe (b := 3) h3
        clear h3 hz3 hzn
        go_enter Tryd.func65, Tryd.ntmps65
        go_wp2_with fail
        go_loopw [1, 49] (fun v i wr => ∃ (k : Nat), k ≤ n ∧ i = .int .i64 k ∧ Hid (OwnC wr B v (xs ++ (l.take k).flatMap firstsR)) ∧ Hid (Below B w wr)) (fun _ i _ => n - (intOf i).toNat)
        case atStart => exact ⟨0, Nat.zero_le _, rfl, by show OwnC _ _ _ _; simpa using HOWN0.out, Below.refl _ _⟩
        case round =>
          obtain ⟨k, hk, rfl, hown, hbel⟩ := hrel
          by_cases hlt : k < n
          · obtain ⟨g, o', x, bx, rfl, c1, hx, hax, hg⟩ := rowB HROW.out (k := k) hlt
            have hc1 := (hbel.out.cell (p := ⟨g, o' + k, none⟩) hg).trans c1
            have HST := hid (firsts_take hx)
            have HC := hid (HIH.out x (List.mem_of_getElem? hx) B bx wr _ _ (hax.keepB hbel.out) hown.out (Nat.le_trans HB.out hbel.out.size) (by
              have h1 := HSL.out
              have h3 : ((l.take k).flatMap firstsR).length + x.size ≤ Re.sizes l := by
                have h4 := firsts_take_len (l.take k) k
                rw [List.take_take, Nat.min_self] at h4
                have h5 := Re.sizes_take l (k + 1)
                obtain ⟨l1, e1⟩ := List.getElem?_eq_some_iff.1 hx
                rw [List.take_succ_eq_append_getElem l1, e1, Re.sizes_append] at h5
                simp only [Re.sizes] at h5
                omega
              rw [List.length_append]; omega))
            rw [List.append_assoc, ← HST.out] at HC
            unfold ptr at HC hc1
            clear hx hax c1
            go_wp2_with (first | (go_at_call 65; refine HC.out.mono ?_; rintro e w3 ⟨v2, rfl, h3, hb3⟩; have H3 := hid h3; have HB3 := hid (hbel.out.trans hb3); clear h3 hb3))
            go_roundw
            case rel => exact ⟨k + 1, by omega, by go_num, H3.out, HB3.out⟩
            case measure => simp [intOf]; omega
          · have hkn : k = n := by omega
            subst hkn
            go_wp2_with fail
            go_ret
            refine ⟨_, rfl, ?_, hbel.out⟩
            rw [HZ.out, ← List.take_of_length_le (Nat.le_of_eq HN.out.symm)]
            exact hown.out
end Go.Proofs.YtihloigpdcinkaaDoor
