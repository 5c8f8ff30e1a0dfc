/- PkU: GroupsP, GroupsW, GroupsW2, each with its own sentence. -/
import Derived.Test.YtaplejpjmaocdaaGreatDoorPkR
import Derived.Test.YtaplejpjmaocdaaGreatDoorPkS
import Derived.Test.YtaplejpjmaocdaaGreatDoorBuildW2
import Derived.WalkMore
/- Plain: states are put into groups, again and again, until there are no more. -/
namespace Go.Proofs.YtaplejpjmaocdaaGreatDoor

/-- Numbers, as they are first met. -/
structure Num (f : Nat → Nat) (n : Nat) (F : List Nat) : Prop where
  lt : ∀ x ∈ F, x < n
  at_ : ∀ (g x : Nat), F[g]? = some x → f x = g
  small : ∀ q, q < n → f q < F.length
/-- Two states that the last numbers and what is behind each byte don't tell apart. -/
def Alk (δ : Nat → Nat → Nat) (hs : List Nat) (a : Nat → Nat) (p q : Nat) : Prop := a p = a q ∧ ∀ h ∈ hs, a (δ p h) = a (δ q h)
/-- No text tells them apart. -/
def Ner (δ : Nat → Nat → Nat) (yes : Nat → Bool) (hs : List Nat) (p q : Nat) : Prop := ∀ t : Txt, (∀ b ∈ t, b.toNat ∈ hs) → yes (runN δ p t) = yes (runN δ q t)
section
variable {δ : Nat → Nat → Nat} {yes : Nat → Bool} {hs : List Nat} {a b : Nat → Nat} {n : Nat} {F G : List Nat}
theorem Alk.refl (p : Nat) : Alk δ hs a p p := ⟨rfl, fun _ _ => rfl⟩
theorem Alk.symm {p q : Nat} (h : Alk δ hs a p q) : Alk δ hs a q p := ⟨h.1.symm, fun x hx => (h.2 x hx).symm⟩
theorem Alk.trans {p q r : Nat} (h : Alk δ hs a p q) (h' : Alk δ hs a q r) : Alk δ hs a p r := ⟨h.1.trans h'.1, fun x hx => (h.2 x hx).trans (h'.2 x hx)⟩
theorem nodup_le {l : List Nat} {c : Nat} (hn : l.Nodup) (hs : ∀ x ∈ l, x < c) : l.length ≤ c := by
  have := hn.length_le_of_subset (l₂ := List.range c) fun x hx => List.mem_range.2 (hs x hx)
  simpa using this
theorem nodup_all {l : List Nat} {c : Nat} (hn : l.Nodup) (hs : ∀ x ∈ l, x < c) (hl : l.length = c) : ∀ v, v < c → v ∈ l := fun v hv => Classical.byContradiction fun hno => by
  have h := nodup_le (l := v :: l) (c := c) (List.nodup_cons.2 ⟨hno, hn⟩) (fun x hx => by
    rcases List.mem_cons.1 hx with rfl | hx
    · exact hv
    · exact hs x hx)
  simp at h
  omega
theorem Num.map_nodup (ha : Num a n F) (hr : ∀ p q, p < n → q < n → b p = b q → a p = a q) : (F.map b).Nodup := by
  unfold List.Nodup
  rw [List.pairwise_iff_getElem]
  intro i j hi hj hij e
  have hi' : i < F.length := by simpa using hi
  have hj' : j < F.length := by simpa using hj
  rw [List.getElem_map, List.getElem_map] at e
  have h1 := ha.at_ i F[i] (List.getElem?_eq_getElem hi')
  have h2 := ha.at_ j F[j] (List.getElem?_eq_getElem hj')
  have := hr _ _ (ha.lt _ (List.getElem_mem hi')) (ha.lt _ (List.getElem_mem hj')) e
  omega
/-- Finer numbers are no fewer. -/
theorem Num.le (ha : Num a n F) (hb : Num b n G) (hr : ∀ p q, p < n → q < n → b p = b q → a p = a q) : F.length ≤ G.length := by
  have := nodup_le (ha.map_nodup hr) (c := G.length) fun x hx => by
    obtain ⟨y, hy, rfl⟩ := List.mem_map.1 hx
    exact hb.small y (ha.lt y hy)
  simpa using this
/-- Finer numbers that are as many are the same. -/
theorem Num.same (ha : Num a n F) (hb : Num b n G) (hr : ∀ p q, p < n → q < n → b p = b q → a p = a q) (hl : F.length = G.length) : ∀ p q, p < n → q < n → a p = a q → b p = b q := fun p q hp hq e => by
  have hall := nodup_all (ha.map_nodup hr) (c := G.length) (fun x hx => by
    obtain ⟨y, hy, rfl⟩ := List.mem_map.1 hx
    exact hb.small y (ha.lt y hy)) (by simpa using hl)
  obtain ⟨x, hx, ex⟩ := List.mem_map.1 (hall _ (hb.small p hp))
  obtain ⟨y, hy, ey⟩ := List.mem_map.1 (hall _ (hb.small q hq))
  have h1 := hr x p (ha.lt x hx) hp ex
  have h2 := hr y q (ha.lt y hy) hq ey
  obtain ⟨i, hi⟩ := List.getElem?_of_mem hx
  obtain ⟨j, hj⟩ := List.getElem?_of_mem hy
  have h3 := ha.at_ i x hi
  have h4 := ha.at_ j y hj
  have hij : i = j := by omega
  subst hij
  rw [hi] at hj
  cases hj
  rw [← ex, ← ey]
/-- Numbers that are no finer than the texts tell. -/
structure Coarse (δ : Nat → Nat → Nat) (yes : Nat → Bool) (hs : List Nat) (n : Nat) (a : Nat → Nat) : Prop where
  ner : ∀ p q, p < n → q < n → Ner δ yes hs p q → a p = a q
  yes : ∀ p q, p < n → q < n → a p = a q → yes p = yes q
theorem Ner.step (h256 : ∀ h ∈ hs, h < 256) {p q h : Nat} (hn : Ner δ yes hs p q) (hh : h ∈ hs) : Ner δ yes hs (δ p h) (δ q h) := fun t ht => by
  have e : (UInt8.ofNat h).toNat = h := by have := h256 h hh; simp; omega
  have := hn (UInt8.ofNat h :: t) fun b hb => by
    rcases List.mem_cons.1 hb with rfl | hb
    · rw [e]; exact hh
    · exact ht b hb
  unfold runN at this
  rw [List.foldl_cons, List.foldl_cons, e] at this
  exact this
theorem Coarse.next (h256 : ∀ h ∈ hs, h < 256) (hcl : ∀ q h, q < n → h ∈ hs → δ q h < n) (ha : Coarse δ yes hs n a) (hb : ∀ p q, p < n → q < n → (b p = b q ↔ Alk δ hs a p q)) : Coarse δ yes hs n b where
  ner p q hp hq h := (hb p q hp hq).2 ⟨ha.ner p q hp hq h, fun x hx => ha.ner _ _ (hcl p x hp hx) (hcl q x hq hx) (h.step h256 hx)⟩
  yes p q hp hq e := ha.yes p q hp hq ((hb p q hp hq).1 e).1
/-- WHERE THERE ARE NO MORE, the groups are what texts tell apart. -/
theorem Coarse.done (hcl : ∀ q h, q < n → h ∈ hs → δ q h < n) (h256 : ∀ h ∈ hs, h < 256) (ha : Coarse δ yes hs n a) (hb : ∀ p q, p < n → q < n → (b p = b q ↔ Alk δ hs a p q)) (hs' : ∀ p q, p < n → q < n → a p = a q → b p = b q) :
    ∀ p q, p < n → q < n → (b p = b q ↔ Ner δ yes hs p q) := fun p q hp hq => by
  refine ⟨fun e t => ?_, fun h => (ha.next h256 hcl hb).ner p q hp hq h⟩
  induction t generalizing p q with
  | nil => exact fun _ => (ha.next h256 hcl hb).yes p q hp hq e
  | cons x t ih =>
    intro ht
    have hx := ht x (List.mem_cons_self ..)
    have h1 := ((hb p q hp hq).1 e).2 _ hx
    have h2 := hs' _ _ (hcl p _ hp hx) (hcl q _ hq hx) h1
    have := ih _ _ (hcl p _ hp hx) (hcl q _ hq hx) h2 fun b hb => ht b (List.mem_cons_of_mem _ hb)
    unfold runN at this ⊢
    rw [List.foldl_cons, List.foldl_cons]
    exact this
/-- The first one of those met before that is alike. -/
structure NextI (δ : Nat → Nat → Nat) (hs : List Nat) (a : Nat → Nat) (q : Nat) (next : List Nat) (G : List Nat) : Prop where
  len : next.length = q
  lt : ∀ x ∈ G, x < q
  at_ : ∀ (g x : Nat), G[g]? = some x → next[x]? = some g
  val : ∀ (x g : Nat), next[x]? = some g → ∃ y, G[g]? = some y ∧ Alk δ hs a x y
  apart : ∀ (i j x y : Nat), G[i]? = some x → G[j]? = some y → Alk δ hs a x y → i = j
  sorted : G.Pairwise (· < ·)
  first : ∀ (x g y : Nat), next[x]? = some g → G[g]? = some y → y ≤ x
theorem NextI.start : NextI δ hs a 0 [] [] where
  len := rfl
  lt x h := by cases h
  at_ g x h := by simp at h
  val x g h := by simp at h
  apart i j x y h := by simp at h
  sorted := List.Pairwise.nil
  first x g y h := by simp at h
theorem NextI.found {q g f : Nat} {next : List Nat} (h : NextI δ hs a q next G) (hf : G[g]? = some f) (ha : Alk δ hs a q f) : NextI δ hs a (q + 1) (next ++ [g]) G where
  len := by simp [h.len]
  lt x hx := by have := h.lt x hx; omega
  at_ i x hx := by
    have := h.at_ i x hx
    rw [List.getElem?_append_left (List.getElem?_eq_some_iff.1 this).1]
    exact this
  val x i hx := by
    by_cases hl : x < next.length
    · rw [List.getElem?_append_left hl] at hx
      exact h.val x i hx
    · rw [List.getElem?_append_right (by omega)] at hx
      have h0 : x - next.length = 0 := by
        have := (List.getElem?_eq_some_iff.1 hx).1
        simp at this
        omega
      rw [h0] at hx
      have e : g = i := by simpa using hx
      subst e
      have hxq : x = q := by have := h.len; omega
      subst hxq
      exact ⟨f, hf, ha⟩
  apart := h.apart
  sorted := h.sorted
  first x i y hx hy := by
    by_cases hl : x < next.length
    · rw [List.getElem?_append_left hl] at hx
      exact h.first x i y hx hy
    · have := h.lt y (List.mem_of_getElem? hy)
      have := h.len
      omega
theorem NextI.fresh {q : Nat} {next : List Nat} (h : NextI δ hs a q next G) (ha : ∀ (g f : Nat), G[g]? = some f → ¬ Alk δ hs a q f) : NextI δ hs a (q + 1) (next ++ [G.length]) (G ++ [q]) := by
  have hcase : ∀ (i x : Nat), (G ++ [q])[i]? = some x → G[i]? = some x ∨ (i = G.length ∧ x = q) := fun i x hx => by
    by_cases hl : i < G.length
    · rw [List.getElem?_append_left hl] at hx
      exact .inl hx
    · rw [List.getElem?_append_right (by omega)] at hx
      have h0 : i - G.length = 0 := by
        have := (List.getElem?_eq_some_iff.1 hx).1
        simp at this
        omega
      rw [h0] at hx
      exact .inr ⟨by omega, by simpa using hx.symm⟩
  have hold : ∀ (i x : Nat), G[i]? = some x → (G ++ [q])[i]? = some x := fun i x hx => by
    rw [List.getElem?_append_left (List.getElem?_eq_some_iff.1 hx).1]
    exact hx
  exact {
    len := by simp [h.len]
    lt := fun x hx => by
      rcases List.mem_append.1 hx with hx | hx
      · have := h.lt x hx; omega
      · rw [List.mem_singleton.1 hx]; omega
    at_ := fun i x hx => by
      rcases hcase i x hx with hx | ⟨rfl, rfl⟩
      · have := h.at_ i x hx
        rw [List.getElem?_append_left (List.getElem?_eq_some_iff.1 this).1]
        exact this
      · rw [List.getElem?_append_right (by rw [h.len]; exact Nat.le_refl _), h.len, Nat.sub_self]
        rfl
    val := fun x i hx => by
      by_cases hl : x < next.length
      · rw [List.getElem?_append_left hl] at hx
        obtain ⟨y, hy, hal⟩ := h.val x i hx
        exact ⟨y, hold i y hy, hal⟩
      · rw [List.getElem?_append_right (by omega)] at hx
        have h0 : x - next.length = 0 := by
          have := (List.getElem?_eq_some_iff.1 hx).1
          simp at this
          omega
        rw [h0] at hx
        have e : G.length = i := by simpa using hx
        subst e
        have hxq : x = q := by have := h.len; omega
        subst hxq
        exact ⟨x, by rw [List.getElem?_append_right (Nat.le_refl _), Nat.sub_self]; rfl, Alk.refl x⟩
    apart := fun i j x y h1 h2 hal => by
      rcases hcase i x h1 with e1 | ⟨rfl, rfl⟩ <;> rcases hcase j y h2 with e2 | ⟨rfl, rfl⟩
      · exact h.apart i j x y e1 e2 hal
      · exact absurd hal.symm (ha i x e1)
      · exact absurd hal (ha j y e2)
      · rfl
    sorted := by
      rw [List.pairwise_append]
      exact ⟨h.sorted, List.pairwise_singleton _ _, fun x hx y hy => by rw [List.mem_singleton.1 hy]; exact h.lt x hx⟩
    first := fun x i y hx hy => by
      have hyq : y ≤ q := by
        rcases hcase i y hy with e | ⟨-, rfl⟩
        · exact Nat.le_of_lt (h.lt y (List.mem_of_getElem? e))
        · exact Nat.le_refl _
      by_cases hl : x < next.length
      · rw [List.getElem?_append_left hl] at hx
        rcases hcase i y hy with e | ⟨rfl, rfl⟩
        · exact h.first x i y hx e
        · obtain ⟨z, hz, -⟩ := h.val x _ hx
          have := (List.getElem?_eq_some_iff.1 hz).1
          omega
      · have := h.len
        omega }
/-- All states are numbered. -/
theorem NextI.done {next : List Nat} (h : NextI δ hs a n next G) : Num (fun q => next.getD q 0) n G ∧ ∀ p q, p < n → q < n → (next.getD p 0 = next.getD q 0 ↔ Alk δ hs a p q) := by
  have hv : ∀ q, q < n → next[q]? = some (next.getD q 0) := fun q hq => by
    have hl : q < next.length := by rw [h.len]; exact hq
    rw [List.getD_eq_getElem?_getD, List.getElem?_eq_getElem hl]
    rfl
  refine ⟨⟨h.lt, fun g x hx => ?_, fun q hq => ?_⟩, fun p q hp hq => ⟨fun e => ?_, fun hal => ?_⟩⟩
  · have := h.at_ g x hx
    show next.getD x 0 = g
    rw [List.getD_eq_getElem?_getD, this]
    rfl
  · obtain ⟨y, hy, -⟩ := h.val q _ (hv q hq)
    exact (List.getElem?_eq_some_iff.1 hy).1
  · obtain ⟨y, hy, h1⟩ := h.val p _ (hv p hp)
    obtain ⟨z, hz, h2⟩ := h.val q _ (hv q hq)
    rw [e, hz] at hy
    cases hy
    exact h1.trans h2.symm
  · obtain ⟨y, hy, h1⟩ := h.val p _ (hv p hp)
    obtain ⟨z, hz, h2⟩ := h.val q _ (hv q hq)
    exact h.apart _ _ y z hy hz ((h1.symm.trans hal).trans h2)
end
end Go.Proofs.YtaplejpjmaocdaaGreatDoor

/- The walk of auto.alike. -/
namespace Go.Proofs.YtaplejpjmaocdaaGreatDoor
open Go.RowKit Go.Maps

/-- A finished row of numbers in its block. -/
def NumsAt (w : World) (g n : Nat) (l : List Nat) : Prop := w.heap[g]? = some (.cells (rowA n l) 3 (0, 0)) ∧ l.length = n
theorem NumsAt.cell {w : World} {g n i : Nat} {l : List Nat} (h : NumsAt w g n l) (hi : i < n) : w.cell? ⟨g, i, none⟩ = some (.int .i64 (l.getD i 0 : Nat)) := (blk_cell h.1 i).trans (rowA_get (by rw [h.2]; exact hi))
theorem NumsAt.below {w w' : World} {g n : Nat} {l : List Nat} (h : NumsAt w g n l) (hb : Below w.heap.size w w') : NumsAt w' g n l := ⟨blk_below h.1 hb, h.2⟩
abbrev aN (l : List Nat) (q : Nat) : Nat := l.getD q 0
/-- What a walk over a Dfa's states leans on. -/
structure DCon (w : World) (D n : Nat) (δ : Nat → Nat → Nat) (yes : Nat → Bool) : Prop where
  step : ∀ (W : World) (q b : Nat), Below w.heap.size w W → q < n → b < 256 → Calls Tryz.prog 25 #[ptr D, .int .i64 (q : Int), .int .u8 (b : Int)] W fun e w' => e = .returned (.int .i64 (δ q b : Nat)) ∧ Below W.heap.size W w'
  yes : ∀ (W : World) (q : Nat), Below w.heap.size w W → q < n → Calls Tryz.prog 28 #[ptr D, .int .i64 (q : Int)] W fun e w' => e = .returned (.bool (yes q)) ∧ W = w'
  len : ∀ (W : World), Below w.heap.size w W → Calls Tryz.prog 24 #[ptr D] W fun e w' => e = .returned (.int .i64 (n : Int)) ∧ W = w'
  closed : ∀ q b, q < n → b < 256 → δ q b < n
theorem DfaAt.con {w : World} {D : Nat} {F : Nat → Nat} {hs : List Nat} {nx : List (List Nat)} {ys : List Bool} (h : DfaAt w D F hs nx ys) (hok : DOk F hs nx ys) (hcl : ∀ q b, q < ys.length → b < 256 → dN F nx q b < ys.length) : DCon w D ys.length (dN F nx) (yN ys) where
  step W q b hW hq hb := by
    have := dstep_any D (q : Int) b hb F hs nx ys hok W (h.below hW)
    rw [stepD_dN F nx (by rw [hok.len]; exact hq) b] at this
    exact this
  yes W q hW hq := by
    have := dyes_any D (q : Int) F hs nx ys W (h.below hW)
    rw [yesD_yN ys hq] at this
    exact this
  len W hW := dlen_any D F hs nx ys W (h.below hW)
  closed := hcl
open Classical in
set_option maxRecDepth 100000 in
set_option maxHeartbeats 2000000 in
theorem galike_any (w : World) (D n nh : Nat) (δ : Nat → Nat → Nat) (yes : Nat → Bool) (hs : List Nat) (h : DCon w D n δ yes) (gh oh ch g : Nat) (l : List Nat) (hh : Rd w (some ⟨gh, oh, none⟩) nh (u8s hs)) (hhl : hs.length = nh) (h256 : ∀ x ∈ hs, x < 256) (hnh : nh ≤ 256) (ha : NumsAt w g n l) (p q : Nat) (hp : p < n) (hq : q < n) :
    Calls Tryz.prog 75 #[ptr D, .slice (some ⟨gh, oh, none⟩) nh ch, .slice (some ⟨g, 0, none⟩) n n, .int .i64 p, .int .i64 q] w fun e w' => e = .returned (.bool (decide (Alk δ hs (aN l) p q))) ∧ Below w.heap.size w w' := by
  have HD := hid h
  have HH := hid hh
  have HHL := hid hhl
  have H256 := hid h256
  have HA := hid ha
  have x1 := ha.cell hp
  have x2 := ha.cell hq
  obtain ⟨z, hz⟩ : ∃ z, z = decide (Alk δ hs (aN l) p q) := ⟨_, rfl⟩
  have HZ := hid hz
  rw [← hz]
  obtain ⟨vp, hvp⟩ : ∃ v, v = l.getD p 0 := ⟨_, rfl⟩
  obtain ⟨vq, hvq⟩ : ∃ v, v = l.getD q 0 := ⟨_, rfl⟩
  rw [← hvp] at x1
  rw [← hvq] at x2
  have HVP := hid hvp
  have HVQ := hid hvq
  have hpi : (p : Int) < (n : Int) := by omega
  have hqi : (q : Int) < (n : Int) := by omega
  clear h hh hhl h256 ha hz hvp hvq
  unfold ptr at *
  by_cases hpq : vp = vq
  · have hpqi : (vp : Int) = (vq : Int) := by omega
    go_enter Tryz.func75, Tryz.ntmps75
    go_wp2_with fail
    go_region
    go_wp2_with fail
    go_loopw [24] (fun iv wr => ∃ j : Nat, j ≤ nh ∧ iv = .int .i64 j ∧ Hid (∀ x ∈ hs.take j, aN l (δ p x) = aN l (δ q x)) ∧ Hid (Below w.heap.size w wr)) (fun iv _ => nh - (intOf iv).toNat)
    case atStart => exact ⟨0, Nat.zero_le _, rfl, fun x hx => by simp at hx, below_drewN _ w 1⟩
    case round =>
      obtain ⟨j, hj, rfl, hall, hbel⟩ := hrel
      by_cases hlt : j < nh
      · obtain ⟨h0, hh0⟩ : ∃ h0, hs[j]? = some h0 := ⟨_, List.getElem?_eq_getElem (by rw [HHL.out]; exact hlt)⟩
        have hm0 := List.mem_of_getElem? hh0
        have h256 := H256.out h0 hm0
        obtain ⟨gh', oh', e', hgh, hch⟩ := HH.out.2 (by omega)
        cases e'
        have xh := (hbel.out.cell (p := ⟨gh, oh + j, none⟩) hgh).trans (hch j (.int .u8 (h0 : Int)) (by unfold u8s; rw [List.getElem?_map, hh0]; rfl))
        have HS1 := hid (fun W hW => HD.out.step W p h0 hW hp h256)
        have HS2 := hid (fun W hW => HD.out.step W q h0 hW hq h256)
        have ha1 := HD.out.closed p h0 hp h256
        have ha2 := HD.out.closed q h0 hq h256
        obtain ⟨v1, hv1⟩ : ∃ v, v = l.getD (δ p h0) 0 := ⟨_, rfl⟩
        obtain ⟨v2, hv2⟩ : ∃ v, v = l.getD (δ q h0) 0 := ⟨_, rfl⟩
        have HV1 := hid hv1
        have HV2 := hid hv2
        have HC1 := hid (fun W (hW : Below w.heap.size w W) => (HA.out.below hW).cell ha1)
        have HC2 := hid (fun W (hW : Below w.heap.size w W) => (HA.out.below hW).cell ha2)
        rw [← hv1] at HC1
        rw [← hv2] at HC2
        have HTK : Hid (hs.take (j + 1) = hs.take j ++ [h0]) := hid (by rw [List.take_add_one, hh0]; rfl)
        have HM0 := hid hm0
        clear hv1 hv2 hh0 hm0 hgh hch
        have HD1 : Hid (δ p h0 = δ p h0) := rfl
        obtain ⟨a1, ea1⟩ : ∃ a, a = δ p h0 := ⟨_, rfl⟩
        obtain ⟨a2, ea2⟩ : ∃ a, a = δ q h0 := ⟨_, rfl⟩
        rw [← ea1] at HS1 ha1 HC1 HV1
        rw [← ea2] at HS2 ha2 HC2 HV2
        have EA1 := hid ea1
        have EA2 := hid ea2
        clear ea1 ea2 HD1
        have hi1 : (a1 : Int) < (n : Int) := by omega
        have hi2 : (a2 : Int) < (n : Int) := by omega
        have HNOW := hbel
        have c1 := HC1.out _ hbel.out
        have c2 := HC2.out _ hbel.out
        unfold ptr at HS1 HS2
        by_cases hv : v1 = v2
        · have hvi : (v1 : Int) = (v2 : Int) := by omega
          have HV := hid hv
          clear hv
          go_wp2_with fail
          go_region_held3 (fun w' => w'.cell? ⟨g, a1, none⟩ = some (.int .i64 v1) ∧ w'.cell? ⟨g, a2, none⟩ = some (.int .i64 v2)) (first | exact ⟨c1, c2⟩ | go_keep) (first | (go_at_call 25; (with_reducible refine (HS1.out _ (by first | exact HNOW.out | exact HNOW.out.drew)).mono ?_); rintro e w3 ⟨rfl, hb1⟩; (first | (have hb1 := undrew hb1) | skip); have HNOW := hid (HNOW.out.trans (hb1.mono HNOW.out.size)); have c1 := HC1.out _ HNOW.out; have c2 := HC2.out _ HNOW.out; clear hb1) | (go_at_call 25; (with_reducible refine (HS2.out _ (by first | exact HNOW.out | exact HNOW.out.drew)).mono ?_); rintro e w3 ⟨rfl, hb1⟩; (first | (have hb1 := undrew hb1) | skip); have HNOW := hid (HNOW.out.trans (hb1.mono HNOW.out.size)); have c1 := HC1.out _ HNOW.out; have c2 := HC2.out _ HNOW.out; clear hb1))
          all_goals
            go_wp2_with fail
            go_roundw
            case rel => exact ⟨j + 1, by omega, by go_num, (fun x hx => by
              rw [HTK.out] at hx
              rcases List.mem_append.1 hx with hx | hx
              · exact hall.out x hx
              · rw [List.mem_singleton.1 hx, ← EA1.out, ← EA2.out]
                show l.getD a1 0 = l.getD a2 0
                rw [← HV1.out, ← HV2.out]
                exact HV.out), HNOW.out⟩
            case measure => simp [intOf]; omega
        · have hvi : ¬ (v1 : Int) = (v2 : Int) := by omega
          have HNO : Hid (z = false) := hid (by
            rw [HZ.out, decide_eq_false_iff_not]
            intro hal
            have := hal.2 h0 HM0.out
            rw [← EA1.out, ← EA2.out] at this
            have this : l.getD a1 0 = l.getD a2 0 := this
            rw [← HV1.out, ← HV2.out] at this
            exact hv this)
          clear hv
          go_wp2_with fail
          go_region_held3 (fun w' => w'.cell? ⟨g, a1, none⟩ = some (.int .i64 v1) ∧ w'.cell? ⟨g, a2, none⟩ = some (.int .i64 v2)) (first | exact ⟨c1, c2⟩ | go_keep) (first | (go_at_call 25; (with_reducible refine (HS1.out _ (by first | exact HNOW.out | exact HNOW.out.drew)).mono ?_); rintro e w3 ⟨rfl, hb1⟩; (first | (have hb1 := undrew hb1) | skip); have HNOW := hid (HNOW.out.trans (hb1.mono HNOW.out.size)); have c1 := HC1.out _ HNOW.out; have c2 := HC2.out _ HNOW.out; clear hb1) | (go_at_call 25; (with_reducible refine (HS2.out _ (by first | exact HNOW.out | exact HNOW.out.drew)).mono ?_); rintro e w3 ⟨rfl, hb1⟩; (first | (have hb1 := undrew hb1) | skip); have HNOW := hid (HNOW.out.trans (hb1.mono HNOW.out.size)); have c1 := HC1.out _ HNOW.out; have c2 := HC2.out _ HNOW.out; clear hb1))
          all_goals
            go_wp2_with fail
            go_ret
            exact ⟨by rw [HNO.out]; rfl, HNOW.out⟩
      · have HY : Hid (z = true) := hid (by
          rw [HZ.out, decide_eq_true_iff]
          have h := hall.out
          rw [List.take_of_length_le (by rw [HHL.out]; omega)] at h
          exact ⟨by show l.getD p 0 = l.getD q 0; rw [← HVP.out, ← HVQ.out]; exact hpq, h⟩)
        go_wp2_with fail
        go_ret
        exact ⟨by rw [HY.out]; rfl, hbel.out⟩
  · have hpqi : ¬ (vp : Int) = (vq : Int) := by omega
    have HNO : Hid (z = false) := hid (by
      rw [HZ.out, decide_eq_false_iff_not]
      intro hal
      have := hal.1
      rw [show aN l p = vp from HVP.out.symm, show aN l q = vq from HVQ.out.symm] at this
      exact hpq this)
    go_enter Tryz.func75, Tryz.ntmps75
    go_wp2_with fail
    go_region
    go_wp2_with fail
    go_ret
    exact ⟨by rw [HNO.out]; rfl, below_drewN _ _ 1⟩
end Go.Proofs.YtaplejpjmaocdaaGreatDoor

/- The walk of auto.Groups. -/
namespace Go.Proofs.YtaplejpjmaocdaaGreatDoor
open Go.RowKit Go.Maps

theorem rowA_zero {n : Nat} {row : List Nat} (h : row.length < n) : rowA n (row ++ [0]) = rowA n row := by
  have e : n - row.length = (n - (row ++ [0]).length) + 1 := by simp; omega
  unfold rowA
  rw [e, List.replicate_succ, List.append_assoc]
  rfl
/-- The first numbers. -/
def a0 (yes : Nat → Bool) (q : Nat) : Nat := if yes q = yes 0 then 0 else 1
def a0s (yes : Nat → Bool) (k : Nat) : List Nat := (List.range k).map (a0 yes)
theorem a0s_len (yes : Nat → Bool) (k : Nat) : (a0s yes k).length = k := by simp [a0s]
theorem a0s_succ (yes : Nat → Bool) (k : Nat) : a0s yes (k + 1) = a0s yes k ++ [a0 yes k] := by simp [a0s, List.range_succ]
theorem a0s_at (yes : Nat → Bool) {n q : Nat} (h : q < n) : aN (a0s yes n) q = a0 yes q := by
  unfold aN a0s
  rw [List.getD_eq_getElem?_getD, List.getElem?_map, List.getElem?_range h]
  rfl
theorem coarse0 (δ : Nat → Nat → Nat) (yes : Nat → Bool) (hs : List Nat) (n : Nat) : Coarse δ yes hs n (aN (a0s yes n)) where
  ner p q hp hq h := by
    have e : yes p = yes q := h [] fun b hb => by cases hb
    rw [a0s_at yes hp, a0s_at yes hq]
    unfold a0
    rw [e]
  yes p q hp hq h := by
    rw [a0s_at yes hp, a0s_at yes hq] at h
    unfold a0 at h
    cases h1 : yes p <;> cases h2 : yes q <;> cases h3 : yes 0 <;> simp [h1, h2, h3] at h <;> rfl
def natsV (l : List Nat) : List Value := l.map fun (x : Nat) => Value.int .i64 (x : Int)
theorem natsV_len (l : List Nat) : (natsV l).length = l.length := by simp [natsV]
/-- What holds at the head of the outer loop. -/
structure GL (δ : Nat → Nat → Nat) (yes : Nat → Bool) (hs : List Nat) (n : Nat) (w5 w : World) (ga : Nat) (al : List Nat) (c : Nat) : Prop where
  at_ : NumsAt w ga n al
  kp : Below w5.heap.size w5 w
  co : Coarse δ yes hs n (aN al)
  nu : c = 0 ∨ ∃ F, Num (aN al) n F ∧ F.length = c
  le : c ≤ n
/-- .. of the next one. -/
structure G3 (δ : Nat → Nat → Nat) (hs : List Nat) (n : Nat) (w5 w : World) (ga gn base : Nat) (al : List Nat) (vf : Value) (q : Nat) (nx G : List Nat) : Prop where
  at_ : NumsAt w ga n al
  hn : w.heap[gn]? = some (.cells (rowA n nx) 3 (0, 0))
  hf : w.ownsRow base 3 1 vf (natsV G).length (natsV G)
  kp : Below w5.heap.size w5 w
  ni : NextI δ hs (aN al) q nx G
  o1 : ga < gn
  o2 : gn < base
  o3 : base ≤ w.heap.size
  o4 : w5.heap.size ≤ gn
section
variable {δ : Nat → Nat → Nat} {yes : Nat → Bool} {hs : List Nat} {n : Nat} {w5 w w' : World} {ga gn base q : Nat} {al nx G : List Nat} {vf vf' : Value}
theorem G3.below (h : G3 δ hs n w5 w ga gn base al vf q nx G) (hb : Below w.heap.size w w') : G3 δ hs n w5 w' ga gn base al vf q nx G :=
  { h with
    at_ := h.at_.below hb
    hn := blk_below h.hn hb
    hf := row_blk h.hf fun k e => hb.block k (World.ownsRow.lt h.hf k e).2
    kp := h.kp.trans (hb.mono h.kp.size)
    o3 := Nat.le_trans h.o3 hb.size }
theorem G3.cell (h : G3 δ hs n w5 w ga gn base al vf q nx G) (hq : q < n) : (∃ v, w.cell? ⟨gn, q, none⟩ = some v) ∧ w.frozen? ⟨gn, q, none⟩ = false := by
  obtain ⟨v, hv⟩ := rowA_some (n := n) (row := nx) hq (by rw [h.ni.len]; omega)
  exact ⟨⟨v, (blk_cell h.hn q).trans hv⟩, blk_free h.hn q⟩
/-- The number of a state that is alike to one that was met. -/
theorem G3.found {g f : Nat} (h : G3 δ hs n w5 w ga gn base al vf q nx G) (hq : q < n) (hf : G[g]? = some f) (ha : Alk δ hs (aN al) q f) : G3 δ hs n w5 (w.setCell ⟨gn, q, none⟩ (.int .i64 (g : Int))) ga gn base al vf (q + 1) (nx ++ [g]) G :=
  have o1 := h.o1
  have o2 := h.o2
  { at_ := ⟨blk_far h.at_.1 _ _ (by show ga ≠ gn; omega), h.at_.2⟩
    hn := by
      have := blk_set h.hn q (.int .i64 (g : Int))
      rw [show q = nx.length from h.ni.len.symm, rowA_set (by rw [h.ni.len]; exact hq)] at this
      rw [show q = nx.length from h.ni.len.symm]
      exact this
    hf := row_blk h.hf fun k e => Below.heap_setCell _ _ _ _ (by have := (World.ownsRow.lt h.hf k e).1; show k ≠ gn; omega)
    kp := h.kp.trans (KeepX.below (KeepX.set_ (X := fun k => k = gn) w ⟨gn, q, none⟩ _ rfl) h.kp.size fun k hk e => by have := h.o4; omega)
    ni := h.ni.found hf ha
    o1 := o1, o2 := o2, o3 := by rw [size_setCell]; exact h.o3, o4 := h.o4 }
/-- The number of a new one. -/
theorem G3.numbered (h : G3 δ hs n w5 w ga gn base al vf q nx G) (hq : q < n) : NumsAt (w.setCell ⟨gn, q, none⟩ (.int .i64 (G.length : Int))) ga n al ∧ (w.setCell ⟨gn, q, none⟩ (.int .i64 (G.length : Int))).heap[gn]? = some (.cells (rowA n (nx ++ [G.length])) 3 (0, 0)) ∧
    (w.setCell ⟨gn, q, none⟩ (.int .i64 (G.length : Int))).ownsRow base 3 1 vf (natsV G).length (natsV G) ∧ Below w5.heap.size w5 (w.setCell ⟨gn, q, none⟩ (.int .i64 (G.length : Int))) := by
  have o1 := h.o1
  have o2 := h.o2
  refine ⟨⟨blk_far h.at_.1 _ _ (by show ga ≠ gn; omega), h.at_.2⟩, ?_, row_blk h.hf fun k e => Below.heap_setCell _ _ _ _ (by have := (World.ownsRow.lt h.hf k e).1; show k ≠ gn; omega), h.kp.trans (KeepX.below (KeepX.set_ (X := fun k => k = gn) w ⟨gn, q, none⟩ _ rfl) h.kp.size fun k hk e => by have := h.o4; omega)⟩
  have := blk_set h.hn q (.int .i64 (G.length : Int))
  rw [show q = nx.length from h.ni.len.symm, rowA_set (by rw [h.ni.len]; exact hq)] at this
  rw [show q = nx.length from h.ni.len.symm]
  exact this
/-- .. and its own place among the first ones. -/
theorem G3.fresh {w1 W : World} (h : G3 δ hs n w5 w ga gn base al vf q nx G) (h1 : NumsAt w1 ga n al) (h2 : w1.heap[gn]? = some (.cells (rowA n (nx ++ [G.length])) 3 (0, 0))) (h4 : Below w5.heap.size w5 w1) (hb : Below w1.heap.size w1 W) (hz : base ≤ w1.heap.size)
    (hg : W.grownBy w' vf.ownBlock) (hy : w'.ownsRow base 3 1 vf' (natsV G ++ [Value.int .i64 (q : Int)]).length (natsV G ++ [Value.int .i64 (q : Int)])) (hno : ∀ (g f : Nat), G[g]? = some f → ¬ Alk δ hs (aN al) q f) : G3 δ hs n w5 w' ga gn base al vf' (q + 1) (nx ++ [G.length]) (G ++ [q]) :=
  have o1 := h.o1
  have o2 := h.o2
  have hlt : ∀ k, vf.ownBlock = some k → base ≤ k := fun k e => (World.ownsRow.lt h.hf k e).1
  have hk : KeepX (fun k => vf.ownBlock = some k) W w' := KeepX.of_grown hg fun k e => e
  { at_ := ⟨hk.at_ (blk_below h1.1 hb) (fun e => by have := hlt _ e; omega), h1.2⟩
    hn := hk.at_ (blk_below h2 hb) (fun e => by have := hlt _ e; omega)
    hf := by
      have e : natsV (G ++ [q]) = natsV G ++ [Value.int .i64 (q : Int)] := by simp [natsV]
      rw [e]
      exact hy
    kp := (h4.trans (hb.mono h4.size)).trans (hk.below (Nat.le_trans h4.size hb.size) fun k hk' e => by have := hlt _ e; have := h.o4; omega)
    ni := h.ni.fresh hno
    o1 := o1, o2 := o2, o3 := Nat.le_trans hz (Nat.le_trans hb.size hk.size), o4 := h.o4 }
end
/-- What Groups gives. -/
structure GroupsOk (δ : Nat → Nat → Nat) (yes : Nat → Bool) (hs : List Nat) (n : Nat) (al G : List Nat) : Prop where
  len : al.length = n
  num : Num (aN al) n G
  ner : ∀ p q, p < n → q < n → (aN al p = aN al q ↔ Ner δ yes hs p q)
  sorted : G.Pairwise (· < ·)
  first : ∀ (x g y : Nat), al[x]? = some g → G[g]? = some y → y ≤ x
theorem DCon.under {w w' : World} {D n : Nat} {δ : Nat → Nat → Nat} {yes : Nat → Bool} (h : DCon w D n δ yes) (hb : Below w.heap.size w w') : DCon w' D n δ yes where
  step W q b hW hq hb' := h.step W q b (hb.trans (hW.mono hb.size)) hq hb'
  yes W q hW hq := h.yes W q (hb.trans (hW.mono hb.size)) hq
  len W hW := h.len W (hb.trans (hW.mono hb.size))
  closed := h.closed
open Classical in
set_option maxRecDepth 100000 in
set_option maxHeartbeats 4000000 in
theorem groups_any (D n nh : Nat) (δ : Nat → Nat → Nat) (yes : Nat → Bool) (hs : List Nat) (w : World) (h : DCon w D n δ yes) (hn1 : 0 < n) (hn : n ≤ 1000000) (hhl : hs.length = nh) (hpos : 0 < nh) (hnh : nh ≤ 256) (h256 : ∀ x ∈ hs, x < 256)
    (hhd : ∀ W, Below w.heap.size w W → Calls Tryz.prog 22 #[ptr D] W fun e w' => ∃ A c, e = .returned (.slice A nh c) ∧ Rd w' A nh (u8s hs) ∧ Below W.heap.size W w') :
    Calls Tryz.prog 41 #[ptr D] w fun e w' => ∃ (g : Nat) (al G : List Nat), e = .returned (.slice (some ⟨g, 0, none⟩) n n) ∧ NumsAt w' g n al ∧ GroupsOk δ yes hs n al G ∧ Below w.heap.size w w' := by
  have HD := hid h
  have HHD := hid hhd
  have HHL := hid hhl
  have H256 := hid h256
  obtain ⟨i0, hi0, hz0, hz1, hz2⟩ := info_parts info_int
  have hi8 : i0.bytes * n ≤ 281474976710656 := by rw [hz2]; omega
  clear h hhd hhl h256
  unfold ptr at *
  go_enter Tryz.func41, Tryz.ntmps41
  go_wp2_with (first | (go_at_call 24; refine (HD.out.len _ (Below.refl _ _)).mono ?_; rintro e w2 ⟨rfl, rfl⟩) | (at_make; refine wpList_make_full _ rfl (.tmp 15) (.tmp 15) 25 rfl w.heap.size 3 i0 (.int .i64 0) 1 Tryz.underlying25 hi0 hz0 hz1 .i64 .i64 _ _ n rfl rfl rfl rfl hi8 (by unfold maxLen; omega) (Nat.le_refl _) ?_; intro w2 ho hg; have HMK := hid (made_row ho); have HMB := hid (below_none hg); clear ho hg))
  obtain ⟨ga0, hga⟩ : ∃ g, g = w.heap.size := ⟨_, rfl⟩
  rw [← hga] at HMK ⊢
  have HGA := hid hga
  have HB2 := HMB
  have HM2 := HMK
  clear hga HMB HMK
  go_loopw [19] (fun iv wr => ∃ k : Nat, k ≤ n ∧ iv = .int .i64 k ∧ Hid (wr.heap[ga0]? = some (.cells (rowA n (a0s yes k)) 3 (0, 0)) ∧ Below w.heap.size w wr)) (fun iv _ => n - (intOf iv).toNat)
  case atStart => exact ⟨0, Nat.zero_le _, rfl, HM2.out, HB2.out⟩
  case round =>
    obtain ⟨k, hk, rfl, hin⟩ := hrel
    obtain ⟨hat, hbel⟩ := hin.out
    obtain ⟨wq, hwq⟩ : ∃ W : World, W = wr := ⟨_, rfl⟩
    subst hwq
    by_cases hlt : k < n
    · have HY1 := hid (fun W (hW : Below wq.heap.size wq W) => HD.out.yes W k (hbel.trans (hW.mono hbel.size)) hlt)
      have HY2 : Hid (∀ W, Below wq.heap.size wq W → Calls Tryz.prog 28 #[.pointer (some ⟨D, 0, none⟩), .int .i64 0] W fun e w' => e = .returned (.bool (yes 0)) ∧ W = w') := hid (fun W hW => HD.out.yes W 0 (hbel.trans (hW.mono hbel.size)) hn1)
      unfold ptr at HY1
      obtain ⟨v, hv⟩ := rowA_some (n := n) (row := a0s yes k) (i := k) hlt (by rw [a0s_len]; omega)
      have c1 := (blk_cell hat k).trans hv
      have c2 := blk_free hat k
      have HAT := hid hat
      have HBL := hid hbel
      have hkl : (k : Int) < (n : Int) := by omega
      by_cases hy : yes k = yes 0
      · have HA0 : Hid (a0 yes k = 0) := hid (by unfold a0; rw [if_pos hy])
        rw [← hy] at HY2
        clear hin hat hbel hv hy
        generalize yes k = y1 at *
        go_wp2_with (first | (go_at_call 28; (with_reducible refine (HY1.out _ (Below.refl _ _)).mono ?_); rintro e w4 ⟨rfl, rfl⟩) | (go_at_call 28; (with_reducible refine (HY2.out _ (Below.refl _ _)).mono ?_); rintro e w4 ⟨rfl, rfl⟩))
        go_roundw
        case rel => exact ⟨k + 1, by omega, by go_num, by rw [a0s_succ, HA0.out, rowA_zero (by rw [a0s_len]; exact hlt)]; exact HAT.out, HBL.out⟩
        case measure => simp [intOf]; omega
      · have HA1 : Hid (a0 yes k = 1) := hid (by unfold a0; rw [if_neg hy])
        have hne : yes k = !yes 0 := by cases h1 : yes k <;> cases h2 : yes 0 <;> simp [h1, h2] at hy ⊢
        rw [hne] at HY1
        have HSET := hid (blk_set hat k (.int .i64 ((1 : Nat) : Int)))
        have HLT : Hid (w.heap.size ≤ ga0) := hid (Nat.le_of_eq HGA.out.symm)
        clear hin hat hbel hv hy hne
        generalize yes 0 = y0 at *
        cases y0
        all_goals
          go_wp2_with (first | (go_at_call 28; (with_reducible refine (HY1.out _ (Below.refl _ _)).mono ?_); rintro e w4 ⟨rfl, rfl⟩) | (go_at_call 28; (with_reducible refine (HY2.out _ (Below.refl _ _)).mono ?_); rintro e w4 ⟨rfl, rfl⟩))
          go_roundw
          case rel => exact ⟨k + 1, by omega, by go_num, (by
            rw [a0s_succ, HA1.out, ← rowA_set (by rw [a0s_len]; exact hlt), a0s_len]
            exact HSET.out), HBL.out.trans (KeepX.below (KeepX.set_ (X := fun k => k = ga0) wq ⟨ga0, k, none⟩ _ rfl) HBL.out.size fun j hj e => by have := HLT.out; omega)⟩
          case measure => simp [intOf]; omega
    · have hkn : k = n := by omega
      subst hkn
      have HAT : Hid (NumsAt wq ga0 k (a0s yes k)) := hid ⟨hat, a0s_len yes k⟩
      have HBL := hid hbel
      clear hin hat hbel
      go_wp2_with (go_at_call 22; refine (HHD.out _ HBL.out).mono ?_; rintro e w5 ⟨A5, c5, rfl, h5, hb5⟩; have HH5 := hid h5; have HB5 := hid (HBL.out.trans (hb5.mono HBL.out.size)); have HA5 := hid (HAT.out.below hb5); clear h5 hb5)
      obtain ⟨gh, oh, hAh, -, -⟩ := HH5.out.2 hpos
      subst hAh
      have HG0 : Hid (GL δ yes hs k w5 w5 ga0 (a0s yes k) 0) := hid ⟨HA5.out, Below.refl _ _, coarse0 δ yes hs k, .inl rfl, Nat.zero_le _⟩
      clear hlt HAT HBL HA5
      go_loopw [4, 7] (fun av cv wr => ∃ (ga c : Nat), av = .slice (some ⟨ga, 0, none⟩) k k ∧ c ≤ k ∧ cv = .int .i64 c ∧ Hid (∃ al, GL δ yes hs k w5 wr ga al c)) (fun _ cv _ => k - (intOf cv).toNat)
      case atStart => exact ⟨ga0, 0, rfl, Nat.zero_le _, rfl, a0s yes k, HG0.out⟩
      case round =>
        obtain ⟨ga, c, rfl, hc, rfl, hin⟩ := hrel
        obtain ⟨al, hgl⟩ := hin.out
        obtain ⟨wl, hwl⟩ : ∃ W : World, W = wr := ⟨_, rfl⟩
        subst hwl
        have HGL := hid hgl
        clear hin hgl
        go_wp2_with fail
        go_step3
        go_wp2_with (at_make; go_loud (refine wpList_make_full _ rfl (.tmp 34) (.tmp 34) 25 rfl wl.heap.size 3 i0 (.int .i64 0) 1 Tryz.underlying25 hi0 hz0 hz1 .i64 .i64 _ _ k rfl rfl rfl rfl hi8 (by unfold maxLen; omega) (Nat.le_refl _) ?_; intro w6 ho hg; have HMK := hid (made_row ho); have HMB := hid (below_none hg); clear ho hg))
        go_step3
        go_wp2_with fail
        obtain ⟨gn, hgn⟩ : ∃ g, g = wl.heap.size := ⟨_, rfl⟩
        rw [← hgn] at HMK ⊢
        have HB6 : Hid (Below wl.heap.size wl w6) := HMB
        obtain ⟨base, hbase⟩ : ∃ b, b = w6.heap.size := ⟨_, rfl⟩
        have HG30 : Hid (G3 δ hs k w5 w6 ga gn base al nilV 0 [] []) := hid
          { at_ := HGL.out.at_.below HB6.out, hn := HMK.out, hf := World.ownsRow_nil _ _ _ 1, kp := HGL.out.kp.trans (HB6.out.mono HGL.out.kp.size), ni := NextI.start
            o1 := by rw [hgn]; exact lt_of_heap HGL.out.at_.1
            o2 := by rw [hbase]; exact lt_of_heap HMK.out
            o3 := Nat.le_of_eq hbase, o4 := by rw [hgn]; exact HGL.out.kp.size }
        clear HMB HMK hgn hbase
        go_loopw [9, 38] (fun vf qv wr => ∃ q : Nat, q ≤ k ∧ qv = .int .i64 q ∧ Hid (∃ nx G, G3 δ hs k w5 wr ga gn base al vf q nx G)) (fun _ qv _ => k - (intOf qv).toNat)
        case atStart => exact ⟨0, Nat.zero_le _, rfl, [], [], HG30.out⟩
        case round =>
          obtain ⟨q, hq, rfl, hin3⟩ := hrel
          obtain ⟨nx, G, hg3⟩ := hin3.out
          obtain ⟨wk, hwk⟩ : ∃ W : World, W = wr := ⟨_, rfl⟩
          subst hwk
          obtain ⟨Af, cf, hvf⟩ := own_form hg3.hf
          rw [natsV_len] at hvf
          subst hvf
          have HG3 := hid hg3
          have hgl : G.length ≤ k := nodup_le (hg3.ni.sorted.imp fun h => Nat.ne_of_lt h) fun x hx => by have := hg3.ni.lt x hx; omega
          clear hin3 hg3
          by_cases hqn : q < k
          · have hqi : (q : Int) < (k : Int) := by omega
            go_wp2_with fail
            go_loopw [43] (fun gv wr => ∃ g : Nat, g ≤ G.length ∧ gv = .int .i64 g ∧ Hid ((∀ (i f : Nat), i < g → G[i]? = some f → ¬ Alk δ hs (aN al) q f) ∧ Below wk.heap.size wk wr)) (fun gv _ => G.length - (intOf gv).toNat)
            case atStart => exact ⟨0, Nat.zero_le _, rfl, fun i f h => absurd h (Nat.not_lt_zero _), Below.refl _ _⟩
            case round =>
              obtain ⟨g, hg, rfl, hin4⟩ := hrel
              obtain ⟨hno, hbg⟩ := hin4.out
              obtain ⟨wg, hwg⟩ : ∃ W : World, W = wr := ⟨_, rfl⟩
              subst hwg
              have HNO := hid hno
              have HBG := hid hbg
              have HGg := hid (HG3.out.below hbg)
              clear hin4 hno hbg
              by_cases hlt4 : g < G.length
              · obtain ⟨f, hf⟩ : ∃ f, G[g]? = some f := ⟨_, List.getElem?_eq_getElem hlt4⟩
                have hfk : f < k := by have := HG3.out.ni.lt f (List.mem_of_getElem? hf); omega
                have HF := hid hf
                obtain ⟨A', c', e', hrd, -⟩ := rdV_of HGg.out.hf
                rw [natsV_len] at e' hrd
                cases e'
                obtain ⟨gf, of, rfl, hgf, hcf⟩ := hrd.2 (by omega)
                have x1 := hcf g (.int .i64 (f : Int)) (by unfold natsV; rw [List.getElem?_map, hf]; rfl)
                have HAL := hid (galike_any wg D k nh δ yes hs (HD.out.under (HB5.out.trans (HGg.out.kp.mono HB5.out.size))) gh oh c5 ga al (HH5.out.below HGg.out.kp) HHL.out H256.out hnh HGg.out.at_ q f hqn hfk)
                unfold ptr at HAL
                clear hf hrd hgf hcf
                by_cases hal : Alk δ hs (aN al) q f
                · rw [decide_eq_true hal] at HAL
                  have HALK := hid hal
                  clear hal
                  go_wp2_with (go_at_call 75; refine HAL.out.mono ?_; rintro e w7 ⟨rfl, hb7⟩; have HG7 := hid (HGg.out.below hb7); obtain ⟨⟨v, c1⟩, c2⟩ := HG7.out.cell hqn; clear hb7)
                  go_roundw
                  case rel => exact ⟨q + 1, by omega, by go_num, _, _, HG7.out.found hqn HF.out HALK.out⟩
                  case measure => simp [intOf]; omega
                · rw [decide_eq_false hal] at HAL
                  have HNO2 : Hid (∀ (i f : Nat), i < g + 1 → G[i]? = some f → ¬ Alk δ hs (aN al) q f) := hid (fun i f' hi hf' => by
                    by_cases hig : i < g
                    · exact HNO.out i f' hig hf'
                    · have : i = g := by omega
                      subst this
                      rw [HF.out] at hf'
                      cases hf'
                      exact hal)
                  clear hal
                  go_wp2_with (go_at_call 75; refine HAL.out.mono ?_; rintro e w7 ⟨rfl, hb7⟩; have HB7 := hid (HBG.out.trans (hb7.mono HBG.out.size)); clear hb7)
                  go_roundw
                  case rel => exact ⟨g + 1, by omega, by go_num, HNO2.out, HB7.out⟩
                  case measure => simp [intOf]; omega
              · have hgG : g = G.length := by omega
                subst hgG
                have HNA : Hid (∀ (i f : Nat), G[i]? = some f → ¬ Alk δ hs (aN al) q f) := hid (fun i f hf => HNO.out i f (List.getElem?_eq_some_iff.1 hf).1 hf)
                obtain ⟨⟨v, c1⟩, c2⟩ := HGg.out.cell hqn
                have hnum := HGg.out.numbered hqn
                have HNUM := hid hnum
                have hz3 := HGg.out.o3
                have HLEN : Hid ((natsV G).length = G.length) := natsV_len G
                obtain ⟨wn, hwn⟩ : ∃ W : World, W = wg.setCell ⟨gn, q, none⟩ (.int .i64 (G.length : Int)) := ⟨_, rfl⟩
                have HWN := hid hwn
                have hsz : wn.heap.size = wg.heap.size := by rw [hwn, size_setCell]
                have HSZ := hid hsz
                rw [← hwn] at HNUM
                clear hnum hwn hsz
                go_wp2_with (at_builtin; go_loud (rw [← HWN.out]; refine wpList_app_one one_no _ (by rfl) (.tmp 64) (.tmp 66) (by rfl) base (.slice Af G.length cf) (natsV G) (by rfl) (row_blk HNUM.out.2.2.1 fun j e => (show Below wn.heap.size wn _ from (Below.refl _ _).alloc (Nat.le_refl _) (.cells #[Value.int IntKind.i64 ↑q] 3)).block j (World.ownsRow.lt HNUM.out.2.2.1 j e).2) wg.heap.size 1 (.int .i64 (q : Int)) (by rfl) (by rw [← HSZ.out]; exact cell0_new wn (.int .i64 (q : Int)) 3) (by rfl) (by rw [HLEN.out]; omega) (Nat.le_trans (by rw [HSZ.out]; exact hz3) (Below.size (show Below wn.heap.size wn _ from (Below.refl _ _).alloc (Nat.le_refl _) (.cells #[Value.int IntKind.i64 ↑q] 3)))) ?_; intro v9 w9 hy9 hg9 hat9; have HG9 := hid (HGg.out.fresh HNUM.out.1 HNUM.out.2.1 HNUM.out.2.2.2 ((Below.refl _ _).alloc (Nat.le_refl _) (.cells #[Value.int IntKind.i64 ↑q] 3)) (by rw [HSZ.out]; exact hz3) hg9 hy9 HNA.out); clear hy9 hg9 hat9))
                go_roundw
                case rel => exact ⟨q + 1, by omega, by go_num, _, _, HG9.out⟩
                case measure => simp [intOf]; omega
          · have hqk : q = k := by omega
            subst hqk
            obtain ⟨hnum, halk⟩ := HG3.out.ni.done
            have hnu2 : Num (aN nx) q G := hnum
            have halk2 : ∀ x y, x < q → y < q → (aN nx x = aN nx y ↔ Alk δ hs (aN al) x y) := halk
            have hcl : ∀ x h, x < q → h ∈ hs → δ x h < q := fun x h hx hh => HD.out.closed x h hx (H256.out h hh)
            have hGp : 0 < G.length := Nat.lt_of_le_of_lt (Nat.zero_le _) (hnu2.small 0 hn1)
            have hco := HGL.out.co.next H256.out hcl halk2
            have HNAT : Hid (NumsAt wk gn q nx) := hid ⟨HG3.out.hn, HG3.out.ni.len⟩
            by_cases hcc : G.length = c
            · have HOK : Hid (GroupsOk δ yes hs q nx G) := hid (by
                obtain ⟨F, hF, hFc⟩ := HGL.out.nu.resolve_left (by omega)
                exact ⟨HG3.out.ni.len, hnu2, HGL.out.co.done hcl H256.out halk2 (hF.same hnu2 (fun x y hx hy e => ((halk2 x y hx hy).1 e).1) (by omega)), HG3.out.ni.sorted, HG3.out.ni.first⟩)
              have HBE := hid (HB5.out.trans (HG3.out.kp.mono HB5.out.size))
              have hci : (G.length : Int) = (c : Int) := by omega
              clear hnum halk hnu2 halk2 hcl hco hcc
              go_wp2_with fail
              simp (config := { zetaDelta := true }) only [Exit.noGoto, Exit.inBlock, Exit.then]
              go_ret
              exact ⟨gn, nx, G, rfl, HNAT.out, HOK.out, HBE.out⟩
            · have HGL2 : Hid (GL δ yes hs q w5 wk gn nx G.length) := hid ⟨HNAT.out, HG3.out.kp, hco, .inr ⟨G, hnu2, rfl⟩, hgl⟩
              have hlc : c < G.length := by
                rcases HGL.out.nu with h0 | ⟨F, hF, hFc⟩
                · omega
                · have := hF.le hnu2 (fun x y hx hy e => ((halk2 x y hx hy).1 e).1)
                  omega
              have hci : ¬ (G.length : Int) = (c : Int) := by omega
              clear hnum halk hnu2 halk2 hcl hco hcc
              go_wp2_with fail
              simp (config := { zetaDelta := true }) only [Exit.noGoto, Exit.inBlock, Exit.then]
              go_roundw
              case rel => exact ⟨gn, G.length, rfl, hgl, rfl, nx, HGL2.out⟩
              case measure => simp [intOf]; omega
end Go.Proofs.YtaplejpjmaocdaaGreatDoor
