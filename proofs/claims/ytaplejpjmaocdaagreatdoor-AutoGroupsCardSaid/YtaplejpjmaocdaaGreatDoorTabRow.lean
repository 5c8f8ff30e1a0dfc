/- The library's table lies in its variable, where the row lists it. -/
import Derived.Test.YtaplejpjmaocdaaGreatDoorPkG
import Derived.Test.YtaplejpjmaocdaaGreatDoorLeastW
namespace Go.Proofs.YtaplejpjmaocdaaGreatDoor
open Go.RowKit

theorem tab_cell {W : World} {cs : Array Value} {m j : Nat} {x : Int} {y : DataW Unit × List MemPlace} (h : DataW.trod (fun _ => ()) Tryz.prog W 0 (fun _ => true) false m 5 ((cs.toList.drop j).take 1) = some y) (hy : y.1 = .lit (.int .u8 x)) : cs[j]? = some (.int .u8 x) := by
  obtain ⟨n, hc, rfl, -⟩ := DataW.trod_int Tryz.underlying5 h
  have hn : n = x := by simpa using hy
  subst hn
  have h1 : ((cs.toList.drop j).take 1)[0]? = some (.int .u8 n) := by rw [hc]; rfl
  rw [List.getElem?_take, if_pos (by omega), List.getElem?_drop] at h1
  simpa using h1
set_option maxRecDepth 100000 in
theorem tab_laid {W : World} (h : laidMetH Tryz.prog laidL W) : Tab W := by
  have h1 : laidMet Tryz.prog laidL W := by
    unfold laidMetH at h
    rw [show (laidL.filter fun x => x.2.handleName?.isSome) = [] by kernel_rfl] at h
    exact h
  obtain ⟨ps, hv, -⟩ := h1
  obtain ⟨g0, t0, cs0, f0, p0, q0, -, -, -, -, hv, -⟩ := hv
  obtain ⟨g, t, cs, f, p, q, hg, ht, hc, hd, -, -⟩ := hv
  have hg0 : g = 0 := Option.some.inj (hg.symm.trans (show Tryz.prog.globalNamed "math/bits.deBruijn64tab" = some 0 by kernel_rfl))
  subst hg0
  have ht0 : t = 151 := Option.some.inj (ht.symm.trans (show (Tryz.prog.globals[0]?).map (·.type) = some 151 by kernel_rfl))
  subst ht0
  obtain ⟨xs, m, rfl, hx, hl, hn, hel⟩ := DataW.trod_array Tryz.underlying151 hd
  have hx1 : xs.map (·.1) = Lib.deBruijn64tab.map fun (n : Nat) => (DataW.lit (.int .u8 (n : Int)) : DataW Unit) := by
    have := congrArg Prod.fst hx
    exact (DataW.agg.inj this).symm.trans (by kernel_rfl)
  have hcell : ∀ j, W.cell? ⟨0, j, none⟩ = cs[j]? := fun j => World.var?_cell hg hc j
  have hce : Tryz.prog.cellsOf 5 = 1 := by kernel_rfl
  have htab : TabAt 0 Lib.deBruijn64tab W := fun j hj => by
    rw [hcell]
    have hj : j < 64 := hj
    have e := hel j hj
    rw [hce, Nat.mul_one] at e
    obtain ⟨y, hy⟩ : ∃ y, xs[j]? = some y := ⟨_, List.getElem?_eq_getElem (by omega)⟩
    rw [hy] at e
    refine tab_cell e ?_
    have h2 := congrArg (·[j]?) hx1
    simp only [List.getElem?_map, hy, Option.map_some] at h2
    have hj' : j < Lib.deBruijn64tab.length := hj
    rw [List.getElem?_eq_getElem hj', Option.map_some] at h2
    rw [Option.some.inj h2, List.getD_eq_getElem?_getD, List.getElem?_eq_getElem hj']
    rfl
  refine ⟨?_, htab⟩
  have h0 := htab 0 (by decide)
  exact Nat.lt_of_not_le fun hle => by
    have : W.heap[0]? = none := Array.getElem?_eq_none hle
    unfold World.cell? at h0
    rw [this] at h0
    cases h0
end Go.Proofs.YtaplejpjmaocdaaGreatDoor
