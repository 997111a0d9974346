/- Arguments of states, of loose states. -/
import Derived.Test.YtebdffabfimmkaaDoorLoos
import Derived.Test.YtebdffabfimmkaaDoorDeep
namespace Go.Proofs.YtebdffabfimmkaaDoor
open Go.RowKit

abbrev tArc : Ty := .cons (.int .i64) (.cons (.int .i64) (.cons (.int .i64) .nil))
abbrev tState : Ty := .cons .bool (.cons (.slice tArc 24) .nil)
theorem ty_states : tyOf Tryd.prog 8 22 = some (.slice tState 32) := by kernel_rfl
def arcOf (d : tArc.den) : Arc3 := ((show Int from d.1), (show Int from d.2.1), (show Int from d.2.2.1))
def shOf (d : tState.den) : Sh := ⟨((show Bool from d.1), (List.range (show SlH from d.2.1.1).n).map fun q => arcOf (d.2.1.2 q)), (show SlH from d.2.1.1).A, (show SlH from d.2.1.1).c⟩
def shL (n : Nat) (x : Nat → tState.den) : List Sh := (List.range n).map fun i => shOf (x i)
theorem arcs_cells (m : Nat) (f : Nat → tArc.den) : arcsC ((List.range m).map fun q => arcOf (f q)) = (List.range m).flatMap fun q => Ty.cells tArc (f q) := by
  unfold arcsC
  rw [List.flatMap_map]
  rfl
theorem sts_in {w : World} {A : Option Addr} {n c : Nat} {x : Nat → tState.den} {cs : List Value} (h : Reads w w.heap.size (.slice tState 32) (⟨A, n, c⟩, x) cs) : StsIn w w.heap.size A n c (shL n x) := by
  have hs := h.sl (e := tState) (fun d => rfl)
  have hb : n * 32 ≤ reachBytes := h.2.1.2.2.1
  have hlen : ∀ i, (shOf (x i)).d.2.length = (show SlH from (x i).2.1.1).n := fun i => by
    show ((List.range _).map _).length = _
    rw [List.length_map, List.length_range]
  refine ⟨by unfold shL; rw [List.length_map, List.length_range], ?_, h.2.1.1, by unfold reachBytes at hb; omega, fun y hy => ?_⟩
  · have e : (shL n x).flatMap Sh.hdr = (List.range n).flatMap fun i => Ty.cells tState (x i) := by
      unfold shL
      rw [List.flatMap_map]
      refine congrArg (fun f => (List.range n).flatMap f) (funext fun i => ?_)
      unfold Sh.hdr
      rw [hlen]
      rfl
    rw [e]
    exact hs
  · obtain ⟨i, hi, rfl⟩ := List.mem_map.1 hy
    obtain ⟨cl, _, c2, _, _, _, c3, c4, _, _, hr, _⟩ := h.elem (List.mem_range.1 hi)
    have h1 := hr.sl (e := tArc) (fun d => rfl)
    have h2 := hr.2.1
    have hb2 : (show SlH from (x i).2.1.1).n * 24 ≤ reachBytes := h2.2.2.1
    refine ⟨?_, by rw [hlen]; exact h2.1, by rw [hlen]; unfold reachBytes at hb2; omega⟩
    rw [hlen]
    have e := arcs_cells (show SlH from (x i).2.1.1).n (x i).2.1.2
    show Sl _ _ 3 _ _ (arcsC ((List.range _).map _))
    rw [e]
    exact h1
end Go.Proofs.YtebdffabfimmkaaDoor
