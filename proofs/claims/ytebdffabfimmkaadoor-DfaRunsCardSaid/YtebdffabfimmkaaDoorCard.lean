/- What the rows' lists give; a world that meets them. -/
import Derived.Test.YtebdffabfimmkaaDoorCards
import Derived.Test.YtebdffabfimmkaaDoorTie
import Derived.Test.YtebdffabfimmkaaDoorTab
import Derived.WalkKit
import Derived.ProofKit
import Derived.OpenShut
import Derived.ShutString
import Derived.ChangeOld
import Derived.SizedLaws
import Derived.Deep.DeepHandedRow
import Derived.Lib.LaidTab
namespace Go.Proofs.YtebdffabfimmkaaDoor
open Go.RowKit

theorem own : ownKnob Tryd.prog.godebug = none := by kernel_rfl
theorem laidOut : laidOutB Tryd.prog = true := by kernel_rfl
theorem gTabType : (Tryd.prog.globals[0]?).map (·.type) = some 131 := by kernel_rfl
theorem laid_tail {P : Program} {x : String × DataW Unit} {r : List (String × DataW Unit)} {w : World} (h : laidMet P (x :: r) w) : laidMet P r w := by
  obtain ⟨ps, ⟨g, t, cs, fuel, p, q, _, _, _, _, hq, rfl⟩, hn, hc⟩ := h
  exact ⟨q, hq, (List.nodup_append.1 hn).2.1, fun b off hm => hc b off (List.mem_append_right _ hm)⟩
/-- The third of the tables. -/
theorem table {W : World} (h : laidMetH Tryd.prog Rows.dfaRunsRow.laid W) : Tab W :=
  Lib.tabIs_of_head (rest := []) tab_gn gTabType Tryd.underlying131 Tryd.underlying118 (by kernel_rfl) (by kernel_rfl) (laid_tail (laid_tail h))
def cellsOfD : DataW Unit → Array Value
  | .agg l => (l.map fun d => match d with
    | .lit (.int k z) => Value.int k z
    | _ => .nilIface).toArray
  | _ => #[]
def put0 (o : Obj) (d : DataW Unit) : Obj := match o with
  | .cells _ t frozen => .cells (cellsOfD d) t frozen
  | o => o
/-- A world for the witness. -/
noncomputable def laidWorld (os : Os) : World :=
  { World.holding Tryd.prog os ⟨#[], #[], []⟩ with heap := (((World.holding Tryd.prog os ⟨#[], #[], []⟩).heap.modify 0 fun o => put0 o Rows.laid_internal_strconv_uint64pow10).modify 1 fun o => put0 o Rows.laid_math_bits_deBruijn32tab).modify 2 fun o => put0 o Rows.laid_math_bits_deBruijn64tab }
end Go.Proofs.YtebdffabfimmkaaDoor
