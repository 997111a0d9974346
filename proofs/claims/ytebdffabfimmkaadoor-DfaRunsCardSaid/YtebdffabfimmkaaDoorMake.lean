/- make of rows of one cell. -/
import Derived.Test.YtebdffabfimmkaaDoorPut
import Derived.Test.YtebdffabfimmkaaDoorTab
import Derived.Deep.OwnRows
namespace Go.Proofs.YtebdffabfimmkaaDoor
open Go.RowKit

theorem made_list (z : Value) : ∀ n, (madeCells #[z] n).toList = List.replicate n z := by
  intro n
  apply List.ext_getElem?
  intro j
  by_cases hj : j < n
  · simp [madeCells, hj, Nat.mod_one]
  · simp [madeCells, hj]
theorem make_int (n : Nat) (hn : n ≤ 1099511627776) (w : World) : (Instr.makeSlice 54 (.int .i64 (n : Int)) (.int .i64 (n : Int))).run Tryd.prog w = .ok (.slice (some ⟨w.heap.size, 0, none⟩) n n) (w.alloc (.cells (madeCells #[.int .i64 0] n) 3)) :=
  run_make_row' 54 3 (.int .i64 0) 8 Tryd.underlying54 (by kernel_rfl) rfl .i64 .i64 n (by omega) (by omega) w
theorem make_bool (n : Nat) (hn : n ≤ 1099511627776) (w : World) : (Instr.makeSlice 68 (.int .i64 (n : Int)) (.int .i64 (n : Int))).run Tryd.prog w = .ok (.slice (some ⟨w.heap.size, 0, none⟩) n n) (w.alloc (.cells (madeCells #[.bool false] n) 4)) :=
  run_make_row' 68 4 (.bool false) 1 Tryd.underlying68 (by kernel_rfl) rfl .i64 .i64 n (by omega) (by omega) w
theorem make_ints (n : Nat) (hn : n ≤ 1099511627776) (w : World) : (Instr.makeSlice 60 (.int .i64 (n : Int)) (.int .i64 (n : Int))).run Tryd.prog w = .ok (.slice (some ⟨w.heap.size, 0, none⟩) n n) (w.alloc (.cells (madeCells #[.slice none 0 0] n) 54)) :=
  run_make_row' 60 54 (.slice none 0 0) 24 Tryd.underlying60 (by kernel_rfl) rfl .i64 .i64 n (by omega) (by omega) w
theorem own_made (w : World) (z : Value) (n : Nat) (hn : n ≤ 1099511627776) (e : TypeId) {nb : Nat} (h : nb = w.heap.size) {base : Nat} (hb : base ≤ w.heap.size) : (w.alloc (.cells (madeCells #[z] n) e)).ownsRow base e 1 (.slice (some ⟨nb, 0, none⟩) n n) n (List.replicate n z) := by
  have hl := made_list z n
  have h1 := own_new w (madeCells #[z] n) e 1 n (by rw [← Array.length_toList, hl, List.length_replicate, Nat.mul_one]) (by unfold maxLen; omega) h hb
  rw [hl] at h1
  exact h1
end Go.Proofs.YtebdffabfimmkaaDoor
