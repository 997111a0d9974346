/- The two closures that change a file. -/
import Derived.Test.YtfiphjhpjaddcaaRemove
namespace Go.Proofs.Ytfiphjhpjaddcaa
open Go.RowKit Go.Maps

theorem sync1_any (d : ByteArray) (n : Int) (w : World) : Calls Try.prog 31 #[.agg #[.string d, .int .i64 n]] w fun e w' => e = .returned (.agg #[.string d, .int .i64 d.size]) ∧ Below w.heap.size w w' := by
  go_enter Try.func31, Try.ntmps31
  go_wp2_with fail
  exact bodyPost_ret (v := .agg #[.string d, .int .i64 d.size]) (by simp [results, Try.results31, go_sem]) rfl ⟨rfl, bnew (bnew (brefl w) _) _⟩
theorem append1_any (d x : ByteArray) (n : Int) (b : Nat) (w : World) (hb : w.cell? ⟨b, 0, none⟩ = some (.string x)) (hs : d.size + x.size ≤ 9223372036854775807) : Calls Try.prog 30 #[.agg #[.string d, .int .i64 n], .pointer (some ⟨b, 0, none⟩)] w fun e w' => e = .returned (.agg #[.string (d ++ x), .int .i64 n]) ∧ Below w.heap.size w w' := by
  have hl := (lt_of_cell hb).1
  simp only at hl
  have hcat : ∀ w : World, (Op.stringOp .add d x).run Try.prog w = .ok (.string (d ++ x)) w := fun w => run_string_add_sum w d x hs
  go_enter Try.func30, Try.ntmps30
  go_wp2_with fail
  exact bodyPost_ret (v := .agg #[.string (d ++ x), .int .i64 n]) (by simp [results, Try.results30, go_sem]) rfl ⟨rfl, bnew (bnew (brefl w) _) _⟩
end Go.Proofs.Ytfiphjhpjaddcaa
