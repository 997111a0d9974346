/- Which counts may be, by the program and by the reference. -/
import Derived.Test.YtdiekkligpinkaaRlog
namespace Go.Proofs.Ytdiekkligpinkaa
open Go.RowKit

structure Counts where
  docs : Int
  total : Int
  have_ : Int
  times : Int
  len : Int
def Counts.val (c : Counts) : Value := .agg #[.int .i64 c.docs, .int .i64 c.total, .int .i64 c.have_, .int .i64 c.times, .int .i64 c.len]
def Counts.ok (c : Counts) : Bool := decide (1 ≤ c.docs ∧ c.docs ≤ 1073741824 ∧ 1 ≤ c.have_ ∧ c.have_ ≤ c.docs ∧ 1 ≤ c.times ∧ c.times ≤ c.len ∧ c.len ≤ 4096 ∧ c.len ≤ c.total ∧ c.total ≤ 1099511627776)
theorem Counts.ok_yes {c : Counts} (h : 1 ≤ c.docs ∧ c.docs ≤ 1073741824 ∧ 1 ≤ c.have_ ∧ c.have_ ≤ c.docs ∧ 1 ≤ c.times ∧ c.times ≤ c.len ∧ c.len ≤ 4096 ∧ c.len ≤ c.total ∧ c.total ≤ 1099511627776) : true = c.ok := (decide_eq_true h).symm
theorem Counts.ok_no {c : Counts} (h : ¬ (1 ≤ c.docs ∧ c.docs ≤ 1073741824 ∧ 1 ≤ c.have_ ∧ c.have_ ≤ c.docs ∧ 1 ≤ c.times ∧ c.times ≤ c.len ∧ c.len ≤ 4096 ∧ c.len ≤ c.total ∧ c.total ≤ 1099511627776)) : false = c.ok := (decide_eq_false h).symm

theorem Counts.ok_last {c : Counts} (h : 1 ≤ c.docs ∧ c.docs ≤ 1073741824 ∧ 1 ≤ c.have_ ∧ c.have_ ≤ c.docs ∧ 1 ≤ c.times ∧ c.times ≤ c.len ∧ c.len ≤ 4096 ∧ c.len ≤ c.total) : decide (c.total ≤ 1099511627776) = c.ok := by
  unfold Counts.ok
  rw [decide_eq_decide]
  omega

set_option maxRecDepth 100000 in
set_option maxHeartbeats 2000000 in
theorem chk_any (c : Counts) (w : World) : Calls Try.prog 14 #[c.val] w fun e w' => e = .returned (.bool c.ok) ∧ Below w.heap.size w w' := by
  unfold Counts.val
  go_enter Try.func14, Try.ntmps14
  go_wp2
  all_goals go_ret
  all_goals first
    | (refine ⟨ret_bool (Counts.ok_no ?_), bnew (brefl w) _⟩; omega)
    | (refine ⟨ret_bool (Counts.ok_last ?_), bnew (brefl w) _⟩; omega)
    | (refine ⟨ret_bool (Counts.ok_yes ?_), bnew (brefl w) _⟩; omega)

set_option maxRecDepth 100000 in
set_option maxHeartbeats 2000000 in
theorem rchk_any (c : Counts) (w : World) : Calls Try.prog 15 #[c.val] w fun e w' => e = .returned (.bool c.ok) ∧ Below w.heap.size w w' := by
  unfold Counts.val
  go_enter Try.func15, Try.ntmps15
  go_wp2
  all_goals go_ret
  all_goals first
    | (refine ⟨ret_bool (Counts.ok_no ?_), bnew (brefl w) _⟩; omega)
    | (refine ⟨ret_bool (Counts.ok_last ?_), bnew (brefl w) _⟩; omega)
    | (refine ⟨ret_bool (Counts.ok_yes ?_), bnew (brefl w) _⟩; omega)
end Go.Proofs.Ytdiekkligpinkaa
