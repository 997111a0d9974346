/-
  No cell of these rows narrows 'for every input' (looked for: loops, veiled, ifaces, maps, wideKeys, modest, calm, conditions, laid).
  DERIVED. THE GIVEN ROWS OF THIS SEAT. 4 by the template 'for every input the law returns true; each argument reads behind the call as it read before'; 0 by the template 'total and deterministic' (their statements: YtdiekkligpinkaaTotals.lean).
  GIVEN WITH THE SEED: the statements are not yours to turn. If you find one false, say at which input.
  Laid BY PROGRAM, IN A SANDBOX (cutbox-rows.mjs): the forced cells as the released guide's own fill.sh prints them over the translation 09823a56b7735d36… (all of the seat's roots in one cut). By AI agents, Wed Nov 11 2026. No macro, syntax, notation, axiom, sorry.
-/
import Derived.Test.YtdiekkligpinkaaChecked
import GoSem.Claim
import GoSem.ClaimJoined
import GoSem.ClaimMapViews
import Derived.JoinedTies
import Derived.KernelRfl
namespace Go.Proofs.Ytdiekkligpinkaa
/- THE CELL 'sum', in the pinned program and in every row, IS THE sha256 OF THE DUMP (.gsa) THAT YtdiekkligpinkaaProg.lean LOADS. Nothing in Lean hashes anything: it is a label: what it is worth is what the hold of that sum in a sandbox is worth. -/
noncomputable def Try.pinned : Pinned := { name := "ytdiekkligpinkaa", sum := "09823a56b7735d361e95862816a967be952a3842a173e4bee8c37c5f1c0d4ded", checked := Try.checked }
namespace Rows
def none {H : Type} : Left H := { results := [], args := [] }

/-- 'glosslaw24.ScoreLogs': WHATEVER THE INPUT: true; the input reads as it did. -/
def scoreLogsSpec : ChangeSpec := { name := "scoreLogs", fn := fun _ => fun
  | [d] => { results := [.lit (.bool true)], args := [d] }
  | _ => none }
def scoreLogsRow : OpenClaim := { program := "ytdiekkligpinkaa", sum := "09823a56b7735d361e95862816a967be952a3842a173e4bee8c37c5f1c0d4ded", func := "gloss/glosslaw24.ScoreLogs", spec := "scoreLogs", named := ["math/bits.divideError", "math/bits.overflowError"], apart := false }
def ScoreLogsSaid : Prop := scoreLogsRow.holds Try.pinned (OpenSpec.ofChange scoreLogsSpec)

/-- ITS FALSE NEIGHBOUR: 'it returns false'. Refute it at one input. -/
def scoreLogsWrong : ChangeSpec := { name := "scoreLogs", fn := fun _ => fun
  | [d] => { results := [.lit (.bool false)], args := [d] }
  | _ => none }
def ScoreLogsWrongFalsely : Prop := scoreLogsRow.holds Try.pinned (OpenSpec.ofChange scoreLogsWrong)

/-- 'glosslaw24.ScoreScores': WHATEVER THE INPUT: true; the input reads as it did. -/
def scoreScoresSpec : ChangeSpec := { name := "scoreScores", fn := fun _ => fun
  | [d] => { results := [.lit (.bool true)], args := [d] }
  | _ => none }
def scoreScoresRow : OpenClaim := { program := "ytdiekkligpinkaa", sum := "09823a56b7735d361e95862816a967be952a3842a173e4bee8c37c5f1c0d4ded", func := "gloss/glosslaw24.ScoreScores", spec := "scoreScores", named := ["math/bits.divideError", "math/bits.overflowError"], apart := false }
def ScoreScoresSaid : Prop := scoreScoresRow.holds Try.pinned (OpenSpec.ofChange scoreScoresSpec)

/-- ITS FALSE NEIGHBOUR: 'it returns false'. Refute it at one input. -/
def scoreScoresWrong : ChangeSpec := { name := "scoreScores", fn := fun _ => fun
  | [d] => { results := [.lit (.bool false)], args := [d] }
  | _ => none }
def ScoreScoresWrongFalsely : Prop := scoreScoresRow.holds Try.pinned (OpenSpec.ofChange scoreScoresWrong)

/-- 'glosslaw24.ScoreLogRises': WHATEVER THE INPUT: true; the input reads as it did. -/
def scoreLogRisesSpec : ChangeSpec := { name := "scoreLogRises", fn := fun _ => fun
  | [d1, d2] => { results := [.lit (.bool true)], args := [d1, d2] }
  | _ => none }
def scoreLogRisesRow : OpenClaim := { program := "ytdiekkligpinkaa", sum := "09823a56b7735d361e95862816a967be952a3842a173e4bee8c37c5f1c0d4ded", func := "gloss/glosslaw24.ScoreLogRises", spec := "scoreLogRises", named := ["math/bits.divideError", "math/bits.overflowError"], apart := false }
def ScoreLogRisesSaid : Prop := scoreLogRisesRow.holds Try.pinned (OpenSpec.ofChange scoreLogRisesSpec)

/-- ITS FALSE NEIGHBOUR: 'it returns false'. Refute it at one input. -/
def scoreLogRisesWrong : ChangeSpec := { name := "scoreLogRises", fn := fun _ => fun
  | [d1, d2] => { results := [.lit (.bool false)], args := [d1, d2] }
  | _ => none }
def ScoreLogRisesWrongFalsely : Prop := scoreLogRisesRow.holds Try.pinned (OpenSpec.ofChange scoreLogRisesWrong)

/-- 'glosslaw24.ScoreOrders': WHATEVER THE INPUT: true; the input reads as it did. -/
def scoreOrdersSpec : ChangeSpec := { name := "scoreOrders", fn := fun _ => fun
  | [d1, d2] => { results := [.lit (.bool true)], args := [d1, d2] }
  | _ => none }
def scoreOrdersRow : OpenClaim := { program := "ytdiekkligpinkaa", sum := "09823a56b7735d361e95862816a967be952a3842a173e4bee8c37c5f1c0d4ded", func := "gloss/glosslaw24.ScoreOrders", spec := "scoreOrders", named := ["math/bits.divideError", "math/bits.overflowError"], apart := false }
def ScoreOrdersSaid : Prop := scoreOrdersRow.holds Try.pinned (OpenSpec.ofChange scoreOrdersSpec)

/-- ITS FALSE NEIGHBOUR: 'it returns false'. Refute it at one input. -/
def scoreOrdersWrong : ChangeSpec := { name := "scoreOrders", fn := fun _ => fun
  | [d1, d2] => { results := [.lit (.bool false)], args := [d1, d2] }
  | _ => none }
def ScoreOrdersWrongFalsely : Prop := scoreOrdersRow.holds Try.pinned (OpenSpec.ofChange scoreOrdersWrong)

/- THE SECOND FORM. 'bulk': how many values and letters a reading holds, each counted each time it is reached (what is shared counts as often as it is met; a slice's spare places count too). A statement '..UptoSaid' is the law's where the arguments, and the package variables that the reading takes, are together of bulk at most 1048576: NARROWER than '..Said'. Prove '..Said' where nothing that the law and all that it calls make is longer than what came in: it says more and counts as full. Else prove '..UptoSaid'. A law counts once. -/
mutual
def uptoBulk {H : Type} : DataW H → Nat
  | .lit (.string bytes) => bytes.length + 1
  | .lit _ => 1
  | .nil => 1
  | .ptr d => uptoBulk d + 1
  | .slice elems spare => uptoBulkAll elems + uptoBulkAll spare + 1
  | .agg parts => uptoBulkAll parts + 1
  | .iface _ d => uptoBulk d + 1
  | .map entries => uptoBulkEntries entries + 1
  | .held _ => 1
def uptoBulkAll {H : Type} : List (DataW H) → Nat
  | [] => 0
  | d :: r => uptoBulk d + uptoBulkAll r
def uptoBulkEntries {H : Type} : List (Lit × DataW H) → Nat
  | [] => 0
  | x :: r => uptoBulkEntry x + uptoBulkEntries r
def uptoBulkEntry {H : Type} : Lit × DataW H → Nat
  | (.string bytes, d) => bytes.length + uptoBulk d + 1
  | (_, d) => uptoBulk d + 1
 end
def uptoSmall : (H : Type) → List (DataW H) → Bool := fun _ ds => decide (uptoBulkAll ds ≤ 1048576)
def OpenSpec.upto (s : _root_.Go.ChangeSpec) : _root_.Go.OpenSpec := { _root_.Go.OpenSpec.ofChange s with cond := some uptoSmall }

/-- 'glosslaw24.ScoreLogs', WHERE WHAT IT READS IS OF BULK AT MOST 1048576: true; the input reads as it did. -/
def scoreLogsUptoRow : OpenClaim := { program := "ytdiekkligpinkaa", sum := "09823a56b7735d361e95862816a967be952a3842a173e4bee8c37c5f1c0d4ded", func := "gloss/glosslaw24.ScoreLogs", spec := "scoreLogs", named := ["math/bits.divideError", "math/bits.overflowError"], apart := false, narrowed := true }
def ScoreLogsUptoSaid : Prop := scoreLogsUptoRow.holds Try.pinned (OpenSpec.upto scoreLogsSpec)

/-- 'glosslaw24.ScoreScores', WHERE WHAT IT READS IS OF BULK AT MOST 1048576: true; the input reads as it did. -/
def scoreScoresUptoRow : OpenClaim := { program := "ytdiekkligpinkaa", sum := "09823a56b7735d361e95862816a967be952a3842a173e4bee8c37c5f1c0d4ded", func := "gloss/glosslaw24.ScoreScores", spec := "scoreScores", named := ["math/bits.divideError", "math/bits.overflowError"], apart := false, narrowed := true }
def ScoreScoresUptoSaid : Prop := scoreScoresUptoRow.holds Try.pinned (OpenSpec.upto scoreScoresSpec)

/-- 'glosslaw24.ScoreLogRises', WHERE WHAT IT READS IS OF BULK AT MOST 1048576: true; the input reads as it did. -/
def scoreLogRisesUptoRow : OpenClaim := { program := "ytdiekkligpinkaa", sum := "09823a56b7735d361e95862816a967be952a3842a173e4bee8c37c5f1c0d4ded", func := "gloss/glosslaw24.ScoreLogRises", spec := "scoreLogRises", named := ["math/bits.divideError", "math/bits.overflowError"], apart := false, narrowed := true }
def ScoreLogRisesUptoSaid : Prop := scoreLogRisesUptoRow.holds Try.pinned (OpenSpec.upto scoreLogRisesSpec)

/-- 'glosslaw24.ScoreOrders', WHERE WHAT IT READS IS OF BULK AT MOST 1048576: true; the input reads as it did. -/
def scoreOrdersUptoRow : OpenClaim := { program := "ytdiekkligpinkaa", sum := "09823a56b7735d361e95862816a967be952a3842a173e4bee8c37c5f1c0d4ded", func := "gloss/glosslaw24.ScoreOrders", spec := "scoreOrders", named := ["math/bits.divideError", "math/bits.overflowError"], apart := false, narrowed := true }
def ScoreOrdersUptoSaid : Prop := scoreOrdersUptoRow.holds Try.pinned (OpenSpec.upto scoreOrdersSpec)

end Rows
end Go.Proofs.Ytdiekkligpinkaa
