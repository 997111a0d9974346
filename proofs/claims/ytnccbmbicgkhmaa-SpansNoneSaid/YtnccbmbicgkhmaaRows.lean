/-
  No cell of these rows narrows 'for every input' (looked for: loops, veiled, ifaces, maps, wideKeys, modest, calm, conditions, laid).
  DERIVED. THE GIVEN ROWS OF THIS SEAT. 3 by the template 'for every input the law returns true; each argument reads behind the call as it read before'; 0 by the template 'total and deterministic' (their statements: YtnccbmbicgkhmaaTotals.lean).
  GIVEN WITH THE SEED: the statements are not yours to turn. If you find one false, say at which input.
  Laid BY PROGRAM, IN A SANDBOX (cutbox-rows.mjs): the forced cells as the released guide's own fill.sh prints them over the translation 0246389df95a4f53… (all of the seat's roots in one cut). By AI agents, Wed Nov 11 2026. No macro, syntax, notation, axiom, sorry.
-/
import Derived.Test.YtnccbmbicgkhmaaChecked
import GoSem.Claim
import GoSem.ClaimJoined
import GoSem.ClaimMapViews
import Derived.JoinedTies
import Derived.KernelRfl
namespace Go.Proofs.Ytnccbmbicgkhmaa
/- THE CELL 'sum', in the pinned program and in every row, IS THE sha256 OF THE DUMP (.gsa) THAT YtnccbmbicgkhmaaProg.lean LOADS. Nothing in Lean hashes anything: it is a label: what it is worth is what the hold of that sum in a sandbox is worth. -/
noncomputable def Try.pinned : Pinned := { name := "ytnccbmbicgkhmaa", sum := "0246389df95a4f53490ab094b63f5a9ae000070a670b53e4ecaf5e545165106a", checked := Try.checked }
namespace Rows
def none {H : Type} : Left H := { results := [], args := [] }

/-- 'glosslaw09.SpansHold': WHATEVER THE INPUT: true; the input reads as it did. -/
def spansHoldSpec : ChangeSpec := { name := "spansHold", fn := fun _ => fun
  | [d1, d2, d3] => { results := [.lit (.bool true)], args := [d1, d2, d3] }
  | _ => none }
def spansHoldRow : OpenClaim := { program := "ytnccbmbicgkhmaa", sum := "0246389df95a4f53490ab094b63f5a9ae000070a670b53e4ecaf5e545165106a", func := "gloss/glosslaw09.SpansHold", spec := "spansHold", recurses := true, apart := false }
def SpansHoldSaid : Prop := spansHoldRow.holds Try.pinned (OpenSpec.ofChange spansHoldSpec)

/-- ITS FALSE NEIGHBOUR: 'it returns false'. Refute it at one input. -/
def spansHoldWrong : ChangeSpec := { name := "spansHold", fn := fun _ => fun
  | [d1, d2, d3] => { results := [.lit (.bool false)], args := [d1, d2, d3] }
  | _ => none }
def SpansHoldWrongFalsely : Prop := spansHoldRow.holds Try.pinned (OpenSpec.ofChange spansHoldWrong)

/-- 'glosslaw09.SpansFew': WHATEVER THE INPUT: true; the input reads as it did. -/
def spansFewSpec : ChangeSpec := { name := "spansFew", fn := fun _ => fun
  | [d1, d2] => { results := [.lit (.bool true)], args := [d1, d2] }
  | _ => none }
def spansFewRow : OpenClaim := { program := "ytnccbmbicgkhmaa", sum := "0246389df95a4f53490ab094b63f5a9ae000070a670b53e4ecaf5e545165106a", func := "gloss/glosslaw09.SpansFew", spec := "spansFew", recurses := true, apart := false }
def SpansFewSaid : Prop := spansFewRow.holds Try.pinned (OpenSpec.ofChange spansFewSpec)

/-- ITS FALSE NEIGHBOUR: 'it returns false'. Refute it at one input. -/
def spansFewWrong : ChangeSpec := { name := "spansFew", fn := fun _ => fun
  | [d1, d2] => { results := [.lit (.bool false)], args := [d1, d2] }
  | _ => none }
def SpansFewWrongFalsely : Prop := spansFewRow.holds Try.pinned (OpenSpec.ofChange spansFewWrong)

/-- 'glosslaw09.SpansNone': WHATEVER THE INPUT: true; the input reads as it did. -/
def spansNoneSpec : ChangeSpec := { name := "spansNone", fn := fun _ => fun
  | [d1, d2, d3, d4, d5] => { results := [.lit (.bool true)], args := [d1, d2, d3, d4, d5] }
  | _ => none }
def spansNoneRow : OpenClaim := { program := "ytnccbmbicgkhmaa", sum := "0246389df95a4f53490ab094b63f5a9ae000070a670b53e4ecaf5e545165106a", func := "gloss/glosslaw09.SpansNone", spec := "spansNone", recurses := true, apart := false }
def SpansNoneSaid : Prop := spansNoneRow.holds Try.pinned (OpenSpec.ofChange spansNoneSpec)

/-- ITS FALSE NEIGHBOUR: 'it returns false'. Refute it at one input. -/
def spansNoneWrong : ChangeSpec := { name := "spansNone", fn := fun _ => fun
  | [d1, d2, d3, d4, d5] => { results := [.lit (.bool false)], args := [d1, d2, d3, d4, d5] }
  | _ => none }
def SpansNoneWrongFalsely : Prop := spansNoneRow.holds Try.pinned (OpenSpec.ofChange spansNoneWrong)

/- THE SECOND FORM. 'bulk': how many values and letters a reading holds, each counted each time it is reached (what is shared counts as often as it is met; a slice's spare places count too). A statement '..UptoSaid' is the law's where the arguments, and the package variables that the reading takes, are together of bulk at most 1048576: NARROWER than '..Said'. Prove '..Said' where nothing that the law and all that it calls make is longer than what came in: it says more and counts as full. Else prove '..UptoSaid'. A law counts once. -/
mutual
def uptoBulk {H : Type} : DataW H → Nat
  | .lit (.string bytes) => bytes.length + 1
  | .lit _ => 1
  | .nil => 1
  | .ptr d => uptoBulk d + 1
  | .slice elems spare => uptoBulkAll elems + uptoBulkAll spare + 1
  | .agg parts => uptoBulkAll parts + 1
  | .iface _ d => uptoBulk d + 1
  | .map entries => uptoBulkEntries entries + 1
  | .held _ => 1
def uptoBulkAll {H : Type} : List (DataW H) → Nat
  | [] => 0
  | d :: r => uptoBulk d + uptoBulkAll r
def uptoBulkEntries {H : Type} : List (Lit × DataW H) → Nat
  | [] => 0
  | x :: r => uptoBulkEntry x + uptoBulkEntries r
def uptoBulkEntry {H : Type} : Lit × DataW H → Nat
  | (.string bytes, d) => bytes.length + uptoBulk d + 1
  | (_, d) => uptoBulk d + 1
 end
def uptoSmall : (H : Type) → List (DataW H) → Bool := fun _ ds => decide (uptoBulkAll ds ≤ 1048576)
def OpenSpec.upto (s : _root_.Go.ChangeSpec) : _root_.Go.OpenSpec := { _root_.Go.OpenSpec.ofChange s with cond := some uptoSmall }

/-- 'glosslaw09.SpansHold', WHERE WHAT IT READS IS OF BULK AT MOST 1048576: true; the input reads as it did. -/
def spansHoldUptoRow : OpenClaim := { program := "ytnccbmbicgkhmaa", sum := "0246389df95a4f53490ab094b63f5a9ae000070a670b53e4ecaf5e545165106a", func := "gloss/glosslaw09.SpansHold", spec := "spansHold", recurses := true, apart := false, narrowed := true }
def SpansHoldUptoSaid : Prop := spansHoldUptoRow.holds Try.pinned (OpenSpec.upto spansHoldSpec)

/-- 'glosslaw09.SpansFew', WHERE WHAT IT READS IS OF BULK AT MOST 1048576: true; the input reads as it did. -/
def spansFewUptoRow : OpenClaim := { program := "ytnccbmbicgkhmaa", sum := "0246389df95a4f53490ab094b63f5a9ae000070a670b53e4ecaf5e545165106a", func := "gloss/glosslaw09.SpansFew", spec := "spansFew", recurses := true, apart := false, narrowed := true }
def SpansFewUptoSaid : Prop := spansFewUptoRow.holds Try.pinned (OpenSpec.upto spansFewSpec)

/-- 'glosslaw09.SpansNone', WHERE WHAT IT READS IS OF BULK AT MOST 1048576: true; the input reads as it did. -/
def spansNoneUptoRow : OpenClaim := { program := "ytnccbmbicgkhmaa", sum := "0246389df95a4f53490ab094b63f5a9ae000070a670b53e4ecaf5e545165106a", func := "gloss/glosslaw09.SpansNone", spec := "spansNone", recurses := true, apart := false, narrowed := true }
def SpansNoneUptoSaid : Prop := spansNoneUptoRow.holds Try.pinned (OpenSpec.upto spansNoneSpec)

end Rows
end Go.Proofs.Ytnccbmbicgkhmaa
