/-
  No cell of these rows narrows 'for every input' (looked for: loops, veiled, ifaces, maps, wideKeys, modest, calm, conditions, laid).
  DERIVED. THE GIVEN ROWS OF THIS SEAT. 5 by the template 'for every input the law returns true; each argument reads behind the call as it read before'; 0 by the template 'total and deterministic' (their statements: YtfiphjhpjaddcaaTotals.lean).
  GIVEN WITH THE SEED: the statements are not yours to turn. If you find one false, say at which input.
  Laid BY PROGRAM, IN A SANDBOX (cutbox-rows.mjs): the forced cells as the released guide's own fill.sh prints them over the translation 06745fb8659a9333… (all of the seat's roots in one cut). By AI agents, Wed Nov 11 2026. No macro, syntax, notation, axiom, sorry.
-/
import Derived.Test.YtfiphjhpjaddcaaChecked
import GoSem.Claim
import GoSem.ClaimJoined
import GoSem.ClaimMapViews
import Derived.JoinedTies
import Derived.KernelRfl
namespace Go.Proofs.Ytfiphjhpjaddcaa
/- THE CELL 'sum', in the pinned program and in every row, IS THE sha256 OF THE DUMP (.gsa) THAT YtfiphjhpjaddcaaProg.lean LOADS. Nothing in Lean hashes anything: it is a label: what it is worth is what the hold of that sum in a sandbox is worth. -/
noncomputable def Try.pinned : Pinned := { name := "ytfiphjhpjaddcaa", sum := "06745fb8659a9333f3a1cb1d8c55625418fcfcf718cac73572cf5dd45dfbc310", checked := Try.checked }
namespace Rows
def none {H : Type} : Left H := { results := [], args := [] }

/-- 'glosslaw04.VfsKeeps': WHATEVER THE INPUT: true; the input reads as it did. -/
def vfsKeepsSpec : ChangeSpec := { name := "vfsKeeps", fn := fun _ => fun
  | [d1, d2, d3] => { results := [.lit (.bool true)], args := [d1, d2, d3] }
  | _ => none }
def vfsKeepsRow : OpenClaim := { program := "ytfiphjhpjaddcaa", sum := "06745fb8659a9333f3a1cb1d8c55625418fcfcf718cac73572cf5dd45dfbc310", func := "gloss/glosslaw04.VfsKeeps", spec := "vfsKeeps", inPlace := ["maps.clone"], unfollowed := true, recurses := true, apart := false }
def VfsKeepsSaid : Prop := vfsKeepsRow.holds Try.pinned (OpenSpec.ofChange vfsKeepsSpec)

/-- ITS FALSE NEIGHBOUR: 'it returns false'. Refute it at one input. -/
def vfsKeepsWrong : ChangeSpec := { name := "vfsKeeps", fn := fun _ => fun
  | [d1, d2, d3] => { results := [.lit (.bool false)], args := [d1, d2, d3] }
  | _ => none }
def VfsKeepsWrongFalsely : Prop := vfsKeepsRow.holds Try.pinned (OpenSpec.ofChange vfsKeepsWrong)

/-- 'glosslaw04.VfsCommits': WHATEVER THE INPUT: true; the input reads as it did. -/
def vfsCommitsSpec : ChangeSpec := { name := "vfsCommits", fn := fun _ => fun
  | [d1, d2, d3, d4] => { results := [.lit (.bool true)], args := [d1, d2, d3, d4] }
  | _ => none }
def vfsCommitsRow : OpenClaim := { program := "ytfiphjhpjaddcaa", sum := "06745fb8659a9333f3a1cb1d8c55625418fcfcf718cac73572cf5dd45dfbc310", func := "gloss/glosslaw04.VfsCommits", spec := "vfsCommits", inPlace := ["maps.clone"], unfollowed := true, recurses := true, apart := false }
def VfsCommitsSaid : Prop := vfsCommitsRow.holds Try.pinned (OpenSpec.ofChange vfsCommitsSpec)

/-- ITS FALSE NEIGHBOUR: 'it returns false'. Refute it at one input. -/
def vfsCommitsWrong : ChangeSpec := { name := "vfsCommits", fn := fun _ => fun
  | [d1, d2, d3, d4] => { results := [.lit (.bool false)], args := [d1, d2, d3, d4] }
  | _ => none }
def VfsCommitsWrongFalsely : Prop := vfsCommitsRow.holds Try.pinned (OpenSpec.ofChange vfsCommitsWrong)

/-- 'glosslaw04.VfsFaults': WHATEVER THE INPUT: true; the input reads as it did. -/
def vfsFaultsSpec : ChangeSpec := { name := "vfsFaults", fn := fun _ => fun
  | [d1, d2, d3] => { results := [.lit (.bool true)], args := [d1, d2, d3] }
  | _ => none }
def vfsFaultsRow : OpenClaim := { program := "ytfiphjhpjaddcaa", sum := "06745fb8659a9333f3a1cb1d8c55625418fcfcf718cac73572cf5dd45dfbc310", func := "gloss/glosslaw04.VfsFaults", spec := "vfsFaults", inPlace := ["maps.clone"], unfollowed := true, recurses := true, apart := false }
def VfsFaultsSaid : Prop := vfsFaultsRow.holds Try.pinned (OpenSpec.ofChange vfsFaultsSpec)

/-- ITS FALSE NEIGHBOUR: 'it returns false'. Refute it at one input. -/
def vfsFaultsWrong : ChangeSpec := { name := "vfsFaults", fn := fun _ => fun
  | [d1, d2, d3] => { results := [.lit (.bool false)], args := [d1, d2, d3] }
  | _ => none }
def VfsFaultsWrongFalsely : Prop := vfsFaultsRow.holds Try.pinned (OpenSpec.ofChange vfsFaultsWrong)

/-- 'glosslaw04.VfsPlays': WHATEVER THE INPUT: true; the input reads as it did. -/
def vfsPlaysSpec : ChangeSpec := { name := "vfsPlays", fn := fun _ => fun
  | [d] => { results := [.lit (.bool true)], args := [d] }
  | _ => none }
def vfsPlaysRow : OpenClaim := { program := "ytfiphjhpjaddcaa", sum := "06745fb8659a9333f3a1cb1d8c55625418fcfcf718cac73572cf5dd45dfbc310", func := "gloss/glosslaw04.VfsPlays", spec := "vfsPlays", inPlace := ["maps.clone"], unfollowed := true, recurses := true, apart := false }
def VfsPlaysSaid : Prop := vfsPlaysRow.holds Try.pinned (OpenSpec.ofChange vfsPlaysSpec)

/-- ITS FALSE NEIGHBOUR: 'it returns false'. Refute it at one input. -/
def vfsPlaysWrong : ChangeSpec := { name := "vfsPlays", fn := fun _ => fun
  | [d] => { results := [.lit (.bool false)], args := [d] }
  | _ => none }
def VfsPlaysWrongFalsely : Prop := vfsPlaysRow.holds Try.pinned (OpenSpec.ofChange vfsPlaysWrong)

/-- 'glosslaw04.VfsNil': WHATEVER THE INPUT: true; the input reads as it did. -/
def vfsNilSpec : ChangeSpec := { name := "vfsNil", fn := fun _ => fun
  | [d1, d2] => { results := [.lit (.bool true)], args := [d1, d2] }
  | _ => none }
def vfsNilRow : OpenClaim := { program := "ytfiphjhpjaddcaa", sum := "06745fb8659a9333f3a1cb1d8c55625418fcfcf718cac73572cf5dd45dfbc310", func := "gloss/glosslaw04.VfsNil", spec := "vfsNil", inPlace := ["maps.clone"], unfollowed := true, recurses := true, apart := false }
def VfsNilSaid : Prop := vfsNilRow.holds Try.pinned (OpenSpec.ofChange vfsNilSpec)

/-- ITS FALSE NEIGHBOUR: 'it returns false'. Refute it at one input. -/
def vfsNilWrong : ChangeSpec := { name := "vfsNil", fn := fun _ => fun
  | [d1, d2] => { results := [.lit (.bool false)], args := [d1, d2] }
  | _ => none }
def VfsNilWrongFalsely : Prop := vfsNilRow.holds Try.pinned (OpenSpec.ofChange vfsNilWrong)

/- THE SECOND FORM. 'bulk': how many values and letters a reading holds, each counted each time it is reached (what is shared counts as often as it is met; a slice's spare places count too). A statement '..UptoSaid' is the law's where the arguments, and the package variables that the reading takes, are together of bulk at most 1048576: NARROWER than '..Said'. Prove '..Said' where nothing that the law and all that it calls make is longer than what came in: it says more and counts as full. Else prove '..UptoSaid'. A law counts once. -/
mutual
def uptoBulk {H : Type} : DataW H → Nat
  | .lit (.string bytes) => bytes.length + 1
  | .lit _ => 1
  | .nil => 1
  | .ptr d => uptoBulk d + 1
  | .slice elems spare => uptoBulkAll elems + uptoBulkAll spare + 1
  | .agg parts => uptoBulkAll parts + 1
  | .iface _ d => uptoBulk d + 1
  | .map entries => uptoBulkEntries entries + 1
  | .held _ => 1
def uptoBulkAll {H : Type} : List (DataW H) → Nat
  | [] => 0
  | d :: r => uptoBulk d + uptoBulkAll r
def uptoBulkEntries {H : Type} : List (Lit × DataW H) → Nat
  | [] => 0
  | x :: r => uptoBulkEntry x + uptoBulkEntries r
def uptoBulkEntry {H : Type} : Lit × DataW H → Nat
  | (.string bytes, d) => bytes.length + uptoBulk d + 1
  | (_, d) => uptoBulk d + 1
 end
def uptoSmall : (H : Type) → List (DataW H) → Bool := fun _ ds => decide (uptoBulkAll ds ≤ 1048576)
def OpenSpec.upto (s : _root_.Go.ChangeSpec) : _root_.Go.OpenSpec := { _root_.Go.OpenSpec.ofChange s with cond := some uptoSmall }

/-- 'glosslaw04.VfsKeeps', WHERE WHAT IT READS IS OF BULK AT MOST 1048576: true; the input reads as it did. -/
def vfsKeepsUptoRow : OpenClaim := { program := "ytfiphjhpjaddcaa", sum := "06745fb8659a9333f3a1cb1d8c55625418fcfcf718cac73572cf5dd45dfbc310", func := "gloss/glosslaw04.VfsKeeps", spec := "vfsKeeps", inPlace := ["maps.clone"], unfollowed := true, recurses := true, apart := false, narrowed := true }
def VfsKeepsUptoSaid : Prop := vfsKeepsUptoRow.holds Try.pinned (OpenSpec.upto vfsKeepsSpec)

/-- 'glosslaw04.VfsCommits', WHERE WHAT IT READS IS OF BULK AT MOST 1048576: true; the input reads as it did. -/
def vfsCommitsUptoRow : OpenClaim := { program := "ytfiphjhpjaddcaa", sum := "06745fb8659a9333f3a1cb1d8c55625418fcfcf718cac73572cf5dd45dfbc310", func := "gloss/glosslaw04.VfsCommits", spec := "vfsCommits", inPlace := ["maps.clone"], unfollowed := true, recurses := true, apart := false, narrowed := true }
def VfsCommitsUptoSaid : Prop := vfsCommitsUptoRow.holds Try.pinned (OpenSpec.upto vfsCommitsSpec)

/-- 'glosslaw04.VfsFaults', WHERE WHAT IT READS IS OF BULK AT MOST 1048576: true; the input reads as it did. -/
def vfsFaultsUptoRow : OpenClaim := { program := "ytfiphjhpjaddcaa", sum := "06745fb8659a9333f3a1cb1d8c55625418fcfcf718cac73572cf5dd45dfbc310", func := "gloss/glosslaw04.VfsFaults", spec := "vfsFaults", inPlace := ["maps.clone"], unfollowed := true, recurses := true, apart := false, narrowed := true }
def VfsFaultsUptoSaid : Prop := vfsFaultsUptoRow.holds Try.pinned (OpenSpec.upto vfsFaultsSpec)

/-- 'glosslaw04.VfsPlays', WHERE WHAT IT READS IS OF BULK AT MOST 1048576: true; the input reads as it did. -/
def vfsPlaysUptoRow : OpenClaim := { program := "ytfiphjhpjaddcaa", sum := "06745fb8659a9333f3a1cb1d8c55625418fcfcf718cac73572cf5dd45dfbc310", func := "gloss/glosslaw04.VfsPlays", spec := "vfsPlays", inPlace := ["maps.clone"], unfollowed := true, recurses := true, apart := false, narrowed := true }
def VfsPlaysUptoSaid : Prop := vfsPlaysUptoRow.holds Try.pinned (OpenSpec.upto vfsPlaysSpec)

/-- 'glosslaw04.VfsNil', WHERE WHAT IT READS IS OF BULK AT MOST 1048576: true; the input reads as it did. -/
def vfsNilUptoRow : OpenClaim := { program := "ytfiphjhpjaddcaa", sum := "06745fb8659a9333f3a1cb1d8c55625418fcfcf718cac73572cf5dd45dfbc310", func := "gloss/glosslaw04.VfsNil", spec := "vfsNil", inPlace := ["maps.clone"], unfollowed := true, recurses := true, apart := false, narrowed := true }
def VfsNilUptoSaid : Prop := vfsNilUptoRow.holds Try.pinned (OpenSpec.upto vfsNilSpec)

end Rows
end Go.Proofs.Ytfiphjhpjaddcaa
