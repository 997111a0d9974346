/-
  DERIVED. GIVEN WITH THE SEED: THE CARDS: each row of YtebdffabfimmkaaDoorRows.lean that lists a variable, with what it lists TIED to the program's text (the seventh form; the later family's looks); each row that meets fmt, with fmt's text TOLD by the authors' own Lean function (tested against real Go, not proved from fmt's source: count such statements apart). THE CARD IS WHAT COUNTS. Prove the row's statement (the work); the ties are given (YtebdffabfimmkaaDoorTie.lean); close each card by the builder's one call (the guide's Derived/Test/ToyasCard.lean, 'card_holds'). Laid BY PROGRAM, IN A SANDBOX (cutbox-door.mjs). By AI agents, Wed Nov 11 2026. No macro, syntax, notation, axiom, sorry.
-/
import Derived.Test.YtebdffabfimmkaaDoorRows
import GoSem.ClaimSeven
namespace Go.Proofs.YtebdffabfimmkaaDoor
namespace Rows

/-- THE TIED CARD OF 'glosslaw08.DfaRuns'. -/
def dfaRunsCard : Claim7 := { stood := { row := dfaRunsRow, standIns := [], harness := (true, "735d1932c46f11c45d874a71034975fdaad165facaf301c40e70333b47c1091d"), looks := false }, kinds := [], alts := [], laidByText := true, laidKinds := [.data, .data, .data], laidTests := true, laidLooks := .later }
def DfaRunsCardSaid : Prop := Claim7.holds Tryd.pinned (.plain (OpenSpec.ofChange dfaRunsSpec)) dfaRunsCard

/-- THE TIED CARD OF 'glosslaw08.DfaTight'. -/
def dfaTightCard : Claim7 := { stood := { row := dfaTightRow, standIns := [], harness := (true, "735d1932c46f11c45d874a71034975fdaad165facaf301c40e70333b47c1091d"), looks := false }, kinds := [], alts := [], laidByText := true, laidKinds := [.data, .data, .data], laidTests := true, laidLooks := .later }
def DfaTightCardSaid : Prop := Claim7.holds Tryd.pinned (.plain (OpenSpec.ofChange dfaTightSpec)) dfaTightCard

/-- THE TIED CARD OF 'glosslaw08.DfaTakes'. -/
def dfaTakesCard : Claim7 := { stood := { row := dfaTakesRow, standIns := [], harness := (true, "735d1932c46f11c45d874a71034975fdaad165facaf301c40e70333b47c1091d"), looks := false }, kinds := [], alts := [], laidByText := true, laidKinds := [.data, .data, .data], laidTests := true, laidLooks := .later }
def DfaTakesCardSaid : Prop := Claim7.holds Tryd.pinned (.plain (OpenSpec.ofChange dfaTakesSpec)) dfaTakesCard

/-- THE TIED CARD OF 'glosslaw08.DfaBoth'. -/
def dfaBothCard : Claim7 := { stood := { row := dfaBothRow, standIns := [], harness := (true, "735d1932c46f11c45d874a71034975fdaad165facaf301c40e70333b47c1091d"), looks := false }, kinds := [], alts := [], laidByText := true, laidKinds := [.data, .data, .data], laidTests := true, laidLooks := .later }
def DfaBothCardSaid : Prop := Claim7.holds Tryd.pinned (.plain (OpenSpec.ofChange dfaBothSpec)) dfaBothCard

/-- THE TIED CARD OF 'glosslaw08.DfaMeets'. -/
def dfaMeetsCard : Claim7 := { stood := { row := dfaMeetsRow, standIns := [], harness := (true, "735d1932c46f11c45d874a71034975fdaad165facaf301c40e70333b47c1091d"), looks := false }, kinds := [], alts := [], laidByText := true, laidKinds := [.data, .data, .data], laidTests := true, laidLooks := .later }
def DfaMeetsCardSaid : Prop := Claim7.holds Tryd.pinned (.plain (OpenSpec.ofChange dfaMeetsSpec)) dfaMeetsCard

/-- THE SECOND FORM's CARD OF 'glosslaw08.DfaRuns'. -/
def dfaRunsUptoCard : Claim7 := { stood := { row := dfaRunsUptoRow, standIns := [], harness := (true, "735d1932c46f11c45d874a71034975fdaad165facaf301c40e70333b47c1091d"), looks := false }, kinds := [], alts := [], laidByText := true, laidKinds := [.data, .data, .data], laidTests := true, laidLooks := .later }
def DfaRunsUptoCardSaid : Prop := Claim7.holds Tryd.pinned (.plain (OpenSpec.upto dfaRunsSpec)) dfaRunsUptoCard

/-- THE SECOND FORM's CARD OF 'glosslaw08.DfaTight'. -/
def dfaTightUptoCard : Claim7 := { stood := { row := dfaTightUptoRow, standIns := [], harness := (true, "735d1932c46f11c45d874a71034975fdaad165facaf301c40e70333b47c1091d"), looks := false }, kinds := [], alts := [], laidByText := true, laidKinds := [.data, .data, .data], laidTests := true, laidLooks := .later }
def DfaTightUptoCardSaid : Prop := Claim7.holds Tryd.pinned (.plain (OpenSpec.upto dfaTightSpec)) dfaTightUptoCard

/-- THE SECOND FORM's CARD OF 'glosslaw08.DfaTakes'. -/
def dfaTakesUptoCard : Claim7 := { stood := { row := dfaTakesUptoRow, standIns := [], harness := (true, "735d1932c46f11c45d874a71034975fdaad165facaf301c40e70333b47c1091d"), looks := false }, kinds := [], alts := [], laidByText := true, laidKinds := [.data, .data, .data], laidTests := true, laidLooks := .later }
def DfaTakesUptoCardSaid : Prop := Claim7.holds Tryd.pinned (.plain (OpenSpec.upto dfaTakesSpec)) dfaTakesUptoCard

/-- THE SECOND FORM's CARD OF 'glosslaw08.DfaBoth'. -/
def dfaBothUptoCard : Claim7 := { stood := { row := dfaBothUptoRow, standIns := [], harness := (true, "735d1932c46f11c45d874a71034975fdaad165facaf301c40e70333b47c1091d"), looks := false }, kinds := [], alts := [], laidByText := true, laidKinds := [.data, .data, .data], laidTests := true, laidLooks := .later }
def DfaBothUptoCardSaid : Prop := Claim7.holds Tryd.pinned (.plain (OpenSpec.upto dfaBothSpec)) dfaBothUptoCard

/-- THE SECOND FORM's CARD OF 'glosslaw08.DfaMeets'. -/
def dfaMeetsUptoCard : Claim7 := { stood := { row := dfaMeetsUptoRow, standIns := [], harness := (true, "735d1932c46f11c45d874a71034975fdaad165facaf301c40e70333b47c1091d"), looks := false }, kinds := [], alts := [], laidByText := true, laidKinds := [.data, .data, .data], laidTests := true, laidLooks := .later }
def DfaMeetsUptoCardSaid : Prop := Claim7.holds Tryd.pinned (.plain (OpenSpec.upto dfaMeetsSpec)) dfaMeetsUptoCard
end Rows
end Go.Proofs.YtebdffabfimmkaaDoor
