/-
  DERIVED. GIVEN WITH THE SEED: THE CARDS: each row of YtclahhkcbkpofaaDoorRows.lean that lists a variable, with what it lists TIED to the program's text (the seventh form; the later family's looks); each row that meets fmt, with fmt's text TOLD by the authors' own Lean function (tested against real Go, not proved from fmt's source: count such statements apart). THE CARD IS WHAT COUNTS. Prove the row's statement (the work); the ties are given (YtclahhkcbkpofaaDoorTie.lean); close each card by the builder's one call (the guide's Derived/Test/ToyasCard.lean, 'card_holds'). Laid BY PROGRAM, IN A SANDBOX (cutbox-door.mjs). By AI agents, Wed Nov 11 2026. No macro, syntax, notation, axiom, sorry.
-/
import Derived.Test.YtclahhkcbkpofaaDoorRows
import GoSem.ClaimSeven
namespace Go.Proofs.YtclahhkcbkpofaaDoor
namespace Rows

/-- THE TIED CARD OF 'glosslaw09.SpansLead'. -/
def spansLeadCard : Claim7 := { stood := { row := spansLeadRow, standIns := [], harness := (true, "25da79a990707c3839985c122fcdc5d5e543b45ffda9ecf62630295ff31e08ad"), looks := false }, kinds := [], alts := [], laidByText := true, laidKinds := [.data, .data, .data], laidTests := true, laidLooks := .later }
def SpansLeadCardSaid : Prop := Claim7.holds Tryd.pinned (.plain (OpenSpec.ofChange spansLeadSpec)) spansLeadCard

/-- THE TIED CARD OF 'glosslaw10.WildLetters'. -/
def wildLettersCard : Claim7 := { stood := { row := wildLettersRow, standIns := [], harness := (true, "25da79a990707c3839985c122fcdc5d5e543b45ffda9ecf62630295ff31e08ad"), looks := false }, kinds := [], alts := [], laidByText := true, laidKinds := [.data, .data, .data], laidTests := true, laidLooks := .later }
def WildLettersCardSaid : Prop := Claim7.holds Tryd.pinned (.plain (OpenSpec.ofChange wildLettersSpec)) wildLettersCard

/-- THE TIED CARD OF 'glosslaw11.FuzzyDistances'. -/
def fuzzyDistancesCard : Claim7 := { stood := { row := fuzzyDistancesRow, standIns := [], harness := (true, "25da79a990707c3839985c122fcdc5d5e543b45ffda9ecf62630295ff31e08ad"), looks := false }, kinds := [], alts := [], laidByText := true, laidKinds := [.data, .data, .data], laidTests := true, laidLooks := .later }
def FuzzyDistancesCardSaid : Prop := Claim7.holds Tryd.pinned (.plain (OpenSpec.ofChange fuzzyDistancesSpec)) fuzzyDistancesCard

/-- THE TIED CARD OF 'glosslaw11.FuzzyTakes'. -/
def fuzzyTakesCard : Claim7 := { stood := { row := fuzzyTakesRow, standIns := [], harness := (true, "25da79a990707c3839985c122fcdc5d5e543b45ffda9ecf62630295ff31e08ad"), looks := false }, kinds := [], alts := [], laidByText := true, laidKinds := [.data, .data, .data], laidTests := true, laidLooks := .later }
def FuzzyTakesCardSaid : Prop := Claim7.holds Tryd.pinned (.plain (OpenSpec.ofChange fuzzyTakesSpec)) fuzzyTakesCard

/-- THE TIED CARD OF 'glosslaw11.FuzzyMetric'. -/
def fuzzyMetricCard : Claim7 := { stood := { row := fuzzyMetricRow, standIns := [], harness := (true, "25da79a990707c3839985c122fcdc5d5e543b45ffda9ecf62630295ff31e08ad"), looks := false }, kinds := [], alts := [], laidByText := true, laidKinds := [.data, .data, .data], laidTests := true, laidLooks := .later }
def FuzzyMetricCardSaid : Prop := Claim7.holds Tryd.pinned (.plain (OpenSpec.ofChange fuzzyMetricSpec)) fuzzyMetricCard

/-- THE TIED CARD OF 'glosslaw10.WildPrefixes'. -/
def wildPrefixesCard : Claim7 := { stood := { row := wildPrefixesRow, standIns := [], harness := (true, "25da79a990707c3839985c122fcdc5d5e543b45ffda9ecf62630295ff31e08ad"), looks := false }, kinds := [], alts := [], laidByText := true, laidKinds := [.data, .data, .data], laidTests := true, laidLooks := .later }
def WildPrefixesCardSaid : Prop := Claim7.holds Tryd.pinned (.plain (OpenSpec.ofChange wildPrefixesSpec)) wildPrefixesCard

/-- THE TIED CARD OF 'glosslaw10.WildSame'. -/
def wildSameCard : Claim7 := { stood := { row := wildSameRow, standIns := [], harness := (true, "25da79a990707c3839985c122fcdc5d5e543b45ffda9ecf62630295ff31e08ad"), looks := false }, kinds := [], alts := [], laidByText := true, laidKinds := [.data, .data, .data], laidTests := true, laidLooks := .later }
def WildSameCardSaid : Prop := Claim7.holds Tryd.pinned (.plain (OpenSpec.ofChange wildSameSpec)) wildSameCard

/-- THE SECOND FORM's CARD OF 'glosslaw09.SpansLead'. -/
def spansLeadUptoCard : Claim7 := { stood := { row := spansLeadUptoRow, standIns := [], harness := (true, "25da79a990707c3839985c122fcdc5d5e543b45ffda9ecf62630295ff31e08ad"), looks := false }, kinds := [], alts := [], laidByText := true, laidKinds := [.data, .data, .data], laidTests := true, laidLooks := .later }
def SpansLeadUptoCardSaid : Prop := Claim7.holds Tryd.pinned (.plain (OpenSpec.upto spansLeadSpec)) spansLeadUptoCard

/-- THE SECOND FORM's CARD OF 'glosslaw10.WildLetters'. -/
def wildLettersUptoCard : Claim7 := { stood := { row := wildLettersUptoRow, standIns := [], harness := (true, "25da79a990707c3839985c122fcdc5d5e543b45ffda9ecf62630295ff31e08ad"), looks := false }, kinds := [], alts := [], laidByText := true, laidKinds := [.data, .data, .data], laidTests := true, laidLooks := .later }
def WildLettersUptoCardSaid : Prop := Claim7.holds Tryd.pinned (.plain (OpenSpec.upto wildLettersSpec)) wildLettersUptoCard

/-- THE SECOND FORM's CARD OF 'glosslaw11.FuzzyDistances'. -/
def fuzzyDistancesUptoCard : Claim7 := { stood := { row := fuzzyDistancesUptoRow, standIns := [], harness := (true, "25da79a990707c3839985c122fcdc5d5e543b45ffda9ecf62630295ff31e08ad"), looks := false }, kinds := [], alts := [], laidByText := true, laidKinds := [.data, .data, .data], laidTests := true, laidLooks := .later }
def FuzzyDistancesUptoCardSaid : Prop := Claim7.holds Tryd.pinned (.plain (OpenSpec.upto fuzzyDistancesSpec)) fuzzyDistancesUptoCard

/-- THE SECOND FORM's CARD OF 'glosslaw11.FuzzyTakes'. -/
def fuzzyTakesUptoCard : Claim7 := { stood := { row := fuzzyTakesUptoRow, standIns := [], harness := (true, "25da79a990707c3839985c122fcdc5d5e543b45ffda9ecf62630295ff31e08ad"), looks := false }, kinds := [], alts := [], laidByText := true, laidKinds := [.data, .data, .data], laidTests := true, laidLooks := .later }
def FuzzyTakesUptoCardSaid : Prop := Claim7.holds Tryd.pinned (.plain (OpenSpec.upto fuzzyTakesSpec)) fuzzyTakesUptoCard

/-- THE SECOND FORM's CARD OF 'glosslaw11.FuzzyMetric'. -/
def fuzzyMetricUptoCard : Claim7 := { stood := { row := fuzzyMetricUptoRow, standIns := [], harness := (true, "25da79a990707c3839985c122fcdc5d5e543b45ffda9ecf62630295ff31e08ad"), looks := false }, kinds := [], alts := [], laidByText := true, laidKinds := [.data, .data, .data], laidTests := true, laidLooks := .later }
def FuzzyMetricUptoCardSaid : Prop := Claim7.holds Tryd.pinned (.plain (OpenSpec.upto fuzzyMetricSpec)) fuzzyMetricUptoCard

/-- THE SECOND FORM's CARD OF 'glosslaw10.WildPrefixes'. -/
def wildPrefixesUptoCard : Claim7 := { stood := { row := wildPrefixesUptoRow, standIns := [], harness := (true, "25da79a990707c3839985c122fcdc5d5e543b45ffda9ecf62630295ff31e08ad"), looks := false }, kinds := [], alts := [], laidByText := true, laidKinds := [.data, .data, .data], laidTests := true, laidLooks := .later }
def WildPrefixesUptoCardSaid : Prop := Claim7.holds Tryd.pinned (.plain (OpenSpec.upto wildPrefixesSpec)) wildPrefixesUptoCard

/-- THE SECOND FORM's CARD OF 'glosslaw10.WildSame'. -/
def wildSameUptoCard : Claim7 := { stood := { row := wildSameUptoRow, standIns := [], harness := (true, "25da79a990707c3839985c122fcdc5d5e543b45ffda9ecf62630295ff31e08ad"), looks := false }, kinds := [], alts := [], laidByText := true, laidKinds := [.data, .data, .data], laidTests := true, laidLooks := .later }
def WildSameUptoCardSaid : Prop := Claim7.holds Tryd.pinned (.plain (OpenSpec.upto wildSameSpec)) wildSameUptoCard
end Rows
end Go.Proofs.YtclahhkcbkpofaaDoor
