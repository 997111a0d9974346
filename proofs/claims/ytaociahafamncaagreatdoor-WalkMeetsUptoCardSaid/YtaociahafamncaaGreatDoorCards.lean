/-
  DERIVED. GIVEN WITH THE SEED: THE CARDS: each row of YtaociahafamncaaGreatDoorRows.lean that lists a variable, with what it lists TIED to the program's text (the seventh form; the later family's looks); each row that meets fmt, with fmt's text TOLD by the authors' own Lean function (tested against real Go, not proved from fmt's source: count such statements apart). THE CARD IS WHAT COUNTS. Prove the row's statement (the work); the ties are given (YtaociahafamncaaGreatDoorTie.lean); close each card by the builder's one call (the guide's Derived/Test/ToyasCard.lean, 'card_holds'). Laid BY PROGRAM, IN A SANDBOX (cutbox-door.mjs). By AI agents, Wed Nov 11 2026. No macro, syntax, notation, axiom, sorry.
-/
import Derived.Test.YtaociahafamncaaGreatDoorRows
import GoSem.ClaimSeven
namespace Go.Proofs.YtaociahafamncaaGreatDoor
namespace Rows

/-- THE TIED CARD OF 'glosslaw13.WalkFrom'. -/
def walkFromCard : Claim7 := { stood := { row := walkFromRow, standIns := [], harness := (true, "92a75ecbd308f2178f80c121f494fd4ddccc2a1c687c18f7e034f5d0051b52b3"), looks := false }, kinds := [], alts := [], laidByText := true, laidKinds := [.data, .data, .data], laidTests := true, laidLooks := .later }
def WalkFromCardSaid : Prop := Claim7.holds Tryz.pinned (.plain (OpenSpec.ofChange walkFromSpec)) walkFromCard

/-- THE TIED CARD OF 'glosslaw13.WalkMatches'. -/
def walkMatchesCard : Claim7 := { stood := { row := walkMatchesRow, standIns := [], harness := (true, "92a75ecbd308f2178f80c121f494fd4ddccc2a1c687c18f7e034f5d0051b52b3"), looks := false }, kinds := [], alts := [], laidByText := true, laidKinds := [.data, .data, .data], laidTests := true, laidLooks := .later }
def WalkMatchesCardSaid : Prop := Claim7.holds Tryz.pinned (.plain (OpenSpec.ofChange walkMatchesSpec)) walkMatchesCard

/-- THE TIED CARD OF 'glosslaw13.WalkNil'. -/
def walkNilCard : Claim7 := { stood := { row := walkNilRow, standIns := [], harness := (true, "92a75ecbd308f2178f80c121f494fd4ddccc2a1c687c18f7e034f5d0051b52b3"), looks := false }, kinds := [], alts := [], laidByText := true, laidKinds := [.data, .data, .data], laidTests := true, laidLooks := .later }
def WalkNilCardSaid : Prop := Claim7.holds Tryz.pinned (.plain (OpenSpec.ofChange walkNilSpec)) walkNilCard

/-- THE TIED CARD OF 'glosslaw13.WalkMeets'. -/
def walkMeetsCard : Claim7 := { stood := { row := walkMeetsRow, standIns := [], harness := (true, "92a75ecbd308f2178f80c121f494fd4ddccc2a1c687c18f7e034f5d0051b52b3"), looks := false }, kinds := [], alts := [], laidByText := true, laidKinds := [.data, .data, .data], laidTests := true, laidLooks := .later }
def WalkMeetsCardSaid : Prop := Claim7.holds Tryz.pinned (.plain (OpenSpec.ofChange walkMeetsSpec)) walkMeetsCard

/-- THE SECOND FORM's CARD OF 'glosslaw13.WalkFrom'. -/
def walkFromUptoCard : Claim7 := { stood := { row := walkFromUptoRow, standIns := [], harness := (true, "92a75ecbd308f2178f80c121f494fd4ddccc2a1c687c18f7e034f5d0051b52b3"), looks := false }, kinds := [], alts := [], laidByText := true, laidKinds := [.data, .data, .data], laidTests := true, laidLooks := .later }
def WalkFromUptoCardSaid : Prop := Claim7.holds Tryz.pinned (.plain (OpenSpec.upto walkFromSpec)) walkFromUptoCard

/-- THE SECOND FORM's CARD OF 'glosslaw13.WalkMatches'. -/
def walkMatchesUptoCard : Claim7 := { stood := { row := walkMatchesUptoRow, standIns := [], harness := (true, "92a75ecbd308f2178f80c121f494fd4ddccc2a1c687c18f7e034f5d0051b52b3"), looks := false }, kinds := [], alts := [], laidByText := true, laidKinds := [.data, .data, .data], laidTests := true, laidLooks := .later }
def WalkMatchesUptoCardSaid : Prop := Claim7.holds Tryz.pinned (.plain (OpenSpec.upto walkMatchesSpec)) walkMatchesUptoCard

/-- THE SECOND FORM's CARD OF 'glosslaw13.WalkNil'. -/
def walkNilUptoCard : Claim7 := { stood := { row := walkNilUptoRow, standIns := [], harness := (true, "92a75ecbd308f2178f80c121f494fd4ddccc2a1c687c18f7e034f5d0051b52b3"), looks := false }, kinds := [], alts := [], laidByText := true, laidKinds := [.data, .data, .data], laidTests := true, laidLooks := .later }
def WalkNilUptoCardSaid : Prop := Claim7.holds Tryz.pinned (.plain (OpenSpec.upto walkNilSpec)) walkNilUptoCard

/-- THE SECOND FORM's CARD OF 'glosslaw13.WalkMeets'. -/
def walkMeetsUptoCard : Claim7 := { stood := { row := walkMeetsUptoRow, standIns := [], harness := (true, "92a75ecbd308f2178f80c121f494fd4ddccc2a1c687c18f7e034f5d0051b52b3"), looks := false }, kinds := [], alts := [], laidByText := true, laidKinds := [.data, .data, .data], laidTests := true, laidLooks := .later }
def WalkMeetsUptoCardSaid : Prop := Claim7.holds Tryz.pinned (.plain (OpenSpec.upto walkMeetsSpec)) walkMeetsUptoCard
end Rows
end Go.Proofs.YtaociahafamncaaGreatDoor
