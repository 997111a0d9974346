/-
  DERIVED. GIVEN WITH THE SEED: THE CARDS: each row of YtkhemhiifhggmaaGreatDoorRows.lean that lists a variable, with what it lists TIED to the program's text (the seventh form; the later family's looks); each row that meets fmt, with fmt's text TOLD by the authors' own Lean function (tested against real Go, not proved from fmt's source: count such statements apart). THE CARD IS WHAT COUNTS. Prove the row's statement (the work); the ties are given (YtkhemhiifhggmaaGreatDoorTie.lean); close each card by the builder's one call (the guide's Derived/Test/ToyasCard.lean, 'card_holds'). Laid BY PROGRAM, IN A SANDBOX (cutbox-door.mjs). By AI agents, Wed Nov 11 2026. No macro, syntax, notation, axiom, sorry.
-/
import Derived.Test.YtkhemhiifhggmaaGreatDoorRows
import GoSem.ClaimSeven
namespace Go.Proofs.YtkhemhiifhggmaaGreatDoor
namespace Rows

/-- THE TIED CARD OF 'glosslaw20.PointTexts'. -/
def pointTextsCard : Claim7 := { stood := { row := pointTextsRow, standIns := [], harness := (true, "0dcfb61c0d7a8b0d87a7612ad7fdcb573471b747eaccba3ac7bb69ffbe1d696f"), looks := true }, kinds := [], alts := [], laidByText := true, laidKinds := [.data, .data, .data, .sentinel, .sentinel], laidTests := true, laidLooks := .later }
def PointTextsCardSaid : Prop := Claim7.holds Tryz.pinned (.plain (OpenSpec.ofChange pointTextsSpec)) pointTextsCard

/-- THE TIED CARD OF 'glosslaw20.PointReads'. -/
def pointReadsCard : Claim7 := { stood := { row := pointReadsRow, standIns := [], harness := (true, "0dcfb61c0d7a8b0d87a7612ad7fdcb573471b747eaccba3ac7bb69ffbe1d696f"), looks := true }, kinds := [], alts := [], laidByText := true, laidKinds := [.data, .data, .data, .sentinel, .sentinel], laidTests := true, laidLooks := .later }
def PointReadsCardSaid : Prop := Claim7.holds Tryz.pinned (.plain (OpenSpec.ofChange pointReadsSpec)) pointReadsCard

/-- THE TIED CARD OF 'glosslaw20.PointSwaps'. -/
def pointSwapsCard : Claim7 := { stood := { row := pointSwapsRow, standIns := [], harness := (true, "0dcfb61c0d7a8b0d87a7612ad7fdcb573471b747eaccba3ac7bb69ffbe1d696f"), looks := true }, kinds := [], alts := [], laidByText := true, laidKinds := [.data, .data, .data, .sentinel, .sentinel], laidTests := true, laidLooks := .later }
def PointSwapsCardSaid : Prop := Claim7.holds Tryz.pinned (.plain (OpenSpec.ofChange pointSwapsSpec)) pointSwapsCard

/-- THE TIED CARD OF 'glosslaw20.PointCleans'. -/
def pointCleansCard : Claim7 := { stood := { row := pointCleansRow, standIns := [], harness := (true, "0dcfb61c0d7a8b0d87a7612ad7fdcb573471b747eaccba3ac7bb69ffbe1d696f"), looks := true }, kinds := [], alts := [], laidByText := true, laidKinds := [.data, .data, .data, .sentinel, .sentinel], laidTests := true, laidLooks := .later }
def PointCleansCardSaid : Prop := Claim7.holds Tryz.pinned (.plain (OpenSpec.ofChange pointCleansSpec)) pointCleansCard

/-- THE SECOND FORM's CARD OF 'glosslaw20.PointTexts'. -/
def pointTextsUptoCard : Claim7 := { stood := { row := pointTextsUptoRow, standIns := [], harness := (true, "0dcfb61c0d7a8b0d87a7612ad7fdcb573471b747eaccba3ac7bb69ffbe1d696f"), looks := true }, kinds := [], alts := [], laidByText := true, laidKinds := [.data, .data, .data, .sentinel, .sentinel], laidTests := true, laidLooks := .later }
def PointTextsUptoCardSaid : Prop := Claim7.holds Tryz.pinned (.plain (OpenSpec.upto pointTextsSpec)) pointTextsUptoCard

/-- THE SECOND FORM's CARD OF 'glosslaw20.PointReads'. -/
def pointReadsUptoCard : Claim7 := { stood := { row := pointReadsUptoRow, standIns := [], harness := (true, "0dcfb61c0d7a8b0d87a7612ad7fdcb573471b747eaccba3ac7bb69ffbe1d696f"), looks := true }, kinds := [], alts := [], laidByText := true, laidKinds := [.data, .data, .data, .sentinel, .sentinel], laidTests := true, laidLooks := .later }
def PointReadsUptoCardSaid : Prop := Claim7.holds Tryz.pinned (.plain (OpenSpec.upto pointReadsSpec)) pointReadsUptoCard

/-- THE SECOND FORM's CARD OF 'glosslaw20.PointSwaps'. -/
def pointSwapsUptoCard : Claim7 := { stood := { row := pointSwapsUptoRow, standIns := [], harness := (true, "0dcfb61c0d7a8b0d87a7612ad7fdcb573471b747eaccba3ac7bb69ffbe1d696f"), looks := true }, kinds := [], alts := [], laidByText := true, laidKinds := [.data, .data, .data, .sentinel, .sentinel], laidTests := true, laidLooks := .later }
def PointSwapsUptoCardSaid : Prop := Claim7.holds Tryz.pinned (.plain (OpenSpec.upto pointSwapsSpec)) pointSwapsUptoCard

/-- THE SECOND FORM's CARD OF 'glosslaw20.PointCleans'. -/
def pointCleansUptoCard : Claim7 := { stood := { row := pointCleansUptoRow, standIns := [], harness := (true, "0dcfb61c0d7a8b0d87a7612ad7fdcb573471b747eaccba3ac7bb69ffbe1d696f"), looks := true }, kinds := [], alts := [], laidByText := true, laidKinds := [.data, .data, .data, .sentinel, .sentinel], laidTests := true, laidLooks := .later }
def PointCleansUptoCardSaid : Prop := Claim7.holds Tryz.pinned (.plain (OpenSpec.upto pointCleansSpec)) pointCleansUptoCard
end Rows
end Go.Proofs.YtkhemhiifhggmaaGreatDoor
