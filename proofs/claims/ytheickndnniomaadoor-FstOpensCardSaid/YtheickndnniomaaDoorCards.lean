/-
  DERIVED. GIVEN WITH THE SEED: THE CARDS: each row of YtheickndnniomaaDoorRows.lean that lists a variable, with what it lists TIED to the program's text (the seventh form; the later family's looks); each row that meets fmt, with fmt's text TOLD by the authors' own Lean function (tested against real Go, not proved from fmt's source: count such statements apart). THE CARD IS WHAT COUNTS. Prove the row's statement (the work); the ties are given (YtheickndnniomaaDoorTie.lean); close each card by the builder's one call (the guide's Derived/Test/ToyasCard.lean, 'card_holds'). Laid BY PROGRAM, IN A SANDBOX (cutbox-door.mjs). By AI agents, Wed Nov 11 2026. No macro, syntax, notation, axiom, sorry.
-/
import Derived.Test.YtheickndnniomaaDoorRows
import GoSem.ClaimSeven
namespace Go.Proofs.YtheickndnniomaaDoor
namespace Rows

/-- THE TIED CARD OF 'glosslaw12.FstBuilds'. -/
def fstBuildsCard : Claim7 := { stood := { row := fstBuildsRow, standIns := [], harness := (true, "7702f97e3036424b034a4aeb3f86c5b71c034540ee837e0d42ae20fe8d458efe"), looks := false }, kinds := [], alts := [], laidByText := true, laidKinds := [.data, .data, .data], laidTests := true, laidLooks := .later }
def FstBuildsCardSaid : Prop := Claim7.holds Tryd.pinned (.plain (OpenSpec.ofChange fstBuildsSpec)) fstBuildsCard

/-- THE TIED CARD OF 'glosslaw12.FstOpens'. -/
def fstOpensCard : Claim7 := { stood := { row := fstOpensRow, standIns := [], harness := (true, "7702f97e3036424b034a4aeb3f86c5b71c034540ee837e0d42ae20fe8d458efe"), looks := false }, kinds := [], alts := [], laidByText := true, laidKinds := [.data, .data, .data], laidTests := true, laidLooks := .later }
def FstOpensCardSaid : Prop := Claim7.holds Tryd.pinned (.plain (OpenSpec.ofChange fstOpensSpec)) fstOpensCard

/-- THE TIED CARD OF 'glosslaw12.FstGets'. -/
def fstGetsCard : Claim7 := { stood := { row := fstGetsRow, standIns := [], harness := (true, "7702f97e3036424b034a4aeb3f86c5b71c034540ee837e0d42ae20fe8d458efe"), looks := false }, kinds := [], alts := [], laidByText := true, laidKinds := [.data, .data, .data], laidTests := true, laidLooks := .later }
def FstGetsCardSaid : Prop := Claim7.holds Tryd.pinned (.plain (OpenSpec.ofChange fstGetsSpec)) fstGetsCard

/-- THE TIED CARD OF 'glosslaw12.FstLeast'. -/
def fstLeastCard : Claim7 := { stood := { row := fstLeastRow, standIns := [], harness := (true, "7702f97e3036424b034a4aeb3f86c5b71c034540ee837e0d42ae20fe8d458efe"), looks := false }, kinds := [], alts := [], laidByText := true, laidKinds := [.data, .data, .data], laidTests := true, laidLooks := .later }
def FstLeastCardSaid : Prop := Claim7.holds Tryd.pinned (.plain (OpenSpec.ofChange fstLeastSpec)) fstLeastCard

/-- THE TIED CARD OF 'glosslaw12.FstNil'. -/
def fstNilCard : Claim7 := { stood := { row := fstNilRow, standIns := [], harness := (true, "7702f97e3036424b034a4aeb3f86c5b71c034540ee837e0d42ae20fe8d458efe"), looks := false }, kinds := [], alts := [], laidByText := true, laidKinds := [.data, .data, .data], laidTests := true, laidLooks := .later }
def FstNilCardSaid : Prop := Claim7.holds Tryd.pinned (.plain (OpenSpec.ofChange fstNilSpec)) fstNilCard

/-- THE SECOND FORM's CARD OF 'glosslaw12.FstBuilds'. -/
def fstBuildsUptoCard : Claim7 := { stood := { row := fstBuildsUptoRow, standIns := [], harness := (true, "7702f97e3036424b034a4aeb3f86c5b71c034540ee837e0d42ae20fe8d458efe"), looks := false }, kinds := [], alts := [], laidByText := true, laidKinds := [.data, .data, .data], laidTests := true, laidLooks := .later }
def FstBuildsUptoCardSaid : Prop := Claim7.holds Tryd.pinned (.plain (OpenSpec.upto fstBuildsSpec)) fstBuildsUptoCard

/-- THE SECOND FORM's CARD OF 'glosslaw12.FstOpens'. -/
def fstOpensUptoCard : Claim7 := { stood := { row := fstOpensUptoRow, standIns := [], harness := (true, "7702f97e3036424b034a4aeb3f86c5b71c034540ee837e0d42ae20fe8d458efe"), looks := false }, kinds := [], alts := [], laidByText := true, laidKinds := [.data, .data, .data], laidTests := true, laidLooks := .later }
def FstOpensUptoCardSaid : Prop := Claim7.holds Tryd.pinned (.plain (OpenSpec.upto fstOpensSpec)) fstOpensUptoCard

/-- THE SECOND FORM's CARD OF 'glosslaw12.FstGets'. -/
def fstGetsUptoCard : Claim7 := { stood := { row := fstGetsUptoRow, standIns := [], harness := (true, "7702f97e3036424b034a4aeb3f86c5b71c034540ee837e0d42ae20fe8d458efe"), looks := false }, kinds := [], alts := [], laidByText := true, laidKinds := [.data, .data, .data], laidTests := true, laidLooks := .later }
def FstGetsUptoCardSaid : Prop := Claim7.holds Tryd.pinned (.plain (OpenSpec.upto fstGetsSpec)) fstGetsUptoCard

/-- THE SECOND FORM's CARD OF 'glosslaw12.FstLeast'. -/
def fstLeastUptoCard : Claim7 := { stood := { row := fstLeastUptoRow, standIns := [], harness := (true, "7702f97e3036424b034a4aeb3f86c5b71c034540ee837e0d42ae20fe8d458efe"), looks := false }, kinds := [], alts := [], laidByText := true, laidKinds := [.data, .data, .data], laidTests := true, laidLooks := .later }
def FstLeastUptoCardSaid : Prop := Claim7.holds Tryd.pinned (.plain (OpenSpec.upto fstLeastSpec)) fstLeastUptoCard

/-- THE SECOND FORM's CARD OF 'glosslaw12.FstNil'. -/
def fstNilUptoCard : Claim7 := { stood := { row := fstNilUptoRow, standIns := [], harness := (true, "7702f97e3036424b034a4aeb3f86c5b71c034540ee837e0d42ae20fe8d458efe"), looks := false }, kinds := [], alts := [], laidByText := true, laidKinds := [.data, .data, .data], laidTests := true, laidLooks := .later }
def FstNilUptoCardSaid : Prop := Claim7.holds Tryd.pinned (.plain (OpenSpec.upto fstNilSpec)) fstNilUptoCard
end Rows
end Go.Proofs.YtheickndnniomaaDoor
