/-
  DERIVED. GIVEN WITH THE SEED: THE CARDS: each row of YtjacmplknlploaaGreatDoorRows.lean that lists a variable, with what it lists TIED to the program's text (the seventh form; the later family's looks); each row that meets fmt, with fmt's text TOLD by the authors' own Lean function (tested against real Go, not proved from fmt's source: count such statements apart). THE CARD IS WHAT COUNTS. Prove the row's statement (the work); the ties are given (YtjacmplknlploaaGreatDoorTie.lean); close each card by the builder's one call (the guide's Derived/Test/ToyasCard.lean, 'card_holds'). Laid BY PROGRAM, IN A SANDBOX (cutbox-door.mjs). By AI agents, Wed Nov 11 2026. No macro, syntax, notation, axiom, sorry.
-/
import Derived.Test.YtjacmplknlploaaGreatDoorRows
import GoSem.ClaimSeven
namespace Go.Proofs.YtjacmplknlploaaGreatDoor
namespace Rows

/-- THE TIED CARD OF 'replevinlaw42.ShellValues'. -/
def shellValuesCard : Claim7 := { stood := { row := shellValuesRow, standIns := [], harness := (true, "8a8b05eb09fdeacfcd259d33a4abd71203d9473dbf768fda2e108768975d64a7"), looks := false }, kinds := [], alts := [], laidByText := true, laidKinds := [.data, .data, .data, .data, .data], laidTests := true, laidLooks := .later }
def ShellValuesCardSaid : Prop := Claim7.holds Tryz.pinned (.plain (OpenSpec.ofChange shellValuesSpec)) shellValuesCard

/-- THE TIED CARD OF 'replevinlaw42.ShellDecodes'. -/
def shellDecodesCard : Claim7 := { stood := { row := shellDecodesRow, standIns := [], harness := (true, "8a8b05eb09fdeacfcd259d33a4abd71203d9473dbf768fda2e108768975d64a7"), looks := false }, kinds := [], alts := [], laidByText := true, laidKinds := [.data, .data, .data, .data, .data], laidTests := true, laidLooks := .later }
def ShellDecodesCardSaid : Prop := Claim7.holds Tryz.pinned (.plain (OpenSpec.ofChange shellDecodesSpec)) shellDecodesCard

/-- THE SECOND FORM's CARD OF 'replevinlaw42.ShellValues'. -/
def shellValuesUptoCard : Claim7 := { stood := { row := shellValuesUptoRow, standIns := [], harness := (true, "8a8b05eb09fdeacfcd259d33a4abd71203d9473dbf768fda2e108768975d64a7"), looks := false }, kinds := [], alts := [], laidByText := true, laidKinds := [.data, .data, .data, .data, .data], laidTests := true, laidLooks := .later }
def ShellValuesUptoCardSaid : Prop := Claim7.holds Tryz.pinned (.plain (OpenSpec.upto shellValuesSpec)) shellValuesUptoCard

/-- THE SECOND FORM's CARD OF 'replevinlaw42.ShellDecodes'. -/
def shellDecodesUptoCard : Claim7 := { stood := { row := shellDecodesUptoRow, standIns := [], harness := (true, "8a8b05eb09fdeacfcd259d33a4abd71203d9473dbf768fda2e108768975d64a7"), looks := false }, kinds := [], alts := [], laidByText := true, laidKinds := [.data, .data, .data, .data, .data], laidTests := true, laidLooks := .later }
def ShellDecodesUptoCardSaid : Prop := Claim7.holds Tryz.pinned (.plain (OpenSpec.upto shellDecodesSpec)) shellDecodesUptoCard
end Rows
end Go.Proofs.YtjacmplknlploaaGreatDoor
