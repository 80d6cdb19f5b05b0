/-
  DERIVED. GIVEN WITH THE SEED: THE CARDS: each row of YtjfohamkkmopgaaGreatDoorRows.lean that lists a variable, with what it lists TIED to the program's text (the seventh form; the later family's looks); each row that meets fmt, with fmt's text TOLD by the authors' own Lean function (tested against real Go, not proved from fmt's source: count such statements apart). THE CARD IS WHAT COUNTS. Prove the row's statement (the work); the ties are given (YtjfohamkkmopgaaGreatDoorTie.lean); close each card by the builder's one call (the guide's Derived/Test/ToyasCard.lean, 'card_holds'). Laid BY PROGRAM, IN A SANDBOX (cutbox-door.mjs). By AI agents, Wed Nov 11 2026. No macro, syntax, notation, axiom, sorry.
-/
import Derived.Test.YtjfohamkkmopgaaGreatDoorRows
import GoSem.ClaimSeven
namespace Go.Proofs.YtjfohamkkmopgaaGreatDoor
namespace Rows

/-- THE TIED CARD OF 'distafflaw24.PosixSteps'. -/
def posixStepsCard : Claim7 := { stood := { row := posixStepsRow, standIns := [], harness := (true, "885ea682541254fd449e2b7652e30d3aa6181abee4422b20f03434880c1d8857"), looks := true }, kinds := [], alts := [], laidByText := true, laidKinds := [.data, .handle, .pinned], laidTests := true, laidLooks := .later }
def PosixStepsCardSaid : Prop := Claim7.holds Tryz.pinned (.plain (OpenSpec.ofChange posixStepsSpec)) posixStepsCard

/-- THE TIED CARD OF 'distafflaw24.PosixDenied'. -/
def posixDeniedCard : Claim7 := { stood := { row := posixDeniedRow, standIns := [], harness := (true, "885ea682541254fd449e2b7652e30d3aa6181abee4422b20f03434880c1d8857"), looks := true }, kinds := [], alts := [], laidByText := true, laidKinds := [.data, .handle, .pinned], laidTests := true, laidLooks := .later }
def PosixDeniedCardSaid : Prop := Claim7.holds Tryz.pinned (.plain (OpenSpec.ofChange posixDeniedSpec)) posixDeniedCard

/-- THE SECOND FORM's CARD OF 'distafflaw24.PosixSteps'. -/
def posixStepsUptoCard : Claim7 := { stood := { row := posixStepsUptoRow, standIns := [], harness := (true, "885ea682541254fd449e2b7652e30d3aa6181abee4422b20f03434880c1d8857"), looks := true }, kinds := [], alts := [], laidByText := true, laidKinds := [.data, .handle, .pinned], laidTests := true, laidLooks := .later }
def PosixStepsUptoCardSaid : Prop := Claim7.holds Tryz.pinned (.plain (OpenSpec.upto posixStepsSpec)) posixStepsUptoCard

/-- THE SECOND FORM's CARD OF 'distafflaw24.PosixDenied'. -/
def posixDeniedUptoCard : Claim7 := { stood := { row := posixDeniedUptoRow, standIns := [], harness := (true, "885ea682541254fd449e2b7652e30d3aa6181abee4422b20f03434880c1d8857"), looks := true }, kinds := [], alts := [], laidByText := true, laidKinds := [.data, .handle, .pinned], laidTests := true, laidLooks := .later }
def PosixDeniedUptoCardSaid : Prop := Claim7.holds Tryz.pinned (.plain (OpenSpec.upto posixDeniedSpec)) posixDeniedUptoCard
end Rows
end Go.Proofs.YtjfohamkkmopgaaGreatDoor
