/-
  DERIVED. GIVEN WITH THE SEED: THE CARDS: each row of YtcfmeiejfofgpaaGreatDoorRows.lean that lists a variable, with what it lists TIED to the program's text (the seventh form; the later family's looks); each row that meets fmt, with fmt's text TOLD by the authors' own Lean function (tested against real Go, not proved from fmt's source: count such statements apart). THE CARD IS WHAT COUNTS. Prove the row's statement (the work); the ties are given (YtcfmeiejfofgpaaGreatDoorTie.lean); close each card by the builder's one call (the guide's Derived/Test/ToyasCard.lean, 'card_holds'). Laid BY PROGRAM, IN A SANDBOX (cutbox-door.mjs). By AI agents, Wed Nov 11 2026. No macro, syntax, notation, axiom, sorry.
-/
import Derived.Test.YtcfmeiejfofgpaaGreatDoorRows
import GoSem.ClaimSeven
namespace Go.Proofs.YtcfmeiejfofgpaaGreatDoor
namespace Rows

/-- THE TIED CARD OF 'distafflaw24.PosixLib'. -/
def posixLibCard : Claim7 := { stood := { row := posixLibRow, standIns := [], harness := (true, "878e648fabbdd7fdd6b02ebc63183802ef4328e2de95cd92eae45ed92711e41f"), looks := true }, kinds := [], alts := [], laidByText := true, laidKinds := [.data, .handle, .pinned], laidTests := true, laidLooks := .later }
def PosixLibCardSaid : Prop := Claim7.holds Tryz.pinned (.plain (OpenSpec.ofChange posixLibSpec)) posixLibCard

/-- THE SECOND FORM's CARD OF 'distafflaw24.PosixLib'. -/
def posixLibUptoCard : Claim7 := { stood := { row := posixLibUptoRow, standIns := [], harness := (true, "878e648fabbdd7fdd6b02ebc63183802ef4328e2de95cd92eae45ed92711e41f"), looks := true }, kinds := [], alts := [], laidByText := true, laidKinds := [.data, .handle, .pinned], laidTests := true, laidLooks := .later }
def PosixLibUptoCardSaid : Prop := Claim7.holds Tryz.pinned (.plain (OpenSpec.upto posixLibSpec)) posixLibUptoCard
end Rows
end Go.Proofs.YtcfmeiejfofgpaaGreatDoor
