/-
  DERIVED. GIVEN WITH THE SEED: THE CARDS: each row of YtmeolnpbbhinjaaGreatDoorRows.lean that lists a variable, with what it lists TIED to the program's text (the seventh form; the later family's looks); each row that meets fmt, with fmt's text TOLD by the authors' own Lean function (tested against real Go, not proved from fmt's source: count such statements apart). THE CARD IS WHAT COUNTS. Prove the row's statement (the work); the ties are given (YtmeolnpbbhinjaaGreatDoorTie.lean); close each card by the builder's one call (the guide's Derived/Test/ToyasCard.lean, 'card_holds'). Laid BY PROGRAM, IN A SANDBOX (cutbox-door.mjs). By AI agents, Wed Nov 11 2026. No macro, syntax, notation, axiom, sorry.
-/
import Derived.Test.YtmeolnpbbhinjaaGreatDoorRows
import GoSem.ClaimSeven
namespace Go.Proofs.YtmeolnpbbhinjaaGreatDoor
namespace Rows

/-- THE TIED CARD OF 'lambentlaw23.CodeValid'. -/
def codeValidCard : Claim7 := { stood := { row := codeValidRow, standIns := [], harness := (true, "e894702f184a8a6ce9833f3fef5a57067015471f33db47b54b77e5956b6313cf"), looks := false }, kinds := [], alts := [], laidByText := true, laidKinds := [.data, .data, .data], laidTests := true, laidLooks := .later }
def CodeValidCardSaid : Prop := Claim7.holds Tryz.pinned (.plain (OpenSpec.ofChange codeValidSpec)) codeValidCard

/-- THE SECOND FORM's CARD OF 'lambentlaw23.CodeValid'. -/
def codeValidUptoCard : Claim7 := { stood := { row := codeValidUptoRow, standIns := [], harness := (true, "e894702f184a8a6ce9833f3fef5a57067015471f33db47b54b77e5956b6313cf"), looks := false }, kinds := [], alts := [], laidByText := true, laidKinds := [.data, .data, .data], laidTests := true, laidLooks := .later }
def CodeValidUptoCardSaid : Prop := Claim7.holds Tryz.pinned (.plain (OpenSpec.upto codeValidSpec)) codeValidUptoCard
end Rows
end Go.Proofs.YtmeolnpbbhinjaaGreatDoor
