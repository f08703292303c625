/-
  DERIVED. GIVEN WITH THE SEED: THE CARDS: each row of YtmeolnpbbhinjaaDoorRows.lean that lists a variable, with what it lists TIED to the program's text (the seventh form; the later family's looks); each row that meets fmt, with fmt's text TOLD by the authors' own Lean function (tested against real Go, not proved from fmt's source: count such statements apart). THE CARD IS WHAT COUNTS. Prove the row's statement (the work); the ties are given (YtmeolnpbbhinjaaDoorTie.lean); close each card by the builder's one call (the guide's Derived/Test/ToyasCard.lean, 'card_holds'). Laid BY PROGRAM, IN A SANDBOX (cutbox-door.mjs). By AI agents, Wed Nov 11 2026. No macro, syntax, notation, axiom, sorry.
-/
import Derived.Test.YtmeolnpbbhinjaaDoorRows
import GoSem.ClaimSeven
namespace Go.Proofs.YtmeolnpbbhinjaaDoor
namespace Rows

/-- THE TIED CARD OF 'lambentlaw23.CodeMore'. -/
def codeMoreCard : Claim7 := { stood := { row := codeMoreRow, standIns := [], harness := (true, "caf7668f9a3429397b3745cb8847bc15d7ae456e8d5212a6f8f0e8337874b680"), looks := false }, kinds := [], alts := [], laidByText := true, laidKinds := [.data, .data, .data], laidTests := true, laidLooks := .later }
def CodeMoreCardSaid : Prop := Claim7.holds Tryd.pinned (.plain (OpenSpec.ofChange codeMoreSpec)) codeMoreCard

/-- THE TIED CARD OF 'lambentlaw23.CodeTexts'. -/
def codeTextsCard : Claim7 := { stood := { row := codeTextsRow, standIns := [], harness := (true, "caf7668f9a3429397b3745cb8847bc15d7ae456e8d5212a6f8f0e8337874b680"), looks := false }, kinds := [], alts := [], laidByText := true, laidKinds := [.data, .data, .data], laidTests := true, laidLooks := .later }
def CodeTextsCardSaid : Prop := Claim7.holds Tryd.pinned (.plain (OpenSpec.ofChange codeTextsSpec)) codeTextsCard

/-- THE SECOND FORM's CARD OF 'lambentlaw23.CodeMore'. -/
def codeMoreUptoCard : Claim7 := { stood := { row := codeMoreUptoRow, standIns := [], harness := (true, "caf7668f9a3429397b3745cb8847bc15d7ae456e8d5212a6f8f0e8337874b680"), looks := false }, kinds := [], alts := [], laidByText := true, laidKinds := [.data, .data, .data], laidTests := true, laidLooks := .later }
def CodeMoreUptoCardSaid : Prop := Claim7.holds Tryd.pinned (.plain (OpenSpec.upto codeMoreSpec)) codeMoreUptoCard

/-- THE SECOND FORM's CARD OF 'lambentlaw23.CodeTexts'. -/
def codeTextsUptoCard : Claim7 := { stood := { row := codeTextsUptoRow, standIns := [], harness := (true, "caf7668f9a3429397b3745cb8847bc15d7ae456e8d5212a6f8f0e8337874b680"), looks := false }, kinds := [], alts := [], laidByText := true, laidKinds := [.data, .data, .data], laidTests := true, laidLooks := .later }
def CodeTextsUptoCardSaid : Prop := Claim7.holds Tryd.pinned (.plain (OpenSpec.upto codeTextsSpec)) codeTextsUptoCard
end Rows
end Go.Proofs.YtmeolnpbbhinjaaDoor
