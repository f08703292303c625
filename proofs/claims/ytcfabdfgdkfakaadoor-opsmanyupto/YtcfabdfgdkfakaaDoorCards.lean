/-
  DERIVED. GIVEN WITH THE SEED: THE CARDS: each row of YtcfabdfgdkfakaaDoorRows.lean that lists a variable, with what it lists TIED to the program's text (the seventh form; the later family's looks); each row that meets fmt, with fmt's text TOLD by the authors' own Lean function (tested against real Go, not proved from fmt's source: count such statements apart). THE CARD IS WHAT COUNTS. Prove the row's statement (the work); the ties are given (YtcfabdfgdkfakaaDoorTie.lean); close each card by the builder's one call (the guide's Derived/Test/ToyasCard.lean, 'card_holds'). Laid BY PROGRAM, IN A SANDBOX (cutbox-door.mjs). By AI agents, Wed Nov 11 2026. No macro, syntax, notation, axiom, sorry.
-/
import Derived.Test.YtcfabdfgdkfakaaDoorRows
import GoSem.ClaimSeven
namespace Go.Proofs.YtcfabdfgdkfakaaDoor
namespace Rows

/-- THE TIED CARD OF 'lambentlaw02.OpsBinds'. -/
def opsBindsCard : Claim7 := { stood := { row := opsBindsRow, standIns := [], harness := (true, "77838cb64c63ed010bbd01b009652c8b18b9f11757d70b74c03f9330acb274ba"), looks := false }, kinds := [], alts := [], laidByText := true, laidKinds := [.data, .data, .data], laidTests := true, laidLooks := .later }
def OpsBindsCardSaid : Prop := Claim7.holds Tryd.pinned (.plain (OpenSpec.ofChange opsBindsSpec)) opsBindsCard

/-- THE TIED CARD OF 'lambentlaw02.OpsSides'. -/
def opsSidesCard : Claim7 := { stood := { row := opsSidesRow, standIns := [], harness := (true, "77838cb64c63ed010bbd01b009652c8b18b9f11757d70b74c03f9330acb274ba"), looks := false }, kinds := [], alts := [], laidByText := true, laidKinds := [.data, .data, .data], laidTests := true, laidLooks := .later }
def OpsSidesCardSaid : Prop := Claim7.holds Tryd.pinned (.plain (OpenSpec.ofChange opsSidesSpec)) opsSidesCard

/-- THE TIED CARD OF 'lambentlaw02.OpsKeeps'. -/
def opsKeepsCard : Claim7 := { stood := { row := opsKeepsRow, standIns := [], harness := (true, "77838cb64c63ed010bbd01b009652c8b18b9f11757d70b74c03f9330acb274ba"), looks := false }, kinds := [], alts := [], laidByText := true, laidKinds := [.data, .data, .data], laidTests := true, laidLooks := .later }
def OpsKeepsCardSaid : Prop := Claim7.holds Tryd.pinned (.plain (OpenSpec.ofChange opsKeepsSpec)) opsKeepsCard

/-- THE TIED CARD OF 'lambentlaw02.OpsMany'. -/
def opsManyCard : Claim7 := { stood := { row := opsManyRow, standIns := [], harness := (true, "77838cb64c63ed010bbd01b009652c8b18b9f11757d70b74c03f9330acb274ba"), looks := false }, kinds := [], alts := [], laidByText := true, laidKinds := [.data, .data, .data], laidTests := true, laidLooks := .later }
def OpsManyCardSaid : Prop := Claim7.holds Tryd.pinned (.plain (OpenSpec.ofChange opsManySpec)) opsManyCard

/-- THE TIED CARD OF 'lambentlaw02.OpsOrder'. -/
def opsOrderCard : Claim7 := { stood := { row := opsOrderRow, standIns := [], harness := (true, "77838cb64c63ed010bbd01b009652c8b18b9f11757d70b74c03f9330acb274ba"), looks := false }, kinds := [], alts := [], laidByText := true, laidKinds := [.data, .data, .data], laidTests := true, laidLooks := .later }
def OpsOrderCardSaid : Prop := Claim7.holds Tryd.pinned (.plain (OpenSpec.ofChange opsOrderSpec)) opsOrderCard

/-- THE TIED CARD OF 'lambentlaw02.OpsDeclares'. -/
def opsDeclaresCard : Claim7 := { stood := { row := opsDeclaresRow, standIns := [], harness := (true, "77838cb64c63ed010bbd01b009652c8b18b9f11757d70b74c03f9330acb274ba"), looks := false }, kinds := [], alts := [], laidByText := true, laidKinds := [.data, .data, .data], laidTests := true, laidLooks := .later }
def OpsDeclaresCardSaid : Prop := Claim7.holds Tryd.pinned (.plain (OpenSpec.ofChange opsDeclaresSpec)) opsDeclaresCard

/-- THE SECOND FORM's CARD OF 'lambentlaw02.OpsBinds'. -/
def opsBindsUptoCard : Claim7 := { stood := { row := opsBindsUptoRow, standIns := [], harness := (true, "77838cb64c63ed010bbd01b009652c8b18b9f11757d70b74c03f9330acb274ba"), looks := false }, kinds := [], alts := [], laidByText := true, laidKinds := [.data, .data, .data], laidTests := true, laidLooks := .later }
def OpsBindsUptoCardSaid : Prop := Claim7.holds Tryd.pinned (.plain (OpenSpec.upto opsBindsSpec)) opsBindsUptoCard

/-- THE SECOND FORM's CARD OF 'lambentlaw02.OpsSides'. -/
def opsSidesUptoCard : Claim7 := { stood := { row := opsSidesUptoRow, standIns := [], harness := (true, "77838cb64c63ed010bbd01b009652c8b18b9f11757d70b74c03f9330acb274ba"), looks := false }, kinds := [], alts := [], laidByText := true, laidKinds := [.data, .data, .data], laidTests := true, laidLooks := .later }
def OpsSidesUptoCardSaid : Prop := Claim7.holds Tryd.pinned (.plain (OpenSpec.upto opsSidesSpec)) opsSidesUptoCard

/-- THE SECOND FORM's CARD OF 'lambentlaw02.OpsKeeps'. -/
def opsKeepsUptoCard : Claim7 := { stood := { row := opsKeepsUptoRow, standIns := [], harness := (true, "77838cb64c63ed010bbd01b009652c8b18b9f11757d70b74c03f9330acb274ba"), looks := false }, kinds := [], alts := [], laidByText := true, laidKinds := [.data, .data, .data], laidTests := true, laidLooks := .later }
def OpsKeepsUptoCardSaid : Prop := Claim7.holds Tryd.pinned (.plain (OpenSpec.upto opsKeepsSpec)) opsKeepsUptoCard

/-- THE SECOND FORM's CARD OF 'lambentlaw02.OpsMany'. -/
def opsManyUptoCard : Claim7 := { stood := { row := opsManyUptoRow, standIns := [], harness := (true, "77838cb64c63ed010bbd01b009652c8b18b9f11757d70b74c03f9330acb274ba"), looks := false }, kinds := [], alts := [], laidByText := true, laidKinds := [.data, .data, .data], laidTests := true, laidLooks := .later }
def OpsManyUptoCardSaid : Prop := Claim7.holds Tryd.pinned (.plain (OpenSpec.upto opsManySpec)) opsManyUptoCard

/-- THE SECOND FORM's CARD OF 'lambentlaw02.OpsOrder'. -/
def opsOrderUptoCard : Claim7 := { stood := { row := opsOrderUptoRow, standIns := [], harness := (true, "77838cb64c63ed010bbd01b009652c8b18b9f11757d70b74c03f9330acb274ba"), looks := false }, kinds := [], alts := [], laidByText := true, laidKinds := [.data, .data, .data], laidTests := true, laidLooks := .later }
def OpsOrderUptoCardSaid : Prop := Claim7.holds Tryd.pinned (.plain (OpenSpec.upto opsOrderSpec)) opsOrderUptoCard

/-- THE SECOND FORM's CARD OF 'lambentlaw02.OpsDeclares'. -/
def opsDeclaresUptoCard : Claim7 := { stood := { row := opsDeclaresUptoRow, standIns := [], harness := (true, "77838cb64c63ed010bbd01b009652c8b18b9f11757d70b74c03f9330acb274ba"), looks := false }, kinds := [], alts := [], laidByText := true, laidKinds := [.data, .data, .data], laidTests := true, laidLooks := .later }
def OpsDeclaresUptoCardSaid : Prop := Claim7.holds Tryd.pinned (.plain (OpenSpec.upto opsDeclaresSpec)) opsDeclaresUptoCard
end Rows
end Go.Proofs.YtcfabdfgdkfakaaDoor
