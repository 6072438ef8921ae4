/-
  DERIVED. GIVEN WITH THE SEED: THE CARDS: each row of YtkjonfojileipaaGreatDoorRows.lean that lists a variable, with what it lists TIED to the program's text (the seventh form; the later family's looks); each row that meets fmt, with fmt's text TOLD by the authors' own Lean function (tested against real Go, not proved from fmt's source: count such statements apart). THE CARD IS WHAT COUNTS. Prove the row's statement (the work); the ties are given (YtkjonfojileipaaGreatDoorTie.lean); close each card by the builder's one call (the guide's Derived/Test/ToyasCard.lean, 'card_holds'). Laid BY PROGRAM, IN A SANDBOX (cutbox-door.mjs). By AI agents, Wed Nov 11 2026. No macro, syntax, notation, axiom, sorry.
-/
import Derived.Test.YtkjonfojileipaaGreatDoorRows
import GoSem.ClaimSeven
namespace Go.Proofs.YtkjonfojileipaaGreatDoor
namespace Rows

/-- THE TIED CARD OF 'laws.FnExactSourceOk'. -/
def fnExactSourceOkCard : Claim7 := { stood := { row := fnExactSourceOkRow, standIns := [], harness := (true, "b0aa64dfdf255a4749e818db227e157974c3e46e414db1e962f83f44b62ab4e4"), looks := false }, kinds := [], alts := [], laidByText := true, laidKinds := [.data, .data, .data, .listed, .data], laidTests := true, laidLooks := .later }
def FnExactSourceOkCardSaid : Prop := Claim7.holds Tryz.pinned (.plain (OpenSpec.ofChange fnExactSourceOkSpec)) fnExactSourceOkCard

/-- THE TIED CARD OF 'laws.FnExactNamesOk'. -/
def fnExactNamesOkCard : Claim7 := { stood := { row := fnExactNamesOkRow, standIns := [], harness := (true, "b0aa64dfdf255a4749e818db227e157974c3e46e414db1e962f83f44b62ab4e4"), looks := false }, kinds := [], alts := [], laidByText := true, laidKinds := [.data, .data, .data, .listed, .data], laidTests := true, laidLooks := .later }
def FnExactNamesOkCardSaid : Prop := Claim7.holds Tryz.pinned (.plain (OpenSpec.ofChange fnExactNamesOkSpec)) fnExactNamesOkCard

/-- THE TIED CARD OF 'laws.FnExactPrint'. -/
def fnExactPrintCard : Claim7 := { stood := { row := fnExactPrintRow, standIns := [], harness := (true, "b0aa64dfdf255a4749e818db227e157974c3e46e414db1e962f83f44b62ab4e4"), looks := false }, kinds := [], alts := [], laidByText := true, laidKinds := [.data, .data, .data, .listed, .data], laidTests := true, laidLooks := .later }
def FnExactPrintCardSaid : Prop := Claim7.holds Tryz.pinned (.plain (OpenSpec.ofChange fnExactPrintSpec)) fnExactPrintCard

/-- THE TIED CARD OF 'laws.FnNodes'. -/
def fnNodesCard : Claim7 := { stood := { row := fnNodesRow, standIns := [], harness := (true, "b0aa64dfdf255a4749e818db227e157974c3e46e414db1e962f83f44b62ab4e4"), looks := false }, kinds := [], alts := [], laidByText := true, laidKinds := [.data, .data, .data, .listed, .data], laidTests := true, laidLooks := .later }
def FnNodesCardSaid : Prop := Claim7.holds Tryz.pinned (.plain (OpenSpec.ofChange fnNodesSpec)) fnNodesCard

/-- THE TIED CARD OF 'laws.FnExactArmsOk'. -/
def fnExactArmsOkCard : Claim7 := { stood := { row := fnExactArmsOkRow, standIns := [], harness := (true, "b0aa64dfdf255a4749e818db227e157974c3e46e414db1e962f83f44b62ab4e4"), looks := false }, kinds := [], alts := [], laidByText := true, laidKinds := [.data, .data, .data, .listed, .data], laidTests := true, laidLooks := .later }
def FnExactArmsOkCardSaid : Prop := Claim7.holds Tryz.pinned (.plain (OpenSpec.ofChange fnExactArmsOkSpec)) fnExactArmsOkCard

/-- THE SECOND FORM's CARD OF 'laws.FnExactSourceOk'. -/
def fnExactSourceOkUptoCard : Claim7 := { stood := { row := fnExactSourceOkUptoRow, standIns := [], harness := (true, "b0aa64dfdf255a4749e818db227e157974c3e46e414db1e962f83f44b62ab4e4"), looks := false }, kinds := [], alts := [], laidByText := true, laidKinds := [.data, .data, .data, .listed, .data], laidTests := true, laidLooks := .later }
def FnExactSourceOkUptoCardSaid : Prop := Claim7.holds Tryz.pinned (.plain (OpenSpec.upto fnExactSourceOkSpec)) fnExactSourceOkUptoCard

/-- THE SECOND FORM's CARD OF 'laws.FnExactNamesOk'. -/
def fnExactNamesOkUptoCard : Claim7 := { stood := { row := fnExactNamesOkUptoRow, standIns := [], harness := (true, "b0aa64dfdf255a4749e818db227e157974c3e46e414db1e962f83f44b62ab4e4"), looks := false }, kinds := [], alts := [], laidByText := true, laidKinds := [.data, .data, .data, .listed, .data], laidTests := true, laidLooks := .later }
def FnExactNamesOkUptoCardSaid : Prop := Claim7.holds Tryz.pinned (.plain (OpenSpec.upto fnExactNamesOkSpec)) fnExactNamesOkUptoCard

/-- THE SECOND FORM's CARD OF 'laws.FnExactPrint'. -/
def fnExactPrintUptoCard : Claim7 := { stood := { row := fnExactPrintUptoRow, standIns := [], harness := (true, "b0aa64dfdf255a4749e818db227e157974c3e46e414db1e962f83f44b62ab4e4"), looks := false }, kinds := [], alts := [], laidByText := true, laidKinds := [.data, .data, .data, .listed, .data], laidTests := true, laidLooks := .later }
def FnExactPrintUptoCardSaid : Prop := Claim7.holds Tryz.pinned (.plain (OpenSpec.upto fnExactPrintSpec)) fnExactPrintUptoCard

/-- THE SECOND FORM's CARD OF 'laws.FnNodes'. -/
def fnNodesUptoCard : Claim7 := { stood := { row := fnNodesUptoRow, standIns := [], harness := (true, "b0aa64dfdf255a4749e818db227e157974c3e46e414db1e962f83f44b62ab4e4"), looks := false }, kinds := [], alts := [], laidByText := true, laidKinds := [.data, .data, .data, .listed, .data], laidTests := true, laidLooks := .later }
def FnNodesUptoCardSaid : Prop := Claim7.holds Tryz.pinned (.plain (OpenSpec.upto fnNodesSpec)) fnNodesUptoCard

/-- THE SECOND FORM's CARD OF 'laws.FnExactArmsOk'. -/
def fnExactArmsOkUptoCard : Claim7 := { stood := { row := fnExactArmsOkUptoRow, standIns := [], harness := (true, "b0aa64dfdf255a4749e818db227e157974c3e46e414db1e962f83f44b62ab4e4"), looks := false }, kinds := [], alts := [], laidByText := true, laidKinds := [.data, .data, .data, .listed, .data], laidTests := true, laidLooks := .later }
def FnExactArmsOkUptoCardSaid : Prop := Claim7.holds Tryz.pinned (.plain (OpenSpec.upto fnExactArmsOkSpec)) fnExactArmsOkUptoCard
end Rows
end Go.Proofs.YtkjonfojileipaaGreatDoor
