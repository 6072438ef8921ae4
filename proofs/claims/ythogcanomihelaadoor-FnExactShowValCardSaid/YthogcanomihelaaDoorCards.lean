/-
  DERIVED. GIVEN WITH THE SEED: THE CARDS: each row of YthogcanomihelaaDoorRows.lean that lists a variable, with what it lists TIED to the program's text (the seventh form; the later family's looks); each row that meets fmt, with fmt's text TOLD by the authors' own Lean function (tested against real Go, not proved from fmt's source: count such statements apart). THE CARD IS WHAT COUNTS. Prove the row's statement (the work); the ties are given (YthogcanomihelaaDoorTie.lean); close each card by the builder's one call (the guide's Derived/Test/ToyasCard.lean, 'card_holds'). Laid BY PROGRAM, IN A SANDBOX (cutbox-door.mjs). By AI agents, Wed Nov 11 2026. No macro, syntax, notation, axiom, sorry.
-/
import Derived.Test.YthogcanomihelaaDoorRows
import GoSem.ClaimSeven
namespace Go.Proofs.YthogcanomihelaaDoor
namespace Rows

/-- THE TIED CARD OF 'laws.FnVals'. -/
def fnValsCard : Claim7 := { stood := { row := fnValsRow, standIns := [], harness := (true, "d17dc5318c658fdbafa60e03d708c094fafeccbdea2e15013ee73581a0693f99"), looks := false }, kinds := [], alts := [], laidByText := true, laidKinds := [.data, .data, .data], laidTests := true, laidLooks := .later }
def FnValsCardSaid : Prop := Claim7.holds Tryd.pinned (.plain (OpenSpec.ofChange fnValsSpec)) fnValsCard

/-- THE TIED CARD OF 'laws.FnExactShowVal'. -/
def fnExactShowValCard : Claim7 := { stood := { row := fnExactShowValRow, standIns := [], harness := (true, "d17dc5318c658fdbafa60e03d708c094fafeccbdea2e15013ee73581a0693f99"), looks := false }, kinds := [], alts := [], laidByText := true, laidKinds := [.data, .data, .data], laidTests := true, laidLooks := .later }
def FnExactShowValCardSaid : Prop := Claim7.holds Tryd.pinned (.plain (OpenSpec.ofChange fnExactShowValSpec)) fnExactShowValCard

/-- THE SECOND FORM's CARD OF 'laws.FnVals'. -/
def fnValsUptoCard : Claim7 := { stood := { row := fnValsUptoRow, standIns := [], harness := (true, "d17dc5318c658fdbafa60e03d708c094fafeccbdea2e15013ee73581a0693f99"), looks := false }, kinds := [], alts := [], laidByText := true, laidKinds := [.data, .data, .data], laidTests := true, laidLooks := .later }
def FnValsUptoCardSaid : Prop := Claim7.holds Tryd.pinned (.plain (OpenSpec.upto fnValsSpec)) fnValsUptoCard

/-- THE SECOND FORM's CARD OF 'laws.FnExactShowVal'. -/
def fnExactShowValUptoCard : Claim7 := { stood := { row := fnExactShowValUptoRow, standIns := [], harness := (true, "d17dc5318c658fdbafa60e03d708c094fafeccbdea2e15013ee73581a0693f99"), looks := false }, kinds := [], alts := [], laidByText := true, laidKinds := [.data, .data, .data], laidTests := true, laidLooks := .later }
def FnExactShowValUptoCardSaid : Prop := Claim7.holds Tryd.pinned (.plain (OpenSpec.upto fnExactShowValSpec)) fnExactShowValUptoCard
end Rows
end Go.Proofs.YthogcanomihelaaDoor
