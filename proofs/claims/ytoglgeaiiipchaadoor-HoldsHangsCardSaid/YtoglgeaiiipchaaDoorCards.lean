/-
  DERIVED. GIVEN WITH THE SEED: THE CARDS: each row of YtoglgeaiiipchaaDoorRows.lean that lists a variable, with what it lists TIED to the program's text (the seventh form; the later family's looks); each row that meets fmt, with fmt's text TOLD by the authors' own Lean function (tested against real Go, not proved from fmt's source: count such statements apart). THE CARD IS WHAT COUNTS. Prove the row's statement (the work); the ties are given (YtoglgeaiiipchaaDoorTie.lean); close each card by the builder's one call (the guide's Derived/Test/ToyasCard.lean, 'card_holds'). Laid BY PROGRAM, IN A SANDBOX (cutbox-door.mjs). By AI agents, Wed Nov 11 2026. No macro, syntax, notation, axiom, sorry.
-/
import Derived.Test.YtoglgeaiiipchaaDoorRows
import GoSem.ClaimSeven
namespace Go.Proofs.YtoglgeaiiipchaaDoor
namespace Rows

/-- THE TIED CARD OF 'lassoworklaw.FormulaTells'. -/
def formulaTellsCard : Claim7 := { stood := { row := formulaTellsRow, standIns := [], harness := (true, "c30959e9a00d61091eba116106321db682e75e7944be0c25284ec88752a6c88b"), looks := true }, kinds := [], alts := [], laidByText := true, laidKinds := [.data, .data, .data], laidTests := true, laidLooks := .later }
def FormulaTellsCardSaid : Prop := Claim7.holds Tryd.pinned (.plain (OpenSpec.ofChange formulaTellsSpec)) formulaTellsCard

/-- THE TIED CARD OF 'lassoworklaw.FormulaParses'. -/
def formulaParsesCard : Claim7 := { stood := { row := formulaParsesRow, standIns := [], harness := (true, "c30959e9a00d61091eba116106321db682e75e7944be0c25284ec88752a6c88b"), looks := true }, kinds := [], alts := [], laidByText := true, laidKinds := [.data, .data, .data], laidTests := true, laidLooks := .later }
def FormulaParsesCardSaid : Prop := Claim7.holds Tryd.pinned (.plain (OpenSpec.ofChange formulaParsesSpec)) formulaParsesCard

/-- THE TIED CARD OF 'lassoworklaw.FormulaBack'. -/
def formulaBackCard : Claim7 := { stood := { row := formulaBackRow, standIns := [], harness := (true, "c30959e9a00d61091eba116106321db682e75e7944be0c25284ec88752a6c88b"), looks := true }, kinds := [], alts := [], laidByText := true, laidKinds := [.data, .data, .data], laidTests := true, laidLooks := .later }
def FormulaBackCardSaid : Prop := Claim7.holds Tryd.pinned (.plain (OpenSpec.ofChange formulaBackSpec)) formulaBackCard

/-- THE TIED CARD OF 'lassoworklaw.HoldsHangs'. -/
def holdsHangsCard : Claim7 := { stood := { row := holdsHangsRow, standIns := [], harness := (true, "c30959e9a00d61091eba116106321db682e75e7944be0c25284ec88752a6c88b"), looks := true }, kinds := [], alts := [], laidByText := true, laidKinds := [.data, .data, .data], laidTests := true, laidLooks := .later }
def HoldsHangsCardSaid : Prop := Claim7.holds Tryd.pinned (.plain (OpenSpec.ofChange holdsHangsSpec)) holdsHangsCard

/-- THE SECOND FORM's CARD OF 'lassoworklaw.FormulaTells'. -/
def formulaTellsUptoCard : Claim7 := { stood := { row := formulaTellsUptoRow, standIns := [], harness := (true, "c30959e9a00d61091eba116106321db682e75e7944be0c25284ec88752a6c88b"), looks := true }, kinds := [], alts := [], laidByText := true, laidKinds := [.data, .data, .data], laidTests := true, laidLooks := .later }
def FormulaTellsUptoCardSaid : Prop := Claim7.holds Tryd.pinned (.plain (OpenSpec.upto formulaTellsSpec)) formulaTellsUptoCard

/-- THE SECOND FORM's CARD OF 'lassoworklaw.FormulaParses'. -/
def formulaParsesUptoCard : Claim7 := { stood := { row := formulaParsesUptoRow, standIns := [], harness := (true, "c30959e9a00d61091eba116106321db682e75e7944be0c25284ec88752a6c88b"), looks := true }, kinds := [], alts := [], laidByText := true, laidKinds := [.data, .data, .data], laidTests := true, laidLooks := .later }
def FormulaParsesUptoCardSaid : Prop := Claim7.holds Tryd.pinned (.plain (OpenSpec.upto formulaParsesSpec)) formulaParsesUptoCard

/-- THE SECOND FORM's CARD OF 'lassoworklaw.FormulaBack'. -/
def formulaBackUptoCard : Claim7 := { stood := { row := formulaBackUptoRow, standIns := [], harness := (true, "c30959e9a00d61091eba116106321db682e75e7944be0c25284ec88752a6c88b"), looks := true }, kinds := [], alts := [], laidByText := true, laidKinds := [.data, .data, .data], laidTests := true, laidLooks := .later }
def FormulaBackUptoCardSaid : Prop := Claim7.holds Tryd.pinned (.plain (OpenSpec.upto formulaBackSpec)) formulaBackUptoCard

/-- THE SECOND FORM's CARD OF 'lassoworklaw.HoldsHangs'. -/
def holdsHangsUptoCard : Claim7 := { stood := { row := holdsHangsUptoRow, standIns := [], harness := (true, "c30959e9a00d61091eba116106321db682e75e7944be0c25284ec88752a6c88b"), looks := true }, kinds := [], alts := [], laidByText := true, laidKinds := [.data, .data, .data], laidTests := true, laidLooks := .later }
def HoldsHangsUptoCardSaid : Prop := Claim7.holds Tryd.pinned (.plain (OpenSpec.upto holdsHangsSpec)) holdsHangsUptoCard
end Rows
end Go.Proofs.YtoglgeaiiipchaaDoor
