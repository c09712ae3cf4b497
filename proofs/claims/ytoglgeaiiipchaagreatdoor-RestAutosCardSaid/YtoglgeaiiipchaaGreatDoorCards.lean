/-
  DERIVED. GIVEN WITH THE SEED: THE CARDS: each row of YtoglgeaiiipchaaGreatDoorRows.lean that lists a variable, with what it lists TIED to the program's text (the seventh form; the later family's looks); each row that meets fmt, with fmt's text TOLD by the authors' own Lean function (tested against real Go, not proved from fmt's source: count such statements apart). THE CARD IS WHAT COUNTS. Prove the row's statement (the work); the ties are given (YtoglgeaiiipchaaGreatDoorTie.lean); close each card by the builder's one call (the guide's Derived/Test/ToyasCard.lean, 'card_holds'). Laid BY PROGRAM, IN A SANDBOX (cutbox-door.mjs). By AI agents, Wed Nov 11 2026. No macro, syntax, notation, axiom, sorry.
-/
import Derived.Test.YtoglgeaiiipchaaGreatDoorRows
import GoSem.ClaimSeven
namespace Go.Proofs.YtoglgeaiiipchaaGreatDoor
namespace Rows

/-- THE TIED CARD OF 'lassoworklaw.ModelTakes'. -/
def modelTakesCard : Claim7 := { stood := { row := modelTakesRow, standIns := [], harness := (true, "62a0881e96f1a94866397d5e429194bbab4b2a71e79e8eef4b17a6150f9dfd38"), looks := true }, kinds := [], alts := [], laidByText := true, laidKinds := [.data, .data, .data], laidTests := true, laidLooks := .later }
def ModelTakesCardSaid : Prop := Claim7.holds Tryz.pinned (.plain (OpenSpec.ofChange modelTakesSpec)) modelTakesCard

/-- THE TIED CARD OF 'lassoworklaw.RestAutos'. -/
def restAutosCard : Claim7 := { stood := { row := restAutosRow, standIns := [], harness := (true, "62a0881e96f1a94866397d5e429194bbab4b2a71e79e8eef4b17a6150f9dfd38"), looks := true }, kinds := [], alts := [], laidByText := true, laidKinds := [.data, .data, .data, .data, .sentinel, .sentinel, .pinned], laidTests := true, laidLooks := .later }
def RestAutosCardSaid : Prop := Claim7.holds Tryz.pinned (.plain (OpenSpec.ofChange restAutosSpec)) restAutosCard

/-- THE SECOND FORM's CARD OF 'lassoworklaw.ModelTakes'. -/
def modelTakesUptoCard : Claim7 := { stood := { row := modelTakesUptoRow, standIns := [], harness := (true, "62a0881e96f1a94866397d5e429194bbab4b2a71e79e8eef4b17a6150f9dfd38"), looks := true }, kinds := [], alts := [], laidByText := true, laidKinds := [.data, .data, .data], laidTests := true, laidLooks := .later }
def ModelTakesUptoCardSaid : Prop := Claim7.holds Tryz.pinned (.plain (OpenSpec.upto modelTakesSpec)) modelTakesUptoCard

/-- THE SECOND FORM's CARD OF 'lassoworklaw.RestAutos'. -/
def restAutosUptoCard : Claim7 := { stood := { row := restAutosUptoRow, standIns := [], harness := (true, "62a0881e96f1a94866397d5e429194bbab4b2a71e79e8eef4b17a6150f9dfd38"), looks := true }, kinds := [], alts := [], laidByText := true, laidKinds := [.data, .data, .data, .data, .sentinel, .sentinel, .pinned], laidTests := true, laidLooks := .later }
def RestAutosUptoCardSaid : Prop := Claim7.holds Tryz.pinned (.plain (OpenSpec.upto restAutosSpec)) restAutosUptoCard
end Rows
end Go.Proofs.YtoglgeaiiipchaaGreatDoor
