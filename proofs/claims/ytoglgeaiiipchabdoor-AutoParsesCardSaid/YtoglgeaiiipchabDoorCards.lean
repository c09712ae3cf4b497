/-
  DERIVED. GIVEN WITH THE SEED: THE CARDS: each row of YtoglgeaiiipchabDoorRows.lean that lists a variable, with what it lists TIED to the program's text (the seventh form; the later family's looks); each row that meets fmt, with fmt's text TOLD by the authors' own Lean function (tested against real Go, not proved from fmt's source: count such statements apart). THE CARD IS WHAT COUNTS. Prove the row's statement (the work); the ties are given (YtoglgeaiiipchabDoorTie.lean); close each card by the builder's one call (the guide's Derived/Test/ToyasCard.lean, 'card_holds'). Laid BY PROGRAM, IN A SANDBOX (cutbox-door.mjs). By AI agents, Wed Nov 11 2026. No macro, syntax, notation, axiom, sorry.
-/
import Derived.Test.YtoglgeaiiipchabDoorRows
import GoSem.ClaimSeven
namespace Go.Proofs.YtoglgeaiiipchabDoor
namespace Rows

/-- THE TIED CARD OF 'lassoworklaw.AutoTells'. -/
def autoTellsCard : Claim7 := { stood := { row := autoTellsRow, standIns := [], harness := (true, "2953effd0b08bfd9e207906cf78ee4c0174c69b7519c3bd8e9b6316f6232adec"), looks := true }, kinds := [], alts := [], laidByText := true, laidKinds := [.data, .data, .data, .data, .sentinel, .sentinel, .pinned], laidTests := true, laidLooks := .later }
def AutoTellsCardSaid : Prop := Claim7.holds Tryd.pinned (.plain (OpenSpec.ofChange autoTellsSpec)) autoTellsCard

/-- THE TIED CARD OF 'lassoworklaw.AutoParses'. -/
def autoParsesCard : Claim7 := { stood := { row := autoParsesRow, standIns := [], harness := (true, "2953effd0b08bfd9e207906cf78ee4c0174c69b7519c3bd8e9b6316f6232adec"), looks := true }, kinds := [], alts := [], laidByText := true, laidKinds := [.data, .data, .data, .data, .sentinel, .sentinel, .pinned], laidTests := true, laidLooks := .later }
def AutoParsesCardSaid : Prop := Claim7.holds Tryd.pinned (.plain (OpenSpec.ofChange autoParsesSpec)) autoParsesCard

/-- THE TIED CARD OF 'lassoworklaw.AutoBack'. -/
def autoBackCard : Claim7 := { stood := { row := autoBackRow, standIns := [], harness := (true, "2953effd0b08bfd9e207906cf78ee4c0174c69b7519c3bd8e9b6316f6232adec"), looks := true }, kinds := [], alts := [], laidByText := true, laidKinds := [.data, .data, .data, .data, .sentinel, .sentinel, .pinned], laidTests := true, laidLooks := .later }
def AutoBackCardSaid : Prop := Claim7.holds Tryd.pinned (.plain (OpenSpec.ofChange autoBackSpec)) autoBackCard

/-- THE SECOND FORM's CARD OF 'lassoworklaw.AutoTells'. -/
def autoTellsUptoCard : Claim7 := { stood := { row := autoTellsUptoRow, standIns := [], harness := (true, "2953effd0b08bfd9e207906cf78ee4c0174c69b7519c3bd8e9b6316f6232adec"), looks := true }, kinds := [], alts := [], laidByText := true, laidKinds := [.data, .data, .data, .data, .sentinel, .sentinel, .pinned], laidTests := true, laidLooks := .later }
def AutoTellsUptoCardSaid : Prop := Claim7.holds Tryd.pinned (.plain (OpenSpec.upto autoTellsSpec)) autoTellsUptoCard

/-- THE SECOND FORM's CARD OF 'lassoworklaw.AutoParses'. -/
def autoParsesUptoCard : Claim7 := { stood := { row := autoParsesUptoRow, standIns := [], harness := (true, "2953effd0b08bfd9e207906cf78ee4c0174c69b7519c3bd8e9b6316f6232adec"), looks := true }, kinds := [], alts := [], laidByText := true, laidKinds := [.data, .data, .data, .data, .sentinel, .sentinel, .pinned], laidTests := true, laidLooks := .later }
def AutoParsesUptoCardSaid : Prop := Claim7.holds Tryd.pinned (.plain (OpenSpec.upto autoParsesSpec)) autoParsesUptoCard

/-- THE SECOND FORM's CARD OF 'lassoworklaw.AutoBack'. -/
def autoBackUptoCard : Claim7 := { stood := { row := autoBackUptoRow, standIns := [], harness := (true, "2953effd0b08bfd9e207906cf78ee4c0174c69b7519c3bd8e9b6316f6232adec"), looks := true }, kinds := [], alts := [], laidByText := true, laidKinds := [.data, .data, .data, .data, .sentinel, .sentinel, .pinned], laidTests := true, laidLooks := .later }
def AutoBackUptoCardSaid : Prop := Claim7.holds Tryd.pinned (.plain (OpenSpec.upto autoBackSpec)) autoBackUptoCard
end Rows
end Go.Proofs.YtoglgeaiiipchabDoor
