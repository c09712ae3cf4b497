/-
  DERIVED. GIVEN WITH THE SEED: THE CARDS: each row of YtoglgeaiiipchabGreatDoorRows.lean that lists a variable, with what it lists TIED to the program's text (the seventh form; the later family's looks); each row that meets fmt, with fmt's text TOLD by the authors' own Lean function (tested against real Go, not proved from fmt's source: count such statements apart). THE CARD IS WHAT COUNTS. Prove the row's statement (the work); the ties are given (YtoglgeaiiipchabGreatDoorTie.lean); close each card by the builder's one call (the guide's Derived/Test/ToyasCard.lean, 'card_holds'). Laid BY PROGRAM, IN A SANDBOX (cutbox-door.mjs). By AI agents, Wed Nov 11 2026. No macro, syntax, notation, axiom, sorry.
-/
import Derived.Test.YtoglgeaiiipchabGreatDoorRows
import GoSem.ClaimSeven
namespace Go.Proofs.YtoglgeaiiipchabGreatDoor
namespace Rows

/-- THE TIED CARD OF 'lassoworklaw.WordSame'. -/
def wordSameCard : Claim7 := { stood := { row := wordSameRow, standIns := [], harness := (true, "e3c74964d20e2e45d3855aaa4041c8544b1204c05612abac58aba4f026e344af"), looks := true }, kinds := [], alts := [], laidByText := true, laidKinds := [.data, .data, .data, .data, .sentinel, .sentinel, .pinned], laidTests := true, laidLooks := .later }
def WordSameCardSaid : Prop := Claim7.holds Tryz.pinned (.plain (OpenSpec.ofChange wordSameSpec)) wordSameCard

/-- THE TIED CARD OF 'lassoworklaw.ModelAsks'. -/
def modelAsksCard : Claim7 := { stood := { row := modelAsksRow, standIns := [], harness := (true, "e3c74964d20e2e45d3855aaa4041c8544b1204c05612abac58aba4f026e344af"), looks := true }, kinds := [], alts := [], laidByText := true, laidKinds := [.data, .data, .data], laidTests := true, laidLooks := .later }
def ModelAsksCardSaid : Prop := Claim7.holds Tryz.pinned (.plain (OpenSpec.ofChange modelAsksSpec)) modelAsksCard

/-- THE TIED CARD OF 'lassoworklaw.ModelHolds'. -/
def modelHoldsCard : Claim7 := { stood := { row := modelHoldsRow, standIns := [], harness := (true, "e3c74964d20e2e45d3855aaa4041c8544b1204c05612abac58aba4f026e344af"), looks := true }, kinds := [], alts := [], laidByText := true, laidKinds := [.data, .data, .data], laidTests := true, laidLooks := .later }
def ModelHoldsCardSaid : Prop := Claim7.holds Tryz.pinned (.plain (OpenSpec.ofChange modelHoldsSpec)) modelHoldsCard

/-- THE SECOND FORM's CARD OF 'lassoworklaw.WordSame'. -/
def wordSameUptoCard : Claim7 := { stood := { row := wordSameUptoRow, standIns := [], harness := (true, "e3c74964d20e2e45d3855aaa4041c8544b1204c05612abac58aba4f026e344af"), looks := true }, kinds := [], alts := [], laidByText := true, laidKinds := [.data, .data, .data, .data, .sentinel, .sentinel, .pinned], laidTests := true, laidLooks := .later }
def WordSameUptoCardSaid : Prop := Claim7.holds Tryz.pinned (.plain (OpenSpec.upto wordSameSpec)) wordSameUptoCard

/-- THE SECOND FORM's CARD OF 'lassoworklaw.ModelAsks'. -/
def modelAsksUptoCard : Claim7 := { stood := { row := modelAsksUptoRow, standIns := [], harness := (true, "e3c74964d20e2e45d3855aaa4041c8544b1204c05612abac58aba4f026e344af"), looks := true }, kinds := [], alts := [], laidByText := true, laidKinds := [.data, .data, .data], laidTests := true, laidLooks := .later }
def ModelAsksUptoCardSaid : Prop := Claim7.holds Tryz.pinned (.plain (OpenSpec.upto modelAsksSpec)) modelAsksUptoCard

/-- THE SECOND FORM's CARD OF 'lassoworklaw.ModelHolds'. -/
def modelHoldsUptoCard : Claim7 := { stood := { row := modelHoldsUptoRow, standIns := [], harness := (true, "e3c74964d20e2e45d3855aaa4041c8544b1204c05612abac58aba4f026e344af"), looks := true }, kinds := [], alts := [], laidByText := true, laidKinds := [.data, .data, .data], laidTests := true, laidLooks := .later }
def ModelHoldsUptoCardSaid : Prop := Claim7.holds Tryz.pinned (.plain (OpenSpec.upto modelHoldsSpec)) modelHoldsUptoCard
end Rows
end Go.Proofs.YtoglgeaiiipchabGreatDoor
