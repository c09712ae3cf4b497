/-
  No cell of these rows narrows 'for every input' (looked for: loops, veiled, ifaces, maps, wideKeys, modest, calm, conditions, laid).
  DERIVED. THE GIVEN ROWS OF THIS SEAT. 6 by the template 'for every input the law returns true; each argument reads behind the call as it read before'; 0 by the template 'total and deterministic' (their statements: YtoglgeaiiipchaaTotals.lean).
  GIVEN WITH THE SEED: the statements are not yours to turn. If you find one false, say at which input.
  Laid BY PROGRAM, IN A SANDBOX (cutbox-rows.mjs): the forced cells as the released guide's own fill.sh prints them over the translation a22c03da30b3a7ad… (all of the seat's roots in one cut). By AI agents, Wed Nov 11 2026. No macro, syntax, notation, axiom, sorry.
-/
import Derived.Test.YtoglgeaiiipchaaChecked
import GoSem.Claim
import GoSem.ClaimJoined
import GoSem.ClaimMapViews
import Derived.JoinedTies
import Derived.KernelRfl
namespace Go.Proofs.Ytoglgeaiiipchaa
/- THE CELL 'sum', in the pinned program and in every row, IS THE sha256 OF THE DUMP (.gsa) THAT YtoglgeaiiipchaaProg.lean LOADS. Nothing in Lean hashes anything: it is a label: what it is worth is what the hold of that sum in a sandbox is worth. -/
noncomputable def Try.pinned : Pinned := { name := "ytoglgeaiiipchaa", sum := "a22c03da30b3a7adad12e5575b2ef3b901dff8f1ef4a6030c5334101d8c969a9", checked := Try.checked }
namespace Rows
def none {H : Type} : Left H := { results := [], args := [] }

/-- 'lassoworklaw.HoldsTells': WHATEVER THE INPUT: true; the input reads as it did. -/
def holdsTellsSpec : ChangeSpec := { name := "holdsTells", fn := fun _ => fun
  | [d1, d2] => { results := [.lit (.bool true)], args := [d1, d2] }
  | _ => none }
def holdsTellsRow : OpenClaim := { program := "ytoglgeaiiipchaa", sum := "a22c03da30b3a7adad12e5575b2ef3b901dff8f1ef4a6030c5334101d8c969a9", func := "lassowork/lassoworklaw.HoldsTells", spec := "holdsTells", unfollowed := true, recurses := true, plainKeys := false, apart := false }
def HoldsTellsSaid : Prop := holdsTellsRow.holds Try.pinned (OpenSpec.ofChange holdsTellsSpec)

/-- ITS FALSE NEIGHBOUR: 'it returns false'. Refute it at one input. -/
def holdsTellsWrong : ChangeSpec := { name := "holdsTells", fn := fun _ => fun
  | [d1, d2] => { results := [.lit (.bool false)], args := [d1, d2] }
  | _ => none }
def HoldsTellsWrongFalsely : Prop := holdsTellsRow.holds Try.pinned (OpenSpec.ofChange holdsTellsWrong)

/-- 'lassoworklaw.WordTells': WHATEVER THE INPUT: true; the input reads as it did. -/
def wordTellsSpec : ChangeSpec := { name := "wordTells", fn := fun _ => fun
  | [d1, d2, d3] => { results := [.lit (.bool true)], args := [d1, d2, d3] }
  | _ => none }
def wordTellsRow : OpenClaim := { program := "ytoglgeaiiipchaa", sum := "a22c03da30b3a7adad12e5575b2ef3b901dff8f1ef4a6030c5334101d8c969a9", func := "lassowork/lassoworklaw.WordTells", spec := "wordTells", unfollowed := true, recurses := true, plainKeys := false, apart := false }
def WordTellsSaid : Prop := wordTellsRow.holds Try.pinned (OpenSpec.ofChange wordTellsSpec)

/-- ITS FALSE NEIGHBOUR: 'it returns false'. Refute it at one input. -/
def wordTellsWrong : ChangeSpec := { name := "wordTells", fn := fun _ => fun
  | [d1, d2, d3] => { results := [.lit (.bool false)], args := [d1, d2, d3] }
  | _ => none }
def WordTellsWrongFalsely : Prop := wordTellsRow.holds Try.pinned (OpenSpec.ofChange wordTellsWrong)

/-- 'lassoworklaw.WordTakes': WHATEVER THE INPUT: true; the input reads as it did. -/
def wordTakesSpec : ChangeSpec := { name := "wordTakes", fn := fun _ => fun
  | [d1, d2] => { results := [.lit (.bool true)], args := [d1, d2] }
  | _ => none }
def wordTakesRow : OpenClaim := { program := "ytoglgeaiiipchaa", sum := "a22c03da30b3a7adad12e5575b2ef3b901dff8f1ef4a6030c5334101d8c969a9", func := "lassowork/lassoworklaw.WordTakes", spec := "wordTakes", unfollowed := true, recurses := true, plainKeys := false, apart := false }
def WordTakesSaid : Prop := wordTakesRow.holds Try.pinned (OpenSpec.ofChange wordTakesSpec)

/-- ITS FALSE NEIGHBOUR: 'it returns false'. Refute it at one input. -/
def wordTakesWrong : ChangeSpec := { name := "wordTakes", fn := fun _ => fun
  | [d1, d2] => { results := [.lit (.bool false)], args := [d1, d2] }
  | _ => none }
def WordTakesWrongFalsely : Prop := wordTakesRow.holds Try.pinned (OpenSpec.ofChange wordTakesWrong)

/-- 'lassoworklaw.IncludeTells': WHATEVER THE INPUT: true; the input reads as it did. -/
def includeTellsSpec : ChangeSpec := { name := "includeTells", fn := fun _ => fun
  | [d1, d2, d3] => { results := [.lit (.bool true)], args := [d1, d2, d3] }
  | _ => none }
def includeTellsRow : OpenClaim := { program := "ytoglgeaiiipchaa", sum := "a22c03da30b3a7adad12e5575b2ef3b901dff8f1ef4a6030c5334101d8c969a9", func := "lassowork/lassoworklaw.IncludeTells", spec := "includeTells", unfollowed := true, recurses := true, plainKeys := false, apart := false }
def IncludeTellsSaid : Prop := includeTellsRow.holds Try.pinned (OpenSpec.ofChange includeTellsSpec)

/-- ITS FALSE NEIGHBOUR: 'it returns false'. Refute it at one input. -/
def includeTellsWrong : ChangeSpec := { name := "includeTells", fn := fun _ => fun
  | [d1, d2, d3] => { results := [.lit (.bool false)], args := [d1, d2, d3] }
  | _ => none }
def IncludeTellsWrongFalsely : Prop := includeTellsRow.holds Try.pinned (OpenSpec.ofChange includeTellsWrong)

/-- 'lassoworklaw.IncludeSame': WHATEVER THE INPUT: true; the input reads as it did. -/
def includeSameSpec : ChangeSpec := { name := "includeSame", fn := fun _ => fun
  | [d1, d2, d3] => { results := [.lit (.bool true)], args := [d1, d2, d3] }
  | _ => none }
def includeSameRow : OpenClaim := { program := "ytoglgeaiiipchaa", sum := "a22c03da30b3a7adad12e5575b2ef3b901dff8f1ef4a6030c5334101d8c969a9", func := "lassowork/lassoworklaw.IncludeSame", spec := "includeSame", unfollowed := true, recurses := true, plainKeys := false, apart := false }
def IncludeSameSaid : Prop := includeSameRow.holds Try.pinned (OpenSpec.ofChange includeSameSpec)

/-- ITS FALSE NEIGHBOUR: 'it returns false'. Refute it at one input. -/
def includeSameWrong : ChangeSpec := { name := "includeSame", fn := fun _ => fun
  | [d1, d2, d3] => { results := [.lit (.bool false)], args := [d1, d2, d3] }
  | _ => none }
def IncludeSameWrongFalsely : Prop := includeSameRow.holds Try.pinned (OpenSpec.ofChange includeSameWrong)

/-- 'lassoworklaw.BothTake': WHATEVER THE INPUT: true; the input reads as it did. -/
def bothTakeSpec : ChangeSpec := { name := "bothTake", fn := fun _ => fun
  | [d1, d2, d3] => { results := [.lit (.bool true)], args := [d1, d2, d3] }
  | _ => none }
def bothTakeRow : OpenClaim := { program := "ytoglgeaiiipchaa", sum := "a22c03da30b3a7adad12e5575b2ef3b901dff8f1ef4a6030c5334101d8c969a9", func := "lassowork/lassoworklaw.BothTake", spec := "bothTake", unfollowed := true, recurses := true, plainKeys := false, apart := false }
def BothTakeSaid : Prop := bothTakeRow.holds Try.pinned (OpenSpec.ofChange bothTakeSpec)

/-- ITS FALSE NEIGHBOUR: 'it returns false'. Refute it at one input. -/
def bothTakeWrong : ChangeSpec := { name := "bothTake", fn := fun _ => fun
  | [d1, d2, d3] => { results := [.lit (.bool false)], args := [d1, d2, d3] }
  | _ => none }
def BothTakeWrongFalsely : Prop := bothTakeRow.holds Try.pinned (OpenSpec.ofChange bothTakeWrong)

/- THE SECOND FORM. 'bulk': how many values and letters a reading holds, each counted each time it is reached (what is shared counts as often as it is met; a slice's spare places count too). A statement '..UptoSaid' is the law's where the arguments, and the package variables that the reading takes, are together of bulk at most 1048576: NARROWER than '..Said'. Prove '..Said' where nothing that the law and all that it calls make is longer than what came in: it says more and counts as full. Else prove '..UptoSaid'. A law counts once. -/
mutual
def uptoBulk {H : Type} : DataW H → Nat
  | .lit (.string bytes) => bytes.length + 1
  | .lit _ => 1
  | .nil => 1
  | .ptr d => uptoBulk d + 1
  | .slice elems spare => uptoBulkAll elems + uptoBulkAll spare + 1
  | .agg parts => uptoBulkAll parts + 1
  | .iface _ d => uptoBulk d + 1
  | .map entries => uptoBulkEntries entries + 1
  | .held _ => 1
def uptoBulkAll {H : Type} : List (DataW H) → Nat
  | [] => 0
  | d :: r => uptoBulk d + uptoBulkAll r
def uptoBulkEntries {H : Type} : List (Lit × DataW H) → Nat
  | [] => 0
  | x :: r => uptoBulkEntry x + uptoBulkEntries r
def uptoBulkEntry {H : Type} : Lit × DataW H → Nat
  | (.string bytes, d) => bytes.length + uptoBulk d + 1
  | (_, d) => uptoBulk d + 1
 end
def uptoSmall : (H : Type) → List (DataW H) → Bool := fun _ ds => decide (uptoBulkAll ds ≤ 1048576)
def OpenSpec.upto (s : _root_.Go.ChangeSpec) : _root_.Go.OpenSpec := { _root_.Go.OpenSpec.ofChange s with cond := some uptoSmall }

/-- 'lassoworklaw.HoldsTells', WHERE WHAT IT READS IS OF BULK AT MOST 1048576: true; the input reads as it did. -/
def holdsTellsUptoRow : OpenClaim := { program := "ytoglgeaiiipchaa", sum := "a22c03da30b3a7adad12e5575b2ef3b901dff8f1ef4a6030c5334101d8c969a9", func := "lassowork/lassoworklaw.HoldsTells", spec := "holdsTells", unfollowed := true, recurses := true, plainKeys := false, apart := false, narrowed := true }
def HoldsTellsUptoSaid : Prop := holdsTellsUptoRow.holds Try.pinned (OpenSpec.upto holdsTellsSpec)

/-- 'lassoworklaw.WordTells', WHERE WHAT IT READS IS OF BULK AT MOST 1048576: true; the input reads as it did. -/
def wordTellsUptoRow : OpenClaim := { program := "ytoglgeaiiipchaa", sum := "a22c03da30b3a7adad12e5575b2ef3b901dff8f1ef4a6030c5334101d8c969a9", func := "lassowork/lassoworklaw.WordTells", spec := "wordTells", unfollowed := true, recurses := true, plainKeys := false, apart := false, narrowed := true }
def WordTellsUptoSaid : Prop := wordTellsUptoRow.holds Try.pinned (OpenSpec.upto wordTellsSpec)

/-- 'lassoworklaw.WordTakes', WHERE WHAT IT READS IS OF BULK AT MOST 1048576: true; the input reads as it did. -/
def wordTakesUptoRow : OpenClaim := { program := "ytoglgeaiiipchaa", sum := "a22c03da30b3a7adad12e5575b2ef3b901dff8f1ef4a6030c5334101d8c969a9", func := "lassowork/lassoworklaw.WordTakes", spec := "wordTakes", unfollowed := true, recurses := true, plainKeys := false, apart := false, narrowed := true }
def WordTakesUptoSaid : Prop := wordTakesUptoRow.holds Try.pinned (OpenSpec.upto wordTakesSpec)

/-- 'lassoworklaw.IncludeTells', WHERE WHAT IT READS IS OF BULK AT MOST 1048576: true; the input reads as it did. -/
def includeTellsUptoRow : OpenClaim := { program := "ytoglgeaiiipchaa", sum := "a22c03da30b3a7adad12e5575b2ef3b901dff8f1ef4a6030c5334101d8c969a9", func := "lassowork/lassoworklaw.IncludeTells", spec := "includeTells", unfollowed := true, recurses := true, plainKeys := false, apart := false, narrowed := true }
def IncludeTellsUptoSaid : Prop := includeTellsUptoRow.holds Try.pinned (OpenSpec.upto includeTellsSpec)

/-- 'lassoworklaw.IncludeSame', WHERE WHAT IT READS IS OF BULK AT MOST 1048576: true; the input reads as it did. -/
def includeSameUptoRow : OpenClaim := { program := "ytoglgeaiiipchaa", sum := "a22c03da30b3a7adad12e5575b2ef3b901dff8f1ef4a6030c5334101d8c969a9", func := "lassowork/lassoworklaw.IncludeSame", spec := "includeSame", unfollowed := true, recurses := true, plainKeys := false, apart := false, narrowed := true }
def IncludeSameUptoSaid : Prop := includeSameUptoRow.holds Try.pinned (OpenSpec.upto includeSameSpec)

/-- 'lassoworklaw.BothTake', WHERE WHAT IT READS IS OF BULK AT MOST 1048576: true; the input reads as it did. -/
def bothTakeUptoRow : OpenClaim := { program := "ytoglgeaiiipchaa", sum := "a22c03da30b3a7adad12e5575b2ef3b901dff8f1ef4a6030c5334101d8c969a9", func := "lassowork/lassoworklaw.BothTake", spec := "bothTake", unfollowed := true, recurses := true, plainKeys := false, apart := false, narrowed := true }
def BothTakeUptoSaid : Prop := bothTakeUptoRow.holds Try.pinned (OpenSpec.upto bothTakeSpec)

end Rows
end Go.Proofs.Ytoglgeaiiipchaa
