/- A region that draws its order and whose calls only make memory, walked once: small lemmas. -/
import Derived.Test.YtoglgeaiiipchabDoorMeA
import Derived.Lib.QuietBelow
namespace Go.Proofs.YtoglgeaiiipchabDoor
open Go Go.RowKit Go.Sort

/-- a callee's contract that ends in Below, laid ahead of such a region -/
theorem regrown_call {P : Program} {f : FuncId} {args : Array Value} {w : World} {v : Value} (h : ∀ W, Below w.heap.size w W → Calls P f args W fun e w' => e = .returned v ∧ Below W.heap.size W w') :
    ∀ d os, Calls P f args (grow (redrawn w d) os) fun e w'' => e = .returned v ∧ ∃ p : Regrown, w'' = grow (redrawn w p.d) p.os := fun d os => Calls.regrown_of (h _ (below_regrown w d os))
/-- the world behind -/
theorem regrown_on {w0 w : World} {B : Nat} (h : Below B w0 w) (hB : B ≤ w.heap.size) (d : Nat) (os : Array Obj) : Below B w0 (grow (redrawn w d) os) := h.trans ((below_regrown w d os).mono hB)
end Go.Proofs.YtoglgeaiiipchabDoor
