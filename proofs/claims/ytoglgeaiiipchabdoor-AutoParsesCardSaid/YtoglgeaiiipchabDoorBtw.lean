/- Walks: the reference's between; small laws. -/
import Derived.Test.YtoglgeaiiipchabDoorPZA
import Derived.Test.YtoglgeaiiipchabDoorMeA
import Derived.Test.YtoglgeaiiipchabDoorProg
namespace Go.Proofs.YtoglgeaiiipchabDoor
open Go Go.RowKit

theorem between_ (n a b : Int) (w : World) : Calls Tryd.prog 23 #[.int .i64 n, .int .i64 a, .int .i64 b] w fun e w' => e = .returned (.bool (btw n a b)) ∧ w = w' := by
  go_enter Tryd.func23, Tryd.ntmps23
  go_wp2
  all_goals (go_ret; refine ⟨ret_bool ?_, rfl⟩; unfold btw; simp [*])
  omega
theorem getD_at {xs : List Int} {i : Nat} (h : i < xs.length) : xs.getD i 0 = xs[i] := by rw [List.getD_eq_getElem?_getD, List.getElem?_eq_getElem h]; rfl

def BoolPost (w : World) (b : Bool) (e : Ending) (w' : World) : Prop := e = .returned (.bool b) ∧ Below w.heap.size w w'
theorem cell_on3 {B : Nat} {w w' : World} (hb : Below B w w') {b o : Nat} (h : b < B) : w'.cell? ⟨b, o, none⟩ = w.cell? ⟨b, o, none⟩ := hb.cell (p := ⟨b, o, none⟩) h
end Go.Proofs.YtoglgeaiiipchabDoor
