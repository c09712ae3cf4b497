/- Walks: the law's until. -/
import Derived.Test.YtoglgeaiiipchaaDoorApp
import Derived.Test.YtoglgeaiiipchaaDoorProg
namespace Go.Proofs.YtoglgeaiiipchaaDoor
open Go Go.RowKit

def untF : List Nd := [⟨2, 0, 0, 0⟩, ⟨2, 0, 0, 1⟩, ⟨7, 0, 1, 0⟩]
theorem untF_rd {w' : World} {b : Nat} (hb : b < w'.heap.size) (h : w'.heap[b]? = some (Obj.cells #[Value.int IntKind.i64 2, Value.int IntKind.i64 0, Value.int IntKind.i64 0, Value.int IntKind.i64 0,
      Value.int IntKind.i64 2, Value.int IntKind.i64 0, Value.int IntKind.i64 0, Value.int IntKind.i64 1,
      Value.int IntKind.i64 7, Value.int IntKind.i64 0, Value.int IntKind.i64 1, Value.int IntKind.i64 0] 45)) : Nds w' 0 (some ⟨b, 0, none⟩) 3 untF := by
  refine ⟨by decide, by omega, by decide, fun _ => ⟨b, 0, rfl, Nat.zero_le _, hb, fun j u hu => ?_⟩⟩
  simp only [World.cell?, h]
  simp only [untF, List.flatMap_cons, List.flatMap_nil, Nd.cells, List.cons_append, List.nil_append, List.append_nil] at hu
  simpa using hu
def UntPost (w : World) (e : Ending) (w' : World) : Prop := ∃ b, e = .returned (.slice (some ⟨b, 0, none⟩) 3 3) ∧ Nds w' 0 (some ⟨b, 0, none⟩) 3 untF ∧ Below w.heap.size w w'
set_option maxRecDepth 100000 in
theorem until_ (w : World) : Calls Tryd.prog 30 #[] w (UntPost w) := by
  have HP : Hid (UntPost w (.returned (.slice (some ⟨w.heap.size, 0, none⟩) 3 3)) (w.alloc (Obj.cells #[Value.int IntKind.i64 2, Value.int IntKind.i64 0, Value.int IntKind.i64 0, Value.int IntKind.i64 0,
      Value.int IntKind.i64 2, Value.int IntKind.i64 0, Value.int IntKind.i64 0, Value.int IntKind.i64 1,
      Value.int IntKind.i64 7, Value.int IntKind.i64 0, Value.int IntKind.i64 1, Value.int IntKind.i64 0] 45))) :=
    ⟨_, rfl, untF_rd (by simp) Array.getElem?_push_size, (Below.refl _ _).alloc (Nat.le_refl _) _⟩
  go_enter Tryd.func30, Tryd.ntmps30
  go_wp2_with fail
  go_ret
  exact HP.out
end Go.Proofs.YtoglgeaiiipchaaDoor
