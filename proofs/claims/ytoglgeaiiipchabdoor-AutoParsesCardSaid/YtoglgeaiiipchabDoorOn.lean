/- Walks: the law's one. -/
import Derived.Test.YtoglgeaiiipchabDoorAu
import Derived.Test.YtoglgeaiiipchabDoorPZA
namespace Go.Proofs.YtoglgeaiiipchabDoor
open Go Go.RowKit

def oneA : Au := ⟨1, 2, [0], [true], [⟨0, 0, 0⟩]⟩
def AuPost (w : World) (a : Au) (e : Ending) (w' : World) : Prop := ∃ A B C ca cb cc, e = .returned (.agg #[.int .i64 a.st, .int .i64 a.le, .slice A a.fs.length ca, .slice B a.gs.length cb, .slice C a.ss.length cc]) ∧ AuRd w' w.heap.size a A B C ca cb cc ∧ Below w.heap.size w w'
def oneW (w : World) : World := (((w.alloc (Obj.cells #[.int .i64 1, .int .i64 2, .slice (some ⟨w.heap.size + 1, 0, none⟩) 1 1, .slice (some ⟨w.heap.size + 1 + 1, 0, none⟩) 1 1, .slice (some ⟨w.heap.size + 1 + 1 + 1, 0, none⟩) 1 1] 26)).alloc
  (Obj.cells #[.int .i64 0] 3)).alloc (Obj.cells #[.bool true] 4)).alloc (Obj.cells #[.int .i64 0, .int .i64 0, .int .i64 0] 54)
theorem oneW_is (w : World) : AuRd (oneW w) w.heap.size oneA (some ⟨w.heap.size + 1, 0, none⟩) (some ⟨w.heap.size + 1 + 1, 0, none⟩) (some ⟨w.heap.size + 1 + 1 + 1, 0, none⟩) 1 1 1 ∧ Below w.heap.size w (oneW w) := by
  refine ⟨⟨?_, ?_, ?_⟩, by unfold oneW; go_grown⟩
  · refine ⟨by decide, by omega, by decide, fun _ => ⟨_, 0, rfl, by omega, by unfold oneW; simp, fun j u hu => ?_⟩⟩
    match j, hu with
    | 0, hu => simp [oneA] at hu; subst hu; unfold oneW; go_simp
    | j + 1, hu => simp [oneA] at hu
  · refine ⟨by decide, by omega, by decide, fun _ => ⟨_, 0, rfl, by omega, by unfold oneW; simp, fun j u hu => ?_⟩⟩
    match j, hu with
    | 0, hu => simp [oneA] at hu; subst hu; unfold oneW; go_simp
    | j + 1, hu => simp [oneA] at hu
  · refine ⟨by decide, by omega, by decide, fun _ => ⟨_, 0, rfl, by omega, by unfold oneW; simp, fun j u hu => ?_⟩⟩
    match j, hu with
    | 0, hu => simp [oneA, Stp.cells] at hu; subst hu; unfold oneW; go_simp
    | 1, hu => simp [oneA, Stp.cells] at hu; subst hu; unfold oneW; go_simp
    | 2, hu => simp [oneA, Stp.cells] at hu; subst hu; unfold oneW; go_simp
    | j + 3, hu => simp [oneA, Stp.cells] at hu
set_option maxRecDepth 100000 in
theorem one_ (w : World) : Calls Tryd.prog 26 #[] w (AuPost w oneA) := by
  have HP : Hid (AuPost w oneA (.returned (.agg #[.int .i64 1, .int .i64 2, .slice (some ⟨w.heap.size + 1, 0, none⟩) 1 1, .slice (some ⟨w.heap.size + 1 + 1, 0, none⟩) 1 1, .slice (some ⟨w.heap.size + 1 + 1 + 1, 0, none⟩) 1 1])) (oneW w)) :=
    ⟨_, _, _, _, _, _, rfl, (oneW_is w).1, (oneW_is w).2⟩
  go_enter Tryd.func26, Tryd.ntmps26
  go_wp2_with fail
  exact bodyPost_ret (by simp [results, Tryd.results26, go_sem]) rfl HP.out
theorem one0_ (w : World) : Calls Tryd.prog 26 #[] w fun e w' => ∃ A B C ca cb cc, e = .returned (.agg #[.int .i64 1, .int .i64 2, .slice A 1 ca, .slice B 1 cb, .slice C 1 cc]) ∧ AuRd w' 0 oneA A B C ca cb cc ∧ Below w.heap.size w w' :=
  (one_ w).mono fun e w' ⟨A, B, C, ca, cb, cc, h1, h2, h3⟩ => ⟨A, B, C, ca, cb, cc, h1, h2.low (Nat.zero_le _), h3⟩
theorem one_ck : ckA oneA = 0 := by decide +kernel
end Go.Proofs.YtoglgeaiiipchabDoor
