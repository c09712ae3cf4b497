/- Walks: the reference's CheckAuto. -/
import Derived.Test.YtoglgeaiiipchabGreatDoorAu
namespace Go.Proofs.YtoglgeaiiipchabGreatDoor
open Go Go.RowKit Go.Sort

def okR (a : Au) : Prop := (!btw a.st 1 300 || !btw a.le 1 8) = false
theorem ckA_3 {a : Au} (h : (!btw a.st 1 300 || !btw a.le 1 8) = true) : ckA a = 3 := by unfold ckA; rw [if_pos h]
theorem ckA_1 {a : Au} (h : okR a) (h1 : (a.gs.length : Int) ≠ a.st) : ckA a = 1 := by unfold ckA; rw [if_neg (by rw [h]; decide), if_pos h1]
theorem ckA_2 {a : Au} (h : okR a) (h1 : (a.gs.length : Int) = a.st) (h2 : 6000 < (a.ss.length : Int)) : ckA a = 2 := by unfold ckA; rw [if_neg (by rw [h]; decide), if_neg (by omega), if_pos h2]
theorem ckA_5 {a : Au} (h : okR a) (h1 : (a.gs.length : Int) = a.st) (h2 : ¬ 6000 < (a.ss.length : Int)) (h3 : fsBad a.st a.fs = true) : ckA a = 5 := by unfold ckA; rw [if_neg (by rw [h]; decide), if_neg (by omega), if_neg h2, if_pos h3]
theorem ckA_4 {a : Au} (h : okR a) (h1 : (a.gs.length : Int) = a.st) (h2 : ¬ 6000 < (a.ss.length : Int)) (h3 : fsBad a.st a.fs = false) (h4 : fsDown a.fs (a.fs.length - 1) 1 = true) : ckA a = 4 := by unfold ckA; rw [if_neg (by rw [h]; decide), if_neg (by omega), if_neg h2, if_neg (by rw [h3]; decide), if_pos h4]
theorem ckA_S {a : Au} (h : okR a) (h1 : (a.gs.length : Int) = a.st) (h2 : ¬ 6000 < (a.ss.length : Int)) (h3 : fsBad a.st a.fs = false) (h4 : fsDown a.fs (a.fs.length - 1) 1 = false) : ckA a = ckS a a.ss.length 0 := by unfold ckA; rw [if_neg (by rw [h]; decide), if_neg (by omega), if_neg h2, if_neg (by rw [h3]; decide), if_neg (by rw [h4]; decide)]
theorem fsBad_at {st : Int} {fs : List Int} {k : Nat} (hk : k < fs.length) (h : btw fs[k] 0 (st - 1) = false) : fsBad st fs = true := List.any_eq_true.2 ⟨_, List.getElem_mem hk, by rw [h]; rfl⟩
theorem fsBad_none {st : Int} {fs : List Int} (h : ∀ j, (hj : j < fs.length) → btw fs[j] 0 (st - 1) = true) : fsBad st fs = false := by
  cases e : fsBad st fs with
  | false => rfl
  | true =>
    obtain ⟨x, hx, hb⟩ := List.any_eq_true.1 e
    obtain ⟨j, hj, rfl⟩ := List.getElem_of_mem hx
    rw [h j hj] at hb
    cases hb
/-- a step in a variable -/
def stW (w : World) (s : Stp) : World := w.alloc (Obj.cells #[.int .i64 s.f, .int .i64 s.l, .int .i64 s.t] 108)
structure StW (w W : World) (s : Stp) (G : Nat) : Prop where
  below : Below w.heap.size w W
  size : W.heap.size = G + 1
  c0 : W.cell? ⟨G, 0, none⟩ = some (.int .i64 s.f)
  c1 : W.cell? ⟨G, 1, none⟩ = some (.int .i64 s.l)
  c2 : W.cell? ⟨G, 2, none⟩ = some (.int .i64 s.t)
theorem stW_is (w : World) (s : Stp) : StW w (stW w s) s w.heap.size := by
  unfold stW
  refine ⟨by go_grown, by simp, ?_, ?_, ?_⟩ <;> go_simp
def IntB (w : World) (n : Int) (e : Ending) (w' : World) : Prop := e = .returned (.int .i64 n) ∧ Below w.heap.size w w'

end Go.Proofs.YtoglgeaiiipchabGreatDoor
