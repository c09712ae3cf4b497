/- A row of bools that a call made, known whole. -/
import Derived.Test.YtoglgeaiiipchabDoorMeA
import Derived.Test.YtoglgeaiiipchabDoorProg
namespace Go.Proofs.YtoglgeaiiipchabDoor
open Go Go.RowKit
theorem infoInt : (Tryd.prog.info? 3).map (fun i => (i.zero, i.size, i.bytes)) = some (some (.int .i64 0), 1, 8) := by kernel_rfl
theorem infoBool : (Tryd.prog.info? 4).map (fun i => (i.zero, i.size, i.bytes)) = some (some (.bool false), 1, 1) := by kernel_rfl
theorem infoRow : (Tryd.prog.info? 23).map (fun i => (i.zero, i.size, i.bytes)) = some (some (.slice none 0 0), 1, 24) := by kernel_rfl
end Go.Proofs.YtoglgeaiiipchabDoor

namespace Go.Proofs.YtoglgeaiiipchabDoor
open Go Go.RowKit

/-- a row of bools that the call made, known whole -/
def BRow (w : World) (g : Nat) (xs : List Bool) : Prop := w.heap[g]? = some (.cells (xs.map Value.bool).toArray 4 (0, 0))
theorem BRow.below {w w' : World} {g : Nat} {xs : List Bool} (h : BRow w g xs) {B : Nat} (hb : Below B w w') (hg : g < B) : BRow w' g xs := (hb.block g hg).trans h
theorem BRow.lt {w : World} {g : Nat} {xs : List Bool} (h : BRow w g xs) : g < w.heap.size := by
  rcases Nat.lt_or_ge g w.heap.size with hl | hl
  · exact hl
  · unfold BRow at h
    rw [Array.getElem?_eq_none hl] at h
    cases h
theorem BRow.cell {w : World} {g : Nat} {xs : List Bool} (h : BRow w g xs) {i : Nat} (hi : i < xs.length) : w.cell? ⟨g, i, none⟩ = some (.bool xs[i]) ∧ w.frozen? ⟨g, i, none⟩ = false := by
  unfold BRow at h
  refine ⟨?_, ?_⟩
  · simp only [World.cell?, h]
    simp [hi]
  · simp only [World.frozen?, h]
    simp
theorem BRow.set_ {w : World} {g : Nat} {xs : List Bool} (h : BRow w g xs) (i : Nat) (v : Bool) : BRow (w.setCell ⟨g, i, none⟩ (.bool v)) g (xs.set i v) := by
  unfold BRow at h ⊢
  simp [World.setCell, Array.getElem?_modify, h]

theorem BRow.getD_ {w : World} {g : Nat} {xs : List Bool} (h : BRow w g xs) {i : Nat} (hi : i < xs.length) (s : Bool) : w.cell? ⟨g, i, none⟩ = some (.bool (xs.getD i s)) ∧ w.frozen? ⟨g, i, none⟩ = false := by
  have := h.cell hi
  rw [List.getD_eq_getElem?_getD, List.getElem?_eq_getElem hi]
  exact this
theorem flatMap_bool (xs : List Bool) : xs.flatMap (fun b : Bool => [Value.bool b]) = xs.map Value.bool := by
  induction xs with
  | nil => rfl
  | cons x r ih => rw [List.flatMap_cons, ih]; rfl
theorem BRow.bools {w : World} {g : Nat} {xs : List Bool} (h : BRow w g xs) (hl : xs.length ≤ 1000000) : Bools w g (some ⟨g, 0, none⟩) xs.length xs := by
  refine ⟨Nat.le_refl _, by omega, by omega, fun _ => ⟨g, 0, rfl, Nat.le_refl _, h.lt, fun j u hu => ?_⟩⟩
  rw [flatMap_bool] at hu
  unfold BRow at h
  simp only [World.cell?, h, Nat.zero_add]
  simpa using hu
theorem BRow.grown {w w' : World} {g : Nat} {xs : List Bool} {row : Option Nat} (h : BRow w g xs) (hg : w.grownBy w' row) (hne : some g ≠ row) : BRow w' g xs := (hg.block g h.lt hne).trans h
theorem BRow.set_far {w : World} {g : Nat} {xs : List Bool} (h : BRow w g xs) {p : Addr} (hp : g ≠ p.block) (u : Value) : BRow (w.setCell p u) g xs := (Below.heap_setCell w p u g hp).trans h
/-- how many of a row's cells are s -/
noncomputable def rowCnt (s : Bool) (g : Nat) (w : World) : Nat :=
  match w.heap[g]? with
  | some (.cells cs _ _) => (cs.toList.filter (fun v => match v with | .bool b => b == s | _ => false)).length
  | _ => 0
theorem rowCnt_eq {s : Bool} {g : Nat} {w : World} {xs : List Bool} (h : BRow w g xs) : rowCnt s g w = xs.count s := by
  unfold BRow at h
  unfold rowCnt
  rw [h]
  simp only [List.filter_map, List.length_map, List.count_eq_length_filter]
  congr 1

theorem BRow.new (w : World) (n : Nat) : BRow (w.alloc (Obj.cells (madeCells #[Value.bool false] n) 4)) w.heap.size (List.replicate n false) := by
  have e : madeCells #[Value.bool false] n = ((List.replicate n false).map Value.bool).toArray := by
    rw [List.map_replicate]
    unfold madeCells
    apply Array.ext
    · simp
    · intro i h1 h2
      simp [Nat.mod_one]
  show (w.heap.push _)[w.heap.size]? = _
  rw [e]
  simp
theorem run_makeBools (st : Int) (n : Nat) (hn : (n : Int) = st) (hl : n ≤ 1000000) : ∀ w, (Instr.makeSlice 23 (.int .i64 st) (.int .i64 st)).run Tryd.prog w = .ok (.slice (some ⟨w.heap.size, 0, none⟩) n n) (w.alloc (Obj.cells (madeCells #[Value.bool false] n) 4)) := by
  intro w
  obtain ⟨i0, hi0, hz0, hz1, hz2⟩ := info_parts infoBool
  have := run_make (P := Tryd.prog) w 23 4 i0 (.bool false) Tryd.underlying23 hi0 hz0 .i64 .i64 st st (by omega) (by omega) (by rw [hz2]; omega) (by omega)
  rw [this, ← hn, hz1]
  simp [Value.cells]
theorem BRow.alloc {w : World} {n g : Nat} {xs : List Bool} (h : BRow w g xs) : BRow (w.alloc (Obj.cells (madeCells #[Value.bool false] n) 4)) g xs := h.below ((Below.refl _ w).alloc (Nat.le_refl _) _) h.lt
end Go.Proofs.YtoglgeaiiipchabDoor
