/- Made's memory: where each state comes to, in a row of ints; the automaton in the making. -/
import Derived.Test.YtoglgeaiiipchabDoorAuM
import Derived.Test.YtoglgeaiiipchabDoorPZ
namespace Go.Proofs.YtoglgeaiiipchabDoor
open Go Go.RowKit Go.Sort

/-- a row of ints that the call made, known whole -/
def IRow (w : World) (g : Nat) (xs : List Int) : Prop := w.heap[g]? = some (.cells (xs.map (Value.int .i64)).toArray 3 (0, 0))
theorem IRow.below {w w' : World} {g : Nat} {xs : List Int} (h : IRow w g xs) {B : Nat} (hb : Below B w w') (hg : g < B) : IRow w' g xs := (hb.block g hg).trans h
theorem IRow.lt {w : World} {g : Nat} {xs : List Int} (h : IRow w g xs) : g < w.heap.size := (Array.getElem?_eq_some_iff.1 h).1
theorem IRow.getD_ {w : World} {g : Nat} {xs : List Int} (h : IRow w g xs) {i : Nat} (hi : i < xs.length) : w.cell? ⟨g, i, none⟩ = some (.int .i64 (xs.getD i 0)) ∧ w.frozen? ⟨g, i, none⟩ = false := by
  unfold IRow at h
  rw [List.getD_eq_getElem?_getD, List.getElem?_eq_getElem hi]
  refine ⟨?_, ?_⟩
  · simp only [World.cell?, h]
    simp [hi]
  · simp only [World.frozen?, h]
    simp
theorem IRow.set_ {w : World} {g : Nat} {xs : List Int} (h : IRow w g xs) (i : Nat) (v : Int) : IRow (w.setCell ⟨g, i, none⟩ (.int .i64 v)) g (xs.set i v) := by
  unfold IRow at h ⊢
  simp [World.setCell, Array.getElem?_modify, h]
theorem IRow.set_far {w : World} {g : Nat} {xs : List Int} (h : IRow w g xs) {p : Addr} (hp : g ≠ p.block) (u : Value) : IRow (w.setCell p u) g xs := (Below.heap_setCell w p u g hp).trans h
theorem IRow.new (w : World) (n : Nat) : IRow (w.alloc (Obj.cells (madeCells #[Value.int .i64 0] n) 3)) w.heap.size (List.replicate n 0) := by
  have e : madeCells #[Value.int .i64 0] n = ((List.replicate n (0 : Int)).map (Value.int .i64)).toArray := by
    rw [List.map_replicate]
    unfold madeCells
    apply Array.ext
    · simp
    · intro i h1 h2
      simp [Nat.mod_one]
  show (w.heap.push _)[w.heap.size]? = _
  rw [e]
  simp
theorem run_makeInts (st : Int) (n : Nat) (hn : (n : Int) = st) (hl : n ≤ 1000000) : ∀ w, (Instr.makeSlice 22 (.int .i64 st) (.int .i64 st)).run Tryd.prog w = .ok (.slice (some ⟨w.heap.size, 0, none⟩) n n) (w.alloc (Obj.cells (madeCells #[Value.int .i64 0] n) 3)) := by
  intro w
  obtain ⟨i0, hi0, hz0, hz1, hz2⟩ := info_parts infoInt
  have := run_make (P := Tryd.prog) w 22 3 i0 (.int .i64 0) Tryd.underlying22 hi0 hz0 .i64 .i64 st st (by omega) (by omega) (by rw [hz2]; omega) (by omega)
  rw [this, ← hn, hz1]
  simp [Value.cells]
/-- where each state comes to, ahead of state k -/
def toRow (keep : List Bool) (n k : Nat) : List Int := (List.range n).map fun i => if i < k then (pos keep i : Int) else 0
theorem toRow_len (keep : List Bool) (n k : Nat) : (toRow keep n k).length = n := by simp [toRow]
theorem toRow_zero (keep : List Bool) (n : Nat) : toRow keep n 0 = List.replicate n 0 := by
  refine List.ext_getElem (by simp [toRow]) fun i h1 h2 => by simp [toRow]
theorem toRow_succ (keep : List Bool) {n k : Nat} (h : k < n) : (toRow keep n k).set k (pos keep k : Int) = toRow keep n (k + 1) := by
  refine List.ext_getElem (by simp [toRow]) fun i h1 h2 => ?_
  rw [List.getElem_set]
  simp only [toRow, List.getElem_map, List.getElem_range]
  split
  · rename_i e
    subst e
    rw [if_pos (by omega)]
  · split
    · rw [if_pos (by omega)]
    · rw [if_neg (by omega)]
theorem toRow_get (keep : List Bool) {n i : Nat} (h : i < n) : (toRow keep n n).getD i 0 = (pos keep i : Int) := by
  unfold toRow
  rw [List.getD_eq_getElem?_getD, List.getElem?_map, List.getElem?_range h]
  show (if i < n then (pos keep i : Int) else 0) = _
  rw [if_pos h]

/-- between two rounds; w: the world behind the results' variable -/
structure MdM (w : World) (t G : Nat) (T : List Int) (st le : Int) (fs : List Int) (gs : List Bool) (ss : List Stp) (fv gv sv : Value) (W : World) : Prop where
  below : Below t w W
  tG : t < G
  row : IRow W t T
  au : AuM G st le fs gs ss fv gv sv W
section
variable {w : World} {t G : Nat} {T : List Int} {st le : Int} {fs : List Int} {gs : List Bool} {ss : List Stp} {fv gv sv : Value} {W W' : World}
theorem MdM.on (h : MdM w t G T st le fs gs ss fv gv sv W) (hb : Below W.heap.size W W') : MdM w t G T st le fs gs ss fv gv sv W' :=
  ⟨Below_on h.below hb (Nat.le_of_lt h.row.lt), h.tG, h.row.below hb h.row.lt, h.au.on hb⟩
theorem MdM.put (h : MdM w t G T st le fs gs ss fv gv sv W) (i : Nat) (v : Int) : MdM w t G (T.set i v) st le fs gs ss fv gv sv (W.setCell ⟨t, i, none⟩ (.int .i64 v)) :=
  ⟨h.below.setCell (p := ⟨t, i, none⟩) (Nat.le_refl _) _, h.tG, h.row.set_ i v, h.au.low (p := ⟨t, i, none⟩) h.tG _⟩
theorem MdM.states (h : MdM w t G T st le fs gs ss fv gv sv W) (st' : Int) : MdM w t G T st' le fs gs ss fv gv sv (W.setCell ⟨G, 0, none⟩ (.int .i64 st')) :=
  ⟨h.below.setCell (p := ⟨G, 0, none⟩) (Nat.le_of_lt h.tG) _, h.tG, h.row.set_far (by have := h.tG; show t ≠ G; omega) _, h.au.states st'⟩
theorem MdM.step {st' : Int} {fs' : List Int} {gs' : List Bool} {ss' : List Stp} {fv' gv' sv' : Value} (h : MdM w t G T st le fs gs ss fv gv sv W) (h2 : AuM G st' le fs' gs' ss' fv' gv' sv' W') (hb : Below G W W') : MdM w t G T st' le fs' gs' ss' fv' gv' sv' W' :=
  ⟨h.below.trans (hb.mono (Nat.le_of_lt h.tG)), h.tG, h.row.below hb h.tG, h2⟩
theorem AuM.rd (h : AuM G st le fs gs ss fv gv sv W) (h1 : fs.length ≤ 200000) (h2 : gs.length ≤ 200000) (h3 : ss.length ≤ 200000) : ∃ A B C ca cb cc, fv = .slice A fs.length ca ∧ gv = .slice B gs.length cb ∧ sv = .slice C ss.length cc ∧ AuRd W (G + 1) ⟨st, le, fs, gs, ss⟩ A B C ca cb cc := by
  obtain ⟨A, ca, rfl, hA⟩ := SlE.of_own (enc := viL) (bt := 8) h.f (by omega)
  obtain ⟨B, cb, rfl, hB⟩ := SlE.of_own (enc := vbL) (bt := 1) h.g (by omega)
  obtain ⟨C, cc, rfl, hC⟩ := SlE.of_own (enc := Stp.cells) (bt := 24) h.s (by omega)
  exact ⟨A, B, C, ca, cb, cc, rfl, rfl, rfl, hA, hB, hC⟩
end
end Go.Proofs.YtoglgeaiiipchabDoor
