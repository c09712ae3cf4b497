/- TrimOf's memory between two rounds. -/
import Derived.Test.YtoglgeaiiipchabDoorAuP
import Derived.Test.YtoglgeaiiipchabDoorPTf
namespace Go.Proofs.YtoglgeaiiipchabDoor
open Go Go.RowKit Go.Sort

structure TfM (W1 : World) (T G R : Nat) (tr : List Int) (st le : Int) (fs : List Int) (gs : List Bool) (ss : List Stp) (fv gv sv : Value) (W : World) : Prop where
  far : Far R [T, G] W1 W
  tR : T < R
  gR : G < R
  ne : T ≠ G
  row : IRow W T tr
  au : AuP R G st le fs gs ss fv gv sv W
section
variable {W1 : World} {T G R : Nat} {tr : List Int} {st le : Int} {fs : List Int} {gs : List Bool} {ss : List Stp} {fv gv sv : Value} {W W' : World}
theorem TfM.on (h : TfM W1 T G R tr st le fs gs ss fv gv sv W) (hb : Below W.heap.size W W') : TfM W1 T G R tr st le fs gs ss fv gv sv W' :=
  ⟨h.far.trans (Far.below hb h.au.sz), h.tR, h.gR, h.ne, h.row.below hb h.row.lt, h.au.on hb⟩
theorem TfM.put (h : TfM W1 T G R tr st le fs gs ss fv gv sv W) (i : Nat) (v : Int) : TfM W1 T G R (tr.set i v) st le fs gs ss fv gv sv (W.setCell ⟨T, i, none⟩ (.int .i64 v)) :=
  ⟨h.far.trans (Far.set W _ (by simp)), h.tR, h.gR, h.ne, h.row.set_ i v, h.au.low (p := ⟨T, i, none⟩) h.tR h.ne _⟩
theorem TfM.states (h : TfM W1 T G R tr st le fs gs ss fv gv sv W) (st' : Int) : TfM W1 T G R tr st' le fs gs ss fv gv sv (W.setCell ⟨G, 0, none⟩ (.int .i64 st')) :=
  ⟨h.far.trans (Far.set W _ (by simp)), h.tR, h.gR, h.ne, h.row.set_far h.ne _, h.au.states st'⟩
theorem TfM.step {st' : Int} {fs' : List Int} {gs' : List Bool} {ss' : List Stp} {fv' gv' sv' : Value} (h : TfM W1 T G R tr st le fs gs ss fv gv sv W) (h2 : AuP R G st' le fs' gs' ss' fv' gv' sv' W' ∧ Far R [G] W W') : TfM W1 T G R tr st' le fs' gs' ss' fv' gv' sv' W' :=
  ⟨h.far.trans (h2.2.up (by simp)), h.tR, h.gR, h.ne, h2.2.blk h.tR (by simpa using h.ne) h.row, h2.1⟩
end
theorem retAuP {fn : Func} {p : Tmp} (h : fn.results = #[.cell p 26]) (tmps : Array Value) (w : World) (V : Nat) {v0 v1 v2 v3 v4 : Value} (hp : tmps[p]? = some (.pointer (some ⟨V, 0, none⟩)))
    (ho : w.heap[V]? = some (.cells #[v0, v1, v2, v3, v4] 26 (0, 0))) : (results fn tmps).run Tryd.prog w = .ok (.agg #[v0, v1, v2, v3, v4]) w := by
  obtain ⟨r0, r1, r2, r3, r4, _⟩ := obj5 ho
  simp [results, h, go_sem, hp, r0, r1, r2, r3, r4]
theorem row_bool {xs : List Bool} {W : World} {I : Nat} (h : BRow W I xs) {i : Nat} (hi : i < xs.length) : W.cell? ⟨I, i, none⟩ = some (.bool (xs.getD i false)) ∧ W.frozen? ⟨I, i, none⟩ = false := h.getD_ hi false
end Go.Proofs.YtoglgeaiiipchabDoor
