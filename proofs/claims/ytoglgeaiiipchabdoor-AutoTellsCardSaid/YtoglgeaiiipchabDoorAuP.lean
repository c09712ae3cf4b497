/- An automaton in the making whose rows begin behind other blocks that the call turns. -/
import Derived.Test.YtoglgeaiiipchabDoorAuN
namespace Go.Proofs.YtoglgeaiiipchabDoor
open Go Go.RowKit Go.Sort

/-- of the blocks below R, but for those listed, nothing has turned -/
structure Far (R : Nat) (ex : List Nat) (W W' : World) : Prop where
  os : W'.os = W.os
  tape : W'.tape = W.tape
  output : W'.output = W.output
  size : W.heap.size ≤ W'.heap.size
  block : ∀ k, k < R → k ∉ ex → W'.heap[k]? = W.heap[k]?
section
variable {R : Nat} {ex : List Nat} {W W' W'' : World}
theorem Far.refl (R : Nat) (ex : List Nat) (W : World) : Far R ex W W := ⟨rfl, rfl, rfl, Nat.le_refl _, fun _ _ _ => rfl⟩
theorem Far.trans (h : Far R ex W W') (k : Far R ex W' W'') : Far R ex W W'' := ⟨k.os.trans h.os, k.tape.trans h.tape, k.output.trans h.output, Nat.le_trans h.size k.size, fun j hj hn => (k.block j hj hn).trans (h.block j hj hn)⟩
theorem Far.below {B : Nat} (h : Below B W W') (hB : R ≤ B) : Far R ex W W' := ⟨h.os, h.tape, h.output, h.size, fun j hj _ => h.block j (by omega)⟩
theorem Far.up {ex' : List Nat} (h : Far R ex W W') (he : ∀ k ∈ ex, k ∈ ex') : Far R ex' W W' := ⟨h.os, h.tape, h.output, h.size, fun j hj hn => h.block j hj fun hm => hn (he j hm)⟩
theorem Far.set (W : World) {g i : Nat} (v : Value) (hg : g ∈ ex) : Far R ex W (W.setCell ⟨g, i, none⟩ v) := ⟨rfl, rfl, rfl, by simp [World.setCell], fun j _ hn => Below.heap_setCell _ _ _ _ fun e => hn (by rw [show j = g from e]; exact hg)⟩
theorem Far.to (h : Far R ex W W') {B : Nat} (hB : B ≤ R) (he : ∀ k ∈ ex, B ≤ k) : Below B W W' := ⟨h.os, h.tape, h.output, h.size, fun j hj => h.block j (by omega) fun hm => by have := he j hm; omega⟩
theorem Far.blk (h : Far R ex W W') {k : Nat} {o : Option Obj} (hk : k < R) (hn : k ∉ ex) (ho : W.heap[k]? = o) : W'.heap[k]? = o := (h.block k hk hn).trans ho
theorem Far.au (h : Far R ex W W') {V : Nat} {a : Au} {A B C : Option Addr} {ca cb cc : Nat} (hV : AuAt W V a A B C ca cb cc) (hk : V < R) (hn : V ∉ ex) : AuAt W' V a A B C ca cb cc := by
  have e := h.block V hk hn
  have c := fun o => World.cell?_of_block (w := W) (w' := W') (a := ⟨V, o, none⟩) e
  exact ⟨Nat.lt_of_lt_of_le hV.lt h.size, (c 0).trans hV.c0, (c 1).trans hV.c1, (c 2).trans hV.c2, (c 3).trans hV.c3, (c 4).trans hV.c4⟩
end
structure AuP (B G : Nat) (st le : Int) (fs : List Int) (gs : List Bool) (ss : List Stp) (fv gv sv : Value) (W : World) : Prop where
  sz : B ≤ W.heap.size
  obj : W.heap[G]? = some (.cells #[.int .i64 st, .int .i64 le, fv, gv, sv] 26 (0, 0))
  f : W.ownsRow B 3 1 fv fs.length (fs.flatMap viL)
  g : W.ownsRow B 4 1 gv gs.length (gs.flatMap vbL)
  s : W.ownsRow B 54 3 sv ss.length (ss.flatMap Stp.cells)
section
variable {B G : Nat} {st le : Int} {fs : List Int} {gs : List Bool} {ss : List Stp} {fv gv sv : Value} {W W' : World}
theorem AuP.lt (h : AuP B G st le fs gs ss fv gv sv W) : G < W.heap.size := (Array.getElem?_eq_some_iff.1 h.obj).1
theorem AuP.on (h : AuP B G st le fs gs ss fv gv sv W) (hb : Below W.heap.size W W') : AuP B G st le fs gs ss fv gv sv W' :=
  ⟨Nat.le_trans h.sz hb.size, (hb.block G h.lt).trans h.obj, own_below h.f hb, own_below h.g hb, own_below h.s hb⟩
theorem far_app {w w1 w3 : World} {e : TypeId} {size n : Nat} {v : Value} {xs : List Value} (hv : w.ownsRow B e size v n xs) (hB : B ≤ w.heap.size) (hb : Below w.heap.size w w1) (hg : w1.grownBy w3 v.ownBlock) (k : Nat) (x : Value) : Far B [G] w (w3.setCell ⟨G, k, none⟩ x) := by
  refine ⟨hg.os.trans hb.os, hg.tape.trans hb.tape, hg.output.trans hb.output, by have := hb.size; have := hg.size; simp [World.setCell]; omega, fun j hj hne => ?_⟩
  rw [Below.heap_setCell _ _ _ _ (fun e => hne (by rw [show j = G from e]; exact List.mem_singleton.2 rfl)), hg.block j (by have := hb.size; omega) (fun e => by have := (hv.lt j e.symm).1; omega)]
  exact hb.block j (by omega)
theorem AuP.appF (h : AuP B G st le fs gs ss fv gv sv W) (x : Int) (hl : fs.length ≤ 1000000000) :
    AppTo G 2 fv 22 3 #[.int .i64 x] fs.length W (fun v' W' => AuP B G st le (fs ++ [x]) gs ss v' gv sv W' ∧ Far B [G] W W') := by
  obtain ⟨i0, hi0, hz0, hz1, hz2⟩ := info_parts infoInt
  have hlt := h.lt
  have hb : Below W.heap.size W (W.alloc (Obj.cells #[.int .i64 x] 3)) := (Below.refl _ _).alloc (Nat.le_refl _) _
  obtain ⟨A1, c1, e1, hc1, hc2, _⟩ := own_form h.f
  obtain ⟨v3, w3, hr, hown, hg, hat⟩ := run_app (P := Tryd.prog) (W.alloc (Obj.cells #[.int .i64 x] 3)) B 22 22 3 i0 _ 1 8 Tryd.underlying22 hi0 hz0 hz1 hz2 rfl (by decide) _ fs.length _ (own_below h.f hb) (some ⟨W.heap.size, 0, none⟩) 1 1 [.int .i64 x] rfl
    (Rd.new W #[.int .i64 x] 3) (by simp [Value.oneCell']) (by simp only [maxLen]; omega) (by omega) (by have := h.sz; simp; omega)
  obtain ⟨T3, c3, rfl, _, _, _⟩ := own_form hown
  have hG3 := obj_appN h.obj h.f (by decide) hb hg
  obtain ⟨_, _, q, _, _, _, _, fz, _, _⟩ := obj5 hG3
  refine ⟨A1, c1, e1, hc1, hc2, T3, c3, w3, by rw [← e1]; exact hr, q, fz, hg, ⟨⟨by have h1 := hg.size; have h2 := hb.size; have h3 := h.sz; simp only [World.setCell, Array.size_modify]; omega, heap_set2 hG3 _, ?own, own_otherN (B := B) h.g h.f (by decide) hb hg hG3 (by decide) 2 (.slice T3 (fs.length + 1) c3), own_otherN (B := B) h.s h.f (by decide) hb hg hG3 (by decide) 2 (.slice T3 (fs.length + 1) c3)⟩, far_app h.f h.sz hb hg 2 _⟩⟩
  have := own_set_ty hown hG3 (by decide) 2 (.slice T3 (fs.length + 1) c3)
  rw [show (fs ++ [x]).length = fs.length + 1 by simp, show (fs ++ [x]).flatMap viL = fs.flatMap viL ++ [.int .i64 x] by simp [viL]]
  exact this
theorem AuP.appG (h : AuP B G st le fs gs ss fv gv sv W) (x : Bool) (hl : gs.length ≤ 1000000000) :
    AppTo G 3 gv 23 4 #[.bool x] gs.length W (fun v' W' => AuP B G st le fs (gs ++ [x]) ss fv v' sv W' ∧ Far B [G] W W') := by
  obtain ⟨i0, hi0, hz0, hz1, hz2⟩ := info_parts infoBool
  have hlt := h.lt
  have hb : Below W.heap.size W (W.alloc (Obj.cells #[.bool x] 4)) := (Below.refl _ _).alloc (Nat.le_refl _) _
  obtain ⟨A1, c1, e1, hc1, hc2, _⟩ := own_form h.g
  obtain ⟨v3, w3, hr, hown, hg, hat⟩ := run_app (P := Tryd.prog) (W.alloc (Obj.cells #[.bool x] 4)) B 23 23 4 i0 _ 1 1 Tryd.underlying23 hi0 hz0 hz1 hz2 rfl (by decide) _ gs.length _ (own_below h.g hb) (some ⟨W.heap.size, 0, none⟩) 1 1 [.bool x] rfl
    (Rd.new W #[.bool x] 4) (by simp [Value.oneCell']) (by simp only [maxLen]; omega) (by omega) (by have := h.sz; simp; omega)
  obtain ⟨T3, c3, rfl, _, _, _⟩ := own_form hown
  have hG3 := obj_appN h.obj h.g (by decide) hb hg
  obtain ⟨_, _, _, q, _, _, _, _, fz, _⟩ := obj5 hG3
  refine ⟨A1, c1, e1, hc1, hc2, T3, c3, w3, by rw [← e1]; exact hr, q, fz, hg, ⟨⟨by have h1 := hg.size; have h2 := hb.size; have h3 := h.sz; simp only [World.setCell, Array.size_modify]; omega, heap_set3 hG3 _, own_otherN (B := B) h.f h.g (by decide) hb hg hG3 (by decide) 3 (.slice T3 (gs.length + 1) c3), ?own, own_otherN (B := B) h.s h.g (by decide) hb hg hG3 (by decide) 3 (.slice T3 (gs.length + 1) c3)⟩, far_app h.g h.sz hb hg 3 _⟩⟩
  have := own_set_ty hown hG3 (by decide) 3 (.slice T3 (gs.length + 1) c3)
  rw [show (gs ++ [x]).length = gs.length + 1 by simp, show (gs ++ [x]).flatMap vbL = gs.flatMap vbL ++ [.bool x] by simp [vbL]]
  exact this
theorem AuP.appS (h : AuP B G st le fs gs ss fv gv sv W) (x : Stp) (hl : ss.length ≤ 1000000000) :
    AppTo G 4 sv 24 54 #[.int .i64 x.f, .int .i64 x.l, .int .i64 x.t] ss.length W (fun v' W' => AuP B G st le fs gs (ss ++ [x]) fv gv v' W' ∧ Far B [G] W W') := by
  obtain ⟨i0, hi0, hz0, hz1, hz2⟩ := info_parts infoSt
  have hlt := h.lt
  have hb : Below W.heap.size W (W.alloc (Obj.cells #[.int .i64 x.f, .int .i64 x.l, .int .i64 x.t] 54)) := (Below.refl _ _).alloc (Nat.le_refl _) _
  obtain ⟨A1, c1, e1, hc1, hc2, _⟩ := own_form h.s
  obtain ⟨v3, w3, hr, hown, hg, hat⟩ := run_app (P := Tryd.prog) (W.alloc (Obj.cells #[.int .i64 x.f, .int .i64 x.l, .int .i64 x.t] 54)) B 24 24 54 i0 _ 3 24 Tryd.underlying24 hi0 hz0 hz1 hz2 rfl (by decide) _ ss.length _ (own_below h.s hb) (some ⟨W.heap.size, 0, none⟩) 1 1 [.int .i64 x.f, .int .i64 x.l, .int .i64 x.t] rfl
    (Rd.new W #[.int .i64 x.f, .int .i64 x.l, .int .i64 x.t] 54) (by simp [Value.oneCell']) (by simp only [maxLen]; omega) (by omega) (by have := h.sz; simp; omega)
  obtain ⟨T3, c3, rfl, _, _, _⟩ := own_form hown
  have hG3 := obj_appN h.obj h.s (by decide) hb hg
  obtain ⟨_, _, _, _, q, _, _, _, _, fz⟩ := obj5 hG3
  refine ⟨A1, c1, e1, hc1, hc2, T3, c3, w3, by rw [← e1]; exact hr, q, fz, hg, ⟨⟨by have h1 := hg.size; have h2 := hb.size; have h3 := h.sz; simp only [World.setCell, Array.size_modify]; omega, heap_set4 hG3 _, own_otherN (B := B) h.f h.s (by decide) hb hg hG3 (by decide) 4 (.slice T3 (ss.length + 1) c3), own_otherN (B := B) h.g h.s (by decide) hb hg hG3 (by decide) 4 (.slice T3 (ss.length + 1) c3), ?own⟩, far_app h.s h.sz hb hg 4 _⟩⟩
  have := own_set_ty hown hG3 (by decide) 4 (.slice T3 (ss.length + 1) c3)
  rw [show (ss ++ [x]).length = ss.length + 1 by simp, show (ss ++ [x]).flatMap Stp.cells = ss.flatMap Stp.cells ++ [.int .i64 x.f, .int .i64 x.l, .int .i64 x.t] by simp [Stp.cells]]
  exact this
theorem AuP.rd (h : AuP B G st le fs gs ss fv gv sv W) (h1 : fs.length ≤ 1000000000) (h2 : gs.length ≤ 1000000000) (h3 : ss.length ≤ 1000000000) : ∃ A B' C ca cb cc, fv = .slice A fs.length ca ∧ gv = .slice B' gs.length cb ∧ sv = .slice C ss.length cc ∧ AuRd W B ⟨st, le, fs, gs, ss⟩ A B' C ca cb cc := by
  obtain ⟨A, ca, rfl, hA⟩ := SlE.of_own (enc := viL) (bt := 8) h.f (by omega)
  obtain ⟨B, cb, rfl, hB⟩ := SlE.of_own (enc := vbL) (bt := 1) h.g (by omega)
  obtain ⟨C, cc, rfl, hC⟩ := SlE.of_own (enc := Stp.cells) (bt := 24) h.s (by omega)
  exact ⟨A, B, C, ca, cb, cc, rfl, rfl, rfl, hA, hB, hC⟩
end
theorem AuP.states {B G : Nat} {st le : Int} {fs : List Int} {gs : List Bool} {ss : List Stp} {fv gv sv : Value} {W : World} (h : AuP B G st le fs gs ss fv gv sv W) (st' : Int) : AuP B G st' le fs gs ss fv gv sv (W.setCell ⟨G, 0, none⟩ (.int .i64 st')) :=
  ⟨by have := h.sz; simpa [World.setCell] using this, heap_set0 h.obj _, own_set_ty h.f h.obj (by decide) 0 _, own_set_ty h.g h.obj (by decide) 0 _, own_set_ty h.s h.obj (by decide) 0 _⟩
theorem AuP.low {B G : Nat} {st le : Int} {fs : List Int} {gs : List Bool} {ss : List Stp} {fv gv sv : Value} {W : World} (h : AuP B G st le fs gs ss fv gv sv W) {p : Addr} (hp : p.block < B) (hG : p.block ≠ G) (u : Value) : AuP B G st le fs gs ss fv gv sv (W.setCell p u) :=
  ⟨by have := h.sz; simpa [World.setCell] using this, (Below.heap_setCell _ p u G (fun e => hG e.symm)).trans h.obj, own_set h.f hp _, own_set h.g hp _, own_set h.s hp _⟩
end Go.Proofs.YtoglgeaiiipchabDoor
