/- An automaton in the making whose rows may lie wherever the call laid them: they can't meet, for they hold elements of different types. -/
import Derived.Test.YtoglgeaiiipchaaLBTM6
set_option linter.unusedSimpArgs false
set_option linter.unusedVariables false
namespace Go.Proofs.Ytoglgeaiiipchaa
open Go Go.RowKit Go.Sort

/-- a block of elements of another type is no block of the row's -/
theorem own_ty {W : World} {B : Nat} {e t : TypeId} {sz n g : Nat} {v : Value} {xs : List Value} {cs : Array Value} {m : Nat × Nat} (hv : W.ownsRow B e sz v n xs) (ho : W.heap[g]? = some (.cells cs t m)) (ht : t ≠ e) : v.ownBlock ≠ some g := fun hb => by
  rcases hv.2 with ⟨rfl, _⟩ | ⟨g', cap, cur, rfl, _, hh, _⟩
  · cases hb
  · obtain rfl : g' = g := by simpa [Value.ownBlock] using hb
    rw [hh] at ho
    simp at ho
    exact ht ho.2.1.symm
theorem own_set_ty {W : World} {B : Nat} {e t : TypeId} {sz n g : Nat} {v : Value} {xs : List Value} {cs : Array Value} {m : Nat × Nat} (hv : W.ownsRow B e sz v n xs) (ho : W.heap[g]? = some (.cells cs t m)) (ht : t ≠ e) (i : Nat) (u : Value) : (W.setCell ⟨g, i, none⟩ u).ownsRow B e sz v n xs :=
  World.ownsRow.kept hv (grown_set W g i u) (.inr (own_ty hv ho ht))
theorem own_ty2 {W : World} {B B' : Nat} {e e' : TypeId} {sz sz' n n' : Nat} {u v : Value} {xs xs' : List Value} (hu : W.ownsRow B e sz u n xs) (hv : W.ownsRow B' e' sz' v n' xs') (he : e ≠ e') : Aprt u v := by
  unfold Aprt
  cases hk : u.ownBlock with
  | none => exact .inl rfl
  | some g =>
    refine .inr fun h => ?_
    rcases hu.2 with ⟨rfl, _⟩ | ⟨g', cap, cur, rfl, _, hh, _⟩
    · cases hk
    · obtain rfl : g' = g := by simpa [Value.ownBlock] using hk
      exact own_ty hv hh he h.symm
/-- from a base further down -/
theorem own_low {W : World} {B B' : Nat} {e : TypeId} {sz n : Nat} {v : Value} {xs : List Value} (hv : W.ownsRow B e sz v n xs) (hB : B' ≤ B) : W.ownsRow B' e sz v n xs := by
  refine ⟨hv.1, ?_⟩
  rcases hv.2 with h | ⟨g, cap, cur, h1, h2, h3⟩
  · exact .inl h
  · exact .inr ⟨g, cap, cur, h1, Nat.le_trans hB h2, h3⟩

structure AuN (B G : Nat) (st le : Int) (fs : List Int) (gs : List Bool) (ss : List Stp) (fv gv sv : Value) (W : World) : Prop where
  lo : B ≤ G
  obj : W.heap[G]? = some (.cells #[.int .i64 st, .int .i64 le, fv, gv, sv] 49 (0, 0))
  f : W.ownsRow B 3 1 fv fs.length (fs.flatMap viL)
  g : W.ownsRow B 4 1 gv gs.length (gs.flatMap vbL)
  s : W.ownsRow B 90 3 sv ss.length (ss.flatMap Stp.cells)
section
variable {B G : Nat} {st le : Int} {fs : List Int} {gs : List Bool} {ss : List Stp} {fv gv sv : Value} {W W' : World}
theorem AuN.lt (h : AuN B G st le fs gs ss fv gv sv W) : G < W.heap.size := (Array.getElem?_eq_some_iff.1 h.obj).1
theorem AuN.on (h : AuN B G st le fs gs ss fv gv sv W) (hb : Below W.heap.size W W') : AuN B G st le fs gs ss fv gv sv W' :=
  ⟨h.lo, (hb.block G h.lt).trans h.obj, own_below h.f hb, own_below h.g hb, own_below h.s hb⟩
theorem AuM.n (h : AuM G st le fs gs ss fv gv sv W) : AuN G G st le fs gs ss fv gv sv W := ⟨Nat.le_refl _, h.obj, own_low h.f (Nat.le_succ _), own_low h.g (Nat.le_succ _), own_low h.s (Nat.le_succ _)⟩
/-- what an append to one row leaves of another one, behind the store -/
theorem own_otherN {w w1 w3 : World} {e e' : TypeId} {size size' n n' : Nat} {v u : Value} {xs xs' : List Value} {cs : Array Value} {t : TypeId} {m : Nat × Nat} (hu : w.ownsRow B e' size' u n' xs') (hv : w.ownsRow B e size v n xs) (he : e' ≠ e) (hb : Below w.heap.size w w1) (hg : w1.grownBy w3 v.ownBlock)
    (ho : w3.heap[G]? = some (.cells cs t m)) (ht : t ≠ e') (k : Nat) (x : Value) : (w3.setCell ⟨G, k, none⟩ x).ownsRow B e' size' u n' xs' :=
  own_set_ty (World.ownsRow.kept (own_below hu hb) hg (own_ty2 hu hv he)) ho ht k x
theorem below_appN {w w1 w3 : World} {e : TypeId} {size n : Nat} {v : Value} {xs : List Value} (hv : w.ownsRow B e size v n xs) (hG : G < w.heap.size) (hBG : B ≤ G) (hb : Below w.heap.size w w1) (hg : w1.grownBy w3 v.ownBlock) (k : Nat) (x : Value) : Below B w (w3.setCell ⟨G, k, none⟩ x) :=
  ((hb.mono (by omega)).grown hg (by have := hb.size; omega) (fun k hk => (hv.lt k hk).1)).setCell (p := ⟨G, k, none⟩) hBG _
theorem obj_appN {w w1 w3 : World} {e : TypeId} {size n : Nat} {v : Value} {xs : List Value} {cs : Array Value} {t : TypeId} {m : Nat × Nat} (ho : w.heap[G]? = some (.cells cs t m)) (hv : w.ownsRow B e size v n xs) (ht : t ≠ e) (hb : Below w.heap.size w w1) (hg : w1.grownBy w3 v.ownBlock) : w3.heap[G]? = some (.cells cs t m) := by
  have hlt := (Array.getElem?_eq_some_iff.1 ho).1
  exact (hg.block G (by have := hb.size; omega) (fun e => own_ty hv ho ht e.symm)).trans ((hb.block G hlt).trans ho)
theorem AuN.appF (h : AuN B G st le fs gs ss fv gv sv W) (x : Int) (hl : fs.length ≤ 1000000000) :
    AppTo G 2 fv 24 3 #[.int .i64 x] fs.length W (fun v' W' => AuN B G st le (fs ++ [x]) gs ss v' gv sv W' ∧ Below B W W') := by
  obtain ⟨i0, hi0, hz0, hz1, hz2⟩ := info_parts infoInt
  have hlt := h.lt
  have hb : Below W.heap.size W (W.alloc (Obj.cells #[.int .i64 x] 3)) := (Below.refl _ _).alloc (Nat.le_refl _) _
  obtain ⟨A1, c1, e1, hc1, hc2, _⟩ := own_form h.f
  obtain ⟨v3, w3, hr, hown, hg, hat⟩ := run_app (P := Try.prog) (W.alloc (Obj.cells #[.int .i64 x] 3)) B 24 24 3 i0 _ 1 8 Try.underlying24 hi0 hz0 hz1 hz2 rfl (by decide) _ fs.length _ (own_below h.f hb) (some ⟨W.heap.size, 0, none⟩) 1 1 [.int .i64 x] rfl
    (Rd.new W #[.int .i64 x] 3) (by simp [Value.oneCell']) (by simp only [maxLen]; omega) (by omega) (by have := h.lo; simp; omega)
  obtain ⟨T3, c3, rfl, _, _, _⟩ := own_form hown
  have hG3 := obj_appN h.obj h.f (by decide) hb hg
  obtain ⟨_, _, q, _, _, _, _, fz, _, _⟩ := obj5 hG3
  refine ⟨A1, c1, e1, hc1, hc2, T3, c3, w3, by rw [← e1]; exact hr, q, fz, hg, ⟨⟨h.lo, heap_set2 hG3 _, ?own, own_otherN h.g h.f (by decide) hb hg hG3 (by decide) 2 (.slice T3 (fs.length + 1) c3), own_otherN h.s h.f (by decide) hb hg hG3 (by decide) 2 (.slice T3 (fs.length + 1) c3)⟩, below_appN h.f hlt h.lo hb hg 2 _⟩⟩
  have := own_set_ty hown hG3 (by decide) 2 (.slice T3 (fs.length + 1) c3)
  rw [show (fs ++ [x]).length = fs.length + 1 by simp, show (fs ++ [x]).flatMap viL = fs.flatMap viL ++ [.int .i64 x] by simp [viL]]
  exact this
theorem AuN.appG (h : AuN B G st le fs gs ss fv gv sv W) (x : Bool) (hl : gs.length ≤ 1000000000) :
    AppTo G 3 gv 37 4 #[.bool x] gs.length W (fun v' W' => AuN B G st le fs (gs ++ [x]) ss fv v' sv W' ∧ Below B W W') := by
  obtain ⟨i0, hi0, hz0, hz1, hz2⟩ := info_parts infoBool
  have hlt := h.lt
  have hb : Below W.heap.size W (W.alloc (Obj.cells #[.bool x] 4)) := (Below.refl _ _).alloc (Nat.le_refl _) _
  obtain ⟨A1, c1, e1, hc1, hc2, _⟩ := own_form h.g
  obtain ⟨v3, w3, hr, hown, hg, hat⟩ := run_app (P := Try.prog) (W.alloc (Obj.cells #[.bool x] 4)) B 37 37 4 i0 _ 1 1 Try.underlying37 hi0 hz0 hz1 hz2 rfl (by decide) _ gs.length _ (own_below h.g hb) (some ⟨W.heap.size, 0, none⟩) 1 1 [.bool x] rfl
    (Rd.new W #[.bool x] 4) (by simp [Value.oneCell']) (by simp only [maxLen]; omega) (by omega) (by have := h.lo; simp; omega)
  obtain ⟨T3, c3, rfl, _, _, _⟩ := own_form hown
  have hG3 := obj_appN h.obj h.g (by decide) hb hg
  obtain ⟨_, _, _, q, _, _, _, _, fz, _⟩ := obj5 hG3
  refine ⟨A1, c1, e1, hc1, hc2, T3, c3, w3, by rw [← e1]; exact hr, q, fz, hg, ⟨⟨h.lo, heap_set3 hG3 _, own_otherN h.f h.g (by decide) hb hg hG3 (by decide) 3 (.slice T3 (gs.length + 1) c3), ?own, own_otherN h.s h.g (by decide) hb hg hG3 (by decide) 3 (.slice T3 (gs.length + 1) c3)⟩, below_appN h.g hlt h.lo hb hg 3 _⟩⟩
  have := own_set_ty hown hG3 (by decide) 3 (.slice T3 (gs.length + 1) c3)
  rw [show (gs ++ [x]).length = gs.length + 1 by simp, show (gs ++ [x]).flatMap vbL = gs.flatMap vbL ++ [.bool x] by simp [vbL]]
  exact this
theorem AuN.appS (h : AuN B G st le fs gs ss fv gv sv W) (x : Stp) (hl : ss.length ≤ 1000000000) :
    AppTo G 4 sv 47 90 #[.int .i64 x.f, .int .i64 x.l, .int .i64 x.t] ss.length W (fun v' W' => AuN B G st le fs gs (ss ++ [x]) fv gv v' W' ∧ Below B W W') := by
  obtain ⟨i0, hi0, hz0, hz1, hz2⟩ := info_parts infoSt
  have hlt := h.lt
  have hb : Below W.heap.size W (W.alloc (Obj.cells #[.int .i64 x.f, .int .i64 x.l, .int .i64 x.t] 90)) := (Below.refl _ _).alloc (Nat.le_refl _) _
  obtain ⟨A1, c1, e1, hc1, hc2, _⟩ := own_form h.s
  obtain ⟨v3, w3, hr, hown, hg, hat⟩ := run_app (P := Try.prog) (W.alloc (Obj.cells #[.int .i64 x.f, .int .i64 x.l, .int .i64 x.t] 90)) B 47 47 90 i0 _ 3 24 Try.underlying47 hi0 hz0 hz1 hz2 rfl (by decide) _ ss.length _ (own_below h.s hb) (some ⟨W.heap.size, 0, none⟩) 1 1 [.int .i64 x.f, .int .i64 x.l, .int .i64 x.t] rfl
    (Rd.new W #[.int .i64 x.f, .int .i64 x.l, .int .i64 x.t] 90) (by simp [Value.oneCell']) (by simp only [maxLen]; omega) (by omega) (by have := h.lo; simp; omega)
  obtain ⟨T3, c3, rfl, _, _, _⟩ := own_form hown
  have hG3 := obj_appN h.obj h.s (by decide) hb hg
  obtain ⟨_, _, _, _, q, _, _, _, _, fz⟩ := obj5 hG3
  refine ⟨A1, c1, e1, hc1, hc2, T3, c3, w3, by rw [← e1]; exact hr, q, fz, hg, ⟨⟨h.lo, heap_set4 hG3 _, own_otherN h.f h.s (by decide) hb hg hG3 (by decide) 4 (.slice T3 (ss.length + 1) c3), own_otherN h.g h.s (by decide) hb hg hG3 (by decide) 4 (.slice T3 (ss.length + 1) c3), ?own⟩, below_appN h.s hlt h.lo hb hg 4 _⟩⟩
  have := own_set_ty hown hG3 (by decide) 4 (.slice T3 (ss.length + 1) c3)
  rw [show (ss ++ [x]).length = ss.length + 1 by simp, show (ss ++ [x]).flatMap Stp.cells = ss.flatMap Stp.cells ++ [.int .i64 x.f, .int .i64 x.l, .int .i64 x.t] by simp [Stp.cells]]
  exact this
theorem AuN.rd (h : AuN B G st le fs gs ss fv gv sv W) (h1 : fs.length ≤ 1000000000) (h2 : gs.length ≤ 1000000000) (h3 : ss.length ≤ 1000000000) : ∃ A B' C ca cb cc, fv = .slice A fs.length ca ∧ gv = .slice B' gs.length cb ∧ sv = .slice C ss.length cc ∧ AuRd W B ⟨st, le, fs, gs, ss⟩ A B' C ca cb cc := by
  obtain ⟨A, ca, rfl, hA⟩ := SlE.of_own (enc := viL) (bt := 8) h.f (by omega)
  obtain ⟨B, cb, rfl, hB⟩ := SlE.of_own (enc := vbL) (bt := 1) h.g (by omega)
  obtain ⟨C, cc, rfl, hC⟩ := SlE.of_own (enc := Stp.cells) (bt := 24) h.s (by omega)
  exact ⟨A, B, C, ca, cb, cc, rfl, rfl, rfl, hA, hB, hC⟩
end
theorem retAuX {fn : Func} {p u : Tmp} (h : fn.results = #[.cell p 49, .tmp u]) (tmps : Array Value) (w : World) (V : Nat) {v0 v1 v2 v3 v4 x : Value} (hp : tmps[p]? = some (.pointer (some ⟨V, 0, none⟩))) (hx : tmps[u]? = some x)
    (ho : w.heap[V]? = some (.cells #[v0, v1, v2, v3, v4] 49 (0, 0))) : (results fn tmps).run Try.prog w = .ok (.tuple #[.agg #[v0, v1, v2, v3, v4], x]) w := by
  obtain ⟨r0, r1, r2, r3, r4, _⟩ := obj5 ho
  simp [results, h, go_sem, hp, hx, r0, r1, r2, r3, r4]
end Go.Proofs.Ytoglgeaiiipchaa
