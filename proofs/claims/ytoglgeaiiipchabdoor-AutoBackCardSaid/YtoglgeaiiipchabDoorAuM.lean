/- An automaton in the making, in a block: three rows of its own, each of which may be appended to. -/
import Derived.Test.YtoglgeaiiipchabDoorWTa
import Derived.Test.YtoglgeaiiipchabDoorTy
namespace Go.Proofs.YtoglgeaiiipchabDoor
open Go Go.RowKit Go.Sort

def viL (n : Int) : List Value := [.int .i64 n]
def vbL (b : Bool) : List Value := [.bool b]
/-- no row shared -/
def Aprt (u v : Value) : Prop := u.ownBlock = none ∨ u.ownBlock ≠ v.ownBlock
theorem Aprt.symm {u v : Value} (h : Aprt u v) : Aprt v u := by
  unfold Aprt at h ⊢
  rcases h with h | h
  · cases hv : v.ownBlock with
    | none => exact .inl rfl
    | some g => exact .inr (by rw [h]; simp)
  · exact .inr (Ne.symm h)
structure AuM (G : Nat) (st le : Int) (fs : List Int) (gs : List Bool) (ss : List Stp) (fv gv sv : Value) (W : World) : Prop where
  obj : W.heap[G]? = some (.cells #[.int .i64 st, .int .i64 le, fv, gv, sv] 26 (0, 0))
  f : W.ownsRow (G + 1) 3 1 fv fs.length (fs.flatMap viL)
  g : W.ownsRow (G + 1) 4 1 gv gs.length (gs.flatMap vbL)
  s : W.ownsRow (G + 1) 54 3 sv ss.length (ss.flatMap Stp.cells)
  fg : Aprt fv gv
  gs_ : Aprt gv sv
  fs_ : Aprt fv sv
section
variable {G : Nat} {st le : Int} {fs : List Int} {gs : List Bool} {ss : List Stp} {fv gv sv : Value} {W W' : World}
theorem AuM.lt (h : AuM G st le fs gs ss fv gv sv W) : G < W.heap.size := (Array.getElem?_eq_some_iff.1 h.obj).1
theorem AuM.on (h : AuM G st le fs gs ss fv gv sv W) (hb : Below W.heap.size W W') : AuM G st le fs gs ss fv gv sv W' :=
  ⟨(hb.block G h.lt).trans h.obj, own_below h.f hb, own_below h.g hb, own_below h.s hb, h.fg, h.gs_, h.fs_⟩
theorem AuM.new (W : World) (le : Int) : AuM W.heap.size 0 le [] [] [] (.slice none 0 0) (.slice none 0 0) (.slice none 0 0) (W.alloc (Obj.cells #[.int .i64 0, .int .i64 le, .slice none 0 0, .slice none 0 0, .slice none 0 0] 26)) := by
  refine ⟨?_, World.ownsRow_nil _ _ _ _, World.ownsRow_nil _ _ _ _, World.ownsRow_nil _ _ _ _, .inl rfl, .inl rfl, .inl rfl⟩
  show (W.heap.push _)[W.heap.size]? = _
  simp
theorem own_set {w : World} {base : Nat} {e : TypeId} {size n : Nat} {v : Value} {xs : List Value} (h : w.ownsRow base e size v n xs) {p : Addr} (hp : p.block < base) (u : Value) : (w.setCell p u).ownsRow base e size v n xs :=
  ownsRow_setCell_below h hp u
/-- a store below -/
theorem AuM.low (h : AuM G st le fs gs ss fv gv sv W) {p : Addr} (hp : p.block < G) (u : Value) : AuM G st le fs gs ss fv gv sv (W.setCell p u) :=
  ⟨(Below.heap_setCell _ p u G (by omega)).trans h.obj, own_set h.f (by omega) _, own_set h.g (by omega) _, own_set h.s (by omega) _, h.fg, h.gs_, h.fs_⟩
theorem heap_set0 {t : TypeId} {v0 v1 v2 v3 v4 : Value} (h : W.heap[G]? = some (.cells #[v0, v1, v2, v3, v4] t (0, 0))) (u : Value) : (W.setCell ⟨G, 0, none⟩ u).heap[G]? = some (.cells #[u, v1, v2, v3, v4] t (0, 0)) := by
  simp [World.setCell, Array.getElem?_modify, h]
theorem heap_set3 {t : TypeId} {v0 v1 v2 v3 v4 : Value} (h : W.heap[G]? = some (.cells #[v0, v1, v2, v3, v4] t (0, 0))) (u : Value) : (W.setCell ⟨G, 3, none⟩ u).heap[G]? = some (.cells #[v0, v1, v2, u, v4] t (0, 0)) := by
  simp [World.setCell, Array.getElem?_modify, h]
/-- the count of states -/
theorem AuM.states (h : AuM G st le fs gs ss fv gv sv W) (st' : Int) : AuM G st' le fs gs ss fv gv sv (W.setCell ⟨G, 0, none⟩ (.int .i64 st')) :=
  ⟨heap_set0 h.obj _, own_set h.f (by show G < _; omega) _, own_set h.g (by show G < _; omega) _, own_set h.s (by show G < _; omega) _, h.fg, h.gs_, h.fs_⟩
/-- what an append to one row leaves of another one -/
theorem own_other {w w1 w3 : World} {base : Nat} {e e' : TypeId} {size size' n n' : Nat} {v u v3 : Value} {xs xs' : List Value} (hu : w.ownsRow base e' size' u n' xs') (hv : w.ownsRow base e size v n xs) (ha : Aprt u v) (hb : Below w.heap.size w w1) (hg : w1.grownBy w3 v.ownBlock)
    (h3 : v3.ownBlock = v.ownBlock ∨ v3.ownBlock = some w1.heap.size) {p : Addr} (hp : p.block < base) (x : Value) : (w3.setCell p x).ownsRow base e' size' u n' xs' ∧ Aprt u v3 := by
  refine ⟨own_set (World.ownsRow.kept (own_below hu hb) hg ?_) hp _, ?_⟩
  · exact ha
  · rcases h3 with h3 | h3
    · unfold Aprt at ha ⊢
      rw [h3]; exact ha
    · cases hk : u.ownBlock with
      | none => exact .inl hk
      | some g =>
        refine .inr ?_
        rw [hk, h3]
        have := (hu.lt g hk).2
        have := hb.size
        intro e
        have := Option.some.inj e
        omega
theorem below_app {w w1 w3 : World} {G : Nat} {e : TypeId} {size n : Nat} {v : Value} {xs : List Value} (hv : w.ownsRow (G + 1) e size v n xs) (hG : G < w.heap.size) (hb : Below w.heap.size w w1) (hg : w1.grownBy w3 v.ownBlock) (k : Nat) (x : Value) : Below G w (w3.setCell ⟨G, k, none⟩ x) :=
  ((hb.mono (Nat.le_of_lt hG)).grown hg (by have := hb.size; omega) (fun k hk => by have := (hv.lt k hk).1; omega)).setCell (p := ⟨G, k, none⟩) (Nat.le_refl _) _
theorem obj_app {w w1 w3 : World} {G : Nat} {o : Obj} {e : TypeId} {size n : Nat} {v : Value} {xs : List Value} (ho : w.heap[G]? = some o) (hv : w.ownsRow (G + 1) e size v n xs) (hb : Below w.heap.size w w1) (hg : w1.grownBy w3 v.ownBlock) : w3.heap[G]? = some o := by
  have hlt := (Array.getElem?_eq_some_iff.1 ho).1
  exact (hg.block G (by have := hb.size; omega) (own_ne hv (Nat.lt_succ_self G))).trans ((hb.block G hlt).trans ho)
end
/-- what stands ahead of an append and behind the store, whatever is appended -/
def AppTo (G k : Nat) (v : Value) (t e : TypeId) (cs : Array Value) (n : Nat) (W : World) (Q : Value → World → Prop) : Prop :=
  ∃ A c, v = .slice A n c ∧ n ≤ c ∧ c ≤ 9223372036854775807 ∧ ∃ T3 c3 w3, (Builtin.append_ #[t, t] t #[.slice A n c, .slice (some ⟨W.heap.size, 0, none⟩) 1 1]).run Tryd.prog (W.alloc (Obj.cells cs e)) = .ok (.slice T3 (n + 1) c3) w3 ∧
    w3.cell? ⟨G, k, none⟩ = some v ∧ w3.frozen? ⟨G, k, none⟩ = false ∧ (W.alloc (Obj.cells cs e)).grownBy w3 v.ownBlock ∧ Q (.slice T3 (n + 1) c3) (w3.setCell ⟨G, k, none⟩ (.slice T3 (n + 1) c3))
theorem AuM.appF {G : Nat} {st le : Int} {fs : List Int} {gs : List Bool} {ss : List Stp} {fv gv sv : Value} {W : World} (h : AuM G st le fs gs ss fv gv sv W) (x : Int) (hl : fs.length < 200000) :
    AppTo G 2 fv 22 3 #[.int .i64 x] fs.length W (fun v' W' => AuM G st le (fs ++ [x]) gs ss v' gv sv W' ∧ Below G W W') := by
  obtain ⟨i0, hi0, hz0, hz1, hz2⟩ := info_parts infoInt
  have hlt := h.lt
  have hb : Below W.heap.size W (W.alloc (Obj.cells #[.int .i64 x] 3)) := (Below.refl _ _).alloc (Nat.le_refl _) _
  obtain ⟨A1, c1, e1, hc1, hc2, _⟩ := own_form h.f
  obtain ⟨v3, w3, hr, hown, hg, hat⟩ := run_app (P := Tryd.prog) (W.alloc (Obj.cells #[.int .i64 x] 3)) (G + 1) 22 22 3 i0 _ 1 8 Tryd.underlying22 hi0 hz0 hz1 hz2 rfl (by decide) _ fs.length _ (own_below h.f hb) (some ⟨W.heap.size, 0, none⟩) 1 1 [.int .i64 x] rfl
    (Rd.new W #[.int .i64 x] 3) (by simp [Value.oneCell']) (by simp only [maxLen]; omega) (by omega) (by simp; omega)
  obtain ⟨T3, c3, rfl, _, _, _⟩ := own_form hown
  have hG3 := obj_app h.obj h.f hb hg
  obtain ⟨_, _, q2, _, _, _, _, f2, _, _⟩ := obj5 hG3
  obtain ⟨k1, k2⟩ := own_other h.g h.f h.fg.symm hb hg hat (p := ⟨G, 2, none⟩) (Nat.lt_succ_self G) (.slice T3 (fs.length + 1) c3)
  obtain ⟨k3, k4⟩ := own_other h.s h.f h.fs_.symm hb hg hat (p := ⟨G, 2, none⟩) (Nat.lt_succ_self G) (.slice T3 (fs.length + 1) c3)
  refine ⟨A1, c1, e1, hc1, hc2, T3, c3, w3, by rw [← e1]; exact hr, q2, f2, hg, ⟨⟨heap_set2 hG3 _, ?_, k1, k3, k2.symm, h.gs_, k4.symm⟩, below_app h.f hlt hb hg 2 _⟩⟩
  have := own_set hown (p := ⟨G, 2, none⟩) (Nat.lt_succ_self G) (.slice T3 (fs.length + 1) c3)
  simpa [viL] using this
theorem AuM.appG {G : Nat} {st le : Int} {fs : List Int} {gs : List Bool} {ss : List Stp} {fv gv sv : Value} {W : World} (h : AuM G st le fs gs ss fv gv sv W) (x : Bool) (hl : gs.length < 200000) :
    AppTo G 3 gv 23 4 #[.bool x] gs.length W (fun v' W' => AuM G st le fs (gs ++ [x]) ss fv v' sv W' ∧ Below G W W') := by
  obtain ⟨i0, hi0, hz0, hz1, hz2⟩ := info_parts infoBool
  have hlt := h.lt
  have hb : Below W.heap.size W (W.alloc (Obj.cells #[.bool x] 4)) := (Below.refl _ _).alloc (Nat.le_refl _) _
  obtain ⟨A1, c1, e1, hc1, hc2, _⟩ := own_form h.g
  obtain ⟨v3, w3, hr, hown, hg, hat⟩ := run_app (P := Tryd.prog) (W.alloc (Obj.cells #[.bool x] 4)) (G + 1) 23 23 4 i0 _ 1 1 Tryd.underlying23 hi0 hz0 hz1 hz2 rfl (by decide) _ gs.length _ (own_below h.g hb) (some ⟨W.heap.size, 0, none⟩) 1 1 [.bool x] rfl
    (Rd.new W #[.bool x] 4) (by simp [Value.oneCell']) (by simp only [maxLen]; omega) (by omega) (by simp; omega)
  obtain ⟨T3, c3, rfl, _, _, _⟩ := own_form hown
  have hG3 := obj_app h.obj h.g hb hg
  obtain ⟨_, _, _, q3, _, _, _, _, f3, _⟩ := obj5 hG3
  obtain ⟨k1, k2⟩ := own_other h.f h.g h.fg hb hg hat (p := ⟨G, 3, none⟩) (Nat.lt_succ_self G) (.slice T3 (gs.length + 1) c3)
  obtain ⟨k3, k4⟩ := own_other h.s h.g h.gs_.symm hb hg hat (p := ⟨G, 3, none⟩) (Nat.lt_succ_self G) (.slice T3 (gs.length + 1) c3)
  refine ⟨A1, c1, e1, hc1, hc2, T3, c3, w3, by rw [← e1]; exact hr, q3, f3, hg, ⟨⟨heap_set3 hG3 _, k1, ?_, k3, k2, k4.symm, h.fs_⟩, below_app h.g hlt hb hg 3 _⟩⟩
  have := own_set hown (p := ⟨G, 3, none⟩) (Nat.lt_succ_self G) (.slice T3 (gs.length + 1) c3)
  simpa [vbL] using this
theorem AuM.appS {G : Nat} {st le : Int} {fs : List Int} {gs : List Bool} {ss : List Stp} {fv gv sv : Value} {W : World} (h : AuM G st le fs gs ss fv gv sv W) (x : Stp) (hl : ss.length < 200000) :
    AppTo G 4 sv 24 54 #[.int .i64 x.f, .int .i64 x.l, .int .i64 x.t] ss.length W (fun v' W' => AuM G st le fs gs (ss ++ [x]) fv gv v' W' ∧ Below G W W') := by
  obtain ⟨i0, hi0, hz0, hz1, hz2⟩ := info_parts infoSt
  have hlt := h.lt
  have hb : Below W.heap.size W (W.alloc (Obj.cells #[.int .i64 x.f, .int .i64 x.l, .int .i64 x.t] 54)) := (Below.refl _ _).alloc (Nat.le_refl _) _
  obtain ⟨A1, c1, e1, hc1, hc2, _⟩ := own_form h.s
  obtain ⟨v3, w3, hr, hown, hg, hat⟩ := run_app (P := Tryd.prog) (W.alloc (Obj.cells #[.int .i64 x.f, .int .i64 x.l, .int .i64 x.t] 54)) (G + 1) 24 24 54 i0 _ 3 24 Tryd.underlying24 hi0 hz0 hz1 hz2 rfl (by decide) _ ss.length _ (own_below h.s hb) (some ⟨W.heap.size, 0, none⟩) 1 1 [.int .i64 x.f, .int .i64 x.l, .int .i64 x.t] rfl
    (Rd.new W #[.int .i64 x.f, .int .i64 x.l, .int .i64 x.t] 54) (by simp [Value.oneCell']) (by simp only [maxLen]; omega) (by omega) (by simp; omega)
  obtain ⟨T3, c3, rfl, _, _, _⟩ := own_form hown
  have hG3 := obj_app h.obj h.s hb hg
  obtain ⟨_, _, _, _, q4, _, _, _, _, f4⟩ := obj5 hG3
  obtain ⟨k1, k2⟩ := own_other h.f h.s h.fs_ hb hg hat (p := ⟨G, 4, none⟩) (Nat.lt_succ_self G) (.slice T3 (ss.length + 1) c3)
  obtain ⟨k3, k4⟩ := own_other h.g h.s h.gs_ hb hg hat (p := ⟨G, 4, none⟩) (Nat.lt_succ_self G) (.slice T3 (ss.length + 1) c3)
  refine ⟨A1, c1, e1, hc1, hc2, T3, c3, w3, by rw [← e1]; exact hr, q4, f4, hg, ⟨⟨heap_set4 hG3 _, k1, k3, ?_, h.fg, k4, k2⟩, below_app h.s hlt hb hg 4 _⟩⟩
  have := own_set hown (p := ⟨G, 4, none⟩) (Nat.lt_succ_self G) (.slice T3 (ss.length + 1) c3)
  rw [show (ss ++ [x]).length = ss.length + 1 by simp, show (ss ++ [x]).flatMap Stp.cells = ss.flatMap Stp.cells ++ [.int .i64 x.f, .int .i64 x.l, .int .i64 x.t] by simp [Stp.cells]]
  exact this
end Go.Proofs.YtoglgeaiiipchabDoor
