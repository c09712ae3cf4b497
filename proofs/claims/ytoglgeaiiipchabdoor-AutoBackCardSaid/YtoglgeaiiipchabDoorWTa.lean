/- Walks: auto.take. -/
import Derived.Test.YtoglgeaiiipchabDoorWHe
import Derived.Test.YtoglgeaiiipchabDoorFld
namespace Go.Proofs.YtoglgeaiiipchabDoor
open Go Go.RowKit Go.Sort

/-- an automaton in the making, in block G: what it holds, and the call's own rows -/
structure PaM (W0 : World) (G : Nat) (a : Au) (W : World) : Prop where
  below : Below G W0 W
  obj : ∃ A ca gv sv base, W.heap[G]? = some (.cells #[.int .i64 a.st, .int .i64 a.le, .slice A a.fs.length ca, gv, .slice sv.1 a.ss.length sv.2] 26 (0, 0)) ∧ G < base ∧ base ≤ W.heap.size ∧ Ints W 0 A ca a.fs ∧ (a.fs ≠ [] → ∃ b off, A = some ⟨b, off, none⟩ ∧ G < b ∧ b < base) ∧
    ((gv = .slice none 0 0 ∧ a.gs = []) ∨ ∃ g, gv = .slice (some ⟨g, 0, none⟩) a.gs.length a.gs.length ∧ G < g ∧ g < base ∧ BRow W g a.gs) ∧ W.ownsRow base 54 3 (.slice sv.1 a.ss.length sv.2) a.ss.length (a.ss.flatMap Stp.cells) ∧ (a.ss = [] → sv = (none, 0))
  gl : a.gs.length ≤ 300
  sl : a.ss.length ≤ 200000
theorem PaM.lt {W0 : World} {G : Nat} {a : Au} {W : World} (h : PaM W0 G a W) : G < W.heap.size := by
  obtain ⟨A, ca, gv, sv, base, h1, _⟩ := h.obj
  exact (Array.getElem?_eq_some_iff.1 h1).1
theorem PaM.on {W0 : World} {G : Nat} {a : Au} {W W' : World} (h : PaM W0 G a W) (hb : Below W.heap.size W W') : PaM W0 G a W' := by
  have hlt := h.lt
  obtain ⟨A, ca, gv, sv, base, h1, h2, h3, h4, h5, h6, h7, h8⟩ := h.obj
  refine ⟨Below_on h.below hb (Nat.le_of_lt hlt), ⟨A, ca, gv, sv, base, (hb.block G hlt).trans h1, h2, Nat.le_trans h3 hb.size, h4.below hb, h5, ?_, own_below h7 hb, h8⟩, h.gl, h.sl⟩
  rcases h6 with h6 | ⟨g, e, i1, i2, i3⟩
  · exact .inl h6
  · exact .inr ⟨g, e, i1, i2, i3.below hb i3.lt⟩
theorem infoSt : (Tryd.prog.info? 54).map (fun i => (i.zero, i.size, i.bytes)) = some (some (.agg #[.int .i64 0, .int .i64 0, .int .i64 0]), 3, 24) := by kernel_rfl
theorem PaM.new (W0 : World) : PaM W0 W0.heap.size nulA (W0.alloc (Obj.cells #[.int .i64 0, .int .i64 0, .slice none 0 0, .slice none 0 0, .slice none 0 0] 26)) := by
  refine ⟨(Below.refl _ _).alloc (Nat.le_refl _) _, ⟨none, 0, .slice none 0 0, (none, 0), W0.heap.size + 1, ?_, by omega, by simp, ints_none _ _, fun h => absurd rfl h, .inl ⟨rfl, rfl⟩, World.ownsRow_nil _ _ _ _, fun _ => rfl⟩, by simp [nulA], by simp [nulA]⟩
  show (W0.heap.push _)[W0.heap.size]? = _
  simp [nulA]
/-- a whole one laid down, out of what a call made -/
theorem PaM.head {W0 : World} {G : Nat} {a a' : Au} {W W1 : World} (h : PaM W0 G a W) (hb : Below W.heap.size W W1) {g : Nat} (hg : W.heap.size ≤ g) (hr : BRow W1 g a'.gs) (hf : a'.fs = []) (hs : a'.ss = []) (hgl : a'.gs.length ≤ 300) :
    PaM W0 G a' (set5 W1 G (.int .i64 a'.st) (.int .i64 a'.le) (.slice none 0 0) (.slice (some ⟨g, 0, none⟩) a'.gs.length a'.gs.length) (.slice none 0 0)) := by
  have h1 := h.on hb
  have hlt := h.lt
  obtain ⟨A, ca, gv, sv, base, o1, _⟩ := h1.obj
  refine ⟨below_set5 h1.below (Nat.le_refl _) _ _ _ _ _, ⟨none, 0, _, (none, 0), W1.heap.size, ?_, h1.lt, by simp [set5, World.setCell], by rw [hf]; exact ints_none _ _, fun e => absurd hf e, .inr ⟨g, rfl, by omega, hr.lt, ?_⟩, by rw [hs]; exact World.ownsRow_nil _ _ _ _, fun _ => rfl⟩, hgl, by rw [hs]; simp⟩
  · rw [hf, hs]
    exact set5_heap o1 _ _ _ _ _
  · unfold set5
    exact ((((hr.set_far (by show g ≠ G; omega) _).set_far (by show g ≠ G; omega) _).set_far (by show g ≠ G; omega) _).set_far (by show g ≠ G; omega) _).set_far (by show g ≠ G; omega) _
theorem heap_set2 {W : World} {G : Nat} {v0 v1 v2 v3 v4 : Value} {t : TypeId} (h : W.heap[G]? = some (.cells #[v0, v1, v2, v3, v4] t (0, 0))) (u : Value) : (W.setCell ⟨G, 2, none⟩ u).heap[G]? = some (.cells #[v0, v1, u, v3, v4] t (0, 0)) := by
  simp [World.setCell, Array.getElem?_modify, h]
theorem heap_set4 {W : World} {G : Nat} {v0 v1 v2 v3 v4 : Value} {t : TypeId} (h : W.heap[G]? = some (.cells #[v0, v1, v2, v3, v4] t (0, 0))) (u : Value) : (W.setCell ⟨G, 4, none⟩ u).heap[G]? = some (.cells #[v0, v1, v2, v3, u] t (0, 0)) := by
  simp [World.setCell, Array.getElem?_modify, h]
theorem Ints.set_far {W : World} {lo : Nat} {A : Option Addr} {c : Nat} {xs : List Int} (h : Ints W lo A c xs) {G i : Nat} (hG : xs ≠ [] → ∃ b off, A = some ⟨b, off, none⟩ ∧ b ≠ G) (u : Value) : Ints (W.setCell ⟨G, i, none⟩ u) lo A c xs := by
  refine ⟨h.le, h.cap, h.max, fun hne => ?_⟩
  have hx : xs ≠ [] := by rintro rfl; exact hne rfl
  obtain ⟨b', off', hA', hbG⟩ := hG hx
  obtain ⟨b, off, hA, hlo, hlt, hc⟩ := h.rd hne
  obtain ⟨rfl, rfl⟩ : b' = b ∧ off' = off := by rw [hA] at hA'; simp at hA'; exact ⟨hA'.1.symm, hA'.2.symm⟩
  refine ⟨b', off', hA, hlo, by simpa [World.setCell] using hlt, fun j u' hu => ?_⟩
  exact (World.cell?_setCell_other _ ⟨G, i, none⟩ ⟨b', off' + j, none⟩ _ (fun e => hbG (by have := congrArg Addr.block e; simpa using this.symm))).trans (hc j u' hu)
/-- the first states laid down -/
theorem PaM.first {W0 : World} {G : Nat} {a : Au} {W W1 : World} (h : PaM W0 G a W) (hs : a.ss = []) (hb : Below W.heap.size W W1) {A : Option Addr} {c : Nat} {l : List Int} (hl : Ints W1 W.heap.size A c l) :
    PaM W0 G { a with fs := l } (W1.setCell ⟨G, 2, none⟩ (.slice A l.length c)) := by
  have h1 := h.on hb
  have hlt := h.lt
  obtain ⟨A0, ca, gv, sv, base, o1, o2, o3, o4, o5, o6, o7, o8⟩ := h1.obj
  have hsv := o8 hs
  subst hsv
  refine ⟨h1.below.setCell (p := ⟨G, 2, none⟩) (Nat.le_refl _) _, ⟨A, c, gv, (none, 0), W1.heap.size, heap_set2 o1 _, h1.lt, by simp [World.setCell], ?_, ?_, ?_, ?_, fun _ => rfl⟩, h.gl, h.sl⟩
  · refine Ints.set_far (hl.low (Nat.zero_le _)) (fun hne => ?_) _
    obtain ⟨b, off, hA, hlo, _, _⟩ := hl.rd (by cases l with | nil => exact absurd rfl hne | cons x r => simp)
    exact ⟨b, off, hA, by omega⟩
  · intro hne
    obtain ⟨b, off, hA, hlo, hlt2, _⟩ := hl.rd (by cases l with | nil => exact absurd rfl hne | cons x r => simp)
    exact ⟨b, off, hA, by omega, hlt2⟩
  · rcases o6 with o6 | ⟨g, e, i1, i2, i3⟩
    · exact .inl o6
    · exact .inr ⟨g, e, i1, i3.lt, i3.set_far (by show g ≠ G; omega) _⟩
  · show World.ownsRow _ _ _ _ _ _ _
    simp only [hs]
    exact World.ownsRow_nil _ _ _ _
/-- the good states marked -/
theorem PaM.good {W0 : World} {G : Nat} {a : Au} {W W1 : World} {g : Nat} {gs : List Bool} (h : PaM W0 G a W) (hG : G < g) (hgr : W.grownBy W1 (some g)) (hr : BRow W1 g gs) (hl : gs.length = a.gs.length)
    (hgv : ∃ A ca sv, W.heap[G]? = some (.cells #[.int .i64 a.st, .int .i64 a.le, .slice A a.fs.length ca, .slice (some ⟨g, 0, none⟩) a.gs.length a.gs.length, sv] 26 (0, 0))) (hrow : BRow W g a.gs) : PaM W0 G { a with gs := gs } W1 := by
  have hlt := h.lt
  obtain ⟨A0, ca, gv, sv, base, o1, o2, o3, o4, o5, o6, o7, o8⟩ := h.obj
  obtain ⟨A', ca', sv', e1⟩ := hgv
  rw [o1] at e1
  simp at e1
  obtain ⟨⟨_, _⟩, hgv, _⟩ := e1
  subst hgv
  have hgb : g < base := by
    rcases o6 with ⟨e, _⟩ | ⟨g', e, _, i2, _⟩
    · cases e
    · simp at e; omega
  refine ⟨?_, ⟨A0, ca, _, sv, base, ?_, o2, Nat.le_trans o3 hgr.size, o4.grown_bool hrow hgr, o5, .inr ⟨g, rfl, hG, hgb, hr⟩, ?_, o8⟩, by simp [hl]; exact h.gl, h.sl⟩
  · exact h.below.grown hgr (Nat.le_of_lt hlt) (fun k hk => by simp at hk; omega)
  · simp only [hl]
    exact (hgr.block G hlt (by simp; omega)).trans o1
  · exact World.ownsRow.kept o7 hgr (.inr (fun e => by have := (o7.lt g e).1; omega))
/-- one step more: the append's run, and what stands behind the store -/
theorem PaM.step {W0 : World} {G : Nat} {a : Au} {W : World} (h : PaM W0 G a W) (s : Stp) (hsl : a.ss.length < 200000) : ∃ A ca gv T c, W.heap[G]? = some (.cells #[.int .i64 a.st, .int .i64 a.le, .slice A a.fs.length ca, gv, .slice T a.ss.length c] 26 (0, 0)) ∧ a.ss.length ≤ c ∧ c ≤ 9223372036854775807 ∧
    ∃ T3 c3 w3, (Builtin.append_ #[24, 24] 24 #[.slice T a.ss.length c, .slice (some ⟨W.heap.size, 0, none⟩) 1 1]).run Tryd.prog (W.alloc (Obj.cells #[.int .i64 s.f, .int .i64 s.l, .int .i64 s.t] 54)) = .ok (.slice T3 (a.ss.length + 1) c3) w3 ∧
      w3.cell? ⟨G, 4, none⟩ = some (.slice T a.ss.length c) ∧ w3.frozen? ⟨G, 4, none⟩ = false ∧ (W.alloc (Obj.cells #[.int .i64 s.f, .int .i64 s.l, .int .i64 s.t] 54)).grownBy w3 (Value.slice T a.ss.length c).ownBlock ∧ (∀ k, (Value.slice T a.ss.length c).ownBlock = some k → k < W.heap.size) ∧ PaM W0 G { a with ss := a.ss ++ [s] } (w3.setCell ⟨G, 4, none⟩ (.slice T3 (a.ss.length + 1) c3)) := by
  obtain ⟨i0, hi0, hz0, hz1, hz2⟩ := info_parts infoSt
  have hlt := h.lt
  obtain ⟨A, ca, gv, sv, base, o1, o2, o3, o4, o5, o6, o7, o8⟩ := h.obj
  have hb : Below W.heap.size W (W.alloc (Obj.cells #[.int .i64 s.f, .int .i64 s.l, .int .i64 s.t] 54)) := (Below.refl _ _).alloc (Nat.le_refl _) _
  obtain ⟨A1, c1, e1, hc1, hc2, _⟩ := own_form o7
  obtain ⟨rfl, rfl⟩ : sv.1 = A1 ∧ sv.2 = c1 := by simpa using e1
  obtain ⟨v3, w3, hr, hown, hg, _⟩ := run_app (P := Tryd.prog) (W.alloc (Obj.cells #[.int .i64 s.f, .int .i64 s.l, .int .i64 s.t] 54)) base 24 24 54 i0 _ 3 24 Tryd.underlying24 hi0 hz0 hz1 hz2 rfl (by decide) _ a.ss.length _ (own_below o7 hb) (some ⟨W.heap.size, 0, none⟩) 1 1 [.int .i64 s.f, .int .i64 s.l, .int .i64 s.t] rfl
    (Rd.new W #[.int .i64 s.f, .int .i64 s.l, .int .i64 s.t] 54) (by simp [Value.oneCell']) (by simp only [maxLen]; omega) (by omega) (by simp; omega)
  obtain ⟨T3, c3, rfl, _, _, _⟩ := own_form hown
  have o1' := (hb.block G hlt).trans o1
  have hne : some G ≠ (Value.slice sv.1 a.ss.length sv.2).ownBlock := own_ne o7 o2
  have hG3 : w3.heap[G]? = _ := (hg.block G (by simp; omega) hne).trans o1'
  obtain ⟨_, _, _, _, q4, _, _, _, _, f4⟩ := obj5 hG3
  have hl2 : (a.ss ++ [s]).length = a.ss.length + 1 := by simp
  have kg : ∀ g, g < base → (w3.setCell ⟨G, 4, none⟩ (.slice T3 (a.ss.length + 1) c3)).heap[g]? = W.heap[g]? ∨ g = G := fun g hgb => by
    by_cases hgG : g = G
    · exact .inr hgG
    · left
      rw [Below.heap_setCell _ ⟨G, 4, none⟩ _ _ hgG, hg.block g (by simp; omega) (fun e => by have := (o7.lt g e.symm).1; omega)]
      exact hb.block g (by omega)
  refine ⟨A, ca, gv, sv.1, sv.2, o1, hc1, hc2, T3, c3, w3, hr, q4, f4, hg, fun k hk => (o7.lt k hk).2, ⟨?_, ⟨A, ca, gv, (T3, c3), base, ?_, o2, ?_, ?_, o5, ?_, ?_, fun e => by simp at e⟩, h.gl, by rw [hl2]; omega⟩⟩
  · exact (((h.below.trans (hb.mono (Nat.le_of_lt hlt))).grown hg (by simp; omega) (fun k hk => by have := (o7.lt k hk).1; omega))).setCell (p := ⟨G, 4, none⟩) (Nat.le_refl _) _
  · simp only [hl2]
    exact heap_set4 hG3 _
  · have := hg.size
    simp [World.setCell] at this ⊢
    omega
  · refine ⟨o4.le, o4.cap, o4.max, fun hne2 => ?_⟩
    have hx : a.fs ≠ [] := fun e => hne2 (by rw [e]; rfl)
    obtain ⟨b', off', hA', hb1, hb2⟩ := o5 hx
    obtain ⟨b, off, hA, hlo, hlt2, hc⟩ := o4.rd hne2
    obtain ⟨rfl, rfl⟩ : b' = b ∧ off' = off := by rw [hA] at hA'; simp at hA'; exact ⟨hA'.1.symm, hA'.2.symm⟩
    refine ⟨b', off', hA, hlo, by have := hg.size; simp [World.setCell] at this ⊢; omega, fun j u hu => ?_⟩
    rcases kg b' hb2 with hk | hk
    · exact (World.cell?_of_block (w := W) (a := ⟨b', off' + j, none⟩) hk).trans (hc j u hu)
    · omega
  · rcases o6 with o6 | ⟨g, e, i1, i2, i3⟩
    · exact .inl o6
    · refine .inr ⟨g, e, i1, i2, ?_⟩
      rcases kg g i2 with hk | hk
      · exact hk.trans i3
      · omega
  · have hown' : w3.ownsRow base 54 3 (.slice T3 (a.ss ++ [s]).length c3) (a.ss ++ [s]).length ((a.ss ++ [s]).flatMap Stp.cells) := by
      rw [hl2, show (a.ss ++ [s]).flatMap Stp.cells = a.ss.flatMap Stp.cells ++ [.int .i64 s.f, .int .i64 s.l, .int .i64 s.t] by simp [Stp.cells]]
      exact hown
    have := ownsRow_setCell_below hown' (a := ⟨G, 4, none⟩) o2 (.slice T3 (a.ss.length + 1) c3)
    show World.ownsRow _ _ _ _ _ _ _
    rw [hl2] at this ⊢
    exact this
end Go.Proofs.YtoglgeaiiipchabDoor
