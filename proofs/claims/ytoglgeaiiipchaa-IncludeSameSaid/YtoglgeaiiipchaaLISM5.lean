/- Plain: from which states a loop lives, by its box; a lasso is taken just if its head leads there; a loop that tells two automata apart need not be long. -/
import Derived.Test.YtoglgeaiiipchaaLISM4
set_option linter.unusedSimpArgs false
set_option linter.unusedVariables false
namespace Go.Proofs.Ytoglgeaiiipchaa

/-- a path by letters; with the mark: that comes to a good state behind its beginning -/
inductive PathG (a : Au) : Bool → Int → List Int → Int → Prop
  | nil (x : Int) : PathG a false x [] x
  | go {g : Bool} {x y z c : Int} {w : List Int} : PathG a g x w y → (⟨y, c, z⟩ : Stp) ∈ a.ss → PathG a g x (w ++ [c]) z
  | hit {g : Bool} {x y z c : Int} {w : List Int} : PathG a g x w y → (⟨y, c, z⟩ : Stp) ∈ a.ss → a.good z → PathG a true x (w ++ [c]) z
section
variable {a : Au}
theorem PathG.trans {g g' : Bool} {x y z : Int} {w w' : List Int} (h : PathG a g x w y) (h' : PathG a g' y w' z) : PathG a (g || g') x (w ++ w') z := by
  induction h' with
  | nil => rw [Bool.or_false, List.append_nil]; exact h
  | go _ hs ih => rw [← List.append_assoc]; exact .go (ih h) hs
  | hit _ hs hg ih => rw [← List.append_assoc, Bool.or_true]; exact .hit (ih h) hs hg
theorem PathG.forget {g : Bool} {x y : Int} {w : List Int} (h : PathG a g x w y) : PathG a false x w y := by
  induction h with
  | nil => exact .nil _
  | go _ hs ih => exact .go ih hs
  | hit _ hs _ ih => exact .go ih hs
theorem snoc_cases (l : List Int) : l = [] ∨ ∃ l' c, l = l' ++ [c] := by
  by_cases h : l = []
  · exact .inl h
  · exact .inr ⟨l.dropLast, l.getLast h, (List.dropLast_concat_getLast h).symm⟩
theorem PathG.split {g : Bool} {x z : Int} {w w' : List Int} (h : PathG a g x (w ++ w') z) : ∃ g1 g2 y, PathG a g1 x w y ∧ PathG a g2 y w' z ∧ (g = true → (g1 || g2) = true) := by
  generalize hv : w ++ w' = v at h
  induction h generalizing w w' with
  | nil x =>
    obtain ⟨rfl, rfl⟩ := List.append_eq_nil_iff.1 hv
    exact ⟨false, false, x, .nil _, .nil _, fun h => by cases h⟩
  | @go g x y z c v h hs ih =>
    rcases snoc_cases w' with rfl | ⟨w'', c', rfl⟩
    · rw [List.append_nil] at hv
      subst hv
      exact ⟨g, false, z, .go h hs, .nil _, fun h => by simp [h]⟩
    · rw [← List.append_assoc] at hv
      obtain ⟨hv2, hc⟩ := List.append_inj' hv rfl
      simp only [List.cons.injEq, and_true] at hc
      subst hc
      obtain ⟨g1, g2, y, h1, h2, h3⟩ := ih hv2
      exact ⟨g1, g2, y, h1, .go h2 hs, h3⟩
  | @hit g x y z c v h hs hg ih =>
    rcases snoc_cases w' with rfl | ⟨w'', c', rfl⟩
    · rw [List.append_nil] at hv
      subst hv
      exact ⟨true, false, z, .hit h hs hg, .nil _, fun _ => by simp⟩
    · rw [← List.append_assoc] at hv
      obtain ⟨hv2, hc⟩ := List.append_inj' hv rfl
      simp only [List.cons.injEq, and_true] at hc
      subst hc
      obtain ⟨g1, g2, y, h1, h2, h3⟩ := ih hv2
      exact ⟨g1, true, y, h1, .hit h2 hs hg, fun _ => by simp⟩
theorem PathG.pos {x y : Int} {w : List Int} (h : PathG a true x w y) : 0 < w.length := by
  generalize hg : true = g at h
  cases h with
  | nil => cases hg
  | go => simp
  | hit => simp
theorem PathG.state (ho : AuFit a) {g : Bool} {x y : Int} {w : List Int} (h : PathG a g x w y) (hx : 0 ≤ x ∧ x < a.st) : 0 ≤ y ∧ y < a.st := by
  cases h with
  | nil => exact hx
  | go _ hs => exact (ho.sr _ hs).2.1
  | hit _ hs _ => exact (ho.sr _ hs).2.1
theorem PathG.way {g : Bool} {x y : Int} {w : List Int} (h : PathG a g x w y) {u : Nat → Int} {i : Nat} (hu : ∀ k, k < w.length → u (i + k) = w.getD k 0) : Way a u g i x (i + w.length) y := by
  induction h with
  | nil => exact .refl _ _
  | @go g x y z c w _ hs ih =>
    rw [List.length_append, List.length_singleton, ← Nat.add_assoc]
    refine .go (ih fun k hk => ?_) ?_
    · rw [hu k (by rw [List.length_append]; omega), List.getD_eq_getElem?_getD, List.getElem?_append_left hk, ← List.getD_eq_getElem?_getD]
    · rw [hu w.length (by simp), List.getD_eq_getElem?_getD, List.getElem?_append_right (Nat.le_refl _)]
      simpa using hs
  | @hit g x y z c w _ hs hg ih =>
    rw [List.length_append, List.length_singleton, ← Nat.add_assoc]
    refine .hit (ih fun k hk => ?_) ?_ hg
    · rw [hu k (by rw [List.length_append]; omega), List.getD_eq_getElem?_getD, List.getElem?_append_left hk, ← List.getD_eq_getElem?_getD]
    · rw [hu w.length (by simp), List.getD_eq_getElem?_getD, List.getElem?_append_right (Nat.le_refl _)]
      simpa using hs
/-- the letters of a word from one place to another one -/
def seg (u : Nat → Int) (i d : Nat) : List Int := (List.range d).map fun k => u (i + k)
theorem seg_succ (u : Nat → Int) (i d : Nat) : seg u i (d + 1) = seg u i d ++ [u (i + d)] := by
  unfold seg
  rw [List.range_succ, List.map_append]; rfl
theorem seg_len (u : Nat → Int) (i d : Nat) : (seg u i d).length = d := by simp [seg]
theorem Way.pathG {u : Nat → Int} {g : Bool} {i j : Nat} {x y : Int} (h : Way a u g i x j y) : PathG a g x (seg u i (j - i)) y := by
  induction h with
  | refl => rw [Nat.sub_self]; exact .nil _
  | @go g i j q p p' h hs ih =>
    have := h.le
    rw [show j + 1 - i = (j - i) + 1 by omega, seg_succ, show i + (j - i) = j by omega]
    exact .go ih hs
  | @hit g i j q p p' h hs hg ih =>
    have := h.le
    rw [show j + 1 - i = (j - i) + 1 by omega, seg_succ, show i + (j - i) = j by omega]
    exact .hit ih hs hg
end
/-- a word so many times -/
def times (v : List Int) : Nat → List Int
  | 0 => []
  | n + 1 => times v n ++ v
theorem times_len (v : List Int) : ∀ n, (times v n).length = v.length * n
  | 0 => rfl
  | n + 1 => by rw [times, List.length_append, times_len v n, Nat.mul_succ]
theorem times_add (v : List Int) (m : Nat) : ∀ n, times v (m + n) = times v m ++ times v n
  | 0 => by simp [times]
  | n + 1 => by rw [← Nat.add_assoc, times, times_add v m n, times, List.append_assoc]
theorem seg_getD {u : Nat → Int} {i d k : Nat} (h : k < d) : (seg u i d).getD k 0 = u (i + k) := by
  unfold seg
  rw [List.getD_eq_getElem?_getD, List.getElem?_map, List.getElem?_range h]; rfl
theorem ext_getD {xs ys : List Int} (hl : xs.length = ys.length) (h : ∀ k, k < xs.length → xs.getD k 0 = ys.getD k 0) : xs = ys := by
  refine List.ext_getElem hl fun i h1 h2 => ?_
  have := h i h1
  rwa [getD_lt h1, getD_lt h2] at this
theorem times_getD (v : List Int) : ∀ (n k : Nat), k < v.length * n → (times v n).getD k 0 = v.getD (k % v.length) 0
  | 0, k, h => by simp at h
  | n + 1, k, h => by
    rw [Nat.mul_succ] at h
    rw [times, getD_append, times_len]
    split
    · rename_i h1; exact times_getD v n k h1
    · rename_i h1
      have : k % v.length = k - v.length * n := by
        rw [show k = k - v.length * n + v.length * n by omega, Nat.add_mul_mod_self_left, Nat.mod_eq_of_lt (by omega)]
        omega
      rw [this]
theorem la_head (l : La) : seg l.at 0 l.h.length = l.h := ext_getD (seg_len _ _ _) fun k hk => by
  rw [seg_len] at hk
  rw [seg_getD hk, Nat.zero_add, La.at_head hk]
theorem la_times (l : La) (j n : Nat) : seg l.at (l.h.length + l.l.length * j) (l.l.length * n) = times l.l n := ext_getD (by rw [seg_len, times_len]) fun k hk => by
  rw [seg_len] at hk
  rw [seg_getD hk, times_getD _ _ _ hk, show l.h.length + l.l.length * j + k = (l.h.length + k) + l.l.length * j by omega, La.at_add (by omega)]
  unfold La.at
  rw [if_neg (by omega), show l.h.length + k - l.h.length = k by omega]
theorem seg_add (u : Nat → Int) (i d : Nat) : ∀ e, seg u i (d + e) = seg u i d ++ seg u (i + d) e
  | 0 => by simp [seg]
  | e + 1 => by rw [← Nat.add_assoc, seg_succ, seg_add u i d e, seg_succ, List.append_assoc, Nat.add_assoc]
/-- **taken: by a path to where loops lead round by a good state** -/
theorem takes_paths {a : Au} (ho : AuOK a) {l : La} (hp : 0 < l.l.length) : TakesU a l.at ↔ ∃ f ∈ a.fs, ∃ j q m, 0 < m ∧ PathG a false f (l.h ++ times l.l j) q ∧ PathG a true q (times l.l m) q := by
  rw [takes_loop ho hp]
  constructor
  · rintro ⟨q, ⟨f, hf, j, hj⟩, m, hm, _, hw⟩
    refine ⟨f, hf, j, q, m, hm, ?_, ?_⟩
    · have := hj.pathG
      rw [Nat.sub_zero, seg_add, Nat.zero_add, la_head] at this
      have e := la_times l 0 j
      rw [Nat.mul_zero, Nat.add_zero] at e
      rwa [e] at this
    · have := hw.pathG
      rw [show l.h.length + l.l.length * m - l.h.length = l.l.length * m by omega] at this
      have e := la_times l 0 m
      rw [Nat.mul_zero, Nat.add_zero] at e
      rwa [e] at this
  · rintro ⟨f, hf, j, q, m, hm, h1, h2⟩
    -- so many loops may be more than the reference asks: taken all the same
    rw [← takes_loop ho hp]
    have w1 := h1.way (u := l.at) (i := 0) (fun k hk => by
      rw [Nat.zero_add, getD_append]
      rw [List.length_append, times_len] at hk
      split
      · rename_i h; exact La.at_head h
      · rename_i h
        rw [times_getD _ _ _ (by omega)]
        unfold La.at
        rw [if_neg h])
    rw [Nat.zero_add, List.length_append, times_len] at w1
    have w2 := h2.way (u := l.at) (i := l.h.length + l.l.length * j) (fun k hk => by
      rw [times_len] at hk
      rw [times_getD _ _ _ hk, show l.h.length + l.l.length * j + k = (l.h.length + k) + l.l.length * j by omega, La.at_add (by omega)]
      unfold La.at
      rw [if_neg (by omega), show l.h.length + k - l.h.length = k by omega])
    rw [times_len] at w2
    exact takes_of_circle hf w1 w2 (fun i hi => La.at_add (by omega))

/-- a box: nine marks, row by row -/
abbrev Bx := List Nat
def bg (B : Bx) (i j : Nat) : Nat := B.getD (3 * i + j) 0
structure BoxOf (a : Au) (w : List Int) (B : Bx) : Prop where
  len : B.length = 9
  le : ∀ i j, i < 3 → j < 3 → bg B i j ≤ 2
  pos : ∀ i j : Nat, i < 3 → j < 3 → (0 < bg B i j ↔ PathG a false i w j)
  two : ∀ i j : Nat, i < 3 → j < 3 → (bg B i j = 2 ↔ PathG a true i w j)
theorem BoxOf.unique {a : Au} {w : List Int} {B B' : Bx} (h : BoxOf a w B) (h' : BoxOf a w B') : B = B' := by
  refine List.ext_getElem (by rw [h.len, h'.len]) fun n h1 h2 => ?_
  rw [h.len] at h1
  have e : n = 3 * (n / 3) + n % 3 := by omega
  have a1 := h.le (n / 3) (n % 3) (by omega) (by omega)
  have a2 := h'.le (n / 3) (n % 3) (by omega) (by omega)
  have a3 := (h.pos (n / 3) (n % 3) (by omega) (by omega)).trans (h'.pos (n / 3) (n % 3) (by omega) (by omega)).symm
  have a4 := (h.two (n / 3) (n % 3) (by omega) (by omega)).trans (h'.two (n / 3) (n % 3) (by omega) (by omega)).symm
  have g1 : bg B (n / 3) (n % 3) = B[n] := by unfold bg; rw [← e, getD_lt]
  have g2 : bg B' (n / 3) (n % 3) = B'[n] := by unfold bg; rw [← e, getD_lt]
  rw [g1] at a1 a3 a4
  rw [g2] at a2 a3 a4
  omega
/-- what two boxes make, one behind the other -/
structure Beh (X Y Z : Bx) : Prop where
  len : Z.length = 9
  eq : ∀ i j, i < 3 → j < 3 → (∀ k, k < 3 → 0 < bg X i k → 0 < bg Y k j → max (bg X i k) (bg Y k j) ≤ bg Z i j) ∧ (bg Z i j = 0 ∨ ∃ k, k < 3 ∧ 0 < bg X i k ∧ 0 < bg Y k j ∧ bg Z i j = max (bg X i k) (bg Y k j))
theorem small_state {a : Au} (hf : AuFit a) (h3 : a.st ≤ 3) {g : Bool} {i : Nat} {y : Int} {w : List Int} (h : PathG a g i w y) (hi : i < 3) : ∃ k : Nat, k < 3 ∧ (k : Int) = y := by
  cases h with
  | nil => exact ⟨i, hi, rfl⟩
  | go _ hs => have := (hf.sr _ hs).2.1; simp only at this; exact ⟨y.toNat, by omega, by omega⟩
  | hit _ hs _ => have := (hf.sr _ hs).2.1; simp only at this; exact ⟨y.toNat, by omega, by omega⟩
theorem beh_box {a : Au} (hf : AuFit a) (h3 : a.st ≤ 3) {v w : List Int} {X Y Z : Bx} (hX : BoxOf a v X) (hY : BoxOf a w Y) (h : Beh X Y Z) : BoxOf a (v ++ w) Z := by
  have pos : ∀ i j : Nat, i < 3 → j < 3 → (0 < bg Z i j ↔ PathG a false i (v ++ w) j) := by
    intro i j hi hj
    constructor
    · intro hz
      rcases (h.eq i j hi hj).2 with h0 | ⟨k, hk, x0, y0, _⟩
      · omega
      · exact ((hX.pos i k hi hk).1 x0).trans ((hY.pos k j hk hj).1 y0)
    · intro hp
      obtain ⟨g1, g2, y, p1, p2, _⟩ := hp.split
      obtain ⟨k, hk, rfl⟩ := small_state hf h3 p1 hi
      have x0 := (hX.pos i k hi hk).2 p1.forget
      have := (h.eq i j hi hj).1 k hk x0 ((hY.pos k j hk hj).2 p2.forget)
      omega
  refine ⟨h.len, fun i j hi hj => ?_, pos, fun i j hi hj => ?_⟩
  · rcases (h.eq i j hi hj).2 with h0 | ⟨k, hk, _, _, e⟩
    · omega
    · have := hX.le i k hi hk
      have := hY.le k j hk hj
      omega
  · constructor
    · intro hz
      rcases (h.eq i j hi hj).2 with h0 | ⟨k, hk, x0, y0, e⟩
      · omega
      · have q1 := (hX.pos i k hi hk).1 x0
        have q2 := (hY.pos k j hk hj).1 y0
        have l1 := hX.le i k hi hk
        have l2 := hY.le k j hk hj
        by_cases hx : bg X i k = 2
        · exact ((hX.two i k hi hk).1 hx).trans q2
        · have : bg Y k j = 2 := by omega
          exact q1.trans ((hY.two k j hk hj).1 this)
    · intro hp
      obtain ⟨g1, g2, y, p1, p2, hg⟩ := hp.split
      obtain ⟨k, hk, rfl⟩ := small_state hf h3 p1 hi
      have x0 := (hX.pos i k hi hk).2 p1.forget
      have y0 := (hY.pos k j hk hj).2 p2.forget
      have h1 := (h.eq i j hi hj).1 k hk x0 y0
      have hle : bg Z i j ≤ 2 := by
        rcases (h.eq i j hi hj).2 with h0 | ⟨k, hk, _, _, e⟩
        · omega
        · have := hX.le i k hi hk
          have := hY.le k j hk hj
          omega
      cases g1 with
      | true => have := (hX.two i k hi hk).2 p1; omega
      | false =>
        cases g2 with
        | true => have := (hY.two k j hk hj).2 p2; omega
        | false => have := hg rfl; simp at this
/-- of one letter -/
theorem letter_box {a : Au} (hf : AuFit a) {c : Int} {B : Bx} (hl : B.length = 9)
    (h : ∀ i j : Nat, i < 3 → j < 3 → bg B i j = if (⟨i, c, j⟩ : Stp) ∈ a.ss then (if a.gs.getD j false = true then 2 else 1) else 0) : BoxOf a [c] B := by
  have one : ∀ {g : Bool} {x y : Int}, PathG a g x [c] y ↔ (⟨x, c, y⟩ : Stp) ∈ a.ss ∧ (g = true → a.good y) := by
    intro g x y
    constructor
    · intro hp
      generalize hv : [c] = v at hp
      cases hp with
      | nil => cases hv
      | @go _ _ _ _ c' w hp hs =>
        obtain ⟨h1, h2⟩ := List.append_inj' (s₁ := []) (t₁ := [c]) (s₂ := w) (t₂ := [c']) (by simpa using hv) rfl
        subst h1
        simp only [List.cons.injEq, and_true] at h2
        subst h2
        generalize hn : ([] : List Int) = n at hp
        cases hp with
        | nil => exact ⟨hs, fun h => by cases h⟩
        | go => simp at hn
        | hit => simp at hn
      | @hit _ _ _ _ c' w hp hs hg =>
        obtain ⟨h1, h2⟩ := List.append_inj' (s₁ := []) (t₁ := [c]) (s₂ := w) (t₂ := [c']) (by simpa using hv) rfl
        subst h1
        simp only [List.cons.injEq, and_true] at h2
        subst h2
        generalize hn : ([] : List Int) = n at hp
        cases hp with
        | nil => exact ⟨hs, fun _ => hg⟩
        | go => simp at hn
        | hit => simp at hn
    · rintro ⟨hs, hg⟩
      cases g with
      | true => exact .hit (w := []) (.nil x) hs (hg rfl)
      | false => exact .go (w := []) (.nil x) hs
  refine ⟨hl, fun i j hi hj => ?_, fun i j hi hj => ?_, fun i j hi hj => ?_⟩
  · rw [h i j hi hj]; split
    · split <;> omega
    · omega
  · rw [h i j hi hj, one]
    split
    · rename_i hs
      constructor
      · intro _; exact ⟨hs, fun h => by cases h⟩
      · intro _; split <;> omega
    · rename_i hs
      constructor
      · intro h; omega
      · rintro ⟨h, _⟩; exact absurd h hs
  · rw [h i j hi hj, one]
    have hgood : a.good (j : Int) ↔ a.gs.getD j false = true := by
      unfold Au.good
      rw [Int.toNat_natCast]
      exact ⟨fun h => h.2, fun h => ⟨by omega, h⟩⟩
    split
    · rename_i hs
      rw [hgood]
      split
      · rename_i hg; exact ⟨fun _ => ⟨hs, fun _ => hg⟩, fun _ => rfl⟩
      · rename_i hg; exact ⟨fun h => by omega, fun h => absurd (h.2 rfl) hg⟩
    · rename_i hs
      constructor
      · intro h; omega
      · rintro ⟨h, _⟩; exact absurd h hs
end Go.Proofs.Ytoglgeaiiipchaa

namespace Go.Proofs.Ytoglgeaiiipchaa

/-- a walk in a box, of so many steps; with the mark: over a 2 -/
inductive Wk (x : Bx) : Nat → Bool → Nat → Nat → Prop
  | one {g : Bool} {i j : Nat} : i < 3 → j < 3 → 0 < bg x i j → (g = true → bg x i j = 2) → Wk x 1 g i j
  | on {m : Nat} {g g' : Bool} {i k j : Nat} : Wk x m g i k → j < 3 → 0 < bg x k j → (g' = true → bg x k j = 2) → Wk x (m + 1) (g || g') i j
section
variable {x : Bx}
theorem Wk.lt {m : Nat} {g : Bool} {i j : Nat} (h : Wk x m g i j) : i < 3 ∧ j < 3 ∧ 0 < m := by
  induction h with
  | one h1 h2 _ _ => exact ⟨h1, h2, by omega⟩
  | on _ h2 _ _ ih => exact ⟨ih.1, h2, by omega⟩
theorem Wk.trans {m n : Nat} {g g' : Bool} {i k j : Nat} (h : Wk x m g i k) (h' : Wk x n g' k j) : Wk x (m + n) (g || g') i j := by
  induction h' with
  | one _ h2 h3 h4 => exact .on h h2 h3 h4
  | on _ h2 h3 h4 ih => rw [← Nat.add_assoc, ← Bool.or_assoc]; exact .on (ih h) h2 h3 h4
theorem Wk.forget {m : Nat} {g : Bool} {i j : Nat} (h : Wk x m g i j) : Wk x m false i j := by
  induction h with
  | one h1 h2 h3 _ => exact .one h1 h2 h3 (fun h => by cases h)
  | on _ h2 h3 _ ih => exact .on (g := false) (g' := false) ih h2 h3 (fun h => by cases h)
theorem Wk.run {m : Nat} {g : Bool} {i j : Nat} (h : Wk x m g i j) : ∃ r : Nat → Nat, r 0 = i ∧ r m = j ∧ (∀ t, t < m → 0 < bg x (r t) (r (t + 1))) ∧ ∀ t, t ≤ m → r t < 3 := by
  induction h with
  | @one g i j h1 h2 h3 _ =>
    refine ⟨fun t => if t = 0 then i else j, by simp, by simp, fun t ht => ?_, fun t _ => ?_⟩
    · obtain rfl : t = 0 := by omega
      simpa using h3
    · dsimp only; split <;> omega
  | @on m g g' i k j _ h2 h3 _ ih =>
    obtain ⟨r, r0, rm, rs, rl⟩ := ih
    refine ⟨fun t => if t ≤ m then r t else j, by simp [r0], by simp [show ¬ m + 1 ≤ m by omega], fun t ht => ?_, fun t _ => ?_⟩
    · rcases Nat.lt_or_ge t m with h | h
      · simp only [show t ≤ m by omega, show t + 1 ≤ m by omega, if_true]; exact rs t h
      · obtain rfl : t = m := by omega
        simp only [Nat.le_refl, if_true, show ¬ t + 1 ≤ t by omega, if_false, rm]; exact h3
    · dsimp only
      split
      · rename_i h; exact rl t h
      · exact h2
theorem Wk.of_run {r : Nat → Nat} : ∀ {m : Nat} (i : Nat), 0 < m → (∀ t, i ≤ t → t < i + m → 0 < bg x (r t) (r (t + 1))) → (∀ t, i ≤ t → t ≤ i + m → r t < 3) → Wk x m false (r i) (r (i + m))
  | 0, i, h, _, _ => absurd h (by omega)
  | 1, i, _, h1, h2 => .one (h2 i (Nat.le_refl _) (by omega)) (h2 (i + 1) (by omega) (by omega)) (h1 i (Nat.le_refl _) (by omega)) (fun h => by cases h)
  | m + 2, i, _, h1, h2 => .on (g := false) (g' := false) (Wk.of_run (m := m + 1) i (by omega) (fun t a1 a2 => h1 t a1 (by omega)) (fun t a1 a2 => h2 t a1 (by omega))) (h2 _ (by omega) (by omega)) (h1 (i + (m + 1)) (by omega) (by omega)) (fun h => by cases h)
/-- three steps are enough -/
theorem Wk.short : ∀ (m : Nat) {i j : Nat}, Wk x m false i j → ∃ m', m' ≤ 3 ∧ Wk x m' false i j := by
  intro m
  induction m using Nat.strongRecOn with
  | _ m ih =>
    intro i j h
    by_cases hm : m ≤ 3
    · exact ⟨m, hm, h⟩
    · obtain ⟨r, r0, rm, rs, rl⟩ := h.run
      obtain ⟨s, t, hst, ht, he⟩ := pigeon 3 (fun k => r (k + 1)) (fun k hk => rl (k + 1) (by omega))
      have he : r (s + 1) = r (t + 1) := he
      have w1 := Wk.of_run (x := x) (r := r) (m := s + 1) 0 (by omega) (fun t' a1 a2 => rs t' (by omega)) (fun t' a1 a2 => rl t' (by omega))
      rw [r0, Nat.zero_add, he] at w1
      by_cases htm : t + 1 = m
      · rw [htm, rm] at w1
        exact ih (s + 1) (by omega) w1
      · have w2 := Wk.of_run (x := x) (r := r) (m := m - (t + 1)) (t + 1) (by omega) (fun t' a1 a2 => rs t' (by omega)) (fun t' a1 a2 => rl t' (by omega))
        rw [show t + 1 + (m - (t + 1)) = m by omega, rm] at w2
        exact ih _ (by omega) (w1.trans w2)
/-- over a 2: where it is -/
theorem Wk.edge {m : Nat} {i j : Nat} {g : Bool} (h : Wk x m g i j) (hg : g = true) : ∃ p q, p < 3 ∧ q < 3 ∧ bg x p q = 2 ∧ (i = p ∨ ∃ m, Wk x m false i p) ∧ (q = j ∨ ∃ m, Wk x m false q j) := by
  induction h with
  | @one g i j h1 h2 h3 h4 => exact ⟨i, j, h1, h2, h4 hg, .inl rfl, .inl rfl⟩
  | @on m g g' i k j h h2 h3 h4 ih =>
    cases g with
    | true =>
      obtain ⟨p, q, a1, a2, a3, a4, a5⟩ := ih rfl
      refine ⟨p, q, a1, a2, a3, a4, .inr ?_⟩
      rcases a5 with rfl | ⟨m', w⟩
      · exact ⟨1, .one a2 h2 h3 (fun h => by cases h)⟩
      · exact ⟨m' + 1, .on (g := false) (g' := false) w h2 h3 (fun h => by cases h)⟩
    | false =>
      have hg' : g' = true := by simpa using hg
      exact ⟨k, j, h.lt.2.1, h2, h4 hg', .inr ⟨m, h.forget⟩, .inl rfl⟩
end
/-- from i the word lives, again and again -/
def Lives (x : Bx) (i : Nat) : Prop := ∃ k, k < 3 ∧ (i = k ∨ ∃ m, Wk x m false i k) ∧ ∃ m, Wk x m true k k
/-- a box that knows all walks of at most n steps, and no others -/
structure LivB (x : Bx) (n : Nat) (B : Bx) : Prop where
  len : B.length = 9
  le : ∀ i j, i < 3 → j < 3 → bg B i j ≤ 2
  so : ∀ i j, i < 3 → j < 3 → (0 < bg B i j → ∃ m, Wk x m false i j) ∧ (bg B i j = 2 → ∃ m, Wk x m true i j)
  co : ∀ m g i j, m ≤ n → Wk x m g i j → 0 < bg B i j ∧ (g = true → bg B i j = 2)
theorem LivB.lives {x B : Bx} (h : LivB x 4 B) {i : Nat} (hi : i < 3) : (∃ k, k < 3 ∧ (i = k ∨ 0 < bg B i k) ∧ bg B k k = 2) ↔ Lives x i := by
  constructor
  · rintro ⟨k, hk, h1, h2⟩
    exact ⟨k, hk, h1.imp id (fun h1 => (h.so i k hi hk).1 h1), (h.so k k hk hk).2 h2⟩
  · rintro ⟨k, hk, h1, m, h2⟩
    obtain ⟨p, q, a1, a2, a3, a4, a5⟩ := h2.edge rfl
    have e1 : Wk x 1 true p q := .one a1 a2 (by omega) (fun _ => a3)
    have ip : i = p ∨ ∃ m, Wk x m false i p := by
      rcases h1 with rfl | ⟨m1, w1⟩
      · exact a4
      · rcases a4 with rfl | ⟨m2, w2⟩
        · exact .inr ⟨m1, w1⟩
        · exact .inr ⟨m1 + m2, w1.trans w2⟩
    have qp : q = p ∨ ∃ m, Wk x m false q p := by
      rcases a5 with rfl | ⟨m1, w1⟩
      · exact a4
      · rcases a4 with rfl | ⟨m2, w2⟩
        · exact .inr ⟨m1, w1⟩
        · exact .inr ⟨m1 + m2, w1.trans w2⟩
    refine ⟨p, a1, ?_, ?_⟩
    · rcases ip with rfl | ⟨m1, w1⟩
      · exact .inl rfl
      · obtain ⟨m', b1, b2⟩ := w1.short
        exact .inr (h.co _ _ _ _ (by omega) b2).1
    · rcases qp with rfl | ⟨m1, w1⟩
      · exact (h.co _ _ _ _ (by omega) e1).2 rfl
      · obtain ⟨m', b1, b2⟩ := w1.short
        have := e1.trans b2
        exact (h.co _ _ _ _ (by omega) this).2 rfl
theorem LivB.first {x : Bx} (hl : x.length = 9) (hle : ∀ i j, i < 3 → j < 3 → bg x i j ≤ 2) : LivB x 1 x := by
  refine ⟨hl, hle, fun i j hi hj => ⟨fun h => ⟨1, .one hi hj h (fun h => by cases h)⟩, fun h => ⟨1, .one hi hj (by omega) (fun _ => h)⟩⟩, fun m g i j hm h => ?_⟩
  cases h with
  | one _ _ h3 h4 => exact ⟨h3, h4⟩
  | on h _ _ _ => have := h.lt; omega
/-- a box that has all that another one has, and what is sound -/
theorem LivB.up {x B C : Bx} {n : Nat} (h : LivB x n B) (hl : C.length = 9) (hle : ∀ i j, i < 3 → j < 3 → bg C i j ≤ 2) (hge : ∀ i j, i < 3 → j < 3 → bg B i j ≤ bg C i j)
    (hs : ∀ i j, i < 3 → j < 3 → (0 < bg C i j → ∃ m, Wk x m false i j) ∧ (bg C i j = 2 → ∃ m, Wk x m true i j)) : LivB x n C := by
  refine ⟨hl, hle, hs, fun m g i j hm hw => ?_⟩
  obtain ⟨h1, h2, _⟩ := hw.lt
  obtain ⟨h3, h4⟩ := h.co m g i j hm hw
  have := hge i j h1 h2
  have := hle i j h1 h2
  exact ⟨by omega, fun hg => by have := h4 hg; omega⟩
theorem LivB.more {x B Y C : Bx} {n : Nat} (hn : 1 ≤ n) (h : LivB x n B) (hx : ∀ i j, i < 3 → j < 3 → bg x i j ≤ 2) (hb : Beh B x Y) (hl : C.length = 9) (hC : ∀ i j, i < 3 → j < 3 → bg C i j = max (bg B i j) (bg Y i j)) : LivB x (n + 1) C := by
  have hY : ∀ i j, i < 3 → j < 3 → bg Y i j ≤ 2 ∧ (0 < bg Y i j → ∃ m, Wk x m false i j) ∧ (bg Y i j = 2 → ∃ m, Wk x m true i j) := fun i j hi hj => by
    rcases (hb.eq i j hi hj).2 with h0 | ⟨k, hk, b0, x0, e⟩
    · exact ⟨by omega, fun h => by omega, fun h => by omega⟩
    · have l1 := h.le i k hi hk
      have l2 := hx k j hk hj
      have w := (h.so i k hi hk)
      refine ⟨by omega, fun _ => ?_, fun h2 => ?_⟩
      · obtain ⟨m, hm⟩ := w.1 b0
        exact ⟨m + 1, .on (g := false) (g' := false) hm hj x0 (fun h => by cases h)⟩
      · by_cases hB : bg B i k = 2
        · obtain ⟨m, hm⟩ := w.2 hB
          exact ⟨m + 1, .on (g := true) (g' := false) hm hj x0 (fun h => by cases h)⟩
        · obtain ⟨m, hm⟩ := w.1 b0
          exact ⟨m + 1, .on (g := false) (g' := true) hm hj x0 (fun _ => by omega)⟩
  have h1 : LivB x n C := h.up hl (fun i j hi hj => by rw [hC i j hi hj]; have := h.le i j hi hj; have := (hY i j hi hj).1; omega) (fun i j hi hj => by rw [hC i j hi hj]; omega)
    (fun i j hi hj => by
      have l1 := h.le i j hi hj
      have l2 := hY i j hi hj
      have s := h.so i j hi hj
      rw [hC i j hi hj]
      constructor
      · intro hp
        by_cases hB : 0 < bg B i j
        · exact s.1 hB
        · exact l2.2.1 (by omega)
      · intro hp
        by_cases hB : bg B i j = 2
        · exact s.2 hB
        · exact l2.2.2 (by omega))
  refine ⟨h1.len, h1.le, h1.so, fun m g i j hm hw => ?_⟩
  by_cases hmn : m ≤ n
  · exact h1.co m g i j hmn hw
  cases hw with
  | one hi hj x0 x2 => exact absurd hn (by omega)
  | @on m' g1 g2 _ k _ w hj x0 x2 =>
    obtain ⟨hi, hk, _⟩ := w.lt
    obtain ⟨b0, b2⟩ := h.co _ _ _ _ (by omega) w
    have h3 := (hb.eq i j hi hj).1 k hk b0 x0
    have h4 := hC i j hi hj
    have h5 := h1.le i j hi hj
    refine ⟨by omega, fun hg => ?_⟩
    cases g1 with
    | true => have := b2 rfl; omega
    | false =>
      have hg2 : g2 = true := by simpa using hg
      have := x2 hg2
      omega
/-- two ways together are one -/
theorem LivB.close {x B C : Bx} {n k i j : Nat} (h : LivB x n B) (hk : k < 3) (hi : i < 3) (hj : j < 3) (h1 : 0 < bg B i k) (h2 : 0 < bg B k j) (hl : C.length = 9)
    (hC : ∀ a b, a < 3 → b < 3 → bg C a b = if a = i ∧ b = j then max (max (bg B i j) (bg B i k)) (bg B k j) else bg B a b) : LivB x n C := by
  have l1 := h.le i j hi hj
  have l2 := h.le i k hi hk
  have l3 := h.le k j hk hj
  obtain ⟨m1, w1⟩ := (h.so i k hi hk).1 h1
  obtain ⟨m2, w2⟩ := (h.so k j hk hj).1 h2
  refine h.up hl (fun a b ha hb => ?_) (fun a b ha hb => ?_) (fun a b ha hb => ?_)
  · rw [hC a b ha hb]
    split
    · omega
    · exact h.le a b ha hb
  · rw [hC a b ha hb]
    split
    · rename_i he
      obtain ⟨rfl, rfl⟩ := he
      omega
    · omega
  · rw [hC a b ha hb]
    split
    · rename_i he
      obtain ⟨rfl, rfl⟩ := he
      refine ⟨fun _ => ⟨m1 + m2, w1.trans w2⟩, fun hm => ?_⟩
      by_cases c1 : bg B a b = 2
      · exact (h.so a b ha hb).2 c1
      · by_cases c2 : bg B a k = 2
        · obtain ⟨m3, w3⟩ := (h.so a k ha hk).2 c2
          exact ⟨m3 + m2, w3.trans w2⟩
        · obtain ⟨m3, w3⟩ := (h.so k b hk hb).2 (by omega)
          exact ⟨m1 + m3, w1.trans w3⟩
    · exact h.so a b ha hb
/-- walks in the box of a word are paths by the word again and again -/
theorem wk_paths {a : Au} (hf : AuFit a) (h3 : a.st ≤ 3) {v : List Int} {B : Bx} (hB : BoxOf a v B) {g : Bool} {i j : Nat} (hi : i < 3) : (∃ m, Wk B m g i j) ↔ j < 3 ∧ ∃ m, 0 < m ∧ PathG a g i (times v m) j := by
  constructor
  · rintro ⟨m, h⟩
    refine ⟨h.lt.2.1, m, h.lt.2.2, ?_⟩
    induction h with
    | @one g i j h1 h2 h3 h4 =>
      rw [times, times, List.nil_append]
      cases g with
      | true => exact (hB.two i j h1 h2).1 (h4 rfl)
      | false => exact (hB.pos i j h1 h2).1 h3
    | @on m g g' i k j h h2 h3 h4 ih =>
      refine (ih hi).trans ?_
      cases g' with
      | true => exact (hB.two k j h.lt.2.1 h2).1 (h4 rfl)
      | false => exact (hB.pos k j h.lt.2.1 h2).1 h3
  · rintro ⟨hj, m, hm, h⟩
    refine ⟨m, ?_⟩
    have weak : ∀ {m : Nat} {g g' : Bool} {i j : Nat}, Wk B m g i j → (g' = true → g = true) → Wk B m g' i j := by
      intro m g g' i j h hg
      cases g' with
      | false => exact h.forget
      | true => rw [hg rfl] at h; exact h
    induction m generalizing g j with
    | zero => omega
    | succ m ih =>
      rw [times] at h
      obtain ⟨g1, g2, y, p1, p2, hg⟩ := h.split
      obtain ⟨k, hk, rfl⟩ := small_state hf h3 p1 hi
      have e0 := (hB.pos k j hk hj).2 p2.forget
      have e2 : g2 = true → bg B k j = 2 := fun h => (hB.two k j hk hj).2 (by rw [h] at p2; exact p2)
      rcases Nat.eq_zero_or_pos m with rfl | hm
      · generalize hn : times v 0 = n at p1
        generalize hkk : (k : Int) = kk at p1
        cases p1 with
        | nil =>
          obtain rfl : k = i := by omega
          refine .one hi hj e0 (fun h => e2 (by have := hg h; simpa using this))
        | go => simp [times] at hn
        | hit => simp [times] at hn
      · exact weak (.on (ih hk hm p1) hj e0 e2) hg
/-- where a head leads to -/
def HeadAt (a : Au) (u : List Int) (q : Int) : Prop := ∃ f ∈ a.fs, PathG a false f u q
/-- **a lasso is taken just if its head leads to where its loop lives** -/
theorem takes_box {a : Au} (ho : AuOK a) (hs : ssSorted a.ss) (h3 : a.st ≤ 3) {l : La} (hp : 0 < l.l.length) {B : Bx} (hB : BoxOf a l.l B) : TakesU a l.at ↔ ∃ i : Nat, i < 3 ∧ HeadAt a l.h (i : Int) ∧ Lives B i := by
  have hf := ho.fit hs
  rw [takes_paths ho hp]
  constructor
  · rintro ⟨f, hff, j, q, m, hm, h1, h2⟩
    have hfr := ho.fr f hff
    obtain ⟨g1, g2, y, p1, p2, _⟩ := h1.split
    obtain ⟨f', rfl⟩ : ∃ f' : Nat, (f' : Int) = f := ⟨f.toNat, by omega⟩
    obtain ⟨i, hi, rfl⟩ := small_state hf h3 p1 (by omega)
    obtain ⟨k, hk, rfl⟩ := small_state hf h3 p2 hi
    refine ⟨i, hi, ⟨_, hff, p1.forget⟩, k, hk, ?_, (wk_paths hf h3 hB hk).2 ⟨hk, m, hm, h2⟩⟩
    rcases Nat.eq_zero_or_pos j with rfl | hj
    · left
      generalize hn : times l.l 0 = n at p2
      generalize hkk : (k : Int) = kk at p2
      cases p2 with
      | nil => omega
      | go => simp [times] at hn
      | hit => simp [times] at hn
    · exact .inr ((wk_paths hf h3 hB hi).2 ⟨hk, j, hj, p2.forget⟩)
  · rintro ⟨i, hi, ⟨f, hff, p1⟩, k, hk, h1, h2⟩
    obtain ⟨_, m, hm, p3⟩ := (wk_paths hf h3 hB hk).1 h2
    rcases h1 with rfl | h1
    · exact ⟨f, hff, 0, i, m, hm, by rw [times, List.append_nil]; exact p1, p3⟩
    · obtain ⟨_, j, _, p2⟩ := (wk_paths hf h3 hB hi).1 h1
      exact ⟨f, hff, j, k, m, hm, p1.trans p2, p3⟩
end Go.Proofs.Ytoglgeaiiipchaa
