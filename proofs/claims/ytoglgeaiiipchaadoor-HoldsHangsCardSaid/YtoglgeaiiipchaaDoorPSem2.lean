/- Plain: the table of a lasso says what the formula says of its word. -/
import Derived.Test.YtoglgeaiiipchaaDoorPSem
namespace Go.Proofs.YtoglgeaiiipchaaDoor

theorem rowsOf_get (l : La) (f : List Nd) : ∀ (k i : Nat), i < k → (rowsOf l f k).getD i [] = rowOf l (rowsOf l f i) (f.getD i ⟨0, 0, 0, 0⟩)
  | 0, i, h => absurd h (by omega)
  | k + 1, i, h => by
    rw [show rowsOf l f (k + 1) = rowsOf l f k ++ [rowOf l (rowsOf l f k) (f.getD k ⟨0, 0, 0, 0⟩)] from rfl, List.getD_eq_getElem?_getD]
    rcases Nat.lt_or_ge i k with h1 | h1
    · rw [List.getElem?_append_left (by rw [length_rowsOf]; exact h1), ← List.getD_eq_getElem?_getD]
      exact rowsOf_get l f k i h1
    · obtain rfl : i = k := by omega
      rw [List.getElem?_append_right (by rw [length_rowsOf]; exact Nat.le_refl _), length_rowsOf]
      simp
theorem gB_rows {l : La} {f : List Nd} {k i p : Nat} (hi : i < k) (hp : p < l.n) : gB (rowsOf l f k) i p = nodeVal l (rowsOf l f i) (f.getD i ⟨0, 0, 0, 0⟩) p := by
  unfold gB
  rw [rowsOf_get l f k i hi]
  unfold rowOf
  rw [List.getD_eq_getElem?_getD, List.getElem?_map, List.getElem?_range hp]
  rfl
theorem unt_iffP {n h : Nat} {a b : Nat → Bool} (hh : h < n) : ∀ (m k : Nat), unt n h a b m (plc n h k) = true ↔ ∃ j, k ≤ j ∧ j < k + m ∧ b (plc n h j) = true ∧ ∀ i, k ≤ i → i < j → a (plc n h i) = true
  | 0, k => by
    simp only [unt, Bool.false_eq_true, Nat.add_zero, false_iff, not_exists, not_and]
    intro j h1 h2
    omega
  | m + 1, k => by
    rw [unt_plc hh, Bool.or_eq_true, Bool.and_eq_true, unt_iffP hh m (k + 1)]
    constructor
    · rintro (h1 | ⟨h1, j, h2, h3, h4, h5⟩)
      · exact ⟨k, Nat.le_refl _, by omega, h1, fun i a1 a2 => absurd a2 (by omega)⟩
      · refine ⟨j, by omega, by omega, h4, fun i a1 a2 => ?_⟩
        rcases Nat.eq_or_lt_of_le a1 with rfl | a3
        · exact h1
        · exact h5 i a3 a2
    · rintro ⟨j, h1, h2, h3, h4⟩
      rcases Nat.eq_or_lt_of_le h1 with rfl | h5
      · exact .inl h3
      · exact .inr ⟨h4 k (Nat.le_refl _) h5, j, h5, by omega, h3, fun i a1 a2 => h4 i (by omega) a2⟩
theorem rls_iffP {n h : Nat} {a b : Nat → Bool} (hh : h < n) : ∀ (m k : Nat), rls n h a b m (plc n h k) = true ↔ ∀ j, k ≤ j → j < k + m → b (plc n h j) = true ∨ ∃ i, k ≤ i ∧ i < j ∧ a (plc n h i) = true
  | 0, k => by
    simp only [rls, true_iff, Nat.add_zero]
    intro j h1 h2
    omega
  | m + 1, k => by
    rw [rls_plc hh, Bool.and_eq_true, Bool.or_eq_true, rls_iffP hh m (k + 1)]
    constructor
    · rintro ⟨h1, h2⟩ j a1 a2
      rcases Nat.eq_or_lt_of_le a1 with rfl | a3
      · exact .inl h1
      · rcases h2 with h2 | h2
        · exact .inr ⟨k, Nat.le_refl _, a3, h2⟩
        · rcases h2 j a3 (by omega) with h4 | ⟨i, i1, i2, i3⟩
          · exact .inl h4
          · exact .inr ⟨i, by omega, i2, i3⟩
    · intro hx
      refine ⟨?_, ?_⟩
      · rcases hx k (Nat.le_refl _) (by omega) with h1 | ⟨i, i1, i2, _⟩
        · exact h1
        · omega
      · cases ha : a (plc n h k) with
        | true => exact .inl rfl
        | false =>
          refine .inr fun j a1 a2 => ?_
          rcases hx j (by omega) (by omega) with h1 | ⟨i, i1, i2, i3⟩
          · exact .inl h1
          · refine .inr ⟨i, ?_, i2, i3⟩
            rcases Nat.eq_or_lt_of_le i1 with rfl | i4
            · rw [ha] at i3; cases i3
            · exact i4
/-- all places are met within so many -/
theorem unt_all {n h : Nat} {a b : Nat → Bool} (hh : h < n) (k : Nat) : unt n h a b n (plc n h k) = true ↔ ∃ j, k ≤ j ∧ b (plc n h j) = true ∧ ∀ i, k ≤ i → i < j → a (plc n h i) = true := by
  rw [unt_iffP hh]
  constructor
  · rintro ⟨j, h1, _, h3, h4⟩; exact ⟨j, h1, h3, h4⟩
  · rintro ⟨j, h1, h3, h4⟩
    have : ∀ d j, j = k + d → b (plc n h j) = true → (∀ i, k ≤ i → i < j → a (plc n h i) = true) → ∃ j, k ≤ j ∧ j < k + n ∧ b (plc n h j) = true ∧ ∀ i, k ≤ i → i < j → a (plc n h i) = true := by
      intro d
      induction d using Nat.strongRecOn with
      | _ d ih =>
        intro j hj hb ha
        by_cases hd : d < n
        · exact ⟨j, by omega, by omega, hb, ha⟩
        · refine ih (d - (n - h)) (by omega) (j - (n - h)) (by omega) ?_ (fun i i1 i2 => ha i i1 (by omega))
          rw [← plc_back hh (by omega)]; exact hb
    exact this (j - k) j (by omega) h3 h4
theorem rls_all {n h : Nat} {a b : Nat → Bool} (hh : h < n) (k : Nat) : rls n h a b n (plc n h k) = true ↔ ∀ j, k ≤ j → b (plc n h j) = true ∨ ∃ i, k ≤ i ∧ i < j ∧ a (plc n h i) = true := by
  rw [rls_iffP hh]
  constructor
  · intro h1
    have : ∀ d j, j = k + d → b (plc n h j) = true ∨ ∃ i, k ≤ i ∧ i < j ∧ a (plc n h i) = true := by
      intro d
      induction d using Nat.strongRecOn with
      | _ d ih =>
        intro j hj
        by_cases hd : d < n
        · exact h1 j (by omega) (by omega)
        · rcases ih (d - (n - h)) (by omega) (j - (n - h)) (by omega) with h2 | ⟨i, i1, i2, i3⟩
          · rw [plc_back hh (by omega)]; exact .inl h2
          · exact .inr ⟨i, i1, by omega, i3⟩
    intro j hj
    exact this (j - k) j (by omega)
  · intro h1 j hj _
    exact h1 j hj
/-- letter at a place that runs on -/
theorem La.at_plc {l : La} (hp : 0 < l.l.length) (k : Nat) : l.at (plc l.n l.h.length k) = l.at k := by
  have hh : l.h.length < l.n := by unfold La.n; omega
  rw [← La.row_plc hp k, ← La.row_plc hp (plc l.n l.h.length k), plc_self (plc_lt hh)]
/-- **the table says what the formula says** -/
theorem table_sem {l : La} (hp : 0 < l.l.length) {f : List Nd} (hf : FmOK f) : ∀ (i : Nat), i < f.length → ∀ (k m : Nat), i < m → (gB (rowsOf l f m) i (plc l.n l.h.length k) = true ↔ (treeAt f i).sem l.at k) := by
  have hh : l.h.length < l.n := by unfold La.n; omega
  intro i
  induction i using Nat.strongRecOn with
  | _ i ih =>
    intro hi k m hm
    rw [gB_rows hm (plc_lt hh)]
    have hx := ndErr_zero.1 (hf.nd i hi)
    have e : f.getD i nond = f[i] := by rw [List.getD_eq_getElem?_getD, List.getElem?_eq_getElem hi]; rfl
    unfold treeAt treeN
    rw [show (⟨0, 0, 0, 0⟩ : Nd) = nond from rfl, e]
    generalize f[i] = x at hx
    unfold nodeVal
    have hk := hx.k
    have ha : 3 ≤ x.k → ∀ j, gB (rowsOf l f i) x.a.toNat (plc l.n l.h.length j) = true ↔ ((treesOf f i).getD x.a.toNat .tt).sem l.at j := fun h j => by
      have := hx.a h
      rw [treesOf_get _ _ _ (by omega)]
      exact ih _ (by omega) (by omega) j i (by omega)
    have hb : (x.k = 4 ∨ x.k = 5 ∨ x.k = 7 ∨ x.k = 8) → ∀ j, gB (rowsOf l f i) x.b.toNat (plc l.n l.h.length j) = true ↔ ((treesOf f i).getD x.b.toNat .tt).sem l.at j := fun h j => by
      have := hx.b h
      rw [treesOf_get _ _ _ (by omega)]
      exact ih _ (by omega) (by omega) j i (by omega)
    by_cases h1 : x.k = 1
    · simp only [h1, if_true, Fm.sem]
    by_cases h2 : x.k = 2
    · simp only [h2, show ¬ (2 : Int) = 1 by decide, if_true, if_false, Fm.sem]
      rw [La.at_plc hp]
    by_cases h3 : x.k = 3
    · simp only [h3, show ¬ (3 : Int) = 1 by decide, show ¬ (3 : Int) = 2 by decide, if_true, if_false, Fm.sem, Bool.not_eq_true', ← ha (by omega) k]
      exact Bool.not_eq_true _ ▸ Iff.rfl
    by_cases h6 : x.k = 6
    · simp only [h6, show ¬ (6 : Int) = 1 by decide, show ¬ (6 : Int) = 2 by decide, show ¬ (6 : Int) = 3 by decide, show ¬ (6 : Int) = 4 by decide, show ¬ (6 : Int) = 5 by decide, if_true, if_false, Fm.sem]
      rw [plc_succ hh]
      exact ha (by omega) (k + 1)
    have hb := hb (by omega)
    have ha := ha (by omega)
    by_cases h4 : x.k = 4
    · simp only [h4, show ¬ (4 : Int) = 1 by decide, show ¬ (4 : Int) = 2 by decide, show ¬ (4 : Int) = 3 by decide, show ¬ (4 : Int) = 6 by decide, if_true, if_false, Fm.sem, Bool.and_eq_true, ha, hb]
    by_cases h5 : x.k = 5
    · simp only [h5, show ¬ (5 : Int) = 1 by decide, show ¬ (5 : Int) = 2 by decide, show ¬ (5 : Int) = 3 by decide, show ¬ (5 : Int) = 4 by decide, show ¬ (5 : Int) = 6 by decide, if_true, if_false, Fm.sem, Bool.or_eq_true, ha, hb]
    by_cases h7 : x.k = 7
    · simp only [h7, show ¬ (7 : Int) = 1 by decide, show ¬ (7 : Int) = 2 by decide, show ¬ (7 : Int) = 3 by decide, show ¬ (7 : Int) = 4 by decide, show ¬ (7 : Int) = 5 by decide, show ¬ (7 : Int) = 6 by decide, if_true, if_false, Fm.sem]
      rw [unt_all hh]
      simp only [ha, hb]
    · simp only [h1, h2, h3, h4, h5, h6, h7, if_false, Fm.sem]
      rw [rls_all hh]
      simp only [ha, hb]
end Go.Proofs.YtoglgeaiiipchaaDoor
