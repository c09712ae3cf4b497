import Derived.Test.YtoglgeaiiipchabGreatDoorLMAKM2
import Derived.Test.YtoglgeaiiipchabGreatDoorLMAKM6
set_option linter.unusedSimpArgs false
set_option linter.unusedVariables false
namespace Go.Proofs.YtoglgeaiiipchabGreatDoor
def Fm.sem (u : Nat → Int) : Fm → Nat → Prop
  | .tt, _ => True
  | .pr n, i => bitOf (u i) n.toNat = true
  | .no a, i => ¬ a.sem u i
  | .nx a, i => a.sem u (i + 1)
  | .bi k a b, i =>
    if k = 4 then a.sem u i ∧ b.sem u i
    else if k = 5 then a.sem u i ∨ b.sem u i
    else if k = 7 then ∃ j, i ≤ j ∧ b.sem u j ∧ ∀ m, i ≤ m → m < j → a.sem u m
    else ∀ j, i ≤ j → b.sem u j ∨ ∃ m, i ≤ m ∧ m < j ∧ a.sem u m
theorem Fm.sem_neg {u : Nat → Int} (t : Fm) (ht : t.ok) : ∀ b i, (t.neg b).sem u i ↔ (if b = true then ¬ t.sem u i else t.sem u i) := by
  induction t with
  | tt => intro b i; cases b <;> simp [Fm.neg, Fm.sem]
  | pr n => intro b i; cases b <;> simp [Fm.neg, Fm.sem]
  | no a ih => intro b i; rw [Fm.neg, ih ht]; cases b <;> simp [Fm.sem]
  | nx a ih => intro b i; simp only [Fm.neg, Fm.sem]; exact ih ht b (i + 1)
  | bi k x y ihx ihy =>
    intro b i
    obtain ⟨hk, hx, hy⟩ := ht
    have ihx := ihx hx b
    have ihy := ihy hy b
    simp only [Fm.neg]
    cases b with
    | false =>
      simp only [Bool.false_eq_true, if_false] at ihx ihy ⊢
      simp only [Fm.sem, ihx, ihy]
    | true =>
      simp only [if_true] at ihx ihy ⊢
      rcases hk with rfl | rfl | rfl | rfl
      · simp only [Fm.sem, opp, ihx, ihy, show ¬ (5 : Int) = 4 by decide, if_true, if_false]
        by_cases h1 : x.sem u i <;> by_cases h2 : y.sem u i <;> simp [h1, h2]
      · simp only [Fm.sem, opp, ihx, ihy, show ¬ (5 : Int) = 4 by decide, if_true, if_false]
        by_cases h1 : x.sem u i <;> by_cases h2 : y.sem u i <;> simp [h1, h2]
      · simp only [Fm.sem, opp, ihx, ihy, show ¬ (7 : Int) = 4 by decide, show ¬ (7 : Int) = 5 by decide, show ¬ (8 : Int) = 4 by decide, show ¬ (8 : Int) = 5 by decide, show ¬ (8 : Int) = 7 by decide, if_true, if_false]
        constructor
        · rintro h ⟨j, h1, h2, h3⟩
          rcases h j h1 with h4 | ⟨m, m1, m2, m3⟩
          · exact h4 h2
          · exact m3 (h3 m m1 m2)
        · intro h j hj
          apply Classical.byContradiction
          intro hn
          simp only [not_or, Classical.not_not, not_exists, not_and] at hn
          exact h ⟨j, hj, hn.1, hn.2⟩
      · simp only [Fm.sem, opp, ihx, ihy, show ¬ (8 : Int) = 4 by decide, show ¬ (8 : Int) = 5 by decide, show ¬ (8 : Int) = 7 by decide, show ¬ (7 : Int) = 4 by decide, show ¬ (7 : Int) = 5 by decide, if_true, if_false]
        constructor
        · rintro ⟨j, h1, h2, h3⟩ h
          rcases h j h1 with h4 | ⟨m, m1, m2, m3⟩
          · exact h2 h4
          · exact h3 m m1 m2 m3
        · intro h
          apply Classical.byContradiction
          intro hn
          apply h
          intro j hj
          apply Classical.byContradiction
          intro hn2
          simp only [not_or, not_exists, not_and] at hn2
          exact hn ⟨j, hj, hn2.1, fun m m1 m2 => hn2.2 m m1 m2⟩
theorem btw_false' {n a b : Int} : btw n a b = false ↔ ¬ (a ≤ n ∧ n ≤ b) := by
  rw [← btw_iff]; simp
structure FmOK (f : List Nd) : Prop where
  pos : 0 < f.length
  few : tooMany f = false
  nd : ∀ i, (h : i < f.length) → ndErr f[i] i = 0
theorem ckNds_zero {f : List Nd} : ∀ (m k : Nat), f.length ≤ k + m → ckNds (f.drop k) k = 0 → ∀ i, k ≤ i → (h : i < f.length) → ndErr f[i] i = 0
  | 0, k, hm, _, i, h1, h2 => absurd h2 (by omega)
  | m + 1, k, hm, h, i, h1, h2 => by
    have hk : k < f.length := by omega
    rw [ckNds_step hk] at h
    split at h
    · rename_i h0
      rcases Nat.eq_or_lt_of_le h1 with rfl | h3
      · exact h0
      · exact ckNds_zero m (k + 1) (by omega) h i h3 h2
    · rename_i h0; exact absurd h h0
theorem ckNds_of {f : List Nd} (h : ∀ i, (h : i < f.length) → ndErr f[i] i = 0) : ∀ (m k : Nat), f.length ≤ k + m → ckNds (f.drop k) k = 0
  | 0, k, hm => ckNds_end (by omega)
  | m + 1, k, hm => by
    rcases Nat.lt_or_ge k f.length with hk | hk
    · rw [ckNds_step hk, if_pos (h k hk)]
      exact ckNds_of h m (k + 1) (by omega)
    · exact ckNds_end hk
theorem ckF_zero {f : List Nd} : ckF f = 0 ↔ FmOK f := by
  unfold ckF
  constructor
  · intro h
    split at h
    · cases h
    · rename_i h0
      split at h
      · cases h
      · rename_i h1
        exact ⟨by omega, by simpa using h1, fun i hi => ckNds_zero f.length 0 (by omega) (by simpa using h) i (Nat.zero_le _) hi⟩
  · rintro ⟨h0, h1, h2⟩
    rw [if_neg (by omega), if_neg (by simp [h1])]
    exact ckNds_of h2 f.length 0 (by omega)
structure NdOK (x : Nd) (i : Int) : Prop where
  k : 1 ≤ x.k ∧ x.k ≤ 8
  a : 3 ≤ x.k → 0 ≤ x.a ∧ x.a < i
  b : (x.k = 4 ∨ x.k = 5 ∨ x.k = 7 ∨ x.k = 8) → 0 ≤ x.b ∧ x.b < i
  n : x.k = 2 → 0 ≤ x.n ∧ x.n ≤ 2
  a0 : x.k < 3 → x.a = 0
  b0 : ¬ (x.k = 4 ∨ x.k = 5 ∨ x.k = 7 ∨ x.k = 8) → x.b = 0
  n0 : x.k ≠ 2 → x.n = 0
theorem ndErr_zero {x : Nd} {i : Int} : ndErr x i = 0 ↔ NdOK x i := by
  unfold ndErr
  constructor
  · intro h
    split at h
    · cases h
    · rename_i h1
      split at h
      · cases h
      · rename_i h2
        split at h
        · cases h
        · rename_i h3
          split at h
          · cases h
          · rename_i h4
            simp only [Bool.not_eq_false, btw_iff, nmA, nmB, nmN, Bool.or_eq_true, Bool.and_eq_true, Bool.not_eq_true', btw_false', beq_iff_eq, bne_iff_ne, ne_eq, beq_eq_false_iff_ne, Bool.or_eq_false_iff] at h1 h2 h3 h4
            refine ⟨Classical.not_not.1 h1, ?_, ?_, ?_, ?_, ?_, ?_⟩ <;> intros <;> omega
  · rintro ⟨h1, h2, h3, h4, h5, h6, h7⟩
    rw [if_neg, if_neg, if_neg, if_neg]
    all_goals
      simp only [Bool.not_eq_false, btw_iff, nmA, nmB, nmN, Bool.or_eq_true, Bool.and_eq_true, Bool.not_eq_true', btw_false', beq_iff_eq, bne_iff_ne, ne_eq, beq_eq_false_iff_ne, Bool.or_eq_false_iff]
      omega
end Go.Proofs.YtoglgeaiiipchabGreatDoor

namespace Go.Proofs.YtoglgeaiiipchabGreatDoor
theorem rowsOf_get (l : La) (f : List Nd) : ∀ (k i : Nat), i < k → (rowsOf l f k).getD i [] = rowOf l (rowsOf l f i) (f.getD i ⟨0, 0, 0, 0⟩)
  | 0, i, h => absurd h (by omega)
  | k + 1, i, h => by
    rw [show rowsOf l f (k + 1) = rowsOf l f k ++ [rowOf l (rowsOf l f k) (f.getD k ⟨0, 0, 0, 0⟩)] from rfl, List.getD_eq_getElem?_getD]
    rcases Nat.lt_or_ge i k with h1 | h1
    · rw [List.getElem?_append_left (by rw [length_rowsOf]; exact h1), ← List.getD_eq_getElem?_getD]
      exact rowsOf_get l f k i h1
    · obtain rfl : i = k := by omega
      rw [List.getElem?_append_right (by rw [length_rowsOf]; exact Nat.le_refl _), length_rowsOf]
      simp
theorem gB_rows {l : La} {f : List Nd} {k i p : Nat} (hi : i < k) (hp : p < l.n) : gB (rowsOf l f k) i p = nodeVal l (rowsOf l f i) (f.getD i ⟨0, 0, 0, 0⟩) p := by
  unfold gB
  rw [rowsOf_get l f k i hi]
  unfold rowOf
  rw [List.getD_eq_getElem?_getD, List.getElem?_map, List.getElem?_range hp]
  rfl
theorem unt_iffP {n h : Nat} {a b : Nat → Bool} (hh : h < n) : ∀ (m k : Nat), unt n h a b m (plc n h k) = true ↔ ∃ j, k ≤ j ∧ j < k + m ∧ b (plc n h j) = true ∧ ∀ i, k ≤ i → i < j → a (plc n h i) = true
  | 0, k => by
    simp only [unt, Bool.false_eq_true, Nat.add_zero, false_iff, not_exists, not_and]
    intro j h1 h2
    omega
  | m + 1, k => by
    rw [unt_plc hh, Bool.or_eq_true, Bool.and_eq_true, unt_iffP hh m (k + 1)]
    constructor
    · rintro (h1 | ⟨h1, j, h2, h3, h4, h5⟩)
      · exact ⟨k, Nat.le_refl _, by omega, h1, fun i a1 a2 => absurd a2 (by omega)⟩
      · refine ⟨j, by omega, by omega, h4, fun i a1 a2 => ?_⟩
        rcases Nat.eq_or_lt_of_le a1 with rfl | a3
        · exact h1
        · exact h5 i a3 a2
    · rintro ⟨j, h1, h2, h3, h4⟩
      rcases Nat.eq_or_lt_of_le h1 with rfl | h5
      · exact .inl h3
      · exact .inr ⟨h4 k (Nat.le_refl _) h5, j, h5, by omega, h3, fun i a1 a2 => h4 i (by omega) a2⟩
theorem rls_iffP {n h : Nat} {a b : Nat → Bool} (hh : h < n) : ∀ (m k : Nat), rls n h a b m (plc n h k) = true ↔ ∀ j, k ≤ j → j < k + m → b (plc n h j) = true ∨ ∃ i, k ≤ i ∧ i < j ∧ a (plc n h i) = true
  | 0, k => by
    simp only [rls, true_iff, Nat.add_zero]
    intro j h1 h2
    omega
  | m + 1, k => by
    rw [rls_plc hh, Bool.and_eq_true, Bool.or_eq_true, rls_iffP hh m (k + 1)]
    constructor
    · rintro ⟨h1, h2⟩ j a1 a2
      rcases Nat.eq_or_lt_of_le a1 with rfl | a3
      · exact .inl h1
      · rcases h2 with h2 | h2
        · exact .inr ⟨k, Nat.le_refl _, a3, h2⟩
        · rcases h2 j a3 (by omega) with h4 | ⟨i, i1, i2, i3⟩
          · exact .inl h4
          · exact .inr ⟨i, by omega, i2, i3⟩
    · intro hx
      refine ⟨?_, ?_⟩
      · rcases hx k (Nat.le_refl _) (by omega) with h1 | ⟨i, i1, i2, _⟩
        · exact h1
        · omega
      · cases ha : a (plc n h k) with
        | true => exact .inl rfl
        | false =>
          refine .inr fun j a1 a2 => ?_
          rcases hx j (by omega) (by omega) with h1 | ⟨i, i1, i2, i3⟩
          · exact .inl h1
          · refine .inr ⟨i, ?_, i2, i3⟩
            rcases Nat.eq_or_lt_of_le i1 with rfl | i4
            · rw [ha] at i3; cases i3
            · exact i4
theorem unt_all {n h : Nat} {a b : Nat → Bool} (hh : h < n) (k : Nat) : unt n h a b n (plc n h k) = true ↔ ∃ j, k ≤ j ∧ b (plc n h j) = true ∧ ∀ i, k ≤ i → i < j → a (plc n h i) = true := by
  rw [unt_iffP hh]
  constructor
  · rintro ⟨j, h1, _, h3, h4⟩; exact ⟨j, h1, h3, h4⟩
  · rintro ⟨j, h1, h3, h4⟩
    have : ∀ d j, j = k + d → b (plc n h j) = true → (∀ i, k ≤ i → i < j → a (plc n h i) = true) → ∃ j, k ≤ j ∧ j < k + n ∧ b (plc n h j) = true ∧ ∀ i, k ≤ i → i < j → a (plc n h i) = true := by
      intro d
      induction d using Nat.strongRecOn with
      | _ d ih =>
        intro j hj hb ha
        by_cases hd : d < n
        · exact ⟨j, by omega, by omega, hb, ha⟩
        · refine ih (d - (n - h)) (by omega) (j - (n - h)) (by omega) ?_ (fun i i1 i2 => ha i i1 (by omega))
          rw [← plc_back hh (by omega)]; exact hb
    exact this (j - k) j (by omega) h3 h4
theorem rls_all {n h : Nat} {a b : Nat → Bool} (hh : h < n) (k : Nat) : rls n h a b n (plc n h k) = true ↔ ∀ j, k ≤ j → b (plc n h j) = true ∨ ∃ i, k ≤ i ∧ i < j ∧ a (plc n h i) = true := by
  rw [rls_iffP hh]
  constructor
  · intro h1
    have : ∀ d j, j = k + d → b (plc n h j) = true ∨ ∃ i, k ≤ i ∧ i < j ∧ a (plc n h i) = true := by
      intro d
      induction d using Nat.strongRecOn with
      | _ d ih =>
        intro j hj
        by_cases hd : d < n
        · exact h1 j (by omega) (by omega)
        · rcases ih (d - (n - h)) (by omega) (j - (n - h)) (by omega) with h2 | ⟨i, i1, i2, i3⟩
          · rw [plc_back hh (by omega)]; exact .inl h2
          · exact .inr ⟨i, i1, by omega, i3⟩
    intro j hj
    exact this (j - k) j (by omega)
  · intro h1 j hj _
    exact h1 j hj
theorem La.at_plc {l : La} (hp : 0 < l.l.length) (k : Nat) : l.at (plc l.n l.h.length k) = l.at k := by
  have hh : l.h.length < l.n := by unfold La.n; omega
  rw [← La.row_plc hp k, ← La.row_plc hp (plc l.n l.h.length k), plc_self (plc_lt hh)]
theorem table_sem {l : La} (hp : 0 < l.l.length) {f : List Nd} (hf : FmOK f) : ∀ (i : Nat), i < f.length → ∀ (k m : Nat), i < m → (gB (rowsOf l f m) i (plc l.n l.h.length k) = true ↔ (treeAt f i).sem l.at k) := by
  have hh : l.h.length < l.n := by unfold La.n; omega
  intro i
  induction i using Nat.strongRecOn with
  | _ i ih =>
    intro hi k m hm
    rw [gB_rows hm (plc_lt hh)]
    have hx := ndErr_zero.1 (hf.nd i hi)
    have e : f.getD i nond = f[i] := by rw [List.getD_eq_getElem?_getD, List.getElem?_eq_getElem hi]; rfl
    unfold treeAt treeN
    rw [show (⟨0, 0, 0, 0⟩ : Nd) = nond from rfl, e]
    generalize f[i] = x at hx
    unfold nodeVal
    have hk := hx.k
    have ha : 3 ≤ x.k → ∀ j, gB (rowsOf l f i) x.a.toNat (plc l.n l.h.length j) = true ↔ ((treesOf f i).getD x.a.toNat .tt).sem l.at j := fun h j => by
      have := hx.a h
      rw [treesOf_get _ _ _ (by omega)]
      exact ih _ (by omega) (by omega) j i (by omega)
    have hb : (x.k = 4 ∨ x.k = 5 ∨ x.k = 7 ∨ x.k = 8) → ∀ j, gB (rowsOf l f i) x.b.toNat (plc l.n l.h.length j) = true ↔ ((treesOf f i).getD x.b.toNat .tt).sem l.at j := fun h j => by
      have := hx.b h
      rw [treesOf_get _ _ _ (by omega)]
      exact ih _ (by omega) (by omega) j i (by omega)
    by_cases h1 : x.k = 1
    · simp only [h1, if_true, Fm.sem]
    by_cases h2 : x.k = 2
    · simp only [h2, show ¬ (2 : Int) = 1 by decide, if_true, if_false, Fm.sem]
      rw [La.at_plc hp]
    by_cases h3 : x.k = 3
    · simp only [h3, show ¬ (3 : Int) = 1 by decide, show ¬ (3 : Int) = 2 by decide, if_true, if_false, Fm.sem, Bool.not_eq_true', ← ha (by omega) k]
      exact Bool.not_eq_true _ ▸ Iff.rfl
    by_cases h6 : x.k = 6
    · simp only [h6, show ¬ (6 : Int) = 1 by decide, show ¬ (6 : Int) = 2 by decide, show ¬ (6 : Int) = 3 by decide, show ¬ (6 : Int) = 4 by decide, show ¬ (6 : Int) = 5 by decide, if_true, if_false, Fm.sem]
      rw [plc_succ hh]
      exact ha (by omega) (k + 1)
    have hb := hb (by omega)
    have ha := ha (by omega)
    by_cases h4 : x.k = 4
    · simp only [h4, show ¬ (4 : Int) = 1 by decide, show ¬ (4 : Int) = 2 by decide, show ¬ (4 : Int) = 3 by decide, show ¬ (4 : Int) = 6 by decide, if_true, if_false, Fm.sem, Bool.and_eq_true, ha, hb]
    by_cases h5 : x.k = 5
    · simp only [h5, show ¬ (5 : Int) = 1 by decide, show ¬ (5 : Int) = 2 by decide, show ¬ (5 : Int) = 3 by decide, show ¬ (5 : Int) = 4 by decide, show ¬ (5 : Int) = 6 by decide, if_true, if_false, Fm.sem, Bool.or_eq_true, ha, hb]
    by_cases h7 : x.k = 7
    · simp only [h7, show ¬ (7 : Int) = 1 by decide, show ¬ (7 : Int) = 2 by decide, show ¬ (7 : Int) = 3 by decide, show ¬ (7 : Int) = 4 by decide, show ¬ (7 : Int) = 5 by decide, show ¬ (7 : Int) = 6 by decide, if_true, if_false, Fm.sem]
      rw [unt_all hh]
      simp only [ha, hb]
    · simp only [h1, h2, h3, h4, h5, h6, h7, if_false, Fm.sem]
      rw [rls_all hh]
      simp only [ha, hb]
end Go.Proofs.YtoglgeaiiipchabGreatDoor

namespace Go.Proofs.YtoglgeaiiipchabGreatDoor
def pnum (b : Au) (x y w : Int) : Int := (x * b.st + y) * 3 + w
open Classical in
noncomputable def pwait (a b : Au) (x y w : Int) : Int :=
  let w0 := if w = 2 then 0 else w
  let w1 := if w0 = 0 ∧ a.good x then 1 else w0
  if w1 = 1 ∧ b.good y then 2 else w1
structure PairOf (a b p : Au) : Prop where
  st : p.st = 3 * a.st * b.st
  fs : ∀ q, q ∈ p.fs ↔ ∃ x ∈ a.fs, ∃ y ∈ b.fs, q = pnum b x y 0
  gs : ∀ x y w : Int, 0 ≤ x → x < a.st → 0 ≤ y → y < b.st → 0 ≤ w → w < 3 → (p.good (pnum b x y w) ↔ w = 2)
  ss : ∀ s, s ∈ p.ss ↔ ∃ t ∈ a.ss, ∃ t' ∈ b.ss, t.l = t'.l ∧ ∃ w : Int, 0 ≤ w ∧ w < 3 ∧ s = ⟨pnum b t.f t'.f w, t.l, pnum b t.t t'.t (pwait a b t.f t'.f w)⟩
open Classical in
theorem pwait_lt (a b : Au) (x y w : Int) (h : 0 ≤ w ∧ w < 3) : 0 ≤ pwait a b x y w ∧ pwait a b x y w < 3 := by
  unfold pwait
  dsimp only
  have h0 : 0 ≤ (if w = 2 then 0 else w) ∧ (if w = 2 then 0 else w) < 3 := by split <;> omega
  generalize (if w = 2 then 0 else w) = w0 at *
  have h1 : 0 ≤ (if w0 = 0 ∧ a.good x then 1 else w0) ∧ (if w0 = 0 ∧ a.good x then 1 else w0) < 3 := by split <;> omega
  generalize (if w0 = 0 ∧ a.good x then 1 else w0) = w1 at *
  split <;> omega
theorem pnum_inj {b : Au} {x y w x' y' w' : Int} (h : pnum b x y w = pnum b x' y' w') (hy : 0 ≤ y ∧ y < b.st) (hy' : 0 ≤ y' ∧ y' < b.st) (hw : 0 ≤ w ∧ w < 3) (hw' : 0 ≤ w' ∧ w' < 3) : x = x' ∧ y = y' ∧ w = w' := by
  unfold pnum at h
  have e1 : x * b.st + y = x' * b.st + y' := by omega
  have e2 : w = w' := by omega
  have hb : 0 < b.st := by omega
  have d1 : (x * b.st + y) / b.st = x := by rw [Int.add_comm, Int.add_mul_ediv_right _ _ (by omega), Int.ediv_eq_zero_of_lt hy.1 hy.2]; omega
  have d2 : (x' * b.st + y') / b.st = x' := by rw [Int.add_comm, Int.add_mul_ediv_right _ _ (by omega), Int.ediv_eq_zero_of_lt hy'.1 hy'.2]; omega
  have e3 : x = x' := by rw [← d1, e1, d2]
  subst e3
  exact ⟨rfl, by omega, e2⟩
noncomputable def waits (a b : Au) (r r' : Nat → Int) : Nat → Int
  | 0 => 0
  | i + 1 => pwait a b (r i) (r' i) (waits a b r r' i)
theorem waits_lt (a b : Au) (r r' : Nat → Int) : ∀ i, 0 ≤ waits a b r r' i ∧ waits a b r r' i < 3
  | 0 => by simp [waits]
  | i + 1 => pwait_lt _ _ _ _ _ (waits_lt a b r r' i)
theorem first_from {P : Nat → Prop} {n m : Nat} (hm : n ≤ m) (h : P m) : ∃ k, n ≤ k ∧ P k ∧ ∀ i, n ≤ i → i < k → ¬ P i := by
  have : ∀ d m, m = n + d → P m → ∃ k, n ≤ k ∧ P k ∧ ∀ i, n ≤ i → i < k → ¬ P i := by
    intro d
    induction d using Nat.strongRecOn with
    | _ d ih =>
      intro m hmd hP
      by_cases h : ∃ i, n ≤ i ∧ i < m ∧ P i
      · obtain ⟨i, h1, h2, h3⟩ := h
        exact ih (i - n) (by omega) i (by omega) h3
      · exact ⟨m, by omega, hP, fun i h1 h2 h3 => h ⟨i, h1, h2, h3⟩⟩
  exact this (m - n) m (by omega) h
section
variable {a b : Au} {r r' : Nat → Int} {W : Nat → Int}
theorem waits_two (hW : ∀ i, W (i + 1) = pwait a b (r i) (r' i) (W i)) (hlt : ∀ i, 0 ≤ W i ∧ W i < 3) (hg : ∀ n, ∃ m, n ≤ m ∧ a.good (r m)) (hg' : ∀ n, ∃ m, n ≤ m ∧ b.good (r' m)) (n : Nat) : ∃ m, n ≤ m ∧ W m = 2 := by
  have one : ∀ n, W n = 1 → ∃ m, n ≤ m ∧ W m = 2 := by
    intro n hn
    obtain ⟨m0, h1, h2⟩ := hg' n
    obtain ⟨m, h1, h2, h3⟩ := first_from (P := fun i => b.good (r' i)) h1 h2
    have stay : ∀ d, n + d ≤ m → W (n + d) = 1 := by
      intro d
      induction d with
      | zero => intro _; exact hn
      | succ d ih =>
        intro hd
        have e := ih (by omega)
        rw [← Nat.add_assoc, hW, e]
        have := h3 (n + d) (by omega) (by omega)
        simp [pwait, this]
    have e := stay (m - n) (by omega)
    rw [show n + (m - n) = m by omega] at e
    exact ⟨m + 1, by omega, by rw [hW, e]; simp [pwait, h2]⟩
  have zero : ∀ n, W n = 0 → ∃ m, n ≤ m ∧ W m = 2 := by
    intro n hn
    obtain ⟨m0, h1, h2⟩ := hg n
    obtain ⟨m, h1, h2, h3⟩ := first_from (P := fun i => a.good (r i)) h1 h2
    have stay : ∀ d, n + d ≤ m → W (n + d) = 0 := by
      intro d
      induction d with
      | zero => intro _; exact hn
      | succ d ih =>
        intro hd
        have e := ih (by omega)
        rw [← Nat.add_assoc, hW, e]
        have := h3 (n + d) (by omega) (by omega)
        simp [pwait, this]
    have e := stay (m - n) (by omega)
    rw [show n + (m - n) = m by omega] at e
    by_cases hb : b.good (r' m)
    · exact ⟨m + 1, by omega, by rw [hW, e]; simp [pwait, h2, hb]⟩
    · obtain ⟨k, hk, hk2⟩ := one (m + 1) (by rw [hW, e]; simp [pwait, h2, hb])
      exact ⟨k, by omega, hk2⟩
  have := hlt n
  by_cases h2 : W n = 2
  · exact ⟨n, Nat.le_refl _, h2⟩
  · by_cases h1 : W n = 1
    · exact one n h1
    · exact zero n (by omega)
theorem waits_good (hW : ∀ i, W (i + 1) = pwait a b (r i) (r' i) (W i)) {n m : Nat} (hn : W n = 2) (hnm : n < m) (hm : W m = 2) : (∃ i, n ≤ i ∧ a.good (r i)) ∧ ∃ i, n ≤ i ∧ b.good (r' i) := by
  constructor
  · apply Classical.byContradiction
    intro hno
    have hno' : ∀ i, n ≤ i → ¬ a.good (r i) := fun i h1 h2 => hno ⟨i, h1, h2⟩
    have : ∀ d, W (n + d + 1) = 0 := by
      intro d
      induction d with
      | zero => rw [Nat.add_zero, hW, hn]; simp [pwait, hno' n (Nat.le_refl _)]
      | succ d ih =>
        rw [show n + (d + 1) + 1 = (n + d + 1) + 1 by omega, hW, ih]
        simp [pwait, hno' (n + d + 1) (by omega)]
    have := this (m - n - 1)
    rw [show n + (m - n - 1) + 1 = m by omega, hm] at this
    cases this
  · apply Classical.byContradiction
    intro hno
    have hno' : ∀ i, n ≤ i → ¬ b.good (r' i) := fun i h1 h2 => hno ⟨i, h1, h2⟩
    have : ∀ d, W (n + d + 1) = 0 ∨ W (n + d + 1) = 1 := by
      intro d
      induction d with
      | zero => rw [Nat.add_zero, hW, hn]; by_cases h : a.good (r n) <;> simp [pwait, hno' n (Nat.le_refl _), h]
      | succ d ih =>
        rw [show n + (d + 1) + 1 = (n + d + 1) + 1 by omega, hW]
        rcases ih with ih | ih
        · rw [ih]; by_cases h : a.good (r (n + d + 1)) <;> simp [pwait, hno' (n + d + 1) (by omega), h]
        · rw [ih]; simp [pwait, hno' (n + d + 1) (by omega)]
    have := this (m - n - 1)
    rw [show n + (m - n - 1) + 1 = m by omega, hm] at this
    rcases this with h | h <;> cases h
end
theorem pair_takes {a b p : Au} (ha : AuOK a) (hb : AuOK b) (hp : PairOf a b p) (u : Nat → Int) : TakesU p u ↔ TakesU a u ∧ TakesU b u := by
  constructor
  · rintro ⟨r, h0, hs, hg⟩
    have step : ∀ i, ∃ t ∈ a.ss, ∃ t' ∈ b.ss, t.l = u i ∧ t'.l = u i ∧ ∃ w : Int, (0 ≤ w ∧ w < 3) ∧ r i = pnum b t.f t'.f w ∧ r (i + 1) = pnum b t.t t'.t (pwait a b t.f t'.f w) := fun i => by
      obtain ⟨t, ht, t', ht', hl, w, w1, w2, he⟩ := (hp.ss _).1 (hs i)
      have e1 := congrArg Stp.f he
      have e2 := congrArg Stp.l he
      have e3 := congrArg Stp.t he
      exact ⟨t, ht, t', ht', e2.symm, by rw [← hl]; exact e2.symm, w, ⟨w1, w2⟩, e1, e3⟩
    have parts : ∃ X Y W : Nat → Int, ∀ i, r i = pnum b (X i) (Y i) (W i) ∧ (0 ≤ X i ∧ X i < a.st) ∧ (0 ≤ Y i ∧ Y i < b.st) ∧ (0 ≤ W i ∧ W i < 3) ∧ (⟨X i, u i, X (i + 1)⟩ : Stp) ∈ a.ss ∧ (⟨Y i, u i, Y (i + 1)⟩ : Stp) ∈ b.ss ∧ W (i + 1) = pwait a b (X i) (Y i) (W i) := by
      have ch : ∀ i, ∃ x y w : Int, r i = pnum b x y w ∧ (0 ≤ x ∧ x < a.st) ∧ (0 ≤ y ∧ y < b.st) ∧ (0 ≤ w ∧ w < 3) := fun i => by
        obtain ⟨t, ht, t', ht', _, _, w, hw, e1, _⟩ := step i
        exact ⟨t.f, t'.f, w, e1, (ha.sr _ ht).1, (hb.sr _ ht').1, hw⟩
      refine ⟨fun i => Classical.choose (ch i), fun i => Classical.choose (Classical.choose_spec (ch i)), fun i => Classical.choose (Classical.choose_spec (Classical.choose_spec (ch i))), fun i => ?_⟩
      dsimp only
      have s0 := Classical.choose_spec (Classical.choose_spec (Classical.choose_spec (ch i)))
      have s1 := Classical.choose_spec (Classical.choose_spec (Classical.choose_spec (ch (i + 1))))
      generalize Classical.choose (Classical.choose_spec (Classical.choose_spec (ch i))) = w at *
      generalize Classical.choose (Classical.choose_spec (Classical.choose_spec (ch (i + 1)))) = w' at *
      generalize Classical.choose (Classical.choose_spec (ch i)) = y at *
      generalize Classical.choose (Classical.choose_spec (ch (i + 1))) = y' at *
      generalize Classical.choose (ch i) = x at *
      generalize Classical.choose (ch (i + 1)) = x' at *
      obtain ⟨e0, x0, y0, w0⟩ := s0
      obtain ⟨e1, x1, y1, w1⟩ := s1
      refine ⟨e0, x0, y0, w0, ?_⟩
      obtain ⟨t, ht, t', ht', l1, l2, v, hv, f1, f2⟩ := step i
      have st := ha.sr _ ht
      have st' := hb.sr _ ht'
      obtain ⟨rfl, rfl, rfl⟩ := pnum_inj (e0.symm.trans f1) y0 st'.1 w0 hv
      obtain ⟨rfl, rfl, rfl⟩ := pnum_inj (e1.symm.trans f2) y1 st'.2.1 w1 (pwait_lt _ _ _ _ _ hv)
      refine ⟨?_, ?_, rfl⟩
      · rw [← l1]; exact ht
      · rw [← l2]; exact ht'
    obtain ⟨X, Y, W, h⟩ := parts
    have hf := (hp.fs _).1 h0
    obtain ⟨x, hx, y, hy, e⟩ := hf
    obtain ⟨rfl, rfl, hw0⟩ := pnum_inj ((h 0).1.symm.trans e) (h 0).2.2.1 (hb.fr _ hy) (h 0).2.2.2.1 (by decide)
    have two : ∀ n, ∃ m, n ≤ m ∧ W m = 2 := fun n => by
      obtain ⟨m, hm, hgm⟩ := hg n
      rw [(h m).1] at hgm
      exact ⟨m, hm, (hp.gs _ _ _ (h m).2.1.1 (h m).2.1.2 (h m).2.2.1.1 (h m).2.2.1.2 (h m).2.2.2.1.1 (h m).2.2.2.1.2).1 hgm⟩
    have both : ∀ n, (∃ i, n ≤ i ∧ a.good (X i)) ∧ ∃ i, n ≤ i ∧ b.good (Y i) := fun n => by
      obtain ⟨m, hm, h2⟩ := two n
      obtain ⟨m', hm', h2'⟩ := two (m + 1)
      have := waits_good (fun i => (h i).2.2.2.2.2.2) h2 hm' h2'
      obtain ⟨⟨i, hi, gi⟩, ⟨j, hj, gj⟩⟩ := this
      exact ⟨⟨i, by omega, gi⟩, ⟨j, by omega, gj⟩⟩
    exact ⟨⟨X, hx, fun i => (h i).2.2.2.2.1, fun n => (both n).1⟩, ⟨Y, hy, fun i => (h i).2.2.2.2.2.1, fun n => (both n).2⟩⟩
  · rintro ⟨⟨r, h0, hs, hg⟩, ⟨r', h0', hs', hg'⟩⟩
    refine ⟨fun i => pnum b (r i) (r' i) (waits a b r r' i), ?_, fun i => ?_, fun n => ?_⟩
    · exact (hp.fs _).2 ⟨r 0, h0, r' 0, h0', rfl⟩
    · have := waits_lt a b r r' i
      exact (hp.ss _).2 ⟨_, hs i, _, hs' i, rfl, waits a b r r' i, this.1, this.2, rfl⟩
    · obtain ⟨m, hm, h2⟩ := waits_two (fun i => rfl) (waits_lt a b r r') hg hg' n
      have w := waits_lt a b r r' m
      have s := (ha.sr _ (hs m)).1
      have s' := (hb.sr _ (hs' m)).1
      exact ⟨m, hm, (hp.gs _ _ _ s.1 s.2 s'.1 s'.2 w.1 w.2).2 h2⟩
end Go.Proofs.YtoglgeaiiipchabGreatDoor

namespace Go.Proofs.YtoglgeaiiipchabGreatDoor
structure SortOf (raw ss : List Stp) : Prop where
  so : ssSorted ss
  mem : ∀ s, s ∈ ss ↔ s ∈ raw
  len : ss.length ≤ raw.length
theorem sorted_nodup {ss : List Stp} (h : ssSorted ss) : ss.Nodup := h.imp (fun {s t} hst he => by
  subst he
  rw [stpLt_irrefl] at hst; cases hst)
noncomputable def pairStp (a b : Au) (t t' : Stp) (w : Int) : Stp := ⟨pnum b t.f t'.f w, t.l, pnum b t.t t'.t (pwait a b t.f t'.f w)⟩
noncomputable def pairFs (a b : Au) : List Int := a.fs.flatMap fun x => b.fs.map fun y => pnum b x y 0
def pairGs (n : Nat) : List Bool := (List.range (3 * n)).map fun i => decide (i % 3 = 2)
def PairRaw (a b : Au) (raw : List Stp) : Prop := ∀ s, s ∈ raw ↔ ∃ t ∈ a.ss, ∃ t' ∈ b.ss, t.l = t'.l ∧ ∃ w : Int, 0 ≤ w ∧ w < 3 ∧ s = pairStp a b t t' w
noncomputable def pairOf (a b : Au) (ss : List Stp) : Au := ⟨3 * a.st * b.st, a.le, pairFs a b, pairGs (a.st.toNat * b.st.toNat), ss⟩
theorem pnum_range {a b : Au} {x y w : Int} (hx : 0 ≤ x ∧ x < a.st) (hy : 0 ≤ y ∧ y < b.st) (hw : 0 ≤ w ∧ w < 3) : 0 ≤ pnum b x y w ∧ pnum b x y w < 3 * a.st * b.st := by
  unfold pnum
  have h1 : x * b.st ≤ (a.st - 1) * b.st := Int.mul_le_mul_of_nonneg_right (by omega) (by omega)
  have h2 : 0 ≤ x * b.st := Int.mul_nonneg hx.1 (by omega)
  rw [Int.sub_mul, Int.one_mul] at h1
  rw [Int.mul_assoc]
  omega
theorem pair_is {a b : Au} (ha : AuOK a) (hb : AuOK b) {raw ss : List Stp} (hr : PairRaw a b raw) (hs : SortOf raw ss) : PairOf a b (pairOf a b ss) := by
  refine ⟨rfl, fun q => ?_, fun x y w x0 x1 y0 y1 w0 w1 => ?_, fun s => ?_⟩
  · simp only [pairOf, pairFs, List.mem_flatMap, List.mem_map]
    constructor
    · rintro ⟨x, hx, y, hy, rfl⟩; exact ⟨x, hx, y, hy, rfl⟩
    · rintro ⟨x, hx, y, hy, rfl⟩; exact ⟨x, hx, y, hy, rfl⟩
  · have hp := pnum_range (a := a) (b := b) ⟨x0, x1⟩ ⟨y0, y1⟩ ⟨w0, w1⟩
    unfold Au.good pairOf pairGs
    simp only
    have e : (3 * a.st * b.st).toNat = 3 * (a.st.toNat * b.st.toNat) := by
      have h1 := ha.st1; have h2 := hb.st1
      have : (3 * a.st * b.st) = ((3 * (a.st.toNat * b.st.toNat) : Nat) : Int) := by
        rw [Int.natCast_mul, Int.natCast_mul, Int.toNat_of_nonneg (by omega), Int.toNat_of_nonneg (by omega), Int.mul_assoc]; rfl
      omega
    have hlt : (pnum b x y w).toNat < 3 * (a.st.toNat * b.st.toNat) := by omega
    rw [List.getD_eq_getElem?_getD, List.getElem?_map, List.getElem?_range hlt]
    simp only [Option.map_some, Option.getD_some, decide_eq_true_eq]
    have hm : (pnum b x y w).toNat % 3 = w.toNat := by
      have : pnum b x y w % 3 = w := by
        unfold pnum
        rw [Int.add_comm, Int.add_mul_emod_self_right]
        exact Int.emod_eq_of_lt w0 w1
      omega
    rw [hm]
    constructor
    · rintro ⟨_, h⟩; omega
    · intro h; exact ⟨hp.1, by omega⟩
  · show s ∈ ss ↔ _
    rw [hs.mem, hr]
    constructor
    · rintro ⟨t, ht, t', ht', hl, w, w0, w1, rfl⟩; exact ⟨t, ht, t', ht', hl, w, w0, w1, rfl⟩
    · rintro ⟨t, ht, t', ht', hl, w, w0, w1, rfl⟩; exact ⟨t, ht, t', ht', hl, w, w0, w1, rfl⟩
theorem pairFs_up {b : Au} (hb : b.fs.Pairwise (· < ·)) (hfb : ∀ f ∈ b.fs, 0 ≤ f ∧ f < b.st) : ∀ {l : List Int}, l.Pairwise (· < ·) → (l.flatMap fun x => b.fs.map fun y => pnum b x y 0).Pairwise (· < ·)
  | [], _ => .nil
  | x :: l, h => by
    have h1 := List.pairwise_cons.1 h
    rw [List.flatMap_cons, List.pairwise_append]
    refine ⟨?_, pairFs_up hb hfb h1.2, ?_⟩
    · rw [List.pairwise_map]
      refine hb.imp (fun {p q} hpq => ?_)
      unfold pnum; omega
    · intro p hp q hq
      obtain ⟨y, hy, rfl⟩ := List.mem_map.1 hp
      obtain ⟨x', hx', hq⟩ := List.mem_flatMap.1 hq
      obtain ⟨y', hy', rfl⟩ := List.mem_map.1 hq
      have e := h1.1 x' hx'
      have a1 := hfb y hy
      have a2 := hfb y' hy'
      have h3 : (x + 1) * b.st ≤ x' * b.st := Int.mul_le_mul_of_nonneg_right (by omega) (by omega)
      rw [Int.add_mul, Int.one_mul] at h3
      unfold pnum; omega
structure AuFit (a : Au) : Prop where
  st1 : 1 ≤ a.st
  le1 : 1 ≤ a.le
  le2 : a.le ≤ 8
  gl : (a.gs.length : Int) = a.st
  fr : ∀ f ∈ a.fs, 0 ≤ f ∧ f < a.st
  fo : a.fs.Pairwise (· < ·)
  sr : ∀ s ∈ a.ss, (0 ≤ s.f ∧ s.f < a.st) ∧ (0 ≤ s.t ∧ s.t < a.st) ∧ 0 ≤ s.l ∧ s.l < a.le
  so : ssSorted a.ss
theorem AuOK.fit {a : Au} (h : AuOK a) (hs : ssSorted a.ss) : AuFit a := ⟨h.st1, h.le1, h.le2, h.gl, h.fr, h.fo, h.sr, hs⟩
theorem AuFit.ok {a : Au} (h : AuFit a) (h1 : a.st ≤ 300) (h2 : a.ss.length ≤ 6000) : ckA a = 0 := ckA_zero.2 ⟨⟨h.st1, h1, h.le1, h.le2, h.gl, h2, h.fr, h.fo, h.sr⟩, h.so⟩
theorem pair_fit {a b : Au} (ha : AuFit a) (hb : AuFit b) {raw ss : List Stp} (hr : PairRaw a b raw) (hs : SortOf raw ss) : AuFit (pairOf a b ss) := by
  have a1 := ha.st1; have b1 := hb.st1
  have pos : 1 ≤ a.st * b.st := Int.le_trans (show (1 : Int) ≤ 1 * 1 by decide) (Int.mul_le_mul a1 b1 (by decide) (by omega))
  refine ⟨?_, ha.le1, ha.le2, ?_, ?_, pairFs_up hb.fo hb.fr ha.fo, ?_, hs.so⟩
  · show 1 ≤ 3 * a.st * b.st
    rw [Int.mul_assoc]; omega
  · show ((pairGs (a.st.toNat * b.st.toNat)).length : Int) = 3 * a.st * b.st
    unfold pairGs
    rw [List.length_map, List.length_range, Int.natCast_mul, Int.natCast_mul, Int.toNat_of_nonneg (by omega), Int.toNat_of_nonneg (by omega), Int.mul_assoc]; rfl
  · intro f hf
    obtain ⟨x, hx, hf⟩ := List.mem_flatMap.1 hf
    obtain ⟨y, hy, rfl⟩ := List.mem_map.1 hf
    exact pnum_range (ha.fr x hx) (hb.fr y hy) (by decide)
  · intro s hs'
    obtain ⟨t, ht, t', ht', hl, w, w0, w1, rfl⟩ := (hr s).1 ((hs.mem s).1 hs')
    have s1 := ha.sr t ht
    have s2 := hb.sr t' ht'
    exact ⟨pnum_range s1.1 s2.1 ⟨w0, w1⟩, pnum_range s1.2.1 s2.2.1 (pwait_lt _ _ _ _ _ ⟨w0, w1⟩), s1.2.2⟩
end Go.Proofs.YtoglgeaiiipchabGreatDoor
