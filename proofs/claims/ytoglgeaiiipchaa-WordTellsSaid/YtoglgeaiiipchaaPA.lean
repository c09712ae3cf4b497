/- Plain: what Check answers of an automaton, without a program. -/
import Derived.Test.YtoglgeaiiipchaaPT2
namespace Go.Proofs.Ytoglgeaiiipchaa

/-- does one step stand ahead of another one? -/
def stpLt (s t : Stp) : Bool := if s.f = t.f then (if s.l = t.l then decide (s.t < t.t) else decide (s.l < t.l)) else decide (s.f < t.f)
def fsBad (st : Int) (fs : List Int) : Bool := fs.any fun n => !btw n 0 (st - 1)
def fsErr (fs : List Int) (i : Nat) : Bool := decide (fs.getD i 0 ≤ fs.getD (i - 1) 0)
/-- the first numbers that do not rise, from place i on -/
def fsDown (fs : List Int) : Nat → Nat → Bool
  | 0, _ => false
  | m + 1, i => fsErr fs i || fsDown fs m (i + 1)
def stpBad (a : Au) (s : Stp) : Bool := !btw s.f 0 (a.st - 1) || !btw s.t 0 (a.st - 1) || !btw s.l 0 (a.le - 1)
def nostp : Stp := ⟨0, 0, 0⟩
/-- what is wrong with step number i -/
def stpErr (a : Au) (i : Nat) : Int :=
  if stpBad a (a.ss.getD i nostp) = true then 5
  else if (decide (0 < i) && !stpLt (a.ss.getD (i - 1) nostp) (a.ss.getD i nostp)) = true then 4
  else 0
def ckS (a : Au) : Nat → Nat → Int
  | 0, _ => 0
  | m + 1, i => if stpErr a i = 0 then ckS a m (i + 1) else stpErr a i
def ckA (a : Au) : Int :=
  if (!btw a.st 1 300 || !btw a.le 1 8) = true then 3
  else if (a.gs.length : Int) ≠ a.st then 1
  else if 6000 < (a.ss.length : Int) then 2
  else if fsBad a.st a.fs = true then 5
  else if fsDown a.fs (a.fs.length - 1) 1 = true then 4
  else ckS a a.ss.length 0

theorem ckS_zero {a : Au} : ∀ (m i : Nat), ckS a m i = 0 ↔ ∀ k, i ≤ k → k < i + m → stpErr a k = 0
  | 0, i => ⟨fun _ k h1 h2 => absurd h2 (by omega), fun _ => rfl⟩
  | m + 1, i => by
    unfold ckS
    by_cases h : stpErr a i = 0
    · rw [if_pos h, ckS_zero m (i + 1)]
      constructor
      · intro hk k h1 h2
        rcases Nat.eq_or_lt_of_le h1 with rfl | h3
        · exact h
        · exact hk k h3 (by omega)
      · intro hk k h1 h2
        exact hk k (by omega) (by omega)
    · rw [if_neg h]
      exact ⟨fun h' => absurd h' h, fun hk => absurd (hk i (Nat.le_refl _) (by omega)) h⟩
theorem ckS_at {a : Au} : ∀ (m i k : Nat), i ≤ k → k < i + m → (∀ j, i ≤ j → j < k → stpErr a j = 0) → stpErr a k ≠ 0 → ckS a m i = stpErr a k
  | 0, i, k, h1, h2, _, _ => absurd h2 (by omega)
  | m + 1, i, k, h1, h2, h3, h4 => by
    unfold ckS
    rcases Nat.eq_or_lt_of_le h1 with rfl | h5
    · rw [if_neg h4]
    · rw [if_pos (h3 i (Nat.le_refl _) h5)]
      exact ckS_at m (i + 1) k h5 (by omega) (fun j a1 a2 => h3 j (by omega) a2) h4
theorem fsDown_false {fs : List Int} : ∀ (m i : Nat), fsDown fs m i = false ↔ ∀ k, i ≤ k → k < i + m → fsErr fs k = false
  | 0, i => ⟨fun _ k h1 h2 => absurd h2 (by omega), fun _ => rfl⟩
  | m + 1, i => by
    unfold fsDown
    rw [Bool.or_eq_false_iff, fsDown_false m (i + 1)]
    constructor
    · rintro ⟨h, hk⟩ k h1 h2
      rcases Nat.eq_or_lt_of_le h1 with rfl | h3
      · exact h
      · exact hk k h3 (by omega)
    · intro hk
      exact ⟨hk i (Nat.le_refl _) (by omega), fun k h1 h2 => hk k (by omega) (by omega)⟩
theorem fsDown_at {fs : List Int} {m i k : Nat} (h1 : i ≤ k) (h2 : k < i + m) (h3 : fsErr fs k = true) : fsDown fs m i = true := by
  cases h : fsDown fs m i with
  | true => rfl
  | false => rw [(fsDown_false m i).1 h k h1 h2] at h3; cases h3
theorem stpLt_iff {s t : Stp} : stpLt s t = true ↔ s.f < t.f ∨ s.f = t.f ∧ (s.l < t.l ∨ s.l = t.l ∧ s.t < t.t) := by
  unfold stpLt
  split
  · rename_i h
    split
    · rename_i h2; simp [h, h2]
    · rename_i h2
      simp only [decide_eq_true_eq]
      constructor
      · intro h3; exact .inr ⟨h, .inl h3⟩
      · rintro (h3 | ⟨_, h3 | ⟨h3, _⟩⟩)
        · omega
        · exact h3
        · exact absurd h3 h2
  · rename_i h
    simp only [decide_eq_true_eq]
    constructor
    · exact .inl
    · rintro (h3 | ⟨h3, _⟩)
      · exact h3
      · exact absurd h3 h
theorem stpLt_trans {s t u : Stp} (h : stpLt s t = true) (h' : stpLt t u = true) : stpLt s u = true := by
  rw [stpLt_iff] at *
  omega
theorem stpLt_irrefl (s : Stp) : stpLt s s = false := by
  cases h : stpLt s s with
  | false => rfl
  | true => rw [stpLt_iff] at h; omega
theorem pairwise_of_next {α : Type} {R : α → α → Prop} (ht : ∀ x y z : α, R x y → R y z → R x z) : ∀ (xs : List α), (∀ i, (h : i + 1 < xs.length) → R xs[i] xs[i + 1]) → xs.Pairwise R
  | [], _ => .nil
  | [x], _ => by simp
  | x :: y :: r, h => by
    have ih := pairwise_of_next ht (y :: r) (fun i hi => h (i + 1) (Nat.succ_lt_succ hi))
    refine List.Pairwise.cons ?_ ih
    intro z hz
    have h0 : R x y := h 0 (by simp)
    rcases List.mem_cons.1 hz with rfl | hz
    · exact h0
    · exact ht _ _ _ h0 (List.rel_of_pairwise_cons ih hz)
theorem next_of_pairwise {α : Type} {R : α → α → Prop} {xs : List α} (hp : xs.Pairwise R) (i : Nat) (h : i + 1 < xs.length) : R xs[i] xs[i + 1] :=
  List.pairwise_iff_getElem.1 hp i (i + 1) (by omega) h (by omega)
/-- the steps stand in order -/
def ssSorted (ss : List Stp) : Prop := ss.Pairwise fun s t => stpLt s t = true
theorem btw_false {n a b : Int} : btw n a b = false ↔ ¬ (a ≤ n ∧ n ≤ b) := by
  rw [← btw_iff]; simp
theorem getD_lt {α : Type} {xs : List α} {i : Nat} {d : α} (h : i < xs.length) : xs.getD i d = xs[i] := by rw [List.getD_eq_getElem?_getD, List.getElem?_eq_getElem h]; rfl
/-- **Check finds nothing just of what is right** -/
theorem ckA_zero {a : Au} : ckA a = 0 ↔ AuOK a ∧ ssSorted a.ss := by
  unfold ckA
  constructor
  · intro h
    split at h
    · cases h
    · rename_i h1
      split at h
      · cases h
      · rename_i h2
        split at h
        · cases h
        · rename_i h3
          split at h
          · cases h
          · rename_i h4
            split at h
            · cases h
            · rename_i h5
              simp only [Bool.or_eq_true, Bool.not_eq_true', not_or, Bool.not_eq_false, btw_iff] at h1
              have h6 : ∀ i, (hi : i < a.ss.length) → stpBad a a.ss[i] = false ∧ (0 < i → stpLt (a.ss.getD (i - 1) nostp) a.ss[i] = true) := by
                intro i hi
                have := (ckS_zero _ _).1 h i (Nat.zero_le _) (by omega)
                unfold stpErr at this
                rw [getD_lt hi] at this
                split at this
                · cases this
                · rename_i h7
                  split at this
                  · cases this
                  · rename_i h8
                    refine ⟨by simpa using h7, fun h0 => ?_⟩
                    simp only [Bool.and_eq_true, decide_eq_true_eq, Bool.not_eq_true', not_and, Bool.not_eq_false] at h8
                    exact h8 h0
              refine ⟨⟨h1.1.1, h1.1.2, h1.2.1, h1.2.2, by simpa using h2, by omega, ?_, ?_, ?_⟩, ?_⟩
              · intro f hf
                simp only [fsBad, List.any_eq_true, not_exists, not_and, Bool.not_eq_true', Bool.not_eq_false, btw_iff] at h4
                have := h4 f hf
                omega
              · refine pairwise_of_next (R := fun x y : Int => x < y) (fun _ _ _ h h' => Int.lt_trans h h') _ fun i hi => ?_
                have h5' : fsDown a.fs (a.fs.length - 1) 1 = false := by simpa using h5
                have := (fsDown_false _ _).1 h5' (i + 1) (by omega) (by omega)
                unfold fsErr at this
                rw [getD_lt hi, Nat.add_sub_cancel, getD_lt (by omega)] at this
                simpa using this
              · intro s hs
                obtain ⟨i, hi, rfl⟩ := List.getElem_of_mem hs
                have := (h6 i hi).1
                simp only [stpBad, Bool.or_eq_false_iff, Bool.not_eq_false', btw_iff] at this
                omega
              · refine pairwise_of_next (R := fun s t => stpLt s t = true) (fun _ _ _ h h' => stpLt_trans h h') _ fun i hi => ?_
                have := (h6 (i + 1) hi).2 (by omega)
                rwa [Nat.add_sub_cancel, getD_lt (by omega)] at this
  · rintro ⟨ho, hs⟩
    rw [if_neg, if_neg, if_neg, if_neg, if_neg, ckS_zero]
    · intro k _ hk
      have hk' : k < a.ss.length := by omega
      unfold stpErr
      rw [getD_lt hk', if_neg, if_neg]
      · simp only [Bool.and_eq_true, decide_eq_true_eq, Bool.not_eq_true', not_and, Bool.not_eq_false]
        intro h0
        rw [getD_lt (by omega)]
        have := next_of_pairwise hs (k - 1) (by omega)
        simpa [show k - 1 + 1 = k by omega] using this
      · have := ho.sr _ (List.getElem_mem hk')
        simp only [stpBad, Bool.or_eq_true, Bool.not_eq_true', btw_false]
        omega
    · have : fsDown a.fs (a.fs.length - 1) 1 = false := by
        rw [fsDown_false]
        intro k h1 h2
        unfold fsErr
        rw [getD_lt (by omega), getD_lt (by omega)]
        have := next_of_pairwise ho.fo (k - 1) (by omega)
        simpa [show k - 1 + 1 = k by omega] using this
      simp [this]
    · simp only [fsBad, List.any_eq_true, not_exists, not_and, Bool.not_eq_true', Bool.not_eq_false, btw_iff]
      intro f hf
      have := ho.fr f hf
      omega
    · have := ho.sl; omega
    · have := ho.gl; omega
    · simp only [Bool.or_eq_true, Bool.not_eq_true', btw_false]
      have := ho.st1; have := ho.st2; have := ho.le1; have := ho.le2
      omega
end Go.Proofs.Ytoglgeaiiipchaa
