/- Plain: what it is to take an endless word: an endless run with good states again and again; by ways and circles. -/
import Derived.Test.YtoglgeaiiipchaaDoorPH3
namespace Go.Proofs.YtoglgeaiiipchaaDoor

def Au.good (a : Au) (q : Int) : Prop := 0 ≤ q ∧ a.gs.getD q.toNat false = true
/-- does an automaton take an endless word? -/
def TakesU (a : Au) (u : Nat → Int) : Prop := ∃ r : Nat → Int, r 0 ∈ a.fs ∧ (∀ i, (⟨r i, u i, r (i + 1)⟩ : Stp) ∈ a.ss) ∧ ∀ n, ∃ m, n ≤ m ∧ a.good (r m)
noncomputable def takesB (a : Au) (u : Nat → Int) : Bool := @decide (TakesU a u) (Classical.propDecidable _)
theorem takesB_iff {a : Au} {u : Nat → Int} : takesB a u = true ↔ TakesU a u := by
  unfold takesB
  exact @decide_eq_true_iff _ (Classical.propDecidable _)

/-- a way by the letters from i to j; with g: that comes to a good state behind its beginning -/
inductive Way (a : Au) (u : Nat → Int) : Bool → Nat → Int → Nat → Int → Prop
  | refl (i : Nat) (q : Int) : Way a u false i q i q
  | go {g : Bool} {i j : Nat} {q p p' : Int} : Way a u g i q j p → (⟨p, u j, p'⟩ : Stp) ∈ a.ss → Way a u g i q (j + 1) p'
  | hit {g : Bool} {i j : Nat} {q p p' : Int} : Way a u g i q j p → (⟨p, u j, p'⟩ : Stp) ∈ a.ss → a.good p' → Way a u true i q (j + 1) p'

theorem Way.le {a : Au} {u : Nat → Int} {g : Bool} {i j : Nat} {q p : Int} (h : Way a u g i q j p) : i ≤ j := by
  induction h with
  | refl => exact Nat.le_refl _
  | go _ _ ih => omega
  | hit _ _ _ ih => omega
theorem Way.lt {a : Au} {u : Nat → Int} {g : Bool} {i j : Nat} {q p : Int} (h : Way a u g i q j p) (hg : g = true) : i < j := by
  cases h with
  | refl => cases hg
  | go h _ => have := h.le; omega
  | hit h _ _ => have := h.le; omega
theorem Way.trans {a : Au} {u : Nat → Int} {g g' : Bool} {i j k : Nat} {q p s : Int} (h : Way a u g i q j p) (h' : Way a u g' j p k s) : Way a u (g || g') i q k s := by
  induction h' with
  | refl => rw [Bool.or_false]; exact h
  | go _ hs ih => exact .go (ih h) hs
  | hit _ hs hg ih => rw [Bool.or_true]; exact .hit (ih h) hs hg
theorem Way.forget {a : Au} {u : Nat → Int} {g : Bool} {i j : Nat} {q p : Int} (h : Way a u g i q j p) : Way a u false i q j p := by
  induction h with
  | refl => exact .refl _ _
  | go _ hs ih => exact .go ih hs
  | hit _ hs _ ih => exact .go ih hs
/-- shifting by what the word repeats -/
theorem Way.shift {a : Au} {u : Nat → Int} {g : Bool} {i j : Nat} {q p : Int} (h : Way a u g i q j p) {b c : Nat} (hi : b ≤ i) (hu : ∀ k, b ≤ k → u (k + c) = u k) : Way a u g (i + c) q (j + c) p := by
  induction h with
  | refl => exact .refl _ _
  | @go g i j q p p' h hs ih =>
    rw [Nat.add_right_comm]
    refine .go (ih hi) ?_
    rw [hu _ (Nat.le_trans hi h.le)]; exact hs
  | @hit g i j q p p' h hs hg ih =>
    rw [Nat.add_right_comm]
    refine .hit (ih hi) ?_ hg
    rw [hu _ (Nat.le_trans hi h.le)]; exact hs
theorem Way.unshift {a : Au} {u : Nat → Int} {g : Bool} {i' j' : Nat} {q p : Int} (h : Way a u g i' q j' p) {b c : Nat} (hu : ∀ k, b ≤ k → u (k + c) = u k) : ∀ i, i' = i + c → b ≤ i → ∃ j, j' = j + c ∧ Way a u g i q j p := by
  induction h with
  | refl => intro i h1 _; exact ⟨i, h1, .refl _ _⟩
  | @go g i' j' q p p' h hs ih =>
    intro i h1 h2
    obtain ⟨j, rfl, hw⟩ := ih i h1 h2
    refine ⟨j + 1, by omega, .go hw ?_⟩
    rw [← hu _ (Nat.le_trans h2 hw.le)]; exact hs
  | @hit g i' j' q p p' h hs hg ih =>
    intro i h1 h2
    obtain ⟨j, rfl, hw⟩ := ih i h1 h2
    refine ⟨j + 1, by omega, .hit hw ?_ hg⟩
    rw [← hu _ (Nat.le_trans h2 hw.le)]; exact hs
/-- a way as a row of states -/
theorem Way.run {a : Au} {u : Nat → Int} {g : Bool} {i j : Nat} {q p : Int} (h : Way a u g i q j p) : ∃ r : Nat → Int, r i = q ∧ r j = p ∧ (∀ k, i ≤ k → k < j → (⟨r k, u k, r (k + 1)⟩ : Stp) ∈ a.ss) ∧ (g = true → ∃ k, i < k ∧ k ≤ j ∧ a.good (r k)) := by
  induction h with
  | refl i q => exact ⟨fun _ => q, rfl, rfl, fun k h1 h2 => absurd h2 (by omega), fun h => by cases h⟩
  | @go g i j q p p' h hs ih =>
    obtain ⟨r, h1, h2, h3, h4⟩ := ih
    have hle := h.le
    refine ⟨fun k => if k ≤ j then r k else p', by simp [hle, h1], by simp [show ¬ j + 1 ≤ j by omega], fun k hk1 hk2 => ?_, fun hg => ?_⟩
    · rcases Nat.lt_or_ge k j with hk | hk
      · simp only [show k ≤ j by omega, show k + 1 ≤ j by omega, if_true]
        exact h3 k hk1 hk
      · obtain rfl : k = j := by omega
        simp only [Nat.le_refl, if_true, show ¬ k + 1 ≤ k by omega, if_false, h2]
        exact hs
    · obtain ⟨k, k1, k2, k3⟩ := h4 hg
      exact ⟨k, k1, by omega, by simp only [k2, if_true]; exact k3⟩
  | @hit g i j q p p' h hs hg ih =>
    obtain ⟨r, h1, h2, h3, h4⟩ := ih
    have hle := h.le
    refine ⟨fun k => if k ≤ j then r k else p', by simp [hle, h1], by simp [show ¬ j + 1 ≤ j by omega], fun k hk1 hk2 => ?_, fun _ => ?_⟩
    · rcases Nat.lt_or_ge k j with hk | hk
      · simp only [show k ≤ j by omega, show k + 1 ≤ j by omega, if_true]
        exact h3 k hk1 hk
      · obtain rfl : k = j := by omega
        simp only [Nat.le_refl, if_true, show ¬ k + 1 ≤ k by omega, if_false, h2]
        exact hs
    · exact ⟨j + 1, by omega, Nat.le_refl _, by simpa [show ¬ j + 1 ≤ j by omega] using hg⟩
/-- a part of a run is a way -/
theorem Way.of_run {a : Au} {u : Nat → Int} {r : Nat → Int} (hs : ∀ i, (⟨r i, u i, r (i + 1)⟩ : Stp) ∈ a.ss) (i d : Nat) : Way a u false i (r i) (i + d) (r (i + d)) := by
  induction d with
  | zero => exact .refl _ _
  | succ d ih => exact .go ih (hs _)
theorem Way.of_run_hit {a : Au} {u : Nat → Int} {r : Nat → Int} (hs : ∀ i, (⟨r i, u i, r (i + 1)⟩ : Stp) ∈ a.ss) {i m j : Nat} (h1 : i < m) (h2 : m ≤ j) (hg : a.good (r m)) : Way a u true i (r i) j (r j) := by
  obtain ⟨d, rfl⟩ : ∃ d, m = i + d + 1 := ⟨m - i - 1, by omega⟩
  obtain ⟨e, rfl⟩ : ∃ e, j = i + d + 1 + e := ⟨j - (i + d + 1), by omega⟩
  have hw := (Way.of_run (a := a) hs i d).hit (hs _) hg
  exact hw.trans (Way.of_run hs _ e)

/-- **a way to a circle with a good state: the word is taken** -/
theorem takes_of_circle {a : Au} {u : Nat → Int} {f q : Int} {k c : Nat} (hf : f ∈ a.fs) (h0 : Way a u false 0 f k q) (h1 : Way a u true k q (k + c) q) (hu : ∀ i, k ≤ i → u (i + c) = u i) : TakesU a u := by
  obtain ⟨r1, a1, a2, a3, _⟩ := h0.run
  obtain ⟨r2, b1, b2, b3, b4⟩ := h1.run
  obtain ⟨g0, g1, g2, g3⟩ := b4 rfl
  have hc : 0 < c := by have := h1.lt rfl; omega
  have per : ∀ n i, k ≤ i → u (i + c * n) = u i := by
    intro n
    induction n with
    | zero => intro i _; rfl
    | succ n ih => intro i hi; rw [Nat.mul_succ, ← Nat.add_assoc, hu _ (by omega), ih i hi]
  refine ⟨fun t => if t < k then r1 t else r2 (k + (t - k) % c), ?_, fun t => ?_, fun n => ?_⟩
  · show (if 0 < k then r1 0 else r2 (k + (0 - k) % c)) ∈ a.fs
    by_cases hk : 0 < k
    · rw [if_pos hk, a1]; exact hf
    · obtain rfl : k = 0 := by omega
      simp only [Nat.lt_irrefl, if_false, Nat.sub_zero, Nat.zero_mod, Nat.add_zero]
      rw [b1, ← a2, a1]; exact hf
  · show (⟨if t < k then r1 t else r2 (k + (t - k) % c), u t, if t + 1 < k then r1 (t + 1) else r2 (k + (t + 1 - k) % c)⟩ : Stp) ∈ a.ss
    by_cases ht : t < k
    · rw [if_pos ht]
      by_cases ht1 : t + 1 < k
      · rw [if_pos ht1]; exact a3 t (Nat.zero_le _) ht
      · rw [if_neg ht1]
        have e : t + 1 = k := by omega
        have := a3 t (Nat.zero_le _) ht
        rw [e, a2] at this
        rw [show t + 1 - k = 0 by omega, Nat.zero_mod, Nat.add_zero, b1]
        exact this
    · rw [if_neg ht, if_neg (by omega)]
      have hm := Nat.mod_lt (t - k) hc
      have hdm := Nat.mod_add_div (t - k) c
      have hut : u t = u (k + (t - k) % c) := by
        rw [← per ((t - k) / c) (k + (t - k) % c) (by omega)]
        congr 1
        omega
      have hst := b3 (k + (t - k) % c) (by omega) (by omega)
      rw [hut]
      have e : (t + 1 - k) % c = if (t - k) % c + 1 = c then 0 else (t - k) % c + 1 := by
        have e1 : t + 1 - k = (t - k) % c + 1 + c * ((t - k) / c) := by omega
        rw [e1, Nat.add_mul_mod_self_left]
        split
        · rename_i h; rw [h, Nat.mod_self]
        · exact Nat.mod_eq_of_lt (by omega)
      rw [e]
      split
      · rename_i h
        have e2 : k + (t - k) % c + 1 = k + c := by omega
        rw [e2, b2] at hst
        rw [Nat.add_zero, b1]
        exact hst
      · exact hst
  · refine ⟨g0 + c * (n + 1), ?_, ?_⟩
    · have := Nat.le_mul_of_pos_left (n + 1) hc; omega
    · show a.good (if g0 + c * (n + 1) < k then r1 (g0 + c * (n + 1)) else r2 (k + (g0 + c * (n + 1) - k) % c))
      rw [if_neg (by omega)]
      have e : g0 + c * (n + 1) - k = (g0 - k) + c * (n + 1) := by omega
      rw [e, Nat.add_mul_mod_self_left]
      by_cases hg : g0 = k + c
      · have : g0 - k = c := by omega
        rw [this, Nat.mod_self, Nat.add_zero, b1, ← b2, ← hg]
        exact g3
      · rw [Nat.mod_eq_of_lt (by omega), show k + (g0 - k) = g0 by omega]
        exact g3
end Go.Proofs.YtoglgeaiiipchaaDoor
