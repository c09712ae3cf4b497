/- Plain: the least lasso: the shortest loop divides the loop; then the head is cut from behind. -/
import Derived.Test.YtoglgeaiiipchaaPH
namespace Go.Proofs.Ytoglgeaiiipchaa

/-- is a loop itself, so much further on? -/
def turnsV (xs : List Int) (n : Nat) : Bool := (List.range xs.length).all fun i => xs.getD ((i + n) % xs.length) 0 == xs.getD i 0
theorem turnsV_iff {xs : List Int} {n : Nat} : turnsV xs n = true ↔ ∀ i, i < xs.length → xs.getD ((i + n) % xs.length) 0 = xs.getD i 0 := by
  unfold turnsV
  rw [List.all_eq_true]
  constructor
  · intro h i hi
    simpa using h i (List.mem_range.2 hi)
  · intro h i hi
    simpa using h i (List.mem_range.1 hi)
theorem turnsV_all {xs : List Int} {n : Nat} (h : turnsV xs n = true) (hp : 0 < xs.length) (i : Nat) : xs.getD ((i + n) % xs.length) 0 = xs.getD (i % xs.length) 0 := by
  have := turnsV_iff.1 h (i % xs.length) (Nat.mod_lt _ hp)
  rw [Nat.mod_add_mod] at this
  exact this
theorem turnsV_len (xs : List Int) : turnsV xs xs.length = true := turnsV_iff.2 fun i hi => by
  rw [Nat.add_mod_right, Nat.mod_eq_of_lt hi]
theorem turnsV_mul {xs : List Int} {n : Nat} (h : turnsV xs n = true) (hp : 0 < xs.length) (k i : Nat) : xs.getD ((i + n * k) % xs.length) 0 = xs.getD (i % xs.length) 0 := by
  induction k with
  | zero => rfl
  | succ k ih => rw [Nat.mul_succ, ← Nat.add_assoc, turnsV_all h hp, ih]
/-- the least turn divides the loop -/
theorem turnsV_dvd {xs : List Int} {n : Nat} (h : turnsV xs n = true) (hp : 0 < xs.length) (hn : 0 < n) (hmin : ∀ m, 0 < m → m < n → turnsV xs m = false) : xs.length % n = 0 := by
  rcases Nat.eq_zero_or_pos (xs.length % n) with h0 | h0
  · exact h0
  · exfalso
    have hlt := Nat.mod_lt xs.length hn
    have hf := hmin _ h0 hlt
    have ht : turnsV xs (xs.length % n) = true := turnsV_iff.2 fun i hi => by
      have h1 := turnsV_mul h hp (xs.length / n) (i + xs.length % n)
      rw [Nat.add_assoc, Nat.mod_add_div, Nat.add_mod_right, Nat.mod_eq_of_lt hi] at h1
      exact h1.symm
    rw [ht] at hf
    cases hf
/-- the first n from k on, of at most L, that turns -/
def firstTurn (P : Nat → Bool) (L : Nat) : Nat → Nat → Nat
  | 0, _ => L
  | m + 1, k => if L ≤ k then L else if P k then k else firstTurn P L m (k + 1)
theorem firstTurn_congr {P Q : Nat → Bool} {L : Nat} : ∀ (m k : Nat), 0 < k → (∀ j, 0 < j → j < k → P j = false) → (∀ j, j < L → 0 < j → (∀ i, 0 < i → i < j → P i = false) → Q j = P j) → firstTurn Q L m k = firstTurn P L m k
  | 0, k, _, _, _ => rfl
  | m + 1, k, hk, hmin, he => by
    unfold firstTurn
    by_cases h : L ≤ k
    · rw [if_pos h, if_pos h]
    · rw [if_neg h, if_neg h, he k (by omega) hk hmin]
      cases hp : P k with
      | true => rfl
      | false =>
        simp only [Bool.false_eq_true, if_false]
        exact firstTurn_congr m (k + 1) (by omega) (fun j h1 h2 => by
          rcases Nat.lt_or_ge j k with h3 | h3
          · exact hmin j h1 h3
          · have : j = k := by omega
            rw [this]; exact hp) he
/-- the length of the least loop -/
def leastN (l : La) : Nat := firstTurn (turnsV l.l) l.l.length l.l.length 1
theorem leastN_prog (l : La) (hp : 0 < l.l.length) : firstTurn (fun n => decide (l.l.length % n = 0) && turnsV l.l n) l.l.length l.l.length 1 = leastN l := by
  unfold leastN
  refine firstTurn_congr _ 1 (by decide) (fun j h1 h2 => absurd h2 (by omega)) fun j hj h0 hmin => ?_
  cases ht : turnsV l.l j with
  | false => simp
  | true => simp [turnsV_dvd ht hp h0 hmin]
/-- how much of the head stays -/
def downK (f : Nat → Int) (n : Nat) : Nat → Nat
  | 0 => 0
  | k + 1 => if f k = f (k + n) then downK f n k else k + 1
theorem downK_le (f : Nat → Int) (n : Nat) : ∀ k, downK f n k ≤ k
  | 0 => Nat.le_refl _
  | k + 1 => by
    unfold downK
    split
    · have := downK_le f n k; omega
    · omega
def leastOf (l : La) : La := ⟨(List.range (downK l.at (leastN l) l.h.length)).map l.at, (List.range (leastN l)).map fun i => l.at (downK l.at (leastN l) l.h.length + i)⟩
end Go.Proofs.Ytoglgeaiiipchaa
