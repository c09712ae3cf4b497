/- The least lasso is the same word, and its own least. No program in sight. -/
import Derived.Test.YtoglgeaiiipchabGreatDoorPZA
namespace Go.Proofs.YtoglgeaiiipchabGreatDoor

/-- is a loop itself, so much further on? -/
def turnsV (xs : List Int) (n : Nat) : Bool := (List.range xs.length).all fun i => xs.getD ((i + n) % xs.length) 0 == xs.getD i 0
theorem turnsV_iff {xs : List Int} {n : Nat} : turnsV xs n = true ↔ ∀ i, i < xs.length → xs.getD ((i + n) % xs.length) 0 = xs.getD i 0 := by
  unfold turnsV
  rw [List.all_eq_true]
  constructor
  · intro h i hi
    simpa using h i (List.mem_range.2 hi)
  · intro h i hi
    simpa using h i (List.mem_range.1 hi)
theorem turnsV_all {xs : List Int} {n : Nat} (h : turnsV xs n = true) (hp : 0 < xs.length) (i : Nat) : xs.getD ((i + n) % xs.length) 0 = xs.getD (i % xs.length) 0 := by
  have := turnsV_iff.1 h (i % xs.length) (Nat.mod_lt _ hp)
  rw [Nat.mod_add_mod] at this
  exact this
theorem turnsV_len (xs : List Int) : turnsV xs xs.length = true := turnsV_iff.2 fun i hi => by
  rw [Nat.add_mod_right, Nat.mod_eq_of_lt hi]
theorem turnsV_mul {xs : List Int} {n : Nat} (h : turnsV xs n = true) (hp : 0 < xs.length) (k i : Nat) : xs.getD ((i + n * k) % xs.length) 0 = xs.getD (i % xs.length) 0 := by
  induction k with
  | zero => rfl
  | succ k ih => rw [Nat.mul_succ, ← Nat.add_assoc, turnsV_all h hp, ih]
/-- the least turn divides the loop -/
theorem turnsV_dvd {xs : List Int} {n : Nat} (h : turnsV xs n = true) (hp : 0 < xs.length) (hn : 0 < n) (hmin : ∀ m, 0 < m → m < n → turnsV xs m = false) : xs.length % n = 0 := by
  rcases Nat.eq_zero_or_pos (xs.length % n) with h0 | h0
  · exact h0
  · exfalso
    have hlt := Nat.mod_lt xs.length hn
    have hf := hmin _ h0 hlt
    have ht : turnsV xs (xs.length % n) = true := turnsV_iff.2 fun i hi => by
      have h1 := turnsV_mul h hp (xs.length / n) (i + xs.length % n)
      rw [Nat.add_assoc, Nat.mod_add_div, Nat.add_mod_right, Nat.mod_eq_of_lt hi] at h1
      exact h1.symm
    rw [ht] at hf
    cases hf
/-- the first n from k on, of at most L, that turns -/
def firstTurn (P : Nat → Bool) (L : Nat) : Nat → Nat → Nat
  | 0, _ => L
  | m + 1, k => if L ≤ k then L else if P k then k else firstTurn P L m (k + 1)
theorem firstTurn_congr {P Q : Nat → Bool} {L : Nat} : ∀ (m k : Nat), 0 < k → (∀ j, 0 < j → j < k → P j = false) → (∀ j, j < L → 0 < j → (∀ i, 0 < i → i < j → P i = false) → Q j = P j) → firstTurn Q L m k = firstTurn P L m k
  | 0, k, _, _, _ => rfl
  | m + 1, k, hk, hmin, he => by
    unfold firstTurn
    by_cases h : L ≤ k
    · rw [if_pos h, if_pos h]
    · rw [if_neg h, if_neg h, he k (by omega) hk hmin]
      cases hp : P k with
      | true => rfl
      | false =>
        simp only [Bool.false_eq_true, if_false]
        exact firstTurn_congr m (k + 1) (by omega) (fun j h1 h2 => by
          rcases Nat.lt_or_ge j k with h3 | h3
          · exact hmin j h1 h3
          · have : j = k := by omega
            rw [this]; exact hp) he
/-- the length of the least loop -/
def leastN (l : La) : Nat := firstTurn (turnsV l.l) l.l.length l.l.length 1
theorem leastN_prog (l : La) (hp : 0 < l.l.length) : firstTurn (fun n => decide (l.l.length % n = 0) && turnsV l.l n) l.l.length l.l.length 1 = leastN l := by
  unfold leastN
  refine firstTurn_congr _ 1 (by decide) (fun j h1 h2 => absurd h2 (by omega)) fun j hj h0 hmin => ?_
  cases ht : turnsV l.l j with
  | false => simp
  | true => simp [turnsV_dvd ht hp h0 hmin]
/-- how much of the head stays -/
def downK (f : Nat → Int) (n : Nat) : Nat → Nat
  | 0 => 0
  | k + 1 => if f k = f (k + n) then downK f n k else k + 1
theorem downK_le (f : Nat → Int) (n : Nat) : ∀ k, downK f n k ≤ k
  | 0 => Nat.le_refl _
  | k + 1 => by
    unfold downK
    split
    · have := downK_le f n k; omega
    · omega
def leastOf (l : La) : La := ⟨(List.range (downK l.at (leastN l) l.h.length)).map l.at, (List.range (leastN l)).map fun i => l.at (downK l.at (leastN l) l.h.length + i)⟩
end Go.Proofs.YtoglgeaiiipchabGreatDoor

namespace Go.Proofs.YtoglgeaiiipchabGreatDoor

theorem firstTurn_spec {P : Nat → Bool} {L : Nat} (hL : P L = true) : ∀ (m k : Nat), 0 < k → k ≤ L → L ≤ m + k → (∀ j, 0 < j → j < k → P j = false) →
    0 < firstTurn P L m k ∧ firstTurn P L m k ≤ L ∧ P (firstTurn P L m k) = true ∧ ∀ j, 0 < j → j < firstTurn P L m k → P j = false
  | 0, k, hk, h1, h2, hmin => by
    have : k = L := by omega
    subst this
    exact ⟨hk, Nat.le_refl _, hL, hmin⟩
  | m + 1, k, hk, h1, h2, hmin => by
    unfold firstTurn
    split
    · have : k = L := by omega
      subst this
      exact ⟨hk, Nat.le_refl _, hL, hmin⟩
    · split
      · rename_i hp
        exact ⟨hk, h1, hp, hmin⟩
      · rename_i hp
        exact firstTurn_spec hL m (k + 1) (by omega) (by omega) (by omega) fun j h3 h4 => by
          rcases Nat.lt_or_ge j k with h5 | h5
          · exact hmin j h3 h5
          · have : j = k := by omega
            subst this
            simpa using hp
theorem leastN_spec {l : La} (hp : 0 < l.l.length) : 0 < leastN l ∧ leastN l ≤ l.l.length ∧ turnsV l.l (leastN l) = true ∧ ∀ j, 0 < j → j < leastN l → turnsV l.l j = false :=
  firstTurn_spec (turnsV_len l.l) _ 1 (by decide) (by omega) (by omega) fun j h1 h2 => absurd h2 (by omega)
theorem downK_on {f : Nat → Int} {n : Nat} : ∀ {k i : Nat}, downK f n k ≤ i → i < k → f i = f (i + n)
  | 0, i, _, h => absurd h (by omega)
  | k + 1, i, h1, h2 => by
    unfold downK at h1
    split at h1
    · rename_i he
      rcases Nat.lt_or_ge i k with h3 | h3
      · exact downK_on h1 h3
      · have : i = k := by omega
        subst this
        exact he
    · omega
theorem downK_idem {f : Nat → Int} {n : Nat} : ∀ k, downK f n (downK f n k) = downK f n k
  | 0 => rfl
  | k + 1 => by
    by_cases he : f k = f (k + n)
    · have : downK f n (k + 1) = downK f n k := by rw [downK, if_pos he]
      rw [this]
      exact downK_idem k
    · have : downK f n (k + 1) = k + 1 := by rw [downK, if_neg he]
      rw [this, this]
theorem La.at_loopM {l : La} {i : Nat} (h : l.h.length ≤ i) : l.at i = l.l.getD ((i - l.h.length) % l.l.length) 0 := by
  unfold La.at
  rw [if_neg (by omega)]
/-- from a place of the head's end on, the word goes round by so much just if the loop does -/
theorem turns_at {l : La} (hp : 0 < l.l.length) {n : Nat} : turnsV l.l n = true ↔ ∀ i, l.h.length ≤ i → l.at (i + n) = l.at i := by
  constructor
  · intro h i hi
    rw [La.at_loopM hi, La.at_loopM (by omega), show i + n - l.h.length = i - l.h.length + n by omega]
    exact turnsV_all h hp _
  · intro h
    refine turnsV_iff.2 fun i hi => ?_
    have := h (l.h.length + i) (by omega)
    rw [La.at_loopM (by omega), La.at_loopM (by omega), show l.h.length + i + n - l.h.length = i + n by omega, show l.h.length + i - l.h.length = i by omega, Nat.mod_eq_of_lt hi] at this
    exact this
def leastK (l : La) : Nat := downK l.at (leastN l) l.h.length
theorem least_round {l : La} (hp : 0 < l.l.length) {i : Nat} (h : leastK l ≤ i) : l.at (i + leastN l) = l.at i := by
  rcases Nat.lt_or_ge i l.h.length with h1 | h1
  · exact (downK_on h h1).symm
  · exact (turns_at hp).1 (leastN_spec hp).2.2.1 i h1
theorem least_rounds {l : La} (hp : 0 < l.l.length) {i : Nat} (h : leastK l ≤ i) : ∀ m, l.at (i + leastN l * m) = l.at i
  | 0 => rfl
  | m + 1 => by rw [Nat.mul_succ, ← Nat.add_assoc, least_round hp (by omega), least_rounds hp h m]
theorem leastOf_eq (l : La) : leastOf l = ⟨(List.range (leastK l)).map l.at, (List.range (leastN l)).map fun i => l.at (leastK l + i)⟩ := rfl
theorem leastOf_lens (l : La) : (leastOf l).h.length = leastK l ∧ (leastOf l).l.length = leastN l := by simp [leastOf_eq]
theorem getD_mapR (f : Nat → Int) {n i : Nat} (h : i < n) : ((List.range n).map f).getD i 0 = f i := by
  rw [List.getD_eq_getElem?_getD, List.getElem?_map, List.getElem?_range h]
  rfl
/-- it is the same word -/
theorem least_at {l : La} (hp : 0 < l.l.length) : (leastOf l).at = l.at := by
  funext i
  obtain ⟨h1, h2⟩ := leastOf_lens l
  obtain ⟨n0, _⟩ := leastN_spec hp
  by_cases h : i < leastK l
  · unfold La.at
    rw [h1, if_pos h, leastOf_eq, getD_mapR _ h]
    rfl
  · rw [La.at_loopM (by omega), h1, h2]
    show ((List.range (leastN l)).map fun i => l.at (leastK l + i)).getD ((i - leastK l) % leastN l) 0 = _
    rw [getD_mapR _ (Nat.mod_lt _ n0)]
    have := least_rounds hp (i := leastK l + (i - leastK l) % leastN l) (by omega) ((i - leastK l) / leastN l)
    rw [Nat.add_assoc, Nat.mod_add_div, show leastK l + (i - leastK l) = i by omega] at this
    exact this.symm
theorem least_le {l : La} (hp : 0 < l.l.length) : (leastOf l).h.length ≤ l.h.length ∧ (leastOf l).l.length ≤ l.l.length ∧ 0 < (leastOf l).l.length := by
  obtain ⟨h1, h2⟩ := leastOf_lens l
  obtain ⟨n0, n1, _⟩ := leastN_spec hp
  have := downK_le l.at (leastN l) l.h.length
  unfold leastK at h1
  omega
/-- its least is itself -/
theorem least_least {l : La} (hp : 0 < l.l.length) : leastOf (leastOf l) = leastOf l := by
  obtain ⟨h1, h2⟩ := leastOf_lens l
  obtain ⟨n0, n1, n2, n3⟩ := leastN_spec hp
  have hpx : 0 < (leastOf l).l.length := by omega
  obtain ⟨m0, m1, m2, m3⟩ := leastN_spec hpx
  have hk : leastK l ≤ l.h.length := downK_le _ _ _
  have hN : leastN (leastOf l) = leastN l := by
    rcases Nat.lt_or_ge (leastN (leastOf l)) (leastN l) with h3 | h3
    · exfalso
      have h4 := (turns_at hpx).1 m2
      rw [least_at hp, h1] at h4
      have h5 := n3 _ m0 h3
      rw [(turns_at hp).2 fun i hi => h4 i (by omega)] at h5
      cases h5
    · omega
  have hK : leastK (leastOf l) = leastK l := by
    unfold leastK
    rw [hN, least_at hp, h1]
    exact downK_idem _
  rw [leastOf_eq (leastOf l), hN, hK, least_at hp]
  rfl
theorem La.at_mem {l : La} (hp : 0 < l.l.length) (i : Nat) : l.at i ∈ l.h ++ l.l := by
  unfold La.at
  split
  · rename_i h
    rw [List.getD_eq_getElem?_getD, List.getElem?_eq_getElem h]
    exact List.mem_append_left _ (List.getElem_mem h)
  · have h := Nat.mod_lt (i - l.h.length) hp
    rw [List.getD_eq_getElem?_getD, List.getElem?_eq_getElem h]
    exact List.mem_append_right _ (List.getElem_mem h)
theorem least_mem {l : La} (hp : 0 < l.l.length) {q : Int} (h : q ∈ (leastOf l).h ++ (leastOf l).l) : q ∈ l.h ++ l.l := by
  rw [leastOf_eq] at h
  rcases List.mem_append.1 h with h | h
  · obtain ⟨i, _, rfl⟩ := List.mem_map.1 h
    exact La.at_mem hp i
  · obtain ⟨i, _, rfl⟩ := List.mem_map.1 h
    exact La.at_mem hp _
end Go.Proofs.YtoglgeaiiipchabGreatDoor
