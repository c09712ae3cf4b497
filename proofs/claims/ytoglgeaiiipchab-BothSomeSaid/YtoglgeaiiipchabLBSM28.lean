/- Walks: word.At, word.turns, the reference's LetterAt at any place. -/
import Derived.Test.YtoglgeaiiipchabLBSM3
import Derived.Test.YtoglgeaiiipchabLBSM4
import Derived.Shelf.Abstract
import Derived.Test.YtoglgeaiiipchabLBSM5
set_option linter.unusedSimpArgs false
set_option linter.unusedVariables false
namespace Go.Proofs.Ytoglgeaiiipchab

/-- is a loop itself, so much further on? -/
def turnsV (xs : List Int) (n : Nat) : Bool := (List.range xs.length).all fun i => xs.getD ((i + n) % xs.length) 0 == xs.getD i 0
theorem turnsV_iff {xs : List Int} {n : Nat} : turnsV xs n = true ↔ ∀ i, i < xs.length → xs.getD ((i + n) % xs.length) 0 = xs.getD i 0 := by
  unfold turnsV
  rw [List.all_eq_true]
  constructor
  · intro h i hi
    simpa using h i (List.mem_range.2 hi)
  · intro h i hi
    simpa using h i (List.mem_range.1 hi)
theorem turnsV_all {xs : List Int} {n : Nat} (h : turnsV xs n = true) (hp : 0 < xs.length) (i : Nat) : xs.getD ((i + n) % xs.length) 0 = xs.getD (i % xs.length) 0 := by
  have := turnsV_iff.1 h (i % xs.length) (Nat.mod_lt _ hp)
  rw [Nat.mod_add_mod] at this
  exact this
theorem turnsV_len (xs : List Int) : turnsV xs xs.length = true := turnsV_iff.2 fun i hi => by
  rw [Nat.add_mod_right, Nat.mod_eq_of_lt hi]
theorem turnsV_mul {xs : List Int} {n : Nat} (h : turnsV xs n = true) (hp : 0 < xs.length) (k i : Nat) : xs.getD ((i + n * k) % xs.length) 0 = xs.getD (i % xs.length) 0 := by
  induction k with
  | zero => rfl
  | succ k ih => rw [Nat.mul_succ, ← Nat.add_assoc, turnsV_all h hp, ih]
/-- the least turn divides the loop -/
theorem turnsV_dvd {xs : List Int} {n : Nat} (h : turnsV xs n = true) (hp : 0 < xs.length) (hn : 0 < n) (hmin : ∀ m, 0 < m → m < n → turnsV xs m = false) : xs.length % n = 0 := by
  rcases Nat.eq_zero_or_pos (xs.length % n) with h0 | h0
  · exact h0
  · exfalso
    have hlt := Nat.mod_lt xs.length hn
    have hf := hmin _ h0 hlt
    have ht : turnsV xs (xs.length % n) = true := turnsV_iff.2 fun i hi => by
      have h1 := turnsV_mul h hp (xs.length / n) (i + xs.length % n)
      rw [Nat.add_assoc, Nat.mod_add_div, Nat.add_mod_right, Nat.mod_eq_of_lt hi] at h1
      exact h1.symm
    rw [ht] at hf
    cases hf
/-- the first n from k on, of at most L, that turns -/
def firstTurn (P : Nat → Bool) (L : Nat) : Nat → Nat → Nat
  | 0, _ => L
  | m + 1, k => if L ≤ k then L else if P k then k else firstTurn P L m (k + 1)
theorem firstTurn_congr {P Q : Nat → Bool} {L : Nat} : ∀ (m k : Nat), 0 < k → (∀ j, 0 < j → j < k → P j = false) → (∀ j, j < L → 0 < j → (∀ i, 0 < i → i < j → P i = false) → Q j = P j) → firstTurn Q L m k = firstTurn P L m k
  | 0, k, _, _, _ => rfl
  | m + 1, k, hk, hmin, he => by
    unfold firstTurn
    by_cases h : L ≤ k
    · rw [if_pos h, if_pos h]
    · rw [if_neg h, if_neg h, he k (by omega) hk hmin]
      cases hp : P k with
      | true => rfl
      | false =>
        simp only [Bool.false_eq_true, if_false]
        exact firstTurn_congr m (k + 1) (by omega) (fun j h1 h2 => by
          rcases Nat.lt_or_ge j k with h3 | h3
          · exact hmin j h1 h3
          · have : j = k := by omega
            rw [this]; exact hp) he
/-- the length of the least loop -/
def leastN (l : La) : Nat := firstTurn (turnsV l.l) l.l.length l.l.length 1
theorem leastN_prog (l : La) (hp : 0 < l.l.length) : firstTurn (fun n => decide (l.l.length % n = 0) && turnsV l.l n) l.l.length l.l.length 1 = leastN l := by
  unfold leastN
  refine firstTurn_congr _ 1 (by decide) (fun j h1 h2 => absurd h2 (by omega)) fun j hj h0 hmin => ?_
  cases ht : turnsV l.l j with
  | false => simp
  | true => simp [turnsV_dvd ht hp h0 hmin]
/-- how much of the head stays -/
def downK (f : Nat → Int) (n : Nat) : Nat → Nat
  | 0 => 0
  | k + 1 => if f k = f (k + n) then downK f n k else k + 1
theorem downK_le (f : Nat → Int) (n : Nat) : ∀ k, downK f n k ≤ k
  | 0 => Nat.le_refl _
  | k + 1 => by
    unfold downK
    split
    · have := downK_le f n k; omega
    · omega
def leastOf (l : La) : La := ⟨(List.range (downK l.at (leastN l) l.h.length)).map l.at, (List.range (leastN l)).map fun i => l.at (downK l.at (leastN l) l.h.length + i)⟩
end Go.Proofs.Ytoglgeaiiipchab

namespace Go.Proofs.Ytoglgeaiiipchab

theorem firstTurn_spec {P : Nat → Bool} {L : Nat} (hL : P L = true) : ∀ (m k : Nat), 0 < k → k ≤ L → L ≤ m + k → (∀ j, 0 < j → j < k → P j = false) →
    0 < firstTurn P L m k ∧ firstTurn P L m k ≤ L ∧ P (firstTurn P L m k) = true ∧ ∀ j, 0 < j → j < firstTurn P L m k → P j = false
  | 0, k, hk, h1, h2, hmin => by
    have : k = L := by omega
    subst this
    exact ⟨hk, Nat.le_refl _, hL, hmin⟩
  | m + 1, k, hk, h1, h2, hmin => by
    unfold firstTurn
    split
    · have : k = L := by omega
      subst this
      exact ⟨hk, Nat.le_refl _, hL, hmin⟩
    · split
      · rename_i hp
        exact ⟨hk, h1, hp, hmin⟩
      · rename_i hp
        exact firstTurn_spec hL m (k + 1) (by omega) (by omega) (by omega) fun j h3 h4 => by
          rcases Nat.lt_or_ge j k with h5 | h5
          · exact hmin j h3 h5
          · have : j = k := by omega
            subst this
            simpa using hp
theorem leastN_spec {l : La} (hp : 0 < l.l.length) : 0 < leastN l ∧ leastN l ≤ l.l.length ∧ turnsV l.l (leastN l) = true ∧ ∀ j, 0 < j → j < leastN l → turnsV l.l j = false :=
  firstTurn_spec (turnsV_len l.l) _ 1 (by decide) (by omega) (by omega) fun j h1 h2 => absurd h2 (by omega)
theorem downK_on {f : Nat → Int} {n : Nat} : ∀ {k i : Nat}, downK f n k ≤ i → i < k → f i = f (i + n)
  | 0, i, _, h => absurd h (by omega)
  | k + 1, i, h1, h2 => by
    unfold downK at h1
    split at h1
    · rename_i he
      rcases Nat.lt_or_ge i k with h3 | h3
      · exact downK_on h1 h3
      · have : i = k := by omega
        subst this
        exact he
    · omega
theorem downK_idem {f : Nat → Int} {n : Nat} : ∀ k, downK f n (downK f n k) = downK f n k
  | 0 => rfl
  | k + 1 => by
    by_cases he : f k = f (k + n)
    · have : downK f n (k + 1) = downK f n k := by rw [downK, if_pos he]
      rw [this]
      exact downK_idem k
    · have : downK f n (k + 1) = k + 1 := by rw [downK, if_neg he]
      rw [this, this]
theorem La.at_loopM {l : La} {i : Nat} (h : l.h.length ≤ i) : l.at i = l.l.getD ((i - l.h.length) % l.l.length) 0 := by
  unfold La.at
  rw [if_neg (by omega)]
/-- from a place of the head's end on, the word goes round by so much just if the loop does -/
theorem turns_at {l : La} (hp : 0 < l.l.length) {n : Nat} : turnsV l.l n = true ↔ ∀ i, l.h.length ≤ i → l.at (i + n) = l.at i := by
  constructor
  · intro h i hi
    rw [La.at_loopM hi, La.at_loopM (by omega), show i + n - l.h.length = i - l.h.length + n by omega]
    exact turnsV_all h hp _
  · intro h
    refine turnsV_iff.2 fun i hi => ?_
    have := h (l.h.length + i) (by omega)
    rw [La.at_loopM (by omega), La.at_loopM (by omega), show l.h.length + i + n - l.h.length = i + n by omega, show l.h.length + i - l.h.length = i by omega, Nat.mod_eq_of_lt hi] at this
    exact this
def leastK (l : La) : Nat := downK l.at (leastN l) l.h.length
theorem least_round {l : La} (hp : 0 < l.l.length) {i : Nat} (h : leastK l ≤ i) : l.at (i + leastN l) = l.at i := by
  rcases Nat.lt_or_ge i l.h.length with h1 | h1
  · exact (downK_on h h1).symm
  · exact (turns_at hp).1 (leastN_spec hp).2.2.1 i h1
theorem least_rounds {l : La} (hp : 0 < l.l.length) {i : Nat} (h : leastK l ≤ i) : ∀ m, l.at (i + leastN l * m) = l.at i
  | 0 => rfl
  | m + 1 => by rw [Nat.mul_succ, ← Nat.add_assoc, least_round hp (by omega), least_rounds hp h m]
theorem leastOf_eq (l : La) : leastOf l = ⟨(List.range (leastK l)).map l.at, (List.range (leastN l)).map fun i => l.at (leastK l + i)⟩ := rfl
theorem leastOf_lens (l : La) : (leastOf l).h.length = leastK l ∧ (leastOf l).l.length = leastN l := by simp [leastOf_eq]
theorem getD_mapR (f : Nat → Int) {n i : Nat} (h : i < n) : ((List.range n).map f).getD i 0 = f i := by
  rw [List.getD_eq_getElem?_getD, List.getElem?_map, List.getElem?_range h]
  rfl
/-- it is the same word -/
theorem least_at {l : La} (hp : 0 < l.l.length) : (leastOf l).at = l.at := by
  funext i
  obtain ⟨h1, h2⟩ := leastOf_lens l
  obtain ⟨n0, _⟩ := leastN_spec hp
  by_cases h : i < leastK l
  · unfold La.at
    rw [h1, if_pos h, leastOf_eq, getD_mapR _ h]
    rfl
  · rw [La.at_loopM (by omega), h1, h2]
    show ((List.range (leastN l)).map fun i => l.at (leastK l + i)).getD ((i - leastK l) % leastN l) 0 = _
    rw [getD_mapR _ (Nat.mod_lt _ n0)]
    have := least_rounds hp (i := leastK l + (i - leastK l) % leastN l) (by omega) ((i - leastK l) / leastN l)
    rw [Nat.add_assoc, Nat.mod_add_div, show leastK l + (i - leastK l) = i by omega] at this
    exact this.symm
theorem least_le {l : La} (hp : 0 < l.l.length) : (leastOf l).h.length ≤ l.h.length ∧ (leastOf l).l.length ≤ l.l.length ∧ 0 < (leastOf l).l.length := by
  obtain ⟨h1, h2⟩ := leastOf_lens l
  obtain ⟨n0, n1, _⟩ := leastN_spec hp
  have := downK_le l.at (leastN l) l.h.length
  unfold leastK at h1
  omega
/-- its least is itself -/
theorem least_least {l : La} (hp : 0 < l.l.length) : leastOf (leastOf l) = leastOf l := by
  obtain ⟨h1, h2⟩ := leastOf_lens l
  obtain ⟨n0, n1, n2, n3⟩ := leastN_spec hp
  have hpx : 0 < (leastOf l).l.length := by omega
  obtain ⟨m0, m1, m2, m3⟩ := leastN_spec hpx
  have hk : leastK l ≤ l.h.length := downK_le _ _ _
  have hN : leastN (leastOf l) = leastN l := by
    rcases Nat.lt_or_ge (leastN (leastOf l)) (leastN l) with h3 | h3
    · exfalso
      have h4 := (turns_at hpx).1 m2
      rw [least_at hp, h1] at h4
      have h5 := n3 _ m0 h3
      rw [(turns_at hp).2 fun i hi => h4 i (by omega)] at h5
      cases h5
    · omega
  have hK : leastK (leastOf l) = leastK l := by
    unfold leastK
    rw [hN, least_at hp, h1]
    exact downK_idem _
  rw [leastOf_eq (leastOf l), hN, hK, least_at hp]
  rfl
theorem La.at_mem {l : La} (hp : 0 < l.l.length) (i : Nat) : l.at i ∈ l.h ++ l.l := by
  unfold La.at
  split
  · rename_i h
    rw [List.getD_eq_getElem?_getD, List.getElem?_eq_getElem h]
    exact List.mem_append_left _ (List.getElem_mem h)
  · have h := Nat.mod_lt (i - l.h.length) hp
    rw [List.getD_eq_getElem?_getD, List.getElem?_eq_getElem h]
    exact List.mem_append_right _ (List.getElem_mem h)
theorem least_mem {l : La} (hp : 0 < l.l.length) {q : Int} (h : q ∈ (leastOf l).h ++ (leastOf l).l) : q ∈ l.h ++ l.l := by
  rw [leastOf_eq] at h
  rcases List.mem_append.1 h with h | h
  · obtain ⟨i, _, rfl⟩ := List.mem_map.1 h
    exact La.at_mem hp i
  · obtain ⟨i, _, rfl⟩ := List.mem_map.1 h
    exact La.at_mem hp _
end Go.Proofs.Ytoglgeaiiipchab

namespace Go.Proofs.Ytoglgeaiiipchab
open Go Go.RowKit

theorem same_from {xs ys : List Int} (hl : xs.length = ys.length) (h : ∀ i, i < xs.length → xs.getD i 0 = ys.getD i 0) : xs = ys := by
  refine List.ext_getElem hl fun i h1 h2 => ?_
  have := h i h1
  rwa [getD_at h1, getD_at h2] at this
set_option maxRecDepth 100000 in
theorem SameInts_ (A B : Option Addr) (ca cb : Nat) (xs ys : List Int) (w : World) (hx : Ints w 0 A ca xs) (hy : Ints w 0 B cb ys) :
    Calls Try.prog 59 #[.slice A xs.length ca, .slice B ys.length cb] w (BoolPost w (decide (xs = ys))) := by
  have h1 := hx.le
  have h2 := hx.max
  have h3 := hy.le
  by_cases hl : xs.length = ys.length
  · have hl1 : ((xs.length : Int) != (ys.length : Int)) = false := by simp [hl]
    have HLL := Lib.hid hl
    clear hl
    go_enter Try.func59, Try.ntmps59
    go_wp2_with fail
    go_loopw [5] (fun i wr => ∃ k : Nat, k ≤ xs.length ∧ i = .int .i64 k ∧ Below w.heap.size w wr ∧ Hid (∀ i, i < k → xs.getD i 0 = ys.getD i 0)) (fun i _ => xs.length - (intOf i).toNat)
    case atStart => exact ⟨0, Nat.zero_le _, rfl, Below.refl _ _, fun i h => absurd h (by omega)⟩
    case round =>
      obtain ⟨k, hk, rfl, hb, HA⟩ := hrel
      have HB := Lib.hid hb
      by_cases hlt : k < xs.length
      · have hlt2 : k < ys.length := by have := HLL.out; omega
        obtain ⟨b, o, rfl, _, _, hc⟩ := Ints.at_ (hx.below hb) hlt
        obtain ⟨b', o', rfl, _, _, hc'⟩ := Ints.at_ (hy.below hb) hlt2
        have E1 := Lib.hid (getD_at hlt)
        have E2 := Lib.hid (getD_at hlt2)
        clear hb
        generalize xs[k] = x at *
        generalize ys[k] = y at *
        by_cases hxy : x = y
        · have hxy1 : (x != y) = false := by simp [hxy]
          have HXY := Lib.hid hxy
          clear hxy
          go_wp2_with fail
          go_quiet (fail)
          have HB3 := Lib.hid (below_drewN HB.out nq)
          go_wp2_with fail
          go_roundw
          case rel =>
            refine ⟨k + 1, by omega, by go_num, HB3.out, fun i hi => ?_⟩
            rcases Nat.lt_or_ge i k with h | h
            · exact HA.out i h
            · obtain rfl : i = k := by omega
              rw [E1.out, E2.out, HXY.out]
          case measure => simp [intOf]; omega
        · have hxy1 : (x != y) = true := by simpa using hxy
          have HF : Hid (decide (xs = ys) = false) := decide_eq_false fun h => hxy (by rw [← E1.out, ← E2.out, h])
          clear hxy
          go_wp2_with fail
          go_quiet (fail)
          have HB3 := Lib.hid (below_drewN HB.out nq)
          go_wp2_with fail
          go_ret
          exact ⟨ret_bool HF.out.symm, HB3.out⟩
      · have HF : Hid (decide (xs = ys) = true) := decide_eq_true (same_from HLL.out fun i hi => HA.out i (by omega))
        go_wp2_with fail
        go_ret
        exact ⟨ret_bool HF.out.symm, HB.out⟩
  · have hl1 : ((xs.length : Int) != (ys.length : Int)) = true := by
      simp only [bne_iff_ne, ne_eq]
      omega
    have HF : Hid (decide (xs = ys) = false) := decide_eq_false fun h => hl (by rw [h])
    clear hl
    go_enter Try.func59, Try.ntmps59
    go_wp2_with fail
    go_ret
    exact ⟨ret_bool HF.out.symm, Below.refl _ _⟩
end Go.Proofs.Ytoglgeaiiipchab

namespace Go.Proofs.Ytoglgeaiiipchab
open Go Go.RowKit Go.Shelf

theorem turnsV_from {xs : List Int} {n j : Nat} (h : ∀ i, i < j → xs.getD ((i + n) % xs.length) 0 = xs.getD i 0) (hj : j = xs.length) : turnsV xs n = true := turnsV_iff.2 fun i hi => h i (by omega)
theorem turnsV_no {xs : List Int} {n i : Nat} (hi : i < xs.length) (h : xs.getD ((i + n) % xs.length) 0 ≠ xs.getD i 0) : turnsV xs n = false := by
  cases e : turnsV xs n with
  | false => rfl
  | true => exact absurd (turnsV_iff.1 e i hi) h

set_option maxRecDepth 100000 in
set_option maxHeartbeats 1000000 in
theorem turns_ (A : Option Addr) (c : Nat) (xs : List Int) (n : Nat) (w : World) (hx : Ints w 0 A c xs) (hn : n ≤ 1000000) (hxl : xs.length ≤ 1000000) :
    Calls Try.prog 57 #[.slice A xs.length c, .int .i64 n] w (BoolPost w (turnsV xs n)) := by
  have h1 := hx.le
  go_enter Try.func57, Try.ntmps57
  go_wp2_with fail
  go_loopw [9] (fun i wr => ∃ k : Nat, k ≤ xs.length ∧ i = .int .i64 k ∧ Below w.heap.size w wr ∧ Hid (∀ i, i < k → xs.getD ((i + n) % xs.length) 0 = xs.getD i 0)) (fun i _ => xs.length - (intOf i).toNat)
  case atStart => exact ⟨0, Nat.zero_le _, rfl, Below.refl _ _, fun i h => absurd h (by omega)⟩
  case round =>
    obtain ⟨k, hk, rfl, hb, HA⟩ := hrel
    have HB := Lib.hid hb
    by_cases hlt : k < xs.length
    · obtain ⟨b, o, rfl, _, hbl, hc⟩ := Ints.at_ (hx.below hb) hlt
      have hm : (k + n) % xs.length < xs.length := Nat.mod_lt _ (by omega)
      obtain ⟨b', o', hA', _, _, hc'⟩ := Ints.at_ (hx.below hb) hm
      obtain ⟨rfl, rfl⟩ : b = b' ∧ o = o' := by simpa using hA'
      have e1 := getD_at hlt
      have e2 := getD_at hm
      have E1 := Lib.hid e1
      have E2 := Lib.hid e2
      clear e1 e2 hb hA'
      have hz : ((xs.length : Int) == 0) = false := by
        simp only [beq_eq_false_iff_ne, ne_eq]
        omega
      have hk5 : k ≤ 1000000 := by omega
      have e3 : ((k : Int) + (n : Int)).tmod (xs.length : Int) = (((k + n) % xs.length : Nat) : Int) := by
        rw [Int.tmod_eq_emod_of_nonneg (by omega)]
        simp
      generalize xs[k] = x at *
      generalize xs[(k + n) % xs.length] = y at *
      obtain ⟨m, hmm⟩ : ∃ m, m = (k + n) % xs.length := ⟨_, rfl⟩
      rw [← hmm] at hm hc' e3 E2
      have HM := Lib.hid hmm
      clear hmm
      by_cases hxy : y = x
      · have hxy1 : (y != x) = false := by simp [hxy]
        have HK : Hid (∀ i, i < k + 1 → xs.getD ((i + n) % xs.length) 0 = xs.getD i 0) := by
          intro i hi
          rcases Nat.lt_or_ge i k with h | h
          · exact HA.out i h
          · obtain rfl : i = k := by omega
            rw [← HM.out, E1.out, E2.out, hxy]
        clear hxy
        go_wp2_with fail
        exact ⟨⟨k + 1, by omega, by go_num, HB.out, HK⟩, by simp [intOf]; omega⟩
      · have hxy1 : (y != x) = true := by simpa using hxy
        have HF : Hid (turnsV xs n = false) := turnsV_no hlt (by rw [← HM.out, E1.out, E2.out]; exact hxy)
        clear hxy
        go_wp2_with fail
        go_ret
        exact ⟨ret_bool HF.out.symm, HB.out⟩
    · have HF : Hid (turnsV xs n = true) := turnsV_from HA.out (by omega)
      go_wp2_with fail
      go_ret
      exact ⟨ret_bool HF.out.symm, HB.out⟩
end Go.Proofs.Ytoglgeaiiipchab

namespace Go.Proofs.Ytoglgeaiiipchab
open Go Go.RowKit Go.Shelf

/-- two lassos in variables -/
def la2W (w : World) (A B C D : Option Addr) (ca cb cc cd : Nat) (l m : La) : World :=
  (w.alloc (Obj.cells #[Value.slice A l.h.length ca, Value.slice B l.l.length cb] 28)).alloc (Obj.cells #[Value.slice C m.h.length cc, Value.slice D m.l.length cd] 28)
structure La2W (w W : World) (A B C D : Option Addr) (ca cb cc cd : Nat) (l m : La) : Prop where
  below : Below w.heap.size w W
  size : W.heap.size = w.heap.size + 1 + 1
  l0 : W.cell? ⟨w.heap.size, 0, none⟩ = some (.slice A l.h.length ca)
  l1 : W.cell? ⟨w.heap.size, 1, none⟩ = some (.slice B l.l.length cb)
  m0 : W.cell? ⟨w.heap.size + 1, 0, none⟩ = some (.slice C m.h.length cc)
  m1 : W.cell? ⟨w.heap.size + 1, 1, none⟩ = some (.slice D m.l.length cd)
theorem la2W_is (w : World) (A B C D : Option Addr) (ca cb cc cd : Nat) (l m : La) : La2W w (la2W w A B C D ca cb cc cd l m) A B C D ca cb cc cd l m := by
  unfold la2W
  refine ⟨by go_grown, by simp, ?_, ?_, ?_, ?_⟩ <;> go_simp

set_option maxRecDepth 100000 in
set_option maxHeartbeats 1000000 in
theorem SameLasso_ (A B C D : Option Addr) (ca cb cc cd : Nat) (l m : La) (w : World) (hh : Ints w 0 A ca l.h) (hl : Ints w 0 B cb l.l) (gh : Ints w 0 C cc m.h) (gl : Ints w 0 D cd m.l) :
    Calls Try.prog 28 #[.agg #[.slice A l.h.length ca, .slice B l.l.length cb], .agg #[.slice C m.h.length cc, .slice D m.l.length cd]] w (BoolPost w (decide (l = m))) := by
  have HW := Lib.hid (la2W_is w A B C D ca cb cc cd l m)
  have HH := Lib.hid (hh.below HW.out.below)
  have HL := Lib.hid (hl.below HW.out.below)
  have GH := Lib.hid (gh.below HW.out.below)
  have GL := Lib.hid (gl.below HW.out.below)
  have HD : Hid (decide (l = m) = (decide (l.h = m.h) && decide (l.l = m.l))) := by
    show decide (l = m) = _
    cases l
    cases m
    simp
  generalize decide (l = m) = vv at *
  clear hh hl gh gl
  go_enter Try.func28, Try.ntmps28
  go_wp2_with fail
  change Calls _ _ _ (la2W w A B C D ca cb cc cd l m) _
  generalize la2W w A B C D ca cb cc cd l m = W0 at *
  have hs := HW.out.size
  refine (SameInts_ A C ca cc l.h m.h W0 HH.out GH.out).mono ?_
  rintro e w1 ⟨rfl, hb1⟩
  have HB1 := Lib.hid (Below_on HW.out.below hb1 HW.out.below.size)
  have c1 := (cell_on3 hb1 (b := w.heap.size) (o := 1) (by omega)).trans HW.out.l1
  have c2 := (cell_on3 hb1 (b := w.heap.size + 1) (o := 1) (by omega)).trans HW.out.m1
  have HS := Lib.hid (SameInts_ B D cb cd l.l m.l w1 (HL.out.below hb1) (GL.out.below hb1))
  clear hb1 hs
  by_cases h1 : l.h = m.h
  · have h1' : decide (l.h = m.h) = true := decide_eq_true h1
    rw [h1'] at HD ⊢
    clear h1 h1'
    go_wp2_with fail
    refine HS.out.mono ?_
    rintro e w2 ⟨rfl, hb2⟩
    have HB2 := Lib.hid (Below_on HB1.out hb2 HB1.out.size)
    have HF : Hid (vv = decide (l.l = m.l)) := by
      show vv = _
      rw [HD.out]
      simp
    generalize decide (l.l = m.l) = v2 at *
    clear hb2
    go_wp2_with fail
    go_ret
    exact ⟨ret_bool HF.out.symm, HB2.out⟩
  · have h1' : decide (l.h = m.h) = false := decide_eq_false h1
    rw [h1'] at HD ⊢
    have HF : Hid (vv = false) := by
      show vv = _
      rw [HD.out]
      rfl
    clear h1 h1'
    go_wp2_with fail
    go_ret
    exact ⟨ret_bool HF.out.symm, HB1.out⟩
end Go.Proofs.Ytoglgeaiiipchab

namespace Go.Proofs.Ytoglgeaiiipchab
open Go Go.RowKit Go.Shelf

def badL (letters n : Int) : Bool := decide (n < 0) || decide (letters ≤ n)
def ckL (l : La) (letters : Int) : Int :=
  if letters < 1 ∨ 8 < letters then 3
  else if 4000 < (l.h.length : Int) ∨ 4000 < (l.l.length : Int) then 2
  else if l.l.length = 0 then 1
  else if (anyB (badL letters) l.h || anyB (badL letters) l.l) = true then 5
  else 0
theorem ckL_3 {l : La} {letters : Int} (h : letters < 1 ∨ 8 < letters) : ckL l letters = 3 := by rw [ckL, if_pos h]
theorem ckL_2 {l : La} {letters : Int} (h : ¬ (letters < 1 ∨ 8 < letters)) (h2 : 4000 < (l.h.length : Int) ∨ 4000 < (l.l.length : Int)) : ckL l letters = 2 := by rw [ckL, if_neg h, if_pos h2]
theorem ckL_1 {l : La} {letters : Int} (h : ¬ (letters < 1 ∨ 8 < letters)) (h2 : ¬ (4000 < (l.h.length : Int) ∨ 4000 < (l.l.length : Int))) (h3 : l.l.length = 0) : ckL l letters = 1 := by rw [ckL, if_neg h, if_neg h2, if_pos h3]
theorem ckL_x {l : La} {letters : Int} (h : ¬ (letters < 1 ∨ 8 < letters)) (h2 : ¬ (4000 < (l.h.length : Int) ∨ 4000 < (l.l.length : Int))) (h3 : ¬ l.l.length = 0) :
    ckL l letters = if (anyB (badL letters) l.h || anyB (badL letters) l.l) = true then 5 else 0 := by rw [ckL, if_neg h, if_neg h2, if_neg h3]

theorem wordCheck1_ (letters : Int) (B : Nat) (w : World) (hc : w.cell? ⟨B, 0, none⟩ = some (.int .i64 letters)) (hB : B < w.heap.size) :
    PredV Try.prog 58 #[.pointer (some ⟨B, 0, none⟩)] (badL letters) w := by
  intro n W hW
  have hc' : W.cell? ⟨B, 0, none⟩ = some (.int .i64 letters) := (hW.cell (p := ⟨B, 0, none⟩) hB).trans hc
  clear hc hW
  simp only [List.append_toArray, List.cons_append, List.nil_append]
  go_enter Try.func58, Try.ntmps58
  go_wp2
  all_goals (go_ret; refine ⟨ret_bool ?_, Below.refl _ _⟩; unfold badL)
  · rfl
  · rw [decide_eq_true (by assumption)]; rfl
theorem wordCheckEnters : Enters Try.prog 58 := enters_of Try.func58 (by kernel_rfl) rfl

set_option maxRecDepth 100000 in
theorem wordCheck_ (A B : Option Addr) (ca cb : Nat) (l : La) (letters : Int) (w : World) (hh : Ints w 0 A ca l.h) (hl : Ints w 0 B cb l.l) :
    Calls Try.prog 27 #[.agg #[.slice A l.h.length ca, .slice B l.l.length cb], .int .i64 letters] w fun e w' => e = .returned (.int .i64 (ckL l letters)) ∧ Below w.heap.size w w' := by
  have h1 := hh.le
  have h2 := hh.max
  have h3 := hl.le
  have h4 := hl.max
  go_enter Try.func27, Try.ntmps27
  have hbA : Below w.heap.size w ((w.alloc (Obj.cells #[Value.slice A l.h.length ca, Value.slice B l.l.length cb] 28)).alloc (Obj.cells #[Value.int IntKind.i64 letters] 3)) := ((Below.refl _ _).alloc (Nat.le_refl _) _).alloc (by simp) _
  have HA := Lib.hid hbA
  clear hbA
  by_cases h3 : letters < 1 ∨ 8 < letters
  · have HF := Lib.hid (ckL_3 (l := l) h3)
    go_wp2_with fail
    all_goals (go_ret; exact ⟨ret_int HF.out.symm, HA.out⟩)
  by_cases h2 : 4000 < (l.h.length : Int) ∨ 4000 < (l.l.length : Int)
  · have HF := Lib.hid (ckL_2 h3 h2)
    go_wp2_with fail
    all_goals (go_ret; exact ⟨ret_int HF.out.symm, HA.out⟩)
  by_cases h1' : l.l.length = 0
  · have HF := Lib.hid (ckL_1 h3 h2 h1')
    have hz : ((l.l.length : Int) == 0) = true := by simp [h1']
    clear h1'
    go_wp2_with fail
    go_ret
    exact ⟨ret_int HF.out.symm, HA.out⟩
  have HF := Lib.hid (ckL_x h3 h2 h1')
  have hz : ((l.l.length : Int) == 0) = false := by simpa using h1'
  clear h1'
  go_wp2_with fail
  refine (ContainsFuncI_ _ _ _ _ _ (badL letters) _ (hh.below HA.out) wordCheckEnters (wordCheck1_ letters (w.heap.size + 1) _ (by go_simp) (by simp))).mono ?_
  rintro e w1 ⟨rfl, hb1⟩
  obtain ⟨hc1, hf1⟩ := bcell hb1
  have HB := Lib.hid hb1
  clear hb1
  have hs1 : w.heap.size + 1 < w1.heap.size := by have := HB.out.size; simp at this; omega
  have HW := Lib.hid (Below_on HA.out HB.out (by simp; omega))
  go_wp2_with fail
  · have hn : anyB (badL letters) l.h = true := by assumption
    go_ret
    exact ⟨ret_int (by rw [HF.out, hn]; simp), HW.out⟩
  · have hn : anyB (badL letters) l.h = false := by simpa using (by assumption : ¬ anyB (badL letters) l.h = true)
    refine (ContainsFuncI_ _ _ _ _ _ (badL letters) _ (hl.below HW.out) wordCheckEnters (wordCheck1_ letters (w.heap.size + 1) _ (by go_simp) hs1)).mono ?_
    rintro e w2 ⟨rfl, hb2⟩
    have HB2 := Lib.hid hb2
    clear hb2
    go_wp2
    all_goals (go_ret; refine ⟨ret_int (by rw [HF.out, hn]; simp [*]), Below_on HW.out HB2.out (by omega)⟩)
end Go.Proofs.Ytoglgeaiiipchab

namespace Go.Proofs.Ytoglgeaiiipchab
open Go Go.RowKit Go.Shelf

def atE (l : La) (letters i : Int) : Int := if ckL l letters = 0 then (if i < 0 then 3 else 0) else ckL l letters
def atL (l : La) (letters i : Int) : Int := if ckL l letters = 0 then (if i < 0 then 0 else l.at i.toNat) else 0
def IntsPost (w : World) (a b : Int) (e : Ending) (w' : World) : Prop := e = .returned (.tuple #[.int .i64 a, .int .i64 b]) ∧ Below w.heap.size w w'
theorem ret_ii {a a' b b' : Int} (h1 : a = a') (h2 : b = b') : Ending.returned (.tuple #[.int .i64 a, .int .i64 b]) = Ending.returned (.tuple #[.int .i64 a', .int .i64 b']) := by rw [h1, h2]
theorem ckL_ne {l : La} {letters : Int} (h : ckL l letters = 0) : l.l.length ≠ 0 := by
  unfold ckL at h
  split at h
  · simp at h
  · split at h
    · simp at h
    · split at h
      · simp at h
      · assumption


/-- the world in which a lasso stands in a variable -/
def laW (w : World) (A B : Option Addr) (ca cb : Nat) (l : La) : World := w.alloc (Obj.cells #[Value.slice A l.h.length ca, Value.slice B l.l.length cb] 28)
structure LaW (w W : World) (A B : Option Addr) (ca cb : Nat) (l : La) : Prop where
  below : Below w.heap.size w W
  size : w.heap.size < W.heap.size
  l0 : W.cell? ⟨w.heap.size, 0, none⟩ = some (.slice A l.h.length ca)
  l1 : W.cell? ⟨w.heap.size, 1, none⟩ = some (.slice B l.l.length cb)
theorem laW_is (w : World) (A B : Option Addr) (ca cb : Nat) (l : La) : LaW w (laW w A B ca cb l) A B ca cb l := by
  unfold laW
  refine ⟨by go_grown, by simp, ?_, ?_⟩ <;> go_simp

set_option maxRecDepth 100000 in
set_option maxHeartbeats 1000000 in
theorem At_ (A B : Option Addr) (ca cb : Nat) (l : La) (letters i : Int) (w : World) (hh : Ints w 0 A ca l.h) (hl : Ints w 0 B cb l.l) (hi : i ≤ 9223372036854775807) :
    Calls Try.prog 26 #[.agg #[.slice A l.h.length ca, .slice B l.l.length cb], .int .i64 letters, .int .i64 i] w (IntsPost w (atL l letters i) (atE l letters i)) := by
  have h1 := hh.le
  have h2 := hh.max
  have h3 := hl.le
  have h4 := hl.max
  have HH := Lib.hid hh
  have HL := Lib.hid hl
  have HW := Lib.hid (laW_is w A B ca cb l)
  have HCK := Lib.hid (wordCheck_ A B ca cb l letters (laW w A B ca cb l) (hh.below HW.out.below) (hl.below HW.out.below))
  have HV := Lib.hid (show atL l letters i = if ckL l letters = 0 then (if i < 0 then 0 else l.at i.toNat) else 0 from rfl)
  have HE := Lib.hid (show atE l letters i = if ckL l letters = 0 then (if i < 0 then 3 else 0) else ckL l letters from rfl)
  have HNE := Lib.hid (fun h => ckL_ne (l := l) (letters := letters) h)
  generalize atL l letters i = vL at *
  generalize atE l letters i = vE at *
  generalize ckL l letters = ck at *
  clear hh hl
  go_enter Try.func26, Try.ntmps26
  go_wp2_with fail
  refine HCK.out.mono ?_
  rintro e w1 ⟨rfl, hb1⟩
  have HB1 := Lib.hid (Below_on HW.out.below hb1 HW.out.below.size)
  have d0 := (cell_on3 hb1 (o := 0) HW.out.size).trans HW.out.l0
  have d1 := (cell_on3 hb1 (o := 1) HW.out.size).trans HW.out.l1
  have HH1 := Lib.hid ((HH.out).below HB1.out)
  have HL1 := Lib.hid ((HL.out).below HB1.out)
  clear hb1 HCK HW HH HL
  by_cases hc : ck = 0
  · subst hc
    have hne := HNE.out rfl
    have HV1 := HV.out
    have HE1 := HE.out
    rw [if_pos rfl] at HV1 HE1
    by_cases hi0 : i < 0
    · rw [if_pos hi0] at HV1 HE1
      subst HV1 HE1
      go_wp2_with fail
      go_ret2
      exact ⟨rfl, HB1.out⟩
    · rw [if_neg hi0] at HV1 HE1
      obtain ⟨i, rfl⟩ := Int.eq_ofNat_of_zero_le (Int.not_lt.1 hi0)
      subst HE1
      have HVV := Lib.hid HV1
      clear HV1
      by_cases hlt : i < l.h.length
      · obtain ⟨b, o, rfl, _, hb, hcell⟩ := Ints.at_ HH1.out hlt
        have HF : Hid (vL = l.h[i]) := by
          show vL = _
          rw [HVV.out]
          simp [La.at, hlt]
        go_wp2_with fail
        go_ret2
        exact ⟨ret_ii HF.out.symm rfl, HB1.out⟩
      · have hm : (i - l.h.length) % l.l.length < l.l.length := Nat.mod_lt _ (by omega)
        obtain ⟨b, o, rfl, _, hb, hcell⟩ := Ints.at_ HL1.out hm
        have HF : Hid (vL = l.l[(i - l.h.length) % l.l.length]) := by
          show vL = _
          rw [HVV.out]
          simp [La.at, hlt, hm]
        have e1 : ((i : Int) - (l.h.length : Int)) = ((i - l.h.length : Nat) : Int) := by omega
        have hz : ((l.l.length : Int) == 0) = false := by simpa using hne
        go_wp2_with fail
        go_quiet (fail)
        go_wp2_with fail
        go_ret2
        exact ⟨ret_ii HF.out.symm rfl, below_drewN HB1.out _⟩
  · have HV1 := HV.out
    have HE1 := HE.out
    rw [if_neg hc] at HV1 HE1
    subst HV1 HE1
    have hc2 : (vE != 0) = true := by simpa using hc
    clear hc
    go_wp2_with fail
    go_ret2
    exact ⟨rfl, HB1.out⟩
end Go.Proofs.Ytoglgeaiiipchab
