/- Walks: word.turns, the reference's SameInts. -/
import Derived.Test.YtoglgeaiiipchaaPL
import Derived.Test.YtoglgeaiiipchaaMem
import Derived.Test.YtoglgeaiiipchaaProg
import Derived.Shelf.Abstract
namespace Go.Proofs.Ytoglgeaiiipchaa
open Go Go.RowKit Go.Shelf

theorem turnsV_from {xs : List Int} {n j : Nat} (h : ∀ i, i < j → xs.getD ((i + n) % xs.length) 0 = xs.getD i 0) (hj : j = xs.length) : turnsV xs n = true := turnsV_iff.2 fun i hi => h i (by omega)
theorem turnsV_no {xs : List Int} {n i : Nat} (hi : i < xs.length) (h : xs.getD ((i + n) % xs.length) 0 ≠ xs.getD i 0) : turnsV xs n = false := by
  cases e : turnsV xs n with
  | false => rfl
  | true => exact absurd (turnsV_iff.1 e i hi) h

theorem getD_at {xs : List Int} {i : Nat} (h : i < xs.length) : xs.getD i 0 = xs[i] := by rw [List.getD_eq_getElem?_getD, List.getElem?_eq_getElem h]; rfl

def BoolPost (w : World) (b : Bool) (e : Ending) (w' : World) : Prop := e = .returned (.bool b) ∧ Below w.heap.size w w'
set_option maxRecDepth 100000 in
set_option maxHeartbeats 1000000 in
theorem turns_ (A : Option Addr) (c : Nat) (xs : List Int) (n : Nat) (w : World) (hx : Ints w 0 A c xs) (hn : n ≤ 1000000) (hxl : xs.length ≤ 1000000) :
    Calls Try.prog 42 #[.slice A xs.length c, .int .i64 n] w (BoolPost w (turnsV xs n)) := by
  have h1 := hx.le
  go_enter Try.func42, Try.ntmps42
  go_wp2_with fail
  go_loopw [9] (fun i wr => ∃ k : Nat, k ≤ xs.length ∧ i = .int .i64 k ∧ Below w.heap.size w wr ∧ Hid (∀ i, i < k → xs.getD ((i + n) % xs.length) 0 = xs.getD i 0)) (fun i _ => xs.length - (intOf i).toNat)
  case atStart => exact ⟨0, Nat.zero_le _, rfl, Below.refl _ _, fun i h => absurd h (by omega)⟩
  case round =>
    obtain ⟨k, hk, rfl, hb, HA⟩ := hrel
    have HB := Lib.hid hb
    by_cases hlt : k < xs.length
    · obtain ⟨b, o, rfl, _, hbl, hc⟩ := Ints.at_ (hx.below hb) hlt
      have hm : (k + n) % xs.length < xs.length := Nat.mod_lt _ (by omega)
      obtain ⟨b', o', hA', _, _, hc'⟩ := Ints.at_ (hx.below hb) hm
      obtain ⟨rfl, rfl⟩ : b = b' ∧ o = o' := by simpa using hA'
      have e1 := getD_at hlt
      have e2 := getD_at hm
      have E1 := Lib.hid e1
      have E2 := Lib.hid e2
      clear e1 e2 hb hA'
      have hz : ((xs.length : Int) == 0) = false := by
        simp only [beq_eq_false_iff_ne, ne_eq]
        omega
      have hk5 : k ≤ 1000000 := by omega
      have e3 : ((k : Int) + (n : Int)).tmod (xs.length : Int) = (((k + n) % xs.length : Nat) : Int) := by
        rw [Int.tmod_eq_emod_of_nonneg (by omega)]
        simp
      generalize xs[k] = x at *
      generalize xs[(k + n) % xs.length] = y at *
      obtain ⟨m, hmm⟩ : ∃ m, m = (k + n) % xs.length := ⟨_, rfl⟩
      rw [← hmm] at hm hc' e3 E2
      have HM := Lib.hid hmm
      clear hmm
      by_cases hxy : y = x
      · have hxy1 : (y != x) = false := by simp [hxy]
        have HK : Hid (∀ i, i < k + 1 → xs.getD ((i + n) % xs.length) 0 = xs.getD i 0) := by
          intro i hi
          rcases Nat.lt_or_ge i k with h | h
          · exact HA.out i h
          · obtain rfl : i = k := by omega
            rw [← HM.out, E1.out, E2.out, hxy]
        clear hxy
        go_wp2_with fail
        exact ⟨⟨k + 1, by omega, by go_num, HB.out, HK⟩, by simp [intOf]; omega⟩
      · have hxy1 : (y != x) = true := by simpa using hxy
        have HF : Hid (turnsV xs n = false) := turnsV_no hlt (by rw [← HM.out, E1.out, E2.out]; exact hxy)
        clear hxy
        go_wp2_with fail
        go_ret
        exact ⟨ret_bool HF.out.symm, HB.out⟩
    · have HF : Hid (turnsV xs n = true) := turnsV_from HA.out (by omega)
      go_wp2_with fail
      go_ret
      exact ⟨ret_bool HF.out.symm, HB.out⟩
theorem same_from {xs ys : List Int} (hl : xs.length = ys.length) (h : ∀ i, i < xs.length → xs.getD i 0 = ys.getD i 0) : xs = ys := by
  refine List.ext_getElem hl fun i h1 h2 => ?_
  have := h i h1
  rwa [getD_at h1, getD_at h2] at this
set_option maxRecDepth 100000 in
theorem SameInts_ (A B : Option Addr) (ca cb : Nat) (xs ys : List Int) (w : World) (hx : Ints w 0 A ca xs) (hy : Ints w 0 B cb ys) :
    Calls Try.prog 47 #[.slice A xs.length ca, .slice B ys.length cb] w (BoolPost w (decide (xs = ys))) := by
  have h1 := hx.le
  have h2 := hx.max
  have h3 := hy.le
  by_cases hl : xs.length = ys.length
  · have hl1 : ((xs.length : Int) != (ys.length : Int)) = false := by simp [hl]
    have HLL := Lib.hid hl
    clear hl
    go_enter Try.func47, Try.ntmps47
    go_wp2_with fail
    go_loopw [5] (fun i wr => ∃ k : Nat, k ≤ xs.length ∧ i = .int .i64 k ∧ Below w.heap.size w wr ∧ Hid (∀ i, i < k → xs.getD i 0 = ys.getD i 0)) (fun i _ => xs.length - (intOf i).toNat)
    case atStart => exact ⟨0, Nat.zero_le _, rfl, Below.refl _ _, fun i h => absurd h (by omega)⟩
    case round =>
      obtain ⟨k, hk, rfl, hb, HA⟩ := hrel
      have HB := Lib.hid hb
      by_cases hlt : k < xs.length
      · have hlt2 : k < ys.length := by have := HLL.out; omega
        obtain ⟨b, o, rfl, _, _, hc⟩ := Ints.at_ (hx.below hb) hlt
        obtain ⟨b', o', rfl, _, _, hc'⟩ := Ints.at_ (hy.below hb) hlt2
        have E1 := Lib.hid (getD_at hlt)
        have E2 := Lib.hid (getD_at hlt2)
        clear hb
        generalize xs[k] = x at *
        generalize ys[k] = y at *
        by_cases hxy : x = y
        · have hxy1 : (x != y) = false := by simp [hxy]
          have HXY := Lib.hid hxy
          clear hxy
          go_wp2_with fail
          go_quiet (fail)
          have HB3 := Lib.hid (below_drewN HB.out nq)
          go_wp2_with fail
          go_roundw
          case rel =>
            refine ⟨k + 1, by omega, by go_num, HB3.out, fun i hi => ?_⟩
            rcases Nat.lt_or_ge i k with h | h
            · exact HA.out i h
            · obtain rfl : i = k := by omega
              rw [E1.out, E2.out, HXY.out]
          case measure => simp [intOf]; omega
        · have hxy1 : (x != y) = true := by simpa using hxy
          have HF : Hid (decide (xs = ys) = false) := decide_eq_false fun h => hxy (by rw [← E1.out, ← E2.out, h])
          clear hxy
          go_wp2_with fail
          go_quiet (fail)
          have HB3 := Lib.hid (below_drewN HB.out nq)
          go_wp2_with fail
          go_ret
          exact ⟨ret_bool HF.out.symm, HB3.out⟩
      · have HF : Hid (decide (xs = ys) = true) := decide_eq_true (same_from HLL.out fun i hi => HA.out i (by omega))
        go_wp2_with fail
        go_ret
        exact ⟨ret_bool HF.out.symm, HB.out⟩
  · have hl1 : ((xs.length : Int) != (ys.length : Int)) = true := by
      simp only [bne_iff_ne, ne_eq]
      omega
    have HF : Hid (decide (xs = ys) = false) := decide_eq_false fun h => hl (by rw [h])
    clear hl
    go_enter Try.func47, Try.ntmps47
    go_wp2_with fail
    go_ret
    exact ⟨ret_bool HF.out.symm, Below.refl _ _⟩
end Go.Proofs.Ytoglgeaiiipchaa
