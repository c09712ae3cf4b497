/- Walks: the reference's SameInts. -/
import Derived.Test.YtoglgeaiiipchabDoorBtw
namespace Go.Proofs.YtoglgeaiiipchabDoor
open Go Go.RowKit

theorem same_from {xs ys : List Int} (hl : xs.length = ys.length) (h : ∀ i, i < xs.length → xs.getD i 0 = ys.getD i 0) : xs = ys := by
  refine List.ext_getElem hl fun i h1 h2 => ?_
  have := h i h1
  rwa [getD_at h1, getD_at h2] at this
set_option maxRecDepth 100000 in
theorem SameInts_ (A B : Option Addr) (ca cb : Nat) (xs ys : List Int) (w : World) (hx : Ints w 0 A ca xs) (hy : Ints w 0 B cb ys) :
    Calls Tryd.prog 37 #[.slice A xs.length ca, .slice B ys.length cb] w (BoolPost w (decide (xs = ys))) := by
  have h1 := hx.le
  have h2 := hx.max
  have h3 := hy.le
  by_cases hl : xs.length = ys.length
  · have hl1 : ((xs.length : Int) != (ys.length : Int)) = false := by simp [hl]
    have HLL := Lib.hid hl
    clear hl
    go_enter Tryd.func37, Tryd.ntmps37
    go_wp2_with fail
    go_loopw [5] (fun i wr => ∃ k : Nat, k ≤ xs.length ∧ i = .int .i64 k ∧ Below w.heap.size w wr ∧ Hid (∀ i, i < k → xs.getD i 0 = ys.getD i 0)) (fun i _ => xs.length - (intOf i).toNat)
    case atStart => exact ⟨0, Nat.zero_le _, rfl, Below.refl _ _, fun i h => absurd h (by omega)⟩
    case round =>
      obtain ⟨k, hk, rfl, hb, HA⟩ := hrel
      have HB := Lib.hid hb
      by_cases hlt : k < xs.length
      · have hlt2 : k < ys.length := by have := HLL.out; omega
        obtain ⟨b, o, rfl, _, _, hc⟩ := Ints.at_ (hx.below hb) hlt
        obtain ⟨b', o', rfl, _, _, hc'⟩ := Ints.at_ (hy.below hb) hlt2
        have E1 := Lib.hid (getD_at hlt)
        have E2 := Lib.hid (getD_at hlt2)
        clear hb
        generalize xs[k] = x at *
        generalize ys[k] = y at *
        by_cases hxy : x = y
        · have hxy1 : (x != y) = false := by simp [hxy]
          have HXY := Lib.hid hxy
          clear hxy
          go_wp2_with fail
          go_quiet (fail)
          have HB3 := Lib.hid (below_drewN HB.out nq)
          go_wp2_with fail
          go_roundw
          case rel =>
            refine ⟨k + 1, by omega, by go_num, HB3.out, fun i hi => ?_⟩
            rcases Nat.lt_or_ge i k with h | h
            · exact HA.out i h
            · obtain rfl : i = k := by omega
              rw [E1.out, E2.out, HXY.out]
          case measure => simp [intOf]; omega
        · have hxy1 : (x != y) = true := by simpa using hxy
          have HF : Hid (decide (xs = ys) = false) := decide_eq_false fun h => hxy (by rw [← E1.out, ← E2.out, h])
          clear hxy
          go_wp2_with fail
          go_quiet (fail)
          have HB3 := Lib.hid (below_drewN HB.out nq)
          go_wp2_with fail
          go_ret
          exact ⟨ret_bool HF.out.symm, HB3.out⟩
      · have HF : Hid (decide (xs = ys) = true) := decide_eq_true (same_from HLL.out fun i hi => HA.out i (by omega))
        go_wp2_with fail
        go_ret
        exact ⟨ret_bool HF.out.symm, HB.out⟩
  · have hl1 : ((xs.length : Int) != (ys.length : Int)) = true := by
      simp only [bne_iff_ne, ne_eq]
      omega
    have HF : Hid (decide (xs = ys) = false) := decide_eq_false fun h => hl (by rw [h])
    clear hl
    go_enter Tryd.func37, Tryd.ntmps37
    go_wp2_with fail
    go_ret
    exact ⟨ret_bool HF.out.symm, Below.refl _ _⟩
end Go.Proofs.YtoglgeaiiipchabDoor
