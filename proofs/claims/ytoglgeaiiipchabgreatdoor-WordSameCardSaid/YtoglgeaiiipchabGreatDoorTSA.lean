/- Walks: the reference's SameLasso. -/
import Derived.Test.YtoglgeaiiipchabGreatDoorPLA
import Derived.Test.YtoglgeaiiipchabGreatDoorSI
import Derived.Shelf.Abstract
namespace Go.Proofs.YtoglgeaiiipchabGreatDoor
open Go Go.RowKit Go.Shelf

theorem turnsV_from {xs : List Int} {n j : Nat} (h : ∀ i, i < j → xs.getD ((i + n) % xs.length) 0 = xs.getD i 0) (hj : j = xs.length) : turnsV xs n = true := turnsV_iff.2 fun i hi => h i (by omega)
theorem turnsV_no {xs : List Int} {n i : Nat} (hi : i < xs.length) (h : xs.getD ((i + n) % xs.length) 0 ≠ xs.getD i 0) : turnsV xs n = false := by
  cases e : turnsV xs n with
  | false => rfl
  | true => exact absurd (turnsV_iff.1 e i hi) h

set_option maxRecDepth 100000 in
set_option maxHeartbeats 1000000 in
theorem turns_ (A : Option Addr) (c : Nat) (xs : List Int) (n : Nat) (w : World) (hx : Ints w 0 A c xs) (hn : n ≤ 1000000) (hxl : xs.length ≤ 1000000) :
    Calls Tryz.prog 33 #[.slice A xs.length c, .int .i64 n] w (BoolPost w (turnsV xs n)) := by
  have h1 := hx.le
  go_enter Tryz.func33, Tryz.ntmps33
  go_wp2_with fail
  go_loopw [9] (fun i wr => ∃ k : Nat, k ≤ xs.length ∧ i = .int .i64 k ∧ Below w.heap.size w wr ∧ Hid (∀ i, i < k → xs.getD ((i + n) % xs.length) 0 = xs.getD i 0)) (fun i _ => xs.length - (intOf i).toNat)
  case atStart => exact ⟨0, Nat.zero_le _, rfl, Below.refl _ _, fun i h => absurd h (by omega)⟩
  case round =>
    obtain ⟨k, hk, rfl, hb, HA⟩ := hrel
    have HB := Lib.hid hb
    by_cases hlt : k < xs.length
    · obtain ⟨b, o, rfl, _, hbl, hc⟩ := Ints.at_ (hx.below hb) hlt
      have hm : (k + n) % xs.length < xs.length := Nat.mod_lt _ (by omega)
      obtain ⟨b', o', hA', _, _, hc'⟩ := Ints.at_ (hx.below hb) hm
      obtain ⟨rfl, rfl⟩ : b = b' ∧ o = o' := by simpa using hA'
      have e1 := getD_at hlt
      have e2 := getD_at hm
      have E1 := Lib.hid e1
      have E2 := Lib.hid e2
      clear e1 e2 hb hA'
      have hz : ((xs.length : Int) == 0) = false := by
        simp only [beq_eq_false_iff_ne, ne_eq]
        omega
      have hk5 : k ≤ 1000000 := by omega
      have e3 : ((k : Int) + (n : Int)).tmod (xs.length : Int) = (((k + n) % xs.length : Nat) : Int) := by
        rw [Int.tmod_eq_emod_of_nonneg (by omega)]
        simp
      generalize xs[k] = x at *
      generalize xs[(k + n) % xs.length] = y at *
      obtain ⟨m, hmm⟩ : ∃ m, m = (k + n) % xs.length := ⟨_, rfl⟩
      rw [← hmm] at hm hc' e3 E2
      have HM := Lib.hid hmm
      clear hmm
      by_cases hxy : y = x
      · have hxy1 : (y != x) = false := by simp [hxy]
        have HK : Hid (∀ i, i < k + 1 → xs.getD ((i + n) % xs.length) 0 = xs.getD i 0) := by
          intro i hi
          rcases Nat.lt_or_ge i k with h | h
          · exact HA.out i h
          · obtain rfl : i = k := by omega
            rw [← HM.out, E1.out, E2.out, hxy]
        clear hxy
        go_wp2_with fail
        exact ⟨⟨k + 1, by omega, by go_num, HB.out, HK⟩, by simp [intOf]; omega⟩
      · have hxy1 : (y != x) = true := by simpa using hxy
        have HF : Hid (turnsV xs n = false) := turnsV_no hlt (by rw [← HM.out, E1.out, E2.out]; exact hxy)
        clear hxy
        go_wp2_with fail
        go_ret
        exact ⟨ret_bool HF.out.symm, HB.out⟩
    · have HF : Hid (turnsV xs n = true) := turnsV_from HA.out (by omega)
      go_wp2_with fail
      go_ret
      exact ⟨ret_bool HF.out.symm, HB.out⟩
end Go.Proofs.YtoglgeaiiipchabGreatDoor

namespace Go.Proofs.YtoglgeaiiipchabGreatDoor
open Go Go.RowKit Go.Shelf

/-- two lassos in variables -/
def la2W (w : World) (A B C D : Option Addr) (ca cb cc cd : Nat) (l m : La) : World :=
  (w.alloc (Obj.cells #[Value.slice A l.h.length ca, Value.slice B l.l.length cb] 28)).alloc (Obj.cells #[Value.slice C m.h.length cc, Value.slice D m.l.length cd] 28)
structure La2W (w W : World) (A B C D : Option Addr) (ca cb cc cd : Nat) (l m : La) : Prop where
  below : Below w.heap.size w W
  size : W.heap.size = w.heap.size + 1 + 1
  l0 : W.cell? ⟨w.heap.size, 0, none⟩ = some (.slice A l.h.length ca)
  l1 : W.cell? ⟨w.heap.size, 1, none⟩ = some (.slice B l.l.length cb)
  m0 : W.cell? ⟨w.heap.size + 1, 0, none⟩ = some (.slice C m.h.length cc)
  m1 : W.cell? ⟨w.heap.size + 1, 1, none⟩ = some (.slice D m.l.length cd)
theorem la2W_is (w : World) (A B C D : Option Addr) (ca cb cc cd : Nat) (l m : La) : La2W w (la2W w A B C D ca cb cc cd l m) A B C D ca cb cc cd l m := by
  unfold la2W
  refine ⟨by go_grown, by simp, ?_, ?_, ?_, ?_⟩ <;> go_simp

set_option maxRecDepth 100000 in
set_option maxHeartbeats 1000000 in
theorem SameLasso_ (A B C D : Option Addr) (ca cb cc cd : Nat) (l m : La) (w : World) (hh : Ints w 0 A ca l.h) (hl : Ints w 0 B cb l.l) (gh : Ints w 0 C cc m.h) (gl : Ints w 0 D cd m.l) :
    Calls Tryz.prog 9 #[.agg #[.slice A l.h.length ca, .slice B l.l.length cb], .agg #[.slice C m.h.length cc, .slice D m.l.length cd]] w (BoolPost w (decide (l = m))) := by
  have HW := Lib.hid (la2W_is w A B C D ca cb cc cd l m)
  have HH := Lib.hid (hh.below HW.out.below)
  have HL := Lib.hid (hl.below HW.out.below)
  have GH := Lib.hid (gh.below HW.out.below)
  have GL := Lib.hid (gl.below HW.out.below)
  have HD : Hid (decide (l = m) = (decide (l.h = m.h) && decide (l.l = m.l))) := by
    show decide (l = m) = _
    cases l
    cases m
    simp
  generalize decide (l = m) = vv at *
  clear hh hl gh gl
  go_enter Tryz.func9, Tryz.ntmps9
  go_wp2_with fail
  change Calls _ _ _ (la2W w A B C D ca cb cc cd l m) _
  generalize la2W w A B C D ca cb cc cd l m = W0 at *
  have hs := HW.out.size
  refine (SameInts_ A C ca cc l.h m.h W0 HH.out GH.out).mono ?_
  rintro e w1 ⟨rfl, hb1⟩
  have HB1 := Lib.hid (Below_on HW.out.below hb1 HW.out.below.size)
  have c1 := (cell_on3 hb1 (b := w.heap.size) (o := 1) (by omega)).trans HW.out.l1
  have c2 := (cell_on3 hb1 (b := w.heap.size + 1) (o := 1) (by omega)).trans HW.out.m1
  have HS := Lib.hid (SameInts_ B D cb cd l.l m.l w1 (HL.out.below hb1) (GL.out.below hb1))
  clear hb1 hs
  by_cases h1 : l.h = m.h
  · have h1' : decide (l.h = m.h) = true := decide_eq_true h1
    rw [h1'] at HD ⊢
    clear h1 h1'
    go_wp2_with fail
    refine HS.out.mono ?_
    rintro e w2 ⟨rfl, hb2⟩
    have HB2 := Lib.hid (Below_on HB1.out hb2 HB1.out.size)
    have HF : Hid (vv = decide (l.l = m.l)) := by
      show vv = _
      rw [HD.out]
      simp
    generalize decide (l.l = m.l) = v2 at *
    clear hb2
    go_wp2_with fail
    go_ret
    exact ⟨ret_bool HF.out.symm, HB2.out⟩
  · have h1' : decide (l.h = m.h) = false := decide_eq_false h1
    rw [h1'] at HD ⊢
    have HF : Hid (vv = false) := by
      show vv = _
      rw [HD.out]
      rfl
    clear h1 h1'
    go_wp2_with fail
    go_ret
    exact ⟨ret_bool HF.out.symm, HB1.out⟩
end Go.Proofs.YtoglgeaiiipchabGreatDoor
