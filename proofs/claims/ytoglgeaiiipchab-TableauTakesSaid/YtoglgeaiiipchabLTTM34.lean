/- Walks: the reference's LeastOf. -/
import Derived.Test.YtoglgeaiiipchabLTTM4
import Derived.Test.YtoglgeaiiipchabLTTM33
import Derived.Shelf.Abstract
import Derived.Test.YtoglgeaiiipchabLTTM2
import Derived.Test.YtoglgeaiiipchabLTTM13
import Derived.Test.YtoglgeaiiipchabLTTM1
import Derived.Test.YtoglgeaiiipchabLTTM3
import Derived.Deep.RegionLaw
import Derived.Deep.CutBlock
import Derived.Deep.DeepCutAuto
set_option linter.unusedSimpArgs false
set_option linter.unusedVariables false
namespace Go.Proofs.Ytoglgeaiiipchab
open Go Go.RowKit

theorem same_from {xs ys : List Int} (hl : xs.length = ys.length) (h : ∀ i, i < xs.length → xs.getD i 0 = ys.getD i 0) : xs = ys := by
  refine List.ext_getElem hl fun i h1 h2 => ?_
  have := h i h1
  rwa [getD_at h1, getD_at h2] at this
set_option maxRecDepth 100000 in
theorem SameInts_ (A B : Option Addr) (ca cb : Nat) (xs ys : List Int) (w : World) (hx : Ints w 0 A ca xs) (hy : Ints w 0 B cb ys) :
    Calls Try.prog 59 #[.slice A xs.length ca, .slice B ys.length cb] w (BoolPost w (decide (xs = ys))) := by
  have h1 := hx.le
  have h2 := hx.max
  have h3 := hy.le
  by_cases hl : xs.length = ys.length
  · have hl1 : ((xs.length : Int) != (ys.length : Int)) = false := by simp [hl]
    have HLL := Lib.hid hl
    clear hl
    go_enter Try.func59, Try.ntmps59
    go_wp2_with fail
    go_loopw [5] (fun i wr => ∃ k : Nat, k ≤ xs.length ∧ i = .int .i64 k ∧ Below w.heap.size w wr ∧ Hid (∀ i, i < k → xs.getD i 0 = ys.getD i 0)) (fun i _ => xs.length - (intOf i).toNat)
    case atStart => exact ⟨0, Nat.zero_le _, rfl, Below.refl _ _, fun i h => absurd h (by omega)⟩
    case round =>
      obtain ⟨k, hk, rfl, hb, HA⟩ := hrel
      have HB := Lib.hid hb
      by_cases hlt : k < xs.length
      · have hlt2 : k < ys.length := by have := HLL.out; omega
        obtain ⟨b, o, rfl, _, _, hc⟩ := Ints.at_ (hx.below hb) hlt
        obtain ⟨b', o', rfl, _, _, hc'⟩ := Ints.at_ (hy.below hb) hlt2
        have E1 := Lib.hid (getD_at hlt)
        have E2 := Lib.hid (getD_at hlt2)
        clear hb
        generalize xs[k] = x at *
        generalize ys[k] = y at *
        by_cases hxy : x = y
        · have hxy1 : (x != y) = false := by simp [hxy]
          have HXY := Lib.hid hxy
          clear hxy
          go_wp2_with fail
          go_quiet (fail)
          have HB3 := Lib.hid (below_drewN HB.out nq)
          go_wp2_with fail
          go_roundw
          case rel =>
            refine ⟨k + 1, by omega, by go_num, HB3.out, fun i hi => ?_⟩
            rcases Nat.lt_or_ge i k with h | h
            · exact HA.out i h
            · obtain rfl : i = k := by omega
              rw [E1.out, E2.out, HXY.out]
          case measure => simp [intOf]; omega
        · have hxy1 : (x != y) = true := by simpa using hxy
          have HF : Hid (decide (xs = ys) = false) := decide_eq_false fun h => hxy (by rw [← E1.out, ← E2.out, h])
          clear hxy
          go_wp2_with fail
          go_quiet (fail)
          have HB3 := Lib.hid (below_drewN HB.out nq)
          go_wp2_with fail
          go_ret
          exact ⟨ret_bool HF.out.symm, HB3.out⟩
      · have HF : Hid (decide (xs = ys) = true) := decide_eq_true (same_from HLL.out fun i hi => HA.out i (by omega))
        go_wp2_with fail
        go_ret
        exact ⟨ret_bool HF.out.symm, HB.out⟩
  · have hl1 : ((xs.length : Int) != (ys.length : Int)) = true := by
      simp only [bne_iff_ne, ne_eq]
      omega
    have HF : Hid (decide (xs = ys) = false) := decide_eq_false fun h => hl (by rw [h])
    clear hl
    go_enter Try.func59, Try.ntmps59
    go_wp2_with fail
    go_ret
    exact ⟨ret_bool HF.out.symm, Below.refl _ _⟩
end Go.Proofs.Ytoglgeaiiipchab

namespace Go.Proofs.Ytoglgeaiiipchab
open Go Go.RowKit Go.Shelf

theorem turnsV_from {xs : List Int} {n j : Nat} (h : ∀ i, i < j → xs.getD ((i + n) % xs.length) 0 = xs.getD i 0) (hj : j = xs.length) : turnsV xs n = true := turnsV_iff.2 fun i hi => h i (by omega)
theorem turnsV_no {xs : List Int} {n i : Nat} (hi : i < xs.length) (h : xs.getD ((i + n) % xs.length) 0 ≠ xs.getD i 0) : turnsV xs n = false := by
  cases e : turnsV xs n with
  | false => rfl
  | true => exact absurd (turnsV_iff.1 e i hi) h

set_option maxRecDepth 100000 in
set_option maxHeartbeats 1000000 in
theorem turns_ (A : Option Addr) (c : Nat) (xs : List Int) (n : Nat) (w : World) (hx : Ints w 0 A c xs) (hn : n ≤ 1000000) (hxl : xs.length ≤ 1000000) :
    Calls Try.prog 57 #[.slice A xs.length c, .int .i64 n] w (BoolPost w (turnsV xs n)) := by
  have h1 := hx.le
  go_enter Try.func57, Try.ntmps57
  go_wp2_with fail
  go_loopw [9] (fun i wr => ∃ k : Nat, k ≤ xs.length ∧ i = .int .i64 k ∧ Below w.heap.size w wr ∧ Hid (∀ i, i < k → xs.getD ((i + n) % xs.length) 0 = xs.getD i 0)) (fun i _ => xs.length - (intOf i).toNat)
  case atStart => exact ⟨0, Nat.zero_le _, rfl, Below.refl _ _, fun i h => absurd h (by omega)⟩
  case round =>
    obtain ⟨k, hk, rfl, hb, HA⟩ := hrel
    have HB := Lib.hid hb
    by_cases hlt : k < xs.length
    · obtain ⟨b, o, rfl, _, hbl, hc⟩ := Ints.at_ (hx.below hb) hlt
      have hm : (k + n) % xs.length < xs.length := Nat.mod_lt _ (by omega)
      obtain ⟨b', o', hA', _, _, hc'⟩ := Ints.at_ (hx.below hb) hm
      obtain ⟨rfl, rfl⟩ : b = b' ∧ o = o' := by simpa using hA'
      have e1 := getD_at hlt
      have e2 := getD_at hm
      have E1 := Lib.hid e1
      have E2 := Lib.hid e2
      clear e1 e2 hb hA'
      have hz : ((xs.length : Int) == 0) = false := by
        simp only [beq_eq_false_iff_ne, ne_eq]
        omega
      have hk5 : k ≤ 1000000 := by omega
      have e3 : ((k : Int) + (n : Int)).tmod (xs.length : Int) = (((k + n) % xs.length : Nat) : Int) := by
        rw [Int.tmod_eq_emod_of_nonneg (by omega)]
        simp
      generalize xs[k] = x at *
      generalize xs[(k + n) % xs.length] = y at *
      obtain ⟨m, hmm⟩ : ∃ m, m = (k + n) % xs.length := ⟨_, rfl⟩
      rw [← hmm] at hm hc' e3 E2
      have HM := Lib.hid hmm
      clear hmm
      by_cases hxy : y = x
      · have hxy1 : (y != x) = false := by simp [hxy]
        have HK : Hid (∀ i, i < k + 1 → xs.getD ((i + n) % xs.length) 0 = xs.getD i 0) := by
          intro i hi
          rcases Nat.lt_or_ge i k with h | h
          · exact HA.out i h
          · obtain rfl : i = k := by omega
            rw [← HM.out, E1.out, E2.out, hxy]
        clear hxy
        go_wp2_with fail
        exact ⟨⟨k + 1, by omega, by go_num, HB.out, HK⟩, by simp [intOf]; omega⟩
      · have hxy1 : (y != x) = true := by simpa using hxy
        have HF : Hid (turnsV xs n = false) := turnsV_no hlt (by rw [← HM.out, E1.out, E2.out]; exact hxy)
        clear hxy
        go_wp2_with fail
        go_ret
        exact ⟨ret_bool HF.out.symm, HB.out⟩
    · have HF : Hid (turnsV xs n = true) := turnsV_from HA.out (by omega)
      go_wp2_with fail
      go_ret
      exact ⟨ret_bool HF.out.symm, HB.out⟩
end Go.Proofs.Ytoglgeaiiipchab

namespace Go.Proofs.Ytoglgeaiiipchab
open Go Go.RowKit Go.Shelf

/-- two lassos in variables -/
def la2W (w : World) (A B C D : Option Addr) (ca cb cc cd : Nat) (l m : La) : World :=
  (w.alloc (Obj.cells #[Value.slice A l.h.length ca, Value.slice B l.l.length cb] 28)).alloc (Obj.cells #[Value.slice C m.h.length cc, Value.slice D m.l.length cd] 28)
structure La2W (w W : World) (A B C D : Option Addr) (ca cb cc cd : Nat) (l m : La) : Prop where
  below : Below w.heap.size w W
  size : W.heap.size = w.heap.size + 1 + 1
  l0 : W.cell? ⟨w.heap.size, 0, none⟩ = some (.slice A l.h.length ca)
  l1 : W.cell? ⟨w.heap.size, 1, none⟩ = some (.slice B l.l.length cb)
  m0 : W.cell? ⟨w.heap.size + 1, 0, none⟩ = some (.slice C m.h.length cc)
  m1 : W.cell? ⟨w.heap.size + 1, 1, none⟩ = some (.slice D m.l.length cd)
theorem la2W_is (w : World) (A B C D : Option Addr) (ca cb cc cd : Nat) (l m : La) : La2W w (la2W w A B C D ca cb cc cd l m) A B C D ca cb cc cd l m := by
  unfold la2W
  refine ⟨by go_grown, by simp, ?_, ?_, ?_, ?_⟩ <;> go_simp

set_option maxRecDepth 100000 in
set_option maxHeartbeats 1000000 in
theorem SameLasso_ (A B C D : Option Addr) (ca cb cc cd : Nat) (l m : La) (w : World) (hh : Ints w 0 A ca l.h) (hl : Ints w 0 B cb l.l) (gh : Ints w 0 C cc m.h) (gl : Ints w 0 D cd m.l) :
    Calls Try.prog 28 #[.agg #[.slice A l.h.length ca, .slice B l.l.length cb], .agg #[.slice C m.h.length cc, .slice D m.l.length cd]] w (BoolPost w (decide (l = m))) := by
  have HW := Lib.hid (la2W_is w A B C D ca cb cc cd l m)
  have HH := Lib.hid (hh.below HW.out.below)
  have HL := Lib.hid (hl.below HW.out.below)
  have GH := Lib.hid (gh.below HW.out.below)
  have GL := Lib.hid (gl.below HW.out.below)
  have HD : Hid (decide (l = m) = (decide (l.h = m.h) && decide (l.l = m.l))) := by
    show decide (l = m) = _
    cases l
    cases m
    simp
  generalize decide (l = m) = vv at *
  clear hh hl gh gl
  go_enter Try.func28, Try.ntmps28
  go_wp2_with fail
  change Calls _ _ _ (la2W w A B C D ca cb cc cd l m) _
  generalize la2W w A B C D ca cb cc cd l m = W0 at *
  have hs := HW.out.size
  refine (SameInts_ A C ca cc l.h m.h W0 HH.out GH.out).mono ?_
  rintro e w1 ⟨rfl, hb1⟩
  have HB1 := Lib.hid (Below_on HW.out.below hb1 HW.out.below.size)
  have c1 := (cell_on3 hb1 (b := w.heap.size) (o := 1) (by omega)).trans HW.out.l1
  have c2 := (cell_on3 hb1 (b := w.heap.size + 1) (o := 1) (by omega)).trans HW.out.m1
  have HS := Lib.hid (SameInts_ B D cb cd l.l m.l w1 (HL.out.below hb1) (GL.out.below hb1))
  clear hb1 hs
  by_cases h1 : l.h = m.h
  · have h1' : decide (l.h = m.h) = true := decide_eq_true h1
    rw [h1'] at HD ⊢
    clear h1 h1'
    go_wp2_with fail
    refine HS.out.mono ?_
    rintro e w2 ⟨rfl, hb2⟩
    have HB2 := Lib.hid (Below_on HB1.out hb2 HB1.out.size)
    have HF : Hid (vv = decide (l.l = m.l)) := by
      show vv = _
      rw [HD.out]
      simp
    generalize decide (l.l = m.l) = v2 at *
    clear hb2
    go_wp2_with fail
    go_ret
    exact ⟨ret_bool HF.out.symm, HB2.out⟩
  · have h1' : decide (l.h = m.h) = false := decide_eq_false h1
    rw [h1'] at HD ⊢
    have HF : Hid (vv = false) := by
      show vv = _
      rw [HD.out]
      rfl
    clear h1 h1'
    go_wp2_with fail
    go_ret
    exact ⟨ret_bool HF.out.symm, HB1.out⟩
end Go.Proofs.Ytoglgeaiiipchab

namespace Go.Proofs.Ytoglgeaiiipchab
open Go Go.RowKit Go.Shelf

def atE (l : La) (letters i : Int) : Int := if ckL l letters = 0 then (if i < 0 then 3 else 0) else ckL l letters
def atL (l : La) (letters i : Int) : Int := if ckL l letters = 0 then (if i < 0 then 0 else l.at i.toNat) else 0
def IntsPost (w : World) (a b : Int) (e : Ending) (w' : World) : Prop := e = .returned (.tuple #[.int .i64 a, .int .i64 b]) ∧ Below w.heap.size w w'
theorem ret_ii {a a' b b' : Int} (h1 : a = a') (h2 : b = b') : Ending.returned (.tuple #[.int .i64 a, .int .i64 b]) = Ending.returned (.tuple #[.int .i64 a', .int .i64 b']) := by rw [h1, h2]
theorem ckL_ne {l : La} {letters : Int} (h : ckL l letters = 0) : l.l.length ≠ 0 := by
  unfold ckL at h
  split at h
  · simp at h
  · split at h
    · simp at h
    · split at h
      · simp at h
      · assumption


/-- the world in which a lasso stands in a variable -/
def laW (w : World) (A B : Option Addr) (ca cb : Nat) (l : La) : World := w.alloc (Obj.cells #[Value.slice A l.h.length ca, Value.slice B l.l.length cb] 28)
structure LaW (w W : World) (A B : Option Addr) (ca cb : Nat) (l : La) : Prop where
  below : Below w.heap.size w W
  size : w.heap.size < W.heap.size
  l0 : W.cell? ⟨w.heap.size, 0, none⟩ = some (.slice A l.h.length ca)
  l1 : W.cell? ⟨w.heap.size, 1, none⟩ = some (.slice B l.l.length cb)
theorem laW_is (w : World) (A B : Option Addr) (ca cb : Nat) (l : La) : LaW w (laW w A B ca cb l) A B ca cb l := by
  unfold laW
  refine ⟨by go_grown, by simp, ?_, ?_⟩ <;> go_simp

set_option maxRecDepth 100000 in
set_option maxHeartbeats 1000000 in
theorem At_ (A B : Option Addr) (ca cb : Nat) (l : La) (letters i : Int) (w : World) (hh : Ints w 0 A ca l.h) (hl : Ints w 0 B cb l.l) (hi : i ≤ 9223372036854775807) :
    Calls Try.prog 26 #[.agg #[.slice A l.h.length ca, .slice B l.l.length cb], .int .i64 letters, .int .i64 i] w (IntsPost w (atL l letters i) (atE l letters i)) := by
  have h1 := hh.le
  have h2 := hh.max
  have h3 := hl.le
  have h4 := hl.max
  have HH := Lib.hid hh
  have HL := Lib.hid hl
  have HW := Lib.hid (laW_is w A B ca cb l)
  have HCK := Lib.hid (wordCheck_ A B ca cb l letters (laW w A B ca cb l) (hh.below HW.out.below) (hl.below HW.out.below))
  have HV := Lib.hid (show atL l letters i = if ckL l letters = 0 then (if i < 0 then 0 else l.at i.toNat) else 0 from rfl)
  have HE := Lib.hid (show atE l letters i = if ckL l letters = 0 then (if i < 0 then 3 else 0) else ckL l letters from rfl)
  have HNE := Lib.hid (fun h => ckL_ne (l := l) (letters := letters) h)
  generalize atL l letters i = vL at *
  generalize atE l letters i = vE at *
  generalize ckL l letters = ck at *
  clear hh hl
  go_enter Try.func26, Try.ntmps26
  go_wp2_with fail
  refine HCK.out.mono ?_
  rintro e w1 ⟨rfl, hb1⟩
  have HB1 := Lib.hid (Below_on HW.out.below hb1 HW.out.below.size)
  have d0 := (cell_on3 hb1 (o := 0) HW.out.size).trans HW.out.l0
  have d1 := (cell_on3 hb1 (o := 1) HW.out.size).trans HW.out.l1
  have HH1 := Lib.hid ((HH.out).below HB1.out)
  have HL1 := Lib.hid ((HL.out).below HB1.out)
  clear hb1 HCK HW HH HL
  by_cases hc : ck = 0
  · subst hc
    have hne := HNE.out rfl
    have HV1 := HV.out
    have HE1 := HE.out
    rw [if_pos rfl] at HV1 HE1
    by_cases hi0 : i < 0
    · rw [if_pos hi0] at HV1 HE1
      subst HV1 HE1
      go_wp2_with fail
      go_ret2
      exact ⟨rfl, HB1.out⟩
    · rw [if_neg hi0] at HV1 HE1
      obtain ⟨i, rfl⟩ := Int.eq_ofNat_of_zero_le (Int.not_lt.1 hi0)
      subst HE1
      have HVV := Lib.hid HV1
      clear HV1
      by_cases hlt : i < l.h.length
      · obtain ⟨b, o, rfl, _, hb, hcell⟩ := Ints.at_ HH1.out hlt
        have HF : Hid (vL = l.h[i]) := by
          show vL = _
          rw [HVV.out]
          simp [La.at, hlt]
        go_wp2_with fail
        go_ret2
        exact ⟨ret_ii HF.out.symm rfl, HB1.out⟩
      · have hm : (i - l.h.length) % l.l.length < l.l.length := Nat.mod_lt _ (by omega)
        obtain ⟨b, o, rfl, _, hb, hcell⟩ := Ints.at_ HL1.out hm
        have HF : Hid (vL = l.l[(i - l.h.length) % l.l.length]) := by
          show vL = _
          rw [HVV.out]
          simp [La.at, hlt, hm]
        have e1 : ((i : Int) - (l.h.length : Int)) = ((i - l.h.length : Nat) : Int) := by omega
        have hz : ((l.l.length : Int) == 0) = false := by simpa using hne
        go_wp2_with fail
        go_quiet (fail)
        go_wp2_with fail
        go_ret2
        exact ⟨ret_ii HF.out.symm rfl, below_drewN HB1.out _⟩
  · have HV1 := HV.out
    have HE1 := HE.out
    rw [if_neg hc] at HV1 HE1
    subst HV1 HE1
    have hc2 : (vE != 0) = true := by simpa using hc
    clear hc
    go_wp2_with fail
    go_ret2
    exact ⟨rfl, HB1.out⟩
end Go.Proofs.Ytoglgeaiiipchab

namespace Go.Proofs.Ytoglgeaiiipchab
open Go Go.RowKit Go.Shelf Go.Sort

theorem at_loop {l : La} (hp : 0 < l.l.length) (i : Nat) : l.at (l.h.length + i) = l.l.getD (i % l.l.length) 0 := by
  unfold La.at
  rw [if_neg (by omega), show l.h.length + i - l.h.length = i by omega]
theorem same_iff {l : La} (hp : 0 < l.l.length) {n : Nat} : turnsV l.l n = true ↔ ∀ i, i < l.l.length → l.at (l.h.length + i) = l.at (l.h.length + i + n) := by
  rw [turnsV_iff]
  constructor
  · intro h i hi
    rw [Nat.add_assoc, at_loop hp, at_loop hp, h i hi, Nat.mod_eq_of_lt hi]
  · intro h i hi
    have := h i hi
    rw [Nat.add_assoc, at_loop hp, at_loop hp, Nat.mod_eq_of_lt hi] at this
    exact this.symm
def LaPost (w : World) (m : La) (e : Ending) (w' : World) : Prop :=
  ∃ A B ca cb, e = .returned (.agg #[.slice A m.h.length ca, .slice B m.l.length cb]) ∧ Ints w' w.heap.size A ca m.h ∧ Ints w' w.heap.size B cb m.l ∧ Below w.heap.size w w'
/-- the world in which a lasso and a lasso to hand back stand in variables -/
def loW (w : World) (A B : Option Addr) (ca cb : Nat) (l : La) : World := (w.alloc (Obj.cells #[Value.slice A l.h.length ca, Value.slice B l.l.length cb] 28)).alloc (Obj.cells #[Value.slice none 0 0, Value.slice none 0 0] 28)
structure LoW (w W : World) (A B : Option Addr) (ca cb : Nat) (l : La) : Prop where
  below : Below w.heap.size w W
  size : W.heap.size = w.heap.size + 1 + 1
  l0 : W.cell? ⟨w.heap.size, 0, none⟩ = some (.slice A l.h.length ca)
  l1 : W.cell? ⟨w.heap.size, 1, none⟩ = some (.slice B l.l.length cb)
  r0 : W.cell? ⟨w.heap.size + 1, 0, none⟩ = some (.slice none 0 0)
  r1 : W.cell? ⟨w.heap.size + 1, 1, none⟩ = some (.slice none 0 0)
  f0 : W.frozen? ⟨w.heap.size + 1, 0, none⟩ = false
  f1 : W.frozen? ⟨w.heap.size + 1, 1, none⟩ = false
theorem loW_is (w : World) (A B : Option Addr) (ca cb : Nat) (l : La) : LoW w (loW w A B ca cb l) A B ca cb l := by
  unfold loW
  refine ⟨by go_grown, by simp, ?_, ?_, ?_, ?_, ?_, ?_⟩ <;> go_simp
theorem leastN_here {P : Nat → Bool} {L : Nat} : ∀ (m k n : Nat), 0 < k → k ≤ n → n ≤ L → L ≤ k + m → (∀ j, k ≤ j → j < n → P j = false) → (n < L → P n = true) → firstTurn P L m k = n
  | 0, k, n, _, h1, h2, h3, _, _ => by unfold firstTurn; omega
  | m + 1, k, n, h0, h1, h2, h3, hn, hp => by
    unfold firstTurn
    by_cases h : L ≤ k
    · rw [if_pos h]; omega
    · rw [if_neg h]
      by_cases hkn : k = n
      · subst hkn
        rw [hp (by omega)]
        rfl
      · rw [hn k (Nat.le_refl _) (by omega)]
        simp only [Bool.false_eq_true, if_false]
        exact leastN_here m (k + 1) n (by omega) (by omega) h2 (by omega) (fun j h4 h5 => hn j (by omega) h5) hp

/-- the world in which the answer stands in a variable -/
def outW (w : World) : World := w.alloc (Obj.cells #[Value.slice none 0 0, Value.slice none 0 0] 28)
structure OutW (w W : World) (B G : Nat) : Prop where
  le : B ≤ G
  below : Below w.heap.size w W
  size : W.heap.size = G + 1
  c0 : W.cell? ⟨G, 0, none⟩ = some (.slice none 0 0)
  c1 : W.cell? ⟨G, 1, none⟩ = some (.slice none 0 0)
  f0 : W.frozen? ⟨G, 0, none⟩ = false
  f1 : W.frozen? ⟨G, 1, none⟩ = false
theorem outW_is (w : World) (B : Nat) (h : B ≤ w.heap.size) : OutW w (outW w) B w.heap.size := by
  unfold outW
  refine ⟨h, by go_grown, by simp, ?_, ?_, ?_, ?_⟩ <;> go_simp
theorem lo_end {w W0 w10 wr : World} {V G H2 k n c c' : Nat} {l : La} {T T' : Option Addr} {v0 v1 : Value} (hV : V = w.heap.size) (hb : Below V w W0) (hG : V + 1 < G)
    {v0W : World} (h9 : OutV v0W 3 G (G + 1) 0 1 v0 k (vals l.at 0 k) T c w10) (hH : H2 = w10.heap.size) (h11 : OutV w10 3 G H2 1 0 v1 n (vals l.at k n) T' c' wr) (hb11 : Below W0.heap.size W0 wr) (hV2 : V + 1 < W0.heap.size)
    (hn : leastN l = n) (hk : downK l.at n l.h.length = k) (hk4 : k ≤ 4000) (hn4 : n ≤ 4000) :
    LaPost w (leastOf l) (.returned (.agg #[.slice T k c, .slice T' n c'])) ((wr.setCell ⟨V + 1, 0, none⟩ (.slice T k c)).setCell ⟨V + 1, 1, none⟩ (.slice T' n c')) := by
  have i1 := ints_of_vals h9.own (by omega)
  have i2 := ints_of_vals h11.own (by omega)
  have e : leastOf l = ⟨valsL l.at 0 k, valsL l.at k n⟩ := by
    unfold leastOf valsL
    rw [hn, hk]
    simp
  have hl1 : (valsL l.at 0 k).length = k := by simp [valsL]
  have hl2 : (valsL l.at k n).length = n := by simp [valsL]
  have hlt := h11.lt
  have hle := h11.le
  rw [e]
  refine ⟨T, T', c, c', by simp only [hl1, hl2], ?_, ?_, ?_⟩
  · have h1 := i1.kept (w' := wr) (by rw [← hH]; exact h11.kept)
    have h2 := h1.kept (Kept.set _ _ _ (p := ⟨V + 1, 0, none⟩) (.slice T k c) (.inl (by show V + 1 < _; omega)))
    exact (h2.kept (Kept.set _ _ _ (p := ⟨V + 1, 1, none⟩) (.slice T' n c') (.inl (by show V + 1 < _; omega)))).low (by omega)
  · have h2 := i2.kept (Kept.set _ _ _ (p := ⟨V + 1, 0, none⟩) (.slice T k c) (.inl (by show V + 1 < _; omega)))
    exact (h2.kept (Kept.set _ _ _ (p := ⟨V + 1, 1, none⟩) (.slice T' n c') (.inl (by show V + 1 < _; omega)))).low (by omega)
  · rw [← hV]
    exact (((hb.trans (hb11.mono (by omega))).setCell (p := ⟨V + 1, 0, none⟩) (by show V ≤ V + 1; omega) _).setCell (p := ⟨V + 1, 1, none⟩) (by show V ≤ V + 1; omega) _)
theorem lo_cells {wr : World} {X : Nat} {a b u v : Value} (h0 : wr.cell? ⟨X, 0, none⟩ = some a) (h1 : wr.cell? ⟨X, 1, none⟩ = some b) :
    ((wr.setCell ⟨X, 0, none⟩ u).setCell ⟨X, 1, none⟩ v).cell? ⟨X, 0, none⟩ = some u ∧ ((wr.setCell ⟨X, 0, none⟩ u).setCell ⟨X, 1, none⟩ v).cell? ⟨X, 1, none⟩ = some v := by
  constructor
  · exact (World.cell?_setCell_other _ ⟨X, 1, none⟩ ⟨X, 0, none⟩ _ (by simp)).trans (World.cell?_setCell_same' _ _ _ (by rw [h0]; rfl))
  · exact World.cell?_setCell_same' _ _ _ (by rw [World.cell?_setCell_other _ ⟨X, 0, none⟩ ⟨X, 1, none⟩ _ (by simp), h1]; rfl)
end Go.Proofs.Ytoglgeaiiipchab
