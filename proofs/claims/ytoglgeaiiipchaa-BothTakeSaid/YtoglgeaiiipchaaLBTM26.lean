/- Walks: word.At, word.turns, the reference's LetterAt at any place. -/
import Derived.Test.YtoglgeaiiipchaaLBTM4
import Derived.Test.YtoglgeaiiipchaaLBTM2
import Derived.Test.YtoglgeaiiipchaaLBTM25
set_option linter.unusedSimpArgs false
set_option linter.unusedVariables false
namespace Go.Proofs.Ytoglgeaiiipchaa
open Go Go.RowKit Go.Shelf

def badL (letters n : Int) : Bool := decide (n < 0) || decide (letters ≤ n)
def ckL (l : La) (letters : Int) : Int :=
  if letters < 1 ∨ 8 < letters then 3
  else if 4000 < (l.h.length : Int) ∨ 4000 < (l.l.length : Int) then 2
  else if l.l.length = 0 then 1
  else if (anyB (badL letters) l.h || anyB (badL letters) l.l) = true then 5
  else 0
theorem ckL_3 {l : La} {letters : Int} (h : letters < 1 ∨ 8 < letters) : ckL l letters = 3 := by rw [ckL, if_pos h]
theorem ckL_2 {l : La} {letters : Int} (h : ¬ (letters < 1 ∨ 8 < letters)) (h2 : 4000 < (l.h.length : Int) ∨ 4000 < (l.l.length : Int)) : ckL l letters = 2 := by rw [ckL, if_neg h, if_pos h2]
theorem ckL_1 {l : La} {letters : Int} (h : ¬ (letters < 1 ∨ 8 < letters)) (h2 : ¬ (4000 < (l.h.length : Int) ∨ 4000 < (l.l.length : Int))) (h3 : l.l.length = 0) : ckL l letters = 1 := by rw [ckL, if_neg h, if_neg h2, if_pos h3]
theorem ckL_x {l : La} {letters : Int} (h : ¬ (letters < 1 ∨ 8 < letters)) (h2 : ¬ (4000 < (l.h.length : Int) ∨ 4000 < (l.l.length : Int))) (h3 : ¬ l.l.length = 0) :
    ckL l letters = if (anyB (badL letters) l.h || anyB (badL letters) l.l) = true then 5 else 0 := by rw [ckL, if_neg h, if_neg h2, if_neg h3]

theorem wordCheck1_ (letters : Int) (B : Nat) (w : World) (hc : w.cell? ⟨B, 0, none⟩ = some (.int .i64 letters)) (hB : B < w.heap.size) :
    PredV Try.prog 45 #[.pointer (some ⟨B, 0, none⟩)] (badL letters) w := by
  intro n W hW
  have hc' : W.cell? ⟨B, 0, none⟩ = some (.int .i64 letters) := (hW.cell (p := ⟨B, 0, none⟩) hB).trans hc
  clear hc hW
  simp only [List.append_toArray, List.cons_append, List.nil_append]
  go_enter Try.func45, Try.ntmps45
  go_wp2
  all_goals (go_ret; refine ⟨ret_bool ?_, Below.refl _ _⟩; unfold badL)
  · rfl
  · rw [decide_eq_true (by assumption)]; rfl
theorem wordCheckEnters : Enters Try.prog 45 := enters_of Try.func45 (by kernel_rfl) rfl

set_option maxRecDepth 100000 in
theorem wordCheck_ (A B : Option Addr) (ca cb : Nat) (l : La) (letters : Int) (w : World) (hh : Ints w 0 A ca l.h) (hl : Ints w 0 B cb l.l) :
    Calls Try.prog 20 #[.agg #[.slice A l.h.length ca, .slice B l.l.length cb], .int .i64 letters] w fun e w' => e = .returned (.int .i64 (ckL l letters)) ∧ Below w.heap.size w w' := by
  have h1 := hh.le
  have h2 := hh.max
  have h3 := hl.le
  have h4 := hl.max
  go_enter Try.func20, Try.ntmps20
  have hbA : Below w.heap.size w ((w.alloc (Obj.cells #[Value.slice A l.h.length ca, Value.slice B l.l.length cb] 26)).alloc (Obj.cells #[Value.int IntKind.i64 letters] 3)) := ((Below.refl _ _).alloc (Nat.le_refl _) _).alloc (by simp) _
  have HA := Lib.hid hbA
  clear hbA
  by_cases h3 : letters < 1 ∨ 8 < letters
  · have HF := Lib.hid (ckL_3 (l := l) h3)
    go_wp2_with fail
    all_goals (go_ret; exact ⟨ret_int HF.out.symm, HA.out⟩)
  by_cases h2 : 4000 < (l.h.length : Int) ∨ 4000 < (l.l.length : Int)
  · have HF := Lib.hid (ckL_2 h3 h2)
    go_wp2_with fail
    all_goals (go_ret; exact ⟨ret_int HF.out.symm, HA.out⟩)
  by_cases h1' : l.l.length = 0
  · have HF := Lib.hid (ckL_1 h3 h2 h1')
    have hz : ((l.l.length : Int) == 0) = true := by simp [h1']
    clear h1'
    go_wp2_with fail
    go_ret
    exact ⟨ret_int HF.out.symm, HA.out⟩
  have HF := Lib.hid (ckL_x h3 h2 h1')
  have hz : ((l.l.length : Int) == 0) = false := by simpa using h1'
  clear h1'
  go_wp2_with fail
  refine (ContainsFuncI_ _ _ _ _ _ (badL letters) _ (hh.below HA.out) wordCheckEnters (wordCheck1_ letters (w.heap.size + 1) _ (by go_simp) (by simp))).mono ?_
  rintro e w1 ⟨rfl, hb1⟩
  obtain ⟨hc1, hf1⟩ := bcell hb1
  have HB := Lib.hid hb1
  clear hb1
  have hs1 : w.heap.size + 1 < w1.heap.size := by have := HB.out.size; simp at this; omega
  have HW := Lib.hid (Below_on HA.out HB.out (by simp; omega))
  go_wp2_with fail
  · have hn : anyB (badL letters) l.h = true := by assumption
    go_ret
    exact ⟨ret_int (by rw [HF.out, hn]; simp), HW.out⟩
  · have hn : anyB (badL letters) l.h = false := by simpa using (by assumption : ¬ anyB (badL letters) l.h = true)
    refine (ContainsFuncI_ _ _ _ _ _ (badL letters) _ (hl.below HW.out) wordCheckEnters (wordCheck1_ letters (w.heap.size + 1) _ (by go_simp) hs1)).mono ?_
    rintro e w2 ⟨rfl, hb2⟩
    have HB2 := Lib.hid hb2
    clear hb2
    go_wp2
    all_goals (go_ret; refine ⟨ret_int (by rw [HF.out, hn]; simp [*]), Below_on HW.out HB2.out (by omega)⟩)
end Go.Proofs.Ytoglgeaiiipchaa

namespace Go.Proofs.Ytoglgeaiiipchaa
open Go Go.RowKit Go.Shelf

def atE (l : La) (letters i : Int) : Int := if ckL l letters = 0 then (if i < 0 then 3 else 0) else ckL l letters
def atL (l : La) (letters i : Int) : Int := if ckL l letters = 0 then (if i < 0 then 0 else l.at i.toNat) else 0
def IntsPost (w : World) (a b : Int) (e : Ending) (w' : World) : Prop := e = .returned (.tuple #[.int .i64 a, .int .i64 b]) ∧ Below w.heap.size w w'
theorem ret_ii {a a' b b' : Int} (h1 : a = a') (h2 : b = b') : Ending.returned (.tuple #[.int .i64 a, .int .i64 b]) = Ending.returned (.tuple #[.int .i64 a', .int .i64 b']) := by rw [h1, h2]
theorem ckL_ne {l : La} {letters : Int} (h : ckL l letters = 0) : l.l.length ≠ 0 := by
  unfold ckL at h
  split at h
  · simp at h
  · split at h
    · simp at h
    · split at h
      · simp at h
      · assumption

set_option maxRecDepth 100000 in
theorem LetterAtB_ (A B : Option Addr) (ca cb : Nat) (l : La) (i : Nat) (w : World) (hh : Ints w 0 A ca l.h) (hl : Ints w 0 B cb l.l) (hne : l.l.length ≠ 0) (hi : i ≤ 9223372036854775807) :
    Calls Try.prog 18 #[.agg #[.slice A l.h.length ca, .slice B l.l.length cb], .int .i64 i] w fun e w' => e = .returned (.int .i64 (l.at i)) ∧ Below w.heap.size w w' := by
  have h1 := hh.le
  have h2 := hh.max
  have h3 := hl.le
  have h4 := hl.max
  by_cases hlt : i < l.h.length
  · obtain ⟨b, o, rfl, _, hb, hc⟩ := Ints.at_ hh hlt
    have hfin : l.at i = l.h[i] := by simp [La.at, hlt]
    have HF := Lib.hid hfin
    clear hfin
    go_enter Try.func18, Try.ntmps18
    go_wp2
    go_ret
    exact ⟨ret_int HF.out.symm, (Below.refl _ _).alloc (Nat.le_refl _) _⟩
  · have hm : (i - l.h.length) % l.l.length < l.l.length := Nat.mod_lt _ (by omega)
    obtain ⟨b, o, rfl, _, hb, hc⟩ := Ints.at_ hl hm
    have hfin : l.at i = l.l[(i - l.h.length) % l.l.length] := by simp [La.at, hlt, hm]
    have HF := Lib.hid hfin
    clear hfin
    have e1 : ((i : Int) - (l.h.length : Int)) = ((i - l.h.length : Nat) : Int) := by omega
    have hz : ((l.l.length : Int) == 0) = false := by simpa using hne
    go_enter Try.func18, Try.ntmps18
    go_wp2
    go_quiet (fail)
    go_wp2
    go_ret
    exact ⟨ret_int HF.out.symm, below_drewN ((Below.refl _ _).alloc (Nat.le_refl _) _) _⟩

/-- the world in which a lasso stands in a variable -/
def laW (w : World) (A B : Option Addr) (ca cb : Nat) (l : La) : World := w.alloc (Obj.cells #[Value.slice A l.h.length ca, Value.slice B l.l.length cb] 26)
structure LaW (w W : World) (A B : Option Addr) (ca cb : Nat) (l : La) : Prop where
  below : Below w.heap.size w W
  size : w.heap.size < W.heap.size
  l0 : W.cell? ⟨w.heap.size, 0, none⟩ = some (.slice A l.h.length ca)
  l1 : W.cell? ⟨w.heap.size, 1, none⟩ = some (.slice B l.l.length cb)
theorem laW_is (w : World) (A B : Option Addr) (ca cb : Nat) (l : La) : LaW w (laW w A B ca cb l) A B ca cb l := by
  unfold laW
  refine ⟨by go_grown, by simp, ?_, ?_⟩ <;> go_simp

set_option maxRecDepth 100000 in
set_option maxHeartbeats 1000000 in
theorem At_ (A B : Option Addr) (ca cb : Nat) (l : La) (letters i : Int) (w : World) (hh : Ints w 0 A ca l.h) (hl : Ints w 0 B cb l.l) (hi : i ≤ 9223372036854775807) :
    Calls Try.prog 16 #[.agg #[.slice A l.h.length ca, .slice B l.l.length cb], .int .i64 letters, .int .i64 i] w (IntsPost w (atL l letters i) (atE l letters i)) := by
  have h1 := hh.le
  have h2 := hh.max
  have h3 := hl.le
  have h4 := hl.max
  have HH := Lib.hid hh
  have HL := Lib.hid hl
  have HW := Lib.hid (laW_is w A B ca cb l)
  have HCK := Lib.hid (wordCheck_ A B ca cb l letters (laW w A B ca cb l) (hh.below HW.out.below) (hl.below HW.out.below))
  have HV := Lib.hid (show atL l letters i = if ckL l letters = 0 then (if i < 0 then 0 else l.at i.toNat) else 0 from rfl)
  have HE := Lib.hid (show atE l letters i = if ckL l letters = 0 then (if i < 0 then 3 else 0) else ckL l letters from rfl)
  have HNE := Lib.hid (fun h => ckL_ne (l := l) (letters := letters) h)
  generalize atL l letters i = vL at *
  generalize atE l letters i = vE at *
  generalize ckL l letters = ck at *
  clear hh hl
  go_enter Try.func16, Try.ntmps16
  go_wp2_with fail
  refine HCK.out.mono ?_
  rintro e w1 ⟨rfl, hb1⟩
  have HB1 := Lib.hid (Below_on HW.out.below hb1 HW.out.below.size)
  have d0 := (cell_on3 hb1 (o := 0) HW.out.size).trans HW.out.l0
  have d1 := (cell_on3 hb1 (o := 1) HW.out.size).trans HW.out.l1
  have HH1 := Lib.hid ((HH.out).below HB1.out)
  have HL1 := Lib.hid ((HL.out).below HB1.out)
  clear hb1 HCK HW HH HL
  by_cases hc : ck = 0
  · subst hc
    have hne := HNE.out rfl
    have HV1 := HV.out
    have HE1 := HE.out
    rw [if_pos rfl] at HV1 HE1
    by_cases hi0 : i < 0
    · rw [if_pos hi0] at HV1 HE1
      subst HV1 HE1
      go_wp2_with fail
      go_ret2
      exact ⟨rfl, HB1.out⟩
    · rw [if_neg hi0] at HV1 HE1
      obtain ⟨i, rfl⟩ := Int.eq_ofNat_of_zero_le (Int.not_lt.1 hi0)
      subst HE1
      have HVV := Lib.hid HV1
      clear HV1
      by_cases hlt : i < l.h.length
      · obtain ⟨b, o, rfl, _, hb, hcell⟩ := Ints.at_ HH1.out hlt
        have HF : Hid (vL = l.h[i]) := by
          show vL = _
          rw [HVV.out]
          simp [La.at, hlt]
        go_wp2_with fail
        go_ret2
        exact ⟨ret_ii HF.out.symm rfl, HB1.out⟩
      · have hm : (i - l.h.length) % l.l.length < l.l.length := Nat.mod_lt _ (by omega)
        obtain ⟨b, o, rfl, _, hb, hcell⟩ := Ints.at_ HL1.out hm
        have HF : Hid (vL = l.l[(i - l.h.length) % l.l.length]) := by
          show vL = _
          rw [HVV.out]
          simp [La.at, hlt, hm]
        have e1 : ((i : Int) - (l.h.length : Int)) = ((i - l.h.length : Nat) : Int) := by omega
        have hz : ((l.l.length : Int) == 0) = false := by simpa using hne
        go_wp2_with fail
        go_quiet (fail)
        go_wp2_with fail
        go_ret2
        exact ⟨ret_ii HF.out.symm rfl, below_drewN HB1.out _⟩
  · have HV1 := HV.out
    have HE1 := HE.out
    rw [if_neg hc] at HV1 HE1
    subst HV1 HE1
    have hc2 : (vE != 0) = true := by simpa using hc
    clear hc
    go_wp2_with fail
    go_ret2
    exact ⟨rfl, HB1.out⟩
end Go.Proofs.Ytoglgeaiiipchaa
