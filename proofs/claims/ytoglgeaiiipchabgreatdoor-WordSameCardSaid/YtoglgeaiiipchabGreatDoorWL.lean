/- Walks: word.Check. -/
import Derived.Test.YtoglgeaiiipchabGreatDoorWC
namespace Go.Proofs.YtoglgeaiiipchabGreatDoor
open Go Go.RowKit Go.Shelf

def badL (letters n : Int) : Bool := decide (n < 0) || decide (letters ≤ n)
def ckL (l : La) (letters : Int) : Int :=
  if letters < 1 ∨ 8 < letters then 3
  else if 4000 < (l.h.length : Int) ∨ 4000 < (l.l.length : Int) then 2
  else if l.l.length = 0 then 1
  else if (anyB (badL letters) l.h || anyB (badL letters) l.l) = true then 5
  else 0
theorem ckL_3 {l : La} {letters : Int} (h : letters < 1 ∨ 8 < letters) : ckL l letters = 3 := by rw [ckL, if_pos h]
theorem ckL_2 {l : La} {letters : Int} (h : ¬ (letters < 1 ∨ 8 < letters)) (h2 : 4000 < (l.h.length : Int) ∨ 4000 < (l.l.length : Int)) : ckL l letters = 2 := by rw [ckL, if_neg h, if_pos h2]
theorem ckL_1 {l : La} {letters : Int} (h : ¬ (letters < 1 ∨ 8 < letters)) (h2 : ¬ (4000 < (l.h.length : Int) ∨ 4000 < (l.l.length : Int))) (h3 : l.l.length = 0) : ckL l letters = 1 := by rw [ckL, if_neg h, if_neg h2, if_pos h3]
theorem ckL_x {l : La} {letters : Int} (h : ¬ (letters < 1 ∨ 8 < letters)) (h2 : ¬ (4000 < (l.h.length : Int) ∨ 4000 < (l.l.length : Int))) (h3 : ¬ l.l.length = 0) :
    ckL l letters = if (anyB (badL letters) l.h || anyB (badL letters) l.l) = true then 5 else 0 := by rw [ckL, if_neg h, if_neg h2, if_neg h3]

theorem wordCheck1_ (letters : Int) (B : Nat) (w : World) (hc : w.cell? ⟨B, 0, none⟩ = some (.int .i64 letters)) (hB : B < w.heap.size) :
    PredV Tryz.prog 60 #[.pointer (some ⟨B, 0, none⟩)] (badL letters) w := by
  intro n W hW
  have hc' : W.cell? ⟨B, 0, none⟩ = some (.int .i64 letters) := (hW.cell (p := ⟨B, 0, none⟩) hB).trans hc
  clear hc hW
  simp only [List.append_toArray, List.cons_append, List.nil_append]
  go_enter Tryz.func60, Tryz.ntmps60
  go_wp2
  all_goals (go_ret; refine ⟨ret_bool ?_, Below.refl _ _⟩; unfold badL)
  · rfl
  · rw [decide_eq_true (by assumption)]; rfl
theorem wordCheckEnters : Enters Tryz.prog 60 := enters_of Tryz.func60 (by kernel_rfl) rfl

set_option maxRecDepth 100000 in
theorem wordCheck_ (A B : Option Addr) (ca cb : Nat) (l : La) (letters : Int) (w : World) (hh : Ints w 0 A ca l.h) (hl : Ints w 0 B cb l.l) :
    Calls Tryz.prog 27 #[.agg #[.slice A l.h.length ca, .slice B l.l.length cb], .int .i64 letters] w fun e w' => e = .returned (.int .i64 (ckL l letters)) ∧ Below w.heap.size w w' := by
  have h1 := hh.le
  have h2 := hh.max
  have h3 := hl.le
  have h4 := hl.max
  go_enter Tryz.func27, Tryz.ntmps27
  have hbA : Below w.heap.size w ((w.alloc (Obj.cells #[Value.slice A l.h.length ca, Value.slice B l.l.length cb] 28)).alloc (Obj.cells #[Value.int IntKind.i64 letters] 3)) := ((Below.refl _ _).alloc (Nat.le_refl _) _).alloc (by simp) _
  have HA := Lib.hid hbA
  clear hbA
  by_cases h3 : letters < 1 ∨ 8 < letters
  · have HF := Lib.hid (ckL_3 (l := l) h3)
    go_wp2_with fail
    all_goals (go_ret; exact ⟨ret_int HF.out.symm, HA.out⟩)
  by_cases h2 : 4000 < (l.h.length : Int) ∨ 4000 < (l.l.length : Int)
  · have HF := Lib.hid (ckL_2 h3 h2)
    go_wp2_with fail
    all_goals (go_ret; exact ⟨ret_int HF.out.symm, HA.out⟩)
  by_cases h1' : l.l.length = 0
  · have HF := Lib.hid (ckL_1 h3 h2 h1')
    have hz : ((l.l.length : Int) == 0) = true := by simp [h1']
    clear h1'
    go_wp2_with fail
    go_ret
    exact ⟨ret_int HF.out.symm, HA.out⟩
  have HF := Lib.hid (ckL_x h3 h2 h1')
  have hz : ((l.l.length : Int) == 0) = false := by simpa using h1'
  clear h1'
  go_wp2_with fail
  refine (ContainsFuncI_ _ _ _ _ _ (badL letters) _ (hh.below HA.out) wordCheckEnters (wordCheck1_ letters (w.heap.size + 1) _ (by go_simp) (by simp))).mono ?_
  rintro e w1 ⟨rfl, hb1⟩
  obtain ⟨hc1, hf1⟩ := bcell hb1
  have HB := Lib.hid hb1
  clear hb1
  have hs1 : w.heap.size + 1 < w1.heap.size := by have := HB.out.size; simp at this; omega
  have HW := Lib.hid (Below_on HA.out HB.out (by simp; omega))
  go_wp2_with fail
  · have hn : anyB (badL letters) l.h = true := by assumption
    go_ret
    exact ⟨ret_int (by rw [HF.out, hn]; simp), HW.out⟩
  · have hn : anyB (badL letters) l.h = false := by simpa using (by assumption : ¬ anyB (badL letters) l.h = true)
    refine (ContainsFuncI_ _ _ _ _ _ (badL letters) _ (hl.below HW.out) wordCheckEnters (wordCheck1_ letters (w.heap.size + 1) _ (by go_simp) hs1)).mono ?_
    rintro e w2 ⟨rfl, hb2⟩
    have HB2 := Lib.hid hb2
    clear hb2
    go_wp2
    all_goals (go_ret; refine ⟨ret_int (by rw [HF.out, hn]; simp [*]), Below_on HW.out HB2.out (by omega)⟩)
end Go.Proofs.YtoglgeaiiipchabGreatDoor
