/- Walks: the reference's SameLasso. -/
import Derived.Test.YtoglgeaiiipchaaWTu
namespace Go.Proofs.Ytoglgeaiiipchaa
open Go Go.RowKit Go.Shelf

theorem cell_on3 {B : Nat} {w w' : World} (hb : Below B w w') {b o : Nat} (h : b < B) : w'.cell? ⟨b, o, none⟩ = w.cell? ⟨b, o, none⟩ := hb.cell (p := ⟨b, o, none⟩) h
/-- two lassos in variables -/
def la2W (w : World) (A B C D : Option Addr) (ca cb cc cd : Nat) (l m : La) : World :=
  (w.alloc (Obj.cells #[Value.slice A l.h.length ca, Value.slice B l.l.length cb] 26)).alloc (Obj.cells #[Value.slice C m.h.length cc, Value.slice D m.l.length cd] 26)
structure La2W (w W : World) (A B C D : Option Addr) (ca cb cc cd : Nat) (l m : La) : Prop where
  below : Below w.heap.size w W
  size : W.heap.size = w.heap.size + 1 + 1
  l0 : W.cell? ⟨w.heap.size, 0, none⟩ = some (.slice A l.h.length ca)
  l1 : W.cell? ⟨w.heap.size, 1, none⟩ = some (.slice B l.l.length cb)
  m0 : W.cell? ⟨w.heap.size + 1, 0, none⟩ = some (.slice C m.h.length cc)
  m1 : W.cell? ⟨w.heap.size + 1, 1, none⟩ = some (.slice D m.l.length cd)
theorem la2W_is (w : World) (A B C D : Option Addr) (ca cb cc cd : Nat) (l m : La) : La2W w (la2W w A B C D ca cb cc cd l m) A B C D ca cb cc cd l m := by
  unfold la2W
  refine ⟨by go_grown, by simp, ?_, ?_, ?_, ?_⟩ <;> go_simp

set_option maxRecDepth 100000 in
set_option maxHeartbeats 1000000 in
theorem SameLasso_ (A B C D : Option Addr) (ca cb cc cd : Nat) (l m : La) (w : World) (hh : Ints w 0 A ca l.h) (hl : Ints w 0 B cb l.l) (gh : Ints w 0 C cc m.h) (gl : Ints w 0 D cd m.l) :
    Calls Try.prog 21 #[.agg #[.slice A l.h.length ca, .slice B l.l.length cb], .agg #[.slice C m.h.length cc, .slice D m.l.length cd]] w (BoolPost w (decide (l = m))) := by
  have HW := Lib.hid (la2W_is w A B C D ca cb cc cd l m)
  have HH := Lib.hid (hh.below HW.out.below)
  have HL := Lib.hid (hl.below HW.out.below)
  have GH := Lib.hid (gh.below HW.out.below)
  have GL := Lib.hid (gl.below HW.out.below)
  have HD : Hid (decide (l = m) = (decide (l.h = m.h) && decide (l.l = m.l))) := by
    show decide (l = m) = _
    cases l
    cases m
    simp
  generalize decide (l = m) = vv at *
  clear hh hl gh gl
  go_enter Try.func21, Try.ntmps21
  go_wp2_with fail
  change Calls _ _ _ (la2W w A B C D ca cb cc cd l m) _
  generalize la2W w A B C D ca cb cc cd l m = W0 at *
  have hs := HW.out.size
  refine (SameInts_ A C ca cc l.h m.h W0 HH.out GH.out).mono ?_
  rintro e w1 ⟨rfl, hb1⟩
  have HB1 := Lib.hid (Below_on HW.out.below hb1 HW.out.below.size)
  have c1 := (cell_on3 hb1 (b := w.heap.size) (o := 1) (by omega)).trans HW.out.l1
  have c2 := (cell_on3 hb1 (b := w.heap.size + 1) (o := 1) (by omega)).trans HW.out.m1
  have HS := Lib.hid (SameInts_ B D cb cd l.l m.l w1 (HL.out.below hb1) (GL.out.below hb1))
  clear hb1 hs
  by_cases h1 : l.h = m.h
  · have h1' : decide (l.h = m.h) = true := decide_eq_true h1
    rw [h1'] at HD ⊢
    clear h1 h1'
    go_wp2_with fail
    refine HS.out.mono ?_
    rintro e w2 ⟨rfl, hb2⟩
    have HB2 := Lib.hid (Below_on HB1.out hb2 HB1.out.size)
    have HF : Hid (vv = decide (l.l = m.l)) := by
      show vv = _
      rw [HD.out]
      simp
    generalize decide (l.l = m.l) = v2 at *
    clear hb2
    go_wp2_with fail
    go_ret
    exact ⟨ret_bool HF.out.symm, HB2.out⟩
  · have h1' : decide (l.h = m.h) = false := decide_eq_false h1
    rw [h1'] at HD ⊢
    have HF : Hid (vv = false) := by
      show vv = _
      rw [HD.out]
      rfl
    clear h1 h1'
    go_wp2_with fail
    go_ret
    exact ⟨ret_bool HF.out.symm, HB1.out⟩
end Go.Proofs.Ytoglgeaiiipchaa
