/- Readings of an automaton; the world in which one stands in a variable. -/
import Derived.Test.YtoglgeaiiipchabDoorPZA
import Derived.Test.YtoglgeaiiipchabDoorQB
import Derived.Test.YtoglgeaiiipchabDoorBtw
namespace Go.Proofs.YtoglgeaiiipchabDoor
open Go Go.RowKit Go.Sort

structure AuRd (w : World) (lo : Nat) (a : Au) (A B C : Option Addr) (ca cb cc : Nat) : Prop where
  fs : Ints w lo A ca a.fs
  gs : Bools w lo B cb a.gs
  ss : Stps w lo C cc a.ss
theorem AuRd.below {w w' : World} {lo : Nat} {a : Au} {A B C : Option Addr} {ca cb cc : Nat} (h : AuRd w lo a A B C ca cb cc) (hb : Below w.heap.size w w') : AuRd w' lo a A B C ca cb cc :=
  ⟨h.fs.below hb, h.gs.below hb, h.ss.below hb⟩
theorem AuRd.low {w : World} {lo lo' : Nat} {a : Au} {A B C : Option Addr} {ca cb cc : Nat} (h : AuRd w lo a A B C ca cb cc) (hl : lo' ≤ lo) : AuRd w lo' a A B C ca cb cc :=
  ⟨h.fs.low hl, h.gs.low hl, h.ss.low hl⟩
def auW (w : World) (a : Au) (A B C : Option Addr) (ca cb cc : Nat) : World :=
  w.alloc (Obj.cells #[.int .i64 a.st, .int .i64 a.le, .slice A a.fs.length ca, .slice B a.gs.length cb, .slice C a.ss.length cc] 26)
structure AuW (w W : World) (a : Au) (A B C : Option Addr) (ca cb cc : Nat) : Prop where
  below : Below w.heap.size w W
  size : W.heap.size = w.heap.size + 1
  c0 : W.cell? ⟨w.heap.size, 0, none⟩ = some (.int .i64 a.st)
  c1 : W.cell? ⟨w.heap.size, 1, none⟩ = some (.int .i64 a.le)
  c2 : W.cell? ⟨w.heap.size, 2, none⟩ = some (.slice A a.fs.length ca)
  c3 : W.cell? ⟨w.heap.size, 3, none⟩ = some (.slice B a.gs.length cb)
  c4 : W.cell? ⟨w.heap.size, 4, none⟩ = some (.slice C a.ss.length cc)
theorem auW_is (w : World) (a : Au) (A B C : Option Addr) (ca cb cc : Nat) : AuW w (auW w a A B C ca cb cc) a A B C ca cb cc := by
  unfold auW
  refine ⟨by go_grown, by simp, ?_, ?_, ?_, ?_, ?_⟩ <;> go_simp
/-- a block V that holds an automaton -/
structure AuAt (W : World) (V : Nat) (a : Au) (A B C : Option Addr) (ca cb cc : Nat) : Prop where
  lt : V < W.heap.size
  c0 : W.cell? ⟨V, 0, none⟩ = some (.int .i64 a.st)
  c1 : W.cell? ⟨V, 1, none⟩ = some (.int .i64 a.le)
  c2 : W.cell? ⟨V, 2, none⟩ = some (.slice A a.fs.length ca)
  c3 : W.cell? ⟨V, 3, none⟩ = some (.slice B a.gs.length cb)
  c4 : W.cell? ⟨V, 4, none⟩ = some (.slice C a.ss.length cc)
theorem AuAt.below {W W' : World} {V n : Nat} {a : Au} {A B C : Option Addr} {ca cb cc : Nat} (h : AuAt W V a A B C ca cb cc) (hb : Below n W W') (hn : V < n) : AuAt W' V a A B C ca cb cc :=
  ⟨Nat.lt_of_lt_of_le h.lt hb.size, (hb.cell (p := ⟨V, 0, none⟩) hn).trans h.c0, (hb.cell (p := ⟨V, 1, none⟩) hn).trans h.c1, (hb.cell (p := ⟨V, 2, none⟩) hn).trans h.c2, (hb.cell (p := ⟨V, 3, none⟩) hn).trans h.c3, (hb.cell (p := ⟨V, 4, none⟩) hn).trans h.c4⟩
theorem AuW.at {w W : World} {a : Au} {A B C : Option Addr} {ca cb cc : Nat} (h : AuW w W a A B C ca cb cc) : AuAt W w.heap.size a A B C ca cb cc := ⟨by have := h.size; omega, h.c0, h.c1, h.c2, h.c3, h.c4⟩
theorem between_b (n a b : Int) (w : World) : Calls Tryd.prog 23 #[.int .i64 n, .int .i64 a, .int .i64 b] w fun e w' => e = .returned (.bool (btw n a b)) ∧ Below w.heap.size w w' :=
  (between_ n a b w).mono fun _ _ ⟨he, hw⟩ => ⟨he, by rw [← hw]; exact Below.refl _ _⟩
set_option maxRecDepth 100000 in
theorem Less_ (s t : Stp) (w : World) : Calls Tryd.prog 24 #[.agg #[.int .i64 s.f, .int .i64 s.l, .int .i64 s.t], .agg #[.int .i64 t.f, .int .i64 t.l, .int .i64 t.t]] w fun e w' => e = .returned (.bool (stpLt s t)) ∧ Below w.heap.size w w' := by
  have HV := Lib.hid (show stpLt s t = if s.f = t.f then (if s.l = t.l then decide (s.t < t.t) else decide (s.l < t.l)) else decide (s.f < t.f) from rfl)
  generalize stpLt s t = v at *
  by_cases h1 : s.f = t.f
  · have h1' : (s.f != t.f) = false := by simp [h1]
    by_cases h2 : s.l = t.l
    · have h2' : (s.l != t.l) = false := by simp [h2]
      have HF : Hid (v = decide (s.t < t.t)) := by show v = _; rw [HV.out, if_pos h1, if_pos h2]
      clear h1 h2
      go_enter Tryd.func24, Tryd.ntmps24
      go_wp2_with fail
      go_ret
      exact ⟨ret_bool HF.out.symm, by go_grown⟩
    · have h2' : (s.l != t.l) = true := by simpa using h2
      have HF : Hid (v = decide (s.l < t.l)) := by show v = _; rw [HV.out, if_pos h1, if_neg h2]
      clear h1 h2
      go_enter Tryd.func24, Tryd.ntmps24
      go_wp2_with fail
      go_ret
      exact ⟨ret_bool HF.out.symm, by go_grown⟩
  · have h1' : (s.f != t.f) = true := by simpa using h1
    have HF : Hid (v = decide (s.f < t.f)) := by show v = _; rw [HV.out, if_neg h1]
    clear h1
    go_enter Tryd.func24, Tryd.ntmps24
    go_wp2_with fail
    go_ret
    exact ⟨ret_bool HF.out.symm, by go_grown⟩
end Go.Proofs.YtoglgeaiiipchabDoor
