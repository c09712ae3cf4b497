/- Walks: the reference's CheckAuto. -/
import Derived.Test.YtoglgeaiiipchaaLBTM1
import Derived.Lib.QuietBelow
import Derived.Test.YtoglgeaiiipchaaLBTM2
import Derived.Test.YtoglgeaiiipchaaProg
set_option linter.unusedSimpArgs false
set_option linter.unusedVariables false
namespace Go.Proofs.Ytoglgeaiiipchaa
open Go Go.RowKit Go.Sort

/-- a callee's contract that ends in Below, laid ahead of such a region -/
theorem regrown_call {P : Program} {f : FuncId} {args : Array Value} {w : World} {v : Value} (h : ∀ W, Below w.heap.size w W → Calls P f args W fun e w' => e = .returned v ∧ Below W.heap.size W w') :
    ∀ d os, Calls P f args (grow (redrawn w d) os) fun e w'' => e = .returned v ∧ ∃ p : Regrown, w'' = grow (redrawn w p.d) p.os := fun d os => Calls.regrown_of (h _ (below_regrown w d os))
/-- the world behind -/
theorem regrown_on {w0 w : World} {B : Nat} (h : Below B w0 w) (hB : B ≤ w.heap.size) (d : Nat) (os : Array Obj) : Below B w0 (grow (redrawn w d) os) := h.trans ((below_regrown w d os).mono hB)
end Go.Proofs.Ytoglgeaiiipchaa

namespace Go.Proofs.Ytoglgeaiiipchaa
open Go Go.RowKit

theorem between_ (n a b : Int) (w : World) : Calls Try.prog 36 #[.int .i64 n, .int .i64 a, .int .i64 b] w fun e w' => e = .returned (.bool (btw n a b)) ∧ w = w' := by
  go_enter Try.func36, Try.ntmps36
  go_wp2
  all_goals (go_ret; refine ⟨ret_bool ?_, rfl⟩; unfold btw; simp [*])
  omega
theorem getD_at {xs : List Int} {i : Nat} (h : i < xs.length) : xs.getD i 0 = xs[i] := by rw [List.getD_eq_getElem?_getD, List.getElem?_eq_getElem h]; rfl

def BoolPost (w : World) (b : Bool) (e : Ending) (w' : World) : Prop := e = .returned (.bool b) ∧ Below w.heap.size w w'
theorem cell_on3 {B : Nat} {w w' : World} (hb : Below B w w') {b o : Nat} (h : b < B) : w'.cell? ⟨b, o, none⟩ = w.cell? ⟨b, o, none⟩ := hb.cell (p := ⟨b, o, none⟩) h
end Go.Proofs.Ytoglgeaiiipchaa

namespace Go.Proofs.Ytoglgeaiiipchaa
open Go Go.RowKit Go.Sort

structure AuRd (w : World) (lo : Nat) (a : Au) (A B C : Option Addr) (ca cb cc : Nat) : Prop where
  fs : Ints w lo A ca a.fs
  gs : Bools w lo B cb a.gs
  ss : Stps w lo C cc a.ss
theorem AuRd.below {w w' : World} {lo : Nat} {a : Au} {A B C : Option Addr} {ca cb cc : Nat} (h : AuRd w lo a A B C ca cb cc) (hb : Below w.heap.size w w') : AuRd w' lo a A B C ca cb cc :=
  ⟨h.fs.below hb, h.gs.below hb, h.ss.below hb⟩
theorem AuRd.low {w : World} {lo lo' : Nat} {a : Au} {A B C : Option Addr} {ca cb cc : Nat} (h : AuRd w lo a A B C ca cb cc) (hl : lo' ≤ lo) : AuRd w lo' a A B C ca cb cc :=
  ⟨h.fs.low hl, h.gs.low hl, h.ss.low hl⟩
def auW (w : World) (a : Au) (A B C : Option Addr) (ca cb cc : Nat) : World :=
  w.alloc (Obj.cells #[.int .i64 a.st, .int .i64 a.le, .slice A a.fs.length ca, .slice B a.gs.length cb, .slice C a.ss.length cc] 49)
structure AuW (w W : World) (a : Au) (A B C : Option Addr) (ca cb cc : Nat) : Prop where
  below : Below w.heap.size w W
  size : W.heap.size = w.heap.size + 1
  c0 : W.cell? ⟨w.heap.size, 0, none⟩ = some (.int .i64 a.st)
  c1 : W.cell? ⟨w.heap.size, 1, none⟩ = some (.int .i64 a.le)
  c2 : W.cell? ⟨w.heap.size, 2, none⟩ = some (.slice A a.fs.length ca)
  c3 : W.cell? ⟨w.heap.size, 3, none⟩ = some (.slice B a.gs.length cb)
  c4 : W.cell? ⟨w.heap.size, 4, none⟩ = some (.slice C a.ss.length cc)
theorem auW_is (w : World) (a : Au) (A B C : Option Addr) (ca cb cc : Nat) : AuW w (auW w a A B C ca cb cc) a A B C ca cb cc := by
  unfold auW
  refine ⟨by go_grown, by simp, ?_, ?_, ?_, ?_, ?_⟩ <;> go_simp
/-- a block V that holds an automaton -/
structure AuAt (W : World) (V : Nat) (a : Au) (A B C : Option Addr) (ca cb cc : Nat) : Prop where
  lt : V < W.heap.size
  c0 : W.cell? ⟨V, 0, none⟩ = some (.int .i64 a.st)
  c1 : W.cell? ⟨V, 1, none⟩ = some (.int .i64 a.le)
  c2 : W.cell? ⟨V, 2, none⟩ = some (.slice A a.fs.length ca)
  c3 : W.cell? ⟨V, 3, none⟩ = some (.slice B a.gs.length cb)
  c4 : W.cell? ⟨V, 4, none⟩ = some (.slice C a.ss.length cc)
theorem AuAt.below {W W' : World} {V n : Nat} {a : Au} {A B C : Option Addr} {ca cb cc : Nat} (h : AuAt W V a A B C ca cb cc) (hb : Below n W W') (hn : V < n) : AuAt W' V a A B C ca cb cc :=
  ⟨Nat.lt_of_lt_of_le h.lt hb.size, (hb.cell (p := ⟨V, 0, none⟩) hn).trans h.c0, (hb.cell (p := ⟨V, 1, none⟩) hn).trans h.c1, (hb.cell (p := ⟨V, 2, none⟩) hn).trans h.c2, (hb.cell (p := ⟨V, 3, none⟩) hn).trans h.c3, (hb.cell (p := ⟨V, 4, none⟩) hn).trans h.c4⟩
theorem AuW.at {w W : World} {a : Au} {A B C : Option Addr} {ca cb cc : Nat} (h : AuW w W a A B C ca cb cc) : AuAt W w.heap.size a A B C ca cb cc := ⟨by have := h.size; omega, h.c0, h.c1, h.c2, h.c3, h.c4⟩
theorem between_b (n a b : Int) (w : World) : Calls Try.prog 36 #[.int .i64 n, .int .i64 a, .int .i64 b] w fun e w' => e = .returned (.bool (btw n a b)) ∧ Below w.heap.size w w' :=
  (between_ n a b w).mono fun _ _ ⟨he, hw⟩ => ⟨he, by rw [← hw]; exact Below.refl _ _⟩
set_option maxRecDepth 100000 in
theorem Less_ (s t : Stp) (w : World) : Calls Try.prog 52 #[.agg #[.int .i64 s.f, .int .i64 s.l, .int .i64 s.t], .agg #[.int .i64 t.f, .int .i64 t.l, .int .i64 t.t]] w fun e w' => e = .returned (.bool (stpLt s t)) ∧ Below w.heap.size w w' := by
  have HV := Lib.hid (show stpLt s t = if s.f = t.f then (if s.l = t.l then decide (s.t < t.t) else decide (s.l < t.l)) else decide (s.f < t.f) from rfl)
  generalize stpLt s t = v at *
  by_cases h1 : s.f = t.f
  · have h1' : (s.f != t.f) = false := by simp [h1]
    by_cases h2 : s.l = t.l
    · have h2' : (s.l != t.l) = false := by simp [h2]
      have HF : Hid (v = decide (s.t < t.t)) := by show v = _; rw [HV.out, if_pos h1, if_pos h2]
      clear h1 h2
      go_enter Try.func52, Try.ntmps52
      go_wp2_with fail
      go_ret
      exact ⟨ret_bool HF.out.symm, by go_grown⟩
    · have h2' : (s.l != t.l) = true := by simpa using h2
      have HF : Hid (v = decide (s.l < t.l)) := by show v = _; rw [HV.out, if_pos h1, if_neg h2]
      clear h1 h2
      go_enter Try.func52, Try.ntmps52
      go_wp2_with fail
      go_ret
      exact ⟨ret_bool HF.out.symm, by go_grown⟩
  · have h1' : (s.f != t.f) = true := by simpa using h1
    have HF : Hid (v = decide (s.f < t.f)) := by show v = _; rw [HV.out, if_neg h1]
    clear h1
    go_enter Try.func52, Try.ntmps52
    go_wp2_with fail
    go_ret
    exact ⟨ret_bool HF.out.symm, by go_grown⟩
end Go.Proofs.Ytoglgeaiiipchaa

namespace Go.Proofs.Ytoglgeaiiipchaa
open Go Go.RowKit Go.Sort

def okR (a : Au) : Prop := (!btw a.st 1 300 || !btw a.le 1 8) = false
theorem ckA_3 {a : Au} (h : (!btw a.st 1 300 || !btw a.le 1 8) = true) : ckA a = 3 := by unfold ckA; rw [if_pos h]
theorem ckA_1 {a : Au} (h : okR a) (h1 : (a.gs.length : Int) ≠ a.st) : ckA a = 1 := by unfold ckA; rw [if_neg (by rw [h]; decide), if_pos h1]
theorem ckA_2 {a : Au} (h : okR a) (h1 : (a.gs.length : Int) = a.st) (h2 : 6000 < (a.ss.length : Int)) : ckA a = 2 := by unfold ckA; rw [if_neg (by rw [h]; decide), if_neg (by omega), if_pos h2]
theorem ckA_5 {a : Au} (h : okR a) (h1 : (a.gs.length : Int) = a.st) (h2 : ¬ 6000 < (a.ss.length : Int)) (h3 : fsBad a.st a.fs = true) : ckA a = 5 := by unfold ckA; rw [if_neg (by rw [h]; decide), if_neg (by omega), if_neg h2, if_pos h3]
theorem ckA_4 {a : Au} (h : okR a) (h1 : (a.gs.length : Int) = a.st) (h2 : ¬ 6000 < (a.ss.length : Int)) (h3 : fsBad a.st a.fs = false) (h4 : fsDown a.fs (a.fs.length - 1) 1 = true) : ckA a = 4 := by unfold ckA; rw [if_neg (by rw [h]; decide), if_neg (by omega), if_neg h2, if_neg (by rw [h3]; decide), if_pos h4]
theorem ckA_S {a : Au} (h : okR a) (h1 : (a.gs.length : Int) = a.st) (h2 : ¬ 6000 < (a.ss.length : Int)) (h3 : fsBad a.st a.fs = false) (h4 : fsDown a.fs (a.fs.length - 1) 1 = false) : ckA a = ckS a a.ss.length 0 := by unfold ckA; rw [if_neg (by rw [h]; decide), if_neg (by omega), if_neg h2, if_neg (by rw [h3]; decide), if_neg (by rw [h4]; decide)]
theorem fsBad_at {st : Int} {fs : List Int} {k : Nat} (hk : k < fs.length) (h : btw fs[k] 0 (st - 1) = false) : fsBad st fs = true := List.any_eq_true.2 ⟨_, List.getElem_mem hk, by rw [h]; rfl⟩
theorem fsBad_none {st : Int} {fs : List Int} (h : ∀ j, (hj : j < fs.length) → btw fs[j] 0 (st - 1) = true) : fsBad st fs = false := by
  cases e : fsBad st fs with
  | false => rfl
  | true =>
    obtain ⟨x, hx, hb⟩ := List.any_eq_true.1 e
    obtain ⟨j, hj, rfl⟩ := List.getElem_of_mem hx
    rw [h j hj] at hb
    cases hb
/-- a step in a variable -/
def stW (w : World) (s : Stp) : World := w.alloc (Obj.cells #[.int .i64 s.f, .int .i64 s.l, .int .i64 s.t] 90)
structure StW (w W : World) (s : Stp) (G : Nat) : Prop where
  below : Below w.heap.size w W
  size : W.heap.size = G + 1
  c0 : W.cell? ⟨G, 0, none⟩ = some (.int .i64 s.f)
  c1 : W.cell? ⟨G, 1, none⟩ = some (.int .i64 s.l)
  c2 : W.cell? ⟨G, 2, none⟩ = some (.int .i64 s.t)
theorem stW_is (w : World) (s : Stp) : StW w (stW w s) s w.heap.size := by
  unfold stW
  refine ⟨by go_grown, by simp, ?_, ?_, ?_⟩ <;> go_simp
def IntB (w : World) (n : Int) (e : Ending) (w' : World) : Prop := e = .returned (.int .i64 n) ∧ Below w.heap.size w w'

set_option maxRecDepth 100000 in
set_option maxHeartbeats 4000000 in
theorem CheckAuto_ (a : Au) (A B C : Option Addr) (ca cb cc : Nat) (w : World) (hr : AuRd w 0 a A B C ca cb cc) :
    Calls Try.prog 23 #[.agg #[.int .i64 a.st, .int .i64 a.le, .slice A a.fs.length ca, .slice B a.gs.length cb, .slice C a.ss.length cc]] w (IntB w (ckA a)) := by
  have HW := Lib.hid (auW_is w a A B C ca cb cc)
  have HR := Lib.hid (hr.below HW.out.below)
  have l1 := hr.fs.le
  have l2 := hr.fs.max
  have l3 := hr.gs.le
  have l4 := hr.gs.max
  have l5 := hr.ss.le
  have l6 := hr.ss.max
  clear hr
  go_enter Try.func23, Try.ntmps23
  obtain ⟨b1, hb1⟩ : ∃ b, b = btw a.st 1 300 := ⟨_, rfl⟩
  obtain ⟨b2, hb2⟩ : ∃ b, b = btw a.le 1 8 := ⟨_, rfl⟩
  have K1 := Lib.hid (fun W => between_b a.st 1 300 W)
  have K2 := Lib.hid (fun W => between_b a.le 1 8 W)
  rw [← hb1] at K1
  rw [← hb2] at K2
  obtain ⟨ck, hck⟩ : ∃ c, c = ckA a := ⟨_, rfl⟩
  rw [← hck]
  have HCK := Lib.hid hck
  have H1 := Lib.hid hb1
  have H2 := Lib.hid hb2
  clear hck hb1 hb2
  go_wp2_with fail
  change Calls _ _ _ (auW w a A B C ca cb cc) _
  generalize auW w a A B C ca cb cc = W0 at *
  have HA := Lib.hid HW.out.at
  obtain ⟨V, hV⟩ : ∃ V, V = w.heap.size := ⟨_, rfl⟩
  rw [← hV] at HA ⊢
  have HBW : Hid (Below w.heap.size w W0) := HW.out.below
  have HVV := Lib.hid hV
  have hV0 := HA.out.lt
  clear hV HW
  refine (K1.out _).mono ?_
  rintro e w1 ⟨rfl, hx1⟩
  have HB1 := Lib.hid hx1
  obtain ⟨_, c0, c1, c2, c3, c4⟩ := HA.out.below hx1 hV0
  clear hx1
  cases b1 with
  | false =>
    have HF : Hid (ck = 3) := by show ck = 3; rw [HCK.out]; exact ckA_3 (by rw [← H1.out]; rfl)
    go_wp2_with fail
    go_ret
    exact ⟨ret_int HF.out.symm, Below_on HBW.out HB1.out HBW.out.size⟩
  | true =>
    go_wp2_with fail
    refine (K2.out _).mono ?_
    rintro e w2 ⟨rfl, hx2⟩
    clear c0 c1 c2 c3 c4
    have HB2 : Hid (Below W0.heap.size W0 w2) := Below_on HB1.out hx2 HB1.out.size
    obtain ⟨_, c0, c1, c2, c3, c4⟩ := HA.out.below HB2.out hV0
    clear hx2
    cases b2 with
    | false =>
      have HF : Hid (ck = 3) := by show ck = 3; rw [HCK.out]; exact ckA_3 (by rw [← H1.out, ← H2.out]; rfl)
      go_wp2_with fail
      go_ret
      exact ⟨ret_int HF.out.symm, Below_on HBW.out HB2.out HBW.out.size⟩
    | true =>
      have HOK : Hid (okR a) := by show (_ || _) = false; rw [← H1.out, ← H2.out]; rfl
      have hst : 1 ≤ a.st ∧ a.st ≤ 300 := (btw_iff _ _ _).1 H1.out.symm
      have hle : 1 ≤ a.le ∧ a.le ≤ 8 := (btw_iff _ _ _).1 H2.out.symm
      obtain ⟨hst1, hst2⟩ := hst
      obtain ⟨hle1, hle2⟩ := hle
      clear K1 K2 H1 H2
      by_cases hg : (a.gs.length : Int) = a.st
      · have hg1 : ((a.gs.length : Int) != a.st) = false := by simp [hg]
        have HG := Lib.hid hg
        clear hg
        by_cases h6 : 6000 < (a.ss.length : Int)
        · have HF : Hid (ck = 2) := by show ck = 2; rw [HCK.out]; exact ckA_2 HOK.out HG.out h6
          go_wp2_with fail
          go_ret
          exact ⟨ret_int HF.out.symm, Below_on HBW.out HB2.out HBW.out.size⟩
        · have hns : a.ss.length ≤ 6000 := by omega
          have HNS := Lib.hid h6
          clear h6
          go_wp2_with fail
          go_loopw [3] (fun i wr => ∃ k : Nat, k ≤ a.fs.length ∧ i = .int .i64 k ∧ Below W0.heap.size W0 wr ∧ Hid (∀ j, (hj : j < a.fs.length) → j < k → btw a.fs[j] 0 (a.st - 1) = true)) (fun i _ => a.fs.length - (intOf i).toNat)
          case atStart => exact ⟨0, Nat.zero_le _, rfl, HB2.out, fun j hj h => absurd h (by omega)⟩
          case round =>
            obtain ⟨k, hk, rfl, hx, HALL⟩ := hrel
            have HB3 := Lib.hid hx
            clear c0 c1 c2 c3 c4
            obtain ⟨_, c0, c1, c2, c3, c4⟩ := HA.out.below hx hV0
            clear hx
            by_cases hkl : k < a.fs.length
            · obtain ⟨b, o, hAA, _, _, q⟩ := Ints.at_ (HR.out.fs.below HB3.out) hkl
              subst hAA
              obtain ⟨x, hxx⟩ : ∃ x, x = a.fs[k] := ⟨_, rfl⟩
              rw [← hxx] at q
              obtain ⟨bb, hbb⟩ : ∃ bb, bb = btw x 0 (a.st - 1) := ⟨_, rfl⟩
              have C1 := Lib.hid (regrown_call (w := wr) fun W _ => between_b x 0 (a.st - 1) W)
              rw [← hbb] at C1
              have e0 := cell_regrown c0
              have e2 := cell_regrown c2
              have eq := cell_regrown q
              have HX := Lib.hid hxx
              have HBB := Lib.hid hbb
              clear hxx hbb
              go_wp2_with fail
              refine wp_region_quiet_below (by kernel_rfl) (by kernel_rfl) ?_
              repeat (go_big_quiet_step (with_reducible exact C1.out _ _))
              refine wpQuiet_nil ?_
              intro _ hw'
              obtain ⟨⟨dq, osq⟩, hw''⟩ := hw'
              subst hw''
              have HB4 := Lib.hid (regrown_on HB3.out HB3.out.size dq osq)
              clear e0 e2 eq
              generalize grow (redrawn wr dq) osq = w4 at *
              cases bb with
              | false =>
                have HF : Hid (ck = 5) := by show ck = 5; rw [HCK.out]; exact ckA_5 HOK.out HG.out (by omega) (fsBad_at hkl (by rw [← HX.out]; exact HBB.out.symm))
                go_wp2_with fail
                go_ret
                exact ⟨ret_int HF.out.symm, Below_on HBW.out HB4.out HBW.out.size⟩
              | true =>
                go_wp2_with fail
                go_roundw
                case rel =>
                  refine ⟨k + 1, by omega, by go_num, HB4.out, fun j hj h => ?_⟩
                  rcases Nat.lt_or_ge j k with h1 | h1
                  · exact HALL.out j hj h1
                  · obtain rfl : j = k := by omega
                    rw [← HX.out]; exact HBB.out.symm
                case measure => simp [intOf]; omega
            · have HFB : Hid (fsBad a.st a.fs = false) := fsBad_none fun j hj => HALL.out j hj (by omega)
              clear HALL
              go_wp2_with fail
              obtain ⟨w5, rfl⟩ : ∃ w5 : World, w5 = wr := ⟨_, rfl⟩
              go_loopw [4] (fun i wr => ∃ k : Nat, 1 ≤ k ∧ i = .int .i64 k ∧ Below W0.heap.size W0 wr ∧ Hid (k ≤ a.fs.length ∨ k = 1) ∧ Hid (∀ j, 1 ≤ j → j < k → fsErr a.fs j = false)) (fun i _ => a.fs.length - (intOf i).toNat)
              case atStart => exact ⟨1, Nat.le_refl _, rfl, HB3.out, .inr rfl, fun j h1 h2 => absurd h2 (by omega)⟩
              case round =>
                obtain ⟨k2, hk2, rfl, hx, HK2, HALL⟩ := hrel
                have HB5 := Lib.hid hx
                clear c0 c1 c2 c3 c4
                obtain ⟨_, c0, c1, c2, c3, c4⟩ := HA.out.below hx hV0
                clear hx
                by_cases hkl2 : k2 < a.fs.length
                · have hk9 : k2 ≤ 1000000000000000000 := by omega
                  obtain ⟨b, o, hAA, _, _, q⟩ := Ints.at_ (HR.out.fs.below HB5.out) hkl2
                  obtain ⟨b', o', hAA', _, _, q'⟩ := Ints.at_ (HR.out.fs.below HB5.out) (k := k2 - 1) (by omega)
                  obtain ⟨rfl, rfl⟩ : b = b' ∧ o = o' := by rw [hAA] at hAA'; simpa using hAA'
                  subst hAA
                  clear hAA'
                  obtain ⟨x, hxx⟩ : ∃ x, x = a.fs[k2] := ⟨_, rfl⟩
                  obtain ⟨y, hyy⟩ : ∃ y, y = a.fs[k2 - 1] := ⟨_, rfl⟩
                  rw [← hxx] at q
                  rw [← hyy] at q'
                  have HE : Hid (fsErr a.fs k2 = decide (x ≤ y)) := by
                    show fsErr _ _ = _
                    unfold fsErr
                    rw [getD_lt hkl2, getD_lt (by omega), hxx, hyy]
                  clear hxx hyy
                  by_cases hxy : x ≤ y
                  · have HF : Hid (ck = 4) := by
                      show ck = 4
                      rw [HCK.out]
                      exact ckA_4 HOK.out HG.out (by omega) HFB.out (fsDown_at (k := k2) (by omega) (by omega) (by rw [HE.out]; exact decide_eq_true hxy))
                    go_wp2_with fail
                    go_quiet (fail)
                    have HB6 : Hid (Below W0.heap.size W0 (wr.drewN nq)) := below_drewN HB5.out nq
                    generalize wr.drewN nq = w6 at *
                    go_wp2_with fail
                    go_ret
                    exact ⟨ret_int HF.out.symm, Below_on HBW.out HB6.out HBW.out.size⟩
                  · have HEF : Hid (fsErr a.fs k2 = false) := by show _ = _; rw [HE.out]; exact decide_eq_false hxy
                    go_wp2_with fail
                    go_quiet (fail)
                    have HB6 : Hid (Below W0.heap.size W0 (wr.drewN nq)) := below_drewN HB5.out nq
                    generalize wr.drewN nq = w6 at *
                    go_wp2_with fail
                    go_roundw
                    case rel =>
                      refine ⟨k2 + 1, by omega, by go_num, HB6.out, .inl (by omega), fun j h1 h2 => ?_⟩
                      rcases Nat.lt_or_ge j k2 with h3 | h3
                      · exact HALL.out j h1 h3
                      · obtain rfl : j = k2 := by omega
                        exact HEF.out
                    case measure => simp [intOf]; omega
                · have HFD : Hid (fsDown a.fs (a.fs.length - 1) 1 = false) := (fsDown_false _ _).2 fun j h1 h2 => HALL.out j h1 (by rcases HK2.out with h | h <;> omega)
                  clear HALL HK2
                  have HCS : Hid (ck = ckS a a.ss.length 0) := by show ck = _; rw [HCK.out]; exact ckA_S HOK.out HG.out (by omega) HFB.out HFD.out
                  go_wp2_with fail
                  obtain ⟨w7, rfl⟩ : ∃ w7 : World, w7 = wr := ⟨_, rfl⟩
                  go_loopw [5, 6] (fun i s6 wr => ∃ k : Nat, k ≤ a.ss.length ∧ i = .int .i64 k ∧ Below W0.heap.size W0 wr ∧ Hid (∀ j, j < k → stpErr a j = 0)) (fun i _ _ => a.ss.length - (intOf i).toNat)
                  case atStart => exact ⟨0, Nat.zero_le _, rfl, HB5.out, fun j h => absurd h (by omega)⟩
                  case round =>
                    obtain ⟨k3, hk3, rfl, hx, HALL⟩ := hrel
                    have HB7 := Lib.hid hx
                    clear c0 c1 c2 c3 c4
                    obtain ⟨_, c0, c1, c2, c3, c4⟩ := HA.out.below hx hV0
                    clear hx
                    by_cases hkl3 : k3 < a.ss.length
                    · obtain ⟨b, o, hCC, _, hbl, q1, q2, q3⟩ := Stps.at_ (HR.out.ss.below HB7.out) hkl3
                      subst hCC
                      obtain ⟨s, hs⟩ : ∃ s, s = a.ss[k3] := ⟨_, rfl⟩
                      rw [← hs] at q1 q2 q3
                      have hs0 : a.ss.getD k3 nostp = s := by rw [getD_lt hkl3, hs]
                      have HS0 := Lib.hid hs0
                      have HS := Lib.hid hs
                      clear hs hs0
                      obtain ⟨bf, hbf⟩ : ∃ b, b = btw s.f 0 (a.st - 1) := ⟨_, rfl⟩
                      obtain ⟨bt, hbt⟩ : ∃ b, b = btw s.t 0 (a.st - 1) := ⟨_, rfl⟩
                      obtain ⟨bl, hbl⟩ : ∃ b, b = btw s.l 0 (a.le - 1) := ⟨_, rfl⟩
                      have K1 := Lib.hid (fun W => between_b s.f 0 (a.st - 1) W)
                      have K2 := Lib.hid (fun W => between_b s.t 0 (a.st - 1) W)
                      have K3 := Lib.hid (fun W => between_b s.l 0 (a.le - 1) W)
                      rw [← hbf] at K1
                      rw [← hbt] at K2
                      rw [← hbl] at K3
                      have HBAD : Hid (stpBad a s = (!bf || !bt || !bl)) := by show stpBad a s = _; rw [hbf, hbt, hbl]; rfl
                      clear hbf hbt hbl
                      have HG8 := Lib.hid (stW_is wr s)
                      go_wp2_with fail
                      change Calls _ _ _ (stW wr s) _
                      have HB8 : Hid (Below W0.heap.size W0 (stW wr s)) := Below_on HB7.out HG8.out.below HB7.out.size
                      obtain ⟨G, hG⟩ : ∃ G, G = wr.heap.size := ⟨_, rfl⟩
                      rw [← hG] at HG8 ⊢
                      have hGW : W0.heap.size ≤ G := by rw [hG]; exact HB7.out.size
                      generalize stW wr s = W8 at *
                      have HGG := Lib.hid hG
                      clear c0 c1 c2 c3 c4 q1 q2 q3 hG
                      refine (K1.out _).mono ?_
                      rintro e w9 ⟨rfl, hx9⟩
                      have HB9 : Hid (Below W0.heap.size W0 w9) := Below_on HB8.out hx9 HB8.out.size
                      have HX9 := Lib.hid hx9
                      clear hx9
                      have HBADF : Hid (stpBad a s = true → ck = 5) := by
                        intro hb
                        have he : stpErr a k3 = 5 := by unfold stpErr; rw [HS0.out, if_pos hb]
                        rw [HCS.out, ckS_at (k := k3) _ _ (Nat.zero_le _) (by omega) (fun j _ h => HALL.out j h) (by rw [he]; decide), he]
                      cases bf with
                      | false =>
                        have HF : Hid (ck = 5) := HBADF.out (by rw [HBAD.out]; rfl)
                        clear HBADF
                        go_wp2_with fail
                        go_ret
                        exact ⟨ret_int HF.out.symm, Below_on HBW.out HB9.out HBW.out.size⟩
                      | true =>
                        have g1 := (cell_on3 HX9.out (b := G) (o := 2) (by rw [HG8.out.size]; omega)).trans HG8.out.c2
                        obtain ⟨_, c0, c1, c2, c3, c4⟩ := HA.out.below HB9.out hV0
                        go_wp2_with fail
                        refine (K2.out _).mono ?_
                        rintro e w10 ⟨rfl, hx10⟩
                        have HX10 : Hid (Below W8.heap.size W8 w10) := Below_on HX9.out hx10 HX9.out.size
                        have HB10 : Hid (Below W0.heap.size W0 w10) := Below_on HB9.out hx10 HB9.out.size
                        clear hx10 g1 c0 c1 c2 c3 c4
                        cases bt with
                        | false =>
                          have HF : Hid (ck = 5) := HBADF.out (by rw [HBAD.out]; rfl)
                          clear HBADF
                          go_wp2_with fail
                          go_ret
                          exact ⟨ret_int HF.out.symm, Below_on HBW.out HB10.out HBW.out.size⟩
                        | true =>
                          have g1 := (cell_on3 HX10.out (b := G) (o := 1) (by rw [HG8.out.size]; omega)).trans HG8.out.c1
                          obtain ⟨_, c0, c1, c2, c3, c4⟩ := HA.out.below HB10.out hV0
                          go_wp2_with fail
                          refine (K3.out _).mono ?_
                          rintro e w11 ⟨rfl, hx11⟩
                          have HX11 : Hid (Below W8.heap.size W8 w11) := Below_on HX10.out hx11 HX10.out.size
                          have HB11 : Hid (Below W0.heap.size W0 w11) := Below_on HB10.out hx11 HB10.out.size
                          clear hx11 g1 c0 c1 c2 c3 c4
                          cases bl with
                          | false =>
                            have HF : Hid (ck = 5) := HBADF.out (by rw [HBAD.out]; rfl)
                            clear HBADF
                            go_wp2_with fail
                            go_ret
                            exact ⟨ret_int HF.out.symm, Below_on HBW.out HB11.out HBW.out.size⟩
                          | true =>
                            have HGOOD : Hid (stpBad a s = false) := by show _ = _; rw [HBAD.out]; rfl
                            clear HBADF HBAD K1 K2 K3
                            have g0 := (cell_on3 HX11.out (b := G) (o := 0) (by rw [HG8.out.size]; omega)).trans HG8.out.c0
                            have g1 := (cell_on3 HX11.out (b := G) (o := 1) (by rw [HG8.out.size]; omega)).trans HG8.out.c1
                            have g2 := (cell_on3 HX11.out (b := G) (o := 2) (by rw [HG8.out.size]; omega)).trans HG8.out.c2
                            obtain ⟨_, c0, c1, c2, c3, c4⟩ := HA.out.below HB11.out hV0
                            have e0 := cell_regrown g0
                            have e1 := cell_regrown g1
                            have e2 := cell_regrown g2
                            have e4 := cell_regrown c4
                            by_cases hk0 : 0 < k3
                            · obtain ⟨b', o', hCC', _, _, q1, q2, q3⟩ := Stps.at_ (HR.out.ss.below HB11.out) (k := k3 - 1) (by omega)
                              obtain ⟨rfl, rfl⟩ : b = b' ∧ o = o' := by simpa using hCC'
                              clear hCC'
                              obtain ⟨t, ht⟩ : ∃ t, t = a.ss[k3 - 1] := ⟨_, rfl⟩
                              rw [← ht] at q1 q2 q3
                              have ht0 : a.ss.getD (k3 - 1) nostp = t := by rw [getD_lt (by omega), ht]
                              obtain ⟨lt2, hlt2⟩ : ∃ b, b = stpLt t s := ⟨_, rfl⟩
                              have HE : Hid (stpErr a k3 = if lt2 = true then 0 else 4) := by
                                show _ = _
                                unfold stpErr
                                rw [HS0.out, ht0, if_neg (by rw [HGOOD.out]; decide), ← hlt2]
                                cases lt2 <;> simp [hk0]
                              have C1 := Lib.hid (regrown_call (w := w11) fun W _ => Less_ t s W)
                              rw [← hlt2] at C1
                              have f1 := cell_regrown q1
                              have f2 := cell_regrown q2
                              have f3 := cell_regrown q3
                              clear ht ht0 hlt2
                              go_wp2_with fail
                              refine wp_region_quiet_below (by kernel_rfl) (by kernel_rfl) ?_
                              repeat (go_big_quiet_step (with_reducible exact C1.out _ _))
                              refine wpQuiet_nil ?_
                              intro _ hw'
                              obtain ⟨⟨dq, osq⟩, hw''⟩ := hw'
                              subst hw''
                              have HB12 := Lib.hid (regrown_on HB11.out HB11.out.size dq osq)
                              clear e0 e1 e2 e4 f1 f2 f3 q1 q2 q3
                              generalize grow (redrawn w11 dq) osq = w12 at *
                              cases lt2 with
                              | false =>
                                have HF : Hid (ck = 4) := by
                                  have he : stpErr a k3 = 4 := HE.out
                                  show ck = 4
                                  rw [HCS.out, ckS_at (k := k3) _ _ (Nat.zero_le _) (by omega) (fun j _ h => HALL.out j h) (by rw [he]; decide), he]
                                go_wp2_with fail
                                go_ret
                                exact ⟨ret_int HF.out.symm, Below_on HBW.out HB12.out HBW.out.size⟩
                              | true =>
                                go_wp2_with fail
                                go_roundw
                                case rel =>
                                  refine ⟨k3 + 1, by omega, by go_num, HB12.out, fun j h => ?_⟩
                                  rcases Nat.lt_or_ge j k3 with h1 | h1
                                  · exact HALL.out j h1
                                  · obtain rfl : j = k3 := by omega
                                    exact HE.out
                                case measure => simp [intOf]; omega
                            · have HE : Hid (stpErr a k3 = 0) := by
                                show _ = _
                                unfold stpErr
                                rw [HS0.out, if_neg (by rw [HGOOD.out]; decide), if_neg (by simp [hk0])]
                              have hk02 : decide (0 < k3) = false := decide_eq_false hk0
                              go_wp2_with fail
                              refine wp_region_quiet_below (by kernel_rfl) (by kernel_rfl) ?_
                              repeat (go_big_quiet_step (fail))
                              refine wpQuiet_nil ?_
                              intro _ hw'
                              obtain ⟨⟨dq, osq⟩, hw''⟩ := hw'
                              subst hw''
                              have HB12 := Lib.hid (regrown_on HB11.out HB11.out.size dq osq)
                              clear e0 e1 e2 e4
                              generalize grow (redrawn w11 dq) osq = w12 at *
                              go_wp2_with fail
                              go_roundw
                              case rel =>
                                refine ⟨k3 + 1, by omega, by go_num, HB12.out, fun j h => ?_⟩
                                rcases Nat.lt_or_ge j k3 with h1 | h1
                                · exact HALL.out j h1
                                · obtain rfl : j = k3 := by omega
                                  exact HE.out
                              case measure => simp [intOf]; omega
                    · have HF : Hid (ck = 0) := by
                        show ck = 0
                        rw [HCS.out, ckS_zero]
                        intro j h1 h2
                        exact HALL.out j (by omega)
                      go_wp2_with fail
                      go_ret
                      exact ⟨ret_int HF.out.symm, Below_on HBW.out HB7.out HBW.out.size⟩
      · have hg1 : ((a.gs.length : Int) != a.st) = true := by simpa using hg
        have HF : Hid (ck = 1) := by show ck = 1; rw [HCK.out]; exact ckA_1 HOK.out hg
        clear hg
        go_wp2_with fail
        go_ret
        exact ⟨ret_int HF.out.symm, Below_on HBW.out HB2.out HBW.out.size⟩
end Go.Proofs.Ytoglgeaiiipchaa
