/- Walks: include.Included and include.Same. -/
import Derived.Test.YtoglgeaiiipchaaLISM21
import Derived.Deep.RegionLaw
import Derived.Deep.CutBlock
import Derived.Deep.DeepCutAuto
import Derived.Test.YtoglgeaiiipchaaLISM18
set_option linter.unusedSimpArgs false
set_option linter.unusedVariables false
namespace Go.Proofs.Ytoglgeaiiipchaa
open Go Go.RowKit

/-- what is wrong with two automata -/
def rdErr (a b : Au) : Int := if ckA a = 0 then (if ckA b = 0 then (if a.le = b.le then 0 else 1) else ckA b) else ckA a
/-- two automata laid in variables -/
def auW2 (w : World) (a b : Au) (A B C D E F : Option Addr) (ca cb cc cd ce cf : Nat) : World := auW (auW w a A B C ca cb cc) b D E F cd ce cf
structure AuW2 (w W : World) (a b : Au) (A B C D E F : Option Addr) (ca cb cc cd ce cf : Nat) : Prop where
  below : Below w.heap.size w W
  size : W.heap.size = w.heap.size + 2
  at1 : AuAt W w.heap.size a A B C ca cb cc
  at2 : AuAt W (w.heap.size + 1) b D E F cd ce cf
theorem auW2_is (w : World) (a b : Au) (A B C D E F : Option Addr) (ca cb cc cd ce cf : Nat) : AuW2 w (auW2 w a b A B C D E F ca cb cc cd ce cf) a b A B C D E F ca cb cc cd ce cf := by
  have h1 := auW_is w a A B C ca cb cc
  have h2 := auW_is (auW w a A B C ca cb cc) b D E F cd ce cf
  unfold auW2
  have s1 := h1.size
  have s2 := h2.size
  refine ⟨Below_on h1.below h2.below h1.below.size, by omega, h1.at.below h2.below h1.at.lt, ?_⟩
  have := h2.at
  rwa [s1] at this
/-- both in one row -/
structure Au2At (W : World) (G : Nat) (a b : Au) (A B C D E F : Option Addr) (ca cb cc cd ce cf : Nat) : Prop where
  lt : G < W.heap.size
  c0 : W.cell? ⟨G, 0, none⟩ = some (.int .i64 a.st)
  c1 : W.cell? ⟨G, 1, none⟩ = some (.int .i64 a.le)
  c2 : W.cell? ⟨G, 2, none⟩ = some (.slice A a.fs.length ca)
  c3 : W.cell? ⟨G, 3, none⟩ = some (.slice B a.gs.length cb)
  c4 : W.cell? ⟨G, 4, none⟩ = some (.slice C a.ss.length cc)
  c5 : W.cell? ⟨G, 5, none⟩ = some (.int .i64 b.st)
  c6 : W.cell? ⟨G, 6, none⟩ = some (.int .i64 b.le)
  c7 : W.cell? ⟨G, 7, none⟩ = some (.slice D b.fs.length cd)
  c8 : W.cell? ⟨G, 8, none⟩ = some (.slice E b.gs.length ce)
  c9 : W.cell? ⟨G, 9, none⟩ = some (.slice F b.ss.length cf)
theorem Au2At.below {W W' : World} {G n : Nat} {a b : Au} {A B C D E F : Option Addr} {ca cb cc cd ce cf : Nat} (h : Au2At W G a b A B C D E F ca cb cc cd ce cf) (hb : Below n W W') (hn : G < n) : Au2At W' G a b A B C D E F ca cb cc cd ce cf :=
  ⟨Nat.lt_of_lt_of_le h.lt hb.size, (hb.cell (p := ⟨G, 0, none⟩) hn).trans h.c0, (hb.cell (p := ⟨G, 1, none⟩) hn).trans h.c1, (hb.cell (p := ⟨G, 2, none⟩) hn).trans h.c2, (hb.cell (p := ⟨G, 3, none⟩) hn).trans h.c3, (hb.cell (p := ⟨G, 4, none⟩) hn).trans h.c4,
    (hb.cell (p := ⟨G, 5, none⟩) hn).trans h.c5, (hb.cell (p := ⟨G, 6, none⟩) hn).trans h.c6, (hb.cell (p := ⟨G, 7, none⟩) hn).trans h.c7, (hb.cell (p := ⟨G, 8, none⟩) hn).trans h.c8, (hb.cell (p := ⟨G, 9, none⟩) hn).trans h.c9⟩
def au2W (w : World) (a b : Au) (A B C D E F : Option Addr) (ca cb cc cd ce cf : Nat) : World :=
  w.alloc (Obj.cells #[.int .i64 a.st, .int .i64 a.le, .slice A a.fs.length ca, .slice B a.gs.length cb, .slice C a.ss.length cc, .int .i64 b.st, .int .i64 b.le, .slice D b.fs.length cd, .slice E b.gs.length ce, .slice F b.ss.length cf] 49)
theorem au2W_is (w : World) (a b : Au) (A B C D E F : Option Addr) (ca cb cc cd ce cf : Nat) : Below w.heap.size w (au2W w a b A B C D E F ca cb cc cd ce cf) ∧ Au2At (au2W w a b A B C D E F ca cb cc cd ce cf) w.heap.size a b A B C D E F ca cb cc cd ce cf := by
  unfold au2W
  refine ⟨by go_grown, by simp, ?_, ?_, ?_, ?_, ?_, ?_, ?_, ?_, ?_, ?_⟩ <;> go_simp
set_option maxRecDepth 100000 in
set_option maxHeartbeats 4000000 in
theorem ready_ (a b : Au) (A B C D E F : Option Addr) (ca cb cc cd ce cf : Nat) (w : World) (ha : AuRd w 0 a A B C ca cb cc) (hb : AuRd w 0 b D E F cd ce cf) :
    Calls Try.prog 58 #[.agg #[.int .i64 a.st, .int .i64 a.le, .slice A a.fs.length ca, .slice B a.gs.length cb, .slice C a.ss.length cc], .agg #[.int .i64 b.st, .int .i64 b.le, .slice D b.fs.length cd, .slice E b.gs.length ce, .slice F b.ss.length cf]] w (IntB w (rdErr a b)) := by
  have HCA := Lib.hid (fun W (hW : Below w.heap.size w W) => autoCheck_ a A B C ca cb cc W (ha.below hW))
  have HCB := Lib.hid (fun W (hW : Below w.heap.size w W) => autoCheck_ b D E F cd ce cf W (hb.below hW))
  have HW2 := Lib.hid (auW2_is w a b A B C D E F ca cb cc cd ce cf)
  clear ha hb
  go_enter Try.func58, Try.ntmps58
  go_upto_region 1 with fail
  change Code.wp _ _ _ _ (auW2 w a b A B C D E F ca cb cc cd ce cf)
  generalize auW2 w a b A B C D E F ca cb cc cd ce cf = W0 at *
  obtain ⟨V, hV⟩ : ∃ V, V = w.heap.size := ⟨_, rfl⟩
  have HV := Lib.hid hV
  have HA1 := Lib.hid (show AuAt W0 V a A B C ca cb cc by rw [hV]; exact HW2.out.at1)
  have HA2 := Lib.hid (show AuAt W0 (V + 1) b D E F cd ce cf by rw [hV]; exact HW2.out.at2)
  have HBW := Lib.hid HW2.out.below
  rw [← hV]
  clear HW2 hV
  obtain ⟨_, c0, c1, c2, c3, c4⟩ := HA1.out
  obtain ⟨_, d0, d1, d2, d3, d4⟩ := HA2.out
  have H2 := Lib.hid (au2W_is W0 a b A B C D E F ca cb cc cd ce cf)
  go_upto_block 0 with fail
  change Code.wp _ _ _ _ (au2W W0 a b A B C D E F ca cb cc cd ce cf)
  generalize au2W W0 a b A B C D E F ca cb cc cd ce cf = W1 at *
  obtain ⟨G, hG⟩ : ∃ G, G = W0.heap.size := ⟨_, rfl⟩
  rw [← hG] at H2 ⊢
  have HA3 := Lib.hid H2.out.2
  have HBW1 : Hid (Below w.heap.size w W1) := Below_on HBW.out H2.out.1 (by rw [hG]; exact HBW.out.size)
  have HA1' := Lib.hid (HA1.out.below H2.out.1 (by rw [hG]; exact HA1.out.lt))
  have HA2' := Lib.hid (HA2.out.below H2.out.1 (by rw [hG]; exact HA2.out.lt))
  clear H2 hG c0 c1 c2 c3 c4 d0 d1 d2 d3 d4 HA1 HA2 HBW
  go_wp2_with fail
  go_loopw [6, 7, 12] (fun _ _ i wr => ∃ k : Nat, k ≤ 2 ∧ i = .int .i64 k ∧ Hid (Below W1.heap.size W1 wr) ∧ Hid (1 ≤ k → ckA a = 0) ∧ Hid (2 ≤ k → ckA b = 0)) (fun _ _ i _ => 2 - (intOf i).toNat)
  case atStart => exact ⟨0, by omega, rfl, Below.refl _ _, fun h => absurd h (by omega), fun h => absurd h (by omega)⟩
  case round =>
    obtain ⟨k, hk, rfl, HB, HCK1, HCK2⟩ := hrel
    obtain ⟨_, c0, c1, c2, c3, c4⟩ := HA1'.out.below HB.out HA1'.out.lt
    obtain ⟨_, d0, d1, d2, d3, d4⟩ := HA2'.out.below HB.out HA2'.out.lt
    obtain ⟨_, e0, e1, e2, e3, e4, e5, e6, e7, e8, e9⟩ := HA3.out.below HB.out HA3.out.lt
    have hk3 : k = 0 ∨ k = 1 ∨ k = 2 := by omega
    rcases hk3 with rfl | rfl | rfl
    · have HX := Lib.hid (auW_is wr a A B C ca cb cc)
      go_wp2_with (first
        | (go_at_call 48; refine (HCA.out _ (Below_on HBW1.out (Below_on HB.out HX.out.below HB.out.size) HBW1.out.size)).mono ?_; rintro e w3 ⟨rfl, hb3⟩))
      · rename_i h
        have h' : ¬ ckA a = 0 := by simpa using h
        have HP : Hid (IntB w (rdErr a b) (.returned (.int .i64 (ckA a))) w3) := ⟨by unfold rdErr; rw [if_neg h'], Below_on (Below_on HBW1.out (Below_on HB.out HX.out.below HB.out.size) HBW1.out.size) hb3 (Nat.le_trans HBW1.out.size (Nat.le_trans HB.out.size HX.out.below.size))⟩
        go_ret
        exact HP.out
      · rename_i h
        have h' : ckA a = 0 := by simpa using h
        exact ⟨⟨1, by omega, rfl, Below_on (Below_on HB.out HX.out.below HB.out.size) hb3 (Nat.le_trans HB.out.size HX.out.below.size), fun _ => h', fun h => absurd h (by omega)⟩, by simp [intOf]⟩
    · have HX := Lib.hid (auW_is wr b D E F cd ce cf)
      have h1 := HCK1.out (by omega)
      go_wp2_with (first
        | (go_at_call 48; refine (HCB.out _ (Below_on HBW1.out (Below_on HB.out HX.out.below HB.out.size) HBW1.out.size)).mono ?_; rintro e w3 ⟨rfl, hb3⟩))
      · rename_i h
        have h' : ¬ ckA b = 0 := by simpa using h
        have HP : Hid (IntB w (rdErr a b) (.returned (.int .i64 (ckA b))) w3) := ⟨by unfold rdErr; rw [if_pos h1, if_neg h'], Below_on (Below_on HBW1.out (Below_on HB.out HX.out.below HB.out.size) HBW1.out.size) hb3 (Nat.le_trans HBW1.out.size (Nat.le_trans HB.out.size HX.out.below.size))⟩
        go_ret
        exact HP.out
      · rename_i h
        have h' : ckA b = 0 := by simpa using h
        exact ⟨⟨2, by omega, rfl, Below_on (Below_on HB.out HX.out.below HB.out.size) hb3 (Nat.le_trans HB.out.size HX.out.below.size), fun _ => h1, fun _ => h'⟩, by simp [intOf]⟩
    · have h1 := HCK1.out (by omega)
      have h2 := HCK2.out (by omega)
      have HBE : Hid (Below w.heap.size w wr) := Below_on HBW1.out HB.out HBW1.out.size
      by_cases hl : a.le = b.le
      · have HP : Hid (IntB w (rdErr a b) (.returned (.int .i64 0)) wr) := ⟨by unfold rdErr; rw [if_pos h1, if_pos h2, if_pos hl], HBE.out⟩
        have hl' : (a.le != b.le) = false := by simp [hl]
        clear hl h1 h2
        go_wp2_with fail
        go_ret
        exact HP.out
      · have HP : Hid (IntB w (rdErr a b) (.returned (.int .i64 1)) wr) := ⟨by unfold rdErr; rw [if_pos h1, if_pos h2, if_neg hl], HBE.out⟩
        have hl' : (a.le != b.le) = true := by simpa using hl
        clear hl h1 h2
        go_wp2_with fail
        go_ret
        exact HP.out
end Go.Proofs.Ytoglgeaiiipchaa

namespace Go.Proofs.Ytoglgeaiiipchaa
open Go Go.RowKit

/-- what is wrong with two automata of an include -/
def rdErrI (a b : Au) : Int := if ckA a = 0 then (if ckA b = 0 then (if a.le = b.le then (if a.st ≤ 3 ∧ b.st ≤ 3 ∧ a.le ≤ 2 then 0 else 2) else 1) else ckA b) else ckA a
set_option maxRecDepth 100000 in
set_option maxHeartbeats 4000000 in
theorem iready_ (a b : Au) (A B C D E F : Option Addr) (ca cb cc cd ce cf : Nat) (w : World) (ha : AuRd w 0 a A B C ca cb cc) (hb : AuRd w 0 b D E F cd ce cf) :
    Calls Try.prog 55 #[.agg #[.int .i64 a.st, .int .i64 a.le, .slice A a.fs.length ca, .slice B a.gs.length cb, .slice C a.ss.length cc], .agg #[.int .i64 b.st, .int .i64 b.le, .slice D b.fs.length cd, .slice E b.gs.length ce, .slice F b.ss.length cf]] w (IntB w (rdErrI a b)) := by
  have HCA := Lib.hid (fun W (hW : Below w.heap.size w W) => autoCheck_ a A B C ca cb cc W (ha.below hW))
  have HCB := Lib.hid (fun W (hW : Below w.heap.size w W) => autoCheck_ b D E F cd ce cf W (hb.below hW))
  have HW2 := Lib.hid (auW2_is w a b A B C D E F ca cb cc cd ce cf)
  clear ha hb
  go_enter Try.func55, Try.ntmps55
  go_upto_region 1 with fail
  change Code.wp _ _ _ _ (auW2 w a b A B C D E F ca cb cc cd ce cf)
  generalize auW2 w a b A B C D E F ca cb cc cd ce cf = W0 at *
  obtain ⟨V, hV⟩ : ∃ V, V = w.heap.size := ⟨_, rfl⟩
  have HV := Lib.hid hV
  have HA1 := Lib.hid (show AuAt W0 V a A B C ca cb cc by rw [hV]; exact HW2.out.at1)
  have HA2 := Lib.hid (show AuAt W0 (V + 1) b D E F cd ce cf by rw [hV]; exact HW2.out.at2)
  have HBW := Lib.hid HW2.out.below
  rw [← hV]
  clear HW2 hV
  obtain ⟨_, c0, c1, c2, c3, c4⟩ := HA1.out
  obtain ⟨_, d0, d1, d2, d3, d4⟩ := HA2.out
  have H2 := Lib.hid (au2W_is W0 a b A B C D E F ca cb cc cd ce cf)
  go_upto_block 0 with fail
  change Code.wp _ _ _ _ (au2W W0 a b A B C D E F ca cb cc cd ce cf)
  generalize au2W W0 a b A B C D E F ca cb cc cd ce cf = W1 at *
  obtain ⟨G, hG⟩ : ∃ G, G = W0.heap.size := ⟨_, rfl⟩
  rw [← hG] at H2 ⊢
  have HA3 := Lib.hid H2.out.2
  have HBW1 : Hid (Below w.heap.size w W1) := Below_on HBW.out H2.out.1 (by rw [hG]; exact HBW.out.size)
  have HA1' := Lib.hid (HA1.out.below H2.out.1 (by rw [hG]; exact HA1.out.lt))
  have HA2' := Lib.hid (HA2.out.below H2.out.1 (by rw [hG]; exact HA2.out.lt))
  clear H2 hG c0 c1 c2 c3 c4 d0 d1 d2 d3 d4 HA1 HA2 HBW
  go_wp2_with fail
  go_loopw [6, 7, 12] (fun _ _ i wr => ∃ k : Nat, k ≤ 2 ∧ i = .int .i64 k ∧ Hid (Below W1.heap.size W1 wr) ∧ Hid (1 ≤ k → ckA a = 0) ∧ Hid (2 ≤ k → ckA b = 0)) (fun _ _ i _ => 2 - (intOf i).toNat)
  case atStart => exact ⟨0, by omega, rfl, Below.refl _ _, fun h => absurd h (by omega), fun h => absurd h (by omega)⟩
  case round =>
    obtain ⟨k, hk, rfl, HB, HCK1, HCK2⟩ := hrel
    obtain ⟨_, c0, c1, c2, c3, c4⟩ := HA1'.out.below HB.out HA1'.out.lt
    obtain ⟨_, d0, d1, d2, d3, d4⟩ := HA2'.out.below HB.out HA2'.out.lt
    obtain ⟨_, e0, e1, e2, e3, e4, e5, e6, e7, e8, e9⟩ := HA3.out.below HB.out HA3.out.lt
    have hk3 : k = 0 ∨ k = 1 ∨ k = 2 := by omega
    rcases hk3 with rfl | rfl | rfl
    · have HX := Lib.hid (auW_is wr a A B C ca cb cc)
      go_wp2_with (first
        | (go_at_call 48; refine (HCA.out _ (Below_on HBW1.out (Below_on HB.out HX.out.below HB.out.size) HBW1.out.size)).mono ?_; rintro e w3 ⟨rfl, hb3⟩))
      · rename_i h
        have h' : ¬ ckA a = 0 := by simpa using h
        have HP : Hid (IntB w (rdErrI a b) (.returned (.int .i64 (ckA a))) w3) := ⟨by unfold rdErrI; rw [if_neg h'], Below_on (Below_on HBW1.out (Below_on HB.out HX.out.below HB.out.size) HBW1.out.size) hb3 (Nat.le_trans HBW1.out.size (Nat.le_trans HB.out.size HX.out.below.size))⟩
        go_ret
        exact HP.out
      · rename_i h
        have h' : ckA a = 0 := by simpa using h
        exact ⟨⟨1, by omega, rfl, Below_on (Below_on HB.out HX.out.below HB.out.size) hb3 (Nat.le_trans HB.out.size HX.out.below.size), fun _ => h', fun h => absurd h (by omega)⟩, by simp [intOf]⟩
    · have HX := Lib.hid (auW_is wr b D E F cd ce cf)
      have h1 := HCK1.out (by omega)
      go_wp2_with (first
        | (go_at_call 48; refine (HCB.out _ (Below_on HBW1.out (Below_on HB.out HX.out.below HB.out.size) HBW1.out.size)).mono ?_; rintro e w3 ⟨rfl, hb3⟩))
      · rename_i h
        have h' : ¬ ckA b = 0 := by simpa using h
        have HP : Hid (IntB w (rdErrI a b) (.returned (.int .i64 (ckA b))) w3) := ⟨by unfold rdErrI; rw [if_pos h1, if_neg h'], Below_on (Below_on HBW1.out (Below_on HB.out HX.out.below HB.out.size) HBW1.out.size) hb3 (Nat.le_trans HBW1.out.size (Nat.le_trans HB.out.size HX.out.below.size))⟩
        go_ret
        exact HP.out
      · rename_i h
        have h' : ckA b = 0 := by simpa using h
        exact ⟨⟨2, by omega, rfl, Below_on (Below_on HB.out HX.out.below HB.out.size) hb3 (Nat.le_trans HB.out.size HX.out.below.size), fun _ => h1, fun _ => h'⟩, by simp [intOf]⟩
    · have h1 := HCK1.out (by omega)
      have h2 := HCK2.out (by omega)
      have HBE : Hid (Below w.heap.size w wr) := Below_on HBW1.out HB.out HBW1.out.size
      by_cases hl : a.le = b.le
      · have hl' : (a.le != b.le) = false := by simp [hl]
        by_cases h3 : a.st ≤ 3
        · have k3 : (a.st > 3) = False := by simp; omega
          by_cases h4 : b.st ≤ 3
          · have k4 : (b.st > 3) = False := by simp; omega
            by_cases h5 : a.le ≤ 2
            · have k5 : (a.le > 2) = False := by simp; omega
              have HP : Hid (IntB w (rdErrI a b) (.returned (.int .i64 0)) wr) := ⟨by unfold rdErrI; rw [if_pos h1, if_pos h2, if_pos hl, if_pos ⟨h3, h4, h5⟩], HBE.out⟩
              clear hl h1 h2
              have n3 : decide (3 < a.st) = false := by simp; omega
              have n4 : decide (3 < b.st) = false := by simp; omega
              have n5 : decide (2 < a.le) = false := by simp; omega
              clear k3 k4 k5 h3 h4 h5
              go_wp2_with fail
              go_ret
              exact HP.out
            · have HP : Hid (IntB w (rdErrI a b) (.returned (.int .i64 2)) wr) := ⟨by unfold rdErrI; rw [if_pos h1, if_pos h2, if_pos hl, if_neg (fun h => h5 h.2.2)], HBE.out⟩
              clear hl h1 h2
              have n3 : decide (3 < a.st) = false := by simp; omega
              have n4 : decide (3 < b.st) = false := by simp; omega
              have n5 : decide (2 < a.le) = true := by simp; omega
              clear k3 k4 h3 h4 h5
              go_wp2_with fail
              go_ret
              exact HP.out
          · have HP : Hid (IntB w (rdErrI a b) (.returned (.int .i64 2)) wr) := ⟨by unfold rdErrI; rw [if_pos h1, if_pos h2, if_pos hl, if_neg (fun h => h4 h.2.1)], HBE.out⟩
            clear hl h1 h2
            have n3 : decide (3 < a.st) = false := by simp; omega
            have n4 : decide (3 < b.st) = true := by simp; omega
            clear k3 h3 h4
            go_wp2_with fail
            go_ret
            exact HP.out
        · have HP : Hid (IntB w (rdErrI a b) (.returned (.int .i64 2)) wr) := ⟨by unfold rdErrI; rw [if_pos h1, if_pos h2, if_pos hl, if_neg (fun h => h3 h.1)], HBE.out⟩
          clear hl h1 h2
          have n3 : decide (3 < a.st) = true := by simp; omega
          clear h3
          go_wp2_with fail
          go_ret
          exact HP.out
      · have HP : Hid (IntB w (rdErrI a b) (.returned (.int .i64 1)) wr) := ⟨by unfold rdErrI; rw [if_pos h1, if_pos h2, if_neg hl], HBE.out⟩
        have hl' : (a.le != b.le) = true := by simpa using hl
        clear hl h1 h2
        go_wp2_with fail
        go_ret
        exact HP.out
end Go.Proofs.Ytoglgeaiiipchaa

namespace Go.Proofs.Ytoglgeaiiipchaa
open Go Go.RowKit Go.Maps

theorem rdI_zero {a b : Au} (h : rdErrI a b = 0) : ckA a = 0 ∧ ckA b = 0 ∧ a.le = b.le ∧ a.st ≤ 3 ∧ b.st ≤ 3 ∧ a.le ≤ 2 := by
  unfold rdErrI at h
  by_cases h1 : ckA a = 0
  · rw [if_pos h1] at h
    by_cases h2 : ckA b = 0
    · rw [if_pos h2] at h
      by_cases h3 : a.le = b.le
      · rw [if_pos h3] at h
        by_cases h4 : a.st ≤ 3 ∧ b.st ≤ 3 ∧ a.le ≤ 2
        · exact ⟨h1, h2, h3, h4⟩
        · rw [if_neg h4] at h; cases h
      · rw [if_neg h3] at h; cases h
    · rw [if_neg h2] at h; exact absurd h h2
  · rw [if_neg h1] at h; exact absurd h h1
theorem apartI_ (a b : Au) (h : rdErrI a b = 0) (A B C A' B' C' : Option Addr) (ca cb cc ca' cb' cc' : Nat) (w : World) (ra : AuRd w 0 a A B C ca cb cc) (rb : AuRd w 0 b A' B' C' ca' cb' cc') :
    Calls Try.prog 56 #[.agg #[.int .i64 a.st, .int .i64 a.le, .slice A a.fs.length ca, .slice B a.gs.length cb, .slice C a.ss.length cc], .agg #[.int .i64 b.st, .int .i64 b.le, .slice A' b.fs.length ca', .slice B' b.gs.length cb', .slice C' b.ss.length cc']] w (ApPost a b w) := by
  obtain ⟨h1, h2, h3, h4, h5, h6⟩ := rdI_zero h
  obtain ⟨oa, sa⟩ := ckA_zero.1 h1
  obtain ⟨ob, sb⟩ := ckA_zero.1 h2
  exact apart_ a b oa sa ob sb h4 h5 A B C A' B' C' ca cb cc ca' cb' cc' w ra rb
structure IncPost (a b : Au) (w : World) (e : Ending) (w' : World) : Prop where
  is : ∃ (found ok : Bool) (best : La) (H L : Option Addr) (ch cl : Nat), e = .returned (.tuple #[.bool ok, .agg #[.slice H best.h.length ch, .slice L best.l.length cl], .int .i64 (rdErrI a b)]) ∧ WyAt w' w.heap.size (H, best.h.length, ch) best.h ∧ WyAt w' w.heap.size (L, best.l.length, cl) best.l ∧
    (if rdErrI a b = 0 then ok = !found ∧ ApIs a b found best else ok = false ∧ best = ⟨[], []⟩)
  below : Below w.heap.size w w'
theorem retLa4 {fn : Func} (h : fn.results = #[.tmp 4, .cell 5 26, .tmp 6]) (tmps : Array Value) (w : World) (V : Nat) {v0 v1 x y : Value} (hx : tmps[4]? = some x) (hp : tmps[5]? = some (.pointer (some ⟨V, 0, none⟩))) (hy : tmps[6]? = some y)
    (ho : w.heap[V]? = some (.cells #[v0, v1] 26 (0, 0))) : (results fn tmps).run Try.prog w = .ok (.tuple #[x, .agg #[v0, v1], y]) w := by
  have r0 : w.cell? ⟨V, 0, none⟩ = some v0 := by simp [World.cell?, ho]
  have r1 : w.cell? ⟨V, 1, none⟩ = some v1 := by simp [World.cell?, ho]
  simp [results, h, go_sem, hp, hx, hy, r0, r1]
/-- two cells of a result are set -/
theorem la_set {W : World} {V lo : Nat} {u0 u1 : Value} (h : W.heap[V]? = some (.cells #[u0, u1] 26 (0, 0))) (hlo : lo ≤ V) {w : World} (hb : Below lo w W) (v0 v1 : Value) :
    ((W.setCell ⟨V, 0, none⟩ v0).setCell ⟨V, 1, none⟩ v1).heap[V]? = some (.cells #[v0, v1] 26 (0, 0)) ∧ Below lo w ((W.setCell ⟨V, 0, none⟩ v0).setCell ⟨V, 1, none⟩ v1) ∧
      ∀ (s : Sl) (y : List Int), WyAt W lo s y → WyAt ((W.setCell ⟨V, 0, none⟩ v0).setCell ⟨V, 1, none⟩ v1) lo s y := by
  have far : ∀ k, k ≠ V → ((W.setCell ⟨V, 0, none⟩ v0).setCell ⟨V, 1, none⟩ v1).heap[k]? = W.heap[k]? := fun k hk =>
    (Below.heap_setCell _ ⟨V, 1, none⟩ _ k hk).trans (Below.heap_setCell W ⟨V, 0, none⟩ _ k hk)
  refine ⟨by simp [World.setCell, Array.getElem?_modify, h], (hb.setCell (p := ⟨V, 0, none⟩) hlo _).setCell (p := ⟨V, 1, none⟩) hlo _, fun s y hk => hk.heap fun k hk2 => ?_⟩
  obtain ⟨cur, hc⟩ := hk.cells hk2
  refine far k fun e => ?_
  subst e
  exact cells_ne h hc (by decide)
set_option maxRecDepth 100000 in
set_option maxHeartbeats 4000000 in
theorem Included_ (a b : Au) (A B C D E F : Option Addr) (ca cb cc cd ce cf : Nat) (w : World) (ha : AuRd w 0 a A B C ca cb cc) (hb : AuRd w 0 b D E F cd ce cf) :
    Calls Try.prog 25 #[.agg #[.int .i64 a.st, .int .i64 a.le, .slice A a.fs.length ca, .slice B a.gs.length cb, .slice C a.ss.length cc], .agg #[.int .i64 b.st, .int .i64 b.le, .slice D b.fs.length cd, .slice E b.gs.length ce, .slice F b.ss.length cf]] w (IncPost a b w) := by
  have HRD := Lib.hid (fun W (hW : Below w.heap.size w W) => iready_ a b A B C D E F ca cb cc cd ce cf W (ha.below hW) (hb.below hW))
  have HAP := Lib.hid (fun (h : rdErrI a b = 0) W (hW : Below w.heap.size w W) => apartI_ a b h A B C D E F ca cb cc cd ce cf W (ha.below hW) (hb.below hW))
  have HW2 := Lib.hid (auW2_is w a b A B C D E F ca cb cc cd ce cf)
  clear ha hb
  go_enter Try.func25, Try.ntmps25
  go_upto_region 1 with fail
  change Code.wp _ _ _ _ ((auW2 w a b A B C D E F ca cb cc cd ce cf).alloc (Obj.cells #[.slice none 0 0, .slice none 0 0] 26))
  have hs2 := HW2.out.size
  have hbA : Below (auW2 w a b A B C D E F ca cb cc cd ce cf).heap.size (auW2 w a b A B C D E F ca cb cc cd ce cf) ((auW2 w a b A B C D E F ca cb cc cd ce cf).alloc (Obj.cells #[.slice none 0 0, .slice none 0 0] 26)) := (Below.refl _ _).alloc (Nat.le_refl _) _
  have HB0 := Lib.hid (Below_on HW2.out.below hbA HW2.out.below.size)
  have HA1 := Lib.hid (HW2.out.at1.below hbA HW2.out.at1.lt)
  have HA2 := Lib.hid (HW2.out.at2.below hbA HW2.out.at2.lt)
  have HL0 := Lib.hid (allocNew (auW2 w a b A B C D E F ca cb cc cd ce cf) (Obj.cells #[.slice none 0 0, .slice none 0 0] 26))
  rw [hs2] at HL0
  clear hs2 hbA HW2
  generalize (auW2 w a b A B C D E F ca cb cc cd ce cf).alloc (Obj.cells #[.slice none 0 0, .slice none 0 0] 26) = W0 at *
  obtain ⟨V, hV⟩ : ∃ V, V = w.heap.size := ⟨_, rfl⟩
  have HVV := Lib.hid hV
  rw [← hV] at HA1 HA2 HL0 ⊢
  clear hV
  obtain ⟨_, c0, c1, c2, c3, c4⟩ := HA1.out
  obtain ⟨_, d0, d1, d2, d3, d4⟩ := HA2.out
  go_upto_region 2 with (first
    | (go_at_call 55; refine (HRD.out _ HB0.out).mono ?_; rintro e w2 ⟨rfl, hb2⟩))
  have HB2 := Lib.hid (Below_on HB0.out hb2 HB0.out.size)
  have HA1' := Lib.hid (HA1.out.below hb2 HA1.out.lt)
  have HA2' := Lib.hid (HA2.out.below hb2 HA2.out.lt)
  have HL2 : Hid (w2.heap[V + 2]? = _) := (hb2.block _ (Array.getElem?_eq_some_iff.1 HL0.out).1).trans HL0.out
  clear c0 c1 c2 c3 c4 d0 d1 d2 d3 d4 hb2 HA1 HA2 HL0 HRD
  have hVlo : w.heap.size ≤ V + 2 := by have := HVV.out; omega
  have HVL := Lib.hid hVlo
  clear hVlo
  obtain ⟨_, c0, c1, c2, c3, c4⟩ := HA1'.out
  obtain ⟨_, d0, d1, d2, d3, d4⟩ := HA2'.out
  obtain ⟨b0, b1, b2, b3⟩ := la_cell2 HL2.out
  by_cases h0 : rdErrI a b = 0
  · have HH0 := Lib.hid h0
    rw [h0]
    clear h0
    go_upto_region 5 with (first
      | (go_at_call 56; refine (HAP.out HH0.out _ HB2.out).mono ?_; rintro e w3 ⟨⟨found, best, H, L, ch, cl, rfl, hA, hH, hL⟩, hb3⟩))
    have hb4 : Below w3.heap.size w3 (w3.alloc (Obj.cells #[.slice H best.h.length ch, .slice L best.l.length cl] 26)) := (Below.refl _ _).alloc (Nat.le_refl _) _
    have HB4 := Below_on (Below_on HB2.out hb3 HB2.out.size) hb4 (Nat.le_trans HB2.out.size hb3.size)
    have hL4 : (w3.alloc (Obj.cells #[.slice H best.h.length ch, .slice L best.l.length cl] 26)).heap[V + 2]? = _ := (hb4.block _ (Nat.lt_of_lt_of_le (Array.getElem?_eq_some_iff.1 HL2.out).1 hb3.size)).trans ((hb3.block _ (Array.getElem?_eq_some_iff.1 HL2.out).1).trans HL2.out)
    have hset := la_set hL4 HVL.out HB4 (.slice H best.h.length ch) (.slice L best.l.length cl)
    have hq1 := hset.2.2 _ _ ((hH.low HB2.out.size).on hb4)
    have hq2 := hset.2.2 _ _ ((hL.low HB2.out.size).on hb4)
    have hdr : Below (((w3.alloc (Obj.cells #[.slice H best.h.length ch, .slice L best.l.length cl] 26)).setCell ⟨V + 2, 0, none⟩ (.slice H best.h.length ch)).setCell ⟨V + 2, 1, none⟩ (.slice L best.l.length cl)).heap.size (((w3.alloc (Obj.cells #[.slice H best.h.length ch, .slice L best.l.length cl] 26)).setCell ⟨V + 2, 0, none⟩ (.slice H best.h.length ch)).setCell ⟨V + 2, 1, none⟩ (.slice L best.l.length cl)) (((w3.alloc (Obj.cells #[.slice H best.h.length ch, .slice L best.l.length cl] 26)).setCell ⟨V + 2, 0, none⟩ (.slice H best.h.length ch)).setCell ⟨V + 2, 1, none⟩ (.slice L best.l.length cl)).drew := (Below.refl _ _).drew
    have HP : Hid (IncPost a b w (.returned (.tuple #[.bool (!found), .agg #[.slice H best.h.length ch, .slice L best.l.length cl], .int .i64 0])) (((w3.alloc (Obj.cells #[.slice H best.h.length ch, .slice L best.l.length cl] 26)).setCell ⟨V + 2, 0, none⟩ (.slice H best.h.length ch)).setCell ⟨V + 2, 1, none⟩ (.slice L best.l.length cl)).drew) :=
      ⟨⟨found, !found, best, H, L, ch, cl, by rw [HH0.out], hq1.on hdr, hq2.on hdr, by rw [if_pos HH0.out]; exact ⟨rfl, hA⟩⟩, hset.2.1.drew⟩
    have HO1 := Lib.hid ((hdr.block _ (Array.getElem?_eq_some_iff.1 hset.1).1).trans hset.1)
    obtain ⟨x0, x1, x2, x3⟩ := la_cell2 (allocNew w3 (Obj.cells #[.slice H best.h.length ch, .slice L best.l.length cl] 26))
    obtain ⟨z0, z1, z2, z3⟩ := la_cell2 (V := V + 1 + 1) hL4
    clear hset hq1 hq2 hdr hb4 HB4 hL4 hb3 hA hH hL
    obtain ⟨Z, hZ⟩ : ∃ Z, Z = w3.heap.size := ⟨_, rfl⟩
    rw [← hZ] at x0 x1 x2 x3 ⊢
    clear hZ
    generalize w3.alloc (Obj.cells #[.slice H best.h.length ch, .slice L best.l.length cl] 26) = w4 at *
    clear c0 c1 c2 c3 c4 d0 d1 d2 d3 d4 b0 b1 b2 b3
    go_region_law
    simp only [Act.put, List.setIfInBounds_toArray, List.set_cons_zero, List.set_cons_succ]
    go_wp2_with fail
    exact bodyPost_ret (retLa4 (x := .bool (!found)) (y := .int .i64 0) Try.results25 _ _ (V + 2) rfl rfl rfl HO1.out) rfl HP.out
  · have h0' : (rdErrI a b != 0) = true := by simp [h0]
    have hset := la_set HL2.out HVL.out HB2.out (.slice none 0 0) (.slice none 0 0)
    have HP : Hid (IncPost a b w (.returned (.tuple #[.bool false, .agg #[.slice none 0 0, .slice none 0 0], .int .i64 (rdErrI a b)])) ((w2.setCell ⟨V + 2, 0, none⟩ (.slice none 0 0)).setCell ⟨V + 2, 1, none⟩ (.slice none 0 0))) :=
      ⟨⟨false, false, ⟨[], []⟩, none, none, 0, 0, rfl, GQ.nil_, GQ.nil_, by rw [if_neg h0]; exact ⟨rfl, rfl⟩⟩, hset.2.1⟩
    have HO1 := Lib.hid hset.1
    clear hset h0
    generalize rdErrI a b = ck at *
    go_wp2_with fail
    exact bodyPost_ret (retLa4 Try.results25 _ _ (V + 2) rfl rfl rfl HO1.out) rfl HP.out
structure SamePost (a b : Au) (w : World) (e : Ending) (w' : World) : Prop where
  is : ∃ same : Bool, e = .returned (.tuple #[.bool same, .int .i64 (rdErrI a b)]) ∧ (if rdErrI a b = 0 then (same = true ↔ ¬ Apart a b ∧ ¬ Apart b a) else same = false)
  below : Below w.heap.size w w'
set_option maxRecDepth 100000 in
set_option maxHeartbeats 4000000 in
theorem Same_ (a b : Au) (A B C D E F : Option Addr) (ca cb cc cd ce cf : Nat) (w : World) (ha : AuRd w 0 a A B C ca cb cc) (hb : AuRd w 0 b D E F cd ce cf) :
    Calls Try.prog 27 #[.agg #[.int .i64 a.st, .int .i64 a.le, .slice A a.fs.length ca, .slice B a.gs.length cb, .slice C a.ss.length cc], .agg #[.int .i64 b.st, .int .i64 b.le, .slice D b.fs.length cd, .slice E b.gs.length ce, .slice F b.ss.length cf]] w (SamePost a b w) := by
  have HRD := Lib.hid (fun W (hW : Below w.heap.size w W) => iready_ a b A B C D E F ca cb cc cd ce cf W (ha.below hW) (hb.below hW))
  have HAP := Lib.hid (fun (h : rdErrI a b = 0) W (hW : Below w.heap.size w W) => apartI_ a b h A B C D E F ca cb cc cd ce cf W (ha.below hW) (hb.below hW))
  have HAQ := Lib.hid (fun (h : rdErrI b a = 0) W (hW : Below w.heap.size w W) => apartI_ b a h D E F A B C cd ce cf ca cb cc W (hb.below hW) (ha.below hW))
  have HW2 := Lib.hid (auW2_is w a b A B C D E F ca cb cc cd ce cf)
  clear ha hb
  go_enter Try.func27, Try.ntmps27
  go_upto_region 1 with fail
  change Code.wp _ _ _ _ (auW2 w a b A B C D E F ca cb cc cd ce cf)
  have HB0 := Lib.hid HW2.out.below
  have HA1 := Lib.hid HW2.out.at1
  have HA2 := Lib.hid HW2.out.at2
  clear HW2
  generalize auW2 w a b A B C D E F ca cb cc cd ce cf = W0 at *
  obtain ⟨V, hV⟩ : ∃ V, V = w.heap.size := ⟨_, rfl⟩
  rw [← hV] at HA1 HA2 ⊢
  clear hV
  obtain ⟨_, c0, c1, c2, c3, c4⟩ := HA1.out
  obtain ⟨_, d0, d1, d2, d3, d4⟩ := HA2.out
  go_upto_region 2 with (first
    | (go_at_call 55; refine (HRD.out _ HB0.out).mono ?_; rintro e w2 ⟨rfl, hb2⟩))
  have HB2 := Lib.hid (Below_on HB0.out hb2 HB0.out.size)
  have HA1' := Lib.hid (HA1.out.below hb2 HA1.out.lt)
  have HA2' := Lib.hid (HA2.out.below hb2 HA2.out.lt)
  clear c0 c1 c2 c3 c4 d0 d1 d2 d3 d4 hb2 HA1 HA2 HRD
  obtain ⟨_, c0, c1, c2, c3, c4⟩ := HA1'.out
  obtain ⟨_, d0, d1, d2, d3, d4⟩ := HA2'.out
  by_cases h0 : rdErrI a b = 0
  · have HH0 := Lib.hid h0
    have HH1 : Hid (rdErrI b a = 0) := by
      obtain ⟨h1, h2, h3, h4, h5, h6⟩ := rdI_zero h0
      show _ = _
      unfold rdErrI
      rw [if_pos h2, if_pos h1, if_pos h3.symm, if_pos ⟨h5, h4, by omega⟩]
    rw [h0]
    clear h0
    go_upto_region 5 with (first
      | (go_at_call 56; refine (HAP.out HH0.out _ HB2.out).mono ?_; rintro e w3 ⟨⟨f1, best, H, L, ch, cl, rfl, hA, hH, hL⟩, hb3⟩))
    have hb4 : Below w3.heap.size w3 (w3.alloc (Obj.cells #[.slice H best.h.length ch, .slice L best.l.length cl] 26)) := (Below.refl _ _).alloc (Nat.le_refl _) _
    have HB4 := Lib.hid (Below_on (Below_on HB2.out hb3 HB2.out.size) hb4 (Nat.le_trans HB2.out.size hb3.size))
    have HA1'' := Lib.hid ((HA1'.out.below hb3 HA1'.out.lt).below hb4 (HA1'.out.below hb3 HA1'.out.lt).lt)
    have HA2'' := Lib.hid ((HA2'.out.below hb3 HA2'.out.lt).below hb4 (HA2'.out.below hb3 HA2'.out.lt).lt)
    have HF1 := Lib.hid hA.iff_
    clear c0 c1 c2 c3 c4 d0 d1 d2 d3 d4 hb3 hb4 HA1' HA2' hA hH hL
    generalize w3.alloc (Obj.cells #[.slice H best.h.length ch, .slice L best.l.length cl] 26) = w4 at *
    obtain ⟨_, c0, c1, c2, c3, c4⟩ := HA1''.out
    obtain ⟨_, d0, d1, d2, d3, d4⟩ := HA2''.out
    go_upto_region 6 with (first
      | (go_at_call 56; refine (HAQ.out HH1.out _ HB4.out).mono ?_; rintro e w5 ⟨⟨f2, best2, H2, L2, ch2, cl2, rfl, hA, hH, hL⟩, hb5⟩))
    have hb6 : Below w5.heap.size w5 (w5.alloc (Obj.cells #[.slice H2 best2.h.length ch2, .slice L2 best2.l.length cl2] 26)) := (Below.refl _ _).alloc (Nat.le_refl _) _
    have HB6 := Lib.hid (Below_on (Below_on HB4.out hb5 HB4.out.size) hb6 (Nat.le_trans HB4.out.size hb5.size))
    have HF2 := Lib.hid hA.iff_
    clear c0 c1 c2 c3 c4 d0 d1 d2 d3 d4 hb5 hb6 HA1'' HA2'' hA hH hL
    have HP : Hid (SamePost a b w (.returned (.tuple #[.bool (!f1 && !f2), .int .i64 0])) (w5.alloc (Obj.cells #[.slice H2 best2.h.length ch2, .slice L2 best2.l.length cl2] 26))) :=
      ⟨⟨_, by rw [HH0.out], by
        rw [if_pos HH0.out, ← HF1.out, ← HF2.out]
        cases f1 <;> cases f2 <;> simp⟩, HB6.out⟩
    generalize w5.alloc (Obj.cells #[.slice H2 best2.h.length ch2, .slice L2 best2.l.length cl2] 26) = w6 at *
    clear HF1 HF2
    cases f1 with
    | false =>
      go_wp2_with fail
      exact bodyPost_ret (results_tmp2 Try.results27 _ _ _) rfl HP.out
    | true =>
      go_wp2_with fail
      exact bodyPost_ret (results_tmp2 Try.results27 _ _ _) rfl HP.out
  · have h0' : (rdErrI a b != 0) = true := by simp [h0]
    have HP : Hid (SamePost a b w (.returned (.tuple #[.bool false, .int .i64 (rdErrI a b)])) w2) :=
      ⟨⟨false, rfl, by rw [if_neg h0]⟩, HB2.out⟩
    clear h0
    generalize rdErrI a b = ck at *
    go_wp2_with fail
    exact bodyPost_ret (results_tmp2 Try.results27 _ _ _) rfl HP.out
end Go.Proofs.Ytoglgeaiiipchaa
