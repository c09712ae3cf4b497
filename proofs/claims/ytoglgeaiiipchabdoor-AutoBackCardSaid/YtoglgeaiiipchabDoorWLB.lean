/- Walks: the law AutoBack. -/
import Derived.Test.YtoglgeaiiipchabDoorWAB
namespace Go.Proofs.YtoglgeaiiipchabDoor
open Go Go.RowKit

set_option maxRecDepth 100000 in
set_option maxHeartbeats 4000000 in
theorem AutoBack_ (a : Au) (A B C : Option Addr) (ca cb cc : Nat) (s : List UInt8) (w : World) (hr : AuRd w 0 a A B C ca cb cc) (hL : LaidOK w) :
    Calls Tryd.prog 5 #[.agg #[.int .i64 a.st, .int .i64 a.le, .slice A a.fs.length ca, .slice B a.gs.length cb, .slice C a.ss.length cc], .string (sB s)] w (BoolPost w true) := by
  have HW := auW_is w a A B C ca cb cc
  have hb0 := HW.below
  have HL := Lib.hid (fun W (h : Below w.heap.size w W) => hL.below h (Nat.le_refl _))
  have HR := Lib.hid (fun W (h : Below w.heap.size w W) => hr.below h)
  have hV0 := HW.at
  clear HW hL hr
  unfold auW at hb0 hV0
  go_enter Tryd.func5, Tryd.ntmps5
  go_upto_region 1 with fail
  obtain ⟨V, hV⟩ : ∃ V, V = w.heap.size := ⟨_, rfl⟩
  rw [← hV] at hV0 ⊢
  have HVV := Lib.hid hV
  clear hV
  generalize w.alloc (Obj.cells #[.int .i64 a.st, .int .i64 a.le, .slice A a.fs.length ca, .slice B a.gs.length cb, .slice C a.ss.length cc] 26) = W0 at *
  have HB0 := Lib.hid hb0
  have HVA := Lib.hid (fun W (h : Below W0.heap.size W0 W) => hV0.below h hV0.lt)
  have HAB := Lib.hid (autoBegun_ W0 (HL.out _ hb0))
  clear hb0 hV0
  go_wp2_with fail
  refine HAB.out.mono ?_
  rintro e w1 ⟨rfl, hb1⟩
  have HB1 := Lib.hid hb1
  have HW1 := Lib.hid (Below_on HB0.out hb1 HB0.out.size)
  have HPR := Lib.hid (PrintA_ a A B C ca cb cc w1 (HL.out _ HW1.out) (HR.out _ HW1.out))
  obtain ⟨_, c0, c1, c2, c3, c4⟩ := HVA.out _ hb1
  clear hb1 HAB
  go_wp2_with fail
  refine HPR.out.mono ?_
  rintro e w2 ⟨rfl, hb2⟩
  have HB2 := Lib.hid (Below_on HB1.out hb2 HB1.out.size)
  have HW2 := Lib.hid (Below_on HW1.out hb2 HW1.out.size)
  clear hb2 HPR c0 c1 c2 c3 c4
  have HW2' := HW2.out
  obtain ⟨b, n, er, hrs⟩ : ∃ b n er, readA s = (b, n, er) := ⟨_, _, _, rfl⟩
  have HTAIL : Hid (∀ ws, Below w.heap.size w ws → Calls Tryd.prog 14 #[.string (sB s)] ws (PaPost ws (b, n, er))) := fun ws h => by have := Parse_ s ws (HL.out _ h); rwa [hrs] at this
  by_cases hc : ckA a = 0
  · have e1 : (ckA a == 0) = true := by simp [hc]
    by_cases hlen : (printP a).length ≤ 100000
    · have q1 : ((sB (printP a)).size : Int) ≤ 100000 := by rw [sB_size]; omega
      have hrd : readA (printP a) = (a, 0, 0) := by
        have : printP a = printA a := if_pos hc
        rw [this] at hlen ⊢
        exact read_print hc hlen
      have HPA : Hid (Calls Tryd.prog 14 #[.string (sB (printP a))] w2 (PaPost w2 (a, 0, 0))) := by
        have := Parse_ (printP a) w2 (HL.out _ HW2.out)
        rwa [hrd] at this
      clear hlen hrd hc
      generalize printP a = pt at *
      generalize ckA a = ck at *
      go_wp2_with fail
      refine HPA.out.mono ?_
      rintro e w3 ⟨D, E, F, cd, ce, cf, rfl, hr3, hb3⟩
      have hba : Below w3.heap.size w3 (w3.alloc (Obj.cells #[.int .i64 a.st, .int .i64 a.le, .slice D a.fs.length cd, .slice E a.gs.length ce, .slice F a.ss.length cf] 26)) := (Below.refl _ _).alloc (Nat.le_refl _) _
      have HB3 := Lib.hid (Below_on (Below_on HB2.out hb3 HB2.out.size) hba (Nat.le_trans HB2.out.size hb3.size))
      have HW3 := Lib.hid (Below_on (Below_on HW2.out hb3 HW2.out.size) hba (Nat.le_trans HW2.out.size hb3.size))
      have HSA := Lib.hid (SameAuto_ a A B C D E F ca cb cc cd ce cf _ (HR.out _ HW3.out) (hr3.below hba))
      have hX := auW_is w3 a D E F cd ce cf
      unfold auW at hX
      obtain ⟨_, x0, x1, x2, x3, x4⟩ := hX.at
      clear hX hr3 hb3 hba HPA HW2'
      go_upto_region 6 with fail
      obtain ⟨X, hX⟩ : ∃ X, X = w3.heap.size := ⟨_, rfl⟩
      rw [← hX] at x0 x1 x2 x3 x4 ⊢
      clear hX
      generalize w3.alloc (Obj.cells #[.int .i64 a.st, .int .i64 a.le, .slice D a.fs.length cd, .slice E a.gs.length ce, .slice F a.ss.length cf] 26) = W3 at *
      obtain ⟨_, c0, c1, c2, c3, c4⟩ := HVA.out _ HB3.out
      go_wp2_with fail
      refine HSA.out.mono ?_
      rintro e w4 ⟨rfl, hb4⟩
      have HWS := Lib.hid (Below_on HW3.out hb4 HW3.out.size)
      clear c0 c1 c2 c3 c4 x0 x1 x2 x3 x4 hb4 HSA HB3 HW3
      go_upto_region 8 with fail
      go_wp2_with fail
      refine (HTAIL.out _ HWS.out).mono ?_
      rintro e w5 ⟨A5, B5, C5, ca5, cb5, cc5, rfl, hr5, hb5⟩
      have hba : Below w5.heap.size w5 (w5.alloc (Obj.cells #[.int .i64 b.st, .int .i64 b.le, .slice A5 b.fs.length ca5, .slice B5 b.gs.length cb5, .slice C5 b.ss.length cc5] 26)) := (Below.refl _ _).alloc (Nat.le_refl _) _
      have HW6 := Lib.hid (Below_on (Below_on HWS.out hb5 HWS.out.size) hba (Nat.le_trans HWS.out.size hb5.size))
      have hX := auW_is w5 b A5 B5 C5 ca5 cb5 cc5
      unfold auW at hX
      obtain ⟨_, x0, x1, x2, x3, x4⟩ := hX.at
      have HR6 := Lib.hid (hr5.below hba)
      clear hX hr5 hba hb5
      by_cases her : er = 0
      · subst her
        obtain ⟨hck, hpr⟩ := print_read hrs
        have HPB : Hid (∀ W, Below w.heap.size w W → AuRd W 0 b A5 B5 C5 ca5 cb5 cc5 → Calls Tryd.prog 6 #[.agg #[.int .i64 b.st, .int .i64 b.le, .slice A5 b.fs.length ca5, .slice B5 b.gs.length cb5, .slice C5 b.ss.length cc5]] W fun e w' => e = .returned (.tuple #[.string (sB s), .int .i64 0]) ∧ Below W.heap.size W w') := fun W hW hR => by
          have := PrintA_ b A5 B5 C5 ca5 cb5 cc5 W (HL.out _ hW) hR
          rwa [show printP b = s by unfold printP; rw [if_pos hck]; exact hpr, hck] at this
        clear hck hpr hrs
        go_wp2_with fail
        refine (HPB.out _ HW6.out HR6.out).mono ?_
        rintro e w7 ⟨rfl, hb7⟩
        have HP := Lib.hid (Below_on HW6.out hb7 HW6.out.size)
        clear x0 x1 x2 x3 x4 hb7 HPB
        go_wp2_with fail
        go_ret
        exact ⟨rfl, HP.out⟩
      · have h1 : (er != 0) = true := by simp [her]
        have hb := read_err hrs her
        have hst : b.st = 0 := by rw [hb]; rfl
        rw [hst] at x0 HW6
        clear hb her hrs
        go_wp2_with fail
        go_ret
        exact ⟨rfl, HW6.out⟩
    · have q1 : ¬ ((sB (printP a)).size : Int) ≤ 100000 := by rw [sB_size]; omega
      have HWS := HW2
      clear hlen hc HW2'
      go_upto_region 8 with fail
      go_wp2_with fail
      refine (HTAIL.out _ HWS.out).mono ?_
      rintro e w5 ⟨A5, B5, C5, ca5, cb5, cc5, rfl, hr5, hb5⟩
      have hba : Below w5.heap.size w5 (w5.alloc (Obj.cells #[.int .i64 b.st, .int .i64 b.le, .slice A5 b.fs.length ca5, .slice B5 b.gs.length cb5, .slice C5 b.ss.length cc5] 26)) := (Below.refl _ _).alloc (Nat.le_refl _) _
      have HW6 := Lib.hid (Below_on (Below_on HWS.out hb5 HWS.out.size) hba (Nat.le_trans HWS.out.size hb5.size))
      have hX := auW_is w5 b A5 B5 C5 ca5 cb5 cc5
      unfold auW at hX
      obtain ⟨_, x0, x1, x2, x3, x4⟩ := hX.at
      have HR6 := Lib.hid (hr5.below hba)
      clear hX hr5 hba hb5
      by_cases her : er = 0
      · subst her
        obtain ⟨hck, hpr⟩ := print_read hrs
        have HPB : Hid (∀ W, Below w.heap.size w W → AuRd W 0 b A5 B5 C5 ca5 cb5 cc5 → Calls Tryd.prog 6 #[.agg #[.int .i64 b.st, .int .i64 b.le, .slice A5 b.fs.length ca5, .slice B5 b.gs.length cb5, .slice C5 b.ss.length cc5]] W fun e w' => e = .returned (.tuple #[.string (sB s), .int .i64 0]) ∧ Below W.heap.size W w') := fun W hW hR => by
          have := PrintA_ b A5 B5 C5 ca5 cb5 cc5 W (HL.out _ hW) hR
          rwa [show printP b = s by unfold printP; rw [if_pos hck]; exact hpr, hck] at this
        clear hck hpr hrs
        go_wp2_with fail
        refine (HPB.out _ HW6.out HR6.out).mono ?_
        rintro e w7 ⟨rfl, hb7⟩
        have HP := Lib.hid (Below_on HW6.out hb7 HW6.out.size)
        clear x0 x1 x2 x3 x4 hb7 HPB
        go_wp2_with fail
        go_ret
        exact ⟨rfl, HP.out⟩
      · have h1 : (er != 0) = true := by simp [her]
        have hb := read_err hrs her
        have hst : b.st = 0 := by rw [hb]; rfl
        rw [hst] at x0 HW6
        clear hb her hrs
        go_wp2_with fail
        go_ret
        exact ⟨rfl, HW6.out⟩
  · have e1 : (ckA a == 0) = false := by simp [hc]
    have HWS := HW2
    clear hc HW2'
    go_upto_region 8 with fail
    go_wp2_with fail
    refine (HTAIL.out _ HWS.out).mono ?_
    rintro e w5 ⟨A5, B5, C5, ca5, cb5, cc5, rfl, hr5, hb5⟩
    have hba : Below w5.heap.size w5 (w5.alloc (Obj.cells #[.int .i64 b.st, .int .i64 b.le, .slice A5 b.fs.length ca5, .slice B5 b.gs.length cb5, .slice C5 b.ss.length cc5] 26)) := (Below.refl _ _).alloc (Nat.le_refl _) _
    have HW6 := Lib.hid (Below_on (Below_on HWS.out hb5 HWS.out.size) hba (Nat.le_trans HWS.out.size hb5.size))
    have hX := auW_is w5 b A5 B5 C5 ca5 cb5 cc5
    unfold auW at hX
    obtain ⟨_, x0, x1, x2, x3, x4⟩ := hX.at
    have HR6 := Lib.hid (hr5.below hba)
    clear hX hr5 hba hb5
    by_cases her : er = 0
    · subst her
      obtain ⟨hck, hpr⟩ := print_read hrs
      have HPB : Hid (∀ W, Below w.heap.size w W → AuRd W 0 b A5 B5 C5 ca5 cb5 cc5 → Calls Tryd.prog 6 #[.agg #[.int .i64 b.st, .int .i64 b.le, .slice A5 b.fs.length ca5, .slice B5 b.gs.length cb5, .slice C5 b.ss.length cc5]] W fun e w' => e = .returned (.tuple #[.string (sB s), .int .i64 0]) ∧ Below W.heap.size W w') := fun W hW hR => by
        have := PrintA_ b A5 B5 C5 ca5 cb5 cc5 W (HL.out _ hW) hR
        rwa [show printP b = s by unfold printP; rw [if_pos hck]; exact hpr, hck] at this
      clear hck hpr hrs
      go_wp2_with fail
      refine (HPB.out _ HW6.out HR6.out).mono ?_
      rintro e w7 ⟨rfl, hb7⟩
      have HP := Lib.hid (Below_on HW6.out hb7 HW6.out.size)
      clear x0 x1 x2 x3 x4 hb7 HPB
      go_wp2_with fail
      go_ret
      exact ⟨rfl, HP.out⟩
    · have h1 : (er != 0) = true := by simp [her]
      have hb := read_err hrs her
      have hst : b.st = 0 := by rw [hb]; rfl
      rw [hst] at x0 HW6
      clear hb her hrs
      go_wp2_with fail
      go_ret
      exact ⟨rfl, HW6.out⟩
end Go.Proofs.YtoglgeaiiipchabDoor
