/- Walks: the reference's SameAuto, at the same. -/
import Derived.Test.YtoglgeaiiipchabDoorAu
import Derived.Test.YtoglgeaiiipchabDoorSI
import Derived.Deep.RegionLaw
import Derived.Deep.CutBlock
import Derived.Deep.DeepCutAuto
namespace Go.Proofs.YtoglgeaiiipchabDoor
open Go Go.RowKit Go.Sort

set_option maxRecDepth 100000 in
set_option maxHeartbeats 4000000 in
theorem SameAuto_ (a : Au) (A B C D E F : Option Addr) (ca cb cc cd ce cf : Nat) (w : World) (ha : AuRd w 0 a A B C ca cb cc) (hb : AuRd w 0 a D E F cd ce cf) :
    Calls Tryd.prog 16 #[.agg #[.int .i64 a.st, .int .i64 a.le, .slice A a.fs.length ca, .slice B a.gs.length cb, .slice C a.ss.length cc], .agg #[.int .i64 a.st, .int .i64 a.le, .slice D a.fs.length cd, .slice E a.gs.length ce, .slice F a.ss.length cf]] w fun e w' => e = .returned (.bool true) ∧ Below w.heap.size w w' := by
  have h1 := auW_is w a A B C ca cb cc
  have h2 := auW_is (auW w a A B C ca cb cc) a D E F cd ce cf
  have HB0 : Hid (Below w.heap.size w (auW (auW w a A B C ca cb cc) a D E F cd ce cf)) := Below_on h1.below h2.below h1.below.size
  have HA1 : Hid (AuAt (auW (auW w a A B C ca cb cc) a D E F cd ce cf) w.heap.size a A B C ca cb cc) := h1.at.below h2.below h1.at.lt
  have HA2 : Hid (AuAt (auW (auW w a A B C ca cb cc) a D E F cd ce cf) (w.heap.size + 1) a D E F cd ce cf) := by have := h2.at; rwa [h1.size] at this
  have HR1 := Lib.hid (ha.below HB0.out)
  have HR2 := Lib.hid (hb.below HB0.out)
  have l1 := ha.gs.max
  have l2 := ha.ss.max
  have l3 := hb.gs.le
  have l4 := hb.ss.le
  have l5 := ha.gs.le
  have l6 := ha.ss.le
  clear h1 h2 ha hb
  go_enter Tryd.func16, Tryd.ntmps16
  go_upto_region 1 with fail
  change Code.wp _ _ _ _ (auW (auW w a A B C ca cb cc) a D E F cd ce cf)
  generalize auW (auW w a A B C ca cb cc) a D E F cd ce cf = W0 at *
  obtain ⟨V, hV⟩ : ∃ V, V = w.heap.size := ⟨_, rfl⟩
  rw [← hV] at HA1 HA2 ⊢
  have HV := Lib.hid hV
  clear hV
  obtain ⟨_, c0, c1, c2, c3, c4⟩ := HA1.out
  obtain ⟨_, d0, d1, d2, d3, d4⟩ := HA2.out
  have HS := Lib.hid (SameInts_ A D ca cd a.fs a.fs W0 HR1.out.fs HR2.out.fs)
  rw [show decide (a.fs = a.fs) = true by simp] at HS
  go_wp2_with fail
  refine HS.out.mono ?_
  rintro e w1 ⟨rfl, hb1⟩
  have HB1 := Lib.hid hb1
  clear hb1 c0 c1 c2 c3 c4 d0 d1 d2 d3 d4 HS
  obtain ⟨_, c0, c1, c2, c3, c4⟩ := HA1.out.below HB1.out HA1.out.lt
  obtain ⟨_, d0, d1, d2, d3, d4⟩ := HA2.out.below HB1.out HA2.out.lt
  go_wp2_with fail
  go_loopw [5] (fun s5 wr => ∃ i : Nat, i ≤ a.gs.length ∧ s5 = .int .i64 (i : Int) ∧ Hid (Below W0.heap.size W0 wr)) (fun s5 _ => a.gs.length - (intOf s5).toNat)
  case atStart => exact ⟨0, Nat.zero_le _, rfl, HB1.out⟩
  case round =>
    obtain ⟨i, hi, rfl, HB⟩ := hrel
    clear c0 c1 c2 c3 c4 d0 d1 d2 d3 d4
    obtain ⟨_, c0, c1, c2, c3, c4⟩ := HA1.out.below HB.out HA1.out.lt
    obtain ⟨_, d0, d1, d2, d3, d4⟩ := HA2.out.below HB.out HA2.out.lt
    by_cases hil : i < a.gs.length
    · have q1 : (i : Int) < (a.gs.length : Int) := by omega
      obtain ⟨b1, o1, rfl, _, _, y1⟩ := Bools.at_ (HR1.out.gs.below HB.out) (k := i) hil
      obtain ⟨b2, o2, rfl, _, _, y2⟩ := Bools.at_ (HR2.out.gs.below HB.out) (k := i) hil
      generalize a.gs[i]'hil = x at *
      go_wp2_with fail
      go_quiet (fail)
      have HB3 := Lib.hid (below_drewN HB.out nq)
      go_wp2_with fail
      go_roundw
      case rel => exact ⟨i + 1, by omega, by go_num, HB3.out⟩
      case measure => simp [intOf]; omega
    · have q1 : ¬ (i : Int) < (a.gs.length : Int) := by omega
      go_wp2_with fail
      go_loopw [6] (fun s6 wx => ∃ k : Nat, k ≤ a.ss.length ∧ s6 = .int .i64 (k : Int) ∧ Hid (Below W0.heap.size W0 wx)) (fun s6 _ => a.ss.length - (intOf s6).toNat)
      case atStart => exact ⟨0, Nat.zero_le _, rfl, HB.out⟩
      case round =>
        obtain ⟨k, hk, rfl, HBx⟩ := hrel
        clear c0 c1 c2 c3 c4 d0 d1 d2 d3 d4
        obtain ⟨_, c0, c1, c2, c3, c4⟩ := HA1.out.below HBx.out HA1.out.lt
        obtain ⟨_, d0, d1, d2, d3, d4⟩ := HA2.out.below HBx.out HA2.out.lt
        by_cases hkl : k < a.ss.length
        · have q2 : (k : Int) < (a.ss.length : Int) := by omega
          obtain ⟨b1, o1, rfl, _, _, y0, y1, y2⟩ := Stps.at_ (HR1.out.ss.below HBx.out) hkl
          obtain ⟨b2, o2, rfl, _, _, z0, z1, z2⟩ := Stps.at_ (HR2.out.ss.below HBx.out) hkl
          generalize a.ss[k]'hkl = x at *
          go_wp2_with fail
          go_quiet (fail)
          have HB3 := Lib.hid (below_drewN HBx.out nq)
          go_wp2_with fail
          go_roundw
          case rel => exact ⟨k + 1, by omega, by go_num, HB3.out⟩
          case measure => simp [intOf]; omega
        · have q2 : ¬ (k : Int) < (a.ss.length : Int) := by omega
          go_wp2_with fail
          go_ret
          exact ⟨rfl, Below_on HB0.out HBx.out HB0.out.size⟩
end Go.Proofs.YtoglgeaiiipchabDoor
