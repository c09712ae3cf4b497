/- Walks: the law AutoParses. -/
import Derived.Test.YtoglgeaiiipchabDoorWAB
import Derived.Test.YtoglgeaiiipchabDoorWSA
import Derived.Test.YtoglgeaiiipchabDoorWRA
import Derived.Test.YtoglgeaiiipchabDoorFO
namespace Go.Proofs.YtoglgeaiiipchabDoor
open Go Go.RowKit Go.Sort

set_option maxRecDepth 100000 in
set_option maxHeartbeats 4000000 in
theorem AutoParses_ (s : List UInt8) (w : World) (hL : LaidOK w) :
    Calls Tryd.prog 4 #[.string (sB s)] w (BoolPost w true) := by
  have HL := Lib.hid (fun W (h : Below w.heap.size w W) => hL.below h (Nat.le_refl _))
  obtain ⟨a, n, er, hrs⟩ : ∃ b n er, readA s = (b, n, er) := ⟨_, _, _, rfl⟩
  have HPA : Hid (Calls Tryd.prog 14 #[.string (sB s)] w (PaPost w (a, n, er))) := by have := Parse_ s w hL; rwa [hrs] at this
  have HRA : Hid (∀ W, Calls Tryd.prog 15 #[.string (sB s)] W (PaPost W (a, n, er))) := fun W => by have := ReadAuto_ s W; rwa [hrs] at this
  clear hL hrs
  go_enter Tryd.func4, Tryd.ntmps4
  go_upto_region 1 with fail
  go_wp2_with fail
  refine HPA.out.mono ?_
  rintro e w1 ⟨A, B, C, ca, cb, cc, rfl, hr1, hb1⟩
  dsimp only
  have h1 := auW_is w1 a A B C ca cb cc
  unfold auW at h1
  have HB1 := Lib.hid (Below_on hb1 h1.below hb1.size)
  have HR1 := Lib.hid (hr1.below h1.below)
  have HA1 := Lib.hid h1.at
  clear hr1 hb1 h1 HPA
  go_upto_region 2 with fail
  obtain ⟨V, hV⟩ : ∃ V, V = w1.heap.size := ⟨_, rfl⟩
  rw [← hV] at HA1 ⊢
  clear hV
  generalize w1.alloc (Obj.cells #[.int .i64 a.st, .int .i64 a.le, .slice A a.fs.length ca, .slice B a.gs.length cb, .slice C a.ss.length cc] 26) = W1 at *
  go_wp2_with fail
  refine (HRA.out _).mono ?_
  rintro e w2 ⟨D, E, F, cd, ce, cf, rfl, hr2, hb2⟩
  dsimp only
  have h2 := auW_is w2 a D E F cd ce cf
  unfold auW at h2
  have HB2 := Lib.hid (Below_on (Below_on HB1.out hb2 HB1.out.size) h2.below (Nat.le_trans HB1.out.size hb2.size))
  have HR1' := Lib.hid ((HR1.out.below hb2).below h2.below)
  have HR2 := Lib.hid (hr2.below h2.below)
  have HA1' := Lib.hid ((HA1.out.below hb2 HA1.out.lt).below h2.below (Nat.lt_of_lt_of_le HA1.out.lt hb2.size))
  have HA2 := Lib.hid h2.at
  clear hr2 hb2 h2 HRA HR1 HA1 HB1
  go_upto_region 3 with fail
  obtain ⟨X, hX⟩ : ∃ X, X = w2.heap.size := ⟨_, rfl⟩
  rw [← hX] at HA2 ⊢
  clear hX
  generalize w2.alloc (Obj.cells #[.int .i64 a.st, .int .i64 a.le, .slice D a.fs.length cd, .slice E a.gs.length ce, .slice F a.ss.length cf] 26) = W2 at *
  have HAB := Lib.hid (autoBegun_ W2 (HL.out _ HB2.out))
  go_wp2_with fail
  refine HAB.out.mono ?_
  rintro e w3 ⟨rfl, hb3⟩
  have HB3 := Lib.hid (Below_on HB2.out hb3 HB2.out.size)
  have HSA := Lib.hid (SameAuto_ a A B C D E F ca cb cc cd ce cf w3 (HR1'.out.below hb3) (HR2.out.below hb3))
  obtain ⟨_, c0, c1, c2, c3, c4⟩ := HA1'.out.below hb3 HA1'.out.lt
  obtain ⟨_, d0, d1, d2, d3, d4⟩ := HA2.out.below hb3 HA2.out.lt
  clear hb3 HAB
  go_wp2_with fail
  refine HSA.out.mono ?_
  rintro e w4 ⟨rfl, hb4⟩
  have HP : Hid (BoolPost w true (.returned (.bool true)) w4) := ⟨rfl, Below_on HB3.out hb4 HB3.out.size⟩
  clear hb4 HSA
  go_wp2_with fail
  go_ret
  exact HP.out
end Go.Proofs.YtoglgeaiiipchabDoor
