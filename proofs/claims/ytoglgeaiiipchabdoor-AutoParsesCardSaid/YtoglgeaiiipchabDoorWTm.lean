/- Walks: auto.Trim. -/
import Derived.Test.YtoglgeaiiipchabDoorPAA
import Derived.Test.YtoglgeaiiipchabDoorWMd
import Derived.Test.YtoglgeaiiipchabDoorPrA
import Derived.Test.YtoglgeaiiipchabDoorWRc
import Derived.Deep.RegionHeld3
namespace Go.Proofs.YtoglgeaiiipchabDoor
open Go Go.RowKit Go.Sort

def TrPost (w : World) (r : Au) (n : Int) (e : Ending) (w' : World) : Prop := ∃ A B C ca cb cc, e = .returned (.tuple #[.agg #[.int .i64 r.st, .int .i64 r.le, .slice A r.fs.length ca, .slice B r.gs.length cb, .slice C r.ss.length cc], .int .i64 n]) ∧ AuRd w' 0 r A B C ca cb cc ∧ Below w.heap.size w w'
set_option maxRecDepth 100000 in
set_option maxHeartbeats 4000000 in
theorem Trim_ (a : Au) (A B C : Option Addr) (ca cb cc : Nat) (w : World) (hr : AuRd w 0 a A B C ca cb cc) :
    Calls Tryd.prog 7 #[.agg #[.int .i64 a.st, .int .i64 a.le, .slice A a.fs.length ca, .slice B a.gs.length cb, .slice C a.ss.length cc]] w (TrPost w (trimV a) (ckA a)) := by
  have HW := auW_is w a A B C ca cb cc
  have hb0 : Below w.heap.size w ((auW w a A B C ca cb cc).alloc (Obj.cells #[.int .i64 0, .int .i64 0, .slice none 0 0, .slice none 0 0, .slice none 0 0] 26)) := HW.below.alloc (by rw [HW.size]; omega) _
  have HV0 : AuAt ((auW w a A B C ca cb cc).alloc (Obj.cells #[.int .i64 0, .int .i64 0, .slice none 0 0, .slice none 0 0, .slice none 0 0] 26)) w.heap.size a A B C ca cb cc := HW.at.below ((Below.refl _ _).alloc (Nat.le_refl _) _) (by rw [HW.size]; omega)
  have hobj : ((auW w a A B C ca cb cc).alloc (Obj.cells #[.int .i64 0, .int .i64 0, .slice none 0 0, .slice none 0 0, .slice none 0 0] 26)).heap[w.heap.size + 1]? = some (.cells #[.int .i64 0, .int .i64 0, .slice none 0 0, .slice none 0 0, .slice none 0 0] 26 (0, 0)) := by
    rw [← HW.size]
    show ((auW w a A B C ca cb cc).heap.push _)[(auW w a A B C ca cb cc).heap.size]? = _
    simp
  have hsz : ((auW w a A B C ca cb cc).alloc (Obj.cells #[.int .i64 0, .int .i64 0, .slice none 0 0, .slice none 0 0, .slice none 0 0] 26)).heap.size = w.heap.size + 1 + 1 := by simp [HW.size]
  clear HW
  unfold auW at hb0 HV0 hobj hsz
  have HR0 := Lib.hid (hr.below hb0)
  go_enter Tryd.func7, Tryd.ntmps7
  go_upto_region 1 with fail
  obtain ⟨V, hV⟩ : ∃ V, V = w.heap.size := ⟨_, rfl⟩
  rw [← hV] at HV0 hobj hsz hb0 ⊢
  generalize (w.alloc (Obj.cells #[.int .i64 a.st, .int .i64 a.le, .slice A a.fs.length ca, .slice B a.gs.length cb, .slice C a.ss.length cc] 26)).alloc (Obj.cells #[.int .i64 0, .int .i64 0, .slice none 0 0, .slice none 0 0, .slice none 0 0] 26) = W0 at *
  have HVW : Hid (∀ W, Below W0.heap.size W0 W → AuAt W V a A B C ca cb cc) := fun W h => HV0.below h (by omega)
  have HRW : Hid (∀ W, Below W0.heap.size W0 W → W.heap[V + 1]? = some (.cells #[.int .i64 0, .int .i64 0, .slice none 0 0, .slice none 0 0, .slice none 0 0] 26 (0, 0))) := fun W h => (h.block _ (by omega)).trans hobj
  have HBF : Hid (∀ W, Below W0.heap.size W0 W → ∀ u0 u1 u2 u3 u4, Below w.heap.size w (set5 W (V + 1) u0 u1 u2 u3 u4)) := fun W h u0 u1 u2 u3 u4 => by
    have := below_set5 (V := V + 1) (Below_on hb0 h (by omega)) (by omega) u0 u1 u2 u3 u4
    rwa [hV] at this ⊢
  obtain ⟨_, c0, c1, c2, c3, c4⟩ := HV0
  have HCK := Lib.hid (autoCheck_ a A B C ca cb cc W0 HR0.out)
  have HSZ := Lib.hid hsz
  clear hb0 hobj hsz hr hV
  go_wp2_with fail
  refine HCK.out.mono ?_
  rintro e w1 ⟨rfl, hb1⟩
  have HB1 := Lib.hid hb1
  have HR1 := Lib.hid (HR0.out.below hb1)
  clear hb1 HCK c0 c1 c2 c3 c4 HR0
  obtain ⟨r0, r1, r2, r3, r4, rf0, rf1, rf2, rf3, rf4⟩ := obj5 (HRW.out _ HB1.out)
  by_cases hck : ckA a = 0
  · have hck1 : (ckA a != 0) = false := by simp [hck]
    obtain ⟨ho, hos⟩ := ckA_zero.1 hck
    have HO := Lib.hid ho
    have HOS := Lib.hid hos
    have HCK := Lib.hid hck
    have HMD : Hid (∀ W, Below w1.heap.size w1 W → ∀ (G : Nat) (out : List Bool), BRow W G out → RchS a out → Calls Tryd.prog 21 #[.agg #[.int .i64 a.st, .int .i64 a.le, .slice A a.fs.length ca, .slice B a.gs.length cb, .slice C a.ss.length cc], .slice (some ⟨G, 0, none⟩) out.length out.length] W (MdPost W (trimV a))) := fun W h G out hrow hrch => by
      have := Made_ a out A B C (some ⟨G, 0, none⟩) ca cb cc out.length W (HR1.out.below h) ((hrow.bools (by have := hrch.len; have := HO.out.st2; omega)).low (Nat.zero_le _)) hrch.len HO.out
      rwa [← trim_ok HCK.out hrch] at this
    have HRC : Hid (∀ W, Below w1.heap.size w1 W → Calls Tryd.prog 22 #[.agg #[.int .i64 a.st, .int .i64 a.le, .slice A a.fs.length ca, .slice B a.gs.length cb, .slice C a.ss.length cc]] W (RcPost W a)) := fun W h => Reached_ a A B C ca cb cc W (HR1.out.below h) HO.out HOS.out
    clear hck ho hos
    go_upto_region 4 with fail
    obtain ⟨_, c0, c1, c2, c3, c4⟩ := HVW.out _ HB1.out
    have hVR : V ≠ V + 1 := by omega
    go_region_held3 (fun w' => w'.cell? ⟨V, 0, none⟩ = some (.int .i64 a.st) ∧ w'.cell? ⟨V, 1, none⟩ = some (.int .i64 a.le) ∧ w'.cell? ⟨V, 2, none⟩ = some (.slice A a.fs.length ca) ∧ w'.cell? ⟨V, 3, none⟩ = some (.slice B a.gs.length cb) ∧ w'.cell? ⟨V, 4, none⟩ = some (.slice C a.ss.length cc))
      (first | go_keep | exact ⟨q0, q1, q2, q3, q4⟩)
      (first
        | (go_at_call 21; refine (HMD.out _ HBA.out G out HROW.out HRCH.out).mono ?_; rintro e wb ⟨A9, B9, C9, ca9, cb9, cc9, rfl, hrd, hbb⟩; have HBB := Lib.hid (Below_on HBA.out hbb HBA.out.size); have HBZ := Lib.hid (Below_on HB1.out HBB.out HB1.out.size); have HRD := Lib.hid hrd; obtain ⟨_, q0, q1, q2, q3, q4⟩ := HVW.out _ HBZ.out; obtain ⟨s0, s1, s2, s3, s4, sf0, sf1, sf2, sf3, sf4⟩ := obj5 (HRW.out _ HBZ.out))
        | (go_at_call 22; refine (HRC.out _ ((Below.refl _ w1).drew)).mono ?_; rintro e wa ⟨G, out, rfl, _, hrow, hrch, hba⟩; have HBA := Lib.hid (Below_on ((Below.refl w1.heap.size w1).drew) hba (Nat.le_refl _)); have HROW := Lib.hid hrow; have HRCH := Lib.hid hrch; obtain ⟨_, q0, q1, q2, q3, q4⟩ := HVW.out _ (Below_on HB1.out HBA.out HB1.out.size)))
    have hlo : V + 1 < wa.heap.size := by have := HBA.out.size; have := HB1.out.size; have := HSZ.out; omega
    have HP : Hid (TrPost w (trimV a) (ckA a) (.returned (.tuple #[.agg #[.int .i64 (trimV a).st, .int .i64 (trimV a).le, .slice A9 (trimV a).fs.length ca9, .slice B9 (trimV a).gs.length cb9, .slice C9 (trimV a).ss.length cc9], .int .i64 0])) (set5 wb (V + 1) (.int .i64 (trimV a).st) (.int .i64 (trimV a).le) (.slice A9 (trimV a).fs.length ca9) (.slice B9 (trimV a).gs.length cb9) (.slice C9 (trimV a).ss.length cc9))) := by
      rw [HCK.out]
      exact ⟨A9, B9, C9, ca9, cb9, cc9, rfl, (HRD.out.set5_ hlo _ _ _ _ _).low (Nat.zero_le _), HBF.out _ HBZ.out _ _ _ _ _⟩
    have HOO := Lib.hid (set5_heap (HRW.out _ HBZ.out) (.int .i64 (trimV a).st) (.int .i64 (trimV a).le) (.slice A9 (trimV a).fs.length ca9) (.slice B9 (trimV a).gs.length cb9) (.slice C9 (trimV a).ss.length cc9))
    clear q0 q1 q2 q3 q4 s0 s1 s2 s3 s4 sf0 sf1 sf2 sf3 sf4 hlo
    go_wp2_with fail
    exact bodyPost_ret (retAu Tryd.results7 _ _ (V + 1) rfl rfl HOO.out) rfl HP.out
  · have hck1 : (ckA a != 0) = true := by simp [hck]
    have HP : Hid (TrPost w (trimV a) (ckA a) (.returned (.tuple #[zeroA, .int .i64 (ckA a)])) (set5 w1 (V + 1) (.int .i64 0) (.int .i64 0) (.slice none 0 0) (.slice none 0 0) (.slice none 0 0))) := by
      rw [trim_no hck]
      exact ⟨none, none, none, 0, 0, 0, rfl, nul_rd _, HBF.out _ HB1.out _ _ _ _ _⟩
    have HOO := Lib.hid (set5_heap (HRW.out _ HB1.out) (.int .i64 0) (.int .i64 0) (.slice none 0 0) (.slice none 0 0) (.slice none 0 0))
    clear hck
    generalize ckA a = ck at *
    go_wp2_with fail
    exact bodyPost_ret (retAu Tryd.results7 _ _ (V + 1) rfl rfl HOO.out) rfl HP.out
end Go.Proofs.YtoglgeaiiipchabDoor
