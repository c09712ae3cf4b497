/- Walks: the law's autoIs. -/
import Derived.Test.YtoglgeaiiipchabDoorWSA
import Derived.Test.YtoglgeaiiipchabDoorWTm
namespace Go.Proofs.YtoglgeaiiipchabDoor
open Go Go.RowKit Go.Sort

theorem AuAt.set5_ {w : World} {V : Nat} {u0 u1 u2 u3 u4 : Value} {t : TypeId} {a : Au} {A B C : Option Addr} {ca cb cc : Nat} {X : Nat} (h : AuAt w X a A B C ca cb cc) (hX : X ≠ V) : AuAt (Go.Proofs.YtoglgeaiiipchabDoor.set5 w V u0 u1 u2 u3 u4) X a A B C ca cb cc := by
  obtain ⟨h0, h1, h2, h3, h4, h5⟩ := h
  have hf := set5_far w V u0 u1 u2 u3 u4 hX
  exact ⟨by rw [set5_size]; exact h0, (World.cell?_of_block (w := w) (a := ⟨X, 0, none⟩) hf).trans h1, (World.cell?_of_block (w := w) (a := ⟨X, 1, none⟩) hf).trans h2, (World.cell?_of_block (w := w) (a := ⟨X, 2, none⟩) hf).trans h3, (World.cell?_of_block (w := w) (a := ⟨X, 3, none⟩) hf).trans h4, (World.cell?_of_block (w := w) (a := ⟨X, 4, none⟩) hf).trans h5⟩
set_option maxRecDepth 100000 in
set_option maxHeartbeats 4000000 in
theorem autoIs_ (g v : Au) (n : Int) (A B C D E F : Option Addr) (ca cb cc cd ce cf : Nat) (w : World) (hg : AuRd w 0 g A B C ca cb cc) (hv : AuRd w 0 v D E F cd ce cf) (h : g = if n = 0 then v else nulA) :
    Calls Tryd.prog 13 #[.agg #[.int .i64 g.st, .int .i64 g.le, .slice A g.fs.length ca, .slice B g.gs.length cb, .slice C g.ss.length cc], .int .i64 n, .int .i64 n, .agg #[.int .i64 v.st, .int .i64 v.le, .slice D v.fs.length cd, .slice E v.gs.length ce, .slice F v.ss.length cf]] w (BoolPost w true) := by
  have h1 := auW_is w g A B C ca cb cc
  have h2 := auW_is (auW w g A B C ca cb cc) v D E F cd ce cf
  have HB0 : Hid (Below w.heap.size w (auW (auW w g A B C ca cb cc) v D E F cd ce cf)) := Below_on h1.below h2.below h1.below.size
  have HA1 : Hid (AuAt (auW (auW w g A B C ca cb cc) v D E F cd ce cf) w.heap.size g A B C ca cb cc) := h1.at.below h2.below h1.at.lt
  have HA2 : Hid (AuAt (auW (auW w g A B C ca cb cc) v D E F cd ce cf) (w.heap.size + 1) v D E F cd ce cf) := by have := h2.at; rwa [h1.size] at this
  have hobj : (auW (auW w g A B C ca cb cc) v D E F cd ce cf).heap[w.heap.size + 1]? = some (.cells #[.int .i64 v.st, .int .i64 v.le, .slice D v.fs.length cd, .slice E v.gs.length ce, .slice F v.ss.length cf] 26 (0, 0)) := by
    rw [← h1.size]
    show ((auW w g A B C ca cb cc).heap.push _)[(auW w g A B C ca cb cc).heap.size]? = _
    simp
  have HOB := Lib.hid hobj
  have HR1 := Lib.hid (hg.below HB0.out)
  have HR2 := Lib.hid (hv.below HB0.out)
  have HH := Lib.hid h
  clear h1 h2 hg hv hobj h
  go_enter Tryd.func13, Tryd.ntmps13
  go_upto_region 1 with fail
  change Code.wp _ _ _ _ (auW (auW w g A B C ca cb cc) v D E F cd ce cf)
  generalize auW (auW w g A B C ca cb cc) v D E F cd ce cf = W0 at *
  obtain ⟨V, hV⟩ : ∃ V, V = w.heap.size := ⟨_, rfl⟩
  rw [← hV] at HA1 HA2 HOB ⊢
  have HV := Lib.hid hV
  clear hV
  by_cases hn : n = 0
  · subst hn
    obtain rfl : g = v := HH.out
    obtain ⟨_, c0, c1, c2, c3, c4⟩ := HA1.out
    obtain ⟨_, d0, d1, d2, d3, d4⟩ := HA2.out
    have HS := Lib.hid (SameAuto_ g A B C D E F ca cb cc cd ce cf W0 HR1.out HR2.out)
    go_wp2_with fail
    refine HS.out.mono ?_
    rintro e w1 ⟨rfl, hb1⟩
    have HB1 := Lib.hid (Below_on HB0.out hb1 HB0.out.size)
    clear hb1 HS c0 c1 c2 c3 c4 d0 d1 d2 d3 d4
    go_wp2_with fail
    go_ret
    exact ⟨rfl, HB1.out⟩
  · obtain rfl : g = nulA := HH.out.trans (if_neg hn)
    clear HH
    have hn1 : (n != 0) = true := by simp [hn]
    have HS0 : Hid (AuAt (set5 W0 (V + 1) (.int .i64 0) (.int .i64 0) (.slice none 0 0) (.slice none 0 0) (.slice none 0 0)) V nulA A B C ca cb cc) := AuAt.set5_ (t := 0) HA1.out (by omega)
    have HOO := Lib.hid (obj5 (set5_heap HOB.out (.int .i64 0) (.int .i64 0) (.slice none 0 0) (.slice none 0 0) (.slice none 0 0)))
    have HB0' : Hid (Below w.heap.size w (set5 W0 (V + 1) (.int .i64 0) (.int .i64 0) (.slice none 0 0) (.slice none 0 0) (.slice none 0 0))) := below_set5 HB0.out (by rw [HV.out]; omega) _ _ _ _ _
    have HRA : Hid (AuRd (set5 W0 (V + 1) (.int .i64 0) (.int .i64 0) (.slice none 0 0) (.slice none 0 0) (.slice none 0 0)) 0 nulA A B C ca cb cc) := ⟨⟨HR1.out.fs.le, HR1.out.fs.cap, HR1.out.fs.max, fun hne => absurd rfl hne⟩, ⟨HR1.out.gs.le, HR1.out.gs.cap, HR1.out.gs.max, fun hne => absurd rfl hne⟩, ⟨HR1.out.ss.le, HR1.out.ss.cap, HR1.out.ss.max, fun hne => absurd rfl hne⟩⟩
    have HRB : Hid (AuRd (set5 W0 (V + 1) (.int .i64 0) (.int .i64 0) (.slice none 0 0) (.slice none 0 0) (.slice none 0 0)) 0 nulA none none none 0 0 0) := nul_rd _
    obtain ⟨s0, s1, s2, s3, s4, sf0, sf1, sf2, sf3, sf4⟩ := obj5 HOB.out
    clear HR1 HR2
    go_upto_region 3 with fail
    change Code.wp _ _ _ _ (set5 W0 (V + 1) (.int .i64 0) (.int .i64 0) (.slice none 0 0) (.slice none 0 0) (.slice none 0 0))
    generalize set5 W0 (V + 1) (.int .i64 0) (.int .i64 0) (.slice none 0 0) (.slice none 0 0) (.slice none 0 0) = W1 at *
    clear s0 s1 s2 s3 s4 sf0 sf1 sf2 sf3 sf4
    obtain ⟨_, c0, c1, c2, c3, c4⟩ := HS0.out
    obtain ⟨d0, d1, d2, d3, d4, _⟩ := HOO.out
    have HS := Lib.hid (SameAuto_ nulA A B C none none none ca cb cc 0 0 0 W1 HRA.out HRB.out)
    go_wp2_with fail
    refine HS.out.mono ?_
    rintro e w1 ⟨rfl, hb1⟩
    have HB1 := Lib.hid (Below_on HB0'.out hb1 HB0'.out.size)
    clear hb1 HS c0 c1 c2 c3 c4 d0 d1 d2 d3 d4
    go_wp2_with fail
    go_ret
    exact ⟨rfl, HB1.out⟩
end Go.Proofs.YtoglgeaiiipchabDoor
