/- Walks: the reference's TakesOf. -/
import Derived.Test.YtoglgeaiiipchaaLBTM3
import Derived.Test.YtoglgeaiiipchaaLBTM1
import Derived.Test.YtoglgeaiiipchaaLBTM2
import Derived.Deep.RegionLaw
import Derived.Deep.CutBlock
import Derived.Deep.DeepCutAuto
set_option linter.unusedSimpArgs false
set_option linter.unusedVariables false
namespace Go.Proofs.Ytoglgeaiiipchaa
open Go Go.RowKit Go.Sort

def MvPost (w : World) (a : Au) (now good : List Bool) (c : Int) (n : Nat) (e : Ending) (w' : World) : Prop :=
  ∃ gx gy xs ys, e = .returned (.tuple #[.slice (some ⟨gx, 0, none⟩) n n, .slice (some ⟨gy, 0, none⟩) n n]) ∧ w.heap.size ≤ gx ∧ w.heap.size ≤ gy ∧ gx ≠ gy ∧ BRow w' gx xs ∧ BRow w' gy ys ∧ Moved a now good c xs ys ∧ Below w.heap.size w w'
/-- a round's memory -/
structure MvAt (W0 : World) (a : Au) (now good : List Bool) (c : Int) (gx gy k : Nat) (xs ys : List Bool) (wr : World) : Prop where
  below : Below W0.heap.size W0 wr
  hx : BRow wr gx xs
  hy : BRow wr gy ys
  mv : MovedTo a now good c k xs ys

set_option maxRecDepth 100000 in
set_option maxHeartbeats 4000000 in
theorem moved_ (a : Au) (A B C : Option Addr) (ca cb cc : Nat) (now good : List Bool) (g1 g2 n : Nat) (c : Int) (w : World) (hr : AuRd w 0 a A B C ca cb cc) (ho : AuOK a) (hn : (n : Int) = a.st)
    (h1 : BRow w g1 now) (h2 : BRow w g2 good) (hl1 : now.length = n) (hl2 : good.length = n) :
    Calls Try.prog 53 #[.agg #[.int .i64 a.st, .int .i64 a.le, .slice A a.fs.length ca, .slice B a.gs.length cb, .slice C a.ss.length cc], .slice (some ⟨g1, 0, none⟩) n n, .slice (some ⟨g2, 0, none⟩) n n, .int .i64 c] w (MvPost w a now good c n) := by
  have HW := Lib.hid (auW_is w a A B C ca cb cc)
  have HR := Lib.hid (hr.below HW.out.below)
  have H1 := Lib.hid (h1.below HW.out.below h1.lt)
  have H2 := Lib.hid (h2.below HW.out.below h2.lt)
  have hg1 := h1.lt
  have hg2 := h2.lt
  have l5 := hr.ss.le
  have l6 := hr.ss.max
  have hst1 := ho.st1
  have hst2 := ho.st2
  have hn3 : n ≤ 300 := by omega
  have HMK := Lib.hid (run_makeBools a.st n hn (by omega))
  have HO := Lib.hid ho
  have HN := Lib.hid hn
  have HL1 := Lib.hid hl1
  have HL2 := Lib.hid hl2
  clear hr h1 h2 ho hn hl1 hl2
  go_enter Try.func53, Try.ntmps53
  go_upto_region 1 with fail
  change Code.wp _ _ _ _ (auW w a A B C ca cb cc)
  generalize auW w a A B C ca cb cc = W0 at *
  have HA := Lib.hid HW.out.at
  have HSZ := Lib.hid HW.out.size
  obtain ⟨V, hV⟩ : ∃ V, V = w.heap.size := ⟨_, rfl⟩
  rw [← hV] at HA HSZ ⊢
  have HBW : Hid (Below w.heap.size w W0) := HW.out.below
  have HVV := Lib.hid hV
  have hV0 := HA.out.lt
  rw [← hV] at hg1 hg2
  clear hV HW
  go_cut [10, 11] (fun s10 s11 wx => ∃ gx gy, s10 = .slice (some ⟨gx, 0, none⟩) n n ∧ s11 = .slice (some ⟨gy, 0, none⟩) n n ∧ gx ≠ gy ∧ W0.heap.size ≤ gx ∧ W0.heap.size ≤ gy ∧ Hid (MvAt W0 a now good c gx gy 0 (List.replicate n false) (List.replicate n false) wx))
  case first =>
    obtain ⟨_, c0, c1, c2, c3, c4⟩ := HA.out
    have hmk := HMK.out
    have HM0 : Hid (MovedTo a now good c 0 (List.replicate n false) (List.replicate n false)) := by
      have := MovedTo.start (a := a) (now := now) (good := good) (c := c) (by omega)
      rwa [show a.st.toNat = n by have := HN.out; omega] at this
    go_region
    all_goals
      go_wp2_with fail
      go_meet
    · exact ⟨_, _, rfl, rfl, by omega, by omega, by omega, (((Below.refl _ W0).alloc (Nat.le_refl _) _).alloc (by simp) _).drew, (BRow.new W0 n).alloc, by have := BRow.new (W0.alloc (Obj.cells (madeCells #[Value.bool false] n) 4)) n; rwa [World.size_alloc] at this, HM0.out⟩
    · exact ⟨_, _, rfl, rfl, by omega, by omega, by omega, (((Below.refl _ W0).alloc (Nat.le_refl _) _).alloc (by simp) _).drew, by have := BRow.new (W0.alloc (Obj.cells (madeCells #[Value.bool false] n) 4)) n; rwa [World.size_alloc] at this, (BRow.new W0 n).alloc, HM0.out⟩
  case rest =>
    obtain ⟨gx, gy, rfl, rfl, hxy, hgx, hgy, HMV⟩ := hcut
    obtain ⟨wo, rfl⟩ : ∃ wo : World, wo = wc := ⟨_, rfl⟩
    clear HMK
    obtain ⟨_, c0, c1, c2, c3, c4⟩ := HA.out.below HMV.out.below hV0
    go_wp2_with fail
    go_loopw [12, 13] (fun i _ wr => ∃ (k : Nat) (xs ys : List Bool), k ≤ a.ss.length ∧ i = .int .i64 k ∧ Hid (MvAt W0 a now good c gx gy k xs ys wr)) (fun i _ _ => a.ss.length - (intOf i).toNat)
    case atStart => exact ⟨0, _, _, Nat.zero_le _, rfl, HMV.out⟩
    case round =>
      obtain ⟨k, xs, ys, hk, rfl, HM⟩ := hrel
      clear c0 c1 c2 c3 c4
      have HB := Lib.hid HM.out.below
      obtain ⟨hVr, c0, c1, c2, c3, c4⟩ := HA.out.below HB.out hV0
      have hszr := HB.out.size
      by_cases hkl : k < a.ss.length
      · obtain ⟨b, o, hCC, _, hbl, q1, q2, q3⟩ := Stps.at_ (HR.out.ss.below HB.out) hkl
        subst hCC
        obtain ⟨s, hs⟩ : ∃ s, s = a.ss[k] := ⟨_, rfl⟩
        rw [← hs] at q1 q2 q3
        have hsr := HO.out.sr s (by rw [hs]; exact List.getElem_mem hkl)
        obtain ⟨F, L, T⟩ := s
        obtain ⟨⟨hF0, hF1⟩, ⟨hT0, hT1⟩, _⟩ := hsr
        simp only at hF0 hF1 hT0 hT1 q1 q2 q3
        obtain ⟨F, rfl⟩ := Int.eq_ofNat_of_zero_le hF0
        obtain ⟨T, rfl⟩ := Int.eq_ofNat_of_zero_le hT0
        have HS := Lib.hid hs
        have hFn : F < n := by have := HN.out; omega
        have hTn : T < n := by have := HN.out; omega
        clear hs hF0 hF1 hT0 hT1
        have hHF : Hid (InS now (F : Int) ↔ now.getD F false = true) := ⟨fun h => h.2, fun h => ⟨by omega, h⟩⟩
        have hHG : Hid (InS good (F : Int) ↔ good.getD F false = true) := ⟨fun h => h.2, fun h => ⟨by omega, h⟩⟩
        have hHT : Hid (a.good (T : Int) ↔ a.gs.getD T false = true) := ⟨fun h => h.2, fun h => ⟨by omega, h⟩⟩
        have hsT : Hid (0 ≤ (T : Int) ∧ (T : Int) < a.st) := by
          have := HN.out
          exact ⟨by omega, by omega⟩
        have HG8 := Lib.hid (stW_is wr ⟨(F : Int), L, (T : Int)⟩)
        go_upto_region 6 with fail
        change Code.wp _ _ _ _ (stW wr ⟨(F : Int), L, (T : Int)⟩)
        obtain ⟨G, hG⟩ : ∃ G, G = wr.heap.size := ⟨_, rfl⟩
        rw [← hG] at HG8 ⊢
        have HB8 : Hid (Below W0.heap.size W0 (stW wr ⟨(F : Int), L, (T : Int)⟩)) := Below_on HB.out HG8.out.below HB.out.size
        have HX8 : Hid (BRow (stW wr ⟨(F : Int), L, (T : Int)⟩) gx xs) := HM.out.hx.below HG8.out.below HM.out.hx.lt
        have HY8 : Hid (BRow (stW wr ⟨(F : Int), L, (T : Int)⟩) gy ys) := HM.out.hy.below HG8.out.below HM.out.hy.lt
        have hGx : gx < G := by rw [hG]; exact HM.out.hx.lt
        have hGy : gy < G := by rw [hG]; exact HM.out.hy.lt
        have HMV2 := Lib.hid HM.out.mv
        generalize stW wr ⟨(F : Int), L, (T : Int)⟩ = w8 at *
        clear c0 c1 c2 c3 c4 q1 q2 q3 HM HB hG hbl hVr hszr
        have f0 := HG8.out.c0
        have f1 := HG8.out.c1
        have f2 := HG8.out.c2
        simp only at f0 f1 f2
        by_cases hLc : L = c
        · have hLc1 : (L != c) = false := by simp [hLc]
          have HLC := Lib.hid hLc
          clear hLc
          have m1 := ((H1.out.below HB8.out (by omega)).getD_ (i := F) (by rw [HL1.out]; exact hFn) false).1
          obtain ⟨nf, hnf⟩ : ∃ nf, nf = now.getD F false := ⟨_, rfl⟩
          rw [← hnf] at m1 hHF
          clear hnf
          cases nf with
          | false =>
            have HNEXT : Hid (MvAt W0 a now good c gx gy (k + 1) xs ys w8) := ⟨HB8.out, HX8.out, HY8.out, HMV2.out.skip hkl (.inr (by rw [← HS.out]; intro h; have := hHF.out.1 h; cases this))⟩
            go_wp2_with fail
            go_roundw
            case rel => exact ⟨k + 1, xs, ys, by omega, by go_num, HNEXT.out⟩
            case measure => simp [intOf]; omega
          | true =>
            have hxl : xs.length = n := by have h1 := HMV2.out.lx; have h2 := HN.out; omega
            have hyl : ys.length = n := by have h1 := HMV2.out.ly; have h2 := HN.out; omega
            obtain ⟨x1, x2⟩ := HX8.out.getD_ (i := T) (by omega) false
            go_upto_region 8 with fail
            have HB9 : Hid (Below W0.heap.size W0 (w8.setCell ⟨gx, T, none⟩ (.bool true))) := HB8.out.setCell (p := ⟨gx, T, none⟩) hgx _
            have HX9 : Hid (BRow (w8.setCell ⟨gx, T, none⟩ (.bool true)) gx (xs.set T true)) := HX8.out.set_ T true
            have HY9 : Hid (BRow (w8.setCell ⟨gx, T, none⟩ (.bool true)) gy ys) := HY8.out.set_far (p := ⟨gx, T, none⟩) (fun h => hxy h.symm) _
            have e0 : (w8.setCell ⟨gx, T, none⟩ (.bool true)).cell? ⟨G, 0, none⟩ = some (.int .i64 (F : Int)) := (World.cell?_setCell_other _ ⟨gx, T, none⟩ ⟨G, 0, none⟩ _ (fun h => by have := congrArg Addr.block h; simp at this; omega)).trans f0
            have e2 : (w8.setCell ⟨gx, T, none⟩ (.bool true)).cell? ⟨G, 2, none⟩ = some (.int .i64 (T : Int)) := (World.cell?_setCell_other _ ⟨gx, T, none⟩ ⟨G, 2, none⟩ _ (fun h => by have := congrArg Addr.block h; simp at this; omega)).trans f2
            clear f0 f1 f2 m1 x1 x2
            generalize w8.setCell ⟨gx, T, none⟩ (.bool true) = w9 at *
            obtain ⟨_, c0, c1, c2, c3, c4⟩ := HA.out.below HB9.out hV0
            have m2 := ((H2.out.below HB9.out (by omega)).getD_ (i := F) (by rw [HL2.out]; exact hFn) false).1
            obtain ⟨y1, y2⟩ := HY9.out.getD_ (i := T) (by omega) false
            obtain ⟨nf, hnf⟩ : ∃ nf, nf = good.getD F false := ⟨_, rfl⟩
            rw [← hnf] at m2 hHG
            clear hnf
            have HIN : Hid (InS now (F : Int)) := hHF.out.2 rfl
            cases nf with
            | true =>
              have HNEXT : Hid (MvAt W0 a now good c gx gy (k + 1) (xs.set T true) (ys.set T true) (w9.setCell ⟨gy, T, none⟩ (.bool true))) := by
                have := HMV2.out.hit hkl (by rw [← HS.out]; exact HLC.out) (by rw [← HS.out]; exact HIN.out) (by rw [← HS.out]; exact hsT.out) (.inl (by rw [← HS.out]; exact hHG.out.2 rfl))
                rw [← HS.out] at this
                exact ⟨HB9.out.setCell (p := ⟨gy, T, none⟩) hgy _, HX9.out.set_far (p := ⟨gy, T, none⟩) hxy _, HY9.out.set_ T true, this⟩
              go_wp2_with fail
              go_roundw
              case rel => exact ⟨k + 1, _, _, by omega, by go_num, HNEXT.out⟩
              case measure => simp [intOf]; omega
            | false =>
              obtain ⟨b', o', hBB, _, _, q4⟩ := Bools.at_ (HR.out.gs.below HB9.out) (k := T) (by have := HO.out.gl; have := HN.out; omega)
              subst hBB
              obtain ⟨nt, hnt⟩ : ∃ nt, nt = a.gs[T]'(by have := HO.out.gl; have := HN.out; omega) := ⟨_, rfl⟩
              rw [← hnt] at q4
              have hnt2 : a.gs.getD T false = nt := by rw [getD_lt (by have := HO.out.gl; have := HN.out; omega), hnt]
              have HTT : Hid (a.good (T : Int) ↔ nt = true) := by show _ ↔ _; rw [hHT.out, hnt2]
              have hTg : T < a.gs.length := by have := HO.out.gl; have := HN.out; omega
              clear hnt hnt2
              cases nt with
              | true =>
                have HNEXT : Hid (MvAt W0 a now good c gx gy (k + 1) (xs.set T true) (ys.set T true) (w9.setCell ⟨gy, T, none⟩ (.bool true))) := by
                  have := HMV2.out.hit hkl (by rw [← HS.out]; exact HLC.out) (by rw [← HS.out]; exact HIN.out) (by rw [← HS.out]; exact hsT.out) (.inr (by rw [← HS.out]; exact HTT.out.2 rfl))
                  rw [← HS.out] at this
                  exact ⟨HB9.out.setCell (p := ⟨gy, T, none⟩) hgy _, HX9.out.set_far (p := ⟨gy, T, none⟩) hxy _, HY9.out.set_ T true, this⟩
                go_wp2_with fail
                go_roundw
                case rel => exact ⟨k + 1, _, _, by omega, by go_num, HNEXT.out⟩
                case measure => simp [intOf]; omega
              | false =>
                have HNEXT : Hid (MvAt W0 a now good c gx gy (k + 1) (xs.set T true) ys w9) := by
                  have := HMV2.out.go hkl (by rw [← HS.out]; exact HLC.out) (by rw [← HS.out]; exact HIN.out) (by rw [← HS.out]; exact hsT.out) (by rw [← HS.out]; intro h; have := hHG.out.1 h; cases this) (by rw [← HS.out]; intro h; have := HTT.out.1 h; cases this)
                  rw [← HS.out] at this
                  exact ⟨HB9.out, HX9.out, HY9.out, this⟩
                go_wp2_with fail
                go_roundw
                case rel => exact ⟨k + 1, _, _, by omega, by go_num, HNEXT.out⟩
                case measure => simp [intOf]; omega
        · have hLc1 : (L != c) = true := by simpa using hLc
          have HNEXT : Hid (MvAt W0 a now good c gx gy (k + 1) xs ys w8) := ⟨HB8.out, HX8.out, HY8.out, HMV2.out.skip hkl (.inl (by rw [← HS.out]; exact hLc))⟩
          clear hLc
          go_wp2_with fail
          go_roundw
          case rel => exact ⟨k + 1, xs, ys, by omega, by go_num, HNEXT.out⟩
          case measure => simp [intOf]; omega
      · have HP : Hid (MvPost w a now good c n (.returned (.tuple #[.slice (some ⟨gx, 0, none⟩) n n, .slice (some ⟨gy, 0, none⟩) n n])) wr) := by
          have hsz := HSZ.out
          have := HVV.out
          exact ⟨gx, gy, xs, ys, rfl, by omega, by omega, hxy, HM.out.hx, HM.out.hy, HM.out.mv.all (by omega), Below_on HBW.out HB.out HBW.out.size⟩
        go_wp2_with fail
        go_ret2
        exact HP.out
end Go.Proofs.Ytoglgeaiiipchaa

namespace Go.Proofs.Ytoglgeaiiipchaa
open Go Go.RowKit Go.Sort

/-- a bool that says whether something is so -/
def SoPost (w : World) (P : Prop) (e : Ending) (w' : World) : Prop := ∃ b : Bool, e = .returned (.bool b) ∧ (b = true ↔ P) ∧ Below w.heap.size w w'
/-- sets of states on their way, in memory -/
structure CrAt (W0 : World) (a : Au) (u : Nat → Int) (i : Nat) (q : Int) (j gx gy : Nat) (xs ys : List Bool) (wr : World) : Prop where
  below : Below W0.heap.size W0 wr
  hx : BRow wr gx xs
  hy : BRow wr gy ys
  ft : FromTo a u i q j xs ys
def Circle (a : Au) (l : La) (q : Int) (m : Nat) : Prop := Way a l.at true l.h.length q (l.h.length + l.l.length * m) q
theorem La.at_loop2 {l : La} {m i : Nat} (hi : i < l.l.length) : l.at (l.h.length + l.l.length * m + i) = l.l[i] := by
  unfold La.at
  rw [if_neg (by omega), show l.h.length + l.l.length * m + i - l.h.length = i + l.l.length * m by omega, Nat.add_mul_mod_self_left, Nat.mod_eq_of_lt hi, List.getD_eq_getElem?_getD, List.getElem?_eq_getElem hi]
  rfl

set_option maxRecDepth 100000 in
set_option maxHeartbeats 4000000 in
theorem circles_ (a : Au) (A B C D : Option Addr) (ca cb cc cd : Nat) (l : La) (q n : Nat) (w : World) (hr : AuRd w 0 a A B C ca cb cc) (ho : AuOK a) (hn : (n : Int) = a.st)
    (hl : Ints w 0 D cd l.l) (hq : q < n) (h4 : l.l.length ≤ 4000) (h5 : l.h.length ≤ 4000) :
    Calls Try.prog 54 #[.agg #[.int .i64 a.st, .int .i64 a.le, .slice A a.fs.length ca, .slice B a.gs.length cb, .slice C a.ss.length cc], .slice D l.l.length cd, .int .i64 q] w (SoPost w (∃ m, 0 < m ∧ m ≤ 2 * n ∧ Circle a l q m)) := by
  have HW := Lib.hid (auW_is w a A B C ca cb cc)
  have HR := Lib.hid (hr.below HW.out.below)
  have HL := Lib.hid (hl.below HW.out.below)
  have l1 := hl.le
  have l2 := hl.max
  have hst1 := ho.st1
  have hst2 := ho.st2
  have hn3 : n ≤ 300 := by omega
  have HMK := Lib.hid (run_makeBools a.st n hn (by omega))
  have HO := Lib.hid ho
  have HN := Lib.hid hn
  clear hr hl ho hn
  go_enter Try.func54, Try.ntmps54
  go_upto_region 1 with fail
  change Code.wp _ _ _ _ (auW w a A B C ca cb cc)
  generalize auW w a A B C ca cb cc = W0 at *
  have HA := Lib.hid HW.out.at
  have HSZ := Lib.hid HW.out.size
  obtain ⟨V, hV⟩ : ∃ V, V = w.heap.size := ⟨_, rfl⟩
  rw [← hV] at HA HSZ ⊢
  have HBW : Hid (Below w.heap.size w W0) := HW.out.below
  have HVV := Lib.hid hV
  have hV0 := HA.out.lt
  clear hV HW
  go_cut [7, 8] (fun s7 s8 wx => ∃ gx gy, s7 = .slice (some ⟨gx, 0, none⟩) n n ∧ s8 = .slice (some ⟨gy, 0, none⟩) n n ∧ gx ≠ gy ∧ W0.heap.size ≤ gx ∧ W0.heap.size ≤ gy ∧ Below W0.heap.size W0 wx ∧ Hid (BRow wx gx (List.replicate n false) ∧ BRow wx gy (List.replicate n false)))
  case first =>
    obtain ⟨_, c0, c1, c2, c3, c4⟩ := HA.out
    have hmk := HMK.out
    go_region
    all_goals
      go_wp2_with fail
      go_meet
    · exact ⟨_, _, rfl, rfl, by omega, by omega, by omega, (((Below.refl _ W0).alloc (Nat.le_refl _) _).alloc (by simp) _).drew, (BRow.new W0 n).alloc, by have := BRow.new (W0.alloc (Obj.cells (madeCells #[Value.bool false] n) 4)) n; rwa [World.size_alloc] at this⟩
    · exact ⟨_, _, rfl, rfl, by omega, by omega, by omega, (((Below.refl _ W0).alloc (Nat.le_refl _) _).alloc (by simp) _).drew, by have := BRow.new (W0.alloc (Obj.cells (madeCells #[Value.bool false] n) 4)) n; rwa [World.size_alloc] at this, (BRow.new W0 n).alloc⟩
  case rest =>
    obtain ⟨gx, gy, rfl, rfl, hxy, hgx, hgy, hb1, HX⟩ := hcut
    obtain ⟨wo, rfl⟩ : ∃ wo : World, wo = wc := ⟨_, rfl⟩
    clear HMK
    have HB1 := Lib.hid hb1
    obtain ⟨x1, x2⟩ := HX.out.1.getD_ (i := q) (by simp; exact hq) false
    go_upto_region 3 with fail
    have HC0 : Hid (CrAt W0 a l.at l.h.length q l.h.length gx gy ((List.replicate n false).set q true) (List.replicate n false) (wo.setCell ⟨gx, q, none⟩ (.bool true))) := by
      have := FromTo.start (a := a) (u := l.at) (i := l.h.length) (q := (q : Int)) (by have := HN.out; omega)
      rw [show a.st.toNat = n by have := HN.out; omega, Int.toNat_natCast] at this
      exact ⟨HB1.out.setCell (p := ⟨gx, q, none⟩) hgx _, HX.out.1.set_ q true, HX.out.2.set_far (p := ⟨gx, q, none⟩) (fun h => hxy h.symm) _, this⟩
    clear x1 x2 hb1 HB1 HX
    generalize wo.setCell ⟨gx, q, none⟩ (.bool true) = w2 at *
    go_wp2_with fail
    go_loopw [7, 8, 9, 10] (fun s7 s8 s9 _ wr => ∃ (m gx gy : Nat) (xs ys : List Bool), s7 = .slice (some ⟨gx, 0, none⟩) n n ∧ s8 = .slice (some ⟨gy, 0, none⟩) n n ∧ s9 = .int .i64 m ∧ m ≤ 2 * n ∧ Hid (CrAt W0 a l.at l.h.length q (l.h.length + l.l.length * m) gx gy xs ys wr) ∧ Hid (∀ m', 0 < m' → m' ≤ m → ¬ Circle a l q m')) (fun _ _ s _ _ => 2 * n - (intOf s).toNat)
    case atStart => exact ⟨0, gx, gy, _, _, rfl, rfl, rfl, Nat.zero_le _, HC0.out, fun m' h1 h2 => absurd h2 (by omega)⟩
    case round =>
      obtain ⟨m, g7, g8, xs, ys, rfl, rfl, rfl, hm, HCR, HNO⟩ := hrel
      clear HC0
      have HB2 := Lib.hid HCR.out.below
      obtain ⟨_, c0, c1, c2, c3, c4⟩ := HA.out.below HB2.out hV0
      by_cases hmn : m < 2 * n
      · have hN2 : (m : Int) < 2 * a.st := by have := HN.out; omega
        go_wp2_with fail
        obtain ⟨w3, rfl⟩ : ∃ w3 : World, w3 = wr := ⟨_, rfl⟩
        go_loopw [7, 8, 10] (fun s7 s8 s10 wr => ∃ (i gx gy : Nat) (xs ys : List Bool), s7 = .slice (some ⟨gx, 0, none⟩) n n ∧ s8 = .slice (some ⟨gy, 0, none⟩) n n ∧ s10 = .int .i64 i ∧ i ≤ l.l.length ∧ Hid (CrAt W0 a l.at l.h.length q (l.h.length + l.l.length * m + i) gx gy xs ys wr)) (fun _ _ s _ => l.l.length - (intOf s).toNat)
        case atStart => exact ⟨0, g7, g8, _, _, rfl, rfl, rfl, Nat.zero_le _, HCR.out⟩
        case round =>
          obtain ⟨i, p7, p8, xs2, ys2, rfl, rfl, rfl, hi, HC2⟩ := hrel
          clear c0 c1 c2 c3 c4 HCR HB2
          have HB3 := Lib.hid HC2.out.below
          obtain ⟨_, c0, c1, c2, c3, c4⟩ := HA.out.below HB3.out hV0
          have hx2 : xs2.length = n := by have h1 := HC2.out.ft.lx; have h2 := HN.out; omega
          have hy2 : ys2.length = n := by have h1 := HC2.out.ft.ly; have h2 := HN.out; omega
          by_cases hil : i < l.l.length
          · obtain ⟨b, o, hDD, _, _, q1⟩ := Ints.at_ (HL.out.below HB3.out) hil
            subst hDD
            obtain ⟨x, hx⟩ : ∃ x, x = l.l[i] := ⟨_, rfl⟩
            rw [← hx] at q1
            have HXL : Hid (l.at (l.h.length + l.l.length * m + i) = x) := by show _ = _; rw [La.at_loop2 hil, hx]
            have C9 : Hid (∀ W, Below wr.heap.size wr W → Calls Try.prog 53 #[.agg #[.int .i64 a.st, .int .i64 a.le, .slice A a.fs.length ca, .slice B a.gs.length cb, .slice C a.ss.length cc], .slice (some ⟨p7, 0, none⟩) n n, .slice (some ⟨p8, 0, none⟩) n n, .int .i64 x] W (MvPost W a xs2 ys2 x n)) := fun W hW =>
              moved_ a A B C ca cb cc xs2 ys2 p7 p8 n x W (HR.out.below (HB3.out.trans (hW.mono HB3.out.size))) HO.out HN.out (HC2.out.hx.below hW HC2.out.hx.lt) (HC2.out.hy.below hW HC2.out.hy.lt) hx2 hy2
            clear hx
            go_wp2_with fail
            go_region_held3 (fun w' => w'.cell? ⟨V, 0, none⟩ = some (.int .i64 a.st) ∧ w'.cell? ⟨V, 1, none⟩ = some (.int .i64 a.le) ∧ w'.cell? ⟨V, 2, none⟩ = some (.slice A a.fs.length ca) ∧ w'.cell? ⟨V, 3, none⟩ = some (.slice B a.gs.length cb) ∧ w'.cell? ⟨V, 4, none⟩ = some (.slice C a.ss.length cc) ∧ w'.cell? ⟨b, o + i, none⟩ = some (.int .i64 x))
              (first | go_keep | exact ⟨z0, z1, z2, z3, z4, z5⟩)
              ((go_at_call 53; refine (C9.out _ (Below.refl _ _).drew).mono ?_; rintro e w4 ⟨g5, g6, xs3, ys3, rfl, hg5, hg6, hg56, hbx, hby, hmv, hb4⟩; have hb5 : Below wr.heap.size wr w4 := (Below.refl _ wr).drew.trans hb4; have z0 := (hb5.cell (p := ⟨V, 0, none⟩) (by show V < _; omega)).trans c0; have z1 := (hb5.cell (p := ⟨V, 1, none⟩) (by show V < _; omega)).trans c1; have z2 := (hb5.cell (p := ⟨V, 2, none⟩) (by show V < _; omega)).trans c2; have z3 := (hb5.cell (p := ⟨V, 3, none⟩) (by show V < _; omega)).trans c3; have z4 := (hb5.cell (p := ⟨V, 4, none⟩) (by show V < _; omega)).trans c4; have z5 := (hb5.cell (p := ⟨b, o + i, none⟩) (by show b < _; omega)).trans q1))
            all_goals
              have HC5 : Hid (CrAt W0 a l.at l.h.length q (l.h.length + l.l.length * m + (i + 1)) g5 g6 xs3 ys3 w4) := by
                have := HC2.out.ft.step (by omega) (x' := xs3) (y' := ys3) (by rw [HXL.out]; exact hmv)
                exact ⟨Below_on HB3.out hb5 HB3.out.size, hbx, hby, this⟩
              clear hbx hby hmv hb4 hb5 z0 z1 z2 z3 z4 z5 hg5 hg6
              go_wp2_with fail
              go_roundw
              case rel => exact ⟨i + 1, g5, g6, xs3, ys3, rfl, rfl, by go_num, by omega, HC5.out⟩
              case measure => simp [intOf]; omega
          · obtain rfl : i = l.l.length := by omega
            obtain ⟨y1, y2⟩ := HC2.out.hy.getD_ (i := q) (by rw [hy2]; exact hq) false
            obtain ⟨bb, hbb⟩ : ∃ b, b = ys2.getD q false := ⟨_, rfl⟩
            rw [← hbb] at y1
            have HCI : Hid (bb = true ↔ Circle a l q (m + 1)) := by
              show _ ↔ _
              have := HC2.out.ft.sy (q : Int)
              unfold InS at this
              rw [Int.toNat_natCast, ← hbb] at this
              unfold Circle
              rw [Nat.mul_succ, ← Nat.add_assoc, ← this]
              exact ⟨fun h => ⟨by omega, h⟩, fun h => h.2⟩
            clear hbb
            cases bb with
            | true =>
              have HP : Hid (SoPost w (∃ m, 0 < m ∧ m ≤ 2 * n ∧ Circle a l q m) (.returned (.bool true)) wr) :=
                ⟨true, rfl, ⟨fun _ => ⟨m + 1, by omega, by omega, HCI.out.1 rfl⟩, fun _ => rfl⟩, Below_on HBW.out HB3.out HBW.out.size⟩
              go_wp2_with fail
              go_ret
              exact HP.out
            | false =>
              have HNO2 : Hid (∀ m', 0 < m' → m' ≤ m + 1 → ¬ Circle a l q m') := by
                intro m' h1 h2 h3
                rcases Nat.lt_or_ge m m' with h4 | h4
                · obtain rfl : m' = m + 1 := by omega
                  have := HCI.out.2 h3
                  cases this
                · exact HNO.out m' h1 h4 h3
              have HC6 : Hid (CrAt W0 a l.at l.h.length q (l.h.length + l.l.length * (m + 1)) p7 p8 xs2 ys2 wr) := by
                show CrAt _ _ _ _ _ _ _ _ _ _ _
                rw [Nat.mul_succ, ← Nat.add_assoc]
                exact HC2.out
              go_wp2_with fail
              go_roundw
              case rel => exact ⟨m + 1, p7, p8, _, _, rfl, rfl, by go_num, by omega, HC6.out, HNO2.out⟩
              case measure => simp [intOf]; omega
      · have hN2 : ¬ (m : Int) < 2 * a.st := by have := HN.out; omega
        have HP : Hid (SoPost w (∃ m, 0 < m ∧ m ≤ 2 * n ∧ Circle a l q m) (.returned (.bool false)) wr) :=
          ⟨false, rfl, ⟨fun h => (by cases h), fun ⟨m', h1, h2, h3⟩ => absurd h3 (HNO.out m' h1 (by omega))⟩, Below_on HBW.out HB2.out HBW.out.size⟩
        go_wp2_with fail
        go_ret
        exact HP.out
end Go.Proofs.Ytoglgeaiiipchaa

namespace Go.Proofs.Ytoglgeaiiipchaa
open Go Go.RowKit Go.Sort

/-- an automaton and a lasso in variables -/
def alW (w : World) (a : Au) (A B C : Option Addr) (ca cb cc : Nat) (l : La) (D E : Option Addr) (cd ce : Nat) : World :=
  (auW w a A B C ca cb cc).alloc (Obj.cells #[.slice D l.h.length cd, .slice E l.l.length ce] 26)
structure AlAt (W : World) (V : Nat) (a : Au) (A B C : Option Addr) (ca cb cc : Nat) (l : La) (D E : Option Addr) (cd ce : Nat) : Prop where
  lt : V + 1 < W.heap.size
  au : AuAt W V a A B C ca cb cc
  l0 : W.cell? ⟨V + 1, 0, none⟩ = some (.slice D l.h.length cd)
  l1 : W.cell? ⟨V + 1, 1, none⟩ = some (.slice E l.l.length ce)
theorem AlAt.below {W W' : World} {V n : Nat} {a : Au} {A B C : Option Addr} {ca cb cc : Nat} {l : La} {D E : Option Addr} {cd ce : Nat} (h : AlAt W V a A B C ca cb cc l D E cd ce) (hb : Below n W W') (hn : V + 1 < n) : AlAt W' V a A B C ca cb cc l D E cd ce :=
  ⟨Nat.lt_of_lt_of_le h.lt hb.size, h.au.below hb (by omega), (cell_on3 hb hn).trans h.l0, (cell_on3 hb hn).trans h.l1⟩
structure AlW (w W : World) (a : Au) (A B C : Option Addr) (ca cb cc : Nat) (l : La) (D E : Option Addr) (cd ce V : Nat) : Prop where
  below : Below w.heap.size w W
  size : W.heap.size = V + 1 + 1
  at_ : AlAt W V a A B C ca cb cc l D E cd ce
theorem alW_is (w : World) (a : Au) (A B C : Option Addr) (ca cb cc : Nat) (l : La) (D E : Option Addr) (cd ce : Nat) : AlW w (alW w a A B C ca cb cc l D E cd ce) a A B C ca cb cc l D E cd ce w.heap.size := by
  have h := auW_is w a A B C ca cb cc
  have hb : Below (auW w a A B C ca cb cc).heap.size (auW w a A B C ca cb cc) (alW w a A B C ca cb cc l D E cd ce) := (Below.refl _ _).alloc (Nat.le_refl _) _
  have hs : (alW w a A B C ca cb cc l D E cd ce).heap.size = w.heap.size + 1 + 1 := by unfold alW; simp [h.size]
  refine ⟨Below_on h.below hb h.below.size, hs, by omega, h.at.below hb (by rw [h.size]; omega), ?_, ?_⟩
  · unfold alW auW; go_simp
  · unfold alW auW; go_simp
/-- the set of the states that the first ones lead to, in memory -/
structure NwAt (W0 : World) (a : Au) (u : Nat → Int) (j g : Nat) (xs : List Bool) (wr : World) : Prop where
  below : Below W0.heap.size W0 wr
  hx : BRow wr g xs
  now : NowAt a u j xs
/-- the set of all states at the beginnings of loops, in memory -/
structure AlSet (a : Au) (l : La) (k : Nat) (zs : List Bool) : Prop where
  lz : (zs.length : Int) = a.st
  sz : ∀ p, InS zs p ↔ LoopAt a l k p
theorem LoopAt.succ {a : Au} {l : La} {k : Nat} {p : Int} : LoopAt a l (k + 1) p ↔ LoopAt a l k p ∨ ∃ f ∈ a.fs, Way a l.at false 0 f (l.h.length + l.l.length * k) p := by
  constructor
  · rintro ⟨i, hi, h⟩
    rcases Nat.lt_or_ge i k with h1 | h1
    · exact .inl ⟨i, h1, h⟩
    · obtain rfl : i = k := by omega
      exact .inr h
  · rintro (⟨i, hi, h⟩ | h)
    · exact ⟨i, by omega, h⟩
    · exact ⟨k, by omega, h⟩

/-- a round over the states: those that are in now, ahead of number i, put in -/
structure AddTo (xs zs zs2 : List Bool) (i : Nat) (b : Bool) : Prop where
  len : zs2.length = zs.length
  is : ∀ p, InS zs2 p ↔ InS zs p ∨ (InS xs p ∧ p < i)
  no : b = false → zs2 = zs
  yes : b = true → zs2.count false < zs.count false
theorem AddTo.start (xs zs : List Bool) : AddTo xs zs zs 0 false := ⟨rfl, fun p => ⟨.inl, fun h => h.elim id fun ⟨h1, h2⟩ => absurd h1.1 (by omega)⟩, fun _ => rfl, fun h => by cases h⟩
theorem AddTo.skip {xs zs zs2 : List Bool} {i : Nat} {b : Bool} (h : AddTo xs zs zs2 i b) (hs : xs.getD i false = true → zs2.getD i false = true) : AddTo xs zs zs2 (i + 1) b := by
  refine ⟨h.len, fun p => ?_, h.no, h.yes⟩
  rw [h.is p]
  constructor
  · rintro (h1 | ⟨h1, h2⟩)
    · exact .inl h1
    · exact .inr ⟨h1, by omega⟩
  · rintro (h1 | ⟨h1, h2⟩)
    · exact .inl h1
    · rcases Int.lt_or_le p i with h3 | h3
      · exact .inr ⟨h1, h3⟩
      · obtain rfl : p = (i : Int) := by omega
        have h4 : InS zs2 (i : Int) := ⟨by omega, hs h1.2⟩
        rcases (h.is (i : Int)).1 h4 with h5 | ⟨_, h5⟩
        · exact .inl h5
        · omega
theorem AddTo.put {xs zs zs2 : List Bool} {i : Nat} {b : Bool} (h : AddTo xs zs zs2 i b) (hi : i < zs2.length) (hx : xs.getD i false = true) (hz : zs2.getD i false = false) : AddTo xs zs (zs2.set i true) (i + 1) true := by
  refine ⟨by rw [List.length_set]; exact h.len, fun p => ?_, fun h => (by cases h), fun _ => ?_⟩
  · have := InS_set (xs := zs2) (p := (i : Int)) (q := p) ⟨by omega, by omega⟩
    rw [Int.toNat_natCast] at this
    rw [this, h.is p]
    constructor
    · rintro ((h1 | ⟨h1, h2⟩) | rfl)
      · exact .inl h1
      · exact .inr ⟨h1, by omega⟩
      · exact .inr ⟨⟨by omega, hx⟩, by omega⟩
    · rintro (h1 | ⟨h1, h2⟩)
      · exact .inl (.inl h1)
      · rcases Int.lt_or_le p i with h3 | h3
        · exact .inl (.inr ⟨h1, h3⟩)
        · exact .inr (by omega)
  · have h1 := cntS_more (s := true) zs2 i hi hz
    cases b with
    | false => rw [h.no rfl] at h1 ⊢; omega
    | true => have := h.yes rfl; omega
theorem AddTo.more {a : Au} {l : La} {j n : Nat} {xs zs zs2 : List Bool} (h : AddTo xs zs zs2 n true) (hx : NowAt a l.at (l.h.length + l.l.length * j) xs) (hl : xs.length = n) (hz : AlSet a l j zs) : AlSet a l (j + 1) zs2 := by
  refine ⟨by rw [h.len]; exact hz.lz, fun p => ?_⟩
  rw [h.is p, hz.sz p, LoopAt.succ, ← hx.sx p]
  constructor
  · rintro (h1 | ⟨h1, _⟩)
    · exact .inl h1
    · exact .inr h1
  · rintro (h1 | h1)
    · exact .inl h1
    · exact .inr ⟨h1, by have := InS_lt h1; have := h1.1; omega⟩
theorem AddTo.done {a : Au} {l : La} {j n : Nat} {xs zs zs2 : List Bool} (hp : 0 < l.l.length) (h : AddTo xs zs zs2 n false) (hx : NowAt a l.at (l.h.length + l.l.length * j) xs) (hl : xs.length = n) (hz : AlSet a l j zs) :
    ∀ p, InS zs2 p ↔ ∃ j, ∃ f ∈ a.fs, Way a l.at false 0 f (l.h.length + l.l.length * j) p := by
  have e := h.no rfl
  intro p
  rw [e, hz.sz p]
  constructor
  · rintro ⟨i, _, h1⟩; exact ⟨i, h1⟩
  · rintro ⟨j', h1⟩
    refine loopAt_all hp (fun q hq => ?_) j' p h1
    have hq' := (hx.sx q).2 hq
    have : InS zs2 q := (h.is q).2 (.inr ⟨hq', by have := InS_lt hq'; have := hq'.1; omega⟩)
    rw [e] at this
    exact (hz.sz q).1 this
set_option maxRecDepth 100000 in
set_option maxHeartbeats 8000000 in
theorem TakesOf_ (a : Au) (A B C D E : Option Addr) (ca cb cc cd ce : Nat) (l : La) (w : World) (hr : AuRd w 0 a A B C ca cb cc) (ho : AuOK a)
    (hh : Ints w 0 D cd l.h) (hl : Ints w 0 E ce l.l) (hp : 0 < l.l.length) (h4 : l.l.length ≤ 4000) (h5 : l.h.length ≤ 4000) :
    Calls Try.prog 24 #[.agg #[.int .i64 a.st, .int .i64 a.le, .slice A a.fs.length ca, .slice B a.gs.length cb, .slice C a.ss.length cc], .agg #[.slice D l.h.length cd, .slice E l.l.length ce]] w (SoPost w (TakesU a l.at)) := by
  have HW := Lib.hid (alW_is w a A B C ca cb cc l D E cd ce)
  have HR := Lib.hid (hr.below HW.out.below)
  have HH := Lib.hid (hh.below HW.out.below)
  have HL := Lib.hid (hl.below HW.out.below)
  have l1 := hl.le
  have l2 := hl.max
  have l3 := hh.le
  have l4 := hh.max
  have l5 := hr.fs.le
  have l6 := hr.fs.max
  have hst1 := ho.st1
  have hst2 := ho.st2
  obtain ⟨n, hn⟩ : ∃ n : Nat, (n : Int) = a.st := ⟨a.st.toNat, by omega⟩
  have hn3 : n ≤ 300 := by omega
  have HMK := Lib.hid (run_makeBools a.st n hn (by omega))
  have HO := Lib.hid ho
  have HN := Lib.hid hn
  have HTN : Hid (a.st.toNat = n) := by show _ = _; omega
  have HTK := Lib.hid (takes_loop ho hp)
  clear hr hl hh ho hn
  go_enter Try.func24, Try.ntmps24
  go_upto_region 1 with fail
  change Code.wp _ _ _ _ (alW w a A B C ca cb cc l D E cd ce)
  generalize alW w a A B C ca cb cc l D E cd ce = W0 at *
  have HA := Lib.hid HW.out.at_
  have HSZ := Lib.hid HW.out.size
  obtain ⟨V, hV⟩ : ∃ V, V = w.heap.size := ⟨_, rfl⟩
  rw [← hV] at HA HSZ ⊢
  have HBW : Hid (Below w.heap.size w W0) := HW.out.below
  have HVV := Lib.hid hV
  have hV1 := HA.out.lt
  obtain ⟨hV0, c0, c1, c2, c3, c4⟩ := HA.out.au
  clear hV HW
  have hmk := HMK.out
  go_upto_block 0 with fail
  obtain ⟨g5, hg5⟩ : ∃ g, g = W0.heap.size := ⟨_, rfl⟩
  have HF0 : Hid (Below W0.heap.size W0 (W0.alloc (Obj.cells (madeCells #[Value.bool false] n) 4)) ∧ BRow (W0.alloc (Obj.cells (madeCells #[Value.bool false] n) 4)) g5 (List.replicate n false) ∧ FirstS a 0 (List.replicate n false)) := by
    refine ⟨(Below.refl _ W0).alloc (Nat.le_refl _) _, by rw [hg5]; exact BRow.new W0 n, ?_⟩
    have := FirstS.start (a := a) (by omega)
    rwa [HTN.out] at this
  generalize W0.alloc (Obj.cells (madeCells #[Value.bool false] n) 4) = w1 at *
  rw [← hg5]
  have hg5' : W0.heap.size ≤ g5 := by omega
  clear hg5 hmk c0 c1 c2 c3 c4
  go_cut [6] (fun _ wx => ∃ xs, Hid (NwAt W0 a l.at 0 g5 xs wx))
  case first =>
    go_wp2_with fail
    go_loopw [6] (fun i wr => ∃ (k : Nat) (xs : List Bool), k ≤ a.fs.length ∧ i = .int .i64 k ∧ Hid (Below W0.heap.size W0 wr ∧ BRow wr g5 xs ∧ FirstS a k xs)) (fun i _ => a.fs.length - (intOf i).toNat)
    case atStart => exact ⟨0, _, Nat.zero_le _, rfl, HF0.out⟩
    case round =>
      obtain ⟨k, xs, hk, rfl, HX⟩ := hrel
      clear HF0
      obtain ⟨_, c0, c1, c2, c3, c4⟩ := (HA.out.below HX.out.1 hV1).au
      by_cases hkl : k < a.fs.length
      · obtain ⟨b, o, hAA, _, hbl, q1⟩ := Ints.at_ (HR.out.fs.below HX.out.1) hkl
        subst hAA
        obtain ⟨x, hx⟩ : ∃ x, x = a.fs[k] := ⟨_, rfl⟩
        have hxr := HO.out.fr x (by rw [hx]; exact List.getElem_mem hkl)
        have HNX : Hid (FirstS a (k + 1) (xs.set x.toNat true)) := by
          rw [hx]; exact HX.out.2.2.step HO.out hkl
        rw [← hx] at q1
        clear hx
        obtain ⟨hx0, hx1⟩ := hxr
        obtain ⟨F, rfl⟩ := Int.eq_ofNat_of_zero_le hx0
        have hFn : F < n := by have := HN.out; omega
        have hxl : xs.length = n := by have h1 := HX.out.2.2.lx; have h2 := HN.out; omega
        obtain ⟨x1, x2⟩ := HX.out.2.1.getD_ (i := F) (by omega) false
        have HNX2 : Hid (Below W0.heap.size W0 (wr.setCell ⟨g5, F, none⟩ (.bool true)) ∧ BRow (wr.setCell ⟨g5, F, none⟩ (.bool true)) g5 (xs.set F true) ∧ FirstS a (k + 1) (xs.set F true)) :=
          ⟨HX.out.1.setCell (p := ⟨g5, F, none⟩) hg5' _, HX.out.2.1.set_ F true, HNX.out⟩
        clear HNX hx0 hx1
        go_wp2_with fail
        go_roundw
        case rel => exact ⟨k + 1, _, by omega, by go_num, HNX2.out⟩
        case measure => simp [intOf]; omega
      · have HNW : Hid (NwAt W0 a l.at 0 g5 xs wr) := ⟨HX.out.1, HX.out.2.1, HX.out.2.2.now (by omega)⟩
        go_wp2_with fail
        go_meet
        exact ⟨xs, HNW.out⟩
  case rest =>
    obtain ⟨xs0, HNW⟩ := hcut
    obtain ⟨w2, rfl⟩ : ∃ w2 : World, w2 = wc := ⟨_, rfl⟩
    clear HF0
    go_upto_block 2 with fail
    go_cut [5, 7] (fun s5 _ wx => ∃ g xs, s5 = .slice (some ⟨g, 0, none⟩) n n ∧ W0.heap.size ≤ g ∧ Hid (NwAt W0 a l.at l.h.length g xs wx))
    case first =>
      go_wp2_with fail
      go_loopw [5, 7] (fun s5 s7 wr => ∃ (i g : Nat) (xs : List Bool), i ≤ l.h.length ∧ s7 = .int .i64 i ∧ s5 = .slice (some ⟨g, 0, none⟩) n n ∧ W0.heap.size ≤ g ∧ Hid (NwAt W0 a l.at i g xs wr)) (fun _ s _ => l.h.length - (intOf s).toNat)
      case atStart => exact ⟨0, g5, xs0, Nat.zero_le _, rfl, rfl, hg5', HNW.out⟩
      case round =>
        obtain ⟨i, g, xs, hi, rfl, rfl, hg, HX⟩ := hrel
        clear HNW
        have HB := Lib.hid HX.out.below
        obtain ⟨hV1r, ⟨_, c0, c1, c2, c3, c4⟩, d0, d1⟩ := HA.out.below HB.out hV1
        by_cases hil : i < l.h.length
        · obtain ⟨b, o, hDD, _, hbl, q1⟩ := Ints.at_ (HH.out.below HB.out) hil
          subst hDD
          obtain ⟨x, hx⟩ : ∃ x, x = l.h[i] := ⟨_, rfl⟩
          have HXL : Hid (l.at i = x) := by
            show _ = _
            unfold La.at
            rw [if_pos hil, List.getD_eq_getElem?_getD, List.getElem?_eq_getElem hil, hx]
            rfl
          rw [← hx] at q1
          clear hx
          have hxl : xs.length = n := by have h1 := HX.out.now.lx; have h2 := HN.out; omega
          have C9 : Hid (∀ W gz, Below wr.heap.size wr W → BRow W gz (List.replicate n false) → Calls Try.prog 53 #[.agg #[.int .i64 a.st, .int .i64 a.le, .slice A a.fs.length ca, .slice B a.gs.length cb, .slice C a.ss.length cc], .slice (some ⟨g, 0, none⟩) n n, .slice (some ⟨gz, 0, none⟩) n n, .int .i64 x] W (MvPost W a xs (List.replicate n false) x n)) := fun W gz hW hz =>
            moved_ a A B C ca cb cc xs (List.replicate n false) g gz n x W (HR.out.below (HB.out.trans (hW.mono HB.out.size))) HO.out HN.out (HX.out.hx.below hW HX.out.hx.lt) hz hxl (by simp)
          have hmk := HMK.out
          go_wp2_with fail
          go_region_held3 (fun w' => w'.cell? ⟨V, 0, none⟩ = some (.int .i64 a.st) ∧ w'.cell? ⟨V, 1, none⟩ = some (.int .i64 a.le) ∧ w'.cell? ⟨V, 2, none⟩ = some (.slice A a.fs.length ca) ∧ w'.cell? ⟨V, 3, none⟩ = some (.slice B a.gs.length cb) ∧ w'.cell? ⟨V, 4, none⟩ = some (.slice C a.ss.length cc) ∧ w'.cell? ⟨V + 1, 0, none⟩ = some (.slice (some ⟨b, o, none⟩) l.h.length cd) ∧ w'.cell? ⟨b, o + i, none⟩ = some (.int .i64 x))
            (first | go_keep | exact ⟨z0, z1, z2, z3, z4, z6, z5⟩)
            ((go_at_call 53; refine (C9.out _ _ ((Below.refl _ wr).alloc (Nat.le_refl _) _).drew (BRow.new wr n)).mono ?_; rintro e w4 ⟨g5, g6, xs3, ys3, rfl, hg5, hg6, hg56, hbx, hby, hmv, hb4⟩; have hb5 : Below wr.heap.size wr w4 := ((Below.refl _ wr).alloc (Nat.le_refl _) _).drew.trans (hb4.mono (by simp)); have z0 := (hb5.cell (p := ⟨V, 0, none⟩) (by show V < _; omega)).trans c0; have z1 := (hb5.cell (p := ⟨V, 1, none⟩) (by show V < _; omega)).trans c1; have z2 := (hb5.cell (p := ⟨V, 2, none⟩) (by show V < _; omega)).trans c2; have z3 := (hb5.cell (p := ⟨V, 3, none⟩) (by show V < _; omega)).trans c3; have z4 := (hb5.cell (p := ⟨V, 4, none⟩) (by show V < _; omega)).trans c4; have z6 := (hb5.cell (p := ⟨V + 1, 0, none⟩) (by show V + 1 < _; omega)).trans d0; have z5 := (hb5.cell (p := ⟨b, o + i, none⟩) (by show b < _; omega)).trans q1))
          all_goals
            have HC5 : Hid (W0.heap.size ≤ g5 ∧ NwAt W0 a l.at (i + 1) g5 xs3 w4) := by
              have := HX.out.now.step (g := List.replicate n false) (x' := xs3) (y' := ys3) (by rw [HXL.out]; exact hmv)
              refine ⟨?_, Below_on HB.out hb5 HB.out.size, hbx, this⟩
              have h1 := HB.out.size
              have h2 : wr.heap.size ≤ g5 := by simp at hg5; omega
              omega
            clear hbx hby hmv hb4 hb5 z0 z1 z2 z3 z4 z5 z6 hg5 hg6 hmk
            go_wp2_with fail
            go_roundw
            case rel => exact ⟨i + 1, g5, xs3, by omega, by go_num, rfl, HC5.out.1, HC5.out.2⟩
            case measure => simp [intOf]; omega
        · obtain rfl : i = l.h.length := by omega
          go_wp2_with fail
          go_meet
          exact ⟨g, xs, rfl, hg, HX.out⟩
    case rest =>
      obtain ⟨g1, xs1, rfl, hg1, HNX⟩ := hcut
      obtain ⟨w3, rfl⟩ : ∃ w3 : World, w3 = wc := ⟨_, rfl⟩
      clear HNW
      obtain ⟨hV1r, ⟨_, c0, c1, c2, c3, c4⟩, d0, d1⟩ := HA.out.below HNX.out.below hV1
      have hmk := HMK.out
      go_upto_block 4 with fail
      obtain ⟨g8, hg8⟩ : ∃ g, g = w3.heap.size := ⟨_, rfl⟩
      have HS0 : Hid (NwAt W0 a l.at (l.h.length + l.l.length * 0) g1 xs1 (w3.alloc (Obj.cells (madeCells #[Value.bool false] n) 4)) ∧ BRow (w3.alloc (Obj.cells (madeCells #[Value.bool false] n) 4)) g8 (List.replicate n false) ∧ AlSet a l 0 (List.replicate n false)) := by
        have hb : Below w3.heap.size w3 (w3.alloc (Obj.cells (madeCells #[Value.bool false] n) 4)) := (Below.refl _ w3).alloc (Nat.le_refl _) _
        refine ⟨⟨Below_on HNX.out.below hb HNX.out.below.size, HNX.out.hx.below hb HNX.out.hx.lt, HNX.out.now⟩, by rw [hg8]; exact BRow.new w3 n, ⟨by simp; exact HN.out, fun p => ⟨fun h => absurd h InS_rep, fun ⟨i, hi, _⟩ => absurd hi (by omega)⟩⟩⟩
      rw [← hg8]
      have hg18 : g1 < g8 := by rw [hg8]; exact HNX.out.hx.lt
      have hg8' : W0.heap.size ≤ g8 := by rw [hg8]; exact HNX.out.below.size
      generalize w3.alloc (Obj.cells (madeCells #[Value.bool false] n) 4) = w5 at *
      clear hg8 hmk c0 c1 c2 c3 c4 d0 d1 HNX hV1r
      go_cut [5] (fun _ wx => ∃ zs, Below W0.heap.size W0 wx ∧ Hid (BRow wx g8 zs ∧ (zs.length : Int) = a.st ∧ ∀ p, InS zs p ↔ ∃ j, ∃ f ∈ a.fs, Way a l.at false 0 f (l.h.length + l.l.length * j) p))
      case first =>
        go_wp2_with fail
        go_loopw [5, 9, 10, 11] (fun s5 _ _ _ wr => ∃ (j g : Nat) (xs zs : List Bool), s5 = .slice (some ⟨g, 0, none⟩) n n ∧ W0.heap.size ≤ g ∧ g ≠ g8 ∧ Hid (NwAt W0 a l.at (l.h.length + l.l.length * j) g xs wr ∧ BRow wr g8 zs ∧ AlSet a l j zs)) (fun _ _ _ _ wr => rowCnt false g8 wr)
        case atStart => exact ⟨0, g1, xs1, _, rfl, hg1, by omega, HS0.out⟩
        case round =>
          obtain ⟨j, g, xs, zs, rfl, hg, hgg, HX⟩ := hrel
          clear HS0
          have HB := Lib.hid HX.out.1.below
          have HCNT : Hid (rowCnt false g8 wr = zs.count false) := rowCnt_eq HX.out.2.1
          have hxl : xs.length = n := by have h1 := HX.out.1.now.lx; have h2 := HN.out; omega
          obtain ⟨wr0, rfl⟩ : ∃ w : World, w = wr := ⟨_, rfl⟩
          go_upto_block 6 with fail
          go_cut [9, 10] (fun s9 _ wx => ∃ (b : Bool) (zs2 : List Bool), s9 = .bool b ∧ Hid (Below W0.heap.size W0 wx ∧ BRow wx g xs ∧ BRow wx g8 zs2 ∧ AddTo xs zs zs2 n b))
          case first =>
            go_wp2_with fail
            go_loopw [9, 10] (fun s9 s10 wr => ∃ (i : Nat) (b : Bool) (zs2 : List Bool), i ≤ n ∧ s9 = .bool b ∧ s10 = .int .i64 i ∧ Hid (Below W0.heap.size W0 wr ∧ BRow wr g xs ∧ BRow wr g8 zs2 ∧ AddTo xs zs zs2 i b)) (fun _ s _ => n - (intOf s).toNat)
            case atStart => exact ⟨0, false, zs, Nat.zero_le _, rfl, rfl, HB.out, HX.out.1.hx, HX.out.2.1, AddTo.start xs zs⟩
            case round =>
              obtain ⟨i, b, zs2, hi, rfl, rfl, HY⟩ := hrel
              obtain ⟨_, c0, c1, c2, c3, c4⟩ := (HA.out.below HY.out.1 hV1).au
              have hzl : zs2.length = n := by have h1 := HY.out.2.2.2.len; have h2 := HX.out.2.2.lz; have h3 := HN.out; omega
              by_cases hin : i < n
              · have hin2 : (i : Int) < a.st := by have := HN.out; omega
                obtain ⟨x1, x2⟩ := HY.out.2.1.getD_ (i := i) (by omega) false
                obtain ⟨z1, z2⟩ := HY.out.2.2.1.getD_ (i := i) (by omega) false
                obtain ⟨bx, hbx⟩ : ∃ b, b = xs.getD i false := ⟨_, rfl⟩
                obtain ⟨bz, hbz⟩ : ∃ b, b = zs2.getD i false := ⟨_, rfl⟩
                rw [← hbx] at x1
                rw [← hbz] at z1
                have HBX := Lib.hid hbx
                have HBZ := Lib.hid hbz
                clear hbx hbz
                cases bx with
                | false =>
                  have HNX : Hid (Below W0.heap.size W0 wr ∧ BRow wr g xs ∧ BRow wr g8 zs2 ∧ AddTo xs zs zs2 (i + 1) b) := ⟨HY.out.1, HY.out.2.1, HY.out.2.2.1, HY.out.2.2.2.skip (fun h => by rw [← HBX.out] at h; cases h)⟩
                  go_wp2_with fail
                  go_roundw
                  case rel => exact ⟨i + 1, b, zs2, by omega, rfl, by go_num, HNX.out⟩
                  case measure => simp [intOf]; omega
                | true =>
                  cases bz with
                  | true =>
                    have HNX : Hid (Below W0.heap.size W0 wr ∧ BRow wr g xs ∧ BRow wr g8 zs2 ∧ AddTo xs zs zs2 (i + 1) b) := ⟨HY.out.1, HY.out.2.1, HY.out.2.2.1, HY.out.2.2.2.skip (fun _ => HBZ.out.symm)⟩
                    go_wp2_with fail
                    go_roundw
                    case rel => exact ⟨i + 1, b, zs2, by omega, rfl, by go_num, HNX.out⟩
                    case measure => simp [intOf]; omega
                  | false =>
                    have HNX : Hid (Below W0.heap.size W0 (wr.setCell ⟨g8, i, none⟩ (.bool true)) ∧ BRow (wr.setCell ⟨g8, i, none⟩ (.bool true)) g xs ∧ BRow (wr.setCell ⟨g8, i, none⟩ (.bool true)) g8 (zs2.set i true) ∧ AddTo xs zs (zs2.set i true) (i + 1) true) :=
                      ⟨HY.out.1.setCell (p := ⟨g8, i, none⟩) hg8' _, HY.out.2.1.set_far (p := ⟨g8, i, none⟩) hgg _, HY.out.2.2.1.set_ i true, HY.out.2.2.2.put (by omega) HBX.out.symm HBZ.out.symm⟩
                    go_wp2_with fail
                    go_roundw
                    case rel => exact ⟨i + 1, true, _, by omega, rfl, by go_num, HNX.out⟩
                    case measure => simp [intOf]; omega
              · have hin2 : ¬ (i : Int) < a.st := by have := HN.out; omega
                obtain rfl : i = n := by omega
                go_wp2_with fail
                go_meet
                exact ⟨b, zs2, rfl, HY.out⟩
          case rest =>
            obtain ⟨b, zs2, rfl, HY⟩ := hcut
            obtain ⟨w6, rfl⟩ : ∃ w : World, w = wc := ⟨_, rfl⟩
            have hzl : zs2.length = n := by have h1 := HY.out.2.2.2.len; have h2 := HX.out.2.2.lz; have h3 := HN.out; omega
            cases b with
            | false =>
              have HE : Hid (Below W0.heap.size W0 w6 ∧ BRow w6 g8 zs2 ∧ (zs2.length : Int) = a.st ∧ ∀ p, InS zs2 p ↔ ∃ j, ∃ f ∈ a.fs, Way a l.at false 0 f (l.h.length + l.l.length * j) p) :=
                ⟨HY.out.1, HY.out.2.2.1, by rw [hzl]; exact HN.out, HY.out.2.2.2.done hp HX.out.1.now hxl HX.out.2.2⟩
              go_wp2_with fail
              go_meet
              exact ⟨zs2, HE.out.1, HE.out.2⟩
            | true =>
              have HAS : Hid (AlSet a l (j + 1) zs2) := HY.out.2.2.2.more HX.out.1.now hxl HX.out.2.2
              have HST : Hid (NwAt W0 a l.at (l.h.length + l.l.length * j + 0) g xs w6 ∧ BRow w6 g8 zs2) := ⟨⟨HY.out.1, HY.out.2.1, HX.out.1.now⟩, HY.out.2.2.1⟩
              go_wp2_with fail
              go_loopw [5, 11] (fun s5 s11 wr => ∃ (i g : Nat) (xs : List Bool), i ≤ l.l.length ∧ s11 = .int .i64 i ∧ s5 = .slice (some ⟨g, 0, none⟩) n n ∧ W0.heap.size ≤ g ∧ g ≠ g8 ∧ Hid (NwAt W0 a l.at (l.h.length + l.l.length * j + i) g xs wr ∧ BRow wr g8 zs2)) (fun _ s _ => l.l.length - (intOf s).toNat)
              case atStart => exact ⟨0, g, xs, Nat.zero_le _, rfl, rfl, hg, hgg, HST.out⟩
              case round =>
                obtain ⟨i, gn, xn, hi, rfl, rfl, hgn, hgn8, HX5⟩ := hrel
                have HB5 := Lib.hid HX5.out.1.below
                obtain ⟨hV1r, ⟨_, c0, c1, c2, c3, c4⟩, d0, d1⟩ := HA.out.below HB5.out hV1
                by_cases hil : i < l.l.length
                · obtain ⟨b, o, hEE, _, hbl, q1⟩ := Ints.at_ (HL.out.below HB5.out) hil
                  subst hEE
                  obtain ⟨x, hx⟩ : ∃ x, x = l.l[i] := ⟨_, rfl⟩
                  have HXL : Hid (l.at (l.h.length + l.l.length * j + i) = x) := by show _ = _; rw [La.at_loop2 hil, hx]
                  rw [← hx] at q1
                  clear hx
                  have hxnl : xn.length = n := by have h1 := HX5.out.1.now.lx; have h2 := HN.out; omega
                  have C9 : Hid (∀ W gz, Below wr.heap.size wr W → BRow W gz (List.replicate n false) → Calls Try.prog 53 #[.agg #[.int .i64 a.st, .int .i64 a.le, .slice A a.fs.length ca, .slice B a.gs.length cb, .slice C a.ss.length cc], .slice (some ⟨gn, 0, none⟩) n n, .slice (some ⟨gz, 0, none⟩) n n, .int .i64 x] W (MvPost W a xn (List.replicate n false) x n)) := fun W gz hW hz =>
                    moved_ a A B C ca cb cc xn (List.replicate n false) gn gz n x W (HR.out.below (HB5.out.trans (hW.mono HB5.out.size))) HO.out HN.out (HX5.out.1.hx.below hW HX5.out.1.hx.lt) hz hxnl (by simp)
                  have hmk := HMK.out
                  go_wp2_with fail
                  go_region_held3 (fun w' => w'.cell? ⟨V, 0, none⟩ = some (.int .i64 a.st) ∧ w'.cell? ⟨V, 1, none⟩ = some (.int .i64 a.le) ∧ w'.cell? ⟨V, 2, none⟩ = some (.slice A a.fs.length ca) ∧ w'.cell? ⟨V, 3, none⟩ = some (.slice B a.gs.length cb) ∧ w'.cell? ⟨V, 4, none⟩ = some (.slice C a.ss.length cc) ∧ w'.cell? ⟨V + 1, 1, none⟩ = some (.slice (some ⟨b, o, none⟩) l.l.length ce) ∧ w'.cell? ⟨b, o + i, none⟩ = some (.int .i64 x))
                    (first | go_keep | exact ⟨z0, z1, z2, z3, z4, z6, z5⟩)
                    ((go_at_call 53; refine (C9.out _ _ ((Below.refl _ wr).alloc (Nat.le_refl _) _).drew (BRow.new wr n)).mono ?_; rintro e w4 ⟨g5, g6, xs3, ys3, rfl, hg5, hg6, hg56, hbx, hby, hmv, hb4⟩; have hb5 : Below wr.heap.size wr w4 := ((Below.refl _ wr).alloc (Nat.le_refl _) _).drew.trans (hb4.mono (by simp)); have z0 := (hb5.cell (p := ⟨V, 0, none⟩) (by show V < _; omega)).trans c0; have z1 := (hb5.cell (p := ⟨V, 1, none⟩) (by show V < _; omega)).trans c1; have z2 := (hb5.cell (p := ⟨V, 2, none⟩) (by show V < _; omega)).trans c2; have z3 := (hb5.cell (p := ⟨V, 3, none⟩) (by show V < _; omega)).trans c3; have z4 := (hb5.cell (p := ⟨V, 4, none⟩) (by show V < _; omega)).trans c4; have z6 := (hb5.cell (p := ⟨V + 1, 1, none⟩) (by show V + 1 < _; omega)).trans d1; have z5 := (hb5.cell (p := ⟨b, o + i, none⟩) (by show b < _; omega)).trans q1))
                  all_goals
                    have HC5 : Hid (W0.heap.size ≤ g5 ∧ g5 ≠ g8 ∧ NwAt W0 a l.at (l.h.length + l.l.length * j + (i + 1)) g5 xs3 w4 ∧ BRow w4 g8 zs2) := by
                      have := HX5.out.1.now.step (g := List.replicate n false) (x' := xs3) (y' := ys3) (by rw [HXL.out]; exact hmv)
                      have h1 := HB5.out.size
                      have h2 : wr.heap.size ≤ g5 := by simp at hg5; omega
                      have h3 := HX5.out.2.lt
                      exact ⟨by omega, by omega, ⟨Below_on HB5.out hb5 HB5.out.size, hbx, this⟩, HX5.out.2.below hb5 h3⟩
                    clear hbx hby hmv hb4 hb5 z0 z1 z2 z3 z4 z5 z6 hg5 hg6 hmk
                    go_wp2_with fail
                    go_roundw
                    case rel => exact ⟨i + 1, g5, xs3, by omega, by go_num, rfl, HC5.out.1, HC5.out.2.1, HC5.out.2.2⟩
                    case measure => simp [intOf]; omega
                · obtain rfl : i = l.l.length := by omega
                  have HE : Hid (NwAt W0 a l.at (l.h.length + l.l.length * (j + 1)) gn xn wr ∧ BRow wr g8 zs2 ∧ AlSet a l (j + 1) zs2) := by
                    refine ⟨?_, HX5.out.2, HAS.out⟩
                    rw [Nat.mul_succ, ← Nat.add_assoc]
                    exact HX5.out.1
                  have HCN : Hid (rowCnt false g8 wr < rowCnt false g8 wr0) := by
                    show _ < _
                    rw [HCNT.out, rowCnt_eq HX5.out.2]
                    exact HY.out.2.2.2.yes rfl
                  go_wp2_with fail
                  go_roundw
                  case rel => exact ⟨j + 1, gn, xn, zs2, rfl, hgn, hgn8, HE.out⟩
                  case measure => exact HCN.out
      case rest =>
        obtain ⟨zs, hb7, HZ⟩ := hcut
        obtain ⟨w7, rfl⟩ : ∃ w : World, w = wc := ⟨_, rfl⟩
        have HB7 := Lib.hid hb7
        clear hb7 HMK
        have hzl : zs.length = n := by have h2 := HZ.out.2.1; have h3 := HN.out; omega
        go_wp2_with fail
        go_loopw [12] (fun s12 wr => ∃ i : Nat, i ≤ n ∧ s12 = .int .i64 i ∧ Below W0.heap.size W0 wr ∧ Hid (BRow wr g8 zs ∧ ∀ q : Nat, q < i → zs.getD q false = true → ¬ ∃ m, 0 < m ∧ m ≤ 2 * n ∧ Circle a l q m)) (fun s _ => n - (intOf s).toNat)
        case atStart => exact ⟨0, Nat.zero_le _, rfl, HB7.out, HZ.out.1, fun q h => absurd h (by omega)⟩
        case round =>
          obtain ⟨i, hi, rfl, hb8, HNO⟩ := hrel
          have HB8 := Lib.hid hb8
          obtain ⟨hV1r, ⟨_, c0, c1, c2, c3, c4⟩, d0, d1⟩ := HA.out.below hb8 hV1
          clear hb8
          by_cases hin : i < n
          · have hin2 : (i : Int) < a.st := by have := HN.out; omega
            obtain ⟨z1, z2⟩ := HNO.out.1.getD_ (i := i) (by omega) false
            obtain ⟨bz, hbz⟩ : ∃ b, b = zs.getD i false := ⟨_, rfl⟩
            rw [← hbz] at z1
            have HBZ := Lib.hid hbz
            clear hbz
            cases bz with
            | false =>
              have HNX : Hid (BRow wr g8 zs ∧ ∀ q : Nat, q < i + 1 → zs.getD q false = true → ¬ ∃ m, 0 < m ∧ m ≤ 2 * n ∧ Circle a l q m) := by
                refine ⟨HNO.out.1, fun q h1 h2 => ?_⟩
                rcases Nat.lt_or_ge q i with h3 | h3
                · exact HNO.out.2 q h3 h2
                · obtain rfl : q = i := by omega
                  rw [← HBZ.out] at h2; cases h2
              go_wp2_with fail
              go_roundw
              case rel => exact ⟨i + 1, by omega, by go_num, HB8.out, HNX.out⟩
              case measure => simp [intOf]; omega
            | true =>
              have HC := Lib.hid (circles_ a A B C E ca cb cc ce l i n wr (HR.out.below HB8.out) HO.out HN.out (HL.out.below HB8.out) hin h4 h5)
              go_wp2_with fail
              refine HC.out.mono ?_
              rintro e w9 ⟨bb, rfl, hbb, hb9⟩
              have HBB := Lib.hid hbb
              have HB9 : Hid (Below W0.heap.size W0 w9) := Below_on HB8.out hb9 HB8.out.size
              have HR9 : Hid (BRow w9 g8 zs) := HNO.out.1.below hb9 HNO.out.1.lt
              clear hbb hb9 HC
              cases bb with
              | true =>
                have HP : Hid (SoPost w (TakesU a l.at) (.returned (.bool true)) w9) := by
                  refine ⟨true, rfl, ⟨fun _ => HTK.out.2 ?_, fun _ => rfl⟩, Below_on HBW.out HB9.out HBW.out.size⟩
                  obtain ⟨m, m1, m2, m3⟩ := HBB.out.1 rfl
                  obtain ⟨j, f, hf, hw⟩ := (HZ.out.2.2 (i : Int)).1 ⟨by omega, HBZ.out.symm⟩
                  exact ⟨i, ⟨f, hf, j, hw⟩, m, m1, by rw [HTN.out]; exact m2, m3⟩
                go_wp2_with fail
                go_ret
                exact HP.out
              | false =>
                have HNX : Hid (BRow w9 g8 zs ∧ ∀ q : Nat, q < i + 1 → zs.getD q false = true → ¬ ∃ m, 0 < m ∧ m ≤ 2 * n ∧ Circle a l q m) := by
                  refine ⟨HR9.out, fun q h1 h2 => ?_⟩
                  rcases Nat.lt_or_ge q i with h3 | h3
                  · exact HNO.out.2 q h3 h2
                  · obtain rfl : q = i := by omega
                    intro h4
                    have := HBB.out.2 h4
                    cases this
                go_wp2_with fail
                go_roundw
                case rel => exact ⟨i + 1, by omega, by go_num, HB9.out, HNX.out⟩
                case measure => simp [intOf]; omega
          · have hin2 : ¬ (i : Int) < a.st := by have := HN.out; omega
            have HP : Hid (SoPost w (TakesU a l.at) (.returned (.bool false)) wr) := by
              refine ⟨false, rfl, ⟨fun h => (by cases h), fun h => ?_⟩, Below_on HBW.out HB8.out HBW.out.size⟩
              obtain ⟨q, ⟨f, hf, j, hw⟩, m, m1, m2, m3⟩ := HTK.out.1 h
              have hq := (HZ.out.2.2 q).2 ⟨j, f, hf, hw⟩
              have hq0 := hq.1
              obtain ⟨Q, rfl⟩ := Int.eq_ofNat_of_zero_le hq0
              have hQ := InS_lt hq
              rw [Int.toNat_natCast] at hQ
              exact absurd ⟨m, m1, by rw [← HTN.out]; exact m2, m3⟩ (HNO.out.2 Q (by omega) hq.2)
            go_wp2_with fail
            go_ret
            exact HP.out
end Go.Proofs.Ytoglgeaiiipchaa
