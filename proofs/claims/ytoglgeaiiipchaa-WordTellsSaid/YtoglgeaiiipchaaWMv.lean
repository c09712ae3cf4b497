/- Walks: the reference's moved. -/
import Derived.Test.YtoglgeaiiipchaaWCA
import Derived.Test.YtoglgeaiiipchaaBR
import Derived.Test.YtoglgeaiiipchaaPM
import Derived.Deep.RegionLaw
import Derived.Deep.CutBlock
import Derived.Deep.DeepCutAuto
namespace Go.Proofs.Ytoglgeaiiipchaa
open Go Go.RowKit Go.Sort

def MvPost (w : World) (a : Au) (now good : List Bool) (c : Int) (n : Nat) (e : Ending) (w' : World) : Prop :=
  ∃ gx gy xs ys, e = .returned (.tuple #[.slice (some ⟨gx, 0, none⟩) n n, .slice (some ⟨gy, 0, none⟩) n n]) ∧ w.heap.size ≤ gx ∧ w.heap.size ≤ gy ∧ gx ≠ gy ∧ BRow w' gx xs ∧ BRow w' gy ys ∧ Moved a now good c xs ys ∧ Below w.heap.size w w'
/-- a round's memory -/
structure MvAt (W0 : World) (a : Au) (now good : List Bool) (c : Int) (gx gy k : Nat) (xs ys : List Bool) (wr : World) : Prop where
  below : Below W0.heap.size W0 wr
  hx : BRow wr gx xs
  hy : BRow wr gy ys
  mv : MovedTo a now good c k xs ys

set_option maxRecDepth 100000 in
set_option maxHeartbeats 4000000 in
theorem moved_ (a : Au) (A B C : Option Addr) (ca cb cc : Nat) (now good : List Bool) (g1 g2 n : Nat) (c : Int) (w : World) (hr : AuRd w 0 a A B C ca cb cc) (ho : AuOK a) (hn : (n : Int) = a.st)
    (h1 : BRow w g1 now) (h2 : BRow w g2 good) (hl1 : now.length = n) (hl2 : good.length = n) :
    Calls Try.prog 53 #[.agg #[.int .i64 a.st, .int .i64 a.le, .slice A a.fs.length ca, .slice B a.gs.length cb, .slice C a.ss.length cc], .slice (some ⟨g1, 0, none⟩) n n, .slice (some ⟨g2, 0, none⟩) n n, .int .i64 c] w (MvPost w a now good c n) := by
  have HW := Lib.hid (auW_is w a A B C ca cb cc)
  have HR := Lib.hid (hr.below HW.out.below)
  have H1 := Lib.hid (h1.below HW.out.below h1.lt)
  have H2 := Lib.hid (h2.below HW.out.below h2.lt)
  have hg1 := h1.lt
  have hg2 := h2.lt
  have l5 := hr.ss.le
  have l6 := hr.ss.max
  have hst1 := ho.st1
  have hst2 := ho.st2
  have hn3 : n ≤ 300 := by omega
  have HMK := Lib.hid (run_makeBools a.st n hn (by omega))
  have HO := Lib.hid ho
  have HN := Lib.hid hn
  have HL1 := Lib.hid hl1
  have HL2 := Lib.hid hl2
  clear hr h1 h2 ho hn hl1 hl2
  go_enter Try.func53, Try.ntmps53
  go_upto_region 1 with fail
  change Code.wp _ _ _ _ (auW w a A B C ca cb cc)
  generalize auW w a A B C ca cb cc = W0 at *
  have HA := Lib.hid HW.out.at
  have HSZ := Lib.hid HW.out.size
  obtain ⟨V, hV⟩ : ∃ V, V = w.heap.size := ⟨_, rfl⟩
  rw [← hV] at HA HSZ ⊢
  have HBW : Hid (Below w.heap.size w W0) := HW.out.below
  have HVV := Lib.hid hV
  have hV0 := HA.out.lt
  rw [← hV] at hg1 hg2
  clear hV HW
  go_cut [10, 11] (fun s10 s11 wx => ∃ gx gy, s10 = .slice (some ⟨gx, 0, none⟩) n n ∧ s11 = .slice (some ⟨gy, 0, none⟩) n n ∧ gx ≠ gy ∧ W0.heap.size ≤ gx ∧ W0.heap.size ≤ gy ∧ Hid (MvAt W0 a now good c gx gy 0 (List.replicate n false) (List.replicate n false) wx))
  case first =>
    obtain ⟨_, c0, c1, c2, c3, c4⟩ := HA.out
    have hmk := HMK.out
    have HM0 : Hid (MovedTo a now good c 0 (List.replicate n false) (List.replicate n false)) := by
      have := MovedTo.start (a := a) (now := now) (good := good) (c := c) (by omega)
      rwa [show a.st.toNat = n by have := HN.out; omega] at this
    go_region
    all_goals
      go_wp2_with fail
      go_meet
    · exact ⟨_, _, rfl, rfl, by omega, by omega, by omega, (((Below.refl _ W0).alloc (Nat.le_refl _) _).alloc (by simp) _).drew, (BRow.new W0 n).alloc, by have := BRow.new (W0.alloc (Obj.cells (madeCells #[Value.bool false] n) 4)) n; rwa [World.size_alloc] at this, HM0.out⟩
    · exact ⟨_, _, rfl, rfl, by omega, by omega, by omega, (((Below.refl _ W0).alloc (Nat.le_refl _) _).alloc (by simp) _).drew, by have := BRow.new (W0.alloc (Obj.cells (madeCells #[Value.bool false] n) 4)) n; rwa [World.size_alloc] at this, (BRow.new W0 n).alloc, HM0.out⟩
  case rest =>
    obtain ⟨gx, gy, rfl, rfl, hxy, hgx, hgy, HMV⟩ := hcut
    obtain ⟨wo, rfl⟩ : ∃ wo : World, wo = wc := ⟨_, rfl⟩
    clear HMK
    obtain ⟨_, c0, c1, c2, c3, c4⟩ := HA.out.below HMV.out.below hV0
    go_wp2_with fail
    go_loopw [12, 13] (fun i _ wr => ∃ (k : Nat) (xs ys : List Bool), k ≤ a.ss.length ∧ i = .int .i64 k ∧ Hid (MvAt W0 a now good c gx gy k xs ys wr)) (fun i _ _ => a.ss.length - (intOf i).toNat)
    case atStart => exact ⟨0, _, _, Nat.zero_le _, rfl, HMV.out⟩
    case round =>
      obtain ⟨k, xs, ys, hk, rfl, HM⟩ := hrel
      clear c0 c1 c2 c3 c4
      have HB := Lib.hid HM.out.below
      obtain ⟨hVr, c0, c1, c2, c3, c4⟩ := HA.out.below HB.out hV0
      have hszr := HB.out.size
      by_cases hkl : k < a.ss.length
      · obtain ⟨b, o, hCC, _, hbl, q1, q2, q3⟩ := Stps.at_ (HR.out.ss.below HB.out) hkl
        subst hCC
        obtain ⟨s, hs⟩ : ∃ s, s = a.ss[k] := ⟨_, rfl⟩
        rw [← hs] at q1 q2 q3
        have hsr := HO.out.sr s (by rw [hs]; exact List.getElem_mem hkl)
        obtain ⟨F, L, T⟩ := s
        obtain ⟨⟨hF0, hF1⟩, ⟨hT0, hT1⟩, _⟩ := hsr
        simp only at hF0 hF1 hT0 hT1 q1 q2 q3
        obtain ⟨F, rfl⟩ := Int.eq_ofNat_of_zero_le hF0
        obtain ⟨T, rfl⟩ := Int.eq_ofNat_of_zero_le hT0
        have HS := Lib.hid hs
        have hFn : F < n := by have := HN.out; omega
        have hTn : T < n := by have := HN.out; omega
        clear hs hF0 hF1 hT0 hT1
        have hHF : Hid (InS now (F : Int) ↔ now.getD F false = true) := ⟨fun h => h.2, fun h => ⟨by omega, h⟩⟩
        have hHG : Hid (InS good (F : Int) ↔ good.getD F false = true) := ⟨fun h => h.2, fun h => ⟨by omega, h⟩⟩
        have hHT : Hid (a.good (T : Int) ↔ a.gs.getD T false = true) := ⟨fun h => h.2, fun h => ⟨by omega, h⟩⟩
        have hsT : Hid (0 ≤ (T : Int) ∧ (T : Int) < a.st) := by
          have := HN.out
          exact ⟨by omega, by omega⟩
        have HG8 := Lib.hid (stW_is wr ⟨(F : Int), L, (T : Int)⟩)
        go_upto_region 6 with fail
        change Code.wp _ _ _ _ (stW wr ⟨(F : Int), L, (T : Int)⟩)
        obtain ⟨G, hG⟩ : ∃ G, G = wr.heap.size := ⟨_, rfl⟩
        rw [← hG] at HG8 ⊢
        have HB8 : Hid (Below W0.heap.size W0 (stW wr ⟨(F : Int), L, (T : Int)⟩)) := Below_on HB.out HG8.out.below HB.out.size
        have HX8 : Hid (BRow (stW wr ⟨(F : Int), L, (T : Int)⟩) gx xs) := HM.out.hx.below HG8.out.below HM.out.hx.lt
        have HY8 : Hid (BRow (stW wr ⟨(F : Int), L, (T : Int)⟩) gy ys) := HM.out.hy.below HG8.out.below HM.out.hy.lt
        have hGx : gx < G := by rw [hG]; exact HM.out.hx.lt
        have hGy : gy < G := by rw [hG]; exact HM.out.hy.lt
        have HMV2 := Lib.hid HM.out.mv
        generalize stW wr ⟨(F : Int), L, (T : Int)⟩ = w8 at *
        clear c0 c1 c2 c3 c4 q1 q2 q3 HM HB hG hbl hVr hszr
        have f0 := HG8.out.c0
        have f1 := HG8.out.c1
        have f2 := HG8.out.c2
        simp only at f0 f1 f2
        by_cases hLc : L = c
        · have hLc1 : (L != c) = false := by simp [hLc]
          have HLC := Lib.hid hLc
          clear hLc
          have m1 := ((H1.out.below HB8.out (by omega)).getD_ (i := F) (by rw [HL1.out]; exact hFn) false).1
          obtain ⟨nf, hnf⟩ : ∃ nf, nf = now.getD F false := ⟨_, rfl⟩
          rw [← hnf] at m1 hHF
          clear hnf
          cases nf with
          | false =>
            have HNEXT : Hid (MvAt W0 a now good c gx gy (k + 1) xs ys w8) := ⟨HB8.out, HX8.out, HY8.out, HMV2.out.skip hkl (.inr (by rw [← HS.out]; intro h; have := hHF.out.1 h; cases this))⟩
            go_wp2_with fail
            go_roundw
            case rel => exact ⟨k + 1, xs, ys, by omega, by go_num, HNEXT.out⟩
            case measure => simp [intOf]; omega
          | true =>
            have hxl : xs.length = n := by have h1 := HMV2.out.lx; have h2 := HN.out; omega
            have hyl : ys.length = n := by have h1 := HMV2.out.ly; have h2 := HN.out; omega
            obtain ⟨x1, x2⟩ := HX8.out.getD_ (i := T) (by omega) false
            go_upto_region 8 with fail
            have HB9 : Hid (Below W0.heap.size W0 (w8.setCell ⟨gx, T, none⟩ (.bool true))) := HB8.out.setCell (p := ⟨gx, T, none⟩) hgx _
            have HX9 : Hid (BRow (w8.setCell ⟨gx, T, none⟩ (.bool true)) gx (xs.set T true)) := HX8.out.set_ T true
            have HY9 : Hid (BRow (w8.setCell ⟨gx, T, none⟩ (.bool true)) gy ys) := HY8.out.set_far (p := ⟨gx, T, none⟩) (fun h => hxy h.symm) _
            have e0 : (w8.setCell ⟨gx, T, none⟩ (.bool true)).cell? ⟨G, 0, none⟩ = some (.int .i64 (F : Int)) := (World.cell?_setCell_other _ ⟨gx, T, none⟩ ⟨G, 0, none⟩ _ (fun h => by have := congrArg Addr.block h; simp at this; omega)).trans f0
            have e2 : (w8.setCell ⟨gx, T, none⟩ (.bool true)).cell? ⟨G, 2, none⟩ = some (.int .i64 (T : Int)) := (World.cell?_setCell_other _ ⟨gx, T, none⟩ ⟨G, 2, none⟩ _ (fun h => by have := congrArg Addr.block h; simp at this; omega)).trans f2
            clear f0 f1 f2 m1 x1 x2
            generalize w8.setCell ⟨gx, T, none⟩ (.bool true) = w9 at *
            obtain ⟨_, c0, c1, c2, c3, c4⟩ := HA.out.below HB9.out hV0
            have m2 := ((H2.out.below HB9.out (by omega)).getD_ (i := F) (by rw [HL2.out]; exact hFn) false).1
            obtain ⟨y1, y2⟩ := HY9.out.getD_ (i := T) (by omega) false
            obtain ⟨nf, hnf⟩ : ∃ nf, nf = good.getD F false := ⟨_, rfl⟩
            rw [← hnf] at m2 hHG
            clear hnf
            have HIN : Hid (InS now (F : Int)) := hHF.out.2 rfl
            cases nf with
            | true =>
              have HNEXT : Hid (MvAt W0 a now good c gx gy (k + 1) (xs.set T true) (ys.set T true) (w9.setCell ⟨gy, T, none⟩ (.bool true))) := by
                have := HMV2.out.hit hkl (by rw [← HS.out]; exact HLC.out) (by rw [← HS.out]; exact HIN.out) (by rw [← HS.out]; exact hsT.out) (.inl (by rw [← HS.out]; exact hHG.out.2 rfl))
                rw [← HS.out] at this
                exact ⟨HB9.out.setCell (p := ⟨gy, T, none⟩) hgy _, HX9.out.set_far (p := ⟨gy, T, none⟩) hxy _, HY9.out.set_ T true, this⟩
              go_wp2_with fail
              go_roundw
              case rel => exact ⟨k + 1, _, _, by omega, by go_num, HNEXT.out⟩
              case measure => simp [intOf]; omega
            | false =>
              obtain ⟨b', o', hBB, _, _, q4⟩ := Bools.at_ (HR.out.gs.below HB9.out) (k := T) (by have := HO.out.gl; have := HN.out; omega)
              subst hBB
              obtain ⟨nt, hnt⟩ : ∃ nt, nt = a.gs[T]'(by have := HO.out.gl; have := HN.out; omega) := ⟨_, rfl⟩
              rw [← hnt] at q4
              have hnt2 : a.gs.getD T false = nt := by rw [getD_lt (by have := HO.out.gl; have := HN.out; omega), hnt]
              have HTT : Hid (a.good (T : Int) ↔ nt = true) := by show _ ↔ _; rw [hHT.out, hnt2]
              have hTg : T < a.gs.length := by have := HO.out.gl; have := HN.out; omega
              clear hnt hnt2
              cases nt with
              | true =>
                have HNEXT : Hid (MvAt W0 a now good c gx gy (k + 1) (xs.set T true) (ys.set T true) (w9.setCell ⟨gy, T, none⟩ (.bool true))) := by
                  have := HMV2.out.hit hkl (by rw [← HS.out]; exact HLC.out) (by rw [← HS.out]; exact HIN.out) (by rw [← HS.out]; exact hsT.out) (.inr (by rw [← HS.out]; exact HTT.out.2 rfl))
                  rw [← HS.out] at this
                  exact ⟨HB9.out.setCell (p := ⟨gy, T, none⟩) hgy _, HX9.out.set_far (p := ⟨gy, T, none⟩) hxy _, HY9.out.set_ T true, this⟩
                go_wp2_with fail
                go_roundw
                case rel => exact ⟨k + 1, _, _, by omega, by go_num, HNEXT.out⟩
                case measure => simp [intOf]; omega
              | false =>
                have HNEXT : Hid (MvAt W0 a now good c gx gy (k + 1) (xs.set T true) ys w9) := by
                  have := HMV2.out.go hkl (by rw [← HS.out]; exact HLC.out) (by rw [← HS.out]; exact HIN.out) (by rw [← HS.out]; exact hsT.out) (by rw [← HS.out]; intro h; have := hHG.out.1 h; cases this) (by rw [← HS.out]; intro h; have := HTT.out.1 h; cases this)
                  rw [← HS.out] at this
                  exact ⟨HB9.out, HX9.out, HY9.out, this⟩
                go_wp2_with fail
                go_roundw
                case rel => exact ⟨k + 1, _, _, by omega, by go_num, HNEXT.out⟩
                case measure => simp [intOf]; omega
        · have hLc1 : (L != c) = true := by simpa using hLc
          have HNEXT : Hid (MvAt W0 a now good c gx gy (k + 1) xs ys w8) := ⟨HB8.out, HX8.out, HY8.out, HMV2.out.skip hkl (.inl (by rw [← HS.out]; exact hLc))⟩
          clear hLc
          go_wp2_with fail
          go_roundw
          case rel => exact ⟨k + 1, xs, ys, by omega, by go_num, HNEXT.out⟩
          case measure => simp [intOf]; omega
      · have HP : Hid (MvPost w a now good c n (.returned (.tuple #[.slice (some ⟨gx, 0, none⟩) n n, .slice (some ⟨gy, 0, none⟩) n n])) wr) := by
          have hsz := HSZ.out
          have := HVV.out
          exact ⟨gx, gy, xs, ys, rfl, by omega, by omega, hxy, HM.out.hx, HM.out.hy, HM.out.mv.all (by omega), Below_on HBW.out HB.out HBW.out.size⟩
        go_wp2_with fail
        go_ret2
        exact HP.out
end Go.Proofs.Ytoglgeaiiipchaa
