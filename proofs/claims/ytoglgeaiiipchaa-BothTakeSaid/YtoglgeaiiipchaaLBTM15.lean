/- Reached: its memory between two rounds; slices.Clone as a row of the call's own. -/
import Derived.RangeFuncNested
import Derived.RangeFuncBound
import Derived.RangeFuncCalls
import Derived.RangeFuncLeaves
import Derived.Shelf.Abstract
import Derived.Shelf.RegionOpen
import Derived.WalkKit
import Derived.OwnWalkIn
import Derived.TacticsInMore
import Derived.LoopNIn
import Derived.LoopIn
import Derived.Test.YtoglgeaiiipchaaLBTM14
import Derived.Test.YtoglgeaiiipchaaLBTM13
import Derived.Test.YtoglgeaiiipchaaLBTM2
import Derived.Test.YtoglgeaiiipchaaLBTM1
import Derived.WalkSpells
set_option linter.unusedSimpArgs false
set_option linter.unusedVariables false
namespace Go.Proofs.Ytoglgeaiiipchaa
open Go Go.RowKit Go.Shelf
attribute [local go_sem] Oper.semAt_some

set_option maxRecDepth 100000 in
set_option maxHeartbeats 2000000 in
/-- the steps from a state, one by one, to whatever round keeps what lay below lo and what is not bad -/
theorem next_gives (a : Au) (A B C : Option Addr) (ca cb cc V X Y i : Nat) (n : Int) (Ms Fs : List Nat) (w0 w : World) (hA : AuAt w0 V a A B C ca cb cc) (hs : Stps w0 0 C cc a.ss) (hb0 : Below w0.heap.size w0 w)
    (hX0 : w.cell? ⟨X, 0, none⟩ = some (.int .i64 i)) (hY0 : w.cell? ⟨Y, 0, none⟩ = some (.int .i64 n)) (hX1 : X < w.heap.size) (hY1 : Y < w.heap.size) (hF : ∀ F ∈ Fs, F < w.heap.size) (hX2 : ¬ Bad Ms Fs w X) (hY2 : ¬ Bad Ms Fs w Y)
    (ho : ssSorted a.ss) (hl : a.ss.length ≤ 1000000) (hlb : LowB a.ss n i) (m : Nat) (hm : 1 ≤ m) :
    SeqO m Try.prog 88 #[.pointer (some ⟨V, 0, none⟩), .pointer (some ⟨X, 0, none⟩), .pointer (some ⟨Y, 0, none⟩)] (fun s : Stp => #[Value.agg #[.int .i64 s.f, .int .i64 s.l, .int .i64 s.t]]) (KpO w0.heap.size Ms Fs) (Sane w0.heap.size Ms Fs) (stepsFrom a n) w := by
  intro l J Jx W hW hsane hJ hJx hY h0
  obtain ⟨q, hq1, hq2, hq3, hq4⟩ := low_run hlb ho
  have HJ := Lib.hid hJ
  have HJX := Lib.hid hJx
  have HY := Lib.hid hY
  have H0 := Lib.hid h0
  have HQ2 : Hid (stepsFrom a n = (a.ss.drop i).take q) := hq2
  have HQ3 := Lib.hid hq3
  have HQ4 := Lib.hid hq4
  have HA := Lib.hid hA
  have HS := Lib.hid hs
  have HSA := Lib.hid hsane
  have HBW : Hid (Below w0.heap.size w0 W) := Below_on hb0 hW hb0.size
  have HGX : Hid (Good w0.heap.size Ms Fs W X) := (Good.mk hX1 hX2).below hF hW
  have HGY : Hid (Good w0.heap.size Ms Fs W Y) := (Good.mk hY1 hY2).below hF hW
  have HX0 : Hid (W.cell? ⟨X, 0, none⟩ = some (.int .i64 i)) := (hW.cell (p := ⟨X, 0, none⟩) hX1).trans hX0
  have HY0 : Hid (W.cell? ⟨Y, 0, none⟩ = some (.int .i64 n)) := (hW.cell (p := ⟨Y, 0, none⟩) hY1).trans hY0
  have hVn := hA.lt
  have hcc := hs.le
  have HAT : Hid (∀ wr, Off w0.heap.size Ms Fs W wr → Below w0.heap.size w0 wr ∧ wr.cell? ⟨X, 0, none⟩ = some (.int .i64 i) ∧ wr.cell? ⟨Y, 0, none⟩ = some (.int .i64 n)) := fun wr hr =>
    ⟨Below_on HBW.out (hr.below HSA.out HBW.out.size) (Nat.le_refl _), (HGX.out.cell hr).trans HX0.out, (HGY.out.cell hr).trans HY0.out⟩
  obtain ⟨hbW, cx, cy⟩ := HAT.out W (Off.refl hsane)
  obtain ⟨_, c0, c1, c2, c3, c4⟩ := HA.out.below hbW hVn
  have hil := hlb.le
  clear hJ hJx hY h0 hq2 hq3 hq4 hA hs hsane hW hlb ho hX0 hY0 hX1 hY1 hF hX2 hY2 hbW hb0
  refine callsIn_of_wp Try.func88 rfl trivial ?_ rfl
  simp only [Try.ntmps88, List.size_toArray, List.length_cons, List.length_nil, Nat.reduceAdd, Nat.reduceSub, Array.replicate_succ, Array.replicate_zero, List.push_toArray, List.append_toArray, List.nil_append, List.cons_append]
  by_cases hlt : i < a.ss.length
  · obtain ⟨b, o, hCC, _, hbl, _, _, _⟩ := Stps.at_ HS.out hlt
    subst hCC
    have hcl : i < cc := by omega
    have HQL : Hid ((stepsFrom a n).length = q) := by show _ = _; rw [HQ2.out, List.length_take, List.length_drop]; omega
    have HPRE : Hid (∀ k, (h : k < a.ss.length - i) → k < q → (stepsFrom a n).take k ++ [a.ss[i + k]] <+: stepsFrom a n ∧ (stepsFrom a n).take k ++ [a.ss[i + k]] = (stepsFrom a n).take (k + 1)) := by
      intro k h1 h2
      have e : (stepsFrom a n).take k ++ [a.ss[i + k]'(by omega)] = (stepsFrom a n).take (k + 1) := by
        rw [List.take_succ_eq_append_getElem (by rw [HQL.out]; exact h2)]
        congr 2
        have : (stepsFrom a n)[k]? = some (a.ss[i + k]'(by omega)) := by
          rw [HQ2.out, List.getElem?_take_of_lt h2, List.getElem?_drop, List.getElem?_eq_getElem]
        rw [List.getElem?_eq_getElem (by rw [HQL.out]; exact h2)] at this
        exact (Option.some.inj this).symm
      exact ⟨by rw [e]; exact List.take_prefix _ _, e⟩
    clear c0 c1 c2 c3
    gi_wp2
    gi_loopw [6, 12] (fun _ s wr => ∃ k : Nat, k ≤ q ∧ s = .int .i64 k ∧ Off w0.heap.size Ms Fs W wr ∧ Hid (J ((stepsFrom a n).take k) wr)) (fun _ s _ => a.ss.length - i - (intOf s).toNat)
    case atStart => exact ⟨0, Nat.zero_le _, rfl, Off.refl HSA.out, H0.out⟩
    case round =>
      obtain ⟨k, hk, rfl, hb, HJK⟩ := hrel
      have HO := Lib.hid hb
      clear c4 cx cy
      obtain ⟨hbr, cx, cy⟩ := HAT.out wr hb
      have HB := Lib.hid hbr
      obtain ⟨_, c0, c1, c2, c3, c4⟩ := HA.out.below hbr hVn
      have hYr : Y < wr.heap.size := (HGY.out.off hb).lt
      clear hb c0 c1 c2 c3 hbr
      by_cases hkl : k < a.ss.length - i
      · obtain ⟨b', o', hCC', _, hbl', q1, q2, q3⟩ := Stps.at_ (HS.out.below HB.out) (k := i + k) (by omega)
        obtain ⟨rfl, rfl⟩ : b = b' ∧ o = o' := by simpa using hCC'
        clear hCC'
        have HP := HPRE.out k hkl
        obtain ⟨s, hs⟩ : ∃ s, s = a.ss[i + k] := ⟨_, rfl⟩
        rw [← hs] at q1 q2 q3 HP
        rw [show o + (i + k) * 3 = o + i * 3 + k * 3 by omega] at q1 q2 q3
        have HPP := Lib.hid HP
        have hkl2 : (k : Int) < (a.ss.length : Int) - (i : Int) := by omega
        by_cases hkq : k < q
        · have hfn : s.f = n := by rw [hs]; exact HQ3.out _ _ (by omega) (by omega)
          have hfn1 : (s.f != n) = false := by simp [hfn]
          have HY2 := HY.out ((stepsFrom a n).take k) s (wr.alloc (Obj.cells #[.int .i64 s.f, .int .i64 s.l, .int .i64 s.t] 90)) (HJ.out.alloc _ HJK.out) (HPP.out hkq).1
          obtain ⟨fn, tmps, assign, body, hy, hR⟩ := HY2
          have HRR := Lib.hid hR
          have HFN := Lib.hid hfn
          have HPQ := Lib.hid (HPP.out hkq)
          clear hs HP hR hfn
          gi_wp2
          refine HRR.out.mono ?_
          rintro e W3 (⟨rfl, hJ3, hk3⟩ | ⟨rfl, hJ3, _⟩)
          · have HJ3 : Hid (J ((stepsFrom a n).take (k + 1)) W3) := by
              show J _ _
              rw [← HPQ.out.2]
              exact hJ3
            have HB3 : Hid (Off w0.heap.size Ms Fs W W3) := by
              have h1 := HO.out.trans (Off.of_below (B := wr.alloc (Obj.cells #[.int .i64 s.f, .int .i64 s.l, .int .i64 s.t] 90)) HO.out.sane ((Below.refl _ _).alloc (Nat.le_refl _) _))
              exact h1.trans (hk3 h1.sane)
            clear hJ3 hk3
            gi_wp2
            go_roundw
            case rel => exact ⟨k + 1, by omega, by go_num, HB3.out, HJ3.out⟩
            case measure => simp [intOf]; omega
          · have HJ3 : Hid (Jx ((stepsFrom a n).take k ++ [s]) W3) := hJ3
            clear hJ3
            gi_wp2
            refine bodyPost_ret (results_none rfl _ _ _) rfl ?_
            exact ⟨⟨_, rfl⟩, .inr ⟨_, HPQ.out.1, HJ3.out⟩⟩
        · obtain rfl : k = q := by omega
          have hfn : s.f ≠ n := by rw [hs]; exact HQ4.out (by omega)
          have hfn1 : (s.f != n) = true := by simpa using hfn
          have HJE : Hid (J (stepsFrom a n) (wr.alloc (Obj.cells #[.int .i64 s.f, .int .i64 s.l, .int .i64 s.t] 90))) := by
            have := HJ.out.alloc (Obj.cells #[.int .i64 s.f, .int .i64 s.l, .int .i64 s.t] 90) HJK.out
            rwa [List.take_of_length_le (by rw [HQL.out]; exact Nat.le_refl _)] at this
          clear hs HP hfn
          gi_wp2
          refine ⟨fun _ h => (by cases h), ?_⟩
          gi_wp2
          refine bodyPost_ret (results_none rfl _ _ _) rfl ?_
          exact ⟨⟨_, rfl⟩, .inl HJE.out⟩
      · have HJE : Hid (J (stepsFrom a n) wr) := by
          have := HJK.out
          rwa [List.take_of_length_le (by rw [HQL.out]; omega)] at this
        have hkl2 : ¬ (k : Int) < (a.ss.length : Int) - (i : Int) := by omega
        gi_wp2
        go_end0
        exact ⟨⟨_, rfl⟩, .inl HJE.out⟩
  · have hz : a.ss.length - i = 0 := by omega
    have HJE : Hid (J (stepsFrom a n) W) := by
      have e : stepsFrom a n = [] := by rw [HQ2.out, List.drop_of_length_le (by omega)]; simp
      show J _ _
      rw [e]
      exact H0.out
    clear c0 c1 c2 c3
    gi_wp2
    all_goals
      gi_loopw [12] (fun s wr => s = .int .i64 0 ∧ wr = W) (fun _ _ => 0)
      case atStart => exact ⟨rfl, rfl⟩
      case round =>
        obtain ⟨rfl, rfl⟩ := hrel
        gi_wp2
        go_end0
        exact ⟨⟨_, rfl⟩, .inl HJE.out⟩
end Go.Proofs.Ytoglgeaiiipchaa

namespace Go.Proofs.Ytoglgeaiiipchaa
open Go Go.RowKit Go.Shelf
attribute [local go_sem] Oper.semAt_some

set_option maxRecDepth 100000 in
set_option maxHeartbeats 2000000 in
/-- the steps from a state, one by one, to whatever round keeps what lay below lo and what is not bad -/
theorem next_givesV (a : Au) (A B C : Option Addr) (ca cb cc V X Y i : Nat) (n : Int) (Ms Fs : List Nat) (w0 w : World) (hA : AuAt w V a A B C ca cb cc) (hV2 : ¬ Bad Ms Fs w V) (hs : Stps w0 0 C cc a.ss) (hb0 : Below w0.heap.size w0 w)
    (hX0 : w.cell? ⟨X, 0, none⟩ = some (.int .i64 i)) (hY0 : w.cell? ⟨Y, 0, none⟩ = some (.int .i64 n)) (hX1 : X < w.heap.size) (hY1 : Y < w.heap.size) (hF : ∀ F ∈ Fs, F < w.heap.size) (hX2 : ¬ Bad Ms Fs w X) (hY2 : ¬ Bad Ms Fs w Y)
    (ho : ssSorted a.ss) (hl : a.ss.length ≤ 1000000) (hlb : LowB a.ss n i) (m : Nat) (hm : 1 ≤ m) :
    SeqO m Try.prog 88 #[.pointer (some ⟨V, 0, none⟩), .pointer (some ⟨X, 0, none⟩), .pointer (some ⟨Y, 0, none⟩)] (fun s : Stp => #[Value.agg #[.int .i64 s.f, .int .i64 s.l, .int .i64 s.t]]) (KpO w0.heap.size Ms Fs) (Sane w0.heap.size Ms Fs) (stepsFrom a n) w := by
  intro l J Jx W hW hsane hJ hJx hY h0
  obtain ⟨q, hq1, hq2, hq3, hq4⟩ := low_run hlb ho
  have HJ := Lib.hid hJ
  have HJX := Lib.hid hJx
  have HY := Lib.hid hY
  have H0 := Lib.hid h0
  have HQ2 : Hid (stepsFrom a n = (a.ss.drop i).take q) := hq2
  have HQ3 := Lib.hid hq3
  have HQ4 := Lib.hid hq4
  have HA : Hid (AuAt W V a A B C ca cb cc) := hA.below hW hA.lt
  have HGV : Hid (Good w0.heap.size Ms Fs W V) := (Good.mk hA.lt hV2).below hF hW
  have HS := Lib.hid hs
  have HSA := Lib.hid hsane
  have HBW : Hid (Below w0.heap.size w0 W) := Below_on hb0 hW hb0.size
  have HGX : Hid (Good w0.heap.size Ms Fs W X) := (Good.mk hX1 hX2).below hF hW
  have HGY : Hid (Good w0.heap.size Ms Fs W Y) := (Good.mk hY1 hY2).below hF hW
  have HX0 : Hid (W.cell? ⟨X, 0, none⟩ = some (.int .i64 i)) := (hW.cell (p := ⟨X, 0, none⟩) hX1).trans hX0
  have HY0 : Hid (W.cell? ⟨Y, 0, none⟩ = some (.int .i64 n)) := (hW.cell (p := ⟨Y, 0, none⟩) hY1).trans hY0
  have hcc := hs.le
  have HAT : Hid (∀ wr, Off w0.heap.size Ms Fs W wr → Below w0.heap.size w0 wr ∧ wr.cell? ⟨X, 0, none⟩ = some (.int .i64 i) ∧ wr.cell? ⟨Y, 0, none⟩ = some (.int .i64 n) ∧ AuAt wr V a A B C ca cb cc) := fun wr hr =>
    ⟨Below_on HBW.out (hr.below HSA.out HBW.out.size) (Nat.le_refl _), (HGX.out.cell hr).trans HX0.out, (HGY.out.cell hr).trans HY0.out, (HGV.out.off hr).lt, (HGV.out.cell hr).trans HA.out.c0, (HGV.out.cell hr).trans HA.out.c1, (HGV.out.cell hr).trans HA.out.c2, (HGV.out.cell hr).trans HA.out.c3, (HGV.out.cell hr).trans HA.out.c4⟩
  obtain ⟨hbW, cx, cy, ⟨_, c0, c1, c2, c3, c4⟩⟩ := HAT.out W (Off.refl hsane)
  have hil := hlb.le
  clear hJ hJx hY h0 hq2 hq3 hq4 hA hs hsane hW hlb ho hX0 hY0 hX1 hY1 hF hX2 hY2 hbW hb0 hV2
  refine callsIn_of_wp Try.func88 rfl trivial ?_ rfl
  simp only [Try.ntmps88, List.size_toArray, List.length_cons, List.length_nil, Nat.reduceAdd, Nat.reduceSub, Array.replicate_succ, Array.replicate_zero, List.push_toArray, List.append_toArray, List.nil_append, List.cons_append]
  by_cases hlt : i < a.ss.length
  · obtain ⟨b, o, hCC, _, hbl, _, _, _⟩ := Stps.at_ HS.out hlt
    subst hCC
    have hcl : i < cc := by omega
    have HQL : Hid ((stepsFrom a n).length = q) := by show _ = _; rw [HQ2.out, List.length_take, List.length_drop]; omega
    have HPRE : Hid (∀ k, (h : k < a.ss.length - i) → k < q → (stepsFrom a n).take k ++ [a.ss[i + k]] <+: stepsFrom a n ∧ (stepsFrom a n).take k ++ [a.ss[i + k]] = (stepsFrom a n).take (k + 1)) := by
      intro k h1 h2
      have e : (stepsFrom a n).take k ++ [a.ss[i + k]'(by omega)] = (stepsFrom a n).take (k + 1) := by
        rw [List.take_succ_eq_append_getElem (by rw [HQL.out]; exact h2)]
        congr 2
        have : (stepsFrom a n)[k]? = some (a.ss[i + k]'(by omega)) := by
          rw [HQ2.out, List.getElem?_take_of_lt h2, List.getElem?_drop, List.getElem?_eq_getElem]
        rw [List.getElem?_eq_getElem (by rw [HQL.out]; exact h2)] at this
        exact (Option.some.inj this).symm
      exact ⟨by rw [e]; exact List.take_prefix _ _, e⟩
    clear c0 c1 c2 c3
    gi_wp2
    gi_loopw [6, 12] (fun _ s wr => ∃ k : Nat, k ≤ q ∧ s = .int .i64 k ∧ Off w0.heap.size Ms Fs W wr ∧ Hid (J ((stepsFrom a n).take k) wr)) (fun _ s _ => a.ss.length - i - (intOf s).toNat)
    case atStart => exact ⟨0, Nat.zero_le _, rfl, Off.refl HSA.out, H0.out⟩
    case round =>
      obtain ⟨k, hk, rfl, hb, HJK⟩ := hrel
      have HO := Lib.hid hb
      clear c4 cx cy
      obtain ⟨hbr, cx, cy, hAr⟩ := HAT.out wr hb
      have HB := Lib.hid hbr
      obtain ⟨_, c0, c1, c2, c3, c4⟩ := hAr
      have hYr : Y < wr.heap.size := (HGY.out.off hb).lt
      clear hb c0 c1 c2 c3 hbr
      by_cases hkl : k < a.ss.length - i
      · obtain ⟨b', o', hCC', _, hbl', q1, q2, q3⟩ := Stps.at_ (HS.out.below HB.out) (k := i + k) (by omega)
        obtain ⟨rfl, rfl⟩ : b = b' ∧ o = o' := by simpa using hCC'
        clear hCC'
        have HP := HPRE.out k hkl
        obtain ⟨s, hs⟩ : ∃ s, s = a.ss[i + k] := ⟨_, rfl⟩
        rw [← hs] at q1 q2 q3 HP
        rw [show o + (i + k) * 3 = o + i * 3 + k * 3 by omega] at q1 q2 q3
        have HPP := Lib.hid HP
        have hkl2 : (k : Int) < (a.ss.length : Int) - (i : Int) := by omega
        by_cases hkq : k < q
        · have hfn : s.f = n := by rw [hs]; exact HQ3.out _ _ (by omega) (by omega)
          have hfn1 : (s.f != n) = false := by simp [hfn]
          have HY2 := HY.out ((stepsFrom a n).take k) s (wr.alloc (Obj.cells #[.int .i64 s.f, .int .i64 s.l, .int .i64 s.t] 90)) (HJ.out.alloc _ HJK.out) (HPP.out hkq).1
          obtain ⟨fn, tmps, assign, body, hy, hR⟩ := HY2
          have HRR := Lib.hid hR
          have HFN := Lib.hid hfn
          have HPQ := Lib.hid (HPP.out hkq)
          clear hs HP hR hfn
          gi_wp2
          refine HRR.out.mono ?_
          rintro e W3 (⟨rfl, hJ3, hk3⟩ | ⟨rfl, hJ3, _⟩)
          · have HJ3 : Hid (J ((stepsFrom a n).take (k + 1)) W3) := by
              show J _ _
              rw [← HPQ.out.2]
              exact hJ3
            have HB3 : Hid (Off w0.heap.size Ms Fs W W3) := by
              have h1 := HO.out.trans (Off.of_below (B := wr.alloc (Obj.cells #[.int .i64 s.f, .int .i64 s.l, .int .i64 s.t] 90)) HO.out.sane ((Below.refl _ _).alloc (Nat.le_refl _) _))
              exact h1.trans (hk3 h1.sane)
            clear hJ3 hk3
            gi_wp2
            go_roundw
            case rel => exact ⟨k + 1, by omega, by go_num, HB3.out, HJ3.out⟩
            case measure => simp [intOf]; omega
          · have HJ3 : Hid (Jx ((stepsFrom a n).take k ++ [s]) W3) := hJ3
            clear hJ3
            gi_wp2
            refine bodyPost_ret (results_none rfl _ _ _) rfl ?_
            exact ⟨⟨_, rfl⟩, .inr ⟨_, HPQ.out.1, HJ3.out⟩⟩
        · obtain rfl : k = q := by omega
          have hfn : s.f ≠ n := by rw [hs]; exact HQ4.out (by omega)
          have hfn1 : (s.f != n) = true := by simpa using hfn
          have HJE : Hid (J (stepsFrom a n) (wr.alloc (Obj.cells #[.int .i64 s.f, .int .i64 s.l, .int .i64 s.t] 90))) := by
            have := HJ.out.alloc (Obj.cells #[.int .i64 s.f, .int .i64 s.l, .int .i64 s.t] 90) HJK.out
            rwa [List.take_of_length_le (by rw [HQL.out]; exact Nat.le_refl _)] at this
          clear hs HP hfn
          gi_wp2
          refine ⟨fun _ h => (by cases h), ?_⟩
          gi_wp2
          refine bodyPost_ret (results_none rfl _ _ _) rfl ?_
          exact ⟨⟨_, rfl⟩, .inl HJE.out⟩
      · have HJE : Hid (J (stepsFrom a n) wr) := by
          have := HJK.out
          rwa [List.take_of_length_le (by rw [HQL.out]; omega)] at this
        have hkl2 : ¬ (k : Int) < (a.ss.length : Int) - (i : Int) := by omega
        gi_wp2
        go_end0
        exact ⟨⟨_, rfl⟩, .inl HJE.out⟩
  · have hz : a.ss.length - i = 0 := by omega
    have HJE : Hid (J (stepsFrom a n) W) := by
      have e : stepsFrom a n = [] := by rw [HQ2.out, List.drop_of_length_le (by omega)]; simp
      show J _ _
      rw [e]
      exact H0.out
    clear c0 c1 c2 c3
    gi_wp2
    all_goals
      gi_loopw [12] (fun s wr => s = .int .i64 0 ∧ wr = W) (fun _ _ => 0)
      case atStart => exact ⟨rfl, rfl⟩
      case round =>
        obtain ⟨rfl, rfl⟩ := hrel
        gi_wp2
        go_end0
        exact ⟨⟨_, rfl⟩, .inl HJE.out⟩
end Go.Proofs.Ytoglgeaiiipchaa

namespace Go.Proofs.Ytoglgeaiiipchaa
open Go Go.RowKit Go.Shelf

/-- a row of ints of the call's own -/
def IntOwn (W : World) (lo : Nat) (v : Value) (xs : List Int) : Prop := W.ownsRow lo 3 1 v xs.length (xs.flatMap fun n : Int => [Value.int .i64 n])
theorem IntOwn.pop {W : World} {lo n c : Nat} {A : Option Addr} {xs : List Int} {y : Int} (h : IntOwn W lo (.slice A n c) (xs ++ [y])) : IntOwn W lo (.slice A xs.length c) xs := by
  obtain ⟨h1, h2⟩ := h
  refine ⟨flatMap_len (sz := 1) (fun _ => rfl) xs, ?_⟩
  rcases h2 with ⟨_, h2⟩ | ⟨g, cap, cur, hv, hg, hh, hn, hc, hs, ht⟩
  · simp at h2
  · simp at hv
    obtain ⟨rfl, rfl, rfl⟩ := hv
    rw [List.length_append] at hn ht
    refine .inr ⟨g, c, cur, rfl, hg, hh, by simp at hn; omega, hc, hs, ?_⟩
    have hfl := flatMap_len (enc := fun n : Int => [Value.int .i64 n]) (sz := 1) (fun _ => rfl) xs
    have h3 := congrArg (List.take (xs.length * 1)) ht
    rw [List.take_take, Nat.min_eq_left (by simp), List.flatMap_append, ← hfl, List.take_left] at h3
    rw [← hfl]
    exact h3
theorem run_append_int {W : World} {lo : Nat} {v : Value} {xs : List Int} {y : Int} {B : Nat} (ty : TypeId) (hown : IntOwn W lo v xs) (hB : W.heap[B]? = some (.cells #[.int .i64 y] 3 (0, 0))) (hl : xs.length ≤ 10000000) (hlo : lo ≤ W.heap.size) :
    ∃ v' W', (Builtin.append_ #[24, 24] ty #[v, .slice (some ⟨B, 0, none⟩) 1 1]).run Try.prog W = .ok v' W' ∧ IntOwn W' lo v' (xs ++ [y]) ∧ W.grownBy W' v.ownBlock ∧ (v'.ownBlock = v.ownBlock ∨ v'.ownBlock = some W.heap.size) := by
  obtain ⟨i0, hi0, hz0, hz1, hz2⟩ := info_parts infoInt
  have hnews : ∀ j u, [Value.int .i64 y][j]? = some u → W.cell? ((⟨B, 0, none⟩ : Addr).add j) = some u := fun j u hu => by
    rw [Addr_add_off]
    simp only [World.cell?, hB, Nat.zero_add]
    match j, hu with
    | 0, hu => simpa using hu
  obtain ⟨v', W', hrun, ho, hg, _, hat⟩ := run_append_own_at (P := Try.prog) W lo 24 ty 3 i0 _ 1 8 Try.underlying24 hi0 hz0 hz1 hz2 rfl (by decide) v xs.length _ hown ⟨B, 0, none⟩ 1 1 [.int .i64 y] rfl hnews (by simp [Value.oneCell']) (by unfold maxLen; omega) (by omega) hlo
  refine ⟨v', W', hrun, ?_, hg, hat⟩
  unfold IntOwn
  rw [List.length_append, List.flatMap_append]
  simpa using ho
/-- the append at the operation, within a fence -/
theorem wpListIn_app_int {W : World} {lo : Nat} {v : Value} {xs : List Int} {Fn : Fence} {n : Nat} {ops : Array Oper} {rest : List Oper} {o : Oper} {a : Act} {Q : Exit → Act → World → Prop} (hgd : o.guard = none) (s x : Operand)
    (ho : o.op = .call { callee := .builtin .append, args := #[s, x], argTypes := #[24, 24] }) {y : Int} {B : Nat} (hs : a.eval s = v) (hx : a.eval x = .slice (some ⟨B, 0, none⟩) 1 1)
    (hown : IntOwn W lo v xs) (hB : W.heap[B]? = some (.cells #[.int .i64 y] 3 (0, 0))) (hl : xs.length ≤ 10000000) (hlo : lo ≤ W.heap.size)
    (h : ∀ v' W', IntOwn W' lo v' (xs ++ [y]) → W.grownBy W' v.ownBlock → (v'.ownBlock = v.ownBlock ∨ v'.ownBlock = some W.heap.size) → wpListIn Fn n Try.prog ops Q rest (a.put o.dst v') W') :
    wpListIn Fn n Try.prog ops Q (o :: rest) a W := by
  refine wpListIn_plain hgd fun K' hK' => ?_
  obtain ⟨v', W', hrun, h1, h2, h3⟩ := run_append_int o.type hown hB hl hlo
  unfold Oper.wpIn
  refine ⟨by simp [Oper.about, ho, resolve, Target.leads, Sem.run_pure], ?_⟩
  rw [Oper.semAt_plain Fn _ _ (by rw [ho]; intro c hc'; cases hc')]
  simp [execOp, ho, resolve, invoke, builtin, hs, hx, hrun, Result.andThen]
  exact hK' _ _ (h v' W' h1 h2 h3)

def ClonePost (w : World) (xs : List Int) (e : Ending) (w' : World) : Prop := ∃ v, e = .returned v ∧ IntOwn w' w.heap.size v xs ∧ Below w.heap.size w w'
set_option maxRecDepth 100000 in
theorem CloneO_ (A : Option Addr) (c : Nat) (xs : List Int) (w : World) (hx : Ints w 0 A c xs) :
    Calls Try.prog 41 #[.slice A xs.length c] w (ClonePost w xs) := by
  obtain ⟨i0, hi0, hz0, hz1, hz2⟩ := info_parts infoInt
  have hmax := hx.max
  have q24 : ∀ (w : World) (a : Option Addr) (n c n' c' : Nat), (binOp .eql 24 (.slice a n c) (.slice none n' c')).run Try.prog w = .ok (.bool a.isNone) w := fun w a n c n' c' => Lib.run_eql_slice_nil w _ _ a n c n' c' Try.underlying24
  cases A with
  | none =>
    have hxs : xs = [] := by
      cases xs with
      | nil => rfl
      | cons x r =>
        obtain ⟨b, off, h, _⟩ := hx.rd (by simp)
        cases h
    subst hxs
    have HP : Hid (ClonePost w [] (.returned (.slice none 0 0)) w) := ⟨_, rfl, World.ownsRow_nil _ _ _ _, Below.refl _ _⟩
    go_enter Try.func41, Try.ntmps41
    go_wp2_with fail
    go_ret
    exact HP.out
  | some a =>
    have HX := Lib.hid (hx.rd.below (w' := w.alloc (Obj.cells #[] 3)) ((Below.refl _ _).alloc (Nat.le_refl _) _) (Nat.le_refl _))
    have HO := Lib.hid (own_empty (w := w) (base := w.heap.size) 3 1 (Nat.le_refl _))
    have m2 : (0 + xs.length) * 8 ≤ 140737488355328 := by omega
    have m3 : 0 + xs.length ≤ maxLen := by simp only [maxLen]; omega
    have m4 : w.heap.size ≤ (w.alloc (Obj.cells #[] 3)).heap.size := by simp
    have HM := Lib.hid hmax
    clear hx hmax
    go_enter Try.func41, Try.ntmps41
    go_wp2_with (at_builtin; refine wpList_app _ rfl (.tmp 5) (.tmp 6) _ rfl w.heap.size 3 i0 _ 1 8 Try.underlying24 hi0 hz0 hz1 hz2 rfl (by decide) (.slice (some ⟨w.heap.size, 0, none⟩) 0 0) 0 [] rfl HO.out (some a) xs.length c _ rfl (flatMap_len (sz := 1) (fun _ => rfl) _) HX.out (ints_oneCell _) m3 m2 m4 ?_; intro v2 w2 hown2 hg2 hat2)
    have HP : Hid (ClonePost w xs (.returned v2) w2) := by
      refine ⟨v2, rfl, ?_, grownOwn_ ((Below.refl _ _).alloc (Nat.le_refl _) _) hg2 HO.out (Nat.le_refl _) (by simp)⟩
      unfold IntOwn
      simpa using hown2
    clear hown2 hg2 hat2
    go_wp2_with fail
    go_ret
    exact HP.out

/-- between two rounds; w: the world of the call; F: what is left; G: the marks; T: their variable -/
structure RcMem (w : World) (F G T n : Nat) (out : List Bool) (left : List Int) (v : Value) (W : World) : Prop where
  below : Below w.heap.size w W
  box : Boxed W F 24 v
  fr : IntOwn W w.heap.size v left
  row : BRow W G out
  t5 : Boxed W T 37 (.slice (some ⟨G, 0, none⟩) n n)
  lF : w.heap.size ≤ F
  lG : w.heap.size ≤ G
section
variable {F G T n : Nat} {w W W' : World} {v : Value} {out : List Bool} {left : List Int}
theorem RcMem.FG (h : RcMem w F G T n out left v W) : F ≠ G := by
  rintro rfl
  have h1 : W.heap[F]? = _ := h.box
  have h2 : W.heap[F]? = _ := h.row
  rw [h1] at h2
  simp at h2
theorem RcMem.FT (h : RcMem w F G T n out left v W) : F ≠ T := by
  rintro rfl
  have h1 : W.heap[F]? = _ := h.box
  have h2 : W.heap[F]? = _ := h.t5
  rw [h1] at h2
  simp at h2
theorem RcMem.GT (h : RcMem w F G T n out left v W) : T ≠ G := by
  rintro rfl
  have h1 : W.heap[T]? = _ := h.t5
  have h2 : W.heap[T]? = _ := h.row
  rw [h1] at h2
  simp at h2
theorem RcMem.nG (h : RcMem w F G T n out left v W) : v.ownBlock ≠ some G := fun e => by
  obtain ⟨g, hg⟩ : ∃ g, v.ownBlock = some g := ⟨_, e⟩
  rcases h.fr.2 with ⟨rfl, _⟩ | ⟨g', cap, cur, rfl, _, hh, _⟩
  · cases e
  · obtain rfl : g' = G := by simpa [Value.ownBlock] using e
    have h2 : W.heap[g']? = _ := h.row
    rw [hh] at h2
    simp at h2
theorem RcMem.on (h : RcMem w F G T n out left v W) (hb : Below W.heap.size W W') : RcMem w F G T n out left v W' := by
  have hg : W.grownBy W' none := ⟨hb.os, hb.tape, hb.output, hb.size, fun k hk _ => hb.block k hk⟩
  exact ⟨Below_on h.below hb h.below.size, h.box.kept hg (by simp), own_below h.fr hb, h.row.below hb h.row.lt, h.t5.kept hg (by simp), h.lF, h.lG⟩
theorem RcMem.own {m : Nat} (hm : w.heap.size ≤ m) {row : Option Nat} (h : RcMem w F G T n out left v W) (hg : W.grownBy W' row) (hr : ∀ r, row = some r → m ≤ r ∧ ∃ o : Obj, W.heap[r]? = some o ∧ o.isCells = false) : RcMem w F G T n out left v W' := by
  have cl : ∀ {k : Nat} {o : Obj}, W.heap[k]? = some o → o.isCells = true → some k ≠ row := fun hk ho e => by
    obtain ⟨_, o', h1, h2⟩ := hr _ e.symm
    rw [hk] at h1
    rw [← Option.some.inj h1, ho] at h2
    cases h2
  refine ⟨h.below.grown hg h.below.size (fun k hk => by have := (hr k hk).1; omega), h.box.kept hg (cl h.box rfl), World.ownsRow.kept h.fr hg ?_, h.row.grown hg (cl h.row rfl), h.t5.kept hg (cl h.t5 rfl), h.lF, h.lG⟩
  cases hv : v.ownBlock with
  | none => exact .inl rfl
  | some r =>
    obtain ⟨ob, h1, h2⟩ := own_cells h.fr hv
    exact .inr (cl h1 h2)
theorem RcMem.set {u : Value} {left' : List Int} (h : RcMem w F G T n out left v W) (hu : IntOwn W w.heap.size u left') : RcMem w F G T n out left' u (W.setCell ⟨F, 0, none⟩ u) := by
  have hg := grownBy_setCell' W F u
  exact ⟨h.below.setCell (p := ⟨F, 0, none⟩) h.lF _, h.box.set u, World.ownsRow.kept hu hg (.inr (h.box.not_row (by decide) hu).symm), h.row.set_far (by exact fun e => h.FG e.symm) _, h.t5.kept hg (by simpa using h.FT.symm), h.lF, h.lG⟩
theorem RcMem.mark (h : RcMem w F G T n out left v W) (i : Nat) : RcMem w F G T n (out.set i true) left v (W.setCell ⟨G, i, none⟩ (.bool true)) := by
  have hg : W.grownBy (W.setCell ⟨G, i, none⟩ (.bool true)) (some G) := ⟨rfl, rfl, rfl, by simp [World.setCell], fun k _ hk => Below.heap_setCell _ _ _ _ (fun e => hk (by rw [show k = G from e]))⟩
  exact ⟨h.below.setCell (p := ⟨G, i, none⟩) h.lG _, h.box.kept hg (by simpa using h.FG), World.ownsRow.kept h.fr hg (.inr h.nG), h.row.set_ i true, h.t5.kept hg (by simpa using h.GT), h.lF, h.lG⟩
theorem RcMem.app {v3 : Value} {W3 : World} {y : Int} (h : RcMem w F G T n out left v W) (hfr : IntOwn W3 w.heap.size v3 (left ++ [y])) (hg : W.grownBy W3 v.ownBlock) :
    Boxed W3 F 24 v ∧ RcMem w F G T n out (left ++ [y]) v3 (W3.setCell ⟨F, 0, none⟩ v3) := by
  have hb3 : Boxed W3 F 24 v := h.box.kept hg (h.box.not_row (by decide) h.fr)
  have hg3 := grownBy_setCell' W3 F v3
  have hr3 := h.row.grown hg (fun e => h.nG e.symm)
  exact ⟨hb3, ⟨(h.below.grown hg h.below.size (fun k hk => (h.fr.lt k hk).1)).setCell (p := ⟨F, 0, none⟩) h.lF _, hb3.set v3, World.ownsRow.kept hfr hg3 (.inr (hb3.not_row (by decide) hfr).symm), hr3.set_far (by exact fun e => h.FG e.symm) _,
    (h.t5.kept hg (h.t5.not_row (by decide) h.fr)).kept hg3 (by simpa using h.FT.symm), h.lF, h.lG⟩⟩
theorem RcMem.sane (h : RcMem w F G T n out left v W) {Ms : List Nat} (hM : ∀ k ∈ Ms, w.heap.size ≤ k ∧ k < W.heap.size) : Sane w.heap.size Ms [F] W := sane_box h.box h.fr h.lF hM
theorem RcMem.sane1 (h : RcMem w F G T n out left v W) : Sane w.heap.size [G] [F] W := h.sane fun k hk => by rw [List.mem_singleton.1 hk]; exact ⟨h.lG, h.row.lt⟩
/-- a step from one such memory to another is one that rounds may do -/
theorem RcMem.off {v' : Value} {out' : List Bool} {left' : List Int} {Ms : List Nat} (h : RcMem w F G T n out left v W) (h' : RcMem w F G T n out' left' v' W') (hM : ∀ k ∈ Ms, w.heap.size ≤ k ∧ k < W.heap.size) (hGm : G ∈ Ms)
    (hos : W'.os = W.os) (htape : W'.tape = W.tape) (hout : W'.output = W.output) (hsz : W.heap.size ≤ W'.heap.size)
    (hb : ∀ k, k < W.heap.size → k ≠ G → k ≠ F → v.ownBlock ≠ some k → W'.heap[k]? = W.heap[k]?) (hat : v'.ownBlock = v.ownBlock ∨ ∀ r, v'.ownBlock = some r → W.heap.size ≤ r) : Off w.heap.size Ms [F] W W' :=
  off_box h.box h'.box h'.fr h.lF hM hos htape hout hsz (fun k hk h1 h2 h3 => hb k hk (fun e => h1 (by rw [e]; exact hGm)) h2 h3) hat
/-- the marks of loops that have ended, among what no round turns -/
def MarksO (lo : Nat) (Ms Fs : List Nat) (W : World) (ds : List Deferred) : Prop := ∃ Ds : List Nat, ds = Ds.map (fun D => { target := .collected D, args := #[] }) ∧ Ds.Nodup ∧ ∀ D ∈ Ds, lo ≤ D ∧ Good lo Ms Fs W D ∧ W.heap[D]? = some (.deferred (some []))
theorem MarksO.nil (lo : Nat) (Ms Fs : List Nat) (W : World) : MarksO lo Ms Fs W [] := ⟨[], rfl, .nil, fun D h => by cases h⟩
theorem MarksO.off {lo : Nat} {Ms Fs : List Nat} {W W' : World} {ds : List Deferred} (h : MarksO lo Ms Fs W ds) (ho : Off lo Ms Fs W W') : MarksO lo Ms Fs W' ds := by
  obtain ⟨Ds, h1, h2, h3⟩ := h
  exact ⟨Ds, h1, h2, fun D hD => by obtain ⟨a1, a2, a3⟩ := h3 D hD; exact ⟨a1, a2.off ho, (ho.block D a2.lt a2.not).trans a3⟩⟩
theorem MarksO.marks {lo : Nat} {Ms Fs : List Nat} {W : World} {ds : List Deferred} (h : MarksO lo Ms Fs W ds) : Marks lo W ds := by
  obtain ⟨Ds, h1, h2, h3⟩ := h
  exact ⟨Ds, h1, h2, fun D hD => ⟨(h3 D hD).1, (h3 D hD).2.2⟩⟩
theorem AuAt.off {lo : Nat} {Ms Fs : List Nat} {W W' : World} {V : Nat} {a : Au} {A B C : Option Addr} {ca cb cc : Nat} (h : AuAt W V a A B C ca cb cc) (hg : Good lo Ms Fs W V) (ho : Off lo Ms Fs W W') : AuAt W' V a A B C ca cb cc :=
  ⟨(hg.off ho).lt, (hg.cell ho).trans h.c0, (hg.cell ho).trans h.c1, (hg.cell ho).trans h.c2, (hg.cell ho).trans h.c3, (hg.cell ho).trans h.c4⟩
/-- what stands at the head of a round -/
structure RcIn (a : Au) (A B C : Option Addr) (ca cb cc V : Nat) (w : World) (F G T N n : Nat) (op : Option Int) (ds : List Deferred) (out : List Bool) (left : List Int) (v : Value) (W : World) : Prop where
  mem : RcMem w F G T N out left v W
  met : RcM a out left n op
  marks : MarksO w.heap.size [G] [F] W ds
  au : AuAt W V a A B C ca cb cc
  gd : Good w.heap.size [G] [F] W V
theorem RcIn.on {a : Au} {A B C : Option Addr} {ca cb cc V : Nat} {w : World} {F G T N n : Nat} {op : Option Int} {ds : List Deferred} {out : List Bool} {left : List Int} {v : Value} {W W' : World} (h : RcIn a A B C ca cb cc V w F G T N n op ds out left v W) (hb : Below W.heap.size W W') : RcIn a A B C ca cb cc V w F G T N n op ds out left v W' := by
  have ho : Off w.heap.size [G] [F] W W' := Off.of_below (h.mem.sane fun k hk => by rw [List.mem_singleton.1 hk]; exact ⟨h.mem.lG, h.mem.row.lt⟩) hb
  exact ⟨h.mem.on hb, h.met, h.marks.off ho, h.au.off h.gd ho, h.gd.off ho⟩
/-- what stands between two rounds over the steps from x, that began in w3 -/
structure RcR (a : Au) (w : World) (F G T N n : Nat) (x : Int) (w3 : World) (out : List Bool) (left : List Int) (v : Value) (pre : List Stp) (W : World) : Prop where
  mem : RcMem w F G T N out left v W
  met : RcM a out left n (some x)
  off : Off w.heap.size [G] [F] w3 W
  pre : ∀ s ∈ pre, kp out s.t = true
end
end Go.Proofs.Ytoglgeaiiipchaa
