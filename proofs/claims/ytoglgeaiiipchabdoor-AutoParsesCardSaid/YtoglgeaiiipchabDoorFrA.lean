/- Walks: what the steps from a state give, one by one, to a round; the automaton's variable may be younger than what rounds turn. -/
import Derived.RangeFuncNested
import Derived.RangeFuncBound
import Derived.RangeFuncCalls
import Derived.RangeFuncLeaves
import Derived.Shelf.Abstract
import Derived.Shelf.RegionOpen
import Derived.WalkKit
import Derived.OwnWalkIn
import Derived.TacticsInMore
import Derived.LoopNIn
import Derived.LoopIn
import Derived.Test.YtoglgeaiiipchabDoorWFr
import Derived.Test.YtoglgeaiiipchabDoorKpA
namespace Go.Proofs.YtoglgeaiiipchabDoor
open Go Go.RowKit Go.Shelf
attribute [local go_sem] Oper.semAt_some

set_option maxRecDepth 100000 in
set_option maxHeartbeats 2000000 in
/-- the steps from a state, one by one, to whatever round keeps what lay below lo and what is not bad -/
theorem next_gives (a : Au) (A B C : Option Addr) (ca cb cc V X Y i : Nat) (n : Int) (Ms Fs : List Nat) (w0 w : World) (hA : AuAt w0 V a A B C ca cb cc) (hs : Stps w0 0 C cc a.ss) (hb0 : Below w0.heap.size w0 w)
    (hX0 : w.cell? ⟨X, 0, none⟩ = some (.int .i64 i)) (hY0 : w.cell? ⟨Y, 0, none⟩ = some (.int .i64 n)) (hX1 : X < w.heap.size) (hY1 : Y < w.heap.size) (hF : ∀ F ∈ Fs, F < w.heap.size) (hX2 : ¬ Bad Ms Fs w X) (hY2 : ¬ Bad Ms Fs w Y)
    (ho : ssSorted a.ss) (hl : a.ss.length ≤ 1000000) (hlb : LowB a.ss n i) (m : Nat) (hm : 1 ≤ m) :
    SeqO m Tryd.prog 56 #[.pointer (some ⟨V, 0, none⟩), .pointer (some ⟨X, 0, none⟩), .pointer (some ⟨Y, 0, none⟩)] (fun s : Stp => #[Value.agg #[.int .i64 s.f, .int .i64 s.l, .int .i64 s.t]]) (KpO w0.heap.size Ms Fs) (Sane w0.heap.size Ms Fs) (stepsFrom a n) w := by
  intro l J Jx W hW hsane hJ hJx hY h0
  obtain ⟨q, hq1, hq2, hq3, hq4⟩ := low_run hlb ho
  have HJ := Lib.hid hJ
  have HJX := Lib.hid hJx
  have HY := Lib.hid hY
  have H0 := Lib.hid h0
  have HQ2 : Hid (stepsFrom a n = (a.ss.drop i).take q) := hq2
  have HQ3 := Lib.hid hq3
  have HQ4 := Lib.hid hq4
  have HA := Lib.hid hA
  have HS := Lib.hid hs
  have HSA := Lib.hid hsane
  have HBW : Hid (Below w0.heap.size w0 W) := Below_on hb0 hW hb0.size
  have HGX : Hid (Good w0.heap.size Ms Fs W X) := (Good.mk hX1 hX2).below hF hW
  have HGY : Hid (Good w0.heap.size Ms Fs W Y) := (Good.mk hY1 hY2).below hF hW
  have HX0 : Hid (W.cell? ⟨X, 0, none⟩ = some (.int .i64 i)) := (hW.cell (p := ⟨X, 0, none⟩) hX1).trans hX0
  have HY0 : Hid (W.cell? ⟨Y, 0, none⟩ = some (.int .i64 n)) := (hW.cell (p := ⟨Y, 0, none⟩) hY1).trans hY0
  have hVn := hA.lt
  have hcc := hs.le
  have HAT : Hid (∀ wr, Off w0.heap.size Ms Fs W wr → Below w0.heap.size w0 wr ∧ wr.cell? ⟨X, 0, none⟩ = some (.int .i64 i) ∧ wr.cell? ⟨Y, 0, none⟩ = some (.int .i64 n)) := fun wr hr =>
    ⟨Below_on HBW.out (hr.below HSA.out HBW.out.size) (Nat.le_refl _), (HGX.out.cell hr).trans HX0.out, (HGY.out.cell hr).trans HY0.out⟩
  obtain ⟨hbW, cx, cy⟩ := HAT.out W (Off.refl hsane)
  obtain ⟨_, c0, c1, c2, c3, c4⟩ := HA.out.below hbW hVn
  have hil := hlb.le
  clear hJ hJx hY h0 hq2 hq3 hq4 hA hs hsane hW hlb ho hX0 hY0 hX1 hY1 hF hX2 hY2 hbW hb0
  refine callsIn_of_wp Tryd.func56 rfl trivial ?_ rfl
  simp only [Tryd.ntmps56, List.size_toArray, List.length_cons, List.length_nil, Nat.reduceAdd, Nat.reduceSub, Array.replicate_succ, Array.replicate_zero, List.push_toArray, List.append_toArray, List.nil_append, List.cons_append]
  by_cases hlt : i < a.ss.length
  · obtain ⟨b, o, hCC, _, hbl, _, _, _⟩ := Stps.at_ HS.out hlt
    subst hCC
    have hcl : i < cc := by omega
    have HQL : Hid ((stepsFrom a n).length = q) := by show _ = _; rw [HQ2.out, List.length_take, List.length_drop]; omega
    have HPRE : Hid (∀ k, (h : k < a.ss.length - i) → k < q → (stepsFrom a n).take k ++ [a.ss[i + k]] <+: stepsFrom a n ∧ (stepsFrom a n).take k ++ [a.ss[i + k]] = (stepsFrom a n).take (k + 1)) := by
      intro k h1 h2
      have e : (stepsFrom a n).take k ++ [a.ss[i + k]'(by omega)] = (stepsFrom a n).take (k + 1) := by
        rw [List.take_succ_eq_append_getElem (by rw [HQL.out]; exact h2)]
        congr 2
        have : (stepsFrom a n)[k]? = some (a.ss[i + k]'(by omega)) := by
          rw [HQ2.out, List.getElem?_take_of_lt h2, List.getElem?_drop, List.getElem?_eq_getElem]
        rw [List.getElem?_eq_getElem (by rw [HQL.out]; exact h2)] at this
        exact (Option.some.inj this).symm
      exact ⟨by rw [e]; exact List.take_prefix _ _, e⟩
    clear c0 c1 c2 c3
    gi_wp2
    gi_loopw [6, 12] (fun _ s wr => ∃ k : Nat, k ≤ q ∧ s = .int .i64 k ∧ Off w0.heap.size Ms Fs W wr ∧ Hid (J ((stepsFrom a n).take k) wr)) (fun _ s _ => a.ss.length - i - (intOf s).toNat)
    case atStart => exact ⟨0, Nat.zero_le _, rfl, Off.refl HSA.out, H0.out⟩
    case round =>
      obtain ⟨k, hk, rfl, hb, HJK⟩ := hrel
      have HO := Lib.hid hb
      clear c4 cx cy
      obtain ⟨hbr, cx, cy⟩ := HAT.out wr hb
      have HB := Lib.hid hbr
      obtain ⟨_, c0, c1, c2, c3, c4⟩ := HA.out.below hbr hVn
      have hYr : Y < wr.heap.size := (HGY.out.off hb).lt
      clear hb c0 c1 c2 c3 hbr
      by_cases hkl : k < a.ss.length - i
      · obtain ⟨b', o', hCC', _, hbl', q1, q2, q3⟩ := Stps.at_ (HS.out.below HB.out) (k := i + k) (by omega)
        obtain ⟨rfl, rfl⟩ : b = b' ∧ o = o' := by simpa using hCC'
        clear hCC'
        have HP := HPRE.out k hkl
        obtain ⟨s, hs⟩ : ∃ s, s = a.ss[i + k] := ⟨_, rfl⟩
        rw [← hs] at q1 q2 q3 HP
        rw [show o + (i + k) * 3 = o + i * 3 + k * 3 by omega] at q1 q2 q3
        have HPP := Lib.hid HP
        have hkl2 : (k : Int) < (a.ss.length : Int) - (i : Int) := by omega
        by_cases hkq : k < q
        · have hfn : s.f = n := by rw [hs]; exact HQ3.out _ _ (by omega) (by omega)
          have hfn1 : (s.f != n) = false := by simp [hfn]
          have HY2 := HY.out ((stepsFrom a n).take k) s (wr.alloc (Obj.cells #[.int .i64 s.f, .int .i64 s.l, .int .i64 s.t] 54)) (HJ.out.alloc _ HJK.out) (HPP.out hkq).1
          obtain ⟨fn, tmps, assign, body, hy, hR⟩ := HY2
          have HRR := Lib.hid hR
          have HFN := Lib.hid hfn
          have HPQ := Lib.hid (HPP.out hkq)
          clear hs HP hR hfn
          gi_wp2
          refine HRR.out.mono ?_
          rintro e W3 (⟨rfl, hJ3, hk3⟩ | ⟨rfl, hJ3, _⟩)
          · have HJ3 : Hid (J ((stepsFrom a n).take (k + 1)) W3) := by
              show J _ _
              rw [← HPQ.out.2]
              exact hJ3
            have HB3 : Hid (Off w0.heap.size Ms Fs W W3) := by
              have h1 := HO.out.trans (Off.of_below (B := wr.alloc (Obj.cells #[.int .i64 s.f, .int .i64 s.l, .int .i64 s.t] 54)) HO.out.sane ((Below.refl _ _).alloc (Nat.le_refl _) _))
              exact h1.trans (hk3 h1.sane)
            clear hJ3 hk3
            gi_wp2
            go_roundw
            case rel => exact ⟨k + 1, by omega, by go_num, HB3.out, HJ3.out⟩
            case measure => simp [intOf]; omega
          · have HJ3 : Hid (Jx ((stepsFrom a n).take k ++ [s]) W3) := hJ3
            clear hJ3
            gi_wp2
            refine bodyPost_ret (results_none rfl _ _ _) rfl ?_
            exact ⟨⟨_, rfl⟩, .inr ⟨_, HPQ.out.1, HJ3.out⟩⟩
        · obtain rfl : k = q := by omega
          have hfn : s.f ≠ n := by rw [hs]; exact HQ4.out (by omega)
          have hfn1 : (s.f != n) = true := by simpa using hfn
          have HJE : Hid (J (stepsFrom a n) (wr.alloc (Obj.cells #[.int .i64 s.f, .int .i64 s.l, .int .i64 s.t] 54))) := by
            have := HJ.out.alloc (Obj.cells #[.int .i64 s.f, .int .i64 s.l, .int .i64 s.t] 54) HJK.out
            rwa [List.take_of_length_le (by rw [HQL.out]; exact Nat.le_refl _)] at this
          clear hs HP hfn
          gi_wp2
          refine ⟨fun _ h => (by cases h), ?_⟩
          gi_wp2
          refine bodyPost_ret (results_none rfl _ _ _) rfl ?_
          exact ⟨⟨_, rfl⟩, .inl HJE.out⟩
      · have HJE : Hid (J (stepsFrom a n) wr) := by
          have := HJK.out
          rwa [List.take_of_length_le (by rw [HQL.out]; omega)] at this
        have hkl2 : ¬ (k : Int) < (a.ss.length : Int) - (i : Int) := by omega
        gi_wp2
        go_end0
        exact ⟨⟨_, rfl⟩, .inl HJE.out⟩
  · have hz : a.ss.length - i = 0 := by omega
    have HJE : Hid (J (stepsFrom a n) W) := by
      have e : stepsFrom a n = [] := by rw [HQ2.out, List.drop_of_length_le (by omega)]; simp
      show J _ _
      rw [e]
      exact H0.out
    clear c0 c1 c2 c3
    gi_wp2
    all_goals
      gi_loopw [12] (fun s wr => s = .int .i64 0 ∧ wr = W) (fun _ _ => 0)
      case atStart => exact ⟨rfl, rfl⟩
      case round =>
        obtain ⟨rfl, rfl⟩ := hrel
        gi_wp2
        go_end0
        exact ⟨⟨_, rfl⟩, .inl HJE.out⟩
end Go.Proofs.YtoglgeaiiipchabDoor

namespace Go.Proofs.YtoglgeaiiipchabDoor
open Go Go.RowKit Go.Shelf
attribute [local go_sem] Oper.semAt_some

set_option maxRecDepth 100000 in
set_option maxHeartbeats 2000000 in
/-- the steps from a state, one by one, to whatever round keeps what lay below lo and what is not bad -/
theorem next_givesV (a : Au) (A B C : Option Addr) (ca cb cc V X Y i : Nat) (n : Int) (Ms Fs : List Nat) (w0 w : World) (hA : AuAt w V a A B C ca cb cc) (hV2 : ¬ Bad Ms Fs w V) (hs : Stps w0 0 C cc a.ss) (hb0 : Below w0.heap.size w0 w)
    (hX0 : w.cell? ⟨X, 0, none⟩ = some (.int .i64 i)) (hY0 : w.cell? ⟨Y, 0, none⟩ = some (.int .i64 n)) (hX1 : X < w.heap.size) (hY1 : Y < w.heap.size) (hF : ∀ F ∈ Fs, F < w.heap.size) (hX2 : ¬ Bad Ms Fs w X) (hY2 : ¬ Bad Ms Fs w Y)
    (ho : ssSorted a.ss) (hl : a.ss.length ≤ 1000000) (hlb : LowB a.ss n i) (m : Nat) (hm : 1 ≤ m) :
    SeqO m Tryd.prog 56 #[.pointer (some ⟨V, 0, none⟩), .pointer (some ⟨X, 0, none⟩), .pointer (some ⟨Y, 0, none⟩)] (fun s : Stp => #[Value.agg #[.int .i64 s.f, .int .i64 s.l, .int .i64 s.t]]) (KpO w0.heap.size Ms Fs) (Sane w0.heap.size Ms Fs) (stepsFrom a n) w := by
  intro l J Jx W hW hsane hJ hJx hY h0
  obtain ⟨q, hq1, hq2, hq3, hq4⟩ := low_run hlb ho
  have HJ := Lib.hid hJ
  have HJX := Lib.hid hJx
  have HY := Lib.hid hY
  have H0 := Lib.hid h0
  have HQ2 : Hid (stepsFrom a n = (a.ss.drop i).take q) := hq2
  have HQ3 := Lib.hid hq3
  have HQ4 := Lib.hid hq4
  have HA : Hid (AuAt W V a A B C ca cb cc) := hA.below hW hA.lt
  have HGV : Hid (Good w0.heap.size Ms Fs W V) := (Good.mk hA.lt hV2).below hF hW
  have HS := Lib.hid hs
  have HSA := Lib.hid hsane
  have HBW : Hid (Below w0.heap.size w0 W) := Below_on hb0 hW hb0.size
  have HGX : Hid (Good w0.heap.size Ms Fs W X) := (Good.mk hX1 hX2).below hF hW
  have HGY : Hid (Good w0.heap.size Ms Fs W Y) := (Good.mk hY1 hY2).below hF hW
  have HX0 : Hid (W.cell? ⟨X, 0, none⟩ = some (.int .i64 i)) := (hW.cell (p := ⟨X, 0, none⟩) hX1).trans hX0
  have HY0 : Hid (W.cell? ⟨Y, 0, none⟩ = some (.int .i64 n)) := (hW.cell (p := ⟨Y, 0, none⟩) hY1).trans hY0
  have hcc := hs.le
  have HAT : Hid (∀ wr, Off w0.heap.size Ms Fs W wr → Below w0.heap.size w0 wr ∧ wr.cell? ⟨X, 0, none⟩ = some (.int .i64 i) ∧ wr.cell? ⟨Y, 0, none⟩ = some (.int .i64 n) ∧ AuAt wr V a A B C ca cb cc) := fun wr hr =>
    ⟨Below_on HBW.out (hr.below HSA.out HBW.out.size) (Nat.le_refl _), (HGX.out.cell hr).trans HX0.out, (HGY.out.cell hr).trans HY0.out, (HGV.out.off hr).lt, (HGV.out.cell hr).trans HA.out.c0, (HGV.out.cell hr).trans HA.out.c1, (HGV.out.cell hr).trans HA.out.c2, (HGV.out.cell hr).trans HA.out.c3, (HGV.out.cell hr).trans HA.out.c4⟩
  obtain ⟨hbW, cx, cy, ⟨_, c0, c1, c2, c3, c4⟩⟩ := HAT.out W (Off.refl hsane)
  have hil := hlb.le
  clear hJ hJx hY h0 hq2 hq3 hq4 hA hs hsane hW hlb ho hX0 hY0 hX1 hY1 hF hX2 hY2 hbW hb0 hV2
  refine callsIn_of_wp Tryd.func56 rfl trivial ?_ rfl
  simp only [Tryd.ntmps56, List.size_toArray, List.length_cons, List.length_nil, Nat.reduceAdd, Nat.reduceSub, Array.replicate_succ, Array.replicate_zero, List.push_toArray, List.append_toArray, List.nil_append, List.cons_append]
  by_cases hlt : i < a.ss.length
  · obtain ⟨b, o, hCC, _, hbl, _, _, _⟩ := Stps.at_ HS.out hlt
    subst hCC
    have hcl : i < cc := by omega
    have HQL : Hid ((stepsFrom a n).length = q) := by show _ = _; rw [HQ2.out, List.length_take, List.length_drop]; omega
    have HPRE : Hid (∀ k, (h : k < a.ss.length - i) → k < q → (stepsFrom a n).take k ++ [a.ss[i + k]] <+: stepsFrom a n ∧ (stepsFrom a n).take k ++ [a.ss[i + k]] = (stepsFrom a n).take (k + 1)) := by
      intro k h1 h2
      have e : (stepsFrom a n).take k ++ [a.ss[i + k]'(by omega)] = (stepsFrom a n).take (k + 1) := by
        rw [List.take_succ_eq_append_getElem (by rw [HQL.out]; exact h2)]
        congr 2
        have : (stepsFrom a n)[k]? = some (a.ss[i + k]'(by omega)) := by
          rw [HQ2.out, List.getElem?_take_of_lt h2, List.getElem?_drop, List.getElem?_eq_getElem]
        rw [List.getElem?_eq_getElem (by rw [HQL.out]; exact h2)] at this
        exact (Option.some.inj this).symm
      exact ⟨by rw [e]; exact List.take_prefix _ _, e⟩
    clear c0 c1 c2 c3
    gi_wp2
    gi_loopw [6, 12] (fun _ s wr => ∃ k : Nat, k ≤ q ∧ s = .int .i64 k ∧ Off w0.heap.size Ms Fs W wr ∧ Hid (J ((stepsFrom a n).take k) wr)) (fun _ s _ => a.ss.length - i - (intOf s).toNat)
    case atStart => exact ⟨0, Nat.zero_le _, rfl, Off.refl HSA.out, H0.out⟩
    case round =>
      obtain ⟨k, hk, rfl, hb, HJK⟩ := hrel
      have HO := Lib.hid hb
      clear c4 cx cy
      obtain ⟨hbr, cx, cy, hAr⟩ := HAT.out wr hb
      have HB := Lib.hid hbr
      obtain ⟨_, c0, c1, c2, c3, c4⟩ := hAr
      have hYr : Y < wr.heap.size := (HGY.out.off hb).lt
      clear hb c0 c1 c2 c3 hbr
      by_cases hkl : k < a.ss.length - i
      · obtain ⟨b', o', hCC', _, hbl', q1, q2, q3⟩ := Stps.at_ (HS.out.below HB.out) (k := i + k) (by omega)
        obtain ⟨rfl, rfl⟩ : b = b' ∧ o = o' := by simpa using hCC'
        clear hCC'
        have HP := HPRE.out k hkl
        obtain ⟨s, hs⟩ : ∃ s, s = a.ss[i + k] := ⟨_, rfl⟩
        rw [← hs] at q1 q2 q3 HP
        rw [show o + (i + k) * 3 = o + i * 3 + k * 3 by omega] at q1 q2 q3
        have HPP := Lib.hid HP
        have hkl2 : (k : Int) < (a.ss.length : Int) - (i : Int) := by omega
        by_cases hkq : k < q
        · have hfn : s.f = n := by rw [hs]; exact HQ3.out _ _ (by omega) (by omega)
          have hfn1 : (s.f != n) = false := by simp [hfn]
          have HY2 := HY.out ((stepsFrom a n).take k) s (wr.alloc (Obj.cells #[.int .i64 s.f, .int .i64 s.l, .int .i64 s.t] 54)) (HJ.out.alloc _ HJK.out) (HPP.out hkq).1
          obtain ⟨fn, tmps, assign, body, hy, hR⟩ := HY2
          have HRR := Lib.hid hR
          have HFN := Lib.hid hfn
          have HPQ := Lib.hid (HPP.out hkq)
          clear hs HP hR hfn
          gi_wp2
          refine HRR.out.mono ?_
          rintro e W3 (⟨rfl, hJ3, hk3⟩ | ⟨rfl, hJ3, _⟩)
          · have HJ3 : Hid (J ((stepsFrom a n).take (k + 1)) W3) := by
              show J _ _
              rw [← HPQ.out.2]
              exact hJ3
            have HB3 : Hid (Off w0.heap.size Ms Fs W W3) := by
              have h1 := HO.out.trans (Off.of_below (B := wr.alloc (Obj.cells #[.int .i64 s.f, .int .i64 s.l, .int .i64 s.t] 54)) HO.out.sane ((Below.refl _ _).alloc (Nat.le_refl _) _))
              exact h1.trans (hk3 h1.sane)
            clear hJ3 hk3
            gi_wp2
            go_roundw
            case rel => exact ⟨k + 1, by omega, by go_num, HB3.out, HJ3.out⟩
            case measure => simp [intOf]; omega
          · have HJ3 : Hid (Jx ((stepsFrom a n).take k ++ [s]) W3) := hJ3
            clear hJ3
            gi_wp2
            refine bodyPost_ret (results_none rfl _ _ _) rfl ?_
            exact ⟨⟨_, rfl⟩, .inr ⟨_, HPQ.out.1, HJ3.out⟩⟩
        · obtain rfl : k = q := by omega
          have hfn : s.f ≠ n := by rw [hs]; exact HQ4.out (by omega)
          have hfn1 : (s.f != n) = true := by simpa using hfn
          have HJE : Hid (J (stepsFrom a n) (wr.alloc (Obj.cells #[.int .i64 s.f, .int .i64 s.l, .int .i64 s.t] 54))) := by
            have := HJ.out.alloc (Obj.cells #[.int .i64 s.f, .int .i64 s.l, .int .i64 s.t] 54) HJK.out
            rwa [List.take_of_length_le (by rw [HQL.out]; exact Nat.le_refl _)] at this
          clear hs HP hfn
          gi_wp2
          refine ⟨fun _ h => (by cases h), ?_⟩
          gi_wp2
          refine bodyPost_ret (results_none rfl _ _ _) rfl ?_
          exact ⟨⟨_, rfl⟩, .inl HJE.out⟩
      · have HJE : Hid (J (stepsFrom a n) wr) := by
          have := HJK.out
          rwa [List.take_of_length_le (by rw [HQL.out]; omega)] at this
        have hkl2 : ¬ (k : Int) < (a.ss.length : Int) - (i : Int) := by omega
        gi_wp2
        go_end0
        exact ⟨⟨_, rfl⟩, .inl HJE.out⟩
  · have hz : a.ss.length - i = 0 := by omega
    have HJE : Hid (J (stepsFrom a n) W) := by
      have e : stepsFrom a n = [] := by rw [HQ2.out, List.drop_of_length_le (by omega)]; simp
      show J _ _
      rw [e]
      exact H0.out
    clear c0 c1 c2 c3
    gi_wp2
    all_goals
      gi_loopw [12] (fun s wr => s = .int .i64 0 ∧ wr = W) (fun _ _ => 0)
      case atStart => exact ⟨rfl, rfl⟩
      case round =>
        obtain ⟨rfl, rfl⟩ := hrel
        gi_wp2
        go_end0
        exact ⟨⟨_, rfl⟩, .inl HJE.out⟩
end Go.Proofs.YtoglgeaiiipchabDoor
