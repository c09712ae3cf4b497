/- Walks: what the steps from a state give, one by one, to a round; the automaton's variable may be younger than what rounds turn. -/
import Derived.Test.YtoglgeaiiipchabLTTM4
import Derived.Test.YtoglgeaiiipchabLTTM3
import Derived.Test.YtoglgeaiiipchabLTTM5
import Derived.Laws.EntriesVeiled
import Derived.RangeFuncNested
import Derived.RangeFuncBound
import Derived.RangeFuncCalls
import Derived.RangeFuncLeaves
import Derived.Shelf.Abstract
import Derived.Shelf.RegionOpen
import Derived.WalkKit
import Derived.OwnWalkIn
import Derived.TacticsInMore
import Derived.LoopNIn
import Derived.LoopIn
set_option linter.unusedSimpArgs false
set_option linter.unusedVariables false
namespace Go.Proofs.Ytoglgeaiiipchab
open Go Go.RowKit Go.Sort Go.Shelf

theorem fromEnters : Enters Try.prog 63 := enters_of Try.func63 (by kernel_rfl) rfl
theorem fromCmp_ (s : Stp) (n : Int) (w : World) : Calls Try.prog 63 #[.agg #[.int .i64 s.f, .int .i64 s.l, .int .i64 s.t], .int .i64 n] w fun e w' => e = .returned (.int .i64 (cmpI s.f n)) ∧ Below w.heap.size w w' := by
  go_enter Try.func63, Try.ntmps63
  go_wp2_with (go_at_call 64; refine (Compare_ _ _ _).mono ?_; rintro e w' ⟨rfl, rfl⟩)
  go_ret
  exact ⟨rfl, by go_grown⟩
theorem cmpI_lt (x y : Int) : cmpI x y < 0 ↔ x < y := by
  unfold cmpI
  split
  · simp [*]
  · split <;> simp [*]
/-- the first place from which the steps come from n on -/
structure LowB (ss : List Stp) (n : Int) (i : Nat) : Prop where
  le : i ≤ ss.length
  lo : ∀ j, (h : j < ss.length) → j < i → ss[j].f < n
  hi : ∀ j, (h : j < ss.length) → i ≤ j → n ≤ ss[j].f
def BsPost (w : World) (ss : List Stp) (n : Int) (e : Ending) (w' : World) : Prop := ∃ (i : Nat) (f : Bool), e = .returned (.tuple #[.int .i64 i, .bool f]) ∧ LowB ss n i ∧ Below w.heap.size w w'
set_option maxRecDepth 100000 in
set_option maxHeartbeats 1000000 in
theorem BinSearch_ (C : Option Addr) (cc : Nat) (ss : List Stp) (n : Int) (w : World) (hs : Stps w 0 C cc ss) (ho : ssSorted ss) (hl : ss.length ≤ 1000000) :
    Calls Try.prog 62 #[.slice C ss.length cc, .int .i64 n, .func (.func 63) #[] #[]] w (BsPost w ss n) := by
  have hgr : ∀ (args : Array Value) (w : World), (callFunc 63 args).run Try.prog w = .ok (.enter 63 args) w := fromEnters
  have HSS := Lib.hid hs
  have HMO : Hid (∀ i j, (hi : i < ss.length) → (hj : j < ss.length) → i ≤ j → ss[i].f ≤ ss[j].f) := by
    intro i j hi hj hij
    rcases Nat.eq_or_lt_of_le hij with rfl | h
    · exact Int.le_refl _
    · have := List.pairwise_iff_getElem.1 ho i j hi hj h
      rw [stpLt_iff] at this
      omega
  have hle := hs.le
  clear hs ho
  go_enter Try.func62, Try.ntmps62
  go_wp2_with fail
  go_loopw [9, 10, 11] (fun i j _ wr => ∃ a b : Nat, a ≤ b ∧ b ≤ ss.length ∧ i = .int .i64 a ∧ j = .int .i64 b ∧ Below w.heap.size w wr ∧ Hid ((∀ k, (h : k < ss.length) → k < a → ss[k].f < n) ∧ ∀ k, (h : k < ss.length) → b ≤ k → n ≤ ss[k].f)) (fun i j _ _ => (intOf j).toNat - (intOf i).toNat)
  case atStart => exact ⟨0, ss.length, Nat.zero_le _, Nat.le_refl _, rfl, rfl, Below.refl _ _, fun k _ h => absurd h (by omega), fun k h1 h2 => absurd h1 (by omega)⟩
  case round =>
    obtain ⟨a, b, hab, hb, rfl, rfl, hbw, HAB⟩ := hrel
    have HB := Lib.hid hbw
    by_cases hlt : a < b
    · have hm1 : (a + b) / 2 < ss.length := by omega
      have hm2 : a ≤ (a + b) / 2 := by omega
      have hm3 : (a + b) / 2 < b := by omega
      obtain ⟨bb, o, rfl, _, hbl, q1, q2, q3⟩ := Stps.at_ (HSS.out.below hbw) hm1
      obtain ⟨s, hs⟩ : ∃ s, s = ss[(a + b) / 2] := ⟨_, rfl⟩
      rw [← hs] at q1 q2 q3
      have HS := Lib.hid hs
      obtain ⟨cv, hcv⟩ : ∃ c, c = cmpI s.f n := ⟨_, rfl⟩
      have HC := Lib.hid (fun W => fromCmp_ s n W)
      rw [← hcv] at HC
      have HCV : Hid (cv < 0 ↔ s.f < n) := by show _ ↔ _; rw [hcv]; exact cmpI_lt _ _
      clear hs hcv hbw
      go_wp2_with fail
      refine (HC.out _).mono ?_
      rintro e w2 ⟨rfl, hb2⟩
      have HB2 : Hid (Below w.heap.size w w2) := Below_on HB.out hb2 HB.out.size
      clear hb2
      by_cases hc0 : cv < 0
      · have HNX : Hid ((∀ k, (h : k < ss.length) → k < (a + b) / 2 + 1 → ss[k].f < n) ∧ ∀ k, (h : k < ss.length) → b ≤ k → n ≤ ss[k].f) := by
          refine ⟨fun k h1 h2 => ?_, HAB.out.2⟩
          have h3 := HMO.out k _ h1 hm1 (by omega)
          have h4 := HCV.out.1 hc0
          rw [HS.out] at h4
          omega
        go_wp2_with fail
        go_roundw
        case rel => exact ⟨(a + b) / 2 + 1, b, by omega, hb, by go_num, rfl, HB2.out, HNX.out⟩
        case measure => simp [intOf]; omega
      · have HNX : Hid ((∀ k, (h : k < ss.length) → k < a → ss[k].f < n) ∧ ∀ k, (h : k < ss.length) → (a + b) / 2 ≤ k → n ≤ ss[k].f) := by
          refine ⟨HAB.out.1, fun k h1 h2 => ?_⟩
          have h3 := HMO.out _ k hm1 h1 h2
          have h4 : ¬ s.f < n := fun h => hc0 (HCV.out.2 h)
          rw [HS.out] at h4
          omega
        go_wp2_with fail
        go_roundw
        case rel => exact ⟨a, (a + b) / 2, hm2, by omega, rfl, by go_num, HB2.out, HNX.out⟩
        case measure => simp [intOf]; omega
    · obtain rfl : a = b := by omega
      have HLB : Hid (LowB ss n a) := ⟨hb, fun k h1 h2 => HAB.out.1 k h1 h2, fun k h1 h2 => HAB.out.2 k h1 h2⟩
      by_cases hal : a < ss.length
      · obtain ⟨bb, o, rfl, _, hbl, q1, q2, q3⟩ := Stps.at_ (HSS.out.below hbw) hal
        generalize ss[a] = s at *
        obtain ⟨cv, hcv⟩ : ∃ c, c = cmpI s.f n := ⟨_, rfl⟩
        have HC := Lib.hid (fun W => fromCmp_ s n W)
        rw [← hcv] at HC
        obtain ⟨fb, hfb⟩ : ∃ f, f = (cv == 0) := ⟨_, rfl⟩
        clear hcv hbw
        go_wp2_with fail
        refine (HC.out _).mono ?_
        rintro e w2 ⟨rfl, hb2⟩
        have HB2 : Hid (Below w.heap.size w w2) := Below_on HB.out hb2 HB.out.size
        have HP : Hid (BsPost w ss n (.returned (.tuple #[.int .i64 a, .bool (cv == 0)])) w2) := ⟨a, _, rfl, HLB.out, HB2.out⟩
        clear hb2
        rw [← hfb] at HP
        have HFB := Lib.hid hfb
        have hfb2 : (cv == 0) = fb := hfb.symm
        clear hfb
        go_wp2_with fail
        go_ret2
        exact HP.out
      · have HP : Hid (BsPost w ss n (.returned (.tuple #[.int .i64 a, .bool false])) wr) := ⟨a, _, rfl, HLB.out, HB.out⟩
        clear hbw
        go_wp2_with fail
        go_ret2
        exact HP.out
/-- the steps from a state -/
def stepsFrom (a : Au) (n : Int) : List Stp := a.ss.filter fun s => s.f == n
theorem run_of {n : Int} : ∀ (ds : List Stp), (∀ s ∈ ds, n ≤ s.f) → ds.Pairwise (fun s t => s.f ≤ t.f) → ∃ m, m ≤ ds.length ∧ ds.filter (fun s => s.f == n) = ds.take m ∧ (∀ j, (h : j < ds.length) → j < m → ds[j].f = n) ∧ ∀ (h : m < ds.length), ds[m].f ≠ n
  | [], _, _ => ⟨0, Nat.le_refl _, rfl, fun j h => absurd h (by simp), fun h => absurd h (by simp)⟩
  | x :: r, hge, hp => by
    have hp' := List.pairwise_cons.1 hp
    by_cases hx : x.f = n
    · obtain ⟨m, h1, h2, h3, h4⟩ := run_of r (fun s hs => hge s (List.mem_cons_of_mem _ hs)) hp'.2
      refine ⟨m + 1, by simpa using h1, ?_, fun j hj hjm => ?_, fun h => ?_⟩
      · rw [List.filter_cons, if_pos (by simp [hx]), h2]; rfl
      · cases j with
        | zero => exact hx
        | succ j => exact h3 j (by simpa using hj) (by omega)
      · exact h4 (by simpa using h)
    · refine ⟨0, Nat.zero_le _, ?_, fun j _ h => absurd h (by omega), fun _ => hx⟩
      rw [List.take_zero, List.filter_eq_nil_iff]
      intro s hs
      have hxn : n < x.f := by
        have := hge x (List.mem_cons_self ..)
        omega
      rcases List.mem_cons.1 hs with rfl | hs
      · simp; omega
      · have := hp'.1 s hs
        simp
        omega
theorem low_run {ss : List Stp} {n : Int} {i : Nat} (h : LowB ss n i) (ho : ssSorted ss) : ∃ m, i + m ≤ ss.length ∧ ss.filter (fun s => s.f == n) = (ss.drop i).take m ∧ (∀ j, (h : j < ss.length) → i ≤ j → j < i + m → ss[j].f = n) ∧ ∀ (h : i + m < ss.length), ss[i + m].f ≠ n := by
  obtain ⟨m, h1, h2, h3, h4⟩ := run_of (n := n) (ss.drop i) (fun s hs => by
    obtain ⟨j, hj, rfl⟩ := List.getElem_of_mem hs
    rw [List.getElem_drop]
    exact h.hi _ _ (by omega)) (by
    have := ho.sublist (List.drop_sublist i ss)
    exact this.imp (fun {s t} hst => by rw [stpLt_iff] at hst; omega))
  rw [List.length_drop] at h1
  refine ⟨m, by have := h.le; omega, ?_, fun j hj hij hjm => ?_, fun hlt => ?_⟩
  · rw [← h2]
    conv => lhs; rw [← List.take_append_drop i ss, List.filter_append]
    have : (ss.take i).filter (fun s => s.f == n) = [] := by
      rw [List.filter_eq_nil_iff]
      intro s hs
      obtain ⟨j, hj, rfl⟩ := List.getElem_of_mem hs
      rw [List.getElem_take]
      have hj' : j < i ∧ j < ss.length := by rw [List.length_take] at hj; omega
      have := h.lo j hj'.2 hj'.1
      simp
      omega
    rw [this, List.nil_append]
  · have := h3 (j - i) (by rw [List.length_drop]; omega) (by omega)
    rw [List.getElem_drop] at this
    simpa [show i + (j - i) = j by omega] using this
  · have := h4 (by rw [List.length_drop]; omega)
    rw [List.getElem_drop] at this
    exact this
/-- what From hands back: the automaton's variable -/
def FromPost (w : World) (a : Au) (A B C : Option Addr) (ca cb cc : Nat) (e : Ending) (w' : World) : Prop :=
  ∃ V, e = .returned (.func (.func 61) #[] #[.pointer (some ⟨V, 0, none⟩)]) ∧ w.heap.size ≤ V ∧ AuAt w' V a A B C ca cb cc ∧ Below w.heap.size w w'
theorem From_ (a : Au) (A B C : Option Addr) (ca cb cc : Nat) (w : World) :
    Calls Try.prog 30 #[.agg #[.int .i64 a.st, .int .i64 a.le, .slice A a.fs.length ca, .slice B a.gs.length cb, .slice C a.ss.length cc]] w (FromPost w a A B C ca cb cc) := by
  have HW := Lib.hid (auW_is w a A B C ca cb cc)
  go_enter Try.func30, Try.ntmps30
  go_wp2_with fail
  go_ret
  exact ⟨w.heap.size, rfl, Nat.le_refl _, HW.out.at, HW.out.below⟩
/-- the steps from a state as a value: where they begin, and the state, in variables -/
structure NextAt (W : World) (V X Y : Nat) (a : Au) (A B C : Option Addr) (ca cb cc : Nat) (n : Int) (i : Nat) : Prop where
  au : AuAt W V a A B C ca cb cc
  lx : X < W.heap.size
  ly : Y < W.heap.size
  x : W.cell? ⟨X, 0, none⟩ = some (.int .i64 i)
  y : W.cell? ⟨Y, 0, none⟩ = some (.int .i64 n)
theorem NextAt.below {W W' : World} {V X Y m i : Nat} {a : Au} {A B C : Option Addr} {ca cb cc : Nat} {n : Int} (h : NextAt W V X Y a A B C ca cb cc n i) (hb : Below m W W') (h1 : V < m) (h2 : X < m) (h3 : Y < m) : NextAt W' V X Y a A B C ca cb cc n i :=
  ⟨h.au.below hb h1, Nat.lt_of_lt_of_le h.lx hb.size, Nat.lt_of_lt_of_le h.ly hb.size, (cell_on3 hb h2).trans h.x, (cell_on3 hb h3).trans h.y⟩
def NextPost (w : World) (V : Nat) (a : Au) (A B C : Option Addr) (ca cb cc : Nat) (n : Int) (e : Ending) (w' : World) : Prop :=
  ∃ X Y i, e = .returned (.func (.func 65) #[] #[.pointer (some ⟨V, 0, none⟩), .pointer (some ⟨X, 0, none⟩), .pointer (some ⟨Y, 0, none⟩)]) ∧ w.heap.size ≤ X ∧ w.heap.size ≤ Y ∧ NextAt w' V X Y a A B C ca cb cc n i ∧ LowB a.ss n i ∧ Below w.heap.size w w'
set_option maxRecDepth 100000 in
set_option maxHeartbeats 1000000 in
theorem next_ (a : Au) (A B C : Option Addr) (ca cb cc V : Nat) (n : Int) (w : World) (hV : AuAt w V a A B C ca cb cc) (hs : Stps w 0 C cc a.ss) (ho : ssSorted a.ss) (hl : a.ss.length ≤ 1000000) :
    Calls Try.prog 61 #[.int .i64 n, .pointer (some ⟨V, 0, none⟩)] w (NextPost w V a A B C ca cb cc n) := by
  obtain ⟨hV0, c0, c1, c2, c3, c4⟩ := hV
  have HV : Hid (AuAt w V a A B C ca cb cc) := ⟨hV0, c0, c1, c2, c3, c4⟩
  have HBS := Lib.hid (fun W (hW : Below w.heap.size w W) => BinSearch_ C cc a.ss n W (hs.below hW) ho hl)
  clear hs ho c0 c1 c2 c3
  go_enter Try.func61, Try.ntmps61
  go_wp2_with fail
  refine (HBS.out _ ((Below.refl _ _).alloc (Nat.le_refl _) _)).mono ?_
  rintro e w2 ⟨i, f, rfl, hlb, hb2⟩
  have hbb : Below w.heap.size w w2 := ((Below.refl _ _).alloc (Nat.le_refl _) _).trans (hb2.mono (by simp))
  have hy : w2.cell? ⟨w.heap.size, 0, none⟩ = some (.int .i64 n) := (cell_on3 hb2 (b := w.heap.size) (o := 0) (by simp)).trans (by go_simp)
  have hlt : w.heap.size < w2.heap.size := by have := hb2.size; simp at this; omega
  have HP : Hid (NextPost w V a A B C ca cb cc n (.returned (.func (.func 65) #[] #[.pointer (some ⟨V, 0, none⟩), .pointer (some ⟨w2.heap.size, 0, none⟩), .pointer (some ⟨w.heap.size, 0, none⟩)])) (w2.alloc (Obj.cells #[.int .i64 i] 3))) := by
    have h3 : Below w2.heap.size w2 (w2.alloc (Obj.cells #[.int .i64 i] 3)) := (Below.refl _ _).alloc (Nat.le_refl _) _
    refine ⟨w2.heap.size, w.heap.size, i, rfl, by omega, Nat.le_refl _, ⟨(HV.out.below hbb hV0).below h3 (by omega), by simp, by simp; omega, by go_simp, (cell_on3 h3 hlt).trans hy⟩, hlb, Below_on hbb h3 hbb.size⟩
  have HLB := Lib.hid hlb
  clear hb2 hbb hlb
  go_wp2_with fail
  go_ret
  exact HP.out
end Go.Proofs.Ytoglgeaiiipchab

namespace Go.Proofs.Ytoglgeaiiipchab
open Go Go.RowKit Go.Shelf
attribute [local go_sem] Oper.semAt_some

set_option maxRecDepth 100000 in
set_option maxHeartbeats 2000000 in
/-- the steps from a state, one by one, to whatever round keeps what lay below lo and what is not bad -/
theorem next_gives (a : Au) (A B C : Option Addr) (ca cb cc V X Y i : Nat) (n : Int) (Ms Fs : List Nat) (w0 w : World) (hA : AuAt w0 V a A B C ca cb cc) (hs : Stps w0 0 C cc a.ss) (hb0 : Below w0.heap.size w0 w)
    (hX0 : w.cell? ⟨X, 0, none⟩ = some (.int .i64 i)) (hY0 : w.cell? ⟨Y, 0, none⟩ = some (.int .i64 n)) (hX1 : X < w.heap.size) (hY1 : Y < w.heap.size) (hF : ∀ F ∈ Fs, F < w.heap.size) (hX2 : ¬ Bad Ms Fs w X) (hY2 : ¬ Bad Ms Fs w Y)
    (ho : ssSorted a.ss) (hl : a.ss.length ≤ 1000000) (hlb : LowB a.ss n i) (m : Nat) (hm : 1 ≤ m) :
    SeqO m Try.prog 65 #[.pointer (some ⟨V, 0, none⟩), .pointer (some ⟨X, 0, none⟩), .pointer (some ⟨Y, 0, none⟩)] (fun s : Stp => #[Value.agg #[.int .i64 s.f, .int .i64 s.l, .int .i64 s.t]]) (KpO w0.heap.size Ms Fs) (Sane w0.heap.size Ms Fs) (stepsFrom a n) w := by
  intro l J Jx W hW hsane hJ hJx hY h0
  obtain ⟨q, hq1, hq2, hq3, hq4⟩ := low_run hlb ho
  have HJ := Lib.hid hJ
  have HJX := Lib.hid hJx
  have HY := Lib.hid hY
  have H0 := Lib.hid h0
  have HQ2 : Hid (stepsFrom a n = (a.ss.drop i).take q) := hq2
  have HQ3 := Lib.hid hq3
  have HQ4 := Lib.hid hq4
  have HA := Lib.hid hA
  have HS := Lib.hid hs
  have HSA := Lib.hid hsane
  have HBW : Hid (Below w0.heap.size w0 W) := Below_on hb0 hW hb0.size
  have HGX : Hid (Good w0.heap.size Ms Fs W X) := (Good.mk hX1 hX2).below hF hW
  have HGY : Hid (Good w0.heap.size Ms Fs W Y) := (Good.mk hY1 hY2).below hF hW
  have HX0 : Hid (W.cell? ⟨X, 0, none⟩ = some (.int .i64 i)) := (hW.cell (p := ⟨X, 0, none⟩) hX1).trans hX0
  have HY0 : Hid (W.cell? ⟨Y, 0, none⟩ = some (.int .i64 n)) := (hW.cell (p := ⟨Y, 0, none⟩) hY1).trans hY0
  have hVn := hA.lt
  have hcc := hs.le
  have HAT : Hid (∀ wr, Off w0.heap.size Ms Fs W wr → Below w0.heap.size w0 wr ∧ wr.cell? ⟨X, 0, none⟩ = some (.int .i64 i) ∧ wr.cell? ⟨Y, 0, none⟩ = some (.int .i64 n)) := fun wr hr =>
    ⟨Below_on HBW.out (hr.below HSA.out HBW.out.size) (Nat.le_refl _), (HGX.out.cell hr).trans HX0.out, (HGY.out.cell hr).trans HY0.out⟩
  obtain ⟨hbW, cx, cy⟩ := HAT.out W (Off.refl hsane)
  obtain ⟨_, c0, c1, c2, c3, c4⟩ := HA.out.below hbW hVn
  have hil := hlb.le
  clear hJ hJx hY h0 hq2 hq3 hq4 hA hs hsane hW hlb ho hX0 hY0 hX1 hY1 hF hX2 hY2 hbW hb0
  refine callsIn_of_wp Try.func65 rfl trivial ?_ rfl
  simp only [Try.ntmps65, List.size_toArray, List.length_cons, List.length_nil, Nat.reduceAdd, Nat.reduceSub, Array.replicate_succ, Array.replicate_zero, List.push_toArray, List.append_toArray, List.nil_append, List.cons_append]
  by_cases hlt : i < a.ss.length
  · obtain ⟨b, o, hCC, _, hbl, _, _, _⟩ := Stps.at_ HS.out hlt
    subst hCC
    have hcl : i < cc := by omega
    have HQL : Hid ((stepsFrom a n).length = q) := by show _ = _; rw [HQ2.out, List.length_take, List.length_drop]; omega
    have HPRE : Hid (∀ k, (h : k < a.ss.length - i) → k < q → (stepsFrom a n).take k ++ [a.ss[i + k]] <+: stepsFrom a n ∧ (stepsFrom a n).take k ++ [a.ss[i + k]] = (stepsFrom a n).take (k + 1)) := by
      intro k h1 h2
      have e : (stepsFrom a n).take k ++ [a.ss[i + k]'(by omega)] = (stepsFrom a n).take (k + 1) := by
        rw [List.take_succ_eq_append_getElem (by rw [HQL.out]; exact h2)]
        congr 2
        have : (stepsFrom a n)[k]? = some (a.ss[i + k]'(by omega)) := by
          rw [HQ2.out, List.getElem?_take_of_lt h2, List.getElem?_drop, List.getElem?_eq_getElem]
        rw [List.getElem?_eq_getElem (by rw [HQL.out]; exact h2)] at this
        exact (Option.some.inj this).symm
      exact ⟨by rw [e]; exact List.take_prefix _ _, e⟩
    clear c0 c1 c2 c3
    gi_wp2
    gi_loopw [6, 12] (fun _ s wr => ∃ k : Nat, k ≤ q ∧ s = .int .i64 k ∧ Off w0.heap.size Ms Fs W wr ∧ Hid (J ((stepsFrom a n).take k) wr)) (fun _ s _ => a.ss.length - i - (intOf s).toNat)
    case atStart => exact ⟨0, Nat.zero_le _, rfl, Off.refl HSA.out, H0.out⟩
    case round =>
      obtain ⟨k, hk, rfl, hb, HJK⟩ := hrel
      have HO := Lib.hid hb
      clear c4 cx cy
      obtain ⟨hbr, cx, cy⟩ := HAT.out wr hb
      have HB := Lib.hid hbr
      obtain ⟨_, c0, c1, c2, c3, c4⟩ := HA.out.below hbr hVn
      have hYr : Y < wr.heap.size := (HGY.out.off hb).lt
      clear hb c0 c1 c2 c3 hbr
      by_cases hkl : k < a.ss.length - i
      · obtain ⟨b', o', hCC', _, hbl', q1, q2, q3⟩ := Stps.at_ (HS.out.below HB.out) (k := i + k) (by omega)
        obtain ⟨rfl, rfl⟩ : b = b' ∧ o = o' := by simpa using hCC'
        clear hCC'
        have HP := HPRE.out k hkl
        obtain ⟨s, hs⟩ : ∃ s, s = a.ss[i + k] := ⟨_, rfl⟩
        rw [← hs] at q1 q2 q3 HP
        rw [show o + (i + k) * 3 = o + i * 3 + k * 3 by omega] at q1 q2 q3
        have HPP := Lib.hid HP
        have hkl2 : (k : Int) < (a.ss.length : Int) - (i : Int) := by omega
        by_cases hkq : k < q
        · have hfn : s.f = n := by rw [hs]; exact HQ3.out _ _ (by omega) (by omega)
          have hfn1 : (s.f != n) = false := by simp [hfn]
          have HY2 := HY.out ((stepsFrom a n).take k) s (wr.alloc (Obj.cells #[.int .i64 s.f, .int .i64 s.l, .int .i64 s.t] 49)) (HJ.out.alloc _ HJK.out) (HPP.out hkq).1
          obtain ⟨fn, tmps, assign, body, hy, hR⟩ := HY2
          have HRR := Lib.hid hR
          have HFN := Lib.hid hfn
          have HPQ := Lib.hid (HPP.out hkq)
          clear hs HP hR hfn
          gi_wp2
          refine HRR.out.mono ?_
          rintro e W3 (⟨rfl, hJ3, hk3⟩ | ⟨rfl, hJ3, _⟩)
          · have HJ3 : Hid (J ((stepsFrom a n).take (k + 1)) W3) := by
              show J _ _
              rw [← HPQ.out.2]
              exact hJ3
            have HB3 : Hid (Off w0.heap.size Ms Fs W W3) := by
              have h1 := HO.out.trans (Off.of_below (B := wr.alloc (Obj.cells #[.int .i64 s.f, .int .i64 s.l, .int .i64 s.t] 49)) HO.out.sane ((Below.refl _ _).alloc (Nat.le_refl _) _))
              exact h1.trans (hk3 h1.sane)
            clear hJ3 hk3
            gi_wp2
            go_roundw
            case rel => exact ⟨k + 1, by omega, by go_num, HB3.out, HJ3.out⟩
            case measure => simp [intOf]; omega
          · have HJ3 : Hid (Jx ((stepsFrom a n).take k ++ [s]) W3) := hJ3
            clear hJ3
            gi_wp2
            refine bodyPost_ret (results_none rfl _ _ _) rfl ?_
            exact ⟨⟨_, rfl⟩, .inr ⟨_, HPQ.out.1, HJ3.out⟩⟩
        · obtain rfl : k = q := by omega
          have hfn : s.f ≠ n := by rw [hs]; exact HQ4.out (by omega)
          have hfn1 : (s.f != n) = true := by simpa using hfn
          have HJE : Hid (J (stepsFrom a n) (wr.alloc (Obj.cells #[.int .i64 s.f, .int .i64 s.l, .int .i64 s.t] 49))) := by
            have := HJ.out.alloc (Obj.cells #[.int .i64 s.f, .int .i64 s.l, .int .i64 s.t] 49) HJK.out
            rwa [List.take_of_length_le (by rw [HQL.out]; exact Nat.le_refl _)] at this
          clear hs HP hfn
          gi_wp2
          refine ⟨fun _ h => (by cases h), ?_⟩
          gi_wp2
          refine bodyPost_ret (results_none rfl _ _ _) rfl ?_
          exact ⟨⟨_, rfl⟩, .inl HJE.out⟩
      · have HJE : Hid (J (stepsFrom a n) wr) := by
          have := HJK.out
          rwa [List.take_of_length_le (by rw [HQL.out]; omega)] at this
        have hkl2 : ¬ (k : Int) < (a.ss.length : Int) - (i : Int) := by omega
        gi_wp2
        go_end0
        exact ⟨⟨_, rfl⟩, .inl HJE.out⟩
  · have hz : a.ss.length - i = 0 := by omega
    have HJE : Hid (J (stepsFrom a n) W) := by
      have e : stepsFrom a n = [] := by rw [HQ2.out, List.drop_of_length_le (by omega)]; simp
      show J _ _
      rw [e]
      exact H0.out
    clear c0 c1 c2 c3
    gi_wp2
    all_goals
      gi_loopw [12] (fun s wr => s = .int .i64 0 ∧ wr = W) (fun _ _ => 0)
      case atStart => exact ⟨rfl, rfl⟩
      case round =>
        obtain ⟨rfl, rfl⟩ := hrel
        gi_wp2
        go_end0
        exact ⟨⟨_, rfl⟩, .inl HJE.out⟩
end Go.Proofs.Ytoglgeaiiipchab

namespace Go.Proofs.Ytoglgeaiiipchab
open Go Go.RowKit Go.Shelf
attribute [local go_sem] Oper.semAt_some

set_option maxRecDepth 100000 in
set_option maxHeartbeats 2000000 in
/-- the steps from a state, one by one, to whatever round keeps what lay below lo and what is not bad -/
theorem next_givesV (a : Au) (A B C : Option Addr) (ca cb cc V X Y i : Nat) (n : Int) (Ms Fs : List Nat) (w0 w : World) (hA : AuAt w V a A B C ca cb cc) (hV2 : ¬ Bad Ms Fs w V) (hs : Stps w0 0 C cc a.ss) (hb0 : Below w0.heap.size w0 w)
    (hX0 : w.cell? ⟨X, 0, none⟩ = some (.int .i64 i)) (hY0 : w.cell? ⟨Y, 0, none⟩ = some (.int .i64 n)) (hX1 : X < w.heap.size) (hY1 : Y < w.heap.size) (hF : ∀ F ∈ Fs, F < w.heap.size) (hX2 : ¬ Bad Ms Fs w X) (hY2 : ¬ Bad Ms Fs w Y)
    (ho : ssSorted a.ss) (hl : a.ss.length ≤ 1000000) (hlb : LowB a.ss n i) (m : Nat) (hm : 1 ≤ m) :
    SeqO m Try.prog 65 #[.pointer (some ⟨V, 0, none⟩), .pointer (some ⟨X, 0, none⟩), .pointer (some ⟨Y, 0, none⟩)] (fun s : Stp => #[Value.agg #[.int .i64 s.f, .int .i64 s.l, .int .i64 s.t]]) (KpO w0.heap.size Ms Fs) (Sane w0.heap.size Ms Fs) (stepsFrom a n) w := by
  intro l J Jx W hW hsane hJ hJx hY h0
  obtain ⟨q, hq1, hq2, hq3, hq4⟩ := low_run hlb ho
  have HJ := Lib.hid hJ
  have HJX := Lib.hid hJx
  have HY := Lib.hid hY
  have H0 := Lib.hid h0
  have HQ2 : Hid (stepsFrom a n = (a.ss.drop i).take q) := hq2
  have HQ3 := Lib.hid hq3
  have HQ4 := Lib.hid hq4
  have HA : Hid (AuAt W V a A B C ca cb cc) := hA.below hW hA.lt
  have HGV : Hid (Good w0.heap.size Ms Fs W V) := (Good.mk hA.lt hV2).below hF hW
  have HS := Lib.hid hs
  have HSA := Lib.hid hsane
  have HBW : Hid (Below w0.heap.size w0 W) := Below_on hb0 hW hb0.size
  have HGX : Hid (Good w0.heap.size Ms Fs W X) := (Good.mk hX1 hX2).below hF hW
  have HGY : Hid (Good w0.heap.size Ms Fs W Y) := (Good.mk hY1 hY2).below hF hW
  have HX0 : Hid (W.cell? ⟨X, 0, none⟩ = some (.int .i64 i)) := (hW.cell (p := ⟨X, 0, none⟩) hX1).trans hX0
  have HY0 : Hid (W.cell? ⟨Y, 0, none⟩ = some (.int .i64 n)) := (hW.cell (p := ⟨Y, 0, none⟩) hY1).trans hY0
  have hcc := hs.le
  have HAT : Hid (∀ wr, Off w0.heap.size Ms Fs W wr → Below w0.heap.size w0 wr ∧ wr.cell? ⟨X, 0, none⟩ = some (.int .i64 i) ∧ wr.cell? ⟨Y, 0, none⟩ = some (.int .i64 n) ∧ AuAt wr V a A B C ca cb cc) := fun wr hr =>
    ⟨Below_on HBW.out (hr.below HSA.out HBW.out.size) (Nat.le_refl _), (HGX.out.cell hr).trans HX0.out, (HGY.out.cell hr).trans HY0.out, (HGV.out.off hr).lt, (HGV.out.cell hr).trans HA.out.c0, (HGV.out.cell hr).trans HA.out.c1, (HGV.out.cell hr).trans HA.out.c2, (HGV.out.cell hr).trans HA.out.c3, (HGV.out.cell hr).trans HA.out.c4⟩
  obtain ⟨hbW, cx, cy, ⟨_, c0, c1, c2, c3, c4⟩⟩ := HAT.out W (Off.refl hsane)
  have hil := hlb.le
  clear hJ hJx hY h0 hq2 hq3 hq4 hA hs hsane hW hlb ho hX0 hY0 hX1 hY1 hF hX2 hY2 hbW hb0 hV2
  refine callsIn_of_wp Try.func65 rfl trivial ?_ rfl
  simp only [Try.ntmps65, List.size_toArray, List.length_cons, List.length_nil, Nat.reduceAdd, Nat.reduceSub, Array.replicate_succ, Array.replicate_zero, List.push_toArray, List.append_toArray, List.nil_append, List.cons_append]
  by_cases hlt : i < a.ss.length
  · obtain ⟨b, o, hCC, _, hbl, _, _, _⟩ := Stps.at_ HS.out hlt
    subst hCC
    have hcl : i < cc := by omega
    have HQL : Hid ((stepsFrom a n).length = q) := by show _ = _; rw [HQ2.out, List.length_take, List.length_drop]; omega
    have HPRE : Hid (∀ k, (h : k < a.ss.length - i) → k < q → (stepsFrom a n).take k ++ [a.ss[i + k]] <+: stepsFrom a n ∧ (stepsFrom a n).take k ++ [a.ss[i + k]] = (stepsFrom a n).take (k + 1)) := by
      intro k h1 h2
      have e : (stepsFrom a n).take k ++ [a.ss[i + k]'(by omega)] = (stepsFrom a n).take (k + 1) := by
        rw [List.take_succ_eq_append_getElem (by rw [HQL.out]; exact h2)]
        congr 2
        have : (stepsFrom a n)[k]? = some (a.ss[i + k]'(by omega)) := by
          rw [HQ2.out, List.getElem?_take_of_lt h2, List.getElem?_drop, List.getElem?_eq_getElem]
        rw [List.getElem?_eq_getElem (by rw [HQL.out]; exact h2)] at this
        exact (Option.some.inj this).symm
      exact ⟨by rw [e]; exact List.take_prefix _ _, e⟩
    clear c0 c1 c2 c3
    gi_wp2
    gi_loopw [6, 12] (fun _ s wr => ∃ k : Nat, k ≤ q ∧ s = .int .i64 k ∧ Off w0.heap.size Ms Fs W wr ∧ Hid (J ((stepsFrom a n).take k) wr)) (fun _ s _ => a.ss.length - i - (intOf s).toNat)
    case atStart => exact ⟨0, Nat.zero_le _, rfl, Off.refl HSA.out, H0.out⟩
    case round =>
      obtain ⟨k, hk, rfl, hb, HJK⟩ := hrel
      have HO := Lib.hid hb
      clear c4 cx cy
      obtain ⟨hbr, cx, cy, hAr⟩ := HAT.out wr hb
      have HB := Lib.hid hbr
      obtain ⟨_, c0, c1, c2, c3, c4⟩ := hAr
      have hYr : Y < wr.heap.size := (HGY.out.off hb).lt
      clear hb c0 c1 c2 c3 hbr
      by_cases hkl : k < a.ss.length - i
      · obtain ⟨b', o', hCC', _, hbl', q1, q2, q3⟩ := Stps.at_ (HS.out.below HB.out) (k := i + k) (by omega)
        obtain ⟨rfl, rfl⟩ : b = b' ∧ o = o' := by simpa using hCC'
        clear hCC'
        have HP := HPRE.out k hkl
        obtain ⟨s, hs⟩ : ∃ s, s = a.ss[i + k] := ⟨_, rfl⟩
        rw [← hs] at q1 q2 q3 HP
        rw [show o + (i + k) * 3 = o + i * 3 + k * 3 by omega] at q1 q2 q3
        have HPP := Lib.hid HP
        have hkl2 : (k : Int) < (a.ss.length : Int) - (i : Int) := by omega
        by_cases hkq : k < q
        · have hfn : s.f = n := by rw [hs]; exact HQ3.out _ _ (by omega) (by omega)
          have hfn1 : (s.f != n) = false := by simp [hfn]
          have HY2 := HY.out ((stepsFrom a n).take k) s (wr.alloc (Obj.cells #[.int .i64 s.f, .int .i64 s.l, .int .i64 s.t] 49)) (HJ.out.alloc _ HJK.out) (HPP.out hkq).1
          obtain ⟨fn, tmps, assign, body, hy, hR⟩ := HY2
          have HRR := Lib.hid hR
          have HFN := Lib.hid hfn
          have HPQ := Lib.hid (HPP.out hkq)
          clear hs HP hR hfn
          gi_wp2
          refine HRR.out.mono ?_
          rintro e W3 (⟨rfl, hJ3, hk3⟩ | ⟨rfl, hJ3, _⟩)
          · have HJ3 : Hid (J ((stepsFrom a n).take (k + 1)) W3) := by
              show J _ _
              rw [← HPQ.out.2]
              exact hJ3
            have HB3 : Hid (Off w0.heap.size Ms Fs W W3) := by
              have h1 := HO.out.trans (Off.of_below (B := wr.alloc (Obj.cells #[.int .i64 s.f, .int .i64 s.l, .int .i64 s.t] 49)) HO.out.sane ((Below.refl _ _).alloc (Nat.le_refl _) _))
              exact h1.trans (hk3 h1.sane)
            clear hJ3 hk3
            gi_wp2
            go_roundw
            case rel => exact ⟨k + 1, by omega, by go_num, HB3.out, HJ3.out⟩
            case measure => simp [intOf]; omega
          · have HJ3 : Hid (Jx ((stepsFrom a n).take k ++ [s]) W3) := hJ3
            clear hJ3
            gi_wp2
            refine bodyPost_ret (results_none rfl _ _ _) rfl ?_
            exact ⟨⟨_, rfl⟩, .inr ⟨_, HPQ.out.1, HJ3.out⟩⟩
        · obtain rfl : k = q := by omega
          have hfn : s.f ≠ n := by rw [hs]; exact HQ4.out (by omega)
          have hfn1 : (s.f != n) = true := by simpa using hfn
          have HJE : Hid (J (stepsFrom a n) (wr.alloc (Obj.cells #[.int .i64 s.f, .int .i64 s.l, .int .i64 s.t] 49))) := by
            have := HJ.out.alloc (Obj.cells #[.int .i64 s.f, .int .i64 s.l, .int .i64 s.t] 49) HJK.out
            rwa [List.take_of_length_le (by rw [HQL.out]; exact Nat.le_refl _)] at this
          clear hs HP hfn
          gi_wp2
          refine ⟨fun _ h => (by cases h), ?_⟩
          gi_wp2
          refine bodyPost_ret (results_none rfl _ _ _) rfl ?_
          exact ⟨⟨_, rfl⟩, .inl HJE.out⟩
      · have HJE : Hid (J (stepsFrom a n) wr) := by
          have := HJK.out
          rwa [List.take_of_length_le (by rw [HQL.out]; omega)] at this
        have hkl2 : ¬ (k : Int) < (a.ss.length : Int) - (i : Int) := by omega
        gi_wp2
        go_end0
        exact ⟨⟨_, rfl⟩, .inl HJE.out⟩
  · have hz : a.ss.length - i = 0 := by omega
    have HJE : Hid (J (stepsFrom a n) W) := by
      have e : stepsFrom a n = [] := by rw [HQ2.out, List.drop_of_length_le (by omega)]; simp
      show J _ _
      rw [e]
      exact H0.out
    clear c0 c1 c2 c3
    gi_wp2
    all_goals
      gi_loopw [12] (fun s wr => s = .int .i64 0 ∧ wr = W) (fun _ _ => 0)
      case atStart => exact ⟨rfl, rfl⟩
      case round =>
        obtain ⟨rfl, rfl⟩ := hrel
        gi_wp2
        go_end0
        exact ⟨⟨_, rfl⟩, .inl HJE.out⟩
end Go.Proofs.Ytoglgeaiiipchab
