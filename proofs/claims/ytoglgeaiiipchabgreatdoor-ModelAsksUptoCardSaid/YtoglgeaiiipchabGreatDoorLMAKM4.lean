import Derived.Test.YtoglgeaiiipchabGreatDoorLMAKM1
import Derived.Test.YtoglgeaiiipchabGreatDoorLMAKM3
import Derived.Shelf.Abstract
import Derived.Laws.EntriesVeiled
set_option linter.unusedSimpArgs false
set_option linter.unusedVariables false
namespace Go.Proofs.YtoglgeaiiipchabGreatDoor
open Go Go.RowKit
structure Kept (a b : Nat) (w w' : World) : Prop where
  size : w.heap.size ≤ w'.heap.size
  block : ∀ k, a ≤ k → k < b → w'.heap[k]? = w.heap[k]?
theorem Kept.set (a b : Nat) (w : World) {p : Addr} (u : Value) (hp : p.block < a ∨ b ≤ p.block) : Kept a b w (w.setCell p u) := ⟨by simp [World.setCell], fun k h1 h2 => Below.heap_setCell _ _ _ _ (by omega)⟩
section
variable {α : Type} {enc : α → List Value} {bt : Nat} {w w' : World} {lo : Nat} {A : Option Addr} {c : Nat} {xs : List α}
theorem Rd.kept {xs : List Value} (h : Rd w lo A xs) (hk : Kept lo w.heap.size w w') : Rd w' lo A xs := by
  intro hne
  obtain ⟨b, off, hA, hlo, hlt, hc⟩ := h hne
  exact ⟨b, off, hA, hlo, Nat.lt_of_lt_of_le hlt hk.size, fun j u hu => (World.cell?_of_block (w := w) (a := ⟨b, off + j, none⟩) (hk.block b hlo hlt)).trans (hc j u hu)⟩
theorem SlE.kept (h : SlE enc bt w lo A c xs) (hk : Kept lo w.heap.size w w') : SlE enc bt w' lo A c xs := ⟨h.le, h.cap, h.max, h.rd.kept hk⟩
end
theorem Rd.new (w : World) (cs : Array Value) (e : TypeId) : Rd (w.alloc (Obj.cells cs e)) 0 (some ⟨w.heap.size, 0, none⟩) cs.toList := by
  intro _
  refine ⟨_, 0, rfl, Nat.zero_le _, by simp, fun j u hu => ?_⟩
  have h : (w.alloc (Obj.cells cs e)).heap[w.heap.size]? = some (Obj.cells cs e) := by
    show (w.heap.push _)[w.heap.size]? = _
    simp
  simp only [World.cell?, h, Nat.zero_add]
  simpa using hu
end Go.Proofs.YtoglgeaiiipchabGreatDoor

namespace Go.Proofs.YtoglgeaiiipchabGreatDoor
open Go Go.RowKit Go.Sort Go.Shelf
def cmpI (x y : Int) : Int := if x < y then -1 else if y < x then 1 else 0
def orV : List Int → Int
  | [] => 0
  | x :: r => if x = 0 then orV r else x
def ordV (s t : Stp) : Int := orV [cmpI s.f t.f, cmpI s.l t.l, cmpI s.t t.t]
theorem orV_step {xs : List Int} {k : Nat} (hk : k < xs.length) : orV (xs.drop k) = if xs[k] = 0 then orV (xs.drop (k + 1)) else xs[k] := by
  rw [List.drop_eq_getElem_cons hk]; rfl
theorem ordV_lt (s t : Stp) : ordV s t < 0 ↔ stpLt s t = true := by
  rw [stpLt_iff]
  unfold ordV cmpI
  simp only [orV]
  split <;> split <;> (try split) <;> (try split) <;> (try split) <;> (try split) <;> omega
theorem isNaN_ (x : Int) (w : World) : Calls Tryz.prog 108 #[.int .i64 x] w fun e w' => e = .returned (.bool false) ∧ w = w' := by
  have h : (x != x) = false := by simp
  go_enter Tryz.func108, Tryz.ntmps108
  go_wp2_with fail
  go_ret
  exact ⟨rfl, rfl⟩
theorem Compare_ (x y : Int) (w : World) : Calls Tryz.prog 75 #[.int .i64 x, .int .i64 y] w fun e w' => e = .returned (.int .i64 (cmpI x y)) ∧ w = w' := by
  have HV := Lib.hid (show cmpI x y = if x < y then -1 else if y < x then 1 else 0 from rfl)
  generalize cmpI x y = v at *
  go_enter Tryz.func75, Tryz.ntmps75
  by_cases h1 : x < y
  · have HF : Hid (v = -1) := by show v = _; rw [HV.out, if_pos h1]
    go_wp2_with (go_at_call 108; refine (isNaN_ _ _).mono ?_; rintro e w' ⟨rfl, rfl⟩)
    go_ret
    exact ⟨ret_int HF.out.symm, rfl⟩
  · by_cases h2 : y < x
    · have HF : Hid (v = 1) := by show v = _; rw [HV.out, if_neg h1, if_pos h2]
      go_wp2_with (go_at_call 108; refine (isNaN_ _ _).mono ?_; rintro e w' ⟨rfl, rfl⟩)
      go_ret
      exact ⟨ret_int HF.out.symm, rfl⟩
    · have HF : Hid (v = 0) := by show v = _; rw [HV.out, if_neg h1, if_neg h2]
      go_wp2_with (go_at_call 108; refine (isNaN_ _ _).mono ?_; rintro e w' ⟨rfl, rfl⟩)
      go_ret
      exact ⟨ret_int HF.out.symm, rfl⟩
theorem OrI_ (A : Option Addr) (c : Nat) (xs : List Int) (w : World) (hx : Ints w 0 A c xs) : Calls Tryz.prog 107 #[.slice A xs.length c] w fun e w' => e = .returned (.int .i64 (orV xs)) ∧ w = w' := by
  have h1 := hx.le
  have h2 := hx.max
  have HX := Lib.hid hx
  clear hx
  obtain ⟨v, hv⟩ : ∃ v, v = orV xs := ⟨_, rfl⟩
  rw [← hv]
  have HV := Lib.hid hv
  clear hv
  go_enter Tryz.func107, Tryz.ntmps107
  go_wp2_with fail
  go_loop [5, 8] (fun s i => ∃ k : Nat, k ≤ xs.length ∧ i = .int .i64 k ∧ Hid (v = orV (xs.drop k))) (fun _ i => xs.length - (intOf i).toNat)
  case atStart => exact ⟨0, Nat.zero_le _, rfl, HV.out⟩
  case round =>
    obtain ⟨k, hk, rfl, HK⟩ := hrel
    by_cases hlt : k < xs.length
    · obtain ⟨b, o, rfl, _, _, q⟩ := Ints.at_ HX.out hlt
      have HS := Lib.hid (orV_step hlt)
      generalize xs[k] = x at *
      by_cases hx0 : x = 0
      · have hx1 : (x != 0) = false := by simp [hx0]
        have HF : Hid (v = orV (xs.drop (k + 1))) := by show v = _; rw [HK.out, HS.out, if_pos hx0]
        clear hx0
        go_wp2_with fail
        go_round
        case rel => exact ⟨k + 1, by omega, by go_num, HF⟩
        case measure => simp [intOf]; omega
      · have hx1 : (x != 0) = true := by simpa using hx0
        have HF : Hid (v = x) := by show v = _; rw [HK.out, HS.out, if_neg hx0]
        clear hx0
        go_wp2_with fail
        go_ret
        exact ⟨ret_int HF.out.symm, rfl⟩
    · have HF : Hid (v = 0) := by show v = _; rw [HK.out, List.drop_of_length_le (by omega)]; rfl
      go_wp2_with fail
      go_ret
      exact ⟨ret_int HF.out.symm, rfl⟩
def st2W (w : World) (s t : Stp) : World := (w.alloc (Obj.cells #[.int .i64 s.f, .int .i64 s.l, .int .i64 s.t] 108)).alloc (Obj.cells #[.int .i64 t.f, .int .i64 t.l, .int .i64 t.t] 108)
structure St2W (w W : World) (s t : Stp) : Prop where
  below : Below w.heap.size w W
  size : W.heap.size = w.heap.size + 1 + 1
  s0 : W.cell? ⟨w.heap.size, 0, none⟩ = some (.int .i64 s.f)
  s1 : W.cell? ⟨w.heap.size, 1, none⟩ = some (.int .i64 s.l)
  s2 : W.cell? ⟨w.heap.size, 2, none⟩ = some (.int .i64 s.t)
  t0 : W.cell? ⟨w.heap.size + 1, 0, none⟩ = some (.int .i64 t.f)
  t1 : W.cell? ⟨w.heap.size + 1, 1, none⟩ = some (.int .i64 t.l)
  t2 : W.cell? ⟨w.heap.size + 1, 2, none⟩ = some (.int .i64 t.t)
theorem st2W_is (w : World) (s t : Stp) : St2W w (st2W w s t) s t := by
  unfold st2W
  refine ⟨by go_grown, by simp, ?_, ?_, ?_, ?_, ?_, ?_⟩ <;> go_simp
theorem ints3 (w : World) (e : TypeId) (x y z : Int) : Ints (w.alloc (Obj.cells #[.int .i64 x, .int .i64 y, .int .i64 z] e)) 0 (some ⟨w.heap.size, 0, none⟩) 3 [x, y, z] :=
  ⟨Nat.le_refl _, by decide, by simp, Rd.new w #[.int .i64 x, .int .i64 y, .int .i64 z] e⟩
end Go.Proofs.YtoglgeaiiipchabGreatDoor

namespace Go.Proofs.YtoglgeaiiipchabGreatDoor
open Go Go.RowKit Go.Sort
def IntB (w : World) (n : Int) (e : Ending) (w' : World) : Prop := e = .returned (.int .i64 n) ∧ Below w.heap.size w w'
end Go.Proofs.YtoglgeaiiipchabGreatDoor

namespace Go.Proofs.YtoglgeaiiipchabGreatDoor
open Go Go.RowKit Go.Sort Go.Shelf
theorem fromEnters : Enters Tryz.prog 74 := enters_of Tryz.func74 (by kernel_rfl) rfl
theorem fromCmp_ (s : Stp) (n : Int) (w : World) : Calls Tryz.prog 74 #[.agg #[.int .i64 s.f, .int .i64 s.l, .int .i64 s.t], .int .i64 n] w fun e w' => e = .returned (.int .i64 (cmpI s.f n)) ∧ Below w.heap.size w w' := by
  go_enter Tryz.func74, Tryz.ntmps74
  go_wp2_with (go_at_call 75; refine (Compare_ _ _ _).mono ?_; rintro e w' ⟨rfl, rfl⟩)
  go_ret
  exact ⟨rfl, by go_grown⟩
theorem cmpI_lt (x y : Int) : cmpI x y < 0 ↔ x < y := by
  unfold cmpI
  split
  · simp [*]
  · split <;> simp [*]
structure LowB (ss : List Stp) (n : Int) (i : Nat) : Prop where
  le : i ≤ ss.length
  lo : ∀ j, (h : j < ss.length) → j < i → ss[j].f < n
  hi : ∀ j, (h : j < ss.length) → i ≤ j → n ≤ ss[j].f
def BsPost (w : World) (ss : List Stp) (n : Int) (e : Ending) (w' : World) : Prop := ∃ (i : Nat) (f : Bool), e = .returned (.tuple #[.int .i64 i, .bool f]) ∧ LowB ss n i ∧ Below w.heap.size w w'
set_option maxRecDepth 100000 in
set_option maxHeartbeats 1000000 in
theorem BinSearch_ (C : Option Addr) (cc : Nat) (ss : List Stp) (n : Int) (w : World) (hs : Stps w 0 C cc ss) (ho : ssSorted ss) (hl : ss.length ≤ 1000000) :
    Calls Tryz.prog 73 #[.slice C ss.length cc, .int .i64 n, .func (.func 74) #[] #[]] w (BsPost w ss n) := by
  have hgr : ∀ (args : Array Value) (w : World), (callFunc 74 args).run Tryz.prog w = .ok (.enter 74 args) w := fromEnters
  have HSS := Lib.hid hs
  have HMO : Hid (∀ i j, (hi : i < ss.length) → (hj : j < ss.length) → i ≤ j → ss[i].f ≤ ss[j].f) := by
    intro i j hi hj hij
    rcases Nat.eq_or_lt_of_le hij with rfl | h
    · exact Int.le_refl _
    · have := List.pairwise_iff_getElem.1 ho i j hi hj h
      rw [stpLt_iff] at this
      omega
  have hle := hs.le
  clear hs ho
  go_enter Tryz.func73, Tryz.ntmps73
  go_wp2_with fail
  go_loopw [9, 10, 11] (fun i j _ wr => ∃ a b : Nat, a ≤ b ∧ b ≤ ss.length ∧ i = .int .i64 a ∧ j = .int .i64 b ∧ Below w.heap.size w wr ∧ Hid ((∀ k, (h : k < ss.length) → k < a → ss[k].f < n) ∧ ∀ k, (h : k < ss.length) → b ≤ k → n ≤ ss[k].f)) (fun i j _ _ => (intOf j).toNat - (intOf i).toNat)
  case atStart => exact ⟨0, ss.length, Nat.zero_le _, Nat.le_refl _, rfl, rfl, Below.refl _ _, fun k _ h => absurd h (by omega), fun k h1 h2 => absurd h1 (by omega)⟩
  case round =>
    obtain ⟨a, b, hab, hb, rfl, rfl, hbw, HAB⟩ := hrel
    have HB := Lib.hid hbw
    by_cases hlt : a < b
    · have hm1 : (a + b) / 2 < ss.length := by omega
      have hm2 : a ≤ (a + b) / 2 := by omega
      have hm3 : (a + b) / 2 < b := by omega
      obtain ⟨bb, o, rfl, _, hbl, q1, q2, q3⟩ := Stps.at_ (HSS.out.below hbw) hm1
      obtain ⟨s, hs⟩ : ∃ s, s = ss[(a + b) / 2] := ⟨_, rfl⟩
      rw [← hs] at q1 q2 q3
      have HS := Lib.hid hs
      obtain ⟨cv, hcv⟩ : ∃ c, c = cmpI s.f n := ⟨_, rfl⟩
      have HC := Lib.hid (fun W => fromCmp_ s n W)
      rw [← hcv] at HC
      have HCV : Hid (cv < 0 ↔ s.f < n) := by show _ ↔ _; rw [hcv]; exact cmpI_lt _ _
      clear hs hcv hbw
      go_wp2_with fail
      refine (HC.out _).mono ?_
      rintro e w2 ⟨rfl, hb2⟩
      have HB2 : Hid (Below w.heap.size w w2) := Below_on HB.out hb2 HB.out.size
      clear hb2
      by_cases hc0 : cv < 0
      · have HNX : Hid ((∀ k, (h : k < ss.length) → k < (a + b) / 2 + 1 → ss[k].f < n) ∧ ∀ k, (h : k < ss.length) → b ≤ k → n ≤ ss[k].f) := by
          refine ⟨fun k h1 h2 => ?_, HAB.out.2⟩
          have h3 := HMO.out k _ h1 hm1 (by omega)
          have h4 := HCV.out.1 hc0
          rw [HS.out] at h4
          omega
        go_wp2_with fail
        go_roundw
        case rel => exact ⟨(a + b) / 2 + 1, b, by omega, hb, by go_num, rfl, HB2.out, HNX.out⟩
        case measure => simp [intOf]; omega
      · have HNX : Hid ((∀ k, (h : k < ss.length) → k < a → ss[k].f < n) ∧ ∀ k, (h : k < ss.length) → (a + b) / 2 ≤ k → n ≤ ss[k].f) := by
          refine ⟨HAB.out.1, fun k h1 h2 => ?_⟩
          have h3 := HMO.out _ k hm1 h1 h2
          have h4 : ¬ s.f < n := fun h => hc0 (HCV.out.2 h)
          rw [HS.out] at h4
          omega
        go_wp2_with fail
        go_roundw
        case rel => exact ⟨a, (a + b) / 2, hm2, by omega, rfl, by go_num, HB2.out, HNX.out⟩
        case measure => simp [intOf]; omega
    · obtain rfl : a = b := by omega
      have HLB : Hid (LowB ss n a) := ⟨hb, fun k h1 h2 => HAB.out.1 k h1 h2, fun k h1 h2 => HAB.out.2 k h1 h2⟩
      by_cases hal : a < ss.length
      · obtain ⟨bb, o, rfl, _, hbl, q1, q2, q3⟩ := Stps.at_ (HSS.out.below hbw) hal
        generalize ss[a] = s at *
        obtain ⟨cv, hcv⟩ : ∃ c, c = cmpI s.f n := ⟨_, rfl⟩
        have HC := Lib.hid (fun W => fromCmp_ s n W)
        rw [← hcv] at HC
        obtain ⟨fb, hfb⟩ : ∃ f, f = (cv == 0) := ⟨_, rfl⟩
        clear hcv hbw
        go_wp2_with fail
        refine (HC.out _).mono ?_
        rintro e w2 ⟨rfl, hb2⟩
        have HB2 : Hid (Below w.heap.size w w2) := Below_on HB.out hb2 HB.out.size
        have HP : Hid (BsPost w ss n (.returned (.tuple #[.int .i64 a, .bool (cv == 0)])) w2) := ⟨a, _, rfl, HLB.out, HB2.out⟩
        clear hb2
        rw [← hfb] at HP
        have HFB := Lib.hid hfb
        have hfb2 : (cv == 0) = fb := hfb.symm
        clear hfb
        go_wp2_with fail
        go_ret2
        exact HP.out
      · have HP : Hid (BsPost w ss n (.returned (.tuple #[.int .i64 a, .bool false])) wr) := ⟨a, _, rfl, HLB.out, HB.out⟩
        clear hbw
        go_wp2_with fail
        go_ret2
        exact HP.out
def stepsFrom (a : Au) (n : Int) : List Stp := a.ss.filter fun s => s.f == n
theorem run_of {n : Int} : ∀ (ds : List Stp), (∀ s ∈ ds, n ≤ s.f) → ds.Pairwise (fun s t => s.f ≤ t.f) → ∃ m, m ≤ ds.length ∧ ds.filter (fun s => s.f == n) = ds.take m ∧ (∀ j, (h : j < ds.length) → j < m → ds[j].f = n) ∧ ∀ (h : m < ds.length), ds[m].f ≠ n
  | [], _, _ => ⟨0, Nat.le_refl _, rfl, fun j h => absurd h (by simp), fun h => absurd h (by simp)⟩
  | x :: r, hge, hp => by
    have hp' := List.pairwise_cons.1 hp
    by_cases hx : x.f = n
    · obtain ⟨m, h1, h2, h3, h4⟩ := run_of r (fun s hs => hge s (List.mem_cons_of_mem _ hs)) hp'.2
      refine ⟨m + 1, by simpa using h1, ?_, fun j hj hjm => ?_, fun h => ?_⟩
      · rw [List.filter_cons, if_pos (by simp [hx]), h2]; rfl
      · cases j with
        | zero => exact hx
        | succ j => exact h3 j (by simpa using hj) (by omega)
      · exact h4 (by simpa using h)
    · refine ⟨0, Nat.zero_le _, ?_, fun j _ h => absurd h (by omega), fun _ => hx⟩
      rw [List.take_zero, List.filter_eq_nil_iff]
      intro s hs
      have hxn : n < x.f := by
        have := hge x (List.mem_cons_self ..)
        omega
      rcases List.mem_cons.1 hs with rfl | hs
      · simp; omega
      · have := hp'.1 s hs
        simp
        omega
theorem low_run {ss : List Stp} {n : Int} {i : Nat} (h : LowB ss n i) (ho : ssSorted ss) : ∃ m, i + m ≤ ss.length ∧ ss.filter (fun s => s.f == n) = (ss.drop i).take m ∧ (∀ j, (h : j < ss.length) → i ≤ j → j < i + m → ss[j].f = n) ∧ ∀ (h : i + m < ss.length), ss[i + m].f ≠ n := by
  obtain ⟨m, h1, h2, h3, h4⟩ := run_of (n := n) (ss.drop i) (fun s hs => by
    obtain ⟨j, hj, rfl⟩ := List.getElem_of_mem hs
    rw [List.getElem_drop]
    exact h.hi _ _ (by omega)) (by
    have := ho.sublist (List.drop_sublist i ss)
    exact this.imp (fun {s t} hst => by rw [stpLt_iff] at hst; omega))
  rw [List.length_drop] at h1
  refine ⟨m, by have := h.le; omega, ?_, fun j hj hij hjm => ?_, fun hlt => ?_⟩
  · rw [← h2]
    conv => lhs; rw [← List.take_append_drop i ss, List.filter_append]
    have : (ss.take i).filter (fun s => s.f == n) = [] := by
      rw [List.filter_eq_nil_iff]
      intro s hs
      obtain ⟨j, hj, rfl⟩ := List.getElem_of_mem hs
      rw [List.getElem_take]
      have hj' : j < i ∧ j < ss.length := by rw [List.length_take] at hj; omega
      have := h.lo j hj'.2 hj'.1
      simp
      omega
    rw [this, List.nil_append]
  · have := h3 (j - i) (by rw [List.length_drop]; omega) (by omega)
    rw [List.getElem_drop] at this
    simpa [show i + (j - i) = j by omega] using this
  · have := h4 (by rw [List.length_drop]; omega)
    rw [List.getElem_drop] at this
    exact this
def FromPost (w : World) (a : Au) (A B C : Option Addr) (ca cb cc : Nat) (e : Ending) (w' : World) : Prop :=
  ∃ V, e = .returned (.func (.func 72) #[] #[.pointer (some ⟨V, 0, none⟩)]) ∧ w.heap.size ≤ V ∧ AuAt w' V a A B C ca cb cc ∧ Below w.heap.size w w'
theorem From_ (a : Au) (A B C : Option Addr) (ca cb cc : Nat) (w : World) :
    Calls Tryz.prog 36 #[.agg #[.int .i64 a.st, .int .i64 a.le, .slice A a.fs.length ca, .slice B a.gs.length cb, .slice C a.ss.length cc]] w (FromPost w a A B C ca cb cc) := by
  have HW := Lib.hid (auW_is w a A B C ca cb cc)
  go_enter Tryz.func36, Tryz.ntmps36
  go_wp2_with fail
  go_ret
  exact ⟨w.heap.size, rfl, Nat.le_refl _, HW.out.at, HW.out.below⟩
structure NextAt (W : World) (V X Y : Nat) (a : Au) (A B C : Option Addr) (ca cb cc : Nat) (n : Int) (i : Nat) : Prop where
  au : AuAt W V a A B C ca cb cc
  lx : X < W.heap.size
  ly : Y < W.heap.size
  x : W.cell? ⟨X, 0, none⟩ = some (.int .i64 i)
  y : W.cell? ⟨Y, 0, none⟩ = some (.int .i64 n)
def NextPost (w : World) (V : Nat) (a : Au) (A B C : Option Addr) (ca cb cc : Nat) (n : Int) (e : Ending) (w' : World) : Prop :=
  ∃ X Y i, e = .returned (.func (.func 76) #[] #[.pointer (some ⟨V, 0, none⟩), .pointer (some ⟨X, 0, none⟩), .pointer (some ⟨Y, 0, none⟩)]) ∧ w.heap.size ≤ X ∧ w.heap.size ≤ Y ∧ NextAt w' V X Y a A B C ca cb cc n i ∧ LowB a.ss n i ∧ Below w.heap.size w w'
set_option maxRecDepth 100000 in
set_option maxHeartbeats 1000000 in
theorem next_ (a : Au) (A B C : Option Addr) (ca cb cc V : Nat) (n : Int) (w : World) (hV : AuAt w V a A B C ca cb cc) (hs : Stps w 0 C cc a.ss) (ho : ssSorted a.ss) (hl : a.ss.length ≤ 1000000) :
    Calls Tryz.prog 72 #[.int .i64 n, .pointer (some ⟨V, 0, none⟩)] w (NextPost w V a A B C ca cb cc n) := by
  obtain ⟨hV0, c0, c1, c2, c3, c4⟩ := hV
  have HV : Hid (AuAt w V a A B C ca cb cc) := ⟨hV0, c0, c1, c2, c3, c4⟩
  have HBS := Lib.hid (fun W (hW : Below w.heap.size w W) => BinSearch_ C cc a.ss n W (hs.below hW) ho hl)
  clear hs ho c0 c1 c2 c3
  go_enter Tryz.func72, Tryz.ntmps72
  go_wp2_with fail
  refine (HBS.out _ ((Below.refl _ _).alloc (Nat.le_refl _) _)).mono ?_
  rintro e w2 ⟨i, f, rfl, hlb, hb2⟩
  have hbb : Below w.heap.size w w2 := ((Below.refl _ _).alloc (Nat.le_refl _) _).trans (hb2.mono (by simp))
  have hy : w2.cell? ⟨w.heap.size, 0, none⟩ = some (.int .i64 n) := (cell_on3 hb2 (b := w.heap.size) (o := 0) (by simp)).trans (by go_simp)
  have hlt : w.heap.size < w2.heap.size := by have := hb2.size; simp at this; omega
  have HP : Hid (NextPost w V a A B C ca cb cc n (.returned (.func (.func 76) #[] #[.pointer (some ⟨V, 0, none⟩), .pointer (some ⟨w2.heap.size, 0, none⟩), .pointer (some ⟨w.heap.size, 0, none⟩)])) (w2.alloc (Obj.cells #[.int .i64 i] 3))) := by
    have h3 : Below w2.heap.size w2 (w2.alloc (Obj.cells #[.int .i64 i] 3)) := (Below.refl _ _).alloc (Nat.le_refl _) _
    refine ⟨w2.heap.size, w.heap.size, i, rfl, by omega, Nat.le_refl _, ⟨(HV.out.below hbb hV0).below h3 (by omega), by simp, by simp; omega, by go_simp, (cell_on3 h3 hlt).trans hy⟩, hlb, Below_on hbb h3 hbb.size⟩
  have HLB := Lib.hid hlb
  clear hb2 hbb hlb
  go_wp2_with fail
  go_ret
  exact HP.out
end Go.Proofs.YtoglgeaiiipchabGreatDoor
