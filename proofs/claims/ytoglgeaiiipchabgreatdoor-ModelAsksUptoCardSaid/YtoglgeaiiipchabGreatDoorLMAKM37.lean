import Derived.Test.YtoglgeaiiipchabGreatDoorLMAKM36
import Derived.Test.YtoglgeaiiipchabGreatDoorLMAKM23
import Derived.Defers
import Derived.Recover
import Derived.Laws.Pointers
import Derived.Test.YtoglgeaiiipchabGreatDoorLMAKM33
import Derived.Test.YtoglgeaiiipchabGreatDoorLMAKM26
set_option linter.unusedSimpArgs false
set_option linter.unusedVariables false
namespace Go.Proofs.YtoglgeaiiipchabGreatDoor
open Go Go.RowKit Go.Sort
theorem catch_idle (p q r : Addr) (w : World) :
    CallsD Tryz.prog 110 #[.pointer (some p), .pointer (some q), .pointer (some r)] .returning w fun e u' w' => e = .returned (.tuple #[]) ∧ u' = .returning ∧ w' = w := by
  refine callsD_of_wpS Tryz.func110 rfl fun c₀ cs hu => ?_
  apply wpS_seq
  apply wpS_region
  simp [wpOpsS, go_sem, recoverD, hu, Tryz.ntmps110, Exit.thenS]
  apply wpS_seq
  apply wpS_region
  simp [wpOpsS, go_sem, recoverD, hu, Tryz.ntmps110, Exit.thenS]
  refine wpS_cond (t := false) (by simp [Act.eval, Array.replicate]) ?_
  simp only [Bool.false_eq_true, if_false]
  refine wpS_of_wp (wp_skip ?_)
  cases c₀
  simp_all [bodyPostS, results, Tryz.results110]
set_option maxRecDepth 100000 in
theorem catch_panicking (V : Nat) (v0 : Value) (x1 x2 j : Int) (w : World) (c0 : w.cell? ⟨V, 0, none⟩ = some v0) (c1 : w.cell? ⟨V + 1, 0, none⟩ = some (.int .i64 x1)) (c2 : w.cell? ⟨V + 2, 0, none⟩ = some (.int .i64 x2))
    (f0 : w.frozen? ⟨V, 0, none⟩ = false) (f1 : w.frozen? ⟨V + 1, 0, none⟩ = false) (f2 : w.frozen? ⟨V + 2, 0, none⟩ = false) :
    CallsD Tryz.prog 110 #[.pointer (some ⟨V, 0, none⟩), .pointer (some ⟨V + 1, 0, none⟩), .pointer (some ⟨V + 2, 0, none⟩)] (.panicking [{ v := .iface 167 (.int .i64 j), recovered := false }]) w fun e u' w' =>
      e = .returned (.tuple #[]) ∧ u' = .panicking [{ v := .iface 167 (.int .i64 j), recovered := true }] ∧ w' = ((w.setCell ⟨V, 0, none⟩ (.slice none 0 0)).setCell ⟨V + 1, 0, none⟩ (.int .i64 j)).setCell ⟨V + 2, 0, none⟩ (.int .i64 1) := by
  refine callsD_of_wpS Tryz.func110 rfl fun c₀ cs hu => ?_
  apply wpS_seq
  apply wpS_region
  simp [wpOpsS, go_sem, recoverD, hu, Tryz.ntmps110, Exit.thenS]
  apply wpS_seq
  apply wpS_region
  simp [wpOpsS, go_sem, recoverD, hu, Tryz.ntmps110, Exit.thenS]
  refine wpS_cond (t := true) (by simp [Act.eval, Array.replicate]) ?_
  simp only [if_true]
  refine wpS_of_wp ?_
  have hta : ∀ w : World, (Instr.typeAssert (.iface 167 (.int .i64 j)) 20 167 true).run Tryz.prog w = .ok (.tuple #[.int .i64 j, .bool true]) w := fun _ => by kernel_rfl
  simp only [Array.replicate_succ, Array.replicate_zero, List.push_toArray, List.append_toArray, List.nil_append, List.cons_append, List.setIfInBounds_toArray, List.set_cons_zero, List.set_cons_succ]
  clear hu
  go_wp2_with fail
  simp [bodyPostS, results, Tryz.results110]
def parseV (s : List UInt8) : List Nd × Int × Int :=
  match prs s (s.length + 1) 0 with
  | .error j => ([], (j : Int), 1)
  | .ok (t, j) => if j < s.length then ([], (j : Int), 1) else (t.flat [], 0, 0)
def ParsePost (w : World) (r : List Nd × Int × Int) (e : Ending) (w' : World) : Prop :=
  ∃ A c, e = .returned (.tuple #[.slice A r.1.length c, .int .i64 r.2.1, .int .i64 r.2.2]) ∧ Nds w' w.heap.size A c r.1 ∧ Below w.heap.size w w'
structure ResAt (V : Nat) (v : Value) (a b : Int) (W : World) : Prop where
  c0 : W.cell? ⟨V, 0, none⟩ = some v
  c1 : W.cell? ⟨V + 1, 0, none⟩ = some (.int .i64 a)
  c2 : W.cell? ⟨V + 2, 0, none⟩ = some (.int .i64 b)
  f0 : W.frozen? ⟨V, 0, none⟩ = false
  f1 : W.frozen? ⟨V + 1, 0, none⟩ = false
  f2 : W.frozen? ⟨V + 2, 0, none⟩ = false
theorem ResAt.below {V : Nat} {v : Value} {a b : Int} {W W' : World} (h : ResAt V v a b W) (hb : Below (V + 3) W W') : ResAt V v a b W' :=
  ⟨(hb.cell (p := ⟨V, 0, none⟩) (by show V < _; omega)).trans h.c0, (hb.cell (p := ⟨V + 1, 0, none⟩) (by show V + 1 < _; omega)).trans h.c1, (hb.cell (p := ⟨V + 2, 0, none⟩) (by show V + 2 < _; omega)).trans h.c2,
    (hb.frozen (p := ⟨V, 0, none⟩) (by show V < _; omega)).trans h.f0, (hb.frozen (p := ⟨V + 1, 0, none⟩) (by show V + 1 < _; omega)).trans h.f1, (hb.frozen (p := ⟨V + 2, 0, none⟩) (by show V + 2 < _; omega)).trans h.f2⟩
theorem ResAt.set {V : Nat} {v : Value} {a b : Int} {W : World} (h : ResAt V v a b W) (v' : Value) (a' b' : Int) :
    ResAt V v' a' b' (((W.setCell ⟨V, 0, none⟩ v').setCell ⟨V + 1, 0, none⟩ (.int .i64 a')).setCell ⟨V + 2, 0, none⟩ (.int .i64 b')) := by
  obtain ⟨c0, c1, c2, f0, f1, f2⟩ := h
  have n1 : V ≠ V + 1 := by omega
  have n2 : V ≠ V + 2 := by omega
  have n3 : V + 1 ≠ V + 2 := by omega
  refine ⟨?_, ?_, ?_, ?_, ?_, ?_⟩
  · rw [World.cell?_setCell_other _ ⟨V + 2, 0, none⟩ ⟨V, 0, none⟩ _ (by simp), World.cell?_setCell_other _ ⟨V + 1, 0, none⟩ ⟨V, 0, none⟩ _ (by simp)]
    exact World.cell?_setCell_same' _ _ _ (by rw [c0]; rfl)
  · rw [World.cell?_setCell_other _ ⟨V + 2, 0, none⟩ ⟨V + 1, 0, none⟩ _ (by simp)]
    exact World.cell?_setCell_same' _ _ _ (by rw [World.cell?_setCell_other _ ⟨V, 0, none⟩ ⟨V + 1, 0, none⟩ _ (by simp), c1]; rfl)
  · exact World.cell?_setCell_same' _ _ _ (by rw [World.cell?_setCell_other _ ⟨V + 1, 0, none⟩ ⟨V + 2, 0, none⟩ _ (by simp), World.cell?_setCell_other _ ⟨V, 0, none⟩ ⟨V + 2, 0, none⟩ _ (by simp), c2]; rfl)
  · simp only [World.frozen?_setCell]; exact f0
  · simp only [World.frozen?_setCell]; exact f1
  · simp only [World.frozen?_setCell]; exact f2
theorem set3_below {V B : Nat} {w W : World} (h : Below B w W) (hB : B ≤ V) (u v x : Value) : Below B w (((W.setCell ⟨V, 0, none⟩ u).setCell ⟨V + 1, 0, none⟩ v).setCell ⟨V + 2, 0, none⟩ x) :=
  ((h.setCell (p := ⟨V, 0, none⟩) hB _).setCell (p := ⟨V + 1, 0, none⟩) (by show B ≤ V + 1; omega) _).setCell (p := ⟨V + 2, 0, none⟩) (by show B ≤ V + 2; omega) _
set_option maxRecDepth 100000 in
set_option maxHeartbeats 1000000 in
theorem parse_ (s : List UInt8) (S : ByteArray) (hS : S.size = s.length) (hG : ∀ (i : Nat) (h : i < S.size), S[i]'h = chr s i) (hs : s.length ≤ 2000) (w : World) :
    Calls Tryz.prog 81 #[.string S] w (ParsePost w (parseV s)) := by
  have hmf : ∀ (fn : Fn) (first cap : Array Value) (w : World), (Instr.makeFunc fn first cap).run Tryz.prog w = .ok (.func fn first cap) w := fun _ _ _ _ => rfl
  have HPN := Lib.hid (fun X W hp => pnode_ X s S hS hG (by omega) (s.length + 1) 0 [] W (Nat.zero_le _) (by omega) (Nat.le_refl _) hp)
  clear hG
  go_enter_defers Tryz.func81, Tryz.ntmps81
  go_wp2_with fail
  have H4 : Hid (PsAt (w.heap.size + 1 + 1 + 1) S 0 [] ((((w.alloc (Obj.cells #[Value.slice none 0 0] 48)).alloc (Obj.cells #[Value.int IntKind.i64 0] 3)).alloc (Obj.cells #[Value.int IntKind.i64 0] 30)).alloc (Obj.cells #[Value.string S, Value.int IntKind.i64 0, Value.slice none 0 0] 171))) :=
    ⟨by simp, by go_simp, by go_simp, by go_simp, by go_simp, none, 0, by go_simp, World.ownsRow_nil _ _ _ _⟩
  have HB4 : Hid (Below w.heap.size w ((((w.alloc (Obj.cells #[Value.slice none 0 0] 48)).alloc (Obj.cells #[Value.int IntKind.i64 0] 3)).alloc (Obj.cells #[Value.int IntKind.i64 0] 30)).alloc (Obj.cells #[Value.string S, Value.int IntKind.i64 0, Value.slice none 0 0] 171))) := by show Below _ _ _; go_grown
  have HR4 : Hid (ResAt w.heap.size (.slice none 0 0) 0 0 ((((w.alloc (Obj.cells #[Value.slice none 0 0] 48)).alloc (Obj.cells #[Value.int IntKind.i64 0] 3)).alloc (Obj.cells #[Value.int IntKind.i64 0] 30)).alloc (Obj.cells #[Value.string S, Value.int IntKind.i64 0, Value.slice none 0 0] 171))) :=
    ⟨by go_simp, by go_simp, by go_simp, by go_simp, by go_simp, by go_simp⟩
  generalize (((w.alloc (Obj.cells #[Value.slice none 0 0] 48)).alloc (Obj.cells #[Value.int IntKind.i64 0] 3)).alloc (Obj.cells #[Value.int IntKind.i64 0] 30)).alloc (Obj.cells #[Value.string S, Value.int IntKind.i64 0, Value.slice none 0 0] 171) = w4 at *
  have HC4 := Lib.hid (HPN.out _ _ H4.out)
  refine HC4.out.mono ?_
  cases hr : prs s (s.length + 1) 0 with
  | error j =>
    have HQ : Hid (parseV s = ([], (j : Int), 1)) := by unfold Hid parseV; rw [hr]
    rintro e w5 ⟨hb5, rfl⟩
    have HR5 := Lib.hid (HR4.out.below (hb5.mono (Nat.le_of_eq rfl)))
    have HB5 := Lib.hid (HB4.out.trans (hb5.mono (by omega)))
    clear hb5 HC4 HR4 H4
    simp only [placeP]
    obtain ⟨c0, c1, c2, f0, f1, f2⟩ := HR5.out
    refine leaves_cons (f := 110) (args := #[.pointer (some ⟨w.heap.size, 0, none⟩), .pointer (some ⟨w.heap.size + 1, 0, none⟩), .pointer (some ⟨w.heap.size + 2, 0, none⟩)]) (by simp) (by simp [go_sem]) ?_
    refine (catch_panicking w.heap.size (.slice none 0 0) 0 0 j _ c0 c1 c2 f0 f1 f2).mono ?_
    rintro e u' w'' ⟨rfl, rfl, rfl⟩
    obtain ⟨d0, d1, d2, -, -, -⟩ := HR5.out.set (.slice none 0 0) j 1
    have HB6 := Lib.hid (set3_below HB5.out (Nat.le_refl _) (.slice none 0 0) (.int .i64 (j : Int)) (.int .i64 1))
    clear c0 c1 c2 f0 f1 f2
    generalize ((w5.setCell ⟨w.heap.size, 0, none⟩ (.slice none 0 0)).setCell ⟨w.heap.size + 1, 0, none⟩ (.int .i64 (j : Int))).setCell ⟨w.heap.size + 2, 0, none⟩ (.int .i64 1) = w6 at *
    simp [Leaves, settle, results, Tryz.results81, go_sem, d0, d1, d2]
    rw [HQ.out]
    exact ⟨none, 0, rfl, Nds.none _ _, HB6.out⟩
  | ok q =>
    obtain ⟨t, j⟩ := q
    obtain ⟨p2, p6⟩ : j ≤ s.length ∧ (t.flat []).length ≤ 100000 := by
      obtain ⟨p1, _, _, p2⟩ := prs_ok _ _ hr
      have p3 := size_show t
      have p4 := t.flat_len []
      simp at p4
      omega
    rintro e w5 ⟨hb5, rfl, hp5⟩
    have HR5 := Lib.hid (HR4.out.below (hb5.mono (Nat.le_of_eq rfl)))
    have HB5 := Lib.hid (HB4.out.trans (hb5.mono (by omega)))
    have x1 := hp5.c1
    obtain ⟨T, c, x2, hown⟩ := hp5.own
    have HN := Lib.hid (show ∃ A c', Value.slice T (t.flat []).length c = .slice A (t.flat []).length c' ∧ Nds w5 (w.heap.size + 1 + 1 + 1 + 1) A c' (t.flat []) from SlE.of_own hown (by omega))
    clear hb5 HC4 HR4 H4 hp5 hown
    by_cases hj : j < s.length
    · have HQ : Hid (parseV s = ([], (j : Int), 1)) := by unfold Hid parseV; rw [hr]; simp [hj]
      have hq : decide ((j : Int) < (s.length : Int)) = true := by simp; omega
      have hq2 : (j : Int) < (s.length : Int) := by omega
      clear hj
      go_wp2_with fail
      obtain ⟨c0, c1, c2, f0, f1, f2⟩ := HR5.out
      refine leaves_cons (f := 110) (args := #[.pointer (some ⟨w.heap.size, 0, none⟩), .pointer (some ⟨w.heap.size + 1, 0, none⟩), .pointer (some ⟨w.heap.size + 2, 0, none⟩)]) (by simp) (by simp [go_sem]) ?_
      refine (catch_panicking w.heap.size (.slice none 0 0) 0 0 j _ c0 c1 c2 f0 f1 f2).mono ?_
      rintro e u' w'' ⟨rfl, rfl, rfl⟩
      obtain ⟨d0, d1, d2, -, -, -⟩ := HR5.out.set (.slice none 0 0) j 1
      have HB6 := Lib.hid (set3_below HB5.out (Nat.le_refl _) (.slice none 0 0) (.int .i64 (j : Int)) (.int .i64 1))
      clear c0 c1 c2 f0 f1 f2
      generalize ((w5.setCell ⟨w.heap.size, 0, none⟩ (.slice none 0 0)).setCell ⟨w.heap.size + 1, 0, none⟩ (.int .i64 (j : Int))).setCell ⟨w.heap.size + 2, 0, none⟩ (.int .i64 1) = w6 at *
      simp [Leaves, settle, results, Tryz.results81, go_sem, d0, d1, d2]
      rw [HQ.out]
      exact ⟨none, 0, rfl, Nds.none _ _, HB6.out⟩
    · have HQ : Hid (parseV s = (t.flat [], 0, 0)) := by unfold Hid parseV; rw [hr]; simp [hj]
      have hq : decide ((j : Int) < (s.length : Int)) = false := by simp; omega
      have hq2 : ¬ (j : Int) < (s.length : Int) := by omega
      clear hj
      generalize t.flat [] = o at *
      obtain ⟨c0, c1, c2, f0, f1, f2⟩ := HR5.out
      go_wp2_with fail
      refine leaves_cons (f := 110) (args := #[.pointer (some ⟨w.heap.size, 0, none⟩), .pointer (some ⟨w.heap.size + 1, 0, none⟩), .pointer (some ⟨w.heap.size + 2, 0, none⟩)]) (by simp) (by simp [go_sem]) ?_
      refine (catch_idle ⟨w.heap.size, 0, none⟩ ⟨w.heap.size + 1, 0, none⟩ ⟨w.heap.size + 2, 0, none⟩ _).mono ?_
      rintro e u' w'' ⟨rfl, rfl, rfl⟩
      obtain ⟨d0, d1, d2, -, -, -⟩ := HR5.out.set (.slice T o.length c) 0 0
      have HB6 := Lib.hid (set3_below HB5.out (Nat.le_refl _) (.slice T o.length c) (.int .i64 0) (.int .i64 0))
      have HN6 : Hid (∃ A c', Value.slice T o.length c = .slice A o.length c' ∧ Nds (((w5.setCell ⟨w.heap.size, 0, none⟩ (.slice T o.length c)).setCell ⟨w.heap.size + 1, 0, none⟩ (.int .i64 0)).setCell ⟨w.heap.size + 2, 0, none⟩ (.int .i64 0)) w.heap.size A c' o) := by
        obtain ⟨A, c', h1, h2⟩ := HN.out
        refine ⟨A, c', h1, ?_⟩
        have h3 := h2.kept (Kept.set _ _ _ (p := ⟨w.heap.size, 0, none⟩) (.slice T o.length c) (.inl (by show w.heap.size < _; omega)))
        have h4 := h3.kept (Kept.set _ _ _ (p := ⟨w.heap.size + 1, 0, none⟩) (.int .i64 0) (.inl (by show w.heap.size + 1 < _; omega)))
        exact (h4.kept (Kept.set _ _ _ (p := ⟨w.heap.size + 2, 0, none⟩) (.int .i64 0) (.inl (by show w.heap.size + 2 < _; omega)))).low (by omega)
      clear c0 c1 c2 f0 f1 f2 HN x1 x2
      simp only [Nat.add_assoc, Nat.reduceAdd] at *
      generalize ((w5.setCell ⟨w.heap.size, 0, none⟩ (.slice T o.length c)).setCell ⟨w.heap.size + 1, 0, none⟩ (.int .i64 0)).setCell ⟨w.heap.size + 2, 0, none⟩ (.int .i64 0) = w6 at *
      simp [Leaves, settle, results, Tryz.results81, go_sem, d0, d1, d2]
      rw [HQ.out]
      obtain ⟨A, c', h1, h2⟩ := HN6.out
      exact ⟨A, c', by rw [h1], h2, HB6.out⟩
end Go.Proofs.YtoglgeaiiipchabGreatDoor

namespace Go.Proofs.YtoglgeaiiipchabGreatDoor
open Go Go.RowKit Go.Sort
def readV (s : List UInt8) : List Nd × Int × Int :=
  if 2000 < s.length then ([], 0, 2)
  else if (parseV s).2.2 = 0 then (if ckF (parseV s).1 = 0 then ((parseV s).1, 0, 0) else ([], 0, ckF (parseV s).1))
  else ([], (parseV s).2.1, 1)
theorem parseV_cases (s : List UInt8) : ((parseV s).2.2 = 0 ∧ (parseV s).2.1 = 0) ∨ ((parseV s).2.2 = 1 ∧ (parseV s).1 = []) := by
  unfold parseV
  cases prs s (s.length + 1) 0 with
  | error j => exact .inr ⟨rfl, rfl⟩
  | ok q =>
    obtain ⟨t, j⟩ := q
    simp only
    split
    · exact .inr ⟨rfl, rfl⟩
    · exact .inl ⟨rfl, rfl⟩
set_option maxRecDepth 100000 in
theorem Parse_ (s : List UInt8) (S : ByteArray) (hS : S.size = s.length) (hG : ∀ (i : Nat) (h : i < S.size), S[i]'h = chr s i) (w : World) :
    Calls Tryz.prog 42 #[.string S] w (ParsePost w (readV s)) := by
  by_cases hl : 2000 < s.length
  · have HR : Hid (readV s = ([], 0, 2)) := by unfold Hid readV; rw [if_pos hl]
    have hq : (2000 : Int) < (s.length : Int) := by omega
    clear hG
    go_enter Tryz.func42, Tryz.ntmps42
    go_wp2_with fail
    go_ret3
    rw [HR.out]
    exact ⟨none, 0, rfl, Nds.none _ _, Below.refl _ _⟩
  · have hq : ¬ (2000 : Int) < (s.length : Int) := by omega
    have HP := Lib.hid (parse_ s S hS hG (by omega) w)
    have HC := Lib.hid (parseV_cases s)
    have HR : Hid (readV s = if (parseV s).2.2 = 0 then (if ckF (parseV s).1 = 0 then ((parseV s).1, 0, 0) else ([], 0, ckF (parseV s).1)) else ([], (parseV s).2.1, 1)) := by unfold Hid readV; rw [if_neg hl]
    clear hG hl
    generalize parseV s = r at *
    obtain ⟨o, a, b⟩ := r
    go_enter Tryz.func42, Tryz.ntmps42
    go_wp2_with fail
    refine HP.out.mono ?_
    rintro e w1 ⟨A, c, rfl, hn, hb⟩
    have HN := Lib.hid hn
    have HB := Lib.hid hb
    have hle := hn.le
    have hcp := hn.cap
    have HK := Lib.hid (formulaCheck_ A c o w1 hn.zero)
    clear hn hb HP
    simp only at hle hcp ⊢
    rcases HC.out with ⟨hb0, ha0⟩ | ⟨hb1, ho⟩
    · obtain rfl : b = 0 := hb0
      obtain rfl : a = 0 := ha0
      go_wp2_with fail
      refine HK.out.mono ?_
      rintro e w2 ⟨rfl, hb2⟩
      have HB2 := Lib.hid (Below_on HB.out hb2 HB.out.size)
      have HN2 := Lib.hid (HN.out.below hb2)
      clear hb2 HK
      by_cases hc : ckF o = 0
      · have HR2 : Hid (readV s = (o, 0, 0)) := by show _ = _; rw [HR.out]; simp [hc]
        have e2 : (ckF o != 0) = false := by simp [hc]
        clear hc
        go_wp2_with fail
        go_ret3
        rw [HR2.out]
        exact ⟨A, c, rfl, HN2.out, HB2.out⟩
      · have HR2 : Hid (readV s = ([], 0, ckF o)) := by show _ = _; rw [HR.out]; simp [hc]
        have e2 : (ckF o != 0) = true := by simpa using hc
        clear hc
        go_wp2_with fail
        go_ret3
        rw [HR2.out]
        exact ⟨none, 0, rfl, Nds.none _ _, HB2.out⟩
    · obtain rfl : b = 1 := hb1
      obtain rfl : o = [] := ho
      have HR2 : Hid (readV s = ([], a, 1)) := by show _ = _; rw [HR.out]; simp
      go_wp2_with fail
      go_ret3
      rw [HR2.out]
      exact ⟨none, 0, rfl, Nds.none _ _, HB.out⟩
end Go.Proofs.YtoglgeaiiipchabGreatDoor

namespace Go.Proofs.YtoglgeaiiipchabGreatDoor
open Go Go.RowKit Go.Sort Go.Shelf
def askE (m : Mo) (s : List UInt8) : Int := if ckM m = 0 then (if (readV s).2.2 = 0 then hoE m (readV s).1 else 0) else ckM m
def askS (m : Mo) (s : List UInt8) (D : ByteArray) (ok : Bool) : ByteArray :=
  if ckM m = 0 then (if (readV s).2.2 = 0 then (if hoE m (readV s).1 = 0 then (if ok = true then ⟨#[104, 111, 108, 100, 115, 10]⟩ else ⟨#[102, 97, 105, 108, 115, 10]⟩) else ⟨#[]⟩) else ⟨#[101, 114, 114, 111, 114, 32]⟩ ++ D ++ ⟨#[10]⟩) else ⟨#[]⟩
structure AskPost (m : Mo) (s : List UInt8) (D : ByteArray) (w : World) (e : Ending) (w' : World) : Prop where
  is : ∃ (ok : Bool) (x : La), e = .returned (.tuple #[.string (askS m s D ok), .int .i64 (askE m s)]) ∧ (ckM m = 0 → (readV s).2.2 = 0 → HoIs m (readV s).1 ok x)
  below : Below w.heap.size w w'
theorem AskPost.mk_ {m : Mo} {s : List UInt8} {D : ByteArray} {w : World} {S : ByteArray} {k : Int} {w' : World} {ok : Bool} {x : La} (h1 : askS m s D ok = S) (h2 : askE m s = k) (h3 : ckM m = 0 → (readV s).2.2 = 0 → HoIs m (readV s).1 ok x) (h4 : Below w.heap.size w w') : AskPost m s D w (.returned (.tuple #[.string S, .int .i64 k])) w' := ⟨⟨ok, x, by rw [h1, h2], h3⟩, h4⟩
set_option maxRecDepth 100000 in
set_option maxHeartbeats 8000000 in
theorem modelAsk_ (m : Mo) (hraw : ckM m = 0 → (moRaw m m.ls.length).length ≤ 2000000) (s : List UInt8) (S : ByteArray) (hS : S.size = s.length) (hG : ∀ (i : Nat) (h : i < S.size), S[i]'h = chr s i) (A B C : Option Addr) (ca cb cc : Nat) (vs : List RwS) (D : ByteArray) (hD : D.size ≤ 1000) (w : World) (hr : MoRd w 0 m A B C ca cb cc vs)
    (hit : (readV s).2.2 ≠ 0 → ∀ W, Below w.heap.size w W → Calls Tryz.prog 43 #[.int .i64 (readV s).2.1] W fun e w' => e = .returned (.string D) ∧ Below W.heap.size W w') :
    Calls Tryz.prog 13 #[.agg #[.int .i64 m.pr, .slice A m.ls.length ca, .slice B m.fs.length cb, .slice C m.ss.length cc], .string S] w (AskPost m s D w) := by
  have HW := moW_is w m A B C ca cb cc
  have HB0 := Lib.hid HW.below
  have HV0 := Lib.hid HW.at_
  have HR := Lib.hid (fun W (hW : Below w.heap.size w W) => hr.below hW)
  have HRAW := Lib.hid hraw
  have HIT := Lib.hid hit
  have HP := Lib.hid (fun W => Parse_ s S hS hG W)
  clear hr HW hraw hit hS hG
  go_enter Tryz.func13, Tryz.ntmps13
  go_upto_region 1 with fail
  change Code.wp _ _ _ _ (moW w m A B C ca cb cc)
  generalize moW w m A B C ca cb cc = W0 at *
  obtain ⟨V, hV⟩ : ∃ V, V = w.heap.size := ⟨_, rfl⟩
  rw [← hV] at HV0 ⊢
  clear hV
  obtain ⟨_, c0, c1, c2, c3⟩ := HV0.out
  have HCK := Lib.hid (modelCheck_ m A B C ca cb cc vs W0 (HR.out _ HB0.out))
  go_upto_region 2 with (first
    | (go_at_call 41; refine HCK.out.mono ?_; rintro e w2 ⟨rfl, hb2⟩))
  have HB2 := Lib.hid (Below_on HB0.out hb2 HB0.out.size)
  have HV2 := Lib.hid (HV0.out.below hb2 HV0.out.lt)
  clear c0 c1 c2 c3 hb2 HCK HV0 HB0
  by_cases h0 : ckM m = 0
  · have HH0 := Lib.hid h0
    have HPA := Lib.hid (HP.out w2)
    rw [h0]
    clear h0
    go_upto_region 5 with (first
      | (go_at_call 42; refine HPA.out.mono ?_; rintro e w3 ⟨FA, fc, rfl, hn, hb3⟩))
    have HB3 := Lib.hid (Below_on HB2.out hb3 HB2.out.size)
    have HV3 := Lib.hid (HV2.out.below hb3 HV2.out.lt)
    have HN := Lib.hid (hn.low (Nat.zero_le _))
    clear hb3 hn HPA HV2 HB2
    by_cases hp : (readV s).2.2 = 0
    · have HPP := Lib.hid hp
      rw [hp]
      clear hp
      have HHO := Lib.hid (modelHolds_ m HRAW.out (readV s).1 A B C FA ca cb cc fc vs w3 (HR.out _ HB3.out) HN.out)
      have HAE : Hid (askE m s = hoE m (readV s).1) := by show _ = _; unfold askE; rw [if_pos HH0.out, if_pos HPP.out]
      have HAS : Hid (∀ ok, askS m s D ok = if hoE m (readV s).1 = 0 then (if ok = true then ⟨#[104, 111, 108, 100, 115, 10]⟩ else ⟨#[102, 97, 105, 108, 115, 10]⟩) else ⟨#[]⟩) := fun ok => by unfold askS; rw [if_pos HH0.out, if_pos HPP.out]
      obtain ⟨_, c0, c1, c2, c3⟩ := HV3.out
      go_wp2_with fail
      refine HHO.out.mono ?_
      rintro e w4 ⟨⟨ok, x, H, L, ch, cl, rfl, _, _, his⟩, hb4⟩
      have HIS := Lib.hid his
      have HB4 := Lib.hid (Below_on HB3.out hb4 HB3.out.size)
      clear hb4 his c0 c1 c2 c3 HHO
      have hb5 : Below w4.heap.size w4 (w4.alloc (Obj.cells #[.slice H x.h.length ch, .slice L x.l.length cl] 28)) := (Below.refl _ _).alloc (Nat.le_refl _) _
      have HB5 := Lib.hid (Below_on HB4.out hb5 HB4.out.size)
      clear hb5
      by_cases hh : hoE m (readV s).1 = 0
      · have HA2 : Hid (askE m s = 0) := by show _ = _; rw [HAE.out, hh]
        rw [hh]
        cases ok with
        | true =>
          have HPF := Lib.hid (AskPost.mk_ (D := D) (ok := true) (x := x) (by rw [HAS.out, if_pos hh, if_pos rfl]) HA2.out (fun _ _ => HIS.out) HB5.out)
          clear hh
          go_wp2_with fail
          exact bodyPost_ret (results_tmp2 Tryz.results13 _ _ _) rfl HPF.out
        | false =>
          have HPF := Lib.hid (AskPost.mk_ (D := D) (ok := false) (x := x) (by rw [HAS.out, if_pos hh, if_neg (by decide)]) HA2.out (fun _ _ => HIS.out) HB5.out)
          clear hh
          go_wp2_with fail
          exact bodyPost_ret (results_tmp2 Tryz.results13 _ _ _) rfl HPF.out
      · have hh' : (hoE m (readV s).1 != 0) = true := by simp [hh]
        have HPF := Lib.hid (AskPost.mk_ (D := D) (ok := ok) (x := x) (by rw [HAS.out, if_neg hh]) HAE.out (fun _ _ => HIS.out) HB5.out)
        clear hh
        generalize hoE m (readV s).1 = he at *
        go_wp2_with fail
        exact bodyPost_ret (results_tmp2 Tryz.results13 _ _ _) rfl HPF.out
    · have hp' : ((readV s).2.2 != 0) = true := by simp [hp]
      have HI := Lib.hid (HIT.out hp _ HB3.out)
      have HAE : Hid (askE m s = 0) := by show _ = _; unfold askE; rw [if_pos HH0.out, if_neg hp]
      have HAS : Hid (askS m s D false = ⟨#[101, 114, 114, 111, 114, 32]⟩ ++ D ++ ⟨#[10]⟩) := by show _ = _; unfold askS; rw [if_pos HH0.out, if_neg hp]
      have HPN : Hid (ckM m = 0 → (readV s).2.2 = 0 → HoIs m (readV s).1 false ⟨[], []⟩) := fun _ h => absurd h hp
      clear hp
      go_wp2_with fail
      refine HI.out.mono ?_
      rintro e w4 ⟨rfl, hb4⟩
      have HPF := Lib.hid (AskPost.mk_ (D := D) HAS.out HAE.out HPN.out (Below_on HB3.out hb4 HB3.out.size))
      clear hb4 HI
      go_wp2_with fail
      exact bodyPost_ret (results_tmp2 Tryz.results13 _ _ _) rfl HPF.out
  · have h0' : (ckM m != 0) = true := by simp [h0]
    have HPF := Lib.hid (AskPost.mk_ (m := m) (s := s) (D := D) (w := w) (ok := false) (x := ⟨[], []⟩) (show askS m s D false = ⟨#[]⟩ by unfold askS; rw [if_neg h0]) (show askE m s = ckM m by unfold askE; rw [if_neg h0]) (fun h => absurd h h0) HB2.out)
    clear h0
    go_wp2_with fail
    exact bodyPost_ret (results_tmp2 Tryz.results13 _ _ _) rfl HPF.out
end Go.Proofs.YtoglgeaiiipchabGreatDoor

namespace Go.Proofs.YtoglgeaiiipchabGreatDoor
open Go Go.RowKit Go.Sort Go.Shelf
def zeroAu : Au := ⟨0, 0, [], [], []⟩
noncomputable def moAuto (m : Mo) : Au := if ckM m = 0 then moA m else zeroAu
def MtPost (w : World) (a : Au) (k : Int) (e : Ending) (w' : World) : Prop := ∃ A B C ca cb cc, e = .returned (.tuple #[.agg #[.int .i64 a.st, .int .i64 a.le, .slice A a.fs.length ca, .slice B a.gs.length cb, .slice C a.ss.length cc], .int .i64 k]) ∧ AuRd w' w.heap.size a A B C ca cb cc ∧ Below w.heap.size w w'
theorem zeroAu_rd (w : World) (lo : Nat) : AuRd w lo zeroAu none none none 0 0 0 :=
  ⟨⟨by decide, by omega, by decide, Rd.nil⟩, ⟨by decide, by omega, by decide, Rd.nil⟩, ⟨by decide, by omega, by decide, Rd.nil⟩⟩
set_option maxRecDepth 100000 in
set_option maxHeartbeats 8000000 in
theorem modelAuto_ (m : Mo) (hraw : ckM m = 0 → (moRaw m m.ls.length).length ≤ 2000000) (A B C : Option Addr) (ca cb cc : Nat) (vs : List RwS) (w : World) (hr : MoRd w 0 m A B C ca cb cc vs) :
    Calls Tryz.prog 45 #[.agg #[.int .i64 m.pr, .slice A m.ls.length ca, .slice B m.fs.length cb, .slice C m.ss.length cc]] w (MtPost w (moAuto m) (ckM m)) := by
  have HW := moW_is w m A B C ca cb cc
  have hal : Below (moW w m A B C ca cb cc).heap.size (moW w m A B C ca cb cc) ((moW w m A B C ca cb cc).alloc (Obj.cells #[.int .i64 0, .int .i64 0, .slice none 0 0, .slice none 0 0, .slice none 0 0] 26)) := (Below.refl _ _).alloc (Nat.le_refl _) _
  have HT := Lib.hid (World.alloc_heap_new (moW w m A B C ca cb cc) (Obj.cells #[.int .i64 0, .int .i64 0, .slice none 0 0, .slice none 0 0, .slice none 0 0] 26))
  rw [HW.size] at HT
  have HB0 := Lib.hid (Below_on HW.below hal HW.below.size)
  have HV0 := Lib.hid (HW.at_.below hal HW.at_.lt)
  have HR := Lib.hid (fun W (hW : Below w.heap.size w W) => hr.below hW)
  have HRAW := Lib.hid hraw
  clear hr HW hal hraw
  go_enter Tryz.func45, Tryz.ntmps45
  go_upto_region 1 with fail
  change Code.wp _ _ _ _ ((moW w m A B C ca cb cc).alloc (Obj.cells #[.int .i64 0, .int .i64 0, .slice none 0 0, .slice none 0 0, .slice none 0 0] 26))
  generalize (moW w m A B C ca cb cc).alloc (Obj.cells #[.int .i64 0, .int .i64 0, .slice none 0 0, .slice none 0 0, .slice none 0 0] 26) = W0 at *
  obtain ⟨V, hV⟩ : ∃ V, V = w.heap.size := ⟨_, rfl⟩
  have HVV := Lib.hid hV
  rw [← hV] at HV0 HT ⊢
  clear hV
  obtain ⟨_, c0, c1, c2, c3⟩ := HV0.out
  have HCK := Lib.hid (modelCheck_ m A B C ca cb cc vs W0 (HR.out _ HB0.out))
  go_upto_region 2 with (first
    | (go_at_call 41; refine HCK.out.mono ?_; rintro e w2 ⟨rfl, hb2⟩))
  have HB2 := Lib.hid (Below_on HB0.out hb2 HB0.out.size)
  have HV2 := Lib.hid (HV0.out.below hb2 HV0.out.lt)
  have HT2 : Hid (w2.heap[V + 1]? = _) := (hb2.block _ (Array.getElem?_eq_some_iff.1 HT.out).1).trans HT.out
  have hV1 : V + 1 < w2.heap.size := (Array.getElem?_eq_some_iff.1 HT2.out).1
  clear c0 c1 c2 c3 hb2 HCK HT HV0 HB0
  by_cases h0 : ckM m = 0
  · have HH0 := Lib.hid h0
    have HOF := Lib.hid (of_ m (ckM_ok h0) (HRAW.out h0) A B C ca cb cc vs w2 (HR.out _ HB2.out))
    have HMA : Hid (moAuto m = moA m) := by show _ = _; unfold moAuto; rw [if_pos h0]
    rw [h0]
    clear h0
    obtain ⟨_, c0, c1, c2, c3⟩ := HV2.out
    go_wp2_with fail
    refine HOF.out.mono ?_
    rintro e w3 ⟨A3, B3, C3, ca3, cb3, cc3, rfl, hrd, hb3⟩
    have HT3 : w3.heap[V + 1]? = _ := (hb3.block _ hV1).trans HT2.out
    obtain ⟨s0, s1, s2, s3, s4, t0, t1, t2, t3, t4⟩ := obj5 HT3
    obtain ⟨a, hae⟩ : ∃ a, a = moA m := ⟨_, rfl⟩
    rw [← hae] at hrd HMA ⊢
    clear hae
    have HFI : Hid (MtPost w (moAuto m) (ckM m) (.returned (.tuple #[.agg #[.int .i64 a.st, .int .i64 a.le, .slice A3 a.fs.length ca3, .slice B3 a.gs.length cb3, .slice C3 a.ss.length cc3], .int .i64 0])) (set5 w3 (V + 1) (.int .i64 a.st) (.int .i64 a.le) (.slice A3 a.fs.length ca3) (.slice B3 a.gs.length cb3) (.slice C3 a.ss.length cc3))) :=
      ⟨A3, B3, C3, ca3, cb3, cc3, by rw [HMA.out, HH0.out], by rw [HMA.out]; exact (hrd.set5_ hV1 _ _ _ _ _).low HB2.out.size, below_set5 (Below_on HB2.out hb3 HB2.out.size) (by rw [HVV.out]; omega) _ _ _ _ _⟩
    have HO1 := Lib.hid (set5_heap HT3 (.int .i64 a.st) (.int .i64 a.le) (.slice A3 a.fs.length ca3) (.slice B3 a.gs.length cb3) (.slice C3 a.ss.length cc3))
    unfold set5 at HFI HO1
    clear hrd hb3 HT3 c0 c1 c2 c3 hV1
    go_wp2_with fail
    exact bodyPost_ret (retAuX (x := .int .i64 0) Tryz.results45 _ _ (V + 1) rfl rfl HO1.out) rfl HFI.out
  · have h0' : (ckM m != 0) = true := by simp [h0]
    obtain ⟨s0, s1, s2, s3, s4, t0, t1, t2, t3, t4⟩ := obj5 HT2.out
    have HMA : Hid (moAuto m = zeroAu) := by show _ = _; unfold moAuto; rw [if_neg h0]
    have HFI : Hid (MtPost w (moAuto m) (ckM m) (.returned (.tuple #[.agg #[.int .i64 0, .int .i64 0, .slice none 0 0, .slice none 0 0, .slice none 0 0], .int .i64 (ckM m)])) (set5 w2 (V + 1) (.int .i64 0) (.int .i64 0) (.slice none 0 0) (.slice none 0 0) (.slice none 0 0))) :=
      ⟨none, none, none, 0, 0, 0, by rw [HMA.out]; rfl, by rw [HMA.out]; exact zeroAu_rd _ _, below_set5 HB2.out (by rw [HVV.out]; omega) _ _ _ _ _⟩
    have HO1 := Lib.hid (set5_heap HT2.out (.int .i64 0) (.int .i64 0) (.slice none 0 0) (.slice none 0 0) (.slice none 0 0))
    unfold set5 at HFI HO1
    clear h0 HRAW
    go_wp2_with fail
    exact bodyPost_ret (retAuX (x := .int .i64 (ckM m)) Tryz.results45 _ _ (V + 1) rfl rfl HO1.out) rfl HFI.out
end Go.Proofs.YtoglgeaiiipchabGreatDoor
