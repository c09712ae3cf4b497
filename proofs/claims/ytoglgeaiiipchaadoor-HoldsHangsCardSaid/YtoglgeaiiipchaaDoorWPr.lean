/- Walks: parse, which recovers, and Parse. -/
import Derived.Test.YtoglgeaiiipchaaDoorWPq
import Derived.Test.YtoglgeaiiipchaaDoorWNg
import Derived.Defers
import Derived.Recover
import Derived.Laws.Pointers
namespace Go.Proofs.YtoglgeaiiipchaaDoor
open Go Go.RowKit Go.Sort

theorem catch_idle (p q r : Addr) (w : World) :
    CallsD Tryd.prog 42 #[.pointer (some p), .pointer (some q), .pointer (some r)] .returning w fun e u' w' => e = .returned (.tuple #[]) ∧ u' = .returning ∧ w' = w := by
  refine callsD_of_wpS Tryd.func42 rfl fun c₀ cs hu => ?_
  apply wpS_seq
  apply wpS_region
  simp [wpOpsS, go_sem, recoverD, hu, Tryd.ntmps42, Exit.thenS]
  apply wpS_seq
  apply wpS_region
  simp [wpOpsS, go_sem, recoverD, hu, Tryd.ntmps42, Exit.thenS]
  refine wpS_cond (t := false) (by simp [Act.eval, Array.replicate]) ?_
  simp only [Bool.false_eq_true, if_false]
  refine wpS_of_wp (wp_skip ?_)
  cases c₀
  simp_all [bodyPostS, results, Tryd.results42]
set_option maxRecDepth 100000 in
theorem catch_panicking (V : Nat) (v0 : Value) (x1 x2 j : Int) (w : World) (c0 : w.cell? ⟨V, 0, none⟩ = some v0) (c1 : w.cell? ⟨V + 1, 0, none⟩ = some (.int .i64 x1)) (c2 : w.cell? ⟨V + 2, 0, none⟩ = some (.int .i64 x2))
    (f0 : w.frozen? ⟨V, 0, none⟩ = false) (f1 : w.frozen? ⟨V + 1, 0, none⟩ = false) (f2 : w.frozen? ⟨V + 2, 0, none⟩ = false) :
    CallsD Tryd.prog 42 #[.pointer (some ⟨V, 0, none⟩), .pointer (some ⟨V + 1, 0, none⟩), .pointer (some ⟨V + 2, 0, none⟩)] (.panicking [{ v := .iface 69 (.int .i64 j), recovered := false }]) w fun e u' w' =>
      e = .returned (.tuple #[]) ∧ u' = .panicking [{ v := .iface 69 (.int .i64 j), recovered := true }] ∧ w' = ((w.setCell ⟨V, 0, none⟩ (.slice none 0 0)).setCell ⟨V + 1, 0, none⟩ (.int .i64 j)).setCell ⟨V + 2, 0, none⟩ (.int .i64 1) := by
  refine callsD_of_wpS Tryd.func42 rfl fun c₀ cs hu => ?_
  apply wpS_seq
  apply wpS_region
  simp [wpOpsS, go_sem, recoverD, hu, Tryd.ntmps42, Exit.thenS]
  apply wpS_seq
  apply wpS_region
  simp [wpOpsS, go_sem, recoverD, hu, Tryd.ntmps42, Exit.thenS]
  refine wpS_cond (t := true) (by simp [Act.eval, Array.replicate]) ?_
  simp only [if_true]
  refine wpS_of_wp ?_
  have hta : ∀ w : World, (Instr.typeAssert (.iface 69 (.int .i64 j)) 20 69 true).run Tryd.prog w = .ok (.tuple #[.int .i64 j, .bool true]) w := fun _ => by kernel_rfl
  simp only [Array.replicate_succ, Array.replicate_zero, List.push_toArray, List.append_toArray, List.nil_append, List.cons_append, List.setIfInBounds_toArray, List.set_cons_zero, List.set_cons_succ]
  clear hu
  go_wp2_with fail
  simp [bodyPostS, results, Tryd.results42]
def parseV (s : List UInt8) : List Nd × Int × Int :=
  match prs s (s.length + 1) 0 with
  | .error j => ([], (j : Int), 1)
  | .ok (t, j) => if j < s.length then ([], (j : Int), 1) else (t.flat [], 0, 0)
/-- three results: nodes, a place, an error -/
def ParsePost (w : World) (r : List Nd × Int × Int) (e : Ending) (w' : World) : Prop :=
  ∃ A c, e = .returned (.tuple #[.slice A r.1.length c, .int .i64 r.2.1, .int .i64 r.2.2]) ∧ Nds w' w.heap.size A c r.1 ∧ Below w.heap.size w w'
/-- the three results' variables -/
structure ResAt (V : Nat) (v : Value) (a b : Int) (W : World) : Prop where
  c0 : W.cell? ⟨V, 0, none⟩ = some v
  c1 : W.cell? ⟨V + 1, 0, none⟩ = some (.int .i64 a)
  c2 : W.cell? ⟨V + 2, 0, none⟩ = some (.int .i64 b)
  f0 : W.frozen? ⟨V, 0, none⟩ = false
  f1 : W.frozen? ⟨V + 1, 0, none⟩ = false
  f2 : W.frozen? ⟨V + 2, 0, none⟩ = false
theorem ResAt.below {V : Nat} {v : Value} {a b : Int} {W W' : World} (h : ResAt V v a b W) (hb : Below (V + 3) W W') : ResAt V v a b W' :=
  ⟨(hb.cell (p := ⟨V, 0, none⟩) (by show V < _; omega)).trans h.c0, (hb.cell (p := ⟨V + 1, 0, none⟩) (by show V + 1 < _; omega)).trans h.c1, (hb.cell (p := ⟨V + 2, 0, none⟩) (by show V + 2 < _; omega)).trans h.c2,
    (hb.frozen (p := ⟨V, 0, none⟩) (by show V < _; omega)).trans h.f0, (hb.frozen (p := ⟨V + 1, 0, none⟩) (by show V + 1 < _; omega)).trans h.f1, (hb.frozen (p := ⟨V + 2, 0, none⟩) (by show V + 2 < _; omega)).trans h.f2⟩
theorem ResAt.set {V : Nat} {v : Value} {a b : Int} {W : World} (h : ResAt V v a b W) (v' : Value) (a' b' : Int) :
    ResAt V v' a' b' (((W.setCell ⟨V, 0, none⟩ v').setCell ⟨V + 1, 0, none⟩ (.int .i64 a')).setCell ⟨V + 2, 0, none⟩ (.int .i64 b')) := by
  obtain ⟨c0, c1, c2, f0, f1, f2⟩ := h
  have n1 : V ≠ V + 1 := by omega
  have n2 : V ≠ V + 2 := by omega
  have n3 : V + 1 ≠ V + 2 := by omega
  refine ⟨?_, ?_, ?_, ?_, ?_, ?_⟩
  · rw [World.cell?_setCell_other _ ⟨V + 2, 0, none⟩ ⟨V, 0, none⟩ _ (by simp), World.cell?_setCell_other _ ⟨V + 1, 0, none⟩ ⟨V, 0, none⟩ _ (by simp)]
    exact World.cell?_setCell_same' _ _ _ (by rw [c0]; rfl)
  · rw [World.cell?_setCell_other _ ⟨V + 2, 0, none⟩ ⟨V + 1, 0, none⟩ _ (by simp)]
    exact World.cell?_setCell_same' _ _ _ (by rw [World.cell?_setCell_other _ ⟨V, 0, none⟩ ⟨V + 1, 0, none⟩ _ (by simp), c1]; rfl)
  · exact World.cell?_setCell_same' _ _ _ (by rw [World.cell?_setCell_other _ ⟨V + 1, 0, none⟩ ⟨V + 2, 0, none⟩ _ (by simp), World.cell?_setCell_other _ ⟨V, 0, none⟩ ⟨V + 2, 0, none⟩ _ (by simp), c2]; rfl)
  · simp only [World.frozen?_setCell]; exact f0
  · simp only [World.frozen?_setCell]; exact f1
  · simp only [World.frozen?_setCell]; exact f2
theorem set3_below {V B : Nat} {w W : World} (h : Below B w W) (hB : B ≤ V) (u v x : Value) : Below B w (((W.setCell ⟨V, 0, none⟩ u).setCell ⟨V + 1, 0, none⟩ v).setCell ⟨V + 2, 0, none⟩ x) :=
  ((h.setCell (p := ⟨V, 0, none⟩) hB _).setCell (p := ⟨V + 1, 0, none⟩) (by show B ≤ V + 1; omega) _).setCell (p := ⟨V + 2, 0, none⟩) (by show B ≤ V + 2; omega) _
set_option maxRecDepth 100000 in
set_option maxHeartbeats 1000000 in
theorem parse_ (s : List UInt8) (S : ByteArray) (hS : S.size = s.length) (hG : ∀ (i : Nat) (h : i < S.size), S[i]'h = chr s i) (hs : s.length ≤ 2000) (w : World) :
    Calls Tryd.prog 32 #[.string S] w (ParsePost w (parseV s)) := by
  have hmf : ∀ (fn : Fn) (first cap : Array Value) (w : World), (Instr.makeFunc fn first cap).run Tryd.prog w = .ok (.func fn first cap) w := fun _ _ _ _ => rfl
  have HPN := Lib.hid (fun X W hp => pnode_ X s S hS hG (by omega) (s.length + 1) 0 [] W (Nat.zero_le _) (by omega) (Nat.le_refl _) hp)
  clear hG
  go_enter_defers Tryd.func32, Tryd.ntmps32
  go_wp2_with fail
  have H4 : Hid (PsAt (w.heap.size + 1 + 1 + 1) S 0 [] ((((w.alloc (Obj.cells #[Value.slice none 0 0] 23)).alloc (Obj.cells #[Value.int IntKind.i64 0] 3)).alloc (Obj.cells #[Value.int IntKind.i64 0] 24)).alloc (Obj.cells #[Value.string S, Value.int IntKind.i64 0, Value.slice none 0 0] 73))) :=
    ⟨by simp, by go_simp, by go_simp, by go_simp, by go_simp, none, 0, by go_simp, World.ownsRow_nil _ _ _ _⟩
  have HB4 : Hid (Below w.heap.size w ((((w.alloc (Obj.cells #[Value.slice none 0 0] 23)).alloc (Obj.cells #[Value.int IntKind.i64 0] 3)).alloc (Obj.cells #[Value.int IntKind.i64 0] 24)).alloc (Obj.cells #[Value.string S, Value.int IntKind.i64 0, Value.slice none 0 0] 73))) := by show Below _ _ _; go_grown
  have HR4 : Hid (ResAt w.heap.size (.slice none 0 0) 0 0 ((((w.alloc (Obj.cells #[Value.slice none 0 0] 23)).alloc (Obj.cells #[Value.int IntKind.i64 0] 3)).alloc (Obj.cells #[Value.int IntKind.i64 0] 24)).alloc (Obj.cells #[Value.string S, Value.int IntKind.i64 0, Value.slice none 0 0] 73))) :=
    ⟨by go_simp, by go_simp, by go_simp, by go_simp, by go_simp, by go_simp⟩
  generalize (((w.alloc (Obj.cells #[Value.slice none 0 0] 23)).alloc (Obj.cells #[Value.int IntKind.i64 0] 3)).alloc (Obj.cells #[Value.int IntKind.i64 0] 24)).alloc (Obj.cells #[Value.string S, Value.int IntKind.i64 0, Value.slice none 0 0] 73) = w4 at *
  have HC4 := Lib.hid (HPN.out _ _ H4.out)
  refine HC4.out.mono ?_
  cases hr : prs s (s.length + 1) 0 with
  | error j =>
    have HQ : Hid (parseV s = ([], (j : Int), 1)) := by unfold Hid parseV; rw [hr]
    rintro e w5 ⟨hb5, rfl⟩
    have HR5 := Lib.hid (HR4.out.below (hb5.mono (Nat.le_of_eq rfl)))
    have HB5 := Lib.hid (HB4.out.trans (hb5.mono (by omega)))
    clear hb5 HC4 HR4 H4
    simp only [placeP]
    obtain ⟨c0, c1, c2, f0, f1, f2⟩ := HR5.out
    refine leaves_cons (f := 42) (args := #[.pointer (some ⟨w.heap.size, 0, none⟩), .pointer (some ⟨w.heap.size + 1, 0, none⟩), .pointer (some ⟨w.heap.size + 2, 0, none⟩)]) (by simp) (by simp [go_sem]) ?_
    refine (catch_panicking w.heap.size (.slice none 0 0) 0 0 j _ c0 c1 c2 f0 f1 f2).mono ?_
    rintro e u' w'' ⟨rfl, rfl, rfl⟩
    obtain ⟨d0, d1, d2, -, -, -⟩ := HR5.out.set (.slice none 0 0) j 1
    have HB6 := Lib.hid (set3_below HB5.out (Nat.le_refl _) (.slice none 0 0) (.int .i64 (j : Int)) (.int .i64 1))
    clear c0 c1 c2 f0 f1 f2
    generalize ((w5.setCell ⟨w.heap.size, 0, none⟩ (.slice none 0 0)).setCell ⟨w.heap.size + 1, 0, none⟩ (.int .i64 (j : Int))).setCell ⟨w.heap.size + 2, 0, none⟩ (.int .i64 1) = w6 at *
    simp [Leaves, settle, results, Tryd.results32, go_sem, d0, d1, d2]
    rw [HQ.out]
    exact ⟨none, 0, rfl, Nds.none _ _, HB6.out⟩
  | ok q =>
    obtain ⟨t, j⟩ := q
    obtain ⟨p2, p6⟩ : j ≤ s.length ∧ (t.flat []).length ≤ 100000 := by
      obtain ⟨p1, _, _, p2⟩ := prs_ok _ _ hr
      have p3 := size_show t
      have p4 := t.flat_len []
      simp at p4
      omega
    rintro e w5 ⟨hb5, rfl, hp5⟩
    have HR5 := Lib.hid (HR4.out.below (hb5.mono (Nat.le_of_eq rfl)))
    have HB5 := Lib.hid (HB4.out.trans (hb5.mono (by omega)))
    have x1 := hp5.c1
    obtain ⟨T, c, x2, hown⟩ := hp5.own
    have HN := Lib.hid (show ∃ A c', Value.slice T (t.flat []).length c = .slice A (t.flat []).length c' ∧ Nds w5 (w.heap.size + 1 + 1 + 1 + 1) A c' (t.flat []) from SlE.of_own hown (by omega))
    clear hb5 HC4 HR4 H4 hp5 hown
    by_cases hj : j < s.length
    · have HQ : Hid (parseV s = ([], (j : Int), 1)) := by unfold Hid parseV; rw [hr]; simp [hj]
      have hq : decide ((j : Int) < (s.length : Int)) = true := by simp; omega
      have hq2 : (j : Int) < (s.length : Int) := by omega
      clear hj
      go_wp2_with fail
      obtain ⟨c0, c1, c2, f0, f1, f2⟩ := HR5.out
      refine leaves_cons (f := 42) (args := #[.pointer (some ⟨w.heap.size, 0, none⟩), .pointer (some ⟨w.heap.size + 1, 0, none⟩), .pointer (some ⟨w.heap.size + 2, 0, none⟩)]) (by simp) (by simp [go_sem]) ?_
      refine (catch_panicking w.heap.size (.slice none 0 0) 0 0 j _ c0 c1 c2 f0 f1 f2).mono ?_
      rintro e u' w'' ⟨rfl, rfl, rfl⟩
      obtain ⟨d0, d1, d2, -, -, -⟩ := HR5.out.set (.slice none 0 0) j 1
      have HB6 := Lib.hid (set3_below HB5.out (Nat.le_refl _) (.slice none 0 0) (.int .i64 (j : Int)) (.int .i64 1))
      clear c0 c1 c2 f0 f1 f2
      generalize ((w5.setCell ⟨w.heap.size, 0, none⟩ (.slice none 0 0)).setCell ⟨w.heap.size + 1, 0, none⟩ (.int .i64 (j : Int))).setCell ⟨w.heap.size + 2, 0, none⟩ (.int .i64 1) = w6 at *
      simp [Leaves, settle, results, Tryd.results32, go_sem, d0, d1, d2]
      rw [HQ.out]
      exact ⟨none, 0, rfl, Nds.none _ _, HB6.out⟩
    · have HQ : Hid (parseV s = (t.flat [], 0, 0)) := by unfold Hid parseV; rw [hr]; simp [hj]
      have hq : decide ((j : Int) < (s.length : Int)) = false := by simp; omega
      have hq2 : ¬ (j : Int) < (s.length : Int) := by omega
      clear hj
      generalize t.flat [] = o at *
      obtain ⟨c0, c1, c2, f0, f1, f2⟩ := HR5.out
      go_wp2_with fail
      refine leaves_cons (f := 42) (args := #[.pointer (some ⟨w.heap.size, 0, none⟩), .pointer (some ⟨w.heap.size + 1, 0, none⟩), .pointer (some ⟨w.heap.size + 2, 0, none⟩)]) (by simp) (by simp [go_sem]) ?_
      refine (catch_idle ⟨w.heap.size, 0, none⟩ ⟨w.heap.size + 1, 0, none⟩ ⟨w.heap.size + 2, 0, none⟩ _).mono ?_
      rintro e u' w'' ⟨rfl, rfl, rfl⟩
      obtain ⟨d0, d1, d2, -, -, -⟩ := HR5.out.set (.slice T o.length c) 0 0
      have HB6 := Lib.hid (set3_below HB5.out (Nat.le_refl _) (.slice T o.length c) (.int .i64 0) (.int .i64 0))
      have HN6 : Hid (∃ A c', Value.slice T o.length c = .slice A o.length c' ∧ Nds (((w5.setCell ⟨w.heap.size, 0, none⟩ (.slice T o.length c)).setCell ⟨w.heap.size + 1, 0, none⟩ (.int .i64 0)).setCell ⟨w.heap.size + 2, 0, none⟩ (.int .i64 0)) w.heap.size A c' o) := by
        obtain ⟨A, c', h1, h2⟩ := HN.out
        refine ⟨A, c', h1, ?_⟩
        have h3 := h2.kept (Kept.set _ _ _ (p := ⟨w.heap.size, 0, none⟩) (.slice T o.length c) (.inl (by show w.heap.size < _; omega)))
        have h4 := h3.kept (Kept.set _ _ _ (p := ⟨w.heap.size + 1, 0, none⟩) (.int .i64 0) (.inl (by show w.heap.size + 1 < _; omega)))
        exact (h4.kept (Kept.set _ _ _ (p := ⟨w.heap.size + 2, 0, none⟩) (.int .i64 0) (.inl (by show w.heap.size + 2 < _; omega)))).low (by omega)
      clear c0 c1 c2 f0 f1 f2 HN x1 x2
      simp only [Nat.add_assoc, Nat.reduceAdd] at *
      generalize ((w5.setCell ⟨w.heap.size, 0, none⟩ (.slice T o.length c)).setCell ⟨w.heap.size + 1, 0, none⟩ (.int .i64 0)).setCell ⟨w.heap.size + 2, 0, none⟩ (.int .i64 0) = w6 at *
      simp [Leaves, settle, results, Tryd.results32, go_sem, d0, d1, d2]
      rw [HQ.out]
      obtain ⟨A, c', h1, h2⟩ := HN6.out
      exact ⟨A, c', by rw [h1], h2, HB6.out⟩
end Go.Proofs.YtoglgeaiiipchaaDoor
