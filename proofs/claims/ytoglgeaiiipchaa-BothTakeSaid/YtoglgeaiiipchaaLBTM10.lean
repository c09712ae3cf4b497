/- Walks: both.Either. -/
import Derived.Test.YtoglgeaiiipchaaLBTM6
import Derived.Test.YtoglgeaiiipchaaLBTM7
import Derived.Test.YtoglgeaiiipchaaLBTM8
import Derived.Test.YtoglgeaiiipchaaLBTM9
set_option linter.unusedSimpArgs false
set_option linter.unusedVariables false
namespace Go.Proofs.Ytoglgeaiiipchaa
open Go Go.RowKit Go.Sort

/-- a new automaton and what is wrong: all its rows are the call's own -/
def TnPost (w : World) (r : Au) (n : Int) (e : Ending) (w' : World) : Prop := ∃ A B C ca cb cc, e = .returned (.tuple #[.agg #[.int .i64 r.st, .int .i64 r.le, .slice A r.fs.length ca, .slice B r.gs.length cb, .slice C r.ss.length cc], .int .i64 n]) ∧ AuRd w' w.heap.size r A B C ca cb cc ∧ Below w.heap.size w w'
def nulAu : Au := ⟨0, 0, [], [], []⟩
theorem nulAu_rd (w : World) (lo : Nat) : AuRd w lo nulAu none none none 0 0 0 := ⟨⟨Nat.le_refl _, by omega, by simp [nulAu], Rd.nil⟩, ⟨Nat.le_refl _, by omega, by simp [nulAu], Rd.nil⟩, ⟨Nat.le_refl _, by omega, by simp [nulAu], Rd.nil⟩⟩
def eiErr (a b : Au) : Int := if rdErr a b = 0 then (if 300 < a.st + b.st ∨ 6000 < (a.ss.length : Int) + b.ss.length then 2 else 0) else rdErr a b
def eitherV (a b : Au) : Au := if eiErr a b = 0 then eitherOf a b else nulAu
theorem rdErr_zero {a b : Au} : rdErr a b = 0 ↔ ckA a = 0 ∧ ckA b = 0 ∧ a.le = b.le := by
  unfold rdErr
  by_cases h1 : ckA a = 0 <;> by_cases h2 : ckA b = 0 <;> by_cases h3 : a.le = b.le <;> simp [h1, h2, h3]
/-- two automata and a result in variables -/
structure Au2Z (w W : World) (V : Nat) (a b : Au) (A B C D E F : Option Addr) (ca cb cc cd ce cf : Nat) : Prop where
  below : Below w.heap.size w W
  size : W.heap.size = V + 3
  at1 : AuAt W V a A B C ca cb cc
  at2 : AuAt W (V + 1) b D E F cd ce cf
  obj : W.heap[V + 2]? = some (.cells #[.int .i64 0, .int .i64 0, .slice none 0 0, .slice none 0 0, .slice none 0 0] 49 (0, 0))
theorem au2z_is (w : World) (a b : Au) (A B C D E F : Option Addr) (ca cb cc cd ce cf : Nat) : Au2Z w ((auW2 w a b A B C D E F ca cb cc cd ce cf).alloc (Obj.cells #[.int .i64 0, .int .i64 0, .slice none 0 0, .slice none 0 0, .slice none 0 0] 49)) w.heap.size a b A B C D E F ca cb cc cd ce cf := by
  have h := auW2_is w a b A B C D E F ca cb cc cd ce cf
  have hb : Below (auW2 w a b A B C D E F ca cb cc cd ce cf).heap.size (auW2 w a b A B C D E F ca cb cc cd ce cf) ((auW2 w a b A B C D E F ca cb cc cd ce cf).alloc (Obj.cells #[.int .i64 0, .int .i64 0, .slice none 0 0, .slice none 0 0, .slice none 0 0] 49)) := (Below.refl _ _).alloc (Nat.le_refl _) _
  refine ⟨Below_on h.below hb h.below.size, by simp [h.size], h.at1.below hb h.at1.lt, h.at2.below hb h.at2.lt, ?_⟩
  rw [← h.size]
  show ((auW2 w a b A B C D E F ca cb cc cd ce cf).heap.push _)[(auW2 w a b A B C D E F ca cb cc cd ce cf).heap.size]? = _
  simp
def upF (a b : Au) (k : Nat) : List Int := a.fs ++ (b.fs.take k).map (· + a.st)
def upS (a b : Au) (k : Nat) : List Stp := a.ss ++ (b.ss.take k).map (Stp.up a.st)
theorem upF_succ (a b : Au) {k : Nat} (h : k < b.fs.length) : upF a b (k + 1) = upF a b k ++ [b.fs[k] + a.st] := by
  unfold upF
  rw [List.take_succ_eq_append_getElem h, List.map_append, ← List.append_assoc]
  rfl
theorem upS_succ (a b : Au) {k : Nat} (h : k < b.ss.length) : upS a b (k + 1) = upS a b k ++ [⟨b.ss[k].f + a.st, b.ss[k].l, b.ss[k].t + a.st⟩] := by
  unfold upS
  rw [List.take_succ_eq_append_getElem h, List.map_append, ← List.append_assoc]
  rfl
theorem upF_len (a b : Au) {k : Nat} (h : k ≤ b.fs.length) : (upF a b k).length = a.fs.length + k := by simp [upF, h]
theorem upS_len (a b : Au) {k : Nat} (h : k ≤ b.ss.length) : (upS a b k).length = a.ss.length + k := by simp [upS, h]
/-- a store to a block that holds an automaton -/
def StA (w w' : World) : Prop := ∃ g u0 u1 u2 u3 u4 v0 v1 v2 v3 v4, w.heap[g]? = some (.cells #[u0, u1, u2, u3, u4] 49 (0, 0)) ∧ w.grownBy w' (some g) ∧ w'.heap[g]? = some (.cells #[v0, v1, v2, v3, v4] 49 (0, 0))
theorem StA.own {w w' : World} {B : Nat} {e : TypeId} {sz n : Nat} {v : Value} {xs : List Value} (h : StA w w') (hv : w.ownsRow B e sz v n xs) (he : 49 ≠ e) : w'.ownsRow B e sz v n xs := by
  obtain ⟨g, _, _, _, _, _, _, _, _, _, _, h1, h2, _⟩ := h
  exact World.ownsRow.kept hv h2 (.inr (own_ty hv h1 he))
theorem StA.block {w w' : World} {k : Nat} {cs : Array Value} {t : TypeId} {m : Nat × Nat} (h : StA w w') (hk : w.heap[k]? = some (.cells cs t m)) (ht : t ≠ 49) : w'.heap[k]? = some (.cells cs t m) := by
  obtain ⟨g, _, _, _, _, _, _, _, _, _, _, h1, h2, _⟩ := h
  refine (h2.block k (Array.getElem?_eq_some_iff.1 hk).1 fun e => ?_).trans hk
  obtain rfl : k = g := by simpa using e
  rw [hk] at h1
  simp at h1
  exact ht h1.2.1
theorem StA.obj {w w' : World} {k : Nat} {v0 v1 v2 v3 v4 : Value} (h : StA w w') (hk : w.heap[k]? = some (.cells #[v0, v1, v2, v3, v4] 49 (0, 0))) : ∃ v0 v1 v2 v3 v4, w'.heap[k]? = some (.cells #[v0, v1, v2, v3, v4] 49 (0, 0)) := by
  obtain ⟨g, _, _, _, _, _, v0, v1, v2, v3, v4, h1, h2, h3⟩ := h
  by_cases e : k = g
  · subst e; exact ⟨v0, v1, v2, v3, v4, h3⟩
  · exact ⟨_, _, _, _, _, (h2.block k (Array.getElem?_eq_some_iff.1 hk).1 (by simpa using e)).trans hk⟩
theorem StA.set {w : World} {g : Nat} {u0 u1 u2 u3 u4 : Value} (h : w.heap[g]? = some (.cells #[u0, u1, u2, u3, u4] 49 (0, 0))) (v0 v1 v2 v3 v4 : Value) : StA w (set5 w g v0 v1 v2 v3 v4) :=
  ⟨g, _, _, _, _, _, v0, v1, v2, v3, v4, h, grown_grown (grown_grown (grown_grown (grown_grown (grown_set _ _ _ _) (grown_set _ _ _ _)) (grown_set _ _ _ _)) (grown_set _ _ _ _)) (grown_set _ _ _ _), set5_heap h _ _ _ _ _⟩
theorem new_blk (w : World) (o : Obj) : (w.alloc o).heap[w.heap.size]? = some o := by
  show (w.heap.push _)[w.heap.size]? = _
  simp
theorem Below.at_blk {w w' : World} (h : Below w.heap.size w w') {k : Nat} {o : Obj} (hk : w.heap[k]? = some o) : w'.heap[k]? = some o := (h.block k (Array.getElem?_eq_some_iff.1 hk).1).trans hk

set_option maxRecDepth 100000 in
set_option maxHeartbeats 4000000 in
theorem Either_ (a b : Au) (A B C D E F : Option Addr) (ca cb cc cd ce cf : Nat) (w : World) (ha : AuRd w 0 a A B C ca cb cc) (hb : AuRd w 0 b D E F cd ce cf) :
    Calls Try.prog 28 #[.agg #[.int .i64 a.st, .int .i64 a.le, .slice A a.fs.length ca, .slice B a.gs.length cb, .slice C a.ss.length cc], .agg #[.int .i64 b.st, .int .i64 b.le, .slice D b.fs.length cd, .slice E b.gs.length ce, .slice F b.ss.length cf]] w (TnPost w (eitherV a b) (eiErr a b)) := by
  have HZ := au2z_is w a b A B C D E F ca cb cc cd ce cf
  unfold auW2 auW at HZ
  go_enter Try.func28, Try.ntmps28
  go_upto_region 1 with fail
  obtain ⟨V, hV⟩ : ∃ V, V = w.heap.size := ⟨_, rfl⟩
  rw [← hV] at HZ
  rw [show w.heap.size + 1 + 1 = V + 2 by omega, show w.heap.size + 1 = V + 1 by omega, ← hV]
  generalize ((w.alloc (Obj.cells #[.int .i64 a.st, .int .i64 a.le, .slice A a.fs.length ca, .slice B a.gs.length cb, .slice C a.ss.length cc] 49)).alloc (Obj.cells #[.int .i64 b.st, .int .i64 b.le, .slice D b.fs.length cd, .slice E b.gs.length ce, .slice F b.ss.length cf] 49)).alloc (Obj.cells #[.int .i64 0, .int .i64 0, .slice none 0 0, .slice none 0 0, .slice none 0 0] 49) = W0 at *
  have HB0 := Lib.hid HZ.below
  have HSZ := Lib.hid HZ.size
  have HV1 : Hid (∀ W, Below W0.heap.size W0 W → AuAt W V a A B C ca cb cc) := fun W h => HZ.at1.below h HZ.at1.lt
  have HV2 : Hid (∀ W, Below W0.heap.size W0 W → AuAt W (V + 1) b D E F cd ce cf) := fun W h => HZ.at2.below h HZ.at2.lt
  have HOB := Lib.hid HZ.obj
  have HA0 : Hid (∀ W, Below W0.heap.size W0 W → AuRd W 0 a A B C ca cb cc) := fun W h => (ha.below HZ.below).below h
  have HBR : Hid (∀ W, Below W0.heap.size W0 W → AuRd W 0 b D E F cd ce cf) := fun W h => (hb.below HZ.below).below h
  have HVV := Lib.hid hV
  have HRW : Hid (∀ W, Below W0.heap.size W0 W → W.heap[V + 2]? = some (.cells #[.int .i64 0, .int .i64 0, .slice none 0 0, .slice none 0 0, .slice none 0 0] 49 (0, 0))) := fun W h => (h.block _ (by have := HZ.size; omega)).trans HZ.obj
  have HBF : Hid (∀ W, Below W0.heap.size W0 W → ∀ u0 u1 u2 u3 u4, Below w.heap.size w (set5 W (V + 2) u0 u1 u2 u3 u4)) := fun W h u0 u1 u2 u3 u4 =>
    below_set5 (Below_on HB0.out h HB0.out.size) (by rw [← hV]; omega) _ _ _ _ _
  have HNUL : Hid (∀ W, Below W0.heap.size W0 W → ∀ n, eiErr a b = n → n ≠ 0 → TnPost w (eitherV a b) (eiErr a b) (.returned (.tuple #[.agg #[.int .i64 0, .int .i64 0, .slice none 0 0, .slice none 0 0, .slice none 0 0], .int .i64 n])) (set5 W (V + 2) (.int .i64 0) (.int .i64 0) (.slice none 0 0) (.slice none 0 0) (.slice none 0 0))) := fun W h n hn h0 => by
    unfold eitherV
    rw [if_neg (by rw [hn]; exact h0), hn]
    exact ⟨none, none, none, 0, 0, 0, rfl, nulAu_rd _ _, HBF.out _ h _ _ _ _ _⟩
  have HOO : Hid (∀ W, Below W0.heap.size W0 W → ∀ v0 v1 v2 v3 v4, (set5 W (V + 2) v0 v1 v2 v3 v4).heap[V + 2]? = some (.cells #[v0, v1, v2, v3, v4] 49 (0, 0))) := fun W h v0 v1 v2 v3 v4 => set5_heap (HRW.out W h) _ _ _ _ _
  obtain ⟨_, c0, c1, c2, c3, c4⟩ := HZ.at1
  obtain ⟨_, d0, d1, d2, d3, d4⟩ := HZ.at2
  have HRY := Lib.hid (ready_ a b A B C D E F ca cb cc cd ce cf W0 (HA0.out _ (Below.refl _ _)) (HBR.out _ (Below.refl _ _)))
  clear HZ ha hb hV
  go_wp2_with fail
  refine HRY.out.mono ?_
  rintro e w1 ⟨rfl, hb1⟩
  have HB1 := Lib.hid hb1
  clear hb1 HRY c0 c1 c2 c3 c4 d0 d1 d2 d3 d4
  obtain ⟨r0, r1, r2, r3, r4, rf0, rf1, rf2, rf3, rf4⟩ := obj5 (HRW.out _ HB1.out)
  by_cases hr0 : rdErr a b = 0
  · have hr1 : (rdErr a b != 0) = false := by simp [hr0]
    obtain ⟨hka, hkb, hle⟩ := rdErr_zero.1 hr0
    have HOA := Lib.hid (ckA_zero.1 hka).1
    have HOB2 := Lib.hid (ckA_zero.1 hkb).1
    have HR0 := Lib.hid hr0
    have sa1 := HOA.out.st1
    have sa2 := HOA.out.st2
    have sb1 := HOB2.out.st1
    have sb2 := HOB2.out.st2
    have la := HOA.out.sl
    have lb := HOB2.out.sl
    obtain ⟨_, c0, c1, c2, c3, c4⟩ := HV1.out _ HB1.out
    obtain ⟨_, d0, d1, d2, d3, d4⟩ := HV2.out _ HB1.out
    have HNO : Hid (∀ W, Below W0.heap.size W0 W → (300 < a.st + b.st ∨ 6000 < (a.ss.length : Int) + b.ss.length) → TnPost w (eitherV a b) (eiErr a b) (.returned (.tuple #[.agg #[.int .i64 0, .int .i64 0, .slice none 0 0, .slice none 0 0, .slice none 0 0], .int .i64 2])) (set5 W (V + 2) (.int .i64 0) (.int .i64 0) (.slice none 0 0) (.slice none 0 0) (.slice none 0 0))) := fun W h hc => HNUL.out W h 2 (by unfold eiErr; rw [if_pos HR0.out, if_pos hc]) (by decide)
    have HYE : Hid (¬ (300 < a.st + b.st ∨ 6000 < (a.ss.length : Int) + b.ss.length) → eiErr a b = 0 ∧ eitherV a b = eitherOf a b) := fun hc => by
      have h1 : eiErr a b = 0 := by unfold eiErr; rw [if_pos HR0.out, if_neg hc]
      exact ⟨h1, by unfold eitherV; rw [if_pos h1]⟩
    clear hr0 hka hkb hle HNUL
    by_cases h3 : 300 < a.st + b.st
    · have HP := Lib.hid (HNO.out _ HB1.out (.inl h3))
      have HO1 := Lib.hid (HOO.out _ HB1.out (.int .i64 0) (.int .i64 0) (.slice none 0 0) (.slice none 0 0) (.slice none 0 0))
      go_wp2_with fail
      exact bodyPost_ret (retAuX Try.results28 _ _ (V + 2) rfl rfl HO1.out) rfl HP.out
    · by_cases h6 : 6000 < (a.ss.length : Int) + b.ss.length
      · have HP := Lib.hid (HNO.out _ HB1.out (.inr h6))
        have HO1 := Lib.hid (HOO.out _ HB1.out (.int .i64 0) (.int .i64 0) (.slice none 0 0) (.slice none 0 0) (.slice none 0 0))
        go_wp2_with fail
        exact bodyPost_ret (retAuX Try.results28 _ _ (V + 2) rfl rfl HO1.out) rfl HP.out
      · obtain ⟨hz, hv⟩ := HYE.out (by omega)
        have HZV := Lib.hid (And.intro hz hv)
        clear hz hv HNO HYE
        go_upto_region 6 with fail
        clear c0 c1 c2 c3 c4 d0 d1 d2 d3 d4 r0 r1 r2 r3 r4 rf0 rf1 rf2 rf3 rf4 h3 h6
        have HC1 : Hid (∀ W, Below w1.heap.size w1 W → AuAt W V a A B C ca cb cc) := fun W h => HV1.out W (Below_on HB1.out h HB1.out.size)
        have HC2 : Hid (∀ W, Below w1.heap.size w1 W → AuAt W (V + 1) b D E F cd ce cf) := fun W h => HV2.out W (Below_on HB1.out h HB1.out.size)
        have HRA : Hid (∀ W, Below w1.heap.size w1 W → AuRd W 0 a A B C ca cb cc) := fun W h => HA0.out W (Below_on HB1.out h HB1.out.size)
        have HRB : Hid (∀ W, Below w1.heap.size w1 W → AuRd W 0 b D E F cd ce cf) := fun W h => HBR.out W (Below_on HB1.out h HB1.out.size)
        have HGL : Hid (a.gs.length + b.gs.length ≤ 100000000) := by have := HOA.out.gl; have := HOB2.out.gl; show _ ≤ _; omega
        have hs1 : IntKind.i64.wrap (a.st + b.st) = a.st + b.st := IntWalk.i64_in _ (by omega)
        refine wp_region_held_drew (S := fun w' => Below w1.heap.size w1 w') (by kernel_rfl) ((Below.refl _ _).drew) (fun hS0 => ?_)
        refine wpAnyH_take1 (i := 0) (v := ?_) rfl (by kernel_rfl) (by kernel_rfl) (by kernel_rfl) (fun _ _ _ h => h) (Or.inl ⟨by rfl, ?_⟩) hS0 ?_
        rotate_left
        · intro w hSw; obtain ⟨_, c0, c1, c2, c3, c4⟩ := HC1.out w hSw; obtain ⟨_, d0, d1, d2, d3, d4⟩ := HC2.out w hSw; go_simp; (try with_reducible rfl)
        (try simp only [Act.put, List.setIfInBounds_toArray, List.set_cons_zero, List.set_cons_succ])
        refine wpAnyH_take1 (i := 1) (v := ?_) rfl (by kernel_rfl) (by kernel_rfl) (by kernel_rfl) (fun _ _ _ h => h) (Or.inl ⟨by rfl, ?_⟩) hS0 ?_
        rotate_left
        · intro w hSw; obtain ⟨_, c0, c1, c2, c3, c4⟩ := HC1.out w hSw; obtain ⟨_, d0, d1, d2, d3, d4⟩ := HC2.out w hSw; go_simp; (try with_reducible rfl)
        (try simp only [Act.put, List.setIfInBounds_toArray, List.set_cons_zero, List.set_cons_succ])
        refine wpAnyH_take1 (i := 2) (v := ?_) rfl (by kernel_rfl) (by kernel_rfl) (by kernel_rfl) (fun _ _ _ h => h) (Or.inl ⟨by rfl, ?_⟩) hS0 ?_
        rotate_left
        · intro w hSw; obtain ⟨_, c0, c1, c2, c3, c4⟩ := HC1.out w hSw; obtain ⟨_, d0, d1, d2, d3, d4⟩ := HC2.out w hSw; go_simp; (try with_reducible rfl)
        (try simp only [Act.put, List.setIfInBounds_toArray, List.set_cons_zero, List.set_cons_succ])
        refine wpAnyH_take1 (i := 3) (v := ?_) rfl (by kernel_rfl) (by kernel_rfl) (by kernel_rfl) (fun _ _ _ h => h) (Or.inl ⟨by rfl, ?_⟩) hS0 ?_
        rotate_left
        · intro w hSw; obtain ⟨_, c0, c1, c2, c3, c4⟩ := HC1.out w hSw; obtain ⟨_, d0, d1, d2, d3, d4⟩ := HC2.out w hSw; go_simp; (try with_reducible rfl)
        (try simp only [Act.put, List.setIfInBounds_toArray, List.set_cons_zero, List.set_cons_succ])
        refine wpAnyH_take1 (i := 4) (v := ?_) rfl (by kernel_rfl) (by kernel_rfl) (by kernel_rfl) (fun _ _ _ h => h) (Or.inl ⟨by rfl, ?_⟩) hS0 ?_
        rotate_left
        · intro w hSw; obtain ⟨_, c0, c1, c2, c3, c4⟩ := HC1.out w hSw; obtain ⟨_, d0, d1, d2, d3, d4⟩ := HC2.out w hSw; go_simp; (try with_reducible rfl)
        (try simp only [Act.put, List.setIfInBounds_toArray, List.set_cons_zero, List.set_cons_succ])
        refine wpAnyH_take1 (i := 5) (v := ?_) rfl (by kernel_rfl) (by kernel_rfl) (by kernel_rfl) (fun _ _ _ h => h) (Or.inl ⟨by rfl, ?_⟩) hS0 ?_
        rotate_left
        · intro w hSw; obtain ⟨_, c0, c1, c2, c3, c4⟩ := HC1.out w hSw; obtain ⟨_, d0, d1, d2, d3, d4⟩ := HC2.out w hSw; go_simp; (try with_reducible rfl)
        (try simp only [Act.put, List.setIfInBounds_toArray, List.set_cons_zero, List.set_cons_succ])
        refine wpAnyH_take1 (i := 6) (v := ?_) rfl (by kernel_rfl) (by kernel_rfl) (by kernel_rfl) (fun _ _ _ h => h) (Or.inl ⟨by rfl, ?_⟩) hS0 ?_
        rotate_left
        · intro w hSw; obtain ⟨_, c0, c1, c2, c3, c4⟩ := HC1.out w hSw; obtain ⟨_, d0, d1, d2, d3, d4⟩ := HC2.out w hSw; go_simp; (try with_reducible rfl)
        (try simp only [Act.put, List.setIfInBounds_toArray, List.set_cons_zero, List.set_cons_succ])
        refine wpAnyH_take1 (i := 7) (v := ?_) rfl (by kernel_rfl) (by kernel_rfl) (by kernel_rfl) (fun _ _ _ h => h) (Or.inl ⟨by rfl, ?_⟩) hS0 ?_
        rotate_left
        · intro w hSw; obtain ⟨_, c0, c1, c2, c3, c4⟩ := HC1.out w hSw; obtain ⟨_, d0, d1, d2, d3, d4⟩ := HC2.out w hSw; go_simp; (try with_reducible rfl)
        (try simp only [Act.put, List.setIfInBounds_toArray, List.set_cons_zero, List.set_cons_succ])
        refine wpAnyH_take1 (i := 8) (v := ?_) rfl (by kernel_rfl) (by kernel_rfl) (by kernel_rfl) (fun _ _ _ h => h) (Or.inl ⟨by rfl, ?_⟩) hS0 ?_
        rotate_left
        · intro w hSw; obtain ⟨_, c0, c1, c2, c3, c4⟩ := HC1.out w hSw; obtain ⟨_, d0, d1, d2, d3, d4⟩ := HC2.out w hSw; go_simp; (try with_reducible rfl)
        (try simp only [Act.put, List.setIfInBounds_toArray, List.set_cons_zero, List.set_cons_succ])
        refine wpAnyH_take1 (i := 10) (v := ?_) rfl (by kernel_rfl) (by kernel_rfl) (by kernel_rfl) (fun _ _ _ h => h) (Or.inl ⟨by rfl, ?_⟩) hS0 ?_
        rotate_left
        · intro w hSw; obtain ⟨_, c0, c1, c2, c3, c4⟩ := HC1.out w hSw; obtain ⟨_, d0, d1, d2, d3, d4⟩ := HC2.out w hSw; go_simp; (try with_reducible rfl)
        (try simp only [Act.put, List.setIfInBounds_toArray, List.set_cons_zero, List.set_cons_succ])
        refine wpAnyH_take1 (i := 11) (v := ?_) rfl (by kernel_rfl) (by kernel_rfl) (by kernel_rfl) (fun _ _ _ h => h) (Or.inl ⟨by rfl, ?_⟩) hS0 ?_
        rotate_left
        · intro w hSw; obtain ⟨_, c0, c1, c2, c3, c4⟩ := HC1.out w hSw; obtain ⟨_, d0, d1, d2, d3, d4⟩ := HC2.out w hSw; go_simp; (try with_reducible rfl)
        (try simp only [Act.put, List.setIfInBounds_toArray, List.set_cons_zero, List.set_cons_succ])
        refine wpAnyH_take1 (i := 12) (v := ?_) rfl (by kernel_rfl) (by kernel_rfl) (by kernel_rfl) (fun _ _ _ h => h) (Or.inl ⟨by rfl, ?_⟩) hS0 ?_
        rotate_left
        · intro w hSw; obtain ⟨_, c0, c1, c2, c3, c4⟩ := HC1.out w hSw; obtain ⟨_, d0, d1, d2, d3, d4⟩ := HC2.out w hSw; go_simp; (try with_reducible rfl)
        (try simp only [Act.put, List.setIfInBounds_toArray, List.set_cons_zero, List.set_cons_succ])
        refine wpAnyH_take1 (i := 13) (v := ?_) rfl (by kernel_rfl) (by kernel_rfl) (by kernel_rfl) (fun _ _ _ h => h) (Or.inl ⟨by rfl, ?_⟩) hS0 ?_
        rotate_left
        · intro w hSw; obtain ⟨_, c0, c1, c2, c3, c4⟩ := HC1.out w hSw; obtain ⟨_, d0, d1, d2, d3, d4⟩ := HC2.out w hSw; go_simp; (try with_reducible rfl)
        (try simp only [Act.put, List.setIfInBounds_toArray, List.set_cons_zero, List.set_cons_succ])
        refine wpAnyH_take1 (i := 16) (v := ?_) rfl (by kernel_rfl) (by kernel_rfl) (by kernel_rfl) (fun _ _ _ h => h) (Or.inl ⟨by rfl, ?_⟩) hS0 ?_
        rotate_left
        · intro w hSw; obtain ⟨_, c0, c1, c2, c3, c4⟩ := HC1.out w hSw; obtain ⟨_, d0, d1, d2, d3, d4⟩ := HC2.out w hSw; go_simp; (try with_reducible rfl)
        (try simp only [Act.put, List.setIfInBounds_toArray, List.set_cons_zero, List.set_cons_succ])
        refine wpAnyH_take1 (i := 17) (v := ?_) rfl (by kernel_rfl) (by kernel_rfl) (by kernel_rfl) (fun _ _ _ h => h) (Or.inl ⟨by rfl, ?_⟩) hS0 ?_
        rotate_left
        · intro w hSw; obtain ⟨_, c0, c1, c2, c3, c4⟩ := HC1.out w hSw; obtain ⟨_, d0, d1, d2, d3, d4⟩ := HC2.out w hSw; go_simp; (try with_reducible rfl)
        (try simp only [Act.put, List.setIfInBounds_toArray, List.set_cons_zero, List.set_cons_succ])
        clear hs1
        refine wpAnyH_free (G := fun i w w' => match i with | 21 => StA w w' | _ => Below w.heap.size w w') (fun i vs w' => match i with
          | 9 => ∃ X c, vs 9 = .slice X a.fs.length c ∧ w'.ownsRow w1.heap.size 3 1 (vs 9) a.fs.length (a.fs.flatMap viL)
          | 14 => ∃ g cs, vs 14 = .slice (some ⟨g, 0, none⟩) 2 2 ∧ w'.heap[g]? = some (.cells cs 37 (0, 0)) ∧ w'.cell? ⟨g, 0, none⟩ = some (.slice B a.gs.length cb) ∧ w'.cell? ⟨g, 1, none⟩ = some (.slice E b.gs.length ce)
          | 15 => ∃ X c, vs 15 = .slice X (a.gs.length + b.gs.length) c ∧ w'.ownsRow w1.heap.size 4 1 (vs 15) (a.gs.length + b.gs.length) ((a.gs ++ b.gs).flatMap vbL)
          | 18 => ∃ X c, vs 18 = .slice X a.ss.length c ∧ w'.ownsRow w1.heap.size 90 3 (vs 18) a.ss.length (a.ss.flatMap Stp.cells)
          | 19 => ∃ X c X2 c2 X3 c3, vs 9 = .slice X a.fs.length c ∧ vs 15 = .slice X2 (a.gs.length + b.gs.length) c2 ∧ vs 18 = .slice X3 a.ss.length c3 ∧ vs 19 = .agg #[.int .i64 (a.st + b.st), .int .i64 a.le, .slice X a.fs.length c, .slice X2 (a.gs.length + b.gs.length) c2, .slice X3 a.ss.length c3]
          | 20 => ∃ g v0 v1 v2 v3 v4, vs 20 = .pointer (some ⟨g, 0, none⟩) ∧ w1.heap.size ≤ g ∧ w'.heap[g]? = some (.cells #[v0, v1, v2, v3, v4] 49 (0, 0))
          | 21 => ∃ g v0 v1 v2 v3 v4, vs 20 = .pointer (some ⟨g, 0, none⟩) ∧ w1.heap.size ≤ g ∧ vs 19 = .agg #[v0, v1, v2, v3, v4] ∧ w'.heap[g]? = some (.cells #[v0, v1, v2, v3, v4] 49 (0, 0))
          | _ => False)
          [9, 14, 15, 18, 19, 20, 21] (by kernel_rfl) (by decide) ?rc ?rg hS0 (fun vs => ?go)
        case rc =>
          intro j hj vs vs' w2 h0 hk hr
          have hk2 : ∀ i, [9, 14, 15, 18, 19, 20, 21].contains i = true → List.contains (waitsFor _ _ j) i = true → vs i = vs' i := fun i h1 h2 => hk i (by simpa using h1) (by simpa using h2)
          clear hk
          simp only [List.mem_cons, List.not_mem_nil, or_false] at hj
          rcases hj with rfl | rfl | rfl | rfl | rfl | rfl | rfl
          · obtain ⟨X, c, e, r⟩ := hr
            exact ⟨X, c, h0.symm.trans e, by rw [← h0]; exact r⟩
          · obtain ⟨g, cs, e, r⟩ := hr
            exact ⟨g, cs, h0.symm.trans e, r⟩
          · obtain ⟨X, c, e, r⟩ := hr
            exact ⟨X, c, h0.symm.trans e, by rw [← h0]; exact r⟩
          · obtain ⟨X, c, e, r⟩ := hr
            exact ⟨X, c, h0.symm.trans e, by rw [← h0]; exact r⟩
          · obtain ⟨X, c, X2, c2, X3, c3, e1, e2, e3, e4⟩ := hr
            exact ⟨X, c, X2, c2, X3, c3, (hk2 9 (by decide) (by kernel_rfl)).symm.trans e1, (hk2 15 (by decide) (by kernel_rfl)).symm.trans e2, (hk2 18 (by decide) (by kernel_rfl)).symm.trans e3, h0.symm.trans e4⟩
          · obtain ⟨g, v0, v1, v2, v3, v4, e, r⟩ := hr
            exact ⟨g, v0, v1, v2, v3, v4, h0.symm.trans e, r⟩
          · obtain ⟨g, v0, v1, v2, v3, v4, e, r1, e2, r⟩ := hr
            exact ⟨g, v0, v1, v2, v3, v4, (hk2 20 (by decide) (by kernel_rfl)).symm.trans e, r1, (hk2 19 (by decide) (by kernel_rfl)).symm.trans e2, r⟩
        case rg =>
          intro j hj i hi hij _ vs w2 w3 hg hr
          simp only [List.mem_cons, List.not_mem_nil, or_false] at hi hj
          rcases hj with rfl | rfl | rfl | rfl | rfl | rfl | rfl
          · obtain ⟨X, c, e, r⟩ := hr
            refine ⟨X, c, e, ?_⟩
            rcases hi with rfl | rfl | rfl | rfl | rfl | rfl | rfl <;> first | exact absurd rfl hij | exact own_below r hg | exact StA.own hg r (by decide)
          · obtain ⟨g, cs, e, h1, h2, h3⟩ := hr
            have h4 : w3.heap[g]? = some (.cells cs 37 (0, 0)) := by
              rcases hi with rfl | rfl | rfl | rfl | rfl | rfl | rfl <;> first | exact Below.at_blk hg h1 | exact StA.block hg h1 (by decide)
            exact ⟨g, cs, e, h4, (World.cell?_of_block (w := w2) (a := ⟨g, 0, none⟩) (h4.trans h1.symm)).trans h2, (World.cell?_of_block (w := w2) (a := ⟨g, 1, none⟩) (h4.trans h1.symm)).trans h3⟩
          · obtain ⟨X, c, e, r⟩ := hr
            refine ⟨X, c, e, ?_⟩
            rcases hi with rfl | rfl | rfl | rfl | rfl | rfl | rfl <;> first | exact absurd rfl hij | exact own_below r hg | exact StA.own hg r (by decide)
          · obtain ⟨X, c, e, r⟩ := hr
            refine ⟨X, c, e, ?_⟩
            rcases hi with rfl | rfl | rfl | rfl | rfl | rfl | rfl <;> first | exact absurd rfl hij | exact own_below r hg | exact StA.own hg r (by decide)
          · exact hr
          · obtain ⟨g, v0, v1, v2, v3, v4, e, h1, h2⟩ := hr
            have h4 : ∃ v0 v1 v2 v3 v4, w3.heap[g]? = some (.cells #[v0, v1, v2, v3, v4] 49 (0, 0)) := by
              rcases hi with rfl | rfl | rfl | rfl | rfl | rfl | rfl <;> first | exact ⟨_, _, _, _, _, Below.at_blk hg h2⟩ | exact StA.obj hg h2
            obtain ⟨u0, u1, u2, u3, u4, h5⟩ := h4
            exact ⟨g, u0, u1, u2, u3, u4, e, h1, h5⟩
          · obtain ⟨g, v0, v1, v2, v3, v4, e, h1, h2, h3⟩ := hr
            refine ⟨g, v0, v1, v2, v3, v4, e, h1, h2, ?_⟩
            rcases hi with rfl | rfl | rfl | rfl | rfl | rfl | rfl <;> first | exact absurd rfl hij | exact Below.at_blk hg h3
        case go =>
          refine StepsF.cons1 rfl (fun w hw hd K hK => ?_) ?_
          · go_simp
            go_at_call 41
            refine (CloneIO_ A ca a.fs w (HRA.out w hw).fs).mono ?_
            rintro e wa ⟨v, rfl, ho, hba⟩
            obtain ⟨X, c, rfl, _⟩ := own_form ho
            exact hK.out _ _ (Below_on hw hba hw.size) hba ⟨X, c, rfl, own_low ho hw.size⟩
          (try simp only [Act.put, List.setIfInBounds_toArray, List.set_cons_zero, List.set_cons_succ])
          refine StepsF.cons1 rfl (fun w hw hd K hK => ?_) ?_
          · go_simp
            refine hK.out _ _ (hw.trans (((Below.refl _ w).alloc (Nat.le_refl _) _).mono hw.size)) ((Below.refl _ w).alloc (Nat.le_refl _) _) ⟨w.heap.size, _, rfl, new_blk w _, by go_simp, by go_simp⟩
          (try simp only [Act.put, List.setIfInBounds_toArray, List.set_cons_zero, List.set_cons_succ])
          refine StepsF.cons1 rfl (fun w hw hd K hK => ?_) ?_
          · obtain ⟨g, cs, e14, h1, h2, h3⟩ := hd 14 (by decide) (by kernel_rfl)
            rw [e14] at hK ⊢
            go_simp
            go_at_call 59
            refine (ConcatBO_ g B E cb ce a.gs b.gs w (HRA.out w hw).gs (HRB.out w hw).gs HGL.out h2 h3 (Array.getElem?_eq_some_iff.1 h1).1).mono ?_
            rintro e wa ⟨v, rfl, ho, hba⟩
            rw [List.length_append] at ho
            obtain ⟨X, c, rfl, _⟩ := own_form ho
            exact hK.out _ _ (Below_on hw hba hw.size) hba ⟨X, c, rfl, own_low ho hw.size⟩
          (try simp only [Act.put, List.setIfInBounds_toArray, List.set_cons_zero, List.set_cons_succ])
          refine StepsF.cons1 rfl (fun w hw hd K hK => ?_) ?_
          · go_simp
            go_at_call 60
            refine (CloneSO_ C cc a.ss w (HRA.out w hw).ss).mono ?_
            rintro e wa ⟨v, rfl, ho, hba⟩
            obtain ⟨X, c, rfl, _⟩ := own_form ho
            exact hK.out _ _ (Below_on hw hba hw.size) hba ⟨X, c, rfl, own_low ho hw.size⟩
          (try simp only [Act.put, List.setIfInBounds_toArray, List.set_cons_zero, List.set_cons_succ])
          refine StepsF.cons1 rfl (fun w hw hd K hK => ?_) ?_
          · obtain ⟨X, c, e9, _⟩ := hd 9 (by decide) (by kernel_rfl)
            obtain ⟨X2, c2, e15, _⟩ := hd 15 (by decide) (by kernel_rfl)
            obtain ⟨X3, c3, e18, _⟩ := hd 18 (by decide) (by kernel_rfl)
            rw [e9, e15, e18] at hK ⊢
            go_simp
            exact hK.out _ _ hw (Below.refl _ _) ⟨X, c, X2, c2, X3, c3, e9, e15, e18, rfl⟩
          (try simp only [Act.put, List.setIfInBounds_toArray, List.set_cons_zero, List.set_cons_succ])
          refine StepsF.cons1 rfl (fun w hw hd K hK => ?_) ?_
          · go_simp
            exact hK.out _ _ (hw.trans (((Below.refl _ w).alloc (Nat.le_refl _) _).mono hw.size)) ((Below.refl _ w).alloc (Nat.le_refl _) _) ⟨w.heap.size, _, _, _, _, _, rfl, hw.size, new_blk w _⟩
          (try simp only [Act.put, List.setIfInBounds_toArray, List.set_cons_zero, List.set_cons_succ])
          refine StepsF.cons1 rfl (fun w hw hd K hK => ?_) ?_
          · obtain ⟨g, u0, u1, u2, u3, u4, e20, hg0, hob⟩ := hd 20 (by decide) (by kernel_rfl)
            obtain ⟨X, c, X2, c2, X3, c3, e9, e15, e18, e19⟩ := hd 19 (by decide) (by kernel_rfl)
            obtain ⟨q0, q1, q2, q3, q4, f0, f1, f2, f3, f4⟩ := obj5 hob
            clear e9 e15 e18
            rw [e20, e19] at hK ⊢
            have E20 := Lib.hid e20
            have E19 := Lib.hid e19
            clear e20 e19
            go_simp
            exact hK.out undef _ (below_set5 hw hg0 _ _ _ _ _) (StA.set hob _ _ _ _ _) ⟨g, _, _, _, _, _, E20.out, hg0, E19.out, set5_heap hob _ _ _ _ _⟩
          (try simp only [Act.put, List.setIfInBounds_toArray, List.set_cons_zero, List.set_cons_succ])
          intro w2 hw hR
          obtain ⟨G, v0, v1, v2, v3, v4, e20, hG, e19, hob⟩ := hR 21 (by decide)
          obtain ⟨X, c, e9, h9⟩ := hR 9 (by decide)
          obtain ⟨X2, c2, e15, h15⟩ := hR 15 (by decide)
          obtain ⟨X3, c3, e18, h18⟩ := hR 18 (by decide)
          obtain ⟨_, _, _, _, _, _, f9, f15, f18, h19⟩ := hR 19 (by decide)
          rw [e9] at h9 f9
          rw [e15] at h15 f15
          rw [e18] at h18 f18
          simp only [Value.slice.injEq, true_and] at f9 f15 f18
          obtain ⟨rfl, rfl⟩ := f9
          obtain ⟨rfl, rfl⟩ := f15
          obtain ⟨rfl, rfl⟩ := f18
          rw [e19] at h19
          simp only [Value.agg.injEq, Array.mk.injEq, List.cons.injEq, and_true] at h19
          obtain ⟨rfl, rfl, rfl, rfl, rfl⟩ := h19
          have HM0 : Hid (AuN w1.heap.size G (a.st + b.st) a.le (upF a b 0) (a.gs ++ b.gs) (upS a b 0) (.slice X a.fs.length c) (.slice X2 (a.gs.length + b.gs.length) c2) (.slice X3 a.ss.length c3) w2) := ⟨hG, hob, by simpa [upF] using h9, by rw [List.length_append]; exact h15, by simpa [upS] using h18⟩
          have HW2 := Lib.hid hw
          rw [e20, e9, e15, e18, e19]
          clear hR h9 h15 h18 hob hw e20 e19 e9 e15 e18
          generalize vs 14 = v14
          have cG := HM0.out.obj
          obtain ⟨_, c0, c1, c2, c3, c4⟩ := HC1.out _ HW2.out
          obtain ⟨_, d0, d1, d2, d3, d4⟩ := HC2.out _ HW2.out
          have HRF := Lib.hid HOB2.out.fr
          have HRS := Lib.hid HOB2.out.sr
          have hfl := HOB2.out.fs_le
          have hfl2 := HOA.out.fs_le
          clear cG
          have hUF0 := upF_len a b (Nat.zero_le b.fs.length)
          go_upto_block 0 with fail
          clear c0 c1 c2 c3 c4 d0 d1 d2 d3 d4 hUF0
          go_cut [] (fun wx => ∃ fv, Hid (AuN w1.heap.size G (a.st + b.st) a.le (upF a b b.fs.length) (a.gs ++ b.gs) (upS a b 0) fv (.slice X2 (a.gs.length + b.gs.length) c2) (.slice X3 a.ss.length c3) wx) ∧ Hid (Below w1.heap.size w1 wx))
          case first =>
            go_wp2_with fail
            go_loopw [9, 59] (fun _ i wr => ∃ (k : Nat) (fv : Value), k ≤ b.fs.length ∧ i = .int .i64 (k : Int) ∧ Hid (AuN w1.heap.size G (a.st + b.st) a.le (upF a b k) (a.gs ++ b.gs) (upS a b 0) fv (.slice X2 (a.gs.length + b.gs.length) c2) (.slice X3 a.ss.length c3) wr) ∧ Hid (Below w1.heap.size w1 wr)) (fun _ i _ => b.fs.length - (intOf i).toNat)
            case atStart => exact ⟨0, _, Nat.zero_le _, rfl, HM0.out, HW2.out⟩
            case round =>
              obtain ⟨k, fv, hk, rfl, HM, HW⟩ := hrel
              by_cases hkN : k < b.fs.length
              · have q1 : (k : Int) < (b.fs.length : Int) := by omega
                obtain ⟨_, c0, c1, c2', c3', c4⟩ := HC1.out _ HW.out
                have hrd := (HRB.out _ HW.out).fs
                have hle := hrd.le
                obtain ⟨fb, fo, hD, _, _, x0⟩ := Ints.at_ hrd hkN
                have hx := HRF.out _ (List.getElem_mem hkN)
                have HUS := Lib.hid (upF_succ a b hkN)
                have hul := upF_len a b (Nat.le_of_lt hkN)
                obtain ⟨x, hxx⟩ : ∃ x, x = b.fs[k] := ⟨_, rfl⟩
                rw [← hxx] at x0 hx HUS
                obtain ⟨hx1, hx2⟩ := hx
                obtain ⟨g0, g1, g2, g3, g4, gf0, gf1, gf2, gf3, gf4⟩ := obj5 HM.out.obj
                obtain ⟨T, c', rfl, hlc, hcm, T3, c3'', w5, hrun, p2, f2, -, hAU, hBB⟩ := HM.out.appF (x + a.st) (by omega)
                rw [← HUS.out] at hAU
                have HAU := Lib.hid hAU
                have HBB := Lib.hid (HW.out.trans (hBB.mono (Nat.le_refl _)))
                have HX := Lib.hid hkN
                subst hD
                generalize (upF a b k).length = gn at *
                have HRUN : Hid ((Builtin.append_ #[24, 24] 24 #[.slice T gn c', .slice (some ⟨wr.heap.size, 0, none⟩) 1 1]).run Try.prog (wr.alloc (Obj.cells #[.int .i64 (x + a.st)] 3)) = .ok (.slice T3 (gn + 1) c3'') w5) := hrun
                clear hrd hxx hkN hrun hAU hBB g0 g1 g3 g4 gf0 gf1 gf2 gf3 gf4 c1 c2' c3' c4 hul HM
                go_wp2_with (at_builtin; refine wpList_appRun rfl (.tmp 64) (.tmp 69) _ _ rfl _ _ _ rfl rfl HRUN.out ?_)
                go_roundw
                case rel => exact ⟨k + 1, _, HX.out, by go_num, HAU.out, HBB.out⟩
                case measure => simp [intOf]; omega
              · have q1 : ¬ (k : Int) < (b.fs.length : Int) := by omega
                obtain rfl : k = b.fs.length := by omega
                go_wp2_with fail
                go_meet
                exact ⟨fv, HM.out, HW.out⟩
          case rest =>
            obtain ⟨fv, HM1, HW3⟩ := hcut
            clear HM0 HW2
            obtain ⟨_, d0, d1, d2, d3, d4⟩ := HC2.out _ HW3.out
            go_upto_block 2 with fail
            clear d0 d1 d2 d3 d4
            go_cut [] (fun wx => ∃ sv, Hid (AuN w1.heap.size G (a.st + b.st) a.le (upF a b b.fs.length) (a.gs ++ b.gs) (upS a b b.ss.length) fv (.slice X2 (a.gs.length + b.gs.length) c2) sv wx) ∧ Hid (Below w1.heap.size w1 wx))
            case first =>
              go_wp2_with fail
              go_loopw [11, 76] (fun _ i wr => ∃ (k : Nat) (sv : Value), k ≤ b.ss.length ∧ i = .int .i64 (k : Int) ∧ Hid (AuN w1.heap.size G (a.st + b.st) a.le (upF a b b.fs.length) (a.gs ++ b.gs) (upS a b k) fv (.slice X2 (a.gs.length + b.gs.length) c2) sv wr) ∧ Hid (Below w1.heap.size w1 wr)) (fun _ i _ => b.ss.length - (intOf i).toNat)
              case atStart => exact ⟨0, _, Nat.zero_le _, rfl, HM1.out, HW3.out⟩
              case round =>
                obtain ⟨k, sv, hk, rfl, HM, HW⟩ := hrel
                by_cases hkN : k < b.ss.length
                · have q1 : (k : Int) < (b.ss.length : Int) := by omega
                  have hrd := (HRB.out _ HW.out).ss
                  have hle := hrd.le
                  obtain ⟨fb, fo, hD, _, _, x0, x1, x2⟩ := Stps.at_ hrd hkN
                  obtain ⟨hx1, hx2, hx3⟩ := HRS.out _ (List.getElem_mem hkN)
                  have HUS := Lib.hid (upS_succ a b hkN)
                  have hul := upS_len a b (Nat.le_of_lt hkN)
                  obtain ⟨s, hxx⟩ : ∃ s, s = b.ss[k] := ⟨_, rfl⟩
                  rw [← hxx] at x0 x1 x2 hx1 hx2 hx3 HUS
                  obtain ⟨sf, sl, st⟩ := s
                  simp only at x0 x1 x2 hx1 hx2 hx3 HUS
                  obtain ⟨hf1, hf2⟩ := hx1
                  obtain ⟨ht1, ht2⟩ := hx2
                  have hba : Below wr.heap.size wr (wr.alloc (Obj.cells #[.int .i64 sf, .int .i64 sl, .int .i64 st] 90)) := (Below.refl _ _).alloc (Nat.le_refl _) _
                  have HM2 := Lib.hid (HM.out.on hba)
                  have HW2 := Lib.hid (Below_on HW.out hba HW.out.size)
                  have hS0 : (wr.alloc (Obj.cells #[.int .i64 sf, .int .i64 sl, .int .i64 st] 90)).cell? ⟨wr.heap.size, 0, none⟩ = some (.int .i64 sf) := by go_simp
                  have hS1 : (wr.alloc (Obj.cells #[.int .i64 sf, .int .i64 sl, .int .i64 st] 90)).cell? ⟨wr.heap.size, 1, none⟩ = some (.int .i64 sl) := by go_simp
                  have hS2 : (wr.alloc (Obj.cells #[.int .i64 sf, .int .i64 sl, .int .i64 st] 90)).cell? ⟨wr.heap.size, 2, none⟩ = some (.int .i64 st) := by go_simp
                  have HX := Lib.hid hkN
                  subst hD
                  clear hrd hxx hkN HM HW hba
                  go_upto_region 15 with fail
                  clear x0 x1 x2
                  obtain ⟨S, hSS⟩ : ∃ S, S = wr.heap.size := ⟨_, rfl⟩
                  rw [← hSS] at hS0 hS1 hS2 ⊢
                  generalize wr.alloc (Obj.cells #[.int .i64 sf, .int .i64 sl, .int .i64 st] 90) = W2 at *
                  obtain ⟨_, c0, c1, c2', c3', c4⟩ := HC1.out _ HW2.out
                  obtain ⟨g0, g1, g2, g3, g4, gf0, gf1, gf2, gf3, gf4⟩ := obj5 HM2.out.obj
                  obtain ⟨T, c', rfl, hlc, hcm, T3, c3'', w5, hrun, p2, f2, -, hAU, hBB⟩ := HM2.out.appS ⟨sf + a.st, sl, st + a.st⟩ (by omega)
                  rw [← HUS.out] at hAU
                  have HAU := Lib.hid hAU
                  have HBB := Lib.hid (HW2.out.trans (hBB.mono (Nat.le_refl _)))
                  generalize (upS a b k).length = gn at *
                  have HRUN : Hid ((Builtin.append_ #[47, 47] 47 #[.slice T gn c', .slice (some ⟨W2.heap.size, 0, none⟩) 1 1]).run Try.prog (W2.alloc (Obj.cells #[.int .i64 (sf + a.st), .int .i64 sl, .int .i64 (st + a.st)] 90)) = .ok (.slice T3 (gn + 1) c3'') w5) := hrun
                  clear hrun hAU hBB g0 g1 g2 g3 gf0 gf1 gf2 gf3 gf4 c1 c2' c3' c4 hul HM2 hSS
                  go_wp2_with (at_builtin; refine wpList_appRun rfl (.tmp 81) (.tmp 95) _ _ rfl _ _ _ rfl rfl HRUN.out ?_)
                  go_roundw
                  case rel => exact ⟨k + 1, _, HX.out, by go_num, HAU.out, HBB.out⟩
                  case measure => simp [intOf]; omega
                · have q1 : ¬ (k : Int) < (b.ss.length : Int) := by omega
                  obtain rfl : k = b.ss.length := by omega
                  go_wp2_with fail
                  go_meet
                  exact ⟨sv, HM.out, HW.out⟩
            case rest =>
              obtain ⟨sv, HM2, HW4⟩ := hcut
              clear HM1
              obtain ⟨A', B', C', ca', cb', cc', rfl, hgv, rfl, hrd⟩ := HM2.out.rd (by rw [upF_len a b (Nat.le_refl _)]; omega) (by rw [List.length_append]; have := HGL.out; omega) (by rw [upS_len a b (Nat.le_refl _)]; omega)
              simp only [Value.slice.injEq] at hgv
              obtain ⟨rfl, hgl, rfl⟩ := hgv
              obtain ⟨g0, g1, g2, g3, g4, gf0, gf1, gf2, gf3, gf4⟩ := obj5 HM2.out.obj
              have HB4 := Lib.hid (Below_on HB1.out HW4.out HB1.out.size)
              obtain ⟨r0, r1, r2, r3, r4, rf0, rf1, rf2, rf3, rf4⟩ := obj5 (HRW.out _ HB4.out)
              have HEQ : Hid ((⟨a.st + b.st, a.le, upF a b b.fs.length, a.gs ++ b.gs, upS a b b.ss.length⟩ : Au) = eitherOf a b) := by show _ = _; unfold upF upS eitherOf; rw [List.take_length, List.take_length]
              have hV2 : V + 2 < w1.heap.size := by have := HSZ.out; have := HB1.out.size; omega
              have HRD := Lib.hid hrd
              have HP : Hid (TnPost w (eitherV a b) (eiErr a b) (.returned (.tuple #[.agg #[.int .i64 (a.st + b.st), .int .i64 a.le, .slice A' (upF a b b.fs.length).length ca', .slice X2 (a.gs.length + b.gs.length) c2, .slice C' (upS a b b.ss.length).length cc'], .int .i64 0])) (set5 wc (V + 2) (.int .i64 (a.st + b.st)) (.int .i64 a.le) (.slice A' (upF a b b.fs.length).length ca') (.slice X2 (a.gs.length + b.gs.length) c2) (.slice C' (upS a b b.ss.length).length cc'))) := by
                rw [HZV.out.1, HZV.out.2, ← HEQ.out, hgl]
                exact ⟨A', X2, C', ca', c2, cc', rfl, (HRD.out.set5_ hV2 _ _ _ _ _).low (by have := HB1.out.size; have := HB0.out.size; omega), HBF.out _ HB4.out _ _ _ _ _⟩
              have HO1 := Lib.hid (HOO.out _ HB4.out (.int .i64 (a.st + b.st)) (.int .i64 a.le) (.slice A' (upF a b b.fs.length).length ca') (.slice X2 (a.gs.length + b.gs.length) c2) (.slice C' (upS a b b.ss.length).length cc'))
              clear hrd hgl hV2 HM2
              generalize (upF a b b.fs.length).length = n1 at *
              generalize (upS a b b.ss.length).length = n2 at *
              go_wp2_with fail
              exact bodyPost_ret (retAuX Try.results28 _ _ (V + 2) rfl rfl HO1.out) rfl HP.out
  · have hr1 : (rdErr a b != 0) = true := by simp [hr0]
    have HP := Lib.hid (HNUL.out _ HB1.out (rdErr a b) (by unfold eiErr; rw [if_neg hr0]) hr0)
    have HO1 := Lib.hid (HOO.out _ HB1.out (.int .i64 0) (.int .i64 0) (.slice none 0 0) (.slice none 0 0) (.slice none 0 0))
    clear hr0
    generalize rdErr a b = rd at *
    go_wp2_with fail
    exact bodyPost_ret (retAuX Try.results28 _ _ (V + 2) rfl rfl HO1.out) rfl HP.out
end Go.Proofs.Ytoglgeaiiipchaa
