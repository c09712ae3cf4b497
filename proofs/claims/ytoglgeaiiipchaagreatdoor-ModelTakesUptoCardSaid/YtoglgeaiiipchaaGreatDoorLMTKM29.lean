import Derived.Test.YtoglgeaiiipchaaGreatDoorLMTKM8
import Derived.Test.YtoglgeaiiipchaaGreatDoorLMTKM6
import Derived.Test.YtoglgeaiiipchaaGreatDoorLMTKM12
import Derived.Test.YtoglgeaiiipchaaGreatDoorLMTKM28
import Derived.Test.YtoglgeaiiipchaaGreatDoorLMTKM21
import Derived.Test.YtoglgeaiiipchaaGreatDoorLMTKM16
import Derived.Test.YtoglgeaiiipchaaGreatDoorLMTKM15
import Derived.Test.YtoglgeaiiipchaaGreatDoorLMTKM26
import Derived.Deep.CutBlock
import Derived.Deep.DeepCutAuto
set_option linter.unusedSimpArgs false
set_option linter.unusedVariables false
namespace Go.Proofs.YtoglgeaiiipchaaGreatDoor
structure FnM (a : Au) (fr : List Int) (dn : Int → Bool) (D : List (Int × Stp)) (q : List Int) (n : Nat) (op : Option Int) : Prop where
  by_ : ByOK a fr D
  qs : ∀ x ∈ q, x ∈ fr ∨ x ∈ D.map Prod.fst
  cl : ∀ x, (x ∈ fr ∨ x ∈ D.map Prod.fst) → x ∈ q ∨ op = some x ∨ ∀ s ∈ a.ss, s.f = x → s.t ∈ D.map Prod.fst
  no : ∀ x ∈ D.map Prod.fst, dn x = false
  few : q.length + (a.st.toNat - D.length) ≤ n
  op_ : ∀ x, op = some x → x ∈ fr ∨ x ∈ D.map Prod.fst
theorem FnM.start (a : Au) (fr : List Int) (dn : Int → Bool) : FnM a fr dn [] fr (a.st.toNat + fr.length) none :=
  ⟨ByOK.nil a fr, fun x h => .inl h, fun x h => .inl (h.elim id fun h => by simp at h), fun x h => by simp at h, by simp; omega, fun x h => by cases h⟩
theorem FnM.pop {a : Au} {fr : List Int} {dn : Int → Bool} {D : List (Int × Stp)} {x : Int} {q : List Int} {n : Nat} (h : FnM a fr dn D (x :: q) n none) : FnM a fr dn D q (n - 1) (some x) ∧ 0 < n := by
  have hf := h.few
  rw [List.length_cons] at hf
  refine ⟨⟨h.by_, fun y hy => h.qs y (List.mem_cons_of_mem _ hy), fun y hy => ?_, h.no, by omega, fun y hy => ?_⟩, by omega⟩
  · rcases h.cl y hy with h1 | h1 | h1
    · rcases List.mem_cons.1 h1 with rfl | h1
      · exact .inr (.inl rfl)
      · exact .inl h1
    · cases h1
    · exact .inr (.inr h1)
  · obtain rfl := Option.some.inj hy
    exact h.qs _ (List.mem_cons_self ..)
theorem FnM.open_in {a : Au} {fr : List Int} {dn : Int → Bool} {D : List (Int × Stp)} {x : Int} {q : List Int} {n : Nat} (h : FnM a fr dn D q n (some x)) {s : Stp} (hs : s ∈ a.ss) (hx : s.f = x) (hn : s.t ∉ D.map Prod.fst) : ByOK a fr (D ++ [(s.t, s)]) :=
  h.by_.add hs hn (by rw [hx]; exact h.op_ x rfl)
theorem FnM.add {a : Au} (hf : AuFit a) {fr : List Int} {dn : Int → Bool} {D : List (Int × Stp)} {x : Int} {q : List Int} {n : Nat} (h : FnM a fr dn D q n (some x)) {s : Stp} (hs : s ∈ a.ss) (hx : s.f = x) (hn : s.t ∉ D.map Prod.fst) (hd : dn s.t = false) :
    FnM a fr dn (D ++ [(s.t, s)]) (q ++ [s.t]) n (some x) := by
  have hb := h.open_in hs hx hn
  have hl := hb.len hf
  have hw := h.few
  have e : (D ++ [(s.t, s)]).map Prod.fst = D.map Prod.fst ++ [s.t] := by simp
  refine ⟨hb, fun y hy => ?_, fun y hy => ?_, fun y hy => ?_, ?_, fun y hy => ?_⟩
  · rw [e]
    rcases List.mem_append.1 hy with hy | hy
    · exact (h.qs y hy).imp id fun h => List.mem_append_left _ h
    · exact .inr (List.mem_append_right _ hy)
  · rw [e] at hy ⊢
    have : (y ∈ fr ∨ y ∈ D.map Prod.fst) ∨ y = s.t := by
      rcases hy with hy | hy
      · exact .inl (.inl hy)
      · rcases List.mem_append.1 hy with hy | hy
        · exact .inl (.inr hy)
        · exact .inr (by simpa using hy)
    rcases this with hy | rfl
    · rcases h.cl y hy with h1 | h1 | h1
      · exact .inl (List.mem_append_left _ h1)
      · exact .inr (.inl h1)
      · exact .inr (.inr fun t ht hty => List.mem_append_left _ (h1 t ht hty))
    · exact .inl (by simp)
  · rw [e] at hy
    rcases List.mem_append.1 hy with hy | hy
    · exact h.no y hy
    · rw [show y = s.t by simpa using hy]; exact hd
  · rw [List.length_append, List.length_append] at *
    simp only [List.length_cons, List.length_nil] at *
    omega
  · rw [e]
    exact (h.op_ y hy).imp id fun h => List.mem_append_left _ h
theorem FnM.shut {a : Au} {fr : List Int} {dn : Int → Bool} {D : List (Int × Stp)} {x : Int} {q : List Int} {n : Nat} (h : FnM a fr dn D q n (some x)) (hc : ∀ s ∈ a.ss, s.f = x → s.t ∈ D.map Prod.fst) : FnM a fr dn D q n none :=
  ⟨h.by_, h.qs, fun y hy => by
    rcases h.cl y hy with h1 | h1 | h1
    · exact .inl h1
    · obtain rfl := Option.some.inj h1
      exact .inr (.inr hc)
    · exact .inr (.inr h1), h.no, h.few, fun y hy => by cases hy⟩
theorem FnM.none_ {a : Au} {fr : List Int} {dn : Int → Bool} {D : List (Int × Stp)} {n : Nat} (h : FnM a fr dn D [] n none) {f y : Int} (hf : f ∈ fr) (hp : Plus (Edge a) f y) : dn y = false := by
  have cl : ∀ x, (x ∈ fr ∨ x ∈ D.map Prod.fst) → ∀ s ∈ a.ss, s.f = x → s.t ∈ D.map Prod.fst := fun x hx => by
    rcases h.cl x hx with h1 | h1 | h1
    · simp at h1
    · cases h1
    · exact h1
  have : ∀ z, Plus (Edge a) f z → z ∈ D.map Prod.fst := by
    intro z hz
    induction hz with
    | one he => obtain ⟨s, hs, h1, rfl⟩ := he; exact cl _ (.inl hf) s hs h1
    | on _ he ih => obtain ⟨s, hs, h1, rfl⟩ := he; exact cl _ (.inr ih) s hs h1
  exact h.no y (this y hp)
def FndS (a : Au) (fr : List Int) (dn : Int → Bool) (r : Int) (D : List (Int × Stp)) : Prop :=
  ByOK a fr D ∧ ((∃ D0 s, D = D0 ++ [(r, s)] ∧ dn r = true ∧ 0 ≤ r ∧ r < a.st) ∨ (r = -1 ∧ ∀ f ∈ fr, ∀ y, Plus (Edge a) f y → dn y = false))
theorem FndS.no {a : Au} {fr : List Int} {dn : Int → Bool} {D : List (Int × Stp)} {n : Nat} (h : FnM a fr dn D [] n none) : FndS a fr dn (-1) D := ⟨h.by_, .inr ⟨rfl, fun _ hf _ hp => h.none_ hf hp⟩⟩
theorem FndS.yes {a : Au} (hf : AuFit a) {fr : List Int} {dn : Int → Bool} {D : List (Int × Stp)} {x : Int} {q : List Int} {n : Nat} (h : FnM a fr dn D q n (some x)) {s : Stp} (hs : s ∈ a.ss) (hx : s.f = x) (hn : s.t ∉ D.map Prod.fst) (hd : dn s.t = true) : FndS a fr dn s.t (D ++ [(s.t, s)]) :=
  ⟨h.open_in hs hx hn, .inl ⟨D, s, rfl, hd, (hf.sr s hs).2.1⟩⟩
structure WayM (a : Au) (D : List (Int × Stp)) (tg : Int) (i : Nat) (out : List Int) : Prop where
  lt : i < D.length
  at_ : out = [] ∧ D[i].1 = tg ∨ Path a D[i].1 out.reverse tg
  few : out.length + i < D.length
theorem WayM.start {a : Au} {D : List (Int × Stp)} {tg : Int} {i : Nat} (h : i < D.length) (ht : D[i].1 = tg) : WayM a D tg i [] := ⟨h, .inl ⟨rfl, ht⟩, by simpa using h⟩
theorem WayM.path {a : Au} {fr : List Int} {D : List (Int × Stp)} {tg : Int} {i : Nat} {out : List Int} (hb : ByOK a fr D) (h : WayM a D tg i out) : Path a (D[i]'h.lt).2.f (out ++ [(D[i]'h.lt).2.l]).reverse tg := by
  have hl := h.lt
  obtain ⟨a1, a2, _⟩ := hb.by_ i hl
  have e : (out ++ [D[i].2.l]).reverse = D[i].2.l :: out.reverse := by simp
  rw [e]
  have hs : (⟨D[i].2.f, D[i].2.l, D[i].1⟩ : Stp) ∈ a.ss := by rw [← a2]; exact a1
  have ha := h.at_
  generalize D[i].1 = y at hs ha
  rcases ha with ⟨h0, rfl⟩ | h1
  · subst h0; exact .one hs
  · exact .cons hs h1
theorem WayM.step {a : Au} {fr : List Int} {D : List (Int × Stp)} {tg : Int} {i : Nat} {out : List Int} (hb : ByOK a fr D) (h : WayM a D tg i out) {first : Int → Bool} (hfr : ∀ x ∈ fr, first x = true) (hno : first (D[i]'h.lt).2.f = false) :
    ∃ j, j < i ∧ WayM a D tg j (out ++ [(D[i]'h.lt).2.l]) ∧ ∃ h' : j < D.length, D[j].1 = (D[i]'h.lt).2.f := by
  obtain ⟨j, j1, j2, j3⟩ := hb.back hfr h.lt hno
  have hp := h.path hb
  have := h.few
  exact ⟨j, j1, ⟨j2, .inr (by rw [j3]; exact hp), by rw [List.length_append]; simp; omega⟩, j2, j3⟩
theorem WayM.len {a : Au} {D : List (Int × Stp)} {tg : Int} {i : Nat} {out : List Int} (h : WayM a D tg i out) (x : Int) : (out ++ [x]).length ≤ D.length := by
  have := h.few
  rw [List.length_append]; simp; omega
def WayS (a : Au) (first : Int → Bool) (tg : Int) (N : Nat) (out : List Int) : Prop := (∃ f, first f = true ∧ Path a f out tg) ∧ out.length ≤ N
theorem WayM.out {a : Au} {fr : List Int} {D : List (Int × Stp)} {tg : Int} {i : Nat} {out : List Int} (hb : ByOK a fr D) (h : WayM a D tg i out) {first : Int → Bool} (hno : first (D[i]'h.lt).2.f = true) : WayS a first tg D.length (out ++ [(D[i]'h.lt).2.l]).reverse :=
  ⟨⟨_, hno, h.path hb⟩, by rw [List.length_reverse]; exact h.len _⟩
theorem Rch.plus {a : Au} {q : Int} (h : Rch a q) : q ∈ a.fs ∨ ∃ f ∈ a.fs, Plus (Edge a) f q := by
  induction h with
  | first h => exact .inl h
  | @step s _ hs ih =>
    rcases ih with h1 | ⟨f, hf, h1⟩
    · exact .inr ⟨_, h1, .one ⟨s, hs, rfl, rfl⟩⟩
    · exact .inr ⟨f, hf, h1.on ⟨s, hs, rfl, rfl⟩⟩
theorem none_takes {a : Au} (hf : AuFit a) (h : ∀ q : Int, 0 ≤ q → q < a.st → Rch a q → a.good q → ¬ Plus (Edge a) q q) (u : Nat → Int) : ¬ TakesU a u := fun ht => by
  obtain ⟨q, hq, h1, h2, h3⟩ := takes_some hf ht
  exact h q hq.1 hq.2 h1 h2 h3
theorem told_of {a : Au} (hf : AuFit a) {n : Int} (hg : a.good n) {loop head : List Int} {D1 : List (Int × Stp)} {fr1 : List Int} (h1 : ByOK a fr1 D1) (hl : WayS a (fun k => k == n) n D1.length loop)
    (hh : head = [] ∧ n ∈ a.fs ∨ ∃ fr2 D2, ByOK a fr2 D2 ∧ WayS a (fun k => decide (k ∈ a.fs)) n D2.length head) : Told a ⟨head, loop⟩ := by
  obtain ⟨⟨f, hfn, hp⟩, hll⟩ := hl
  obtain rfl : f = n := by simpa using hfn
  have l1 := h1.len hf
  refine ⟨⟨f, hg, ?_, hp⟩, ?_, by show (loop.length : Int) ≤ _; omega⟩
  · rcases hh with ⟨h2, h3⟩ | ⟨_, _, _, ⟨g, hg1, hg2⟩, _⟩
    · exact .inl ⟨h2, h3⟩
    · exact .inr ⟨g, by simpa using hg1, hg2⟩
  · show (head.length : Int) ≤ _
    rcases hh with ⟨h2, h3⟩ | ⟨_, D2, h4, _, h5⟩
    · rw [h2]; have := hf.st1; simp; omega
    · have := h4.len hf; omega
end Go.Proofs.YtoglgeaiiipchaaGreatDoor

namespace Go.Proofs.YtoglgeaiiipchaaGreatDoor
open Go Go.RowKit Go.Maps Go.Shelf
def stV (s : Stp) : Value := .agg #[.int .i64 s.f, .int .i64 s.l, .int .i64 s.t]
def stD (s : Stp) : DataW Unit := .agg [.lit (.int .i64 s.f), .lit (.int .i64 s.l), .lit (.int .i64 s.t)]
def stE (v : Value) : Option (DataW Unit × List MemPlace) :=
  match v with
  | .agg ⟨[.int .i64 f, .int .i64 l, .int .i64 t]⟩ => some (stD ⟨f, l, t⟩, [])
  | _ => none
theorem stE_mk (s : Stp) : stE (stV s) = some (stD s, []) := rfl
theorem stD_inj {s t : Stp} (h : stD s = stD t) : s = t := by
  obtain ⟨f, l, t'⟩ := s
  obtain ⟨f2, l2, t2⟩ := t
  simp [stD] at h
  obtain ⟨rfl, rfl, rfl⟩ := h
  rfl
theorem stE_some {v : Value} {z : DataW Unit × List MemPlace} (h : stE v = some z) : ∃ s, v = stV s ∧ z = (stD s, []) := by
  unfold stE at h
  split at h
  · rename_i f l t
    exact ⟨⟨f, l, t⟩, rfl, (Option.some.inj h).symm⟩
  · cases h
theorem stE_inv {v : Value} {s : Stp} {ps : List MemPlace} (h : stE v = some (stD s, ps)) : v = stV s := by
  obtain ⟨s', rfl, hz⟩ := stE_some h
  simp only [Prod.mk.injEq] at hz
  rw [stD_inj hz.1]
def byD (D : List (Int × Stp)) : DataW Unit := D.foldl (fun m p => m.put (.int .i64 p.1) (stD p.2)) (.map [])
theorem byD_snoc (D : List (Int × Stp)) (p : Int × Stp) : byD (D ++ [p]) = (byD D).put (.int .i64 p.1) (stD p.2) := by unfold byD; rw [List.foldl_append]; rfl
theorem byD_not (z : DataW Unit) {k : Int} : ∀ (D : List (Int × Stp)) (m : DataW Unit), k ∉ D.map Prod.fst → (D.foldl (fun m p => m.put (.int .i64 p.1) (stD p.2)) m).atKey (.int .i64 k) z = m.atKey (.int .i64 k) z
  | [], m, _ => rfl
  | p :: D, m, h => by
    rw [List.map_cons, List.mem_cons] at h
    rw [List.foldl_cons, byD_not z D _ (fun h' => h (.inr h')), atKey_put_other (fun e => h (.inl (by simpa using e)))]
theorem byD_in (z : DataW Unit) {k : Int} {s : Stp} : ∀ (D : List (Int × Stp)) (m : DataW Unit), IsMap m → (D.map Prod.fst).Nodup → (k, s) ∈ D → (D.foldl (fun m p => m.put (.int .i64 p.1) (stD p.2)) m).atKey (.int .i64 k) z = stD s
  | [], m, _, _, h => by cases h
  | p :: D, m, hm, hn, h => by
    rw [List.map_cons, List.nodup_cons] at hn
    rw [List.foldl_cons]
    rcases List.mem_cons.1 h with h1 | h1
    · subst h1
      rw [byD_not z D _ hn.1, atKey_put_same hm (show WideAt.IsKeyLit (.int .i64 k) from trivial)]
    · exact byD_in z D _ (hm.put _ _) hn.2 h1
def ByAt (W : World) (M : Nat) (D : List (Int × Stp)) : Prop := W.ownsMap Tryz.prog 3 stE M D.length (byD D)
theorem ByAt.made (w : World) : ByAt (w.alloc (.map #[] 0)) w.heap.size [] := World.ownsMap_made _ _ _ _
theorem ByAt.kept {W W' : World} {M : Nat} {D : List (Int × Stp)} {row : Option Nat} (h : ByAt W M D) (hg : W.grownBy W' row) (hr : some M ≠ row) : ByAt W' M D := World.ownsMap.kept h hg hr
theorem ByAt.on {W W' : World} {M : Nat} {D : List (Int × Stp)} (h : ByAt W M D) (hb : Below W.heap.size W W') : ByAt W' M D :=
  h.kept (row := none) ⟨hb.os, hb.tape, hb.output, hb.size, fun k hk _ => hb.block k hk⟩ (by simp)
theorem ByAt.lt {W : World} {M : Nat} {D : List (Int × Stp)} (h : ByAt W M D) : M < W.heap.size := World.ownsMap.lt h
theorem ByAt.block {W : World} {M : Nat} {D : List (Int × Stp)} (h : ByAt W M D) : ∃ es c, W.heap[M]? = some (.map es c) := by
  obtain ⟨es, c, h1, _⟩ := h
  exact ⟨es, c, h1⟩
theorem ByAt.step {W : World} {M : Nat} {D : List (Int × Stp)} {s : Stp} (h : W.ownsMap Tryz.prog 3 stE M (D.length + 1) ((byD D).put (.int .i64 s.t) (stD s))) : ByAt W M (D ++ [(s.t, s)]) := by
  unfold ByAt
  rw [byD_snoc, List.length_append]
  exact h
theorem zeroStp (w : World) : (zeroValue 80).run Tryz.prog w = .ok (stV ⟨0, 0, 0⟩) w := by kernel_rfl
theorem keyedInt : Keyed Tryz.prog 3 := int_keyed Tryz.underlying3
theorem keyInt {k : Int} (h : (Lit.int .i64 k).wf = true) : keyOf Tryz.prog 3 (.int .i64 k) = some (.int .i64 k) := keyOf_int_mk Tryz.underlying3 h
theorem ByAt.hit {W : World} {M : Nat} {D : List (Int × Stp)} (h : ByAt W M D) (hn : (D.map Prod.fst).Nodup) {k : Int} {s : Stp} (hk : (Lit.int .i64 k).wf = true) (hs : (k, s) ∈ D) :
    (Instr.lookup 159 (.map (some M)) (.int .i64 k) true).run Tryz.prog W = .ok (.tuple #[stV s, .bool true]) W := by
  obtain ⟨v, ps, hrun, hv⟩ := World.ownsMap.look_ok h keyedInt Tryz.underlying159 (zeroStp W) (stE_mk ⟨0, 0, 0⟩) (keyInt hk)
  rw [show (byD D).atKey (.int .i64 k) (stD ⟨0, 0, 0⟩) = stD s from byD_in _ D _ isMap_empty hn hs] at hv
  rw [hrun, stE_inv hv, has_true_of_atKey (D := byD D) (y := stD s) (fun z => byD_in z D _ isMap_empty hn hs)]
theorem ByAt.miss {W : World} {M : Nat} {D : List (Int × Stp)} (h : ByAt W M D) {k : Int} (hk : (Lit.int .i64 k).wf = true) (hm : k ∉ D.map Prod.fst) :
    (Instr.lookup 159 (.map (some M)) (.int .i64 k) true).run Tryz.prog W = .ok (.tuple #[stV ⟨0, 0, 0⟩, .bool false]) W := by
  obtain ⟨v, ps, hrun, hv⟩ := World.ownsMap.look_ok h keyedInt Tryz.underlying159 (zeroStp W) (stE_mk ⟨0, 0, 0⟩) (keyInt hk)
  rw [show (byD D).atKey (.int .i64 k) (stD ⟨0, 0, 0⟩) = stD ⟨0, 0, 0⟩ from byD_not _ D _ hm] at hv
  rw [hrun, stE_inv hv, has_false_of_atKey (D := byD D) (fun z => byD_not z D _ hm)]
theorem ByAt.get {W : World} {M : Nat} {D : List (Int × Stp)} (h : ByAt W M D) (hn : (D.map Prod.fst).Nodup) {k : Int} {s : Stp} (hk : (Lit.int .i64 k).wf = true) (hs : (k, s) ∈ D) :
    (Instr.lookup 159 (.map (some M)) (.int .i64 k) false).run Tryz.prog W = .ok (stV s) W := by
  obtain ⟨v, ps, hrun, hv⟩ := World.ownsMap.lookup h keyedInt Tryz.underlying159 (zeroStp W) (stE_mk ⟨0, 0, 0⟩) (keyInt hk)
  rw [show (byD D).atKey (.int .i64 k) (stD ⟨0, 0, 0⟩) = stD s from byD_in _ D _ isMap_empty hn hs] at hv
  rw [hrun, stE_inv hv]
theorem ByAt.put {W : World} {M : Nat} {D : List (Int × Stp)} (h : ByAt W M D) (hl : D.length ≤ 1000000) {s : Stp} (hk : (Lit.int .i64 s.t).wf = true) :
    ∃ W', (Instr.mapUpdate 159 (.map (some M)) (.int .i64 s.t) (stV s)).run Tryz.prog W = .ok () W' ∧ ByAt W' M (D ++ [(s.t, s)]) ∧ W.grownBy W' (some M) := by
  obtain ⟨W', h1, h2, h3⟩ := World.ownsMap.update h keyedInt Tryz.underlying159 (by unfold maxLen; omega) (keyInt hk) (stE_mk s)
  exact ⟨W', h1, ByAt.step h2, h3⟩
end Go.Proofs.YtoglgeaiiipchaaGreatDoor

namespace Go.Proofs.YtoglgeaiiipchaaGreatDoor
open Go Go.RowKit Go.Sort
def FbPost (w : World) (b : Bool) (e : Ending) (w' : World) : Prop := e = .returned (.bool b) ∧ w' = w
def IxPost (w : World) (xs : List Int) (x : Int) (e : Ending) (w' : World) : Prop := ∃ r : Int, e = .returned (.int .i64 r) ∧ (0 ≤ r ↔ x ∈ xs) ∧ w' = w
set_option maxRecDepth 100000 in
theorem Index_ (A : Option Addr) (c : Nat) (xs : List Int) (x : Int) (w : World) (h : Ints w 0 A c xs) : Calls Tryz.prog 125 #[.slice A xs.length c, .int .i64 x] w (IxPost w xs x) := by
  have hle := h.le
  have hcp := h.cap
  have HI := Lib.hid h
  clear h
  go_enter Tryz.func125, Tryz.ntmps125
  go_wp2_with fail
  go_loopw [5, 8] (fun _ v8 wr => ∃ k : Nat, k ≤ xs.length ∧ v8 = .int .i64 (k : Int) ∧ Hid (wr = w) ∧ Hid (x ∉ xs.take k)) (fun _ v8 _ => xs.length - (intOf v8).toNat)
  case atStart => exact ⟨0, Nat.zero_le _, rfl, rfl, by show _ ∉ _; simp⟩
  case round =>
    obtain ⟨k, hk, rfl, HW, HN⟩ := hrel
    obtain rfl := HW.out
    by_cases hkl : k < xs.length
    · have q1 : (k : Int) < (xs.length : Int) := by omega
      obtain ⟨b, o, rfl, _, _, y0⟩ := Ints.at_ HI.out hkl
      by_cases hx : x = xs[k]
      · have hx1 : (x == xs[k]) = true := by simp [hx]
        have HP : Hid (IxPost wr xs x (.returned (.int .i64 (k : Int))) wr) := ⟨k, rfl, ⟨fun _ => by rw [hx]; exact List.getElem_mem hkl, fun _ => by omega⟩, rfl⟩
        clear hx
        generalize xs[k] = y at *
        go_wp2_with fail
        go_ret
        exact HP.out
      · have hx1 : (x == xs[k]) = false := by simp [hx]
        have HN2 : Hid (x ∉ xs.take (k + 1)) := by
          show _ ∉ _
          rw [List.take_succ_eq_append_getElem hkl, List.mem_append, List.mem_singleton]
          rintro (h | h)
          · exact HN.out h
          · exact hx h
        have HX := Lib.hid hkl
        clear hx
        generalize xs[k] = y at *
        go_wp2_with fail
        go_roundw
        case rel => exact ⟨k + 1, HX.out, by go_num, trivial, HN2.out⟩
        case measure => simp [intOf]; have := HX.out; omega
    · have q1 : ¬ (k : Int) < (xs.length : Int) := by omega
      have HP : Hid (IxPost wr xs x (.returned (.int .i64 (-1))) wr) := ⟨-1, rfl, ⟨fun h => by omega, fun h => absurd h (by have := HN.out; rwa [List.take_of_length_le (by omega)] at this)⟩, rfl⟩
      go_wp2_with fail
      go_ret
      exact HP.out
theorem Contains_ (A : Option Addr) (c : Nat) (xs : List Int) (x : Int) (w : World) (h : Ints w 0 A c xs) : Calls Tryz.prog 78 #[.slice A xs.length c, .int .i64 x] w (FbPost w (decide (x ∈ xs))) := by
  have HI := Lib.hid (Index_ A c xs x w h)
  go_enter Tryz.func78, Tryz.ntmps78
  go_wp2_with fail
  refine HI.out.mono ?_
  rintro e w2 ⟨r, rfl, hr, rfl⟩
  have HP : Hid (FbPost w2 (decide (x ∈ xs)) (.returned (.bool (decide (0 ≤ r)))) w2) := ⟨by rw [decide_eq_decide.2 hr], rfl⟩
  clear hr
  go_wp2_with fail
  go_ret
  exact HP.out
theorem first_ (a : Au) (A B C : Option Addr) (ca cb cc V : Nat) (n : Int) (w : World) (hV : AuAt w V a A B C ca cb cc) (hf : Ints w 0 A ca a.fs) : Calls Tryz.prog 106 #[.int .i64 n, .pointer (some ⟨V, 0, none⟩)] w (FbPost w (decide (n ∈ a.fs))) := by
  have HC := Lib.hid (Contains_ A ca a.fs n w hf)
  obtain ⟨_, c0, c1, c2, c3, c4⟩ := hV
  clear hf
  go_enter Tryz.func106, Tryz.ntmps106
  go_wp2_with fail
  refine HC.out.mono ?_
  rintro e w2 ⟨rfl, rfl⟩
  clear c0 c1 c2 c3 c4 HC
  have HP : Hid (FbPost w2 (decide (n ∈ a.fs)) (.returned (.bool (decide (n ∈ a.fs)))) w2) := ⟨rfl, rfl⟩
  go_wp2_with fail
  go_ret
  exact HP.out
theorem is_ (n k : Int) (X : Nat) (w : World) (hX : w.cell? ⟨X, 0, none⟩ = some (.int .i64 n)) : Calls Tryz.prog 107 #[.int .i64 k, .pointer (some ⟨X, 0, none⟩)] w (FbPost w (k == n)) := by
  have HP : Hid (FbPost w (k == n) (.returned (.bool (k == n))) w) := ⟨rfl, rfl⟩
  generalize hb : (k == n) = b at *
  go_enter Tryz.func107, Tryz.ntmps107
  go_wp2_with fail
  go_ret
  exact HP.out
end Go.Proofs.YtoglgeaiiipchaaGreatDoor

namespace Go.Proofs.YtoglgeaiiipchaaGreatDoor
open Go Go.RowKit Go.Sort Go.Shelf
noncomputable def moSs (m : Mo) : List Stp := dd (sortS (moRaw m m.ls.length))
noncomputable def moA (m : Mo) : Au := moAu m (moSs m)
theorem moA_sort (m : Mo) : SortOf (moRaw m m.ls.length) (moSs m) := dd_sort _
def OfPost (a : Au) (w : World) (e : Ending) (w' : World) : Prop := ∃ A B C ca cb cc, e = .returned (.agg #[.int .i64 a.st, .int .i64 a.le, .slice A a.fs.length ca, .slice B a.gs.length cb, .slice C a.ss.length cc]) ∧ AuRd w' w.heap.size a A B C ca cb cc ∧ Below w.heap.size w w'
theorem brow_own {W : World} {B g n : Nat} {xs : List Bool} (h : BRow W g xs) (hB : B ≤ g) (hn : n = xs.length) (hl : n ≤ 1000000) : W.ownsRow B 4 1 (.slice (some ⟨g, 0, none⟩) n n) xs.length (xs.flatMap vbL) := by
  subst hn
  refine ⟨flatMap_len (sz := 1) (fun _ => rfl) xs, .inr ⟨g, xs.length, _, rfl, hB, h, Nat.le_refl _, by unfold maxLen; omega, by simp, ?_⟩⟩
  have : ∀ xs : List Bool, xs.flatMap vbL = xs.map Value.bool := by
    intro xs
    induction xs with
    | nil => rfl
    | cons x xs ih => rw [List.flatMap_cons, ih]; rfl
  rw [this xs, Nat.mul_one]
  exact List.take_of_length_le (by simp)
theorem moFs_succ (m : Mo) (k : Nat) : moFs m (k + 1) = if (k : Int) ∈ m.fs then moFs m k ++ [(k : Int)] else moFs m k := by
  unfold moFs
  rw [List.range_succ, List.filter_append, List.map_append]
  by_cases h : (k : Int) ∈ m.fs
  · rw [if_pos h]
    simp [h]
  · rw [if_neg h]
    simp [h]
theorem moFs_len (m : Mo) (k : Nat) : (moFs m k).length ≤ k := by
  unfold moFs
  rw [List.length_map]
  exact Nat.le_trans (List.length_filter_le _ _) (by rw [List.length_range]; exact Nat.le_refl _)
def moRow (m : Mo) (k : Nat) (r : List Int) : List Stp := r.map fun t => ⟨(k : Int), m.ls.getD k 0, t⟩
theorem moRaw_succ (m : Mo) (k : Nat) : moRaw m (k + 1) = moRaw m k ++ moRow m k (m.ss.getD k []) := by
  unfold moRaw moRow
  rw [List.range_succ, List.flatMap_append]
  simp
theorem moRaw_mono (m : Mo) {k n : Nat} (h : k ≤ n) : (moRaw m k).length ≤ (moRaw m n).length := by
  induction n with
  | zero => obtain rfl : k = 0 := by omega
            exact Nat.le_refl _
  | succ n ih =>
    rcases Nat.lt_or_ge n k with h1 | h1
    · obtain rfl : k = n + 1 := by omega
      exact Nat.le_refl _
    · rw [moRaw_succ, List.length_append]
      have := ih h1
      omega
theorem moRow_take (m : Mo) (k : Nat) (r : List Int) {j : Nat} (hj : j < r.length) : moRow m k (r.take (j + 1)) = moRow m k (r.take j) ++ [⟨(k : Int), m.ls.getD k 0, r[j]⟩] := by
  unfold moRow
  rw [List.take_succ_eq_append_getElem hj, List.map_append]
  rfl
theorem moRow_len (m : Mo) (k : Nat) (r : List Int) : (moRow m k r).length = r.length := List.length_map ..
set_option maxRecDepth 100000 in
set_option maxHeartbeats 8000000 in
theorem of_ (m : Mo) (hm : MoOK m) (hraw : (moRaw m m.ls.length).length ≤ 2000000) (A B C : Option Addr) (ca cb cc : Nat) (vs : List RwS) (w : World) (hr : MoRd w 0 m A B C ca cb cc vs) :
    Calls Tryz.prog 34 #[.agg #[.int .i64 m.pr, .slice A m.ls.length ca, .slice B m.fs.length cb, .slice C m.ss.length cc]] w (OfPost (moA m) w) := by
  have HW := moW_is w m A B C ca cb cc
  have hal : Below (moW w m A B C ca cb cc).heap.size (moW w m A B C ca cb cc) ((moW w m A B C ca cb cc).alloc (Obj.cells #[.int .i64 0, .int .i64 0, .slice none 0 0, .slice none 0 0, .slice none 0 0] 31)) := (Below.refl _ _).alloc (Nat.le_refl _) _
  have HT := Lib.hid (World.alloc_heap_new (moW w m A B C ca cb cc) (Obj.cells #[.int .i64 0, .int .i64 0, .slice none 0 0, .slice none 0 0, .slice none 0 0] 31))
  rw [HW.size] at HT
  have HB0 := Lib.hid (Below_on HW.below hal HW.below.size)
  have HV0 := Lib.hid (HW.at_.below hal HW.at_.lt)
  have HR := Lib.hid (fun W (hW : Below w.heap.size w W) => hr.below hW)
  have HM := Lib.hid hm
  have HRAW := Lib.hid hraw
  have l1 := hr.ls.le
  have l2 := hr.ls.max
  have l3 := hr.fs.le
  have l4 := hr.fs.max
  have l5 := hr.ss.le
  have l6 := hr.ss.max
  rw [hr.len] at l5 l6
  clear hr HW hal hm hraw
  go_enter Tryz.func34, Tryz.ntmps34
  go_upto_region 1 with fail
  change Code.wp _ _ _ _ ((moW w m A B C ca cb cc).alloc (Obj.cells #[.int .i64 0, .int .i64 0, .slice none 0 0, .slice none 0 0, .slice none 0 0] 31))
  generalize (moW w m A B C ca cb cc).alloc (Obj.cells #[.int .i64 0, .int .i64 0, .slice none 0 0, .slice none 0 0, .slice none 0 0] 31) = W0 at *
  obtain ⟨V, hV⟩ : ∃ V, V = w.heap.size := ⟨_, rfl⟩
  have HVV := Lib.hid hV
  rw [← hV] at HV0 HT ⊢
  clear hV
  obtain ⟨_, c0, c1, c2, c3⟩ := HV0.out
  go_upto_region 2 with fail
  have n0 : 1 ≤ m.ls.length := HM.out.n0
  have n12 : m.ls.length ≤ 12 := HM.out.n12
  go_wp2_with fail
  refine (RepeatB_ true W0.heap.size 0 1 m.ls.length _ (by go_simp) (by simp) n0 (by omega)).mono ?_
  rintro e w1 ⟨g, rfl, hgl, hg, hb1⟩
  obtain ⟨Bs, hBs⟩ : ∃ B, B = W0.heap.size := ⟨_, rfl⟩
  have hb01 : Below Bs W0 w1 := by
    rw [hBs]
    exact Below_on ((Below.refl _ _).alloc (Nat.le_refl _) _) hb1 (by simp)
  have hal : Below w1.heap.size w1 (w1.alloc (Obj.cells #[.int .i64 (m.ls.length : Int), .int .i64 8, .slice none 0 0, .slice (some ⟨g, 0, none⟩) m.ls.length m.ls.length, .slice none 0 0] 31)) := (Below.refl _ _).alloc (Nat.le_refl _) _
  have hrow : BRow w1 g (List.replicate m.ls.length true) := by unfold BRow; rw [List.map_replicate]; exact hg
  have hBg : Bs ≤ g := by simp at hgl; omega
  have hlo : Bs ≤ w1.heap.size := by rw [hBs]; exact hb01.size
  have HN : Hid (AuN Bs w1.heap.size (m.ls.length : Int) 8 (moFs m 0) (List.replicate m.ls.length true) (moRaw m 0) (.slice none 0 0) (.slice (some ⟨g, 0, none⟩) m.ls.length m.ls.length) (.slice none 0 0) (w1.alloc (Obj.cells #[.int .i64 (m.ls.length : Int), .int .i64 8, .slice none 0 0, .slice (some ⟨g, 0, none⟩) m.ls.length m.ls.length, .slice none 0 0] 31))) :=
    ⟨hlo, World.alloc_heap_new _ _, World.ownsRow_nil _ _ _ _, brow_own (hrow.below hal hrow.lt) hBg (by simp) (by omega), World.ownsRow_nil _ _ _ _⟩
  have HBA : Hid (Below Bs W0 (w1.alloc (Obj.cells #[.int .i64 (m.ls.length : Int), .int .i64 8, .slice none 0 0, .slice (some ⟨g, 0, none⟩) m.ls.length m.ls.length, .slice none 0 0] 31))) := Below_on hb01 hal hlo
  have HGV : Hid (Value.slice (some ⟨g, 0, none⟩) m.ls.length m.ls.length = Value.slice (some ⟨g, 0, none⟩) m.ls.length m.ls.length) := rfl
  have HW0 : Hid (Bs = W0.heap.size) := hBs
  clear hb1 hb01 hal hrow hg hgl hBs
  have HALL : Hid (∀ W, Below Bs W0 W → MoAt W V m A B C ca cb cc ∧ MoRd W 0 m A B C ca cb cc vs ∧ W.heap[V + 1]? = some (.cells #[.int .i64 0, .int .i64 0, .slice none 0 0, .slice none 0 0, .slice none 0 0] 31 (0, 0)) ∧ Below w.heap.size w W) := fun W hW => by
    rw [HW0.out] at hW
    exact ⟨HV0.out.below hW HV0.out.lt, (HR.out _ HB0.out).below hW, (hW.block _ (Array.getElem?_eq_some_iff.1 HT.out).1).trans HT.out, Below_on HB0.out hW HB0.out.size⟩
  clear c0 c1 c2 c3 HB0 HV0 HR
  go_upto_region 3 with fail
  obtain ⟨Y, hY⟩ : ∃ Y, Y = w1.heap.size := ⟨_, rfl⟩
  rw [← hY] at HN ⊢
  have HYB : Hid (Bs ≤ Y) := by rw [hY]; exact hlo
  clear hY hlo
  generalize w1.alloc (Obj.cells #[.int .i64 (m.ls.length : Int), .int .i64 8, .slice none 0 0, .slice (some ⟨g, 0, none⟩) m.ls.length m.ls.length, .slice none 0 0] 31) = W1 at *
  generalize hgv : Value.slice (some ⟨g, 0, none⟩) m.ls.length m.ls.length = gv at *
  have HGW := Lib.hid hgv
  clear hgv HGV
  go_wp2_with fail
  go_loopw [17] (fun i wr => ∃ k : Nat, k ≤ m.ls.length ∧ i = .int .i64 (k : Int) ∧ ∃ fv sv, Hid (AuN Bs Y (m.ls.length : Int) 8 (moFs m k) (List.replicate m.ls.length true) (moRaw m k) fv gv sv wr) ∧ Hid (Below Bs W0 wr)) (fun i _ => m.ls.length - (intOf i).toNat)
  case atStart => exact ⟨0, Nat.zero_le _, rfl, _, _, HN, HBA⟩
  case round =>
    clear HN HBA
    obtain ⟨k, hk, rfl, fv, sv, HN, HB⟩ := hrel
    obtain ⟨_, c0, c1, c2, c3⟩ := (HALL.out _ HB.out).1
    by_cases hkl : k < m.ls.length
    · have hk1 : (k : Int) < (m.ls.length : Int) := by omega
      have HCT := Lib.hid (Contains_ B cb m.fs (k : Int) wr (HALL.out _ HB.out).2.1.fs)
      have HKL := Lib.hid hkl
      go_upto_if 23 with (first
        | (go_at_call 78; refine HCT.out.mono ?_; rintro e w3 ⟨rfl, rfl⟩))
      clear c0 c1 c2 c3
      go_cut [] (fun wx => ∃ fv, Hid (AuN Bs Y (m.ls.length : Int) 8 (moFs m (k + 1)) (List.replicate m.ls.length true) (moRaw m k) fv gv sv wx) ∧ Hid (Below Bs W0 wx))
      case first =>
        by_cases hin : (k : Int) ∈ m.fs
        · have hd : decide ((k : Int) ∈ m.fs) = true := decide_eq_true hin
          rw [hd]
          obtain ⟨g0, g1, g2, g3, g4, gf0, gf1, gf2, gf3, gf4⟩ := obj5 HN.out.obj
          obtain ⟨T, c, rfl, hlc, hcm, T3, c3', w5, hrun, p4, f4, -, hAU, hBB⟩ := HN.out.appF (k : Int) (by have := moFs_len m k; omega)
          have HRUN := Lib.hid hrun
          rw [← show moFs m (k + 1) = moFs m k ++ [(k : Int)] by rw [moFs_succ, if_pos hin]] at hAU
          have HAU := Lib.hid hAU
          have HBB := Lib.hid (HB.out.trans hBB)
          clear hrun hAU hBB hin hd
          go_wp2_with (at_builtin; refine wpList_appRun rfl (.tmp 25) (.tmp 27) _ _ rfl _ _ _ rfl rfl HRUN.out ?_)
          go_meet
          exact ⟨_, HAU, HBB⟩
        · have hd : decide ((k : Int) ∈ m.fs) = false := decide_eq_false hin
          rw [hd]
          have HAU : Hid (AuN Bs Y (m.ls.length : Int) 8 (moFs m (k + 1)) (List.replicate m.ls.length true) (moRaw m k) fv gv sv w3) := by rw [moFs_succ, if_neg hin]; exact HN
          clear hin hd
          go_wp2_with fail
          go_meet
          exact ⟨_, HAU, HB⟩
      case rest =>
        obtain ⟨fv2, HN2, HB2⟩ := hcut
        generalize wc = w4 at *
        have HKS : Hid (k < m.ss.length) := by show _ < _; rw [HM.out.sl]; exact HKL.out
        have hks : (k : Int) < (m.ss.length : Int) := by have := HKS.out; omega
        obtain ⟨_, c0, c1, c2, c3⟩ := (HALL.out _ HB2.out).1
        obtain ⟨b, off, hC, _, _⟩ := (HALL.out _ HB2.out).2.1.at_ HKS.out
        subst hC
        obtain ⟨q, hi⟩ := (HALL.out _ HB2.out).2.1.rowAt HKS.out
        have HRA : Hid (∀ W, Below Bs W0 W → Ints W 0 (vs.getD k rw0).1 (vs.getD k rw0).2.2 (m.ss.getD k [])) := fun W hW => ((HALL.out _ hW).2.1.rowAt HKS.out).2
        have HSU := Lib.hid (moRaw_succ m k)
        have HLE : Hid ((moRaw m k).length + (m.ss.getD k []).length ≤ 2000000) := by
          have h1 := moRaw_mono m (show k + 1 ≤ m.ls.length from HKL.out)
          rw [moRaw_succ, List.length_append, moRow_len] at h1
          have := HRAW.out
          show _ ≤ _
          omega
        generalize m.ss.getD k [] = r at *
        generalize (vs.getD k rw0).1 = D at *
        generalize (vs.getD k rw0).2.2 = cd at *
        have r1 := hi.le
        have r2 := hi.max
        clear hi
        go_wp2_with fail
        clear q c0 c1 c2 c3 HN HB
        have HN3 : Hid (AuN Bs Y (m.ls.length : Int) 8 (moFs m (k + 1)) (List.replicate m.ls.length true) (moRaw m k ++ moRow m k (r.take 0)) fv2 gv sv w4) := by
          rw [List.take_zero]
          show AuN _ _ _ _ _ _ (moRaw m k ++ []) _ _ _ _
          rw [List.append_nil]
          exact HN2.out
        clear HN2
        go_loopw [36] (fun i wr => ∃ j : Nat, j ≤ r.length ∧ i = .int .i64 (j : Int) ∧ ∃ sv, Hid (AuN Bs Y (m.ls.length : Int) 8 (moFs m (k + 1)) (List.replicate m.ls.length true) (moRaw m k ++ moRow m k (r.take j)) fv2 gv sv wr) ∧ Hid (Below Bs W0 wr)) (fun i _ => r.length - (intOf i).toNat)
        case atStart => exact ⟨0, Nat.zero_le _, rfl, _, HN3, HB2⟩
        case round =>
          clear HN3 HB2
          obtain ⟨j, hj, rfl, sv2, HN4, HB4⟩ := hrel
          by_cases hjl : j < r.length
          · have hj1 : (j : Int) < (r.length : Int) := by omega
            obtain ⟨_, c0, c1, c2, c3⟩ := (HALL.out _ HB4.out).1
            obtain ⟨b2, o2, hDD, _, _, q2⟩ := Ints.at_ (HRA.out _ HB4.out) hjl
            subst hDD
            obtain ⟨b3, o3, hAA, _, _, q3⟩ := Ints.at_ (HALL.out _ HB4.out).2.1.ls HKL.out
            subst hAA
            have HTK := Lib.hid (moRow_take m k r hjl)
            have HG3 : Hid (m.ls.getD k 0 = m.ls[k]'HKL.out) := getD_lt HKL.out
            rw [HG3.out] at HTK
            generalize r[j] = tt at *
            generalize m.ls[k]'HKL.out = lb at *
            have HLL : Hid ((moRaw m k ++ moRow m k (r.take j)).length ≤ 1000000000) := by
              have h1 := HLE.out
              show _ ≤ _
              rw [List.length_append, moRow_len, List.length_take]
              omega
            have HT2 : Hid (moRaw m k ++ moRow m k (r.take (j + 1)) = (moRaw m k ++ moRow m k (r.take j)) ++ [⟨(k : Int), lb, tt⟩]) := by
              show _ = _
              rw [HTK.out, List.append_assoc]
            clear HTK
            generalize moRaw m k ++ moRow m k (r.take j) = L at *
            obtain ⟨g0, g1, g2, g3, g4, gf0, gf1, gf2, gf3, gf4⟩ := obj5 HN4.out.obj
            obtain ⟨T, c, rfl, hlc, hcm, T3, c3', w5, hrun, p4, f4, -, hAU, hBB⟩ := (HN4.out.on ((Below.refl _ _).drew)).appS ⟨(k : Int), lb, tt⟩ HLL.out
            have HRUN : Hid ((Builtin.append_ #[29, 29] 29 #[.slice T L.length c, .slice (some ⟨wr.heap.size, 0, none⟩) 1 1]).run Tryz.prog (wr.alloc (Obj.cells #[.int .i64 (k : Int), .int .i64 lb, .int .i64 tt] 80)).drew = .ok (.slice T3 (L.length + 1) c3') w5) := hrun
            rw [← HT2.out] at hAU
            have HAU := Lib.hid hAU
            have HBB := Lib.hid (HB4.out.drew.trans hBB)
            clear hrun hAU hBB
            have ga : (wr.alloc (Obj.cells #[.int .i64 (k : Int), .int .i64 lb, .int .i64 tt] 80)).cell? ⟨Y, 4, none⟩ = some (.slice T L.length c) := (obj5 (HN4.out.on ((Below.refl wr.heap.size wr).alloc (Nat.le_refl _) (Obj.cells #[.int .i64 (k : Int), .int .i64 lb, .int .i64 tt] 80))).obj).2.2.2.2.1
            go_wp2_with fail
            go_region_law ((refine step_appRun rfl (.tmp 41) (.tmp 50) _ _ rfl (.slice T L.length c) (.slice (some ⟨wr.heap.size, 0, none⟩) 1 1) (.slice T3 (L.length + 1) c3') (by go_simp) (by go_simp) HRUN.out ?_))
            all_goals
              go_wp2_with fail
              go_roundw
              case rel => exact ⟨j + 1, by omega, by go_num, _, HAU, HBB⟩
              case measure => simp [intOf]; omega
          · have hj1 : ¬ (j : Int) < (r.length : Int) := by omega
            have HN5 : Hid (AuN Bs Y (m.ls.length : Int) 8 (moFs m (k + 1)) (List.replicate m.ls.length true) (moRaw m (k + 1)) fv2 gv sv2 wr) := by
              rw [HSU.out, ← List.take_of_length_le (show r.length ≤ j by omega)]
              exact HN4.out
            go_wp2_with fail
            go_roundw
            case rel => exact ⟨k + 1, HKL.out, by go_num, _, _, HN5, HB4⟩
            case measure => simp [intOf]; have := HKL.out; omega
    · have hk1 : ¬ (k : Int) < (m.ls.length : Int) := by omega
      obtain rfl : k = m.ls.length := by omega
      have hrw := HRAW.out
      obtain ⟨rw_, hrwe⟩ : ∃ l, l = moRaw m m.ls.length := ⟨_, rfl⟩
      rw [← hrwe] at HN hrw
      have HRWE := Lib.hid hrwe
      obtain ⟨g0, g1, g2, g3, g4, gf0, gf1, gf2, gf3, gf4⟩ := obj5 HN.out.obj
      have HSC := Lib.hid (SortS_ wr Bs sv rw_ HN.out.s (by omega))
      clear hrwe
      go_upto_region 15 with (first
        | (go_at_call 79; refine HSC.out.mono ?_; rintro e ws ⟨rfl, hown, hgs⟩))
      have hBl : Bs ≤ wr.heap.size := by have := HN.out.lt; have := HYB.out; omega
      have HNs := Lib.hid (HN.out.reS hown hgs)
      have HBs : Hid (Below Bs W0 ws) := HB.out.grown hgs hBl (fun k hk => (HN.out.s.lt k hk).1)
      clear hown hgs g0 g1 g2 g3 g4 gf0 gf1 gf2 gf3 gf4 HSC c0 c1 c2 c3 hBl
      obtain ⟨g0, g1, g2, g3, g4, gf0, gf1, gf2, gf3, gf4⟩ := obj5 HNs.out.obj
      have HCC := Lib.hid (CompactS_ ws Bs sv (sortS rw_) HNs.out.s (by rw [sortS_len]; omega))
      go_wp2_with fail
      refine HCC.out.mono ?_
      rintro e wc ⟨vc, rfl, hown, hgs, hvb⟩
      obtain ⟨TC, cC, rfl, _, _, _⟩ := own_form hown
      obtain ⟨hNc, hob⟩ := HNs.out.putS2 hown hgs
      have hdl : (dd (sortS rw_)).length ≤ 2000000 := Nat.le_trans (ddTo_len _ _) (by rw [sortS_len]; exact hrw)
      obtain ⟨A', B', C', ca', cb', cc', rfl, hgv, hsv, hrd⟩ := hNc.rd (by have := moFs_len m m.ls.length; omega) (by simp; omega) (by omega)
      simp only [Value.slice.injEq] at hsv
      obtain ⟨rfl, _, rfl⟩ := hsv
      rw [List.length_replicate] at hgv
      subst hgv
      have hBs' : Bs ≤ ws.heap.size := by have := HNs.out.lt; have := HYB.out; omega
      have HBc : Hid (Below Bs W0 (wc.setCell ⟨Y, 4, none⟩ (.slice TC (dd (sortS rw_)).length cC))) := (HBs.out.grown hgs hBs' (fun k hk => (HNs.out.s.lt k hk).1)).setCell (p := ⟨Y, 4, none⟩) HYB.out _
      have hres := (HALL.out _ HBc.out).2.2.1
      have hbw := (HALL.out _ HBc.out).2.2.2
      have hV1 : V + 1 < Bs := by rw [HW0.out]; exact (Array.getElem?_eq_some_iff.1 HT.out).1
      obtain ⟨e0, e1, e2, e3, e4, e5, e6, e7, e8, e9⟩ := obj5 hob
      have HYO := Lib.hid hNc.obj
      have HRS := Lib.hid hres
      have hmo : (⟨(m.ls.length : Int), 8, moFs m m.ls.length, List.replicate m.ls.length true, dd (sortS rw_)⟩ : Au) = moA m := by
        unfold moA moAu moSs
        rw [HRWE.out]
      rw [hmo] at hrd
      have hl2 : (dd (sortS rw_)).length = (moA m).ss.length := by rw [← hmo]
      have HFI : Hid (OfPost (moA m) w (.returned (.agg #[.int .i64 (m.ls.length : Int), .int .i64 8, .slice A' (moFs m m.ls.length).length ca', .slice B' m.ls.length cb', .slice TC (dd (sortS rw_)).length cC])) (set5 (wc.setCell ⟨Y, 4, none⟩ (.slice TC (dd (sortS rw_)).length cC)) (V + 1) (.int .i64 (m.ls.length : Int)) (.int .i64 8) (.slice A' (moFs m m.ls.length).length ca') (.slice B' m.ls.length cb') (.slice TC (dd (sortS rw_)).length cC))) := by
        refine ⟨A', B', TC, ca', cb', cC, ?_, (hrd.set5_ hV1 _ _ _ _ _).low (by rw [← HVV.out]; omega), below_set5 hbw (by rw [HVV.out]; omega) _ _ _ _ _⟩
        have hgl : (moA m).gs.length = m.ls.length := List.length_replicate
        have e1 : Value.slice B' m.ls.length cb' = .slice B' (moA m).gs.length cb' := by rw [hgl]
        rw [hl2, e1]
        rfl
      have HO1 := Lib.hid (set5_heap hres (.int .i64 (m.ls.length : Int)) (.int .i64 8) (.slice A' (moFs m m.ls.length).length ca') (.slice B' m.ls.length cb') (.slice TC (dd (sortS rw_)).length cC))
      clear hown hgs hrd hmo hl2 hres hbw hNc hob hdl hrw hvb HNs HBs HCC HBc HN HB g0 g1 g2 g3 g4 gf0 gf1 gf2 gf3 gf4
      go_upto_region 16 with fail
      generalize wc.setCell ⟨Y, 4, none⟩ (.slice TC (dd (sortS rw_)).length cC) = w9 at *
      obtain ⟨n0', n1, n2, n3, n4, _⟩ := obj5 HYO.out
      obtain ⟨s0, s1, s2, s3, s4, t0, t1, t2, t3, t4⟩ := obj5 HRS.out
      clear e0 e1 e2 e3 e4 e5 e6 e7 e8 e9
      unfold set5 at HFI HO1
      generalize (moFs m m.ls.length).length = nf at *
      generalize (dd (sortS rw_)).length = nd at *
      go_wp2_with fail
      exact bodyPost_ret (retA1 Tryz.results34 _ _ (V + 1) rfl HO1.out) rfl HFI.out
end Go.Proofs.YtoglgeaiiipchaaGreatDoor

namespace Go.Proofs.YtoglgeaiiipchaaGreatDoor
def cntL (ss : List Stp) (c : Int) : Nat := ss.countP fun s => decide (s.l = c)
theorem cntL_cons (s : Stp) (ss : List Stp) (c : Int) : cntL (s :: ss) c = cntL ss c + if s.l = c then 1 else 0 := by
  unfold cntL
  rw [List.countP_cons]
  simp
theorem cntL_le (ss : List Stp) (c : Int) : cntL ss c ≤ ss.length := List.countP_le_length
def stepsN (a b : Au) : Nat := (a.ss.map fun s => 3 * cntL b.ss s.l).sum
end Go.Proofs.YtoglgeaiiipchaaGreatDoor
