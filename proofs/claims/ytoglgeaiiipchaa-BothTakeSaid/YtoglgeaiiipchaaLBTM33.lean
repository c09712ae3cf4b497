/- Walks: both.Word: what it keeps, and what its searches answer. -/
import Derived.Test.YtoglgeaiiipchaaShelf
import Derived.Test.YtoglgeaiiipchaaLBTM15
import Derived.Test.YtoglgeaiiipchaaLBTM31
import Derived.Deep.LoopGhost
import Derived.Deep.CutBlock
import Derived.Test.YtoglgeaiiipchaaLBTM7
import Derived.Test.YtoglgeaiiipchaaLBTM32
set_option linter.unusedSimpArgs false
set_option linter.unusedVariables false
namespace Go.Proofs.Ytoglgeaiiipchaa
open Go Go.RowKit Go.Sort

theorem intsFlat (l : List Int) : (l.flatMap fun n : Int => [Value.int .i64 n]) = l.map (Value.int .i64) := by
  induction l with
  | nil => rfl
  | cons x l ih => rw [List.flatMap_cons, ih]; rfl
theorem IntOwn.holds {W : World} {lo g n cap : Nat} {xs : List Int} (h : IntOwn W lo (.slice (some ⟨g, 0, none⟩) n cap) xs) : Holds (Value.int .i64) W g 0 xs.toArray := by
  intro j hj
  obtain ⟨h1, h2⟩ := h
  rcases h2 with ⟨h2, _⟩ | ⟨g', cap', cur, hv, hg, hh, hn, hc, hs, ht⟩
  · cases h2
  · obtain ⟨rfl, rfl, rfl⟩ : g = g' ∧ n = xs.length ∧ cap = cap' := by simpa using hv
    rw [intsFlat] at ht
    have hj' : j < xs.length := by simpa using hj
    have h3 : cur[j]? = some (.int .i64 xs[j]) := by
      have h4 : (cur.toList.take (xs.length * 1))[j]? = some (.int .i64 xs[j]) := by rw [ht, List.getElem?_map, List.getElem?_eq_getElem hj']; rfl
      rw [List.getElem?_take, if_pos (by omega)] at h4
      simpa using h4
    have e : (xs.toArray)[j]! = xs[j] := by simp [hj']
    rw [Nat.zero_add, e]
    exact ⟨by simp only [World.cell?, hh]; simpa using h3, by simp [World.frozen?, hh]⟩
def RvPost (W : World) (lo : Nat) (v : Value) (xs : List Int) (e : Ending) (w' : World) : Prop := e = .returned (.tuple #[]) ∧ IntOwn w' lo v xs.reverse ∧ W.grownBy w' v.ownBlock
theorem Reverse_ (W : World) (lo g n cap : Nat) (xs : List Int) (h : IntOwn W lo (.slice (some ⟨g, 0, none⟩) n cap) xs) (hl : xs.length ≤ 1000000000) :
    Calls Try.prog 132 #[.slice (some ⟨g, 0, none⟩) n cap] W (RvPost W lo (.slice (some ⟨g, 0, none⟩) n cap) xs) := by
  have hH := h.holds
  obtain ⟨h1, h2⟩ := h
  rcases h2 with ⟨h2, _⟩ | ⟨g', cap', cur, hv, hg, hh, hn, hc, hs, ht⟩
  · cases h2
  obtain ⟨rfl, rfl, rfl⟩ : g = g' ∧ n = xs.length ∧ cap = cap' := by simpa using hv
  have := Try.slices_Reverse_int g 0 cap xs W hH (by omega)
  change Calls Try.prog 132 _ _ _ at this
  refine this.mono ?_
  rintro e w' ⟨rfl, q, rfl⟩
  have hlt : g < W.heap.size := (Array.getElem?_eq_some_iff.1 hh).1
  have hb : ∀ k, (putRow (Value.int .i64) (Sort.ahead W q) g 0 xs.reverse.toArray).heap[k]? = if k = g then some (.cells (putCells (Value.int .i64) 0 xs.reverse.toArray cur) 3 (0, 0)) else W.heap[k]? := by
    intro k
    show ((W.heap.modify g (onCells (putCells (Value.int .i64) 0 xs.reverse.toArray))))[k]? = _
    rw [Array.getElem?_modify]
    by_cases e : g = k
    · subst e; rw [if_pos rfl, if_pos rfl, hh]; rfl
    · rw [if_neg e, if_neg (fun x => e x.symm)]
  refine ⟨rfl, ⟨by rw [intsFlat]; simp, .inr ⟨g, cap, _, by simp, hg, by rw [hb, if_pos rfl], by simpa using hn, hc, by simp [putCells]; omega, ?_⟩⟩, ⟨rfl, rfl, rfl, Nat.le_of_eq (by show W.heap.size = (W.heap.modify g _).size; simp), fun k hk hne => by rw [hb, if_neg (fun e => hne (by rw [e]; rfl))]⟩⟩
  rw [intsFlat]
  refine List.ext_getElem (by simp [putCells]; omega) fun i i1 i2 => ?_
  have hi : i < xs.length := by simpa using i2
  rw [List.getElem_take]
  simp only [putCells, Array.getElem_toList, Array.getElem_mapIdx]
  rw [if_pos ⟨Nat.zero_le _, by simp; omega⟩, Nat.sub_zero, List.getElem_map]
  have : i < xs.reverse.toArray.size := by simpa using hi
  rw [getElem!_pos xs.reverse.toArray i this]
  simp
end Go.Proofs.Ytoglgeaiiipchaa

namespace Go.Proofs.Ytoglgeaiiipchaa
open Go Go.RowKit Go.Maps Go.Shelf

def WayPost (w : World) (a : Au) (first : Int → Bool) (tg : Int) (N : Nat) (e : Ending) (w' : World) : Prop := ∃ v ls, e = .returned v ∧ IntOwn w' w.heap.size v ls ∧ WayS a first tg N ls ∧ Below w.heap.size w w'
set_option maxRecDepth 100000 in
set_option maxHeartbeats 4000000 in
theorem way_ (a : Au) (hf : AuFit a) (hst : a.st ≤ 1000000) (D : List (Int × Stp)) (fr : List Int) (hb : ByOK a fr D) (Fd M X : Nat) (fi : FuncId) (first : Int → Bool) (hfr : ∀ x ∈ fr, first x = true) (i : Nat) (hi : i < D.length) (w : World) (hFl : Fd < w.heap.size) (hF1 : w.cell? ⟨Fd, 1, none⟩ = some (.map (some M))) (hM : ByAt w M D)
    (hen : ∀ args w, (callFunc fi args).run Try.prog w = .ok (.enter fi args) w)
    (hfn : ∀ W k, Below w.heap.size w W → Calls Try.prog fi #[.int .i64 k, .pointer (some ⟨X, 0, none⟩)] W (FbPost W (first k))) :
    Calls Try.prog 118 #[.pointer (some ⟨Fd, 0, none⟩), .int .i64 D[i].1, .func (.func fi) #[] #[.pointer (some ⟨X, 0, none⟩)]] w (WayPost w a first D[i].1 D.length) := by
  have HB := Lib.hid hb
  have HFN := Lib.hid hfn
  have HM := Lib.hid hM
  have HW0 := Lib.hid (WayM.start (a := a) hi (rfl : D[i].1 = D[i].1))
  have HDL : Hid (D.length ≤ 1000000) := by have := hb.len hf; show _ ≤ _; omega
  have HFR := Lib.hid hfr
  have HWF : Hid (∀ j (h : j < D.length), (Lit.int .i64 D[j].1).wf = true) := fun j h => by
    obtain ⟨a1, a2, _⟩ := hb.by_ j h
    have := (hf.sr _ a1).2.1
    rw [a2] at this
    exact WalkArith.wf_i64 (by omega)
  obtain ⟨tg, htg⟩ : ∃ t, t = D[i].1 := ⟨_, rfl⟩
  rw [← htg] at HW0
  have HTG := Lib.hid htg
  rw [← htg]
  clear htg
  clear hb hfn hM hf hfr
  go_enter Try.func118, Try.ntmps118
  go_wp2_with fail
  go_loopg [1, 7] i (fun j v1 v7 wr => ∃ (hj : j < D.length) (out : List Int), v1 = .int .i64 (D[j]'hj).1 ∧ Hid (WayM a D tg j out) ∧ Hid (IntOwn wr w.heap.size v7 out) ∧ Hid (Below w.heap.size w wr))
  case atStart => exact ⟨hi, [], by rw [HTG.out], HW0.out, World.ownsRow_nil _ _ _ _, Below.refl _ _⟩
  case round =>
    obtain ⟨hj, out, rfl, HWM, HOW, HBW⟩ := hrel
    have hkw := HWF.out gk hj
    have hmem : D[gk] ∈ D := List.getElem_mem hj
    have hdk : D[gk].2.t = D[gk].1 := (HB.out.by_ gk hj).2.1
    have HPATH := Lib.hid (HWM.out.path HB.out)
    have HSTEP := Lib.hid (fun hno => HWM.out.step HB.out HFR.out hno)
    have HOUT := Lib.hid (fun hno => HWM.out.out HB.out (first := first) hno)
    have HLN := Lib.hid (HWM.out.len D[gk].2.l)
    revert HSTEP HOUT HLN HPATH hkw hmem hdk
    generalize D[gk] = p
    obtain ⟨ky, s⟩ := p
    intro hkw hmem hdk HPATH HSTEP HOUT HLN
    simp only at hkw hmem hdk HPATH HSTEP HOUT HLN ⊢
    have hget := ByAt.get (HM.out.on HBW.out) HB.out.nd hkw hmem
    unfold stV at hget
    have cF := (HBW.out.cell (p := ⟨Fd, 1, none⟩) hFl).trans hF1
    obtain ⟨oA, oc, rfl, ho1, ho2, _⟩ := own_form HOW.out
    have hba : Below wr.heap.size wr (wr.alloc (Obj.cells #[.int .i64 s.f, .int .i64 s.l, .int .i64 s.t] 90)) := (Below.refl _ _).alloc (Nat.le_refl _) _
    have hs0 : (wr.alloc (Obj.cells #[.int .i64 s.f, .int .i64 s.l, .int .i64 s.t] 90)).cell? ⟨wr.heap.size, 0, none⟩ = some (.int .i64 s.f) := by go_simp
    have hs1 : (wr.alloc (Obj.cells #[.int .i64 s.f, .int .i64 s.l, .int .i64 s.t] 90)).cell? ⟨wr.heap.size, 1, none⟩ = some (.int .i64 s.l) := by go_simp
    have hsl : wr.heap.size < (wr.alloc (Obj.cells #[.int .i64 s.f, .int .i64 s.l, .int .i64 s.t] 90)).heap.size := by simp
    have hSo : (wr.alloc (Obj.cells #[.int .i64 s.f, .int .i64 s.l, .int .i64 s.t] 90)).heap[wr.heap.size]? = some (Obj.cells #[.int .i64 s.f, .int .i64 s.l, .int .i64 s.t] 90) := World.alloc_heap_new _ _
    have HO2 : Hid (IntOwn (wr.alloc (Obj.cells #[.int .i64 s.f, .int .i64 s.l, .int .i64 s.t] 90)) w.heap.size (.slice oA out.length oc) out) := own_below HOW.out hba
    have HB2 := Lib.hid (Below_on HBW.out hba HBW.out.size)
    clear hba hmem hdk
    go_upto_region 3 with fail
    clear cF hget
    obtain ⟨S, hS⟩ : ∃ S, S = wr.heap.size := ⟨_, rfl⟩
    rw [← hS] at hs0 hs1 hsl hSo ⊢
    clear hS
    generalize wr.alloc (Obj.cells #[.int .i64 s.f, .int .i64 s.l, .int .i64 s.t] 90) = W2 at *
    have hal : Below W2.heap.size W2 (W2.alloc (Obj.cells #[.int .i64 s.l] 3)) := (Below.refl _ _).alloc (Nat.le_refl _) _
    obtain ⟨v3, W3, hrun, hown3, hg3, hat3⟩ := run_append_int (lo := w.heap.size) (v := .slice oA out.length oc) (xs := out) (y := s.l) (B := W2.heap.size) 24 (own_below HO2.out hal) (World.alloc_heap_new W2 _) (by have h1 := HWM.out.few; have := HDL.out; omega) (Nat.le_trans HB2.out.size hal.size)
    have HRUN := Lib.hid hrun
    have HOW3 := Lib.hid hown3
    have HB3 : Hid (Below w.heap.size w W3) := (Below_on HB2.out hal HB2.out.size).grown hg3 (Nat.le_trans HB2.out.size hal.size) (fun k hk => (HO2.out.lt k hk).1)
    have hne := own_ty HO2.out hSo (by decide)
    have hs03 : W3.cell? ⟨S, 0, none⟩ = some (.int .i64 s.f) := (cell_of_heap ((hg3.block S (Nat.lt_of_lt_of_le hsl hal.size) (fun e => hne e.symm)).trans (hal.block S hsl)) 0).trans hs0
    obtain ⟨gA, gc, rfl⟩ := ownsRow_succ (k := out.length) (by have := hown3; unfold IntOwn at this; rw [List.length_append] at this; exact this)
    clear hrun hown3 hg3 hat3 hal hne hSo
    go_wp2_with (at_builtin; refine wpList_appRun rfl (.tmp 15) (.tmp 18) _ _ rfl _ _ _ rfl rfl HRUN.out ?_)
    refine (HFN.out W3 s.f HB3.out).mono ?_
    rintro e w4 ⟨rfl, rfl⟩
    have HLQ : Hid ((out ++ [s.l]).length = out.length + 1) := by show _ = _; simp
    cases hfs : first s.f with
    | true =>
      have HW := Lib.hid (HOUT.out hfs)
      have HRV := Lib.hid (Reverse_ w4 w.heap.size gA (out.length + 1) gc (out ++ [s.l]) HOW3.out (by have := HLN.out; have := HDL.out; omega))
      clear hfs
      go_wp2_with fail
      refine HRV.out.mono ?_
      rintro e w5 ⟨rfl, hown5, hg5⟩
      have HP : Hid (WayPost w a first tg D.length (.returned (.slice (some ⟨gA, 0, none⟩) (out.length + 1) gc)) w5) := ⟨_, _, rfl, hown5, HW.out, HB3.out.grown hg5 HB3.out.size (fun k hk => (HOW3.out.lt k hk).1)⟩
      clear hown5 hg5
      go_wp2_with fail
      go_ret
      exact HP.out
    | false =>
      obtain ⟨j, hj1, hj2, hj3, hj4⟩ := HSTEP.out hfs
      have HW := Lib.hid hj2
      have HJ := Lib.hid hj4
      clear hfs hj2 hj4
      go_wp2_with fail
      go_roundg j
      case rel => exact ⟨hj3, _, by rw [HJ.out], HW.out, HOW3.out, HB3.out⟩
      case measure => omega
end Go.Proofs.Ytoglgeaiiipchaa

namespace Go.Proofs.Ytoglgeaiiipchaa
open Go Go.RowKit Go.Maps Go.Shelf

theorem AuFit.rng {a : Au} (h : AuFit a) : AuR a := ⟨h.st1, h.fr, h.fo, h.sr⟩
structure WdPost (w : World) (a : Au) (e : Ending) (w' : World) : Prop where
  is : ∃ (H L : Option Addr) (ch cl : Nat) (hl ll : List Int) (b : Bool), e = .returned (.tuple #[.agg #[.slice H hl.length ch, .slice L ll.length cl], .bool b]) ∧ Ints w' w.heap.size H ch hl ∧ Ints w' w.heap.size L cl ll ∧ (if b = true then Told a ⟨hl, ll⟩ else hl = [] ∧ ll = [] ∧ ∀ u, ¬ TakesU a u)
  below : Below w.heap.size w w'
/-- between two rounds -/
structure WdC (a : Au) (A B C : Option Addr) (ca cb cc : Nat) (w : World) (V VA Fd G : Nat) (out : List Bool) (W : World) : Prop where
  below : Below w.heap.size w W
  at_ : AuAt W V a A B C ca cb cc
  res : W.heap[V + 1]? = some (.cells #[.slice none 0 0, .slice none 0 0] 26 (0, 0))
  row : BRow W G out
  va : AuAt W VA a A B C ca cb cc
  fd : ∃ byv, W.heap[Fd]? = some (.cells #[.func (.func 84) #[] #[.pointer (some ⟨VA, 0, none⟩)], byv] 167 (0, 0))
theorem WdC.on {a : Au} {A B C : Option Addr} {ca cb cc V VA Fd G : Nat} {out : List Bool} {w W W' : World} (h : WdC a A B C ca cb cc w V VA Fd G out W) (hb : Below W.heap.size W W') : WdC a A B C ca cb cc w V VA Fd G out W' := by
  obtain ⟨byv, hf⟩ := h.fd
  exact ⟨Below_on h.below hb h.below.size, h.at_.below hb h.at_.lt, (hb.block _ (Array.getElem?_eq_some_iff.1 h.res).1).trans h.res, h.row.below hb h.row.lt, h.va.below hb h.va.lt, byv, (hb.block _ (Array.getElem?_eq_some_iff.1 hf).1).trans hf⟩
theorem retLa {fn : Func} (h : fn.results = #[.cell 2 26, .tmp 3]) (tmps : Array Value) (w : World) (V : Nat) {v0 v1 x : Value} (hp : tmps[2]? = some (.pointer (some ⟨V, 0, none⟩))) (hx : tmps[3]? = some x)
    (ho : w.heap[V]? = some (.cells #[v0, v1] 26 (0, 0))) : (results fn tmps).run Try.prog w = .ok (.tuple #[.agg #[v0, v1], x]) w := by
  have r0 : w.cell? ⟨V, 0, none⟩ = some v0 := by simp [World.cell?, ho]
  have r1 : w.cell? ⟨V, 1, none⟩ = some v1 := by simp [World.cell?, ho]
  simp [results, h, go_sem, hp, hx, r0, r1]
def set2 (w : World) (V : Nat) (v0 v1 : Value) : World := (w.setCell ⟨V, 0, none⟩ v0).setCell ⟨V, 1, none⟩ v1
theorem set2_heap {w : World} {V : Nat} {u0 u1 : Value} {t : TypeId} (h : w.heap[V]? = some (.cells #[u0, u1] t (0, 0))) (v0 v1 : Value) : (set2 w V v0 v1).heap[V]? = some (.cells #[v0, v1] t (0, 0)) := by
  simp [set2, World.setCell, Array.getElem?_modify, h]
theorem set2_far (w : World) (V : Nat) (v0 v1 : Value) {k : Nat} (hk : k ≠ V) : (set2 w V v0 v1).heap[k]? = w.heap[k]? := by
  unfold set2
  rw [Below.heap_setCell _ ⟨V, 1, none⟩ _ _ hk, Below.heap_setCell _ ⟨V, 0, none⟩ _ _ hk]
theorem below_set2 {B V : Nat} {a w : World} (h : Below B a w) (hV : B ≤ V) (v0 v1 : Value) : Below B a (set2 w V v0 v1) := (h.setCell (p := ⟨V, 0, none⟩) hV _).setCell (p := ⟨V, 1, none⟩) hV _
/-- behind a search -/
theorem WdC.find {a : Au} {A B C : Option Addr} {ca cb cc V VA Fd G : Nat} {out : List Bool} {w W W' : World} {fr : List Int} {n : Int} {fv : Value} {e : Ending} (h : WdC a A B C ca cb cc w V VA Fd G out W) (hp : FindPost a fr n Fd VA fv W e W')
    (hne : V ≠ Fd ∧ V + 1 ≠ Fd ∧ G ≠ Fd ∧ VA ≠ Fd) (hlo : w.heap.size ≤ Fd) (hf : ∀ k, fv.ownBlock = some k → V + 1 < k ∧ G < k ∧ VA < k ∧ w.heap.size ≤ k) : WdC a A B C ca cb cc w V VA Fd G out W' := by
  have nf : ∀ k, k ≤ V + 1 ∨ k ≤ G ∨ k ≤ VA ∨ k < w.heap.size → fv.ownBlock ≠ some k := fun k hk e => by have := hf k e; omega
  have hV := h.at_.lt
  have hA := h.va.lt
  have hR := (Array.getElem?_eq_some_iff.1 h.res).1
  have hG := h.row.lt
  have eV := hp.block V hV hne.1 (nf V (.inl (by omega)))
  have eA := hp.block VA hA hne.2.2.2 (nf VA (.inr (.inr (.inl (Nat.le_refl _)))))
  obtain ⟨r, D, M, _, _, _, hfd, _⟩ := hp.is
  refine ⟨⟨hp.os.trans h.below.os, hp.tape.trans h.below.tape, hp.output.trans h.below.output, Nat.le_trans h.below.size hp.size, fun k hk => (hp.block k (Nat.lt_of_lt_of_le hk h.below.size) (by omega) (nf k (.inr (.inr (.inr hk))))).trans (h.below.block k hk)⟩,
    ⟨Nat.lt_of_lt_of_le hV hp.size, (cell_of_heap eV 0).trans h.at_.c0, (cell_of_heap eV 1).trans h.at_.c1, (cell_of_heap eV 2).trans h.at_.c2, (cell_of_heap eV 3).trans h.at_.c3, (cell_of_heap eV 4).trans h.at_.c4⟩,
    (hp.block (V + 1) hR hne.2.1 (nf (V + 1) (.inl (Nat.le_refl _)))).trans h.res, (hp.block G hG hne.2.2.1 (nf G (.inr (.inl (Nat.le_refl _))))).trans h.row,
    ⟨Nat.lt_of_lt_of_le hA hp.size, (cell_of_heap eA 0).trans h.va.c0, (cell_of_heap eA 1).trans h.va.c1, (cell_of_heap eA 2).trans h.va.c2, (cell_of_heap eA 3).trans h.va.c3, (cell_of_heap eA 4).trans h.va.c4⟩, _, hfd⟩
/-- what a search answers -/
structure FdAns (a : Au) (A B C : Option Addr) (ca cb cc : Nat) (w : World) (V VA Fd G : Nat) (out : List Bool) (X : Nat) (n : Int) (fr : List Int) (fv : Value) (Wa : World) (e : Ending) (W : World) : Prop where
  is : ∃ (r : Int) (D : List (Int × Stp)) (M : Nat), e = .returned (.int .i64 r) ∧ FndS a fr (fun x => x == n) r D ∧ ByAt W M D ∧ W.cell? ⟨Fd, 1, none⟩ = some (.map (some M))
  wd : WdC a A B C ca cb cc w V VA Fd G out W
  x : W.cell? ⟨X, 0, none⟩ = some (.int .i64 n)
  xl : X < W.heap.size
  size : Wa.heap.size ≤ W.heap.size
  keep : ∀ k, k < Wa.heap.size → k ≠ Fd → fv.ownBlock ≠ some k → W.heap[k]? = Wa.heap[k]?
theorem IntOwn.heap {W W' : World} {lo : Nat} {v : Value} {xs : List Int} (h : IntOwn W lo v xs) (he : ∀ k, v.ownBlock = some k → W'.heap[k]? = W.heap[k]?) : IntOwn W' lo v xs := by
  obtain ⟨h1, h2⟩ := h
  refine ⟨h1, ?_⟩
  rcases h2 with h2 | ⟨g, cap, cur, hv, hg, hh, r⟩
  · exact .inl h2
  · exact .inr ⟨g, cap, cur, hv, hg, (he g (by rw [hv]; rfl)).trans hh, r⟩
theorem find_at (a : Au) (A B C : Option Addr) (ca cb cc : Nat) (w : World) (V VA Fd G : Nat) (out : List Bool) (Wa : World) (X : Nat) (n : Int) (HC : WdC a A B C ca cb cc w V VA Fd G out Wa) (hXl : X < Wa.heap.size) (hXc : Wa.cell? ⟨X, 0, none⟩ = some (.int .i64 n))
    (hne : w.heap.size ≤ V ∧ V + 1 < G ∧ G < VA ∧ VA < Fd ∧ Fd < X) (hss : Stps w 0 C cc a.ss) (hf : AuFit a) (hst : a.st ≤ 1000000) (hsl : a.ss.length ≤ 1000000) (fr : List Int) (fv : Value) (hq : QOwn Wa w.heap.size fv fr) (hfv : ∀ x, fv.ownBlock = some x → X < x) (hfl : fr.length ≤ 1000000) :
    Calls Try.prog 117 #[.pointer (some ⟨Fd, 0, none⟩), fv, .func (.func 116) #[] #[.pointer (some ⟨X, 0, none⟩)]] Wa (FdAns a A B C ca cb cc w V VA Fd G out X n fr fv Wa) := by
  obtain ⟨byv, hfd⟩ := HC.fd
  have h := find_ a A B C ca cb cc VA Fd X n fr fv byv w Wa HC.below hss hf hst hsl hfl HC.va hfd hXc hXl (by omega) hq (fun x hx e => by
    have := hfv x e
    simp only [List.mem_cons, List.not_mem_nil, or_false] at hx
    omega) (by omega)
  refine h.mono ?_
  intro e W hp
  have hw := HC.find hp (by omega) (by omega) (fun x e => by have := hfv x e; omega)
  obtain ⟨r, D, M, h1, h2, h3, h4, _⟩ := hp.is
  refine ⟨⟨r, D, M, h1, h2, h3, by simp [World.cell?, h4]⟩, hw, (cell_of_heap (hp.block X hXl (by omega) (fun e => by have := hfv _ e; omega)) 0).trans hXc, Nat.lt_of_lt_of_le hXl hp.size, hp.size, hp.block⟩
theorem way_at (a : Au) (hf : AuFit a) (hst : a.st ≤ 1000000) (D : List (Int × Stp)) (fr : List Int) (hb : ByOK a fr D) (Fd M X : Nat) (fi : FuncId) (first : Int → Bool) (hfr : ∀ x ∈ fr, first x = true) (r : Int) (hD : ∃ D0 s, D = D0 ++ [(r, s)]) (w : World) (hFl : Fd < w.heap.size) (hF1 : w.cell? ⟨Fd, 1, none⟩ = some (.map (some M))) (hM : ByAt w M D)
    (hen : ∀ args w, (callFunc fi args).run Try.prog w = .ok (.enter fi args) w)
    (hfn : ∀ W k, Below w.heap.size w W → Calls Try.prog fi #[.int .i64 k, .pointer (some ⟨X, 0, none⟩)] W (FbPost W (first k))) :
    Calls Try.prog 118 #[.pointer (some ⟨Fd, 0, none⟩), .int .i64 r, .func (.func fi) #[] #[.pointer (some ⟨X, 0, none⟩)]] w (WayPost w a first r D.length) := by
  obtain ⟨D0, s, rfl⟩ := hD
  have h := way_ a hf hst (D0 ++ [(r, s)]) fr hb Fd M X fi first hfr D0.length (by simp) w hFl hF1 hM hen hfn
  have e : (D0 ++ [(r, s)])[D0.length].1 = r := by simp
  rwa [e] at h
theorem ints_set2 {W : World} {lo base V : Nat} {v : Value} {xs : List Int} (h : IntOwn W lo v xs) (hl : xs.length ≤ 1000000) (hV : V < lo) (hb : base ≤ lo) (v0 v1 : Value) : ∃ A c, v = .slice A xs.length c ∧ Ints (set2 W V v0 v1) base A c xs := by
  have h1 : IntOwn (set2 W V v0 v1) lo v xs := ownsRow_setCell_below (ownsRow_setCell_below h (a := ⟨V, 0, none⟩) hV v0) (a := ⟨V, 1, none⟩) hV v1
  obtain ⟨A, c, e, h2⟩ := SlE.of_own (bt := 8) h1 (by omega)
  exact ⟨A, c, e, h2.low hb⟩
theorem ints_none {W : World} {base : Nat} : Ints W base none 0 [] := ⟨Nat.le_refl _, by omega, by simp, Rd.nil⟩
end Go.Proofs.Ytoglgeaiiipchaa
