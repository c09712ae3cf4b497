import Derived.Test.YtoglgeaiiipchaaGreatDoorShelf
import Derived.Test.YtoglgeaiiipchaaGreatDoorLMTKM6
import Derived.Test.YtoglgeaiiipchaaGreatDoorLMTKM29
import Derived.Deep.LoopGhost
import Derived.Deep.CutBlock
import Derived.Test.YtoglgeaiiipchaaGreatDoorLMTKM12
import Derived.Test.YtoglgeaiiipchaaGreatDoorLMTKM31
import Derived.Test.YtoglgeaiiipchaaGreatDoorLMTKM22
import Derived.Test.YtoglgeaiiipchaaGreatDoorLMTKM19
import Derived.Lib.AppendZerosOnto
set_option linter.unusedSimpArgs false
set_option linter.unusedVariables false
namespace Go.Proofs.YtoglgeaiiipchaaGreatDoor
open Go Go.RowKit Go.Sort
theorem intsFlat (l : List Int) : (l.flatMap fun n : Int => [Value.int .i64 n]) = l.map (Value.int .i64) := by
  induction l with
  | nil => rfl
  | cons x l ih => rw [List.flatMap_cons, ih]; rfl
theorem IntOwn.holds {W : World} {lo g n cap : Nat} {xs : List Int} (h : IntOwn W lo (.slice (some ⟨g, 0, none⟩) n cap) xs) : Holds (Value.int .i64) W g 0 xs.toArray := by
  intro j hj
  obtain ⟨h1, h2⟩ := h
  rcases h2 with ⟨h2, _⟩ | ⟨g', cap', cur, hv, hg, hh, hn, hc, hs, ht⟩
  · cases h2
  · obtain ⟨rfl, rfl, rfl⟩ : g = g' ∧ n = xs.length ∧ cap = cap' := by simpa using hv
    rw [intsFlat] at ht
    have hj' : j < xs.length := by simpa using hj
    have h3 : cur[j]? = some (.int .i64 xs[j]) := by
      have h4 : (cur.toList.take (xs.length * 1))[j]? = some (.int .i64 xs[j]) := by rw [ht, List.getElem?_map, List.getElem?_eq_getElem hj']; rfl
      rw [List.getElem?_take, if_pos (by omega)] at h4
      simpa using h4
    have e : (xs.toArray)[j]! = xs[j] := by simp [hj']
    rw [Nat.zero_add, e]
    exact ⟨by simp only [World.cell?, hh]; simpa using h3, by simp [World.frozen?, hh]⟩
def RvPost (W : World) (lo : Nat) (v : Value) (xs : List Int) (e : Ending) (w' : World) : Prop := e = .returned (.tuple #[]) ∧ IntOwn w' lo v xs.reverse ∧ W.grownBy w' v.ownBlock
theorem Reverse_ (W : World) (lo g n cap : Nat) (xs : List Int) (h : IntOwn W lo (.slice (some ⟨g, 0, none⟩) n cap) xs) (hl : xs.length ≤ 1000000000) :
    Calls Tryz.prog 142 #[.slice (some ⟨g, 0, none⟩) n cap] W (RvPost W lo (.slice (some ⟨g, 0, none⟩) n cap) xs) := by
  have hH := h.holds
  obtain ⟨h1, h2⟩ := h
  rcases h2 with ⟨h2, _⟩ | ⟨g', cap', cur, hv, hg, hh, hn, hc, hs, ht⟩
  · cases h2
  obtain ⟨rfl, rfl, rfl⟩ : g = g' ∧ n = xs.length ∧ cap = cap' := by simpa using hv
  have := Tryz.slices_Reverse_int g 0 cap xs W hH (by omega)
  change Calls Tryz.prog 142 _ _ _ at this
  refine this.mono ?_
  rintro e w' ⟨rfl, q, rfl⟩
  have hlt : g < W.heap.size := (Array.getElem?_eq_some_iff.1 hh).1
  have hb : ∀ k, (putRow (Value.int .i64) (Sort.ahead W q) g 0 xs.reverse.toArray).heap[k]? = if k = g then some (.cells (putCells (Value.int .i64) 0 xs.reverse.toArray cur) 3 (0, 0)) else W.heap[k]? := by
    intro k
    show ((W.heap.modify g (onCells (putCells (Value.int .i64) 0 xs.reverse.toArray))))[k]? = _
    rw [Array.getElem?_modify]
    by_cases e : g = k
    · subst e; rw [if_pos rfl, if_pos rfl, hh]; rfl
    · rw [if_neg e, if_neg (fun x => e x.symm)]
  refine ⟨rfl, ⟨by rw [intsFlat]; simp, .inr ⟨g, cap, _, by simp, hg, by rw [hb, if_pos rfl], by simpa using hn, hc, by simp [putCells]; omega, ?_⟩⟩, ⟨rfl, rfl, rfl, Nat.le_of_eq (by show W.heap.size = (W.heap.modify g _).size; simp), fun k hk hne => by rw [hb, if_neg (fun e => hne (by rw [e]; rfl))]⟩⟩
  rw [intsFlat]
  refine List.ext_getElem (by simp [putCells]; omega) fun i i1 i2 => ?_
  have hi : i < xs.length := by simpa using i2
  rw [List.getElem_take]
  simp only [putCells, Array.getElem_toList, Array.getElem_mapIdx]
  rw [if_pos ⟨Nat.zero_le _, by simp; omega⟩, Nat.sub_zero, List.getElem_map]
  have : i < xs.reverse.toArray.size := by simpa using hi
  rw [getElem!_pos xs.reverse.toArray i this]
  simp
end Go.Proofs.YtoglgeaiiipchaaGreatDoor

namespace Go.Proofs.YtoglgeaiiipchaaGreatDoor
open Go Go.RowKit Go.Maps Go.Shelf
def WayPost (w : World) (a : Au) (first : Int → Bool) (tg : Int) (N : Nat) (e : Ending) (w' : World) : Prop := ∃ v ls, e = .returned v ∧ IntOwn w' w.heap.size v ls ∧ WayS a first tg N ls ∧ Below w.heap.size w w'
set_option maxRecDepth 100000 in
set_option maxHeartbeats 4000000 in
theorem way_ (a : Au) (hf : AuFit a) (hst : a.st ≤ 1000000) (D : List (Int × Stp)) (fr : List Int) (hb : ByOK a fr D) (Fd M X : Nat) (fi : FuncId) (first : Int → Bool) (hfr : ∀ x ∈ fr, first x = true) (i : Nat) (hi : i < D.length) (w : World) (hFl : Fd < w.heap.size) (hF1 : w.cell? ⟨Fd, 1, none⟩ = some (.map (some M))) (hM : ByAt w M D)
    (hen : ∀ args w, (callFunc fi args).run Tryz.prog w = .ok (.enter fi args) w)
    (hfn : ∀ W k, Below w.heap.size w W → Calls Tryz.prog fi #[.int .i64 k, .pointer (some ⟨X, 0, none⟩)] W (FbPost W (first k))) :
    Calls Tryz.prog 109 #[.pointer (some ⟨Fd, 0, none⟩), .int .i64 D[i].1, .func (.func fi) #[] #[.pointer (some ⟨X, 0, none⟩)]] w (WayPost w a first D[i].1 D.length) := by
  have HB := Lib.hid hb
  have HFN := Lib.hid hfn
  have HM := Lib.hid hM
  have HW0 := Lib.hid (WayM.start (a := a) hi (rfl : D[i].1 = D[i].1))
  have HDL : Hid (D.length ≤ 1000000) := by have := hb.len hf; show _ ≤ _; omega
  have HFR := Lib.hid hfr
  have HWF : Hid (∀ j (h : j < D.length), (Lit.int .i64 D[j].1).wf = true) := fun j h => by
    obtain ⟨a1, a2, _⟩ := hb.by_ j h
    have := (hf.sr _ a1).2.1
    rw [a2] at this
    exact WalkArith.wf_i64 (by omega)
  obtain ⟨tg, htg⟩ : ∃ t, t = D[i].1 := ⟨_, rfl⟩
  rw [← htg] at HW0
  have HTG := Lib.hid htg
  rw [← htg]
  clear htg
  clear hb hfn hM hf hfr
  go_enter Tryz.func109, Tryz.ntmps109
  go_wp2_with fail
  go_loopg [1, 7] i (fun j v1 v7 wr => ∃ (hj : j < D.length) (out : List Int), v1 = .int .i64 (D[j]'hj).1 ∧ Hid (WayM a D tg j out) ∧ Hid (IntOwn wr w.heap.size v7 out) ∧ Hid (Below w.heap.size w wr))
  case atStart => exact ⟨hi, [], by rw [HTG.out], HW0.out, World.ownsRow_nil _ _ _ _, Below.refl _ _⟩
  case round =>
    obtain ⟨hj, out, rfl, HWM, HOW, HBW⟩ := hrel
    have hkw := HWF.out gk hj
    have hmem : D[gk] ∈ D := List.getElem_mem hj
    have hdk : D[gk].2.t = D[gk].1 := (HB.out.by_ gk hj).2.1
    have HPATH := Lib.hid (HWM.out.path HB.out)
    have HSTEP := Lib.hid (fun hno => HWM.out.step HB.out HFR.out hno)
    have HOUT := Lib.hid (fun hno => HWM.out.out HB.out (first := first) hno)
    have HLN := Lib.hid (HWM.out.len D[gk].2.l)
    revert HSTEP HOUT HLN HPATH hkw hmem hdk
    generalize D[gk] = p
    obtain ⟨ky, s⟩ := p
    intro hkw hmem hdk HPATH HSTEP HOUT HLN
    simp only at hkw hmem hdk HPATH HSTEP HOUT HLN ⊢
    have hget := ByAt.get (HM.out.on HBW.out) HB.out.nd hkw hmem
    unfold stV at hget
    have cF := (HBW.out.cell (p := ⟨Fd, 1, none⟩) hFl).trans hF1
    obtain ⟨oA, oc, rfl, ho1, ho2, _⟩ := own_form HOW.out
    have hba : Below wr.heap.size wr (wr.alloc (Obj.cells #[.int .i64 s.f, .int .i64 s.l, .int .i64 s.t] 80)) := (Below.refl _ _).alloc (Nat.le_refl _) _
    have hs0 : (wr.alloc (Obj.cells #[.int .i64 s.f, .int .i64 s.l, .int .i64 s.t] 80)).cell? ⟨wr.heap.size, 0, none⟩ = some (.int .i64 s.f) := by go_simp
    have hs1 : (wr.alloc (Obj.cells #[.int .i64 s.f, .int .i64 s.l, .int .i64 s.t] 80)).cell? ⟨wr.heap.size, 1, none⟩ = some (.int .i64 s.l) := by go_simp
    have hsl : wr.heap.size < (wr.alloc (Obj.cells #[.int .i64 s.f, .int .i64 s.l, .int .i64 s.t] 80)).heap.size := by simp
    have hSo : (wr.alloc (Obj.cells #[.int .i64 s.f, .int .i64 s.l, .int .i64 s.t] 80)).heap[wr.heap.size]? = some (Obj.cells #[.int .i64 s.f, .int .i64 s.l, .int .i64 s.t] 80) := World.alloc_heap_new _ _
    have HO2 : Hid (IntOwn (wr.alloc (Obj.cells #[.int .i64 s.f, .int .i64 s.l, .int .i64 s.t] 80)) w.heap.size (.slice oA out.length oc) out) := own_below HOW.out hba
    have HB2 := Lib.hid (Below_on HBW.out hba HBW.out.size)
    clear hba hmem hdk
    go_upto_region 3 with fail
    clear cF hget
    obtain ⟨S, hS⟩ : ∃ S, S = wr.heap.size := ⟨_, rfl⟩
    rw [← hS] at hs0 hs1 hsl hSo ⊢
    clear hS
    generalize wr.alloc (Obj.cells #[.int .i64 s.f, .int .i64 s.l, .int .i64 s.t] 80) = W2 at *
    have hal : Below W2.heap.size W2 (W2.alloc (Obj.cells #[.int .i64 s.l] 3)) := (Below.refl _ _).alloc (Nat.le_refl _) _
    obtain ⟨v3, W3, hrun, hown3, hg3, hat3⟩ := run_append_int (lo := w.heap.size) (v := .slice oA out.length oc) (xs := out) (y := s.l) (B := W2.heap.size) 22 (own_below HO2.out hal) (World.alloc_heap_new W2 _) (by have h1 := HWM.out.few; have := HDL.out; omega) (Nat.le_trans HB2.out.size hal.size)
    have HRUN := Lib.hid hrun
    have HOW3 := Lib.hid hown3
    have HB3 : Hid (Below w.heap.size w W3) := (Below_on HB2.out hal HB2.out.size).grown hg3 (Nat.le_trans HB2.out.size hal.size) (fun k hk => (HO2.out.lt k hk).1)
    have hne := own_ty HO2.out hSo (by decide)
    have hs03 : W3.cell? ⟨S, 0, none⟩ = some (.int .i64 s.f) := (cell_of_heap ((hg3.block S (Nat.lt_of_lt_of_le hsl hal.size) (fun e => hne e.symm)).trans (hal.block S hsl)) 0).trans hs0
    obtain ⟨gA, gc, rfl⟩ := ownsRow_succ (k := out.length) (by have := hown3; unfold IntOwn at this; rw [List.length_append] at this; exact this)
    clear hrun hown3 hg3 hat3 hal hne hSo
    go_wp2_with (at_builtin; refine wpList_appRun rfl (.tmp 15) (.tmp 18) _ _ rfl _ _ _ rfl rfl HRUN.out ?_)
    refine (HFN.out W3 s.f HB3.out).mono ?_
    rintro e w4 ⟨rfl, rfl⟩
    have HLQ : Hid ((out ++ [s.l]).length = out.length + 1) := by show _ = _; simp
    cases hfs : first s.f with
    | true =>
      have HW := Lib.hid (HOUT.out hfs)
      have HRV := Lib.hid (Reverse_ w4 w.heap.size gA (out.length + 1) gc (out ++ [s.l]) HOW3.out (by have := HLN.out; have := HDL.out; omega))
      clear hfs
      go_wp2_with fail
      refine HRV.out.mono ?_
      rintro e w5 ⟨rfl, hown5, hg5⟩
      have HP : Hid (WayPost w a first tg D.length (.returned (.slice (some ⟨gA, 0, none⟩) (out.length + 1) gc)) w5) := ⟨_, _, rfl, hown5, HW.out, HB3.out.grown hg5 HB3.out.size (fun k hk => (HOW3.out.lt k hk).1)⟩
      clear hown5 hg5
      go_wp2_with fail
      go_ret
      exact HP.out
    | false =>
      obtain ⟨j, hj1, hj2, hj3, hj4⟩ := HSTEP.out hfs
      have HW := Lib.hid hj2
      have HJ := Lib.hid hj4
      clear hfs hj2 hj4
      go_wp2_with fail
      go_roundg j
      case rel => exact ⟨hj3, _, by rw [HJ.out], HW.out, HOW3.out, HB3.out⟩
      case measure => omega
end Go.Proofs.YtoglgeaiiipchaaGreatDoor

namespace Go.Proofs.YtoglgeaiiipchaaGreatDoor
open Go Go.RowKit Go.Maps Go.Shelf
theorem AuFit.rng {a : Au} (h : AuFit a) : AuR a := ⟨h.st1, h.fr, h.fo, h.sr⟩
structure WdPost (w : World) (a : Au) (e : Ending) (w' : World) : Prop where
  is : ∃ (H L : Option Addr) (ch cl : Nat) (hl ll : List Int) (b : Bool), e = .returned (.tuple #[.agg #[.slice H hl.length ch, .slice L ll.length cl], .bool b]) ∧ Ints w' w.heap.size H ch hl ∧ Ints w' w.heap.size L cl ll ∧ (if b = true then Told a ⟨hl, ll⟩ else hl = [] ∧ ll = [] ∧ ∀ u, ¬ TakesU a u)
  below : Below w.heap.size w w'
structure WdC (a : Au) (A B C : Option Addr) (ca cb cc : Nat) (w : World) (V VA Fd G : Nat) (out : List Bool) (W : World) : Prop where
  below : Below w.heap.size w W
  at_ : AuAt W V a A B C ca cb cc
  res : W.heap[V + 1]? = some (.cells #[.slice none 0 0, .slice none 0 0] 27 (0, 0))
  row : BRow W G out
  va : AuAt W VA a A B C ca cb cc
  fd : ∃ byv, W.heap[Fd]? = some (.cells #[.func (.func 89) #[] #[.pointer (some ⟨VA, 0, none⟩)], byv] 161 (0, 0))
theorem WdC.on {a : Au} {A B C : Option Addr} {ca cb cc V VA Fd G : Nat} {out : List Bool} {w W W' : World} (h : WdC a A B C ca cb cc w V VA Fd G out W) (hb : Below W.heap.size W W') : WdC a A B C ca cb cc w V VA Fd G out W' := by
  obtain ⟨byv, hf⟩ := h.fd
  exact ⟨Below_on h.below hb h.below.size, h.at_.below hb h.at_.lt, (hb.block _ (Array.getElem?_eq_some_iff.1 h.res).1).trans h.res, h.row.below hb h.row.lt, h.va.below hb h.va.lt, byv, (hb.block _ (Array.getElem?_eq_some_iff.1 hf).1).trans hf⟩
theorem retLa {fn : Func} (h : fn.results = #[.cell 2 27, .tmp 3]) (tmps : Array Value) (w : World) (V : Nat) {v0 v1 x : Value} (hp : tmps[2]? = some (.pointer (some ⟨V, 0, none⟩))) (hx : tmps[3]? = some x)
    (ho : w.heap[V]? = some (.cells #[v0, v1] 27 (0, 0))) : (results fn tmps).run Tryz.prog w = .ok (.tuple #[.agg #[v0, v1], x]) w := by
  have r0 : w.cell? ⟨V, 0, none⟩ = some v0 := by simp [World.cell?, ho]
  have r1 : w.cell? ⟨V, 1, none⟩ = some v1 := by simp [World.cell?, ho]
  simp [results, h, go_sem, hp, hx, r0, r1]
def set2 (w : World) (V : Nat) (v0 v1 : Value) : World := (w.setCell ⟨V, 0, none⟩ v0).setCell ⟨V, 1, none⟩ v1
theorem set2_heap {w : World} {V : Nat} {u0 u1 : Value} {t : TypeId} (h : w.heap[V]? = some (.cells #[u0, u1] t (0, 0))) (v0 v1 : Value) : (set2 w V v0 v1).heap[V]? = some (.cells #[v0, v1] t (0, 0)) := by
  simp [set2, World.setCell, Array.getElem?_modify, h]
theorem set2_far (w : World) (V : Nat) (v0 v1 : Value) {k : Nat} (hk : k ≠ V) : (set2 w V v0 v1).heap[k]? = w.heap[k]? := by
  unfold set2
  rw [Below.heap_setCell _ ⟨V, 1, none⟩ _ _ hk, Below.heap_setCell _ ⟨V, 0, none⟩ _ _ hk]
theorem below_set2 {B V : Nat} {a w : World} (h : Below B a w) (hV : B ≤ V) (v0 v1 : Value) : Below B a (set2 w V v0 v1) := (h.setCell (p := ⟨V, 0, none⟩) hV _).setCell (p := ⟨V, 1, none⟩) hV _
theorem WdC.find {a : Au} {A B C : Option Addr} {ca cb cc V VA Fd G : Nat} {out : List Bool} {w W W' : World} {fr : List Int} {n : Int} {fv : Value} {e : Ending} (h : WdC a A B C ca cb cc w V VA Fd G out W) (hp : FindPost a fr n Fd VA fv W e W')
    (hne : V ≠ Fd ∧ V + 1 ≠ Fd ∧ G ≠ Fd ∧ VA ≠ Fd) (hlo : w.heap.size ≤ Fd) (hf : ∀ k, fv.ownBlock = some k → V + 1 < k ∧ G < k ∧ VA < k ∧ w.heap.size ≤ k) : WdC a A B C ca cb cc w V VA Fd G out W' := by
  have nf : ∀ k, k ≤ V + 1 ∨ k ≤ G ∨ k ≤ VA ∨ k < w.heap.size → fv.ownBlock ≠ some k := fun k hk e => by have := hf k e; omega
  have hV := h.at_.lt
  have hA := h.va.lt
  have hR := (Array.getElem?_eq_some_iff.1 h.res).1
  have hG := h.row.lt
  have eV := hp.block V hV hne.1 (nf V (.inl (by omega)))
  have eA := hp.block VA hA hne.2.2.2 (nf VA (.inr (.inr (.inl (Nat.le_refl _)))))
  obtain ⟨r, D, M, _, _, _, hfd, _⟩ := hp.is
  refine ⟨⟨hp.os.trans h.below.os, hp.tape.trans h.below.tape, hp.output.trans h.below.output, Nat.le_trans h.below.size hp.size, fun k hk => (hp.block k (Nat.lt_of_lt_of_le hk h.below.size) (by omega) (nf k (.inr (.inr (.inr hk))))).trans (h.below.block k hk)⟩,
    ⟨Nat.lt_of_lt_of_le hV hp.size, (cell_of_heap eV 0).trans h.at_.c0, (cell_of_heap eV 1).trans h.at_.c1, (cell_of_heap eV 2).trans h.at_.c2, (cell_of_heap eV 3).trans h.at_.c3, (cell_of_heap eV 4).trans h.at_.c4⟩,
    (hp.block (V + 1) hR hne.2.1 (nf (V + 1) (.inl (Nat.le_refl _)))).trans h.res, (hp.block G hG hne.2.2.1 (nf G (.inr (.inl (Nat.le_refl _))))).trans h.row,
    ⟨Nat.lt_of_lt_of_le hA hp.size, (cell_of_heap eA 0).trans h.va.c0, (cell_of_heap eA 1).trans h.va.c1, (cell_of_heap eA 2).trans h.va.c2, (cell_of_heap eA 3).trans h.va.c3, (cell_of_heap eA 4).trans h.va.c4⟩, _, hfd⟩
structure FdAns (a : Au) (A B C : Option Addr) (ca cb cc : Nat) (w : World) (V VA Fd G : Nat) (out : List Bool) (X : Nat) (n : Int) (fr : List Int) (fv : Value) (Wa : World) (e : Ending) (W : World) : Prop where
  is : ∃ (r : Int) (D : List (Int × Stp)) (M : Nat), e = .returned (.int .i64 r) ∧ FndS a fr (fun x => x == n) r D ∧ ByAt W M D ∧ W.cell? ⟨Fd, 1, none⟩ = some (.map (some M))
  wd : WdC a A B C ca cb cc w V VA Fd G out W
  x : W.cell? ⟨X, 0, none⟩ = some (.int .i64 n)
  xl : X < W.heap.size
  size : Wa.heap.size ≤ W.heap.size
  keep : ∀ k, k < Wa.heap.size → k ≠ Fd → fv.ownBlock ≠ some k → W.heap[k]? = Wa.heap[k]?
theorem IntOwn.heap {W W' : World} {lo : Nat} {v : Value} {xs : List Int} (h : IntOwn W lo v xs) (he : ∀ k, v.ownBlock = some k → W'.heap[k]? = W.heap[k]?) : IntOwn W' lo v xs := by
  obtain ⟨h1, h2⟩ := h
  refine ⟨h1, ?_⟩
  rcases h2 with h2 | ⟨g, cap, cur, hv, hg, hh, r⟩
  · exact .inl h2
  · exact .inr ⟨g, cap, cur, hv, hg, (he g (by rw [hv]; rfl)).trans hh, r⟩
theorem find_at (a : Au) (A B C : Option Addr) (ca cb cc : Nat) (w : World) (V VA Fd G : Nat) (out : List Bool) (Wa : World) (X : Nat) (n : Int) (HC : WdC a A B C ca cb cc w V VA Fd G out Wa) (hXl : X < Wa.heap.size) (hXc : Wa.cell? ⟨X, 0, none⟩ = some (.int .i64 n))
    (hne : w.heap.size ≤ V ∧ V + 1 < G ∧ G < VA ∧ VA < Fd ∧ Fd < X) (hss : Stps w 0 C cc a.ss) (hf : AuFit a) (hst : a.st ≤ 1000000) (hsl : a.ss.length ≤ 1000000) (fr : List Int) (fv : Value) (hq : QOwn Wa w.heap.size fv fr) (hfv : ∀ x, fv.ownBlock = some x → X < x) (hfl : fr.length ≤ 1000000) :
    Calls Tryz.prog 108 #[.pointer (some ⟨Fd, 0, none⟩), fv, .func (.func 107) #[] #[.pointer (some ⟨X, 0, none⟩)]] Wa (FdAns a A B C ca cb cc w V VA Fd G out X n fr fv Wa) := by
  obtain ⟨byv, hfd⟩ := HC.fd
  have h := find_ a A B C ca cb cc VA Fd X n fr fv byv w Wa HC.below hss hf hst hsl hfl HC.va hfd hXc hXl (by omega) hq (fun x hx e => by
    have := hfv x e
    simp only [List.mem_cons, List.not_mem_nil, or_false] at hx
    omega) (by omega)
  refine h.mono ?_
  intro e W hp
  have hw := HC.find hp (by omega) (by omega) (fun x e => by have := hfv x e; omega)
  obtain ⟨r, D, M, h1, h2, h3, h4, _⟩ := hp.is
  refine ⟨⟨r, D, M, h1, h2, h3, by simp [World.cell?, h4]⟩, hw, (cell_of_heap (hp.block X hXl (by omega) (fun e => by have := hfv _ e; omega)) 0).trans hXc, Nat.lt_of_lt_of_le hXl hp.size, hp.size, hp.block⟩
theorem way_at (a : Au) (hf : AuFit a) (hst : a.st ≤ 1000000) (D : List (Int × Stp)) (fr : List Int) (hb : ByOK a fr D) (Fd M X : Nat) (fi : FuncId) (first : Int → Bool) (hfr : ∀ x ∈ fr, first x = true) (r : Int) (hD : ∃ D0 s, D = D0 ++ [(r, s)]) (w : World) (hFl : Fd < w.heap.size) (hF1 : w.cell? ⟨Fd, 1, none⟩ = some (.map (some M))) (hM : ByAt w M D)
    (hen : ∀ args w, (callFunc fi args).run Tryz.prog w = .ok (.enter fi args) w)
    (hfn : ∀ W k, Below w.heap.size w W → Calls Tryz.prog fi #[.int .i64 k, .pointer (some ⟨X, 0, none⟩)] W (FbPost W (first k))) :
    Calls Tryz.prog 109 #[.pointer (some ⟨Fd, 0, none⟩), .int .i64 r, .func (.func fi) #[] #[.pointer (some ⟨X, 0, none⟩)]] w (WayPost w a first r D.length) := by
  obtain ⟨D0, s, rfl⟩ := hD
  have h := way_ a hf hst (D0 ++ [(r, s)]) fr hb Fd M X fi first hfr D0.length (by simp) w hFl hF1 hM hen hfn
  have e : (D0 ++ [(r, s)])[D0.length].1 = r := by simp
  rwa [e] at h
theorem ints_set2 {W : World} {lo base V : Nat} {v : Value} {xs : List Int} (h : IntOwn W lo v xs) (hl : xs.length ≤ 1000000) (hV : V < lo) (hb : base ≤ lo) (v0 v1 : Value) : ∃ A c, v = .slice A xs.length c ∧ Ints (set2 W V v0 v1) base A c xs := by
  have h1 : IntOwn (set2 W V v0 v1) lo v xs := ownsRow_setCell_below (ownsRow_setCell_below h (a := ⟨V, 0, none⟩) hV v0) (a := ⟨V, 1, none⟩) hV v1
  obtain ⟨A, c, e, h2⟩ := SlE.of_own (bt := 8) h1 (by omega)
  exact ⟨A, c, e, h2.low hb⟩
theorem ints_none {W : World} {base : Nat} : Ints W base none 0 [] := ⟨Nat.le_refl _, by omega, by simp, Rd.nil⟩
end Go.Proofs.YtoglgeaiiipchaaGreatDoor

namespace Go.Proofs.YtoglgeaiiipchaaGreatDoor
open Go Go.RowKit Go.Maps Go.Shelf
set_option maxRecDepth 100000 in
set_option maxHeartbeats 8000000 in
theorem Word_ (a : Au) (A B C : Option Addr) (ca cb cc : Nat) (w : World) (hr : AuRd w 0 a A B C ca cb cc) (hf : AuFit a) (hst : a.st ≤ 1000000) (hsl : a.ss.length ≤ 1000000) :
    Calls Tryz.prog 70 #[.agg #[.int .i64 a.st, .int .i64 a.le, .slice A a.fs.length ca, .slice B a.gs.length cb, .slice C a.ss.length cc]] w (WdPost w a) := by
  have HW := auW_is w a A B C ca cb cc
  have hb0 := HW.below
  have hV0 := HW.at
  have hs0 := HW.size
  unfold auW at hb0 hV0 hs0
  have HR := Lib.hid hr
  have HF := Lib.hid hf
  have HST : Hid (a.st ≤ 1000000 ∧ a.ss.length ≤ 1000000 ∧ a.fs.length ≤ 1000000) := ⟨hst, hsl, by
    have := up_few a.fs 0 hf.fo hf.fr (by have := hf.st1; omega)
    omega⟩
  have hal : Below (w.alloc (Obj.cells #[.int .i64 a.st, .int .i64 a.le, .slice A a.fs.length ca, .slice B a.gs.length cb, .slice C a.ss.length cc] 31)).heap.size (w.alloc (Obj.cells #[.int .i64 a.st, .int .i64 a.le, .slice A a.fs.length ca, .slice B a.gs.length cb, .slice C a.ss.length cc] 31)) ((w.alloc (Obj.cells #[.int .i64 a.st, .int .i64 a.le, .slice A a.fs.length ca, .slice B a.gs.length cb, .slice C a.ss.length cc] 31)).alloc (Obj.cells #[.slice none 0 0, .slice none 0 0] 27)) := (Below.refl _ _).alloc (Nat.le_refl _) _
  have hnew := World.alloc_heap_new (w.alloc (Obj.cells #[.int .i64 a.st, .int .i64 a.le, .slice A a.fs.length ca, .slice B a.gs.length cb, .slice C a.ss.length cc] 31)) (Obj.cells #[.slice none 0 0, .slice none 0 0] 27)
  have hb1 := Below_on hb0 hal hb0.size
  have hV1 := hV0.below hal hV0.lt
  rw [hs0] at hnew
  have hsz1 : ((w.alloc (Obj.cells #[.int .i64 a.st, .int .i64 a.le, .slice A a.fs.length ca, .slice B a.gs.length cb, .slice C a.ss.length cc] 31)).alloc (Obj.cells #[.slice none 0 0, .slice none 0 0] 27)).heap.size = w.heap.size + 2 := by simp
  clear HW hb0 hV0 hs0 hal hr hf hst hsl
  go_enter Tryz.func70, Tryz.ntmps70
  go_upto_region 1 with fail
  obtain ⟨V, hV⟩ : ∃ V, V = w.heap.size := ⟨_, rfl⟩
  rw [← hV] at hV1 hnew hsz1 ⊢
  have HVV := Lib.hid hV
  clear hV
  generalize (w.alloc (Obj.cells #[.int .i64 a.st, .int .i64 a.le, .slice A a.fs.length ca, .slice B a.gs.length cb, .slice C a.ss.length cc] 31)).alloc (Obj.cells #[.slice none 0 0, .slice none 0 0] 27) = W1 at *
  have HB1 := Lib.hid hb1
  have HV1 := Lib.hid hV1
  have HN1 := Lib.hid hnew
  have HS1 := Lib.hid hsz1
  have HRC := Lib.hid (ReachedR_ a A B C ca cb cc W1 (HR.out.below hb1) HF.out.rng HST.out.1 HST.out.2.1 HF.out.so)
  obtain ⟨_, c0, c1, c2, c3, c4⟩ := hV1
  clear hb1 hnew hsz1
  go_wp2_with fail
  refine HRC.out.mono ?_
  rintro e w2 ⟨G, out, rfl, hG, hrow, hrs, hb2⟩
  have HRS := Lib.hid hrs
  have HV2 := Lib.hid (HV1.out.below hb2 HV1.out.lt)
  have HB2 := Lib.hid (Below_on HB1.out hb2 HB1.out.size)
  have HN2 : Hid (w2.heap[V + 1]? = _) := (hb2.block _ (by have := HS1.out; omega)).trans HN1.out
  have HRW := Lib.hid hrow
  have HG := Lib.hid hG
  have HFC : Hid (Calls Tryz.prog 50 _ w2 _) := From_ a A B C ca cb cc w2
  have HZ2 := Lib.hid hb2.size
  clear c0 c1 c2 c3 c4 hrs hrow hb2 hG HRC
  obtain ⟨_, c0, c1, c2, c3, c4⟩ := HV2.out
  go_wp2_with fail
  refine HFC.out.mono ?_
  rintro e w3 ⟨VA, rfl, hVA, hVAt, hb3⟩
  have hal : Below w3.heap.size w3 (w3.alloc (Obj.cells #[.func (.func 89) #[] #[.pointer (some ⟨VA, 0, none⟩)], .map none] 161)) := (Below.refl _ _).alloc (Nat.le_refl _) _
  have hb4 := Below_on hb3 hal hb3.size
  have HC0 : Hid (WdC a A B C ca cb cc w V VA w3.heap.size G out (w3.alloc (Obj.cells #[.func (.func 89) #[] #[.pointer (some ⟨VA, 0, none⟩)], .map none] 161))) :=
    ⟨Below_on HB2.out hb4 HB2.out.size, HV2.out.below hb4 HV2.out.lt, (hb4.block _ (by have := HS1.out; have := HZ2.out; omega)).trans HN2.out, HRW.out.below hb4 HRW.out.lt, hVAt.below hal hVAt.lt, _, World.alloc_heap_new _ _⟩
  have HNE : Hid (V < V + 1 ∧ V + 1 < G ∧ G < VA ∧ VA < w3.heap.size) := ⟨by omega, by have := HG.out; have := HS1.out; omega, by have := HRW.out.lt; omega, hVAt.lt⟩
  clear c0 c1 c2 c3 c4 hb4 hal hb3 hVAt hVA HFC
  obtain ⟨_, c0, c1, c2, c3, c4⟩ := HC0.out.at_
  go_upto_block 0 with fail
  clear c0 c1 c2 c3 c4
  obtain ⟨Fd, hFd⟩ : ∃ Fd, Fd = w3.heap.size := ⟨_, rfl⟩
  rw [← hFd] at HC0 HNE ⊢
  clear hFd
  generalize w3.alloc (Obj.cells #[.func (.func 89) #[] #[.pointer (some ⟨VA, 0, none⟩)], .map none] 161) = W4 at *
  obtain ⟨N, hN⟩ := Int.eq_ofNat_of_zero_le (show 0 ≤ a.st by have := HF.out.st1; omega)
  have hN3 : N ≤ 1000000 := by have := HST.out.1; omega
  have HN := Lib.hid hN
  clear hN
  go_wp2_with fail
  go_loopw [20] (fun v20 wr => ∃ k : Nat, k ≤ N ∧ v20 = .int .i64 (k : Int) ∧ Hid (WdC a A B C ca cb cc w V VA Fd G out wr) ∧ Hid (∀ j : Nat, j < k → ¬ (Rch a j ∧ a.good j ∧ Plus (Edge a) j j))) (fun v20 _ => N - (intOf v20).toNat)
  case atStart => exact ⟨0, Nat.zero_le _, rfl, HC0.out, fun j h => absurd h (by omega)⟩
  case round =>
    obtain ⟨k, hk, rfl, HC, HNO⟩ := hrel
    obtain ⟨_, c0, c1, c2, c3, c4⟩ := HC.out.at_
    by_cases hkN : k < N
    · have q1 : (k : Int) < a.st := by have := HN.out; omega
      have hol : k < out.length := by have := HRS.out.len; have := HN.out; omega
      have hgl : k < a.gs.length := by have := HF.out.gl; have := HN.out; omega
      have hba : Below wr.heap.size wr (wr.alloc (Obj.cells #[.int .i64 (k : Int)] 3)) := (Below.refl _ _).alloc (Nat.le_refl _) _
      have HCa := Lib.hid (HC.out.on hba)
      obtain ⟨z1, _⟩ := HCa.out.row.getD_ (i := k) hol false
      obtain ⟨bb, bo, rfl, _, _, y1⟩ := Bools.at_ ((HR.out.below HCa.out.below).gs) hgl
      have hgle := (HR.out.gs).le
      have HNX : Hid (∀ (p : Prop), (¬ p → False) → p) := fun p h => Classical.byContradiction h
      have HX := Lib.hid hkN
      have HSK : Hid (¬ (Rch a k ∧ a.good k ∧ Plus (Edge a) k k) → ∀ j : Nat, j < k + 1 → ¬ (Rch a j ∧ a.good j ∧ Plus (Edge a) j j)) := fun h j hj => by
        rcases Nat.lt_or_ge j k with h1 | h1
        · exact HNO.out j h1
        · obtain rfl : j = k := by omega
          exact h
      have HRI : Hid (out.getD k false = true ↔ Rch a (k : Int)) := by
        have := HRS.out.iff (k : Int) (by omega) q1
        show _ ↔ _
        unfold kp at this
        rwa [Int.toNat_natCast] at this
      have HGI : Hid (a.gs[k] = true ↔ a.good (k : Int)) := by
        show _ ↔ (0 ≤ (k : Int) ∧ a.gs.getD (k : Int).toNat false = true)
        rw [Int.toNat_natCast, List.getD_eq_getElem?_getD, List.getElem?_eq_getElem hgl]
        simp
      generalize out.getD k false = ok at *
      revert y1 HGI
      generalize a.gs[k] = gk
      intro y1 HGI
      have holi : (k : Int) < (out.length : Int) := by omega
      have hgli : (k : Int) < (a.gs.length : Int) := by omega
      clear hba
      cases ok with
      | false =>
        have HN2 := Lib.hid (HSK.out fun h => by have := HRI.out.2 h.1; cases this)
        go_wp2_with fail
        go_roundw
        case rel => exact ⟨k + 1, HX.out, by go_num, HCa.out, HN2.out⟩
        case measure => simp [intOf]; have := HX.out; omega
      | true =>
        cases gk with
        | false =>
          have HN2 := Lib.hid (HSK.out fun h => by have := HGI.out.2 h.2.1; cases this)
          go_wp2_with fail
          go_roundw
          case rel => exact ⟨k + 1, HX.out, by go_num, HCa.out, HN2.out⟩
          case measure => simp [intOf]; have := HX.out; omega
        | true =>
          have hXc : (wr.alloc (Obj.cells #[.int .i64 (k : Int)] 3)).cell? ⟨wr.heap.size, 0, none⟩ = some (.int .i64 (k : Int)) := by go_simp
          have hXl : wr.heap.size < (wr.alloc (Obj.cells #[.int .i64 (k : Int)] 3)).heap.size := by simp
          have hsA : (wr.alloc (Obj.cells #[.int .i64 (k : Int)] 3)).heap.size = wr.heap.size + 1 := by simp
          have HSW : Hid (w.heap.size ≤ wr.heap.size ∧ Fd < wr.heap.size ∧ VA < wr.heap.size ∧ V + 1 < wr.heap.size ∧ G < wr.heap.size) := ⟨HC.out.below.size, by obtain ⟨_, h⟩ := HC.out.fd; exact (Array.getElem?_eq_some_iff.1 h).1, HC.out.va.lt, (Array.getElem?_eq_some_iff.1 HC.out.res).1, HC.out.row.lt⟩
          have hbb : Below (wr.alloc (Obj.cells #[.int .i64 (k : Int)] 3)).heap.size (wr.alloc (Obj.cells #[.int .i64 (k : Int)] 3)) ((wr.alloc (Obj.cells #[.int .i64 (k : Int)] 3)).alloc (Obj.cells #[.int .i64 (k : Int)] 3)) := (Below.refl _ _).alloc (Nat.le_refl _) _
          have HCb := Lib.hid (HCa.out.on hbb)
          have hXb := (hbb.cell (p := ⟨wr.heap.size, 0, none⟩) hXl).trans hXc
          have hXlb := Nat.lt_of_lt_of_le hXl hbb.size
          have hnb := World.alloc_heap_new (wr.alloc (Obj.cells #[.int .i64 (k : Int)] 3)) (Obj.cells #[.int .i64 (k : Int)] 3)
          rw [hsA] at hnb
          have hq : QOwn ((wr.alloc (Obj.cells #[.int .i64 (k : Int)] 3)).alloc (Obj.cells #[.int .i64 (k : Int)] 3)) w.heap.size (.slice (some ⟨wr.heap.size + 1, 0, none⟩) 1 1) [(k : Int)] :=
            .inr ⟨_, 0, 1, #[.int .i64 (k : Int)], rfl, by have := HSW.out.1; omega, hnb, Nat.le_refl _, by simp, by unfold maxLen; omega, fun j hj => by
              obtain rfl : j = 0 := by simpa using hj
              rfl⟩
          have HPL : Hid (w.heap.size ≤ V ∧ V + 1 < G ∧ G < VA ∧ VA < Fd ∧ Fd < wr.heap.size) := by have := HNE.out; have := HVV.out; have := HSW.out; exact ⟨by omega, by omega, by omega, by omega, by omega⟩
          have HFN := Lib.hid (find_at a A _ C ca cb cc w V VA Fd G out _ wr.heap.size (k : Int) HCb.out hXlb hXb HPL.out HR.out.ss HF.out HST.out.1 HST.out.2.1 [(k : Int)] _ hq
            (fun x e => by
              have e' : wr.heap.size + 1 = x := by simpa [Value.ownBlock] using e
              omega) (by simp))
          have HAF := Lib.hid (fun (W : World) (hb : Below w.heap.size w W) => (HR.out.below hb).fs)
          have HRT : Hid (Rch a (k : Int)) := HRI.out.1 rfl
          have HGT : Hid (a.good (k : Int)) := HGI.out.1 rfl
          clear hXc hbb hnb hq hXb hXl hXlb hsA HCb
          go_wp2_with fail
          refine HFN.out.mono ?_
          intro e w5 hp
          obtain ⟨⟨r, D, M, rfl, ⟨hby, hfn⟩, hbm, hfd1⟩, hC5, hX5, hXl5, -, -⟩ := hp
          have HC5 := Lib.hid hC5
          have HX5 := Lib.hid hX5
          have HXl5 := Lib.hid hXl5
          clear hC5 hX5 hXl5 HFN
          rcases hfn with ⟨D0, s, hD, hdn, hr0, hr1⟩ | ⟨rfl, hno⟩
          · obtain rfl : r = (k : Int) := by simpa using hdn
            have HWY := Lib.hid (way_at a HF.out HST.out.1 D [(k : Int)] hby Fd M wr.heap.size 107 (fun x => x == (k : Int)) (by simp) (k : Int) ⟨D0, s, hD⟩ w5 (by obtain ⟨_, h⟩ := HC5.out.fd; exact (Array.getElem?_eq_some_iff.1 h).1) hfd1 hbm
              (enters_of Tryz.func107 (by kernel_rfl) rfl) (fun W j hb => is_ (k : Int) j wr.heap.size W ((hb.cell (p := ⟨wr.heap.size, 0, none⟩) HXl5.out).trans HX5.out)))
            have HBY := Lib.hid hby
            have q2 : ¬ (k : Int) < 0 := by omega
            clear hby hbm hfd1 hD hdn hr0 hr1
            have hX5 := HX5.out
            go_wp2_with fail
            refine HWY.out.mono ?_
            rintro e w6 ⟨v, ls, rfl, hown, hws, hb6⟩
            obtain ⟨vA, vc, rfl, hvl, hvc, -⟩ := own_form hown
            have HV6 := Lib.hid hown
            have HWS := Lib.hid hws
            have HC6 := Lib.hid (HC5.out.on hb6)
            have HX6 := Lib.hid ((hb6.cell (p := ⟨wr.heap.size, 0, none⟩) HXl5.out).trans HX5.out)
            have HL6 : Hid (wr.heap.size < w6.heap.size ∧ ls.length ≤ 1000000 ∧ w.heap.size ≤ w5.heap.size ∧ V + 1 < w5.heap.size ∧ Fd < w5.heap.size ∧ w5.heap.size ≤ w6.heap.size) := ⟨Nat.lt_of_lt_of_le HXl5.out hb6.size, by
              have := hws.2
              have := HBY.out.len HF.out
              have := HST.out.1
              omega, HC5.out.below.size, (Array.getElem?_eq_some_iff.1 HC5.out.res).1, by have := HPL.out; have := HXl5.out; omega, hb6.size⟩
            have HI6 := Lib.hid (HAF.out w6 HC6.out.below)
            have HFI := Lib.hid (first_ a A _ _ ca cb cc V (k : Int) w6 HC6.out.at_ HI6.out)
            obtain ⟨_, c0, c1, c2, c3, c4⟩ := HC6.out.at_
            have hX6 := HX6.out
            clear hown hws hb6 HWY hX5
            go_wp2_with fail
            refine HFI.out.mono ?_
            rintro e w7 ⟨rfl, rfl⟩
            clear HFI
            by_cases hk0 : (k : Int) ∈ a.fs
            · rw [decide_eq_true hk0]
              have HP : Hid (WdPost w a (.returned (.tuple #[.agg #[.slice none 0 0, .slice vA ls.length vc], .bool true])) (set2 w7 (V + 1) (.slice none 0 0) (.slice vA ls.length vc))) := by
                obtain ⟨A', c', e, hi⟩ := ints_set2 (V := V + 1) (base := w.heap.size) HV6.out HL6.out.2.1 HL6.out.2.2.2.1 HL6.out.2.2.1 (.slice none 0 0) (.slice vA ls.length vc)
                obtain ⟨rfl, rfl⟩ : vA = A' ∧ vc = c' := by simpa using e
                exact ⟨⟨none, vA, 0, vc, [], ls, true, rfl, ints_none, hi, by rw [if_pos rfl]; exact told_of HF.out HGT.out HBY.out HWS.out (.inl ⟨rfl, hk0⟩)⟩, below_set2 HC6.out.below (by have := HVV.out; omega) _ _⟩
              have hres := HC6.out.res
              obtain ⟨b0, b1, b2, b3⟩ : w7.cell? ⟨V + 1, 0, none⟩ = some (.slice none 0 0) ∧ w7.cell? ⟨V + 1, 1, none⟩ = some (.slice none 0 0) ∧ w7.frozen? ⟨V + 1, 0, none⟩ = false ∧ w7.frozen? ⟨V + 1, 1, none⟩ = false := by
                refine ⟨?_, ?_, ?_, ?_⟩ <;> simp [World.cell?, World.frozen?, hres]
              have HO1 := Lib.hid (set2_heap hres (.slice none 0 0) (.slice vA ls.length vc))
              unfold set2 at HP HO1
              clear hres hk0
              go_wp2_with fail
              exact bodyPost_ret (retLa Tryz.results70 _ _ (V + 1) rfl rfl HO1.out) rfl HP.out
            · rw [decide_eq_false hk0]
              have HK0 := Lib.hid hk0
              have HCL := Lib.hid (CloneO_ A ca a.fs w7 HI6.out)
              clear hk0
              go_wp2_with fail
              refine HCL.out.mono ?_
              rintro e w8 ⟨v8, rfl, hown8, hb8⟩
              have HC8 := Lib.hid (HC6.out.on hb8)
              have hX8 := (hb8.cell (p := ⟨wr.heap.size, 0, none⟩) HL6.out.1).trans HX6.out
              have hXl8 : wr.heap.size < w8.heap.size := Nat.lt_of_lt_of_le HL6.out.1 hb8.size
              have HV8 := Lib.hid (own_below HV6.out hb8)
              have HFN2 := Lib.hid (find_at a A _ _ ca cb cc w V VA Fd G out w8 wr.heap.size (k : Int) HC8.out hXl8 hX8 HPL.out HR.out.ss HF.out HST.out.1 HST.out.2.1 a.fs v8 ((QOwn.of hown8).low HC6.out.below.size) (fun x e => by
                have := ((QOwn.of hown8).lt x e).1
                have := HL6.out.1
                omega) HST.out.2.2)
              have HD8 : Hid (∀ x, v8.ownBlock = some x → w7.heap.size ≤ x) := fun x e => ((QOwn.of hown8).lt x e).1
              have HZ8 := Lib.hid hb8.size
              obtain ⟨A8, c8, rfl, hc8, hc8', -⟩ := own_form hown8
              clear hown8 hb8 HCL hX8 hXl8
              go_wp2_with fail
              refine HFN2.out.mono ?_
              intro e w9 hp
              obtain ⟨⟨r2, D2, M2, rfl, ⟨hby2, hfn2⟩, hbm2, hfd2⟩, hC9, hX9, hXl9, hs9, hk9⟩ := hp
              rcases hfn2 with ⟨D02, s2, hD2, hdn2, hr2, hr3⟩ | ⟨rfl, hno⟩
              · obtain rfl : r2 = (k : Int) := by simpa using hdn2
                have HC9 := Lib.hid hC9
                have HBY2 := Lib.hid hby2
                have HV9 : Hid (IntOwn w9 w5.heap.size (.slice vA ls.length vc) ls) := IntOwn.heap HV8.out fun x e => hk9 x (HV8.out.lt x e).2 (by have := (HV8.out.lt x e).1; have := HL6.out; omega) fun e' => by
                  have h1 := HD8.out x e'
                  have h2 := (HV6.out.lt x e).2
                  omega
                have HWY2 := Lib.hid (way_at a HF.out HST.out.1 D2 a.fs hby2 Fd M2 V 106 (fun x => decide (x ∈ a.fs)) (by simp) (k : Int) ⟨D02, s2, hD2⟩ w9 (by have := HPL.out; omega) hfd2 hbm2
                  (enters_of Tryz.func106 (by kernel_rfl) rfl) (fun W j hb => first_ a A _ _ ca cb cc V j W (HC9.out.on hb).at_ (HAF.out W (HC9.out.on hb).below)))
                have HS9 : Hid (w.heap.size ≤ w9.heap.size ∧ V + 1 < w9.heap.size) := ⟨HC9.out.below.size, (Array.getElem?_eq_some_iff.1 HC9.out.res).1⟩
                clear hby2 hbm2 hfd2 hD2 hdn2 hr2 hr3 hXl9 hs9 hk9 hC9 HFN2 c0 c1 c2 c3 c4
                go_wp2_with fail
                refine HWY2.out.mono ?_
                rintro e w10 ⟨v10, l10, rfl, hown10, hws10, hb10⟩
                obtain ⟨hA, hc, rfl, hhl, hhc, -⟩ := own_form hown10
                have HC10 := Lib.hid (HC9.out.on hb10)
                have HP : Hid (WdPost w a (.returned (.tuple #[.agg #[.slice hA l10.length hc, .slice vA ls.length vc], .bool true])) (set2 w10 (V + 1) (.slice hA l10.length hc) (.slice vA ls.length vc))) := by
                  obtain ⟨A', c', e, hi⟩ := ints_set2 (V := V + 1) (base := w.heap.size) (own_below HV9.out hb10) HL6.out.2.1 HL6.out.2.2.2.1 HL6.out.2.2.1 (.slice hA l10.length hc) (.slice vA ls.length vc)
                  obtain ⟨rfl, rfl⟩ : vA = A' ∧ vc = c' := by simpa using e
                  obtain ⟨A', c', e, hi2⟩ := ints_set2 (V := V + 1) (base := w.heap.size) hown10 (by
                    have := hws10.2
                    have := HBY2.out.len HF.out
                    have := HST.out.1
                    omega) HS9.out.2 HS9.out.1 (.slice hA l10.length hc) (.slice vA ls.length vc)
                  obtain ⟨rfl, rfl⟩ : hA = A' ∧ hc = c' := by simpa using e
                  exact ⟨⟨hA, vA, hc, vc, l10, ls, true, rfl, hi2, hi, by rw [if_pos rfl]; exact told_of HF.out HGT.out HBY.out HWS.out (.inr ⟨a.fs, D2, HBY2.out, hws10⟩)⟩, below_set2 HC10.out.below (by have := HVV.out; omega) _ _⟩
                have hres := HC10.out.res
                obtain ⟨b0, b1, b2, b3⟩ : w10.cell? ⟨V + 1, 0, none⟩ = some (.slice none 0 0) ∧ w10.cell? ⟨V + 1, 1, none⟩ = some (.slice none 0 0) ∧ w10.frozen? ⟨V + 1, 0, none⟩ = false ∧ w10.frozen? ⟨V + 1, 1, none⟩ = false := by
                  refine ⟨?_, ?_, ?_, ?_⟩ <;> simp [World.cell?, World.frozen?, hres]
                have HO1 := Lib.hid (set2_heap hres (.slice hA l10.length hc) (.slice vA ls.length vc))
                unfold set2 at HP HO1
                clear hres hown10 hws10 hb10
                go_wp2_with fail
                exact bodyPost_ret (retLa Tryz.results70 _ _ (V + 1) rfl rfl HO1.out) rfl HP.out
              · exfalso
                rcases HRT.out.plus with h | ⟨f, hf, h⟩
                · exact HK0.out h
                · have := hno f hf (k : Int) h
                  simp at this
          · have HN2 := Lib.hid (HSK.out fun h => by have := hno (k : Int) (by simp) _ h.2.2; simp at this)
            clear hby hno hbm hfd1
            go_wp2_with fail
            go_roundw
            case rel => exact ⟨k + 1, HX.out, by go_num, HC5.out, HN2.out⟩
            case measure => simp [intOf]; have := HX.out; omega
    · have q1 : ¬ (k : Int) < a.st := by have := HN.out; omega
      obtain rfl : k = N := by omega
      have hres := HC.out.res
      obtain ⟨b0, b1, b2, b3⟩ : wr.cell? ⟨V + 1, 0, none⟩ = some (.slice none 0 0) ∧ wr.cell? ⟨V + 1, 1, none⟩ = some (.slice none 0 0) ∧ wr.frozen? ⟨V + 1, 0, none⟩ = false ∧ wr.frozen? ⟨V + 1, 1, none⟩ = false := by
        refine ⟨?_, ?_, ?_, ?_⟩ <;> simp [World.cell?, World.frozen?, hres]
      have HP : Hid (WdPost w a (.returned (.tuple #[.agg #[.slice none 0 0, .slice none 0 0], .bool false])) (set2 wr (V + 1) (.slice none 0 0) (.slice none 0 0))) :=
        ⟨⟨none, none, 0, 0, [], [], false, rfl, ⟨Nat.le_refl _, by omega, by simp, Rd.nil⟩, ⟨Nat.le_refl _, by omega, by simp, Rd.nil⟩, by
          rw [if_neg (by decide)]
          refine ⟨rfl, rfl, none_takes HF.out fun q h0 h1 h2 h3 h4 => ?_⟩
          obtain ⟨j, rfl⟩ := Int.eq_ofNat_of_zero_le h0
          exact HNO.out j (by have := HN.out; omega) ⟨h2, h3, h4⟩⟩, below_set2 HC.out.below (by have := HVV.out; omega) _ _⟩
      have HO1 := Lib.hid (set2_heap hres (.slice none 0 0) (.slice none 0 0))
      unfold set2 at HP HO1
      clear hres
      go_wp2_with fail
      exact bodyPost_ret (retLa Tryz.results70 _ _ (V + 1) rfl rfl HO1.out) rfl HP.out
end Go.Proofs.YtoglgeaiiipchaaGreatDoor

namespace Go.Proofs.YtoglgeaiiipchaaGreatDoor
open Go Go.RowKit
end Go.Proofs.YtoglgeaiiipchaaGreatDoor
