import Derived.Test.YtoglgeaiiipchaaGreatDoorLMTKM30
import Derived.Test.YtoglgeaiiipchaaGreatDoorLMTKM32
import Derived.Test.YtoglgeaiiipchaaGreatDoorLMTKM27
import Derived.Test.YtoglgeaiiipchaaGreatDoorLMTKM34
import Derived.Deep.RegionLaw
import Derived.Test.YtoglgeaiiipchaaGreatDoorLMTKM1
import Derived.Deep.RegionHeld3
import Derived.Test.YtoglgeaiiipchaaGreatDoorLMTKM26
import Derived.Laws.IdiomStrings
import Derived.Test.YtoglgeaiiipchaaGreatDoorLMTKM7
import Derived.Test.YtoglgeaiiipchaaGreatDoorLMTKM3
set_option linter.unusedSimpArgs false
set_option linter.unusedVariables false
namespace Go.Proofs.YtoglgeaiiipchaaGreatDoor
open Go Go.RowKit Go.Sort Go.Shelf
structure HoPost (m : Mo) (f : List Nd) (w : World) (e : Ending) (w' : World) : Prop where
  is : ∃ (ok : Bool) (x : La) (H L : Option Addr) (ch cl : Nat), e = .returned (.tuple #[.bool ok, .agg #[.slice H x.h.length ch, .slice L x.l.length cl], .int .i64 (hoE m f)]) ∧ Ints w' 0 H ch x.h ∧ Ints w' 0 L cl x.l ∧ HoIs m f ok x
  below : Below w.heap.size w w'
theorem retLa5 {fn : Func} (h : fn.results = #[.tmp 4, .cell 5 27, .tmp 6]) (tmps : Array Value) (w : World) (V : Nat) {v0 v1 x y : Value} (hx : tmps[4]? = some x) (hp : tmps[5]? = some (.pointer (some ⟨V, 0, none⟩))) (hy : tmps[6]? = some y)
    (ho : w.heap[V]? = some (.cells #[v0, v1] 27 (0, 0))) : (results fn tmps).run Tryz.prog w = .ok (.tuple #[x, .agg #[v0, v1], y]) w := by
  have r0 : w.cell? ⟨V, 0, none⟩ = some v0 := by simp [World.cell?, ho]
  have r1 : w.cell? ⟨V, 1, none⟩ = some v1 := by simp [World.cell?, ho]
  simp [results, h, go_sem, hp, hx, hy, r0, r1]
theorem moh_cells {W : World} {V : Nat} {v0 v1 : Value} (h : W.heap[V]? = some (.cells #[v0, v1] 27 (0, 0))) : W.cell? ⟨V, 0, none⟩ = some v0 ∧ W.cell? ⟨V, 1, none⟩ = some v1 ∧ W.frozen? ⟨V, 0, none⟩ = false ∧ W.frozen? ⟨V, 1, none⟩ = false := by
  refine ⟨?_, ?_, ?_, ?_⟩ <;> simp [World.cell?, World.frozen?, h]
theorem moh_ints {W : World} {lo V : Nat} {A : Option Addr} {c : Nat} {xs : List Int} (h : Ints W lo A c xs) (hV : V < lo) (v0 v1 : Value) : Ints (set2 W V v0 v1).drew 0 A c xs := by
  refine ⟨h.le, h.cap, h.max, fun hx => ?_⟩
  obtain ⟨b, off, h1, h2, h3, h4⟩ := h.rd hx
  have hs : (set2 W V v0 v1).drew.heap.size = W.heap.size := by simp [set2, World.setCell]
  refine ⟨b, off, h1, Nat.zero_le _, by rw [hs]; exact h3, fun j u hj => ?_⟩
  have := h4 j u hj
  have h5 : (set2 W V v0 v1).drew.cell? ⟨b, off + j, none⟩ = (set2 W V v0 v1).cell? ⟨b, off + j, none⟩ := by simp
  rw [h5]
  rwa [cell_of_heap (set2_far W V v0 v1 (show b ≠ V by omega))]
theorem ho_err {m : Mo} {f : List Nd} (h : hoE m f ≠ 0) : HoIs m f false ⟨[], []⟩ := by unfold HoIs; rw [if_neg h]; exact ⟨rfl, rfl⟩
set_option maxRecDepth 100000 in
set_option maxHeartbeats 8000000 in
theorem modelHolds_ (m : Mo) (hraw : ckM m = 0 → (moRaw m m.ls.length).length ≤ 2000000) (f : List Nd) (A B C F : Option Addr) (ca cb cc fc : Nat) (vs : List RwS) (w : World) (hr : MoRd w 0 m A B C ca cb cc vs) (hf : Nds w 0 F fc f) :
    Calls Tryz.prog 37 #[.agg #[.int .i64 m.pr, .slice A m.ls.length ca, .slice B m.fs.length cb, .slice C m.ss.length cc], .slice F f.length fc] w (HoPost m f w) := by
  have HW := moW_is w m A B C ca cb cc
  have hal : Below (moW w m A B C ca cb cc).heap.size (moW w m A B C ca cb cc) ((moW w m A B C ca cb cc).alloc (Obj.cells #[.slice none 0 0, .slice none 0 0] 27)) := (Below.refl _ _).alloc (Nat.le_refl _) _
  have HT := Lib.hid (World.alloc_heap_new (moW w m A B C ca cb cc) (Obj.cells #[.slice none 0 0, .slice none 0 0] 27))
  rw [HW.size] at HT
  have HB0 := Lib.hid (Below_on HW.below hal HW.below.size)
  have HV0 := Lib.hid (HW.at_.below hal HW.at_.lt)
  have HR := Lib.hid (fun W (hW : Below w.heap.size w W) => hr.below hW)
  have HF := Lib.hid (fun W (hW : Below w.heap.size w W) => hf.below hW)
  have HRAW := Lib.hid hraw
  clear hr HW hal hraw hf
  go_enter Tryz.func37, Tryz.ntmps37
  go_upto_region 1 with fail
  change Code.wp _ _ _ _ ((moW w m A B C ca cb cc).alloc (Obj.cells #[.slice none 0 0, .slice none 0 0] 27))
  generalize (moW w m A B C ca cb cc).alloc (Obj.cells #[.slice none 0 0, .slice none 0 0] 27) = W0 at *
  obtain ⟨V, hV⟩ : ∃ V, V = w.heap.size := ⟨_, rfl⟩
  have HVV := Lib.hid hV
  rw [← hV] at HV0 HT ⊢
  clear hV
  obtain ⟨_, c0, c1, c2, c3⟩ := HV0.out
  have HCK := Lib.hid (modelCheck_ m A B C ca cb cc vs W0 (HR.out _ HB0.out))
  go_upto_region 2 with (first
    | (go_at_call 9; refine HCK.out.mono ?_; rintro e w2 ⟨rfl, hb2⟩))
  have HALL : Hid (∀ W, Below w2.heap.size w2 W → Below w.heap.size w W ∧ MoAt W V m A B C ca cb cc ∧ W.heap[V + 1]? = some (.cells #[.slice none 0 0, .slice none 0 0] 27 (0, 0)) ∧ MoRd W 0 m A B C ca cb cc vs ∧ Nds W 0 F fc f) := fun W hW => by
    have h1 := Below_on hb2 hW hb2.size
    have h2 := Below_on HB0.out h1 HB0.out.size
    exact ⟨h2, HV0.out.below h1 HV0.out.lt, (h1.block _ (Array.getElem?_eq_some_iff.1 HT.out).1).trans HT.out, HR.out _ h2, HF.out _ h2⟩
  have hV1 : w.heap.size ≤ V + 1 := by rw [HVV.out]; omega
  clear c0 c1 c2 c3 hb2 HCK HT HV0 HB0 HR HF
  by_cases h0 : ckM m = 0
  · have HH0 := Lib.hid h0
    have HE : Hid (hoE m f = negE f) := by show _ = _; unfold hoE; rw [if_pos h0]
    have HNG := Lib.hid (Negate_ F fc f w2 (HALL.out _ (Below.refl _ _)).2.2.2.2)
    rw [h0]
    clear h0
    go_upto_region 5 with (first
      | (go_at_call 25; refine HNG.out.mono ?_; rintro e w3 ⟨GA, gc, rfl, hg, hb3⟩))
    have HB3 := Lib.hid hb3
    have HG := Lib.hid hg
    clear hb3 hg HNG
    by_cases he : negE f = 0
    · have HEE := Lib.hid he
      rw [he]
      clear he
      go_upto_region 7 with fail
      obtain ⟨_, c0, c1, c2, c3⟩ := (HALL.out _ HB3.out).2.1
      have hM := ckM_ok HH0.out
      have hok : FmOK (negF f) := ckF_zero.1 (neg_ck (neg_ok HEE.out) HEE.out)
      have HOF := Lib.hid (of_ m hM (HRAW.out HH0.out) A B C ca cb cc vs w3 (HALL.out _ HB3.out).2.2.2.1)
      have HOK := Lib.hid hok
      have HMM := Lib.hid hM
      clear hok hM
      go_wp2_with fail
      refine HOF.out.mono ?_
      rintro e w4 ⟨A4, B4, C4, ca4, cb4, cc4, rfl, hrd4, hb4⟩
      have HB4 := Lib.hid (Below_on HB3.out hb4 HB3.out.size)
      have HR4 := Lib.hid (hrd4.low (Nat.zero_le _))
      have HG4 := Lib.hid ((HG.out.low (Nat.zero_le _)).below hb4)
      clear hrd4 hb4 HOF c0 c1 c2 c3
      have HRW := Lib.hid (Raw_ (negF f) HOK.out GA gc w4 HG4.out)
      go_wp2_with fail
      refine HRW.out.mono ?_
      rintro e w5 ⟨r, A5, B5, C5, ca5, cb5, cc5, hS, rfl, hrd5, hb5⟩
      have HB5 := Lib.hid (Below_on HB4.out hb5 HB4.out.size)
      have HS := Lib.hid hS
      have HR4' := Lib.hid (HR4.out.below hb5)
      have HR5 := Lib.hid (hrd5.low (Nat.zero_le _))
      clear hS hrd5 hb5 HRW HR4 HB4 HG4
      have hrfit : AuFit r := by
        obtain ⟨o, s⟩ := ckA_zero.1 HS.out.ok
        exact o.fit s
      have HPR := Lib.hid (Pair_ (moA m) r A4 B4 C4 A5 B5 C5 ca4 cb4 cc4 ca5 cb5 cc5 w5 HR4'.out HR5.out (moA_fit HMM.out) hrfit (by
        have h1 := hoP_st HMM.out HS.out.few hrfit.st1
        exact Int.le_trans h1 (by decide)) (Nat.le_trans (mo_few HMM.out) (by decide)) (Nat.le_trans HS.out.fewS (by decide)) (Nat.le_trans (ho_steps HMM.out HS.out.fewS) (by decide)))
      go_wp2_with fail
      refine HPR.out.mono ?_
      rintro e w6 ⟨A6, B6, C6, ca6, cb6, cc6, rfl, hrd6, hb6⟩
      have HB6 := Lib.hid (Below_on HB5.out hb6 HB5.out.size)
      have HR6 : Hid (AuRd w6 0 (hoP m r) A6 B6 C6 ca6 cb6 cc6) := hrd6.low (Nat.zero_le _)
      have HWD := Lib.hid (Word_ (hoP m r) A6 B6 C6 ca6 cb6 cc6 w6 HR6.out (hoP_fit HMM.out HS.out.ok) (Int.le_trans (hoP_st HMM.out HS.out.few hrfit.st1) (by decide)) (hoP_ss HMM.out HS.out.fewS))
      change Hid (Calls _ _ _ _ _) at HWD
      clear hrd6 hb6 HPR HR4' HR5 HB5 hrfit
      go_wp2_with fail
      refine HWD.out.mono ?_
      rintro e w7 ⟨⟨H, L, ch, cl, hl, ll, b, rfl, hH, hL, hif⟩, hb7⟩
      have hb8 : Below w7.heap.size w7 (w7.alloc (Obj.cells #[.slice H hl.length ch, .slice L ll.length cl] 27)) := (Below.refl _ _).alloc (Nat.le_refl _) _
      have HB8 := Lib.hid (Below_on (Below_on HB6.out hb7 HB6.out.size) hb8 (Nat.le_trans HB6.out.size hb7.size))
      have HX := Lib.hid (World.alloc_heap_new w7 (Obj.cells #[.slice H hl.length ch, .slice L ll.length cl] 27))
      have HIH := Lib.hid (hH.below hb8)
      have HIL := Lib.hid (hL.below hb8)
      have HIS := Lib.hid (ho_is (f := f) HH0.out HEE.out HS.out hif)
      clear hb7 hb8 hH hL hif HWD HR6
      go_upto_region 8 with fail
      obtain ⟨X, hX⟩ : ∃ X, X = w7.heap.size := ⟨_, rfl⟩
      rw [← hX] at HX ⊢
      have HXL : Hid (V + 1 < w6.heap.size) := by
        have := (Array.getElem?_eq_some_iff.1 (HALL.out _ HB6.out).2.2.1).1
        exact this
      clear hX
      generalize w7.alloc (Obj.cells #[.slice H hl.length ch, .slice L ll.length cl] 27) = w8 at *
      obtain ⟨hb9, _, hres, _, _⟩ := HALL.out _ HB8.out
      have HP : Hid (HoPost m f w (.returned (.tuple #[.bool (!b), .agg #[.slice H hl.length ch, .slice L ll.length cl], .int .i64 0])) (set2 w8 (V + 1) (.slice H hl.length ch) (.slice L ll.length cl)).drew) :=
        ⟨⟨!b, ⟨hl, ll⟩, H, L, ch, cl, by rw [HE.out, HEE.out], moh_ints HIH.out (by have := HXL.out; have := HIH.out; omega) _ _, moh_ints HIL.out HXL.out _ _, HIS.out⟩, (below_set2 hb9 hV1 _ _).drew⟩
      have hst := set2_heap hres (.slice H hl.length ch) (.slice L ll.length cl)
      have HO1 : Hid ((set2 w8 (V + 1) (.slice H hl.length ch) (.slice L ll.length cl)).drew.heap[V + 1]? = _) := hst
      obtain ⟨z0, z1, z2, z3⟩ := moh_cells hres
      obtain ⟨x0, x1, x2, x3⟩ := moh_cells HX.out
      unfold set2 at HP HO1
      clear hb9 hres hst HX HIH HIL HIS HB8
      go_region_law
      simp only [Act.put, List.setIfInBounds_toArray, List.set_cons_zero, List.set_cons_succ]
      go_wp2_with fail
      exact bodyPost_ret (retLa5 (x := .bool (!b)) (y := .int .i64 0) Tryz.results37 _ _ (V + 1) rfl rfl rfl HO1.out) rfl HP.out
    · have he' : (negE f != 0) = true := by simp [he]
      obtain ⟨hb4, hat, hres, _, _⟩ := HALL.out _ HB3.out
      have hset := set2_heap hres (.slice none 0 0) (.slice none 0 0)
      have HP : Hid (HoPost m f w (.returned (.tuple #[.bool false, .agg #[.slice none 0 0, .slice none 0 0], .int .i64 (negE f)])) (set2 w3 (V + 1) (.slice none 0 0) (.slice none 0 0))) :=
        ⟨⟨false, ⟨[], []⟩, none, none, 0, 0, by rw [HE.out]; rfl, ints_none, ints_none, ho_err (by rw [HE.out]; exact he)⟩, below_set2 hb4 hV1 _ _⟩
      have HO1 := Lib.hid hset
      obtain ⟨b0, b1, b2, b3⟩ := moh_cells hres
      unfold set2 at HP HO1
      clear hb4 hat hres hset he
      go_wp2_with fail
      exact bodyPost_ret (retLa5 (x := .bool false) (y := .int .i64 (negE f)) Tryz.results37 _ _ (V + 1) rfl rfl rfl HO1.out) rfl HP.out
  · have h0' : (ckM m != 0) = true := by simp [h0]
    have HE : Hid (hoE m f = ckM m) := by show _ = _; unfold hoE; rw [if_neg h0]
    obtain ⟨hb4, hat, hres, _, _⟩ := HALL.out _ (Below.refl _ _)
    have hset := set2_heap hres (.slice none 0 0) (.slice none 0 0)
    have HP : Hid (HoPost m f w (.returned (.tuple #[.bool false, .agg #[.slice none 0 0, .slice none 0 0], .int .i64 (ckM m)])) (set2 w2 (V + 1) (.slice none 0 0) (.slice none 0 0))) :=
      ⟨⟨false, ⟨[], []⟩, none, none, 0, 0, by rw [HE.out]; rfl, ints_none, ints_none, ho_err (by rw [HE.out]; exact h0)⟩, below_set2 hb4 hV1 _ _⟩
    have HO1 := Lib.hid hset
    obtain ⟨b0, b1, b2, b3⟩ := moh_cells hres
    unfold set2 at HP HO1
    clear hb4 hat hres hset h0
    go_wp2_with fail
    exact bodyPost_ret (retLa5 (x := .bool false) (y := .int .i64 (ckM m)) Tryz.results37 _ _ (V + 1) rfl rfl rfl HO1.out) rfl HP.out
end Go.Proofs.YtoglgeaiiipchaaGreatDoor

namespace Go.Proofs.YtoglgeaiiipchaaGreatDoor
open Go Go.RowKit
def waitsFor (md : Region.Mode) (ops : Array Oper) (i : Nat) : List Nat := match ops[i]? with | some o => (o.after.toList.filter fun e => Region.binds md e).map (·.on) | none => []
def dstOf (ops : Array Oper) (i : Nat) : Option Tmp := (ops[i]?).bind (·.dst)
def looksOf (ops : Array Oper) (i : Nat) : List Tmp := match ops[i]? with | some o => o.looksAt ops | none => []
def looksB (ops : Array Oper) (i j : Nat) : Bool := match dstOf ops j with | some d => (looksOf ops i).contains d | none => false
def sameDst (ops : Array Oper) (i j : Nat) : Bool := match dstOf ops j with | some d => dstOf ops i == some d | none => false
def freeFrom (md : Region.Mode) (ops : Array Oper) (listed : Array Bool) : List Nat → List Nat → Bool
  | _, [] => true
  | seen, i :: l => ((waitsFor md ops i).all fun j => listed.getD j false || seen.contains j) && !seen.contains i &&
      (seen.all fun j => !looksB ops i j || (waitsFor md ops i).contains j) && (seen.all fun j => !looksB ops j i && !sameDst ops i j && !sameDst ops j i) && !looksB ops i i && freeFrom md ops listed (seen ++ [i]) l
def freeB (md : Region.Mode) (ops : Array Oper) (listed : Array Bool) (todo : List Nat) : Bool :=
  Region.noSelect ops && (listed.size == ops.size) && ((List.range ops.size).all fun i => listed.getD i false || todo.contains i) && (todo.all fun i => decide (i < ops.size) && !listed.getD i true) && freeFrom md ops listed [] todo
section
variable {P : Program} {ops : Array Oper} {md : Region.Mode} {Q : Exit → Act → World → Prop} {S : World → Prop}
structure Free (md : Region.Mode) (ops : Array Oper) (listed : Array Bool) (todo : List Nat) : Prop where
  nosel : Region.noSelect ops = true
  size : listed.size = ops.size
  all : ∀ i, i < ops.size → listed.getD i false = true ∨ i ∈ todo
  lt : ∀ i ∈ todo, i < ops.size ∧ listed.getD i true = false
  wait : ∀ l i r, todo = l ++ i :: r → (∀ j ∈ waitsFor md ops i, listed.getD j false = true ∨ j ∈ l) ∧ (∀ j ∈ l, looksB ops i j = true → j ∈ waitsFor md ops i) ∧ (∀ j ∈ l, looksB ops j i = false ∧ sameDst ops i j = false ∧ sameDst ops j i = false) ∧ looksB ops i i = false
  nodup : todo.Nodup
theorem freeFrom_spec {listed : Array Bool} : ∀ (todo seen : List Nat), freeFrom md ops listed seen todo = true → (∀ l i r, todo = l ++ i :: r → (∀ j ∈ waitsFor md ops i, listed.getD j false = true ∨ j ∈ seen ++ l) ∧ (∀ j ∈ seen ++ l, looksB ops i j = true → j ∈ waitsFor md ops i) ∧ (∀ j ∈ seen ++ l, looksB ops j i = false ∧ sameDst ops i j = false ∧ sameDst ops j i = false) ∧ looksB ops i i = false) ∧ todo.Nodup ∧ ∀ i ∈ todo, i ∉ seen
  | [], seen, _ => ⟨fun l i r h => by simp at h, .nil, fun i h => by simp at h⟩
  | k :: todo, seen, h => by
    unfold freeFrom at h
    simp only [Bool.and_eq_true, List.all_eq_true, Bool.or_eq_true, List.contains_iff_mem, Bool.not_eq_true', Bool.not_eq_eq_eq_not, Bool.not_true] at h
    obtain ⟨⟨⟨⟨⟨h1, h2⟩, h3⟩, h4⟩, h5⟩, h6⟩ := h
    have h2 : k ∉ seen := by simpa using h2
    obtain ⟨i1, i2, i3⟩ := freeFrom_spec todo (seen ++ [k]) h6
    refine ⟨fun l i r he => ?_, List.nodup_cons.2 ⟨fun hm => i3 k hm (by simp), i2⟩, fun i hi => ?_⟩
    · cases l with
      | nil =>
        simp only [List.nil_append, List.cons.injEq] at he
        obtain ⟨rfl, rfl⟩ := he
        rw [List.append_nil]
        exact ⟨h1, fun j hj hl => (h3 j hj).resolve_left (by simp [hl]), fun j hj => ⟨(h4 j hj).1.1, (h4 j hj).1.2, (h4 j hj).2⟩, h5⟩
      | cons q l =>
        simp only [List.cons_append, List.cons.injEq] at he
        obtain ⟨rfl, rfl⟩ := he
        have := i1 l i r rfl
        simpa only [List.append_assoc, List.singleton_append] using this
    · rcases List.mem_cons.1 hi with rfl | hi
      · exact h2
      · exact fun hs => i3 i hi (List.mem_append_left _ hs)
theorem free_spec {listed : Array Bool} {todo : List Nat} (h : freeB md ops listed todo = true) : Free md ops listed todo := by
  unfold freeB at h
  simp only [Bool.and_eq_true, List.all_eq_true, Bool.or_eq_true, List.contains_iff_mem, beq_iff_eq, List.mem_range, decide_eq_true_eq, Bool.not_eq_true', Bool.not_eq_eq_eq_not, Bool.not_true] at h
  obtain ⟨⟨⟨⟨h1, h2⟩, h3⟩, h4⟩, h5⟩ := h
  obtain ⟨i1, i2, _⟩ := freeFrom_spec _ _ h5
  exact ⟨h1, h2, h3, h4, fun l i r he => by simpa using i1 l i r he, i2⟩
end
end Go.Proofs.YtoglgeaiiipchaaGreatDoor

namespace Go.Proofs.YtoglgeaiiipchaaGreatDoor
open Go Go.RowKit Go.Sort
end Go.Proofs.YtoglgeaiiipchaaGreatDoor

namespace Go.Proofs.YtoglgeaiiipchaaGreatDoor
open Go Go.RowKit
theorem size_show (t : Fm) : t.size ≤ t.show.length := by
  induction t with
  | tt => simp [Fm.size, Fm.show]
  | pr n => simp [Fm.size, Fm.show]
  | no a ih => simp [Fm.size, Fm.show]; omega
  | nx a ih => simp [Fm.size, Fm.show]; omega
  | bi k x y ihx ihy => simp [Fm.size, Fm.show]; omega
theorem needs_bad {s r : List UInt8} {c : UInt8} {i : Nat} (h : ¬ (i < s.length ∧ chr s i = c)) : needs s (c :: r) i = .error i := by
  unfold needs
  rw [if_neg h]
theorem needs_good {s r : List UInt8} {c : UInt8} {i : Nat} (h : i < s.length) (h' : chr s i = c) : needs s (c :: r) i = needs s r (i + 1) := by
  conv => lhs; unfold needs
  rw [if_pos ⟨h, h'⟩]
theorem below_grown {w w' : World} {row : Option Nat} (hb : Below w.heap.size w w') : w.grownBy w' row := ⟨hb.os, hb.tape, hb.output, hb.size, fun k hk _ => hb.block k hk⟩
theorem neForms {a n : UInt8} (h : ¬ a = n) : ((a.toNat : Int) != (n.toNat : Int)) = true ∧ ((a.toNat : Int) == (n.toNat : Int)) = false ∧ ¬ (a.toNat : Int) = (n.toNat : Int) ∧ ¬ a.toNat = n.toNat := by
  have h0 : ¬ a.toNat = n.toNat := fun h' => h (UInt8.toNat_inj.1 h')
  have h1 : ¬ (a.toNat : Int) = (n.toNat : Int) := fun h' => h0 (by omega)
  exact ⟨by simpa using h1, by simpa using h1, h1, h0⟩
def ttRes (r : Except Nat Nat) : Except Nat (Fm × Nat) := match r with | .error e => .error e | .ok j => .ok (.tt, j)
def pairE (s : List UInt8) (a : Fm) (kn : Int) (r : Except Nat (Fm × Nat)) : Except Nat (Fm × Nat) :=
  match r with
  | .error e => .error e
  | .ok (b, j3) => match needs s [41] j3 with | .error e => .error e | .ok j4 => .ok (.bi kn a b, j4)
def pairR (s : List UInt8) (m : Nat) (a : Fm) (j : Nat) : Except Nat (Fm × Nat) :=
  match needs s [32] j with
  | .error e => .error e
  | .ok j1 =>
    if j1 < s.length ∧ kndAt (chr s j1) ≠ 0 then
      (match needs s [32] (j1 + 1) with
      | .error e => .error e
      | .ok j2 => pairE s a (kndAt (chr s j1)) (prs s m j2))
    else .error j1
theorem prs_pair {s : List UInt8} {m i j : Nat} {a : Fm} (hlt : i < s.length) (h40 : chr s i = 40) (hr : prs s m (i + 1) = .ok (a, j)) : prs s (m + 1) i = pairR s m a j := by
  unfold prs pairR
  rw [if_neg (by omega), if_neg (by rw [h40]; decide), if_neg (by rw [h40]; decide), if_neg (by rw [h40]; decide), if_neg (by rw [h40]; decide), if_pos h40, hr]
  simp only
  cases needs s [32] j with
  | error e => rfl
  | ok j1 =>
    simp only
    by_cases h : j1 < s.length ∧ kndAt (chr s j1) ≠ 0
    · rw [if_pos h, if_pos h]
      cases needs s [32] (j1 + 1) with
      | error e => rfl
      | ok j2 =>
        simp only
        unfold pairE
        cases prs s m j2 with
        | error e => rfl
        | ok q =>
          obtain ⟨b, j3⟩ := q
          simp only
          cases needs s [41] j3 <;> rfl
    · rw [if_neg h, if_neg h]
theorem pairR_e2 {s : List UInt8} {m j : Nat} {a : Fm} (h1 : j < s.length ∧ chr s j = 32) (h2 : ¬ (j + 1 < s.length ∧ kndAt (chr s (j + 1)) ≠ 0)) : pairR s m a j = .error (j + 1) := by
  unfold pairR
  rw [needs_good h1.1 h1.2]
  simp only [needs]
  rw [if_neg h2]
theorem pairR_e3 {s : List UInt8} {m j : Nat} {a : Fm} (h1 : j < s.length ∧ chr s j = 32) (h2 : j + 1 < s.length) (h3 : kndAt (chr s (j + 1)) ≠ 0) (h4 : ¬ (j + 2 < s.length ∧ chr s (j + 2) = 32)) : pairR s m a j = .error (j + 2) := by
  unfold pairR
  rw [needs_good h1.1 h1.2]
  have : needs s [32] (j + 1 + 1) = .error (j + 2) := needs_bad h4
  simp only [needs] at this ⊢
  rw [if_pos ⟨h2, h3⟩, this]
theorem pairR_ok {s : List UInt8} {m j : Nat} {a : Fm} (h1 : j < s.length ∧ chr s j = 32) (h2 : j + 1 < s.length) (h3 : kndAt (chr s (j + 1)) ≠ 0) (h4 : j + 2 < s.length ∧ chr s (j + 2) = 32) :
    pairR s m a j = pairE s a (kndAt (chr s (j + 1))) (prs s m (j + 3)) := by
  unfold pairR
  rw [needs_good h1.1 h1.2]
  have : needs s [32] (j + 1 + 1) = .ok (j + 3) := (needs_good h4.1 h4.2).trans rfl
  simp only [needs] at this ⊢
  rw [if_pos ⟨h2, h3⟩, this]
end Go.Proofs.YtoglgeaiiipchaaGreatDoor

namespace Go.Proofs.YtoglgeaiiipchaaGreatDoor
open Go Go.RowKit Go.Sort
structure PsAt (X : Nat) (S : ByteArray) (i : Nat) (o : List Nd) (W : World) : Prop where
  lt : X < W.heap.size
  c0 : W.cell? ⟨X, 0, none⟩ = some (.string S)
  c1 : W.cell? ⟨X, 1, none⟩ = some (.int .i64 (i : Int))
  f1 : W.frozen? ⟨X, 1, none⟩ = false
  f2 : W.frozen? ⟨X, 2, none⟩ = false
  own : ∃ T c, W.cell? ⟨X, 2, none⟩ = some (.slice T o.length c) ∧ W.ownsRow (X + 1) 63 4 (.slice T o.length c) o.length (o.flatMap Nd.cells)
theorem PsAt.below {X : Nat} {S : ByteArray} {i : Nat} {o : List Nd} {W W' : World} (h : PsAt X S i o W) (hb : Below W.heap.size W W') : PsAt X S i o W' := by
  obtain ⟨T, c, h1, h2⟩ := h.own
  exact ⟨Nat.lt_of_lt_of_le h.lt hb.size, (hb.cell (p := ⟨X, 0, none⟩) h.lt).trans h.c0, (hb.cell (p := ⟨X, 1, none⟩) h.lt).trans h.c1, (hb.frozen (p := ⟨X, 1, none⟩) h.lt).trans h.f1, (hb.frozen (p := ⟨X, 2, none⟩) h.lt).trans h.f2,
    T, c, (hb.cell (p := ⟨X, 2, none⟩) h.lt).trans h1, own_below h2 hb⟩
theorem PsAt.to {X : Nat} {S : ByteArray} {i : Nat} {o : List Nd} {W : World} (h : PsAt X S i o W) (j : Nat) : PsAt X S j o (W.setCell ⟨X, 1, none⟩ (.int .i64 (j : Int))) := by
  obtain ⟨T, c, h1, h2⟩ := h.own
  refine ⟨by simpa [World.setCell] using h.lt, ?_, ?_, ?_, ?_, T, c, ?_, ?_⟩
  · exact (World.cell?_setCell_other _ ⟨X, 1, none⟩ ⟨X, 0, none⟩ _ (by simp)).trans h.c0
  · exact World.cell?_setCell_same' _ _ _ (by rw [h.c1]; rfl)
  · rw [World.frozen?_setCell]; exact h.f1
  · rw [World.frozen?_setCell]; exact h.f2
  · exact (World.cell?_setCell_other _ ⟨X, 1, none⟩ ⟨X, 2, none⟩ _ (by simp)).trans h1
  · exact ownsRow_setCell_below h2 (Nat.lt_succ_self X) _
theorem set_below {X o : Nat} {W : World} (v : Value) : Below X W (W.setCell ⟨X, o, none⟩ v) := (Below.refl X W).setCell (p := ⟨X, o, none⟩) (Nat.le_refl _) _
def placeP (j : Nat) : Ending := .panicked [{ v := .iface 188 (.int .i64 (j : Int)), recovered := false }]
set_option maxRecDepth 100000 in
theorem sign_at (X : Nat) (s : List UInt8) (S : ByteArray) (hS : S.size = s.length) (hG : ∀ (i : Nat) (h : i < S.size), S[i]'h = chr s i) (hs : s.length ≤ 100000) (i : Nat) (o : List Nd) (W : World) (hp : PsAt X S i o W) :
    Calls Tryz.prog 164 #[.pointer (some ⟨X, 0, none⟩)] W fun e w' => e = .returned (.int .u8 ((chr s i).toNat : Int)) ∧ Below W.heap.size W w' := by
  obtain ⟨hx, c0, c1, -, -, -⟩ := hp
  by_cases hlt : i < s.length
  · have b0' : (i : Int) < (s.length : Int) := by omega
    have b0 : i < S.size := by omega
    have g0 := hG i b0
    clear hG
    generalize chr s i = ch at *
    go_enter Tryz.func164, Tryz.ntmps164
    go_wp2_with fail
    go_quiet (fail)
    go_wp2_with fail
    go_quiet (fail)
    go_wp2_with fail
    go_ret
    exact ⟨rfl, below_drewN (below_drewN (Below.refl _ _) _) _⟩
  · have hz : Hid (chr s i = 0) := by
      show _ = _
      unfold chr
      rw [List.getD_eq_getElem?_getD, List.getElem?_eq_none (by omega)]
      rfl
    have b1 : (s.length : Int) ≤ (i : Int) := by omega
    have b2 : decide ((i : Int) < (s.length : Int)) = false := by simp; omega
    clear hG
    go_enter Tryz.func164, Tryz.ntmps164
    go_wp2_with fail
    go_quiet (fail)
    go_wp2_with fail
    go_ret
    exact ⟨by rw [hz.out]; rfl, below_drewN (Below.refl _ _) _⟩
def NeedPost (X : Nat) (S : ByteArray) (o : List Nd) (W : World) (r : Except Nat Nat) (e : Ending) (w' : World) : Prop :=
  Below X W w' ∧ match r with
  | .ok j => e = .returned (.tuple #[]) ∧ PsAt X S j o w'
  | .error j => e = placeP j
theorem needs_drop {s r : List UInt8} {k i : Nat} (hk : k < r.length) : needs s (r.drop k) (i + k) = if i + k < s.length ∧ chr s (i + k) = chr r k then needs s (r.drop (k + 1)) (i + k + 1) else .error (i + k) := by
  have : chr r k = r[k] := by
    unfold chr
    rw [List.getD_eq_getElem?_getD, List.getElem?_eq_getElem hk]
    rfl
  rw [List.drop_eq_getElem_cons hk, this]
  rfl
set_option maxRecDepth 100000 in
set_option maxHeartbeats 1000000 in
theorem need_ (X : Nat) (s : List UInt8) (S : ByteArray) (hS : S.size = s.length) (hG : ∀ (i : Nat) (h : i < S.size), S[i]'h = chr s i) (hs : s.length ≤ 100000) (r : List UInt8) (R : ByteArray) (hR : R.size = r.length) (hGR : ∀ (i : Nat) (h : i < R.size), R[i]'h = chr r i) (hr : r.length ≤ 100)
    (i : Nat) (o : List Nd) (W : World) (hi : i ≤ s.length) (hp : PsAt X S i o W) :
    Calls Tryz.prog 165 #[.pointer (some ⟨X, 0, none⟩), .string R] W (NeedPost X S o W (needs s r i)) := by
  have HP := Lib.hid hp
  have HGR := Lib.hid hGR
  have HSG := Lib.hid (fun i o W hp => sign_at X s S hS hG hs i o W hp)
  clear hp hG hGR
  go_enter Tryz.func165, Tryz.ntmps165
  go_wp2_with fail
  go_loopw [7] (fun s7 wr => ∃ k : Nat, k ≤ r.length ∧ i + k ≤ s.length ∧ s7 = .int .i64 (k : Int) ∧ Hid (PsAt X S (i + k) o wr ∧ Below X W wr ∧ needs s r i = needs s (r.drop k) (i + k))) (fun s7 _ => r.length - (intOf s7).toNat)
  case atStart => exact ⟨0, Nat.zero_le _, hi, rfl, HP.out, Below.refl _ _, rfl⟩
  case round =>
    obtain ⟨k, hk, hik, rfl, HR⟩ := hrel
    by_cases hlt : k < r.length
    · have q1 : (k : Int) < (r.length : Int) := by omega
      have q2 : k < R.size := by omega
      have g1 := HGR.out k q2
      have HN : Hid (needs s r i = if i + k < s.length ∧ chr s (i + k) = chr r k then needs s (r.drop (k + 1)) (i + k + 1) else .error (i + k)) := HR.out.2.2.trans (needs_drop hlt)
      have HSI := Lib.hid (regrown_call (w := wr) fun W2 h2 => HSG.out (i + k) o W2 (HR.out.1.below h2))
      obtain ⟨hx, c0, c1, f1, f2, -⟩ := HR.out.1
      obtain ⟨p, hpe⟩ : ∃ p, p = i + k := ⟨_, rfl⟩
      rw [← hpe] at HN HSI hik c1
      have HPE := Lib.hid hpe
      clear hpe
      have e1 := cell_regrown (w := wr) (a := ⟨X, 1, none⟩) (v := .int .i64 (p : Int)) c1
      have e0 := cell_regrown (w := wr) (a := ⟨X, 0, none⟩) (v := .string S) c0
      have HBX : Hid (∀ w', Below wr.heap.size wr w' → PsAt X S p o w' ∧ Below X W w') := fun w' hb => by rw [HPE.out]; exact ⟨HR.out.1.below hb, Below_on HR.out.2.1 hb (Nat.le_of_lt HR.out.1.lt)⟩
      clear HSG HP
      by_cases hc : chr s p = chr r k
      · rw [hc] at HSI
        rw [hc] at HN
        generalize chr r k = ch at *
        have hd : ((ch.toNat : Int) != (ch.toNat : Int)) = false := by simp
        by_cases he : p = s.length
        · have HN2 : Hid (needs s r i = .error p) := by rw [HN.out, if_neg (fun h => by omega)]; rfl
          have hq : ((p : Int) == (s.length : Int)) = true := by simp [he]
          clear he HN
          go_upto_region 3 with fail
          refine wp_region_quiet_below (by kernel_rfl) (by kernel_rfl) ?_
          repeat (go_big_quiet_step (first | with_reducible exact HSI.out _ _))
          refine wpQuiet_nil ?_
          intro _ hw'
          obtain ⟨⟨dq, osq⟩, hw''⟩ := hw'
          subst hw''
          have HB4 := Lib.hid (HBX.out _ (below_regrown wr dq osq))
          clear e0 e1 c0 c1 f1 f2 HSI HBX
          generalize grow (redrawn wr dq) osq = w4 at *
          have c1 := HB4.out.1.c1
          go_wp2_with fail
          exact ⟨rfl, HB4.out.2, by rw [HN2.out]; rfl⟩
        · have HN2 : Hid (needs s r i = needs s (r.drop (k + 1)) (p + 1)) := by rw [HN.out, if_pos ⟨by omega, rfl⟩]; rfl
          have hq : ((p : Int) == (s.length : Int)) = false := by simp; omega
          have hpl : p + 1 ≤ s.length := by omega
          have d1 : IntKind.i64.wrap ((p : Int) + 1) = (p : Int) + 1 := IntWalk.i64_in _ (by omega)
          clear he HN
          go_upto_region 3 with fail
          refine wp_region_quiet_below (by kernel_rfl) (by kernel_rfl) ?_
          repeat (go_big_quiet_step (first | with_reducible exact HSI.out _ _))
          refine wpQuiet_nil ?_
          intro _ hw'
          obtain ⟨⟨dq, osq⟩, hw''⟩ := hw'
          subst hw''
          have HB4 := Lib.hid (HBX.out _ (below_regrown wr dq osq))
          clear e0 e1 c0 c1 f1 f2 HSI HBX
          generalize grow (redrawn wr dq) osq = w4 at *
          have c1 := HB4.out.1.c1
          have f1 := HB4.out.1.f1
          have HT : Hid (PsAt X S (i + (k + 1)) o (w4.setCell ⟨X, 1, none⟩ (.int .i64 ((p : Int) + 1)))) := by
            have := HB4.out.1.to (p + 1)
            rw [show i + (k + 1) = p + 1 by have := HPE.out; omega]
            exact this
          have HT2 : Hid (Below X W (w4.setCell ⟨X, 1, none⟩ (.int .i64 ((p : Int) + 1)))) := HB4.out.2.trans (set_below _)
          go_wp2_with fail
          go_roundw
          case rel => exact ⟨k + 1, by omega, by have := HPE.out; omega, by go_num, HT.out, HT2.out, by rw [HN2.out, show p + 1 = i + (k + 1) by have := HPE.out; omega]⟩
          case measure => simp [intOf]; omega
      · have HN2 : Hid (needs s r i = .error p) := by rw [HN.out, if_neg (fun h => hc h.2)]; rfl
        have hq : (((chr s p).toNat : Int) != ((chr r k).toNat : Int)) = true := (neForms hc).1
        clear HN
        generalize chr r k = ch at *
        generalize chr s p = ch2 at *
        clear hc
        go_upto_region 3 with fail
        refine wp_region_quiet_below (by kernel_rfl) (by kernel_rfl) ?_
        repeat (go_big_quiet_step (first | with_reducible exact HSI.out _ _))
        refine wpQuiet_nil ?_
        intro _ hw'
        obtain ⟨⟨dq, osq⟩, hw''⟩ := hw'
        subst hw''
        have HB4 := Lib.hid (HBX.out _ (below_regrown wr dq osq))
        clear e0 e1 c0 c1 f1 f2 HSI HBX
        generalize grow (redrawn wr dq) osq = w4 at *
        have c1 := HB4.out.1.c1
        go_wp2_with fail
        exact ⟨rfl, HB4.out.2, by rw [HN2.out]; rfl⟩
    · have HN2 : Hid (needs s r i = .ok (i + k)) := by
        show _ = _
        rw [HR.out.2.2, List.drop_of_length_le (by omega)]
        rfl
      have HRB := Lib.hid HR.out.2.1
      have HRA := Lib.hid HR.out.1
      have q1 : ¬ (k : Int) < (r.length : Int) := by omega
      clear HR
      go_wp2_with fail
      go_end0
      exact ⟨HRB.out, by rw [HN2.out]; exact ⟨rfl, HRA.out⟩⟩
def PutPost (X : Nat) (S : ByteArray) (i : Nat) (o : List Nd) (W : World) (e : Ending) (w' : World) : Prop :=
  e = .returned (.int .i64 ((o.length : Int) - 1)) ∧ PsAt X S i o w' ∧ Below X W w'
set_option maxRecDepth 100000 in
set_option maxHeartbeats 1000000 in
theorem put_ (X : Nat) (S : ByteArray) (i : Nat) (o : List Nd) (x : Nd) (W : World) (hl : o.length ≤ 100000) (hp : PsAt X S i o W) :
    Calls Tryz.prog 166 #[.pointer (some ⟨X, 0, none⟩), .agg #[.int .i64 x.k, .int .i64 x.a, .int .i64 x.b, .int .i64 x.n]] W (PutPost X S i (o ++ [x]) W) := by
  obtain ⟨k, a, b, n⟩ := x
  simp only
  have HP0 := Lib.hid hp
  have hb1 : Below W.heap.size W (W.alloc (Obj.cells #[.int .i64 k, .int .i64 a, .int .i64 b, .int .i64 n] 63)) := (Below.refl _ _).alloc (Nat.le_refl _) _
  have HP1 := Lib.hid (hp.below hb1)
  have HB1 := Lib.hid hb1
  have hx0 : (W.alloc (Obj.cells #[.int .i64 k, .int .i64 a, .int .i64 b, .int .i64 n] 63)).cell? ⟨W.heap.size, 0, none⟩ = some (.int .i64 k) := by go_simp
  have hx1 : (W.alloc (Obj.cells #[.int .i64 k, .int .i64 a, .int .i64 b, .int .i64 n] 63)).cell? ⟨W.heap.size, 1, none⟩ = some (.int .i64 a) := by go_simp
  have hx2 : (W.alloc (Obj.cells #[.int .i64 k, .int .i64 a, .int .i64 b, .int .i64 n] 63)).cell? ⟨W.heap.size, 2, none⟩ = some (.int .i64 b) := by go_simp
  have hx3 : (W.alloc (Obj.cells #[.int .i64 k, .int .i64 a, .int .i64 b, .int .i64 n] 63)).cell? ⟨W.heap.size, 3, none⟩ = some (.int .i64 n) := by go_simp
  go_enter Tryz.func166, Tryz.ntmps166
  go_upto_region 1 with fail
  have hxl : W.heap.size < (W.alloc (Obj.cells #[.int .i64 k, .int .i64 a, .int .i64 b, .int .i64 n] 63)).heap.size := by simp
  generalize W.alloc (Obj.cells #[.int .i64 k, .int .i64 a, .int .i64 b, .int .i64 n] 63) = w1 at *
  obtain ⟨hx, -, -, -, f2, T, c, c2, hown⟩ := HP1.out
  have hO : NOwn (X + 1) w1.drew (Value.slice T o.length c).ownBlock w1.drew (.slice T o.length c) o := NOwn.refl (own_drew hown)
  obtain ⟨T3, c3, w3, hr3, ho3, hg3⟩ := hO.app ⟨k, a, b, n⟩ (by omega) (by show X + 1 ≤ w1.heap.size; omega)
  have hcap := (hO.form (by omega))
  have HR3 := Lib.hid hr3
  have HO3 := Lib.hid ho3
  have HG3 := Lib.hid hg3
  have hne : some X ≠ (Value.slice T o.length c).ownBlock := own_ne hown (Nat.lt_succ_self X)
  have HE : Hid (∀ w9 : World, w9 = w3.setCell ⟨X, 2, none⟩ (.slice T3 (o.length + 1) c3) → PsAt X S i (o ++ [⟨k, a, b, n⟩]) w9 ∧ Below X W w9) := by
    rintro w9 rfl
    have hd : Below w1.heap.size w1 w1.drew := (Below.refl _ _).drew
    have hpd := HP1.out.below hd
    have hl2 : (o ++ [(⟨k, a, b, n⟩ : Nd)]).length = o.length + 1 := by simp
    have hlt3 : X < w3.heap.size := Nat.lt_of_lt_of_le hpd.lt hg3.size
    refine ⟨⟨by simpa [World.setCell] using hlt3, ?_, ?_, ?_, ?_, T3, c3, ?_, ?_⟩, ?_⟩
    · exact (World.cell?_setCell_other _ ⟨X, 2, none⟩ ⟨X, 0, none⟩ _ (by simp)).trans (hg3.cell hpd.c0 hne)
    · exact (World.cell?_setCell_other _ ⟨X, 2, none⟩ ⟨X, 1, none⟩ _ (by simp)).trans (hg3.cell hpd.c1 hne)
    · rw [World.frozen?_setCell]; exact (hg3.frozen_far ⟨X, 1, none⟩ hpd.lt hne).trans hpd.f1
    · rw [World.frozen?_setCell]; exact (hg3.frozen_far ⟨X, 2, none⟩ hpd.lt hne).trans hpd.f2
    · rw [hl2]; exact World.cell?_setCell_same' _ _ _ (by rw [hg3.cell c2 hne]; rfl)
    · exact ownsRow_setCell_below (by have := ho3.own; rwa [hl2] at this ⊢) (Nat.lt_succ_self X) _
    · have h1 : Below X W w1.drew := (HB1.out.mono (Nat.le_of_lt HP0.out.lt)).drew
      exact (h1.grown hg3 (Nat.le_of_lt hpd.lt) (fun k hk => by have := (hown.lt k hk).1; omega)).trans (set_below _)
  have c2d : w1.drew.cell? ⟨X, 2, none⟩ = some (.slice T o.length c) := c2
  have c23 : w3.cell? ⟨X, 2, none⟩ = some (.slice T o.length c) := hg3.cell c2d hne
  have f23 : w3.frozen? ⟨X, 2, none⟩ = false := (hg3.frozen_far ⟨X, 2, none⟩ hx hne).trans f2
  clear hr3 ho3 hg3 hO hown
  obtain ⟨A0, cc0, hv0, hn0⟩ := hcap
  obtain ⟨rfl, _, rfl⟩ : T = A0 ∧ o.length = o.length ∧ c = cc0 := by simpa using hv0
  have hle := hn0.le
  have hcp := hn0.cap
  clear hn0 hv0 hne hb1
  go_region_law ((refine step_appRun rfl (.tmp 9) (.tmp 11) _ _ rfl (.slice T o.length c) (.slice (some ⟨w1.heap.size, 0, none⟩) 1 1) (.slice T3 (o.length + 1) c3) (by go_simp) (by go_simp) HR3.out ?_))
  all_goals
    have HE2 := Lib.hid (HE.out _ rfl)
    have c9 : (w3.setCell ⟨X, 2, none⟩ (.slice T3 (o.length + 1) c3)).cell? ⟨X, 2, none⟩ = some (.slice T3 (o.length + 1) c3) := World.cell?_setCell_same' _ _ _ (by rw [c23]; rfl)
    clear HE HR3 HO3 HG3 hx0 hx1 hx2 hx3 c2 c2d c23 f2 f23
    generalize w3.setCell ⟨X, 2, none⟩ (.slice T3 (o.length + 1) c3) = w9 at *
    go_simp
    go_wp2_with fail
    go_ret
    exact ⟨ret_int (by simp), HE2.out.1, HE2.out.2⟩
end Go.Proofs.YtoglgeaiiipchaaGreatDoor
