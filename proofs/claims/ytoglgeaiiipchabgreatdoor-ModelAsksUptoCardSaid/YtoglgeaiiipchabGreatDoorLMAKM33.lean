import Derived.Test.YtoglgeaiiipchabGreatDoorLMAKM27
import Derived.Test.YtoglgeaiiipchabGreatDoorLMAKM30
import Derived.Test.YtoglgeaiiipchabGreatDoorLMAKM23
import Derived.Test.YtoglgeaiiipchabGreatDoorLMAKM32
import Derived.Deep.RegionLaw
import Derived.Test.YtoglgeaiiipchabGreatDoorLMAKM1
import Derived.Deep.RegionHeld3
import Derived.Test.YtoglgeaiiipchabGreatDoorLMAKM22
import Derived.Laws.IdiomStrings
set_option linter.unusedSimpArgs false
set_option linter.unusedVariables false
namespace Go.Proofs.YtoglgeaiiipchabGreatDoor
open Go Go.RowKit Go.Sort Go.Shelf
structure HoPost (m : Mo) (f : List Nd) (w : World) (e : Ending) (w' : World) : Prop where
  is : ∃ (ok : Bool) (x : La) (H L : Option Addr) (ch cl : Nat), e = .returned (.tuple #[.bool ok, .agg #[.slice H x.h.length ch, .slice L x.l.length cl], .int .i64 (hoE m f)]) ∧ Ints w' 0 H ch x.h ∧ Ints w' 0 L cl x.l ∧ HoIs m f ok x
  below : Below w.heap.size w w'
theorem retLa5 {fn : Func} (h : fn.results = #[.tmp 4, .cell 5 28, .tmp 6]) (tmps : Array Value) (w : World) (V : Nat) {v0 v1 x y : Value} (hx : tmps[4]? = some x) (hp : tmps[5]? = some (.pointer (some ⟨V, 0, none⟩))) (hy : tmps[6]? = some y)
    (ho : w.heap[V]? = some (.cells #[v0, v1] 28 (0, 0))) : (results fn tmps).run Tryz.prog w = .ok (.tuple #[x, .agg #[v0, v1], y]) w := by
  have r0 : w.cell? ⟨V, 0, none⟩ = some v0 := by simp [World.cell?, ho]
  have r1 : w.cell? ⟨V, 1, none⟩ = some v1 := by simp [World.cell?, ho]
  simp [results, h, go_sem, hp, hx, hy, r0, r1]
theorem moh_cells {W : World} {V : Nat} {v0 v1 : Value} (h : W.heap[V]? = some (.cells #[v0, v1] 28 (0, 0))) : W.cell? ⟨V, 0, none⟩ = some v0 ∧ W.cell? ⟨V, 1, none⟩ = some v1 ∧ W.frozen? ⟨V, 0, none⟩ = false ∧ W.frozen? ⟨V, 1, none⟩ = false := by
  refine ⟨?_, ?_, ?_, ?_⟩ <;> simp [World.cell?, World.frozen?, h]
theorem moh_ints {W : World} {lo V : Nat} {A : Option Addr} {c : Nat} {xs : List Int} (h : Ints W lo A c xs) (hV : V < lo) (v0 v1 : Value) : Ints (set2 W V v0 v1).drew 0 A c xs := by
  refine ⟨h.le, h.cap, h.max, fun hx => ?_⟩
  obtain ⟨b, off, h1, h2, h3, h4⟩ := h.rd hx
  have hs : (set2 W V v0 v1).drew.heap.size = W.heap.size := by simp [set2, World.setCell]
  refine ⟨b, off, h1, Nat.zero_le _, by rw [hs]; exact h3, fun j u hj => ?_⟩
  have := h4 j u hj
  have h5 : (set2 W V v0 v1).drew.cell? ⟨b, off + j, none⟩ = (set2 W V v0 v1).cell? ⟨b, off + j, none⟩ := by simp
  rw [h5]
  rwa [cell_of_heap (set2_far W V v0 v1 (show b ≠ V by omega))]
theorem ho_err {m : Mo} {f : List Nd} (h : hoE m f ≠ 0) : HoIs m f false ⟨[], []⟩ := by unfold HoIs; rw [if_neg h]; exact ⟨rfl, rfl⟩
set_option maxRecDepth 100000 in
set_option maxHeartbeats 8000000 in
theorem modelHolds_ (m : Mo) (hraw : ckM m = 0 → (moRaw m m.ls.length).length ≤ 2000000) (f : List Nd) (A B C F : Option Addr) (ca cb cc fc : Nat) (vs : List RwS) (w : World) (hr : MoRd w 0 m A B C ca cb cc vs) (hf : Nds w 0 F fc f) :
    Calls Tryz.prog 18 #[.agg #[.int .i64 m.pr, .slice A m.ls.length ca, .slice B m.fs.length cb, .slice C m.ss.length cc], .slice F f.length fc] w (HoPost m f w) := by
  have HW := moW_is w m A B C ca cb cc
  have hal : Below (moW w m A B C ca cb cc).heap.size (moW w m A B C ca cb cc) ((moW w m A B C ca cb cc).alloc (Obj.cells #[.slice none 0 0, .slice none 0 0] 28)) := (Below.refl _ _).alloc (Nat.le_refl _) _
  have HT := Lib.hid (World.alloc_heap_new (moW w m A B C ca cb cc) (Obj.cells #[.slice none 0 0, .slice none 0 0] 28))
  rw [HW.size] at HT
  have HB0 := Lib.hid (Below_on HW.below hal HW.below.size)
  have HV0 := Lib.hid (HW.at_.below hal HW.at_.lt)
  have HR := Lib.hid (fun W (hW : Below w.heap.size w W) => hr.below hW)
  have HF := Lib.hid (fun W (hW : Below w.heap.size w W) => hf.below hW)
  have HRAW := Lib.hid hraw
  clear hr HW hal hraw hf
  go_enter Tryz.func18, Tryz.ntmps18
  go_upto_region 1 with fail
  change Code.wp _ _ _ _ ((moW w m A B C ca cb cc).alloc (Obj.cells #[.slice none 0 0, .slice none 0 0] 28))
  generalize (moW w m A B C ca cb cc).alloc (Obj.cells #[.slice none 0 0, .slice none 0 0] 28) = W0 at *
  obtain ⟨V, hV⟩ : ∃ V, V = w.heap.size := ⟨_, rfl⟩
  have HVV := Lib.hid hV
  rw [← hV] at HV0 HT ⊢
  clear hV
  obtain ⟨_, c0, c1, c2, c3⟩ := HV0.out
  have HCK := Lib.hid (modelCheck_ m A B C ca cb cc vs W0 (HR.out _ HB0.out))
  go_upto_region 2 with (first
    | (go_at_call 41; refine HCK.out.mono ?_; rintro e w2 ⟨rfl, hb2⟩))
  have HALL : Hid (∀ W, Below w2.heap.size w2 W → Below w.heap.size w W ∧ MoAt W V m A B C ca cb cc ∧ W.heap[V + 1]? = some (.cells #[.slice none 0 0, .slice none 0 0] 28 (0, 0)) ∧ MoRd W 0 m A B C ca cb cc vs ∧ Nds W 0 F fc f) := fun W hW => by
    have h1 := Below_on hb2 hW hb2.size
    have h2 := Below_on HB0.out h1 HB0.out.size
    exact ⟨h2, HV0.out.below h1 HV0.out.lt, (h1.block _ (Array.getElem?_eq_some_iff.1 HT.out).1).trans HT.out, HR.out _ h2, HF.out _ h2⟩
  have hV1 : w.heap.size ≤ V + 1 := by rw [HVV.out]; omega
  clear c0 c1 c2 c3 hb2 HCK HT HV0 HB0 HR HF
  by_cases h0 : ckM m = 0
  · have HH0 := Lib.hid h0
    have HE : Hid (hoE m f = negE f) := by show _ = _; unfold hoE; rw [if_pos h0]
    have HNG := Lib.hid (Negate_ F fc f w2 (HALL.out _ (Below.refl _ _)).2.2.2.2)
    rw [h0]
    clear h0
    go_upto_region 5 with (first
      | (go_at_call 48; refine HNG.out.mono ?_; rintro e w3 ⟨GA, gc, rfl, hg, hb3⟩))
    have HB3 := Lib.hid hb3
    have HG := Lib.hid hg
    clear hb3 hg HNG
    by_cases he : negE f = 0
    · have HEE := Lib.hid he
      rw [he]
      clear he
      go_upto_region 7 with fail
      obtain ⟨_, c0, c1, c2, c3⟩ := (HALL.out _ HB3.out).2.1
      have hM := ckM_ok HH0.out
      have hok : FmOK (negF f) := ckF_zero.1 (neg_ck (neg_ok HEE.out) HEE.out)
      have HOF := Lib.hid (of_ m hM (HRAW.out HH0.out) A B C ca cb cc vs w3 (HALL.out _ HB3.out).2.2.2.1)
      have HOK := Lib.hid hok
      have HMM := Lib.hid hM
      clear hok hM
      go_wp2_with fail
      refine HOF.out.mono ?_
      rintro e w4 ⟨A4, B4, C4, ca4, cb4, cc4, rfl, hrd4, hb4⟩
      have HB4 := Lib.hid (Below_on HB3.out hb4 HB3.out.size)
      have HR4 := Lib.hid (hrd4.low (Nat.zero_le _))
      have HG4 := Lib.hid ((HG.out.low (Nat.zero_le _)).below hb4)
      clear hrd4 hb4 HOF c0 c1 c2 c3
      have HRW := Lib.hid (Raw_ (negF f) HOK.out GA gc w4 HG4.out)
      go_wp2_with fail
      refine HRW.out.mono ?_
      rintro e w5 ⟨r, A5, B5, C5, ca5, cb5, cc5, hS, rfl, hrd5, hb5⟩
      have HB5 := Lib.hid (Below_on HB4.out hb5 HB4.out.size)
      have HS := Lib.hid hS
      have HR4' := Lib.hid (HR4.out.below hb5)
      have HR5 := Lib.hid (hrd5.low (Nat.zero_le _))
      clear hS hrd5 hb5 HRW HR4 HB4 HG4
      have hrfit : AuFit r := by
        obtain ⟨o, s⟩ := ckA_zero.1 HS.out.ok
        exact o.fit s
      have HPR := Lib.hid (Pair_ (moA m) r A4 B4 C4 A5 B5 C5 ca4 cb4 cc4 ca5 cb5 cc5 w5 HR4'.out HR5.out (moA_fit HMM.out) hrfit (by
        have h1 := hoP_st HMM.out HS.out.few hrfit.st1
        exact Int.le_trans h1 (by decide)) (Nat.le_trans (mo_few HMM.out) (by decide)) (Nat.le_trans HS.out.fewS (by decide)) (Nat.le_trans (ho_steps HMM.out HS.out.fewS) (by decide)))
      go_wp2_with fail
      refine HPR.out.mono ?_
      rintro e w6 ⟨A6, B6, C6, ca6, cb6, cc6, rfl, hrd6, hb6⟩
      have HB6 := Lib.hid (Below_on HB5.out hb6 HB5.out.size)
      have HR6 : Hid (AuRd w6 0 (hoP m r) A6 B6 C6 ca6 cb6 cc6) := hrd6.low (Nat.zero_le _)
      have HWD := Lib.hid (Word_ (hoP m r) A6 B6 C6 ca6 cb6 cc6 w6 HR6.out (hoP_fit HMM.out HS.out.ok) (Int.le_trans (hoP_st HMM.out HS.out.few hrfit.st1) (by decide)) (hoP_ss HMM.out HS.out.fewS))
      change Hid (Calls _ _ _ _ _) at HWD
      clear hrd6 hb6 HPR HR4' HR5 HB5 hrfit
      go_wp2_with fail
      refine HWD.out.mono ?_
      rintro e w7 ⟨⟨H, L, ch, cl, hl, ll, b, rfl, hH, hL, hif⟩, hb7⟩
      have hb8 : Below w7.heap.size w7 (w7.alloc (Obj.cells #[.slice H hl.length ch, .slice L ll.length cl] 28)) := (Below.refl _ _).alloc (Nat.le_refl _) _
      have HB8 := Lib.hid (Below_on (Below_on HB6.out hb7 HB6.out.size) hb8 (Nat.le_trans HB6.out.size hb7.size))
      have HX := Lib.hid (World.alloc_heap_new w7 (Obj.cells #[.slice H hl.length ch, .slice L ll.length cl] 28))
      have HIH := Lib.hid (hH.below hb8)
      have HIL := Lib.hid (hL.below hb8)
      have HIS := Lib.hid (ho_is (f := f) HH0.out HEE.out HS.out hif)
      clear hb7 hb8 hH hL hif HWD HR6
      go_upto_region 8 with fail
      obtain ⟨X, hX⟩ : ∃ X, X = w7.heap.size := ⟨_, rfl⟩
      rw [← hX] at HX ⊢
      have HXL : Hid (V + 1 < w6.heap.size) := by
        have := (Array.getElem?_eq_some_iff.1 (HALL.out _ HB6.out).2.2.1).1
        exact this
      clear hX
      generalize w7.alloc (Obj.cells #[.slice H hl.length ch, .slice L ll.length cl] 28) = w8 at *
      obtain ⟨hb9, _, hres, _, _⟩ := HALL.out _ HB8.out
      have HP : Hid (HoPost m f w (.returned (.tuple #[.bool (!b), .agg #[.slice H hl.length ch, .slice L ll.length cl], .int .i64 0])) (set2 w8 (V + 1) (.slice H hl.length ch) (.slice L ll.length cl)).drew) :=
        ⟨⟨!b, ⟨hl, ll⟩, H, L, ch, cl, by rw [HE.out, HEE.out], moh_ints HIH.out (by have := HXL.out; have := HIH.out; omega) _ _, moh_ints HIL.out HXL.out _ _, HIS.out⟩, (below_set2 hb9 hV1 _ _).drew⟩
      have hst := set2_heap hres (.slice H hl.length ch) (.slice L ll.length cl)
      have HO1 : Hid ((set2 w8 (V + 1) (.slice H hl.length ch) (.slice L ll.length cl)).drew.heap[V + 1]? = _) := hst
      obtain ⟨z0, z1, z2, z3⟩ := moh_cells hres
      obtain ⟨x0, x1, x2, x3⟩ := moh_cells HX.out
      unfold set2 at HP HO1
      clear hb9 hres hst HX HIH HIL HIS HB8
      go_region_law
      simp only [Act.put, List.setIfInBounds_toArray, List.set_cons_zero, List.set_cons_succ]
      go_wp2_with fail
      exact bodyPost_ret (retLa5 (x := .bool (!b)) (y := .int .i64 0) Tryz.results18 _ _ (V + 1) rfl rfl rfl HO1.out) rfl HP.out
    · have he' : (negE f != 0) = true := by simp [he]
      obtain ⟨hb4, hat, hres, _, _⟩ := HALL.out _ HB3.out
      have hset := set2_heap hres (.slice none 0 0) (.slice none 0 0)
      have HP : Hid (HoPost m f w (.returned (.tuple #[.bool false, .agg #[.slice none 0 0, .slice none 0 0], .int .i64 (negE f)])) (set2 w3 (V + 1) (.slice none 0 0) (.slice none 0 0))) :=
        ⟨⟨false, ⟨[], []⟩, none, none, 0, 0, by rw [HE.out]; rfl, ints_none, ints_none, ho_err (by rw [HE.out]; exact he)⟩, below_set2 hb4 hV1 _ _⟩
      have HO1 := Lib.hid hset
      obtain ⟨b0, b1, b2, b3⟩ := moh_cells hres
      unfold set2 at HP HO1
      clear hb4 hat hres hset he
      go_wp2_with fail
      exact bodyPost_ret (retLa5 (x := .bool false) (y := .int .i64 (negE f)) Tryz.results18 _ _ (V + 1) rfl rfl rfl HO1.out) rfl HP.out
  · have h0' : (ckM m != 0) = true := by simp [h0]
    have HE : Hid (hoE m f = ckM m) := by show _ = _; unfold hoE; rw [if_neg h0]
    obtain ⟨hb4, hat, hres, _, _⟩ := HALL.out _ (Below.refl _ _)
    have hset := set2_heap hres (.slice none 0 0) (.slice none 0 0)
    have HP : Hid (HoPost m f w (.returned (.tuple #[.bool false, .agg #[.slice none 0 0, .slice none 0 0], .int .i64 (ckM m)])) (set2 w2 (V + 1) (.slice none 0 0) (.slice none 0 0))) :=
      ⟨⟨false, ⟨[], []⟩, none, none, 0, 0, by rw [HE.out]; rfl, ints_none, ints_none, ho_err (by rw [HE.out]; exact h0)⟩, below_set2 hb4 hV1 _ _⟩
    have HO1 := Lib.hid hset
    obtain ⟨b0, b1, b2, b3⟩ := moh_cells hres
    unfold set2 at HP HO1
    clear hb4 hat hres hset h0
    go_wp2_with fail
    exact bodyPost_ret (retLa5 (x := .bool false) (y := .int .i64 (ckM m)) Tryz.results18 _ _ (V + 1) rfl rfl rfl HO1.out) rfl HP.out
end Go.Proofs.YtoglgeaiiipchabGreatDoor

namespace Go.Proofs.YtoglgeaiiipchabGreatDoor
open Go Go.RowKit
def waitsFor (md : Region.Mode) (ops : Array Oper) (i : Nat) : List Nat := match ops[i]? with | some o => (o.after.toList.filter fun e => Region.binds md e).map (·.on) | none => []
def dstOf (ops : Array Oper) (i : Nat) : Option Tmp := (ops[i]?).bind (·.dst)
def looksOf (ops : Array Oper) (i : Nat) : List Tmp := match ops[i]? with | some o => o.looksAt ops | none => []
def looksB (ops : Array Oper) (i j : Nat) : Bool := match dstOf ops j with | some d => (looksOf ops i).contains d | none => false
def sameDst (ops : Array Oper) (i j : Nat) : Bool := match dstOf ops j with | some d => dstOf ops i == some d | none => false
def freeFrom (md : Region.Mode) (ops : Array Oper) (listed : Array Bool) : List Nat → List Nat → Bool
  | _, [] => true
  | seen, i :: l => ((waitsFor md ops i).all fun j => listed.getD j false || seen.contains j) && !seen.contains i &&
      (seen.all fun j => !looksB ops i j || (waitsFor md ops i).contains j) && (seen.all fun j => !looksB ops j i && !sameDst ops i j && !sameDst ops j i) && !looksB ops i i && freeFrom md ops listed (seen ++ [i]) l
def freeB (md : Region.Mode) (ops : Array Oper) (listed : Array Bool) (todo : List Nat) : Bool :=
  Region.noSelect ops && (listed.size == ops.size) && ((List.range ops.size).all fun i => listed.getD i false || todo.contains i) && (todo.all fun i => decide (i < ops.size) && !listed.getD i true) && freeFrom md ops listed [] todo
section
variable {P : Program} {ops : Array Oper} {md : Region.Mode} {Q : Exit → Act → World → Prop} {S : World → Prop}
structure Free (md : Region.Mode) (ops : Array Oper) (listed : Array Bool) (todo : List Nat) : Prop where
  nosel : Region.noSelect ops = true
  size : listed.size = ops.size
  all : ∀ i, i < ops.size → listed.getD i false = true ∨ i ∈ todo
  lt : ∀ i ∈ todo, i < ops.size ∧ listed.getD i true = false
  wait : ∀ l i r, todo = l ++ i :: r → (∀ j ∈ waitsFor md ops i, listed.getD j false = true ∨ j ∈ l) ∧ (∀ j ∈ l, looksB ops i j = true → j ∈ waitsFor md ops i) ∧ (∀ j ∈ l, looksB ops j i = false ∧ sameDst ops i j = false ∧ sameDst ops j i = false) ∧ looksB ops i i = false
  nodup : todo.Nodup
theorem freeFrom_spec {listed : Array Bool} : ∀ (todo seen : List Nat), freeFrom md ops listed seen todo = true → (∀ l i r, todo = l ++ i :: r → (∀ j ∈ waitsFor md ops i, listed.getD j false = true ∨ j ∈ seen ++ l) ∧ (∀ j ∈ seen ++ l, looksB ops i j = true → j ∈ waitsFor md ops i) ∧ (∀ j ∈ seen ++ l, looksB ops j i = false ∧ sameDst ops i j = false ∧ sameDst ops j i = false) ∧ looksB ops i i = false) ∧ todo.Nodup ∧ ∀ i ∈ todo, i ∉ seen
  | [], seen, _ => ⟨fun l i r h => by simp at h, .nil, fun i h => by simp at h⟩
  | k :: todo, seen, h => by
    unfold freeFrom at h
    simp only [Bool.and_eq_true, List.all_eq_true, Bool.or_eq_true, List.contains_iff_mem, Bool.not_eq_true', Bool.not_eq_eq_eq_not, Bool.not_true] at h
    obtain ⟨⟨⟨⟨⟨h1, h2⟩, h3⟩, h4⟩, h5⟩, h6⟩ := h
    have h2 : k ∉ seen := by simpa using h2
    obtain ⟨i1, i2, i3⟩ := freeFrom_spec todo (seen ++ [k]) h6
    refine ⟨fun l i r he => ?_, List.nodup_cons.2 ⟨fun hm => i3 k hm (by simp), i2⟩, fun i hi => ?_⟩
    · cases l with
      | nil =>
        simp only [List.nil_append, List.cons.injEq] at he
        obtain ⟨rfl, rfl⟩ := he
        rw [List.append_nil]
        exact ⟨h1, fun j hj hl => (h3 j hj).resolve_left (by simp [hl]), fun j hj => ⟨(h4 j hj).1.1, (h4 j hj).1.2, (h4 j hj).2⟩, h5⟩
      | cons q l =>
        simp only [List.cons_append, List.cons.injEq] at he
        obtain ⟨rfl, rfl⟩ := he
        have := i1 l i r rfl
        simpa only [List.append_assoc, List.singleton_append] using this
    · rcases List.mem_cons.1 hi with rfl | hi
      · exact h2
      · exact fun hs => i3 i hi (List.mem_append_left _ hs)
theorem free_spec {listed : Array Bool} {todo : List Nat} (h : freeB md ops listed todo = true) : Free md ops listed todo := by
  unfold freeB at h
  simp only [Bool.and_eq_true, List.all_eq_true, Bool.or_eq_true, List.contains_iff_mem, beq_iff_eq, List.mem_range, decide_eq_true_eq, Bool.not_eq_true', Bool.not_eq_eq_eq_not, Bool.not_true] at h
  obtain ⟨⟨⟨⟨h1, h2⟩, h3⟩, h4⟩, h5⟩ := h
  obtain ⟨i1, i2, _⟩ := freeFrom_spec _ _ h5
  exact ⟨h1, h2, h3, h4, fun l i r he => by simpa using i1 l i r he, i2⟩
end
end Go.Proofs.YtoglgeaiiipchabGreatDoor

namespace Go.Proofs.YtoglgeaiiipchabGreatDoor
open Go Go.RowKit Go.Sort
end Go.Proofs.YtoglgeaiiipchabGreatDoor
