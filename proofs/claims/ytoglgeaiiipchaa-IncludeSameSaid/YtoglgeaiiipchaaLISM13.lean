/- The memory of include's search for heads. -/
import Derived.Test.YtoglgeaiiipchaaLISM3
import Derived.Test.YtoglgeaiiipchaaLISM12
import Derived.Test.YtoglgeaiiipchaaLISM9
import Derived.Great.BuildSlice
set_option linter.unusedSimpArgs false
set_option linter.unusedVariables false
namespace Go.Proofs.Ytoglgeaiiipchaa
open Go Go.RowKit Go.Sort

structure AuRd (w : World) (lo : Nat) (a : Au) (A B C : Option Addr) (ca cb cc : Nat) : Prop where
  fs : Ints w lo A ca a.fs
  gs : Bools w lo B cb a.gs
  ss : Stps w lo C cc a.ss
theorem AuRd.below {w w' : World} {lo : Nat} {a : Au} {A B C : Option Addr} {ca cb cc : Nat} (h : AuRd w lo a A B C ca cb cc) (hb : Below w.heap.size w w') : AuRd w' lo a A B C ca cb cc :=
  ⟨h.fs.below hb, h.gs.below hb, h.ss.below hb⟩
theorem AuRd.low {w : World} {lo lo' : Nat} {a : Au} {A B C : Option Addr} {ca cb cc : Nat} (h : AuRd w lo a A B C ca cb cc) (hl : lo' ≤ lo) : AuRd w lo' a A B C ca cb cc :=
  ⟨h.fs.low hl, h.gs.low hl, h.ss.low hl⟩
def auW (w : World) (a : Au) (A B C : Option Addr) (ca cb cc : Nat) : World :=
  w.alloc (Obj.cells #[.int .i64 a.st, .int .i64 a.le, .slice A a.fs.length ca, .slice B a.gs.length cb, .slice C a.ss.length cc] 49)
structure AuW (w W : World) (a : Au) (A B C : Option Addr) (ca cb cc : Nat) : Prop where
  below : Below w.heap.size w W
  size : W.heap.size = w.heap.size + 1
  c0 : W.cell? ⟨w.heap.size, 0, none⟩ = some (.int .i64 a.st)
  c1 : W.cell? ⟨w.heap.size, 1, none⟩ = some (.int .i64 a.le)
  c2 : W.cell? ⟨w.heap.size, 2, none⟩ = some (.slice A a.fs.length ca)
  c3 : W.cell? ⟨w.heap.size, 3, none⟩ = some (.slice B a.gs.length cb)
  c4 : W.cell? ⟨w.heap.size, 4, none⟩ = some (.slice C a.ss.length cc)
theorem auW_is (w : World) (a : Au) (A B C : Option Addr) (ca cb cc : Nat) : AuW w (auW w a A B C ca cb cc) a A B C ca cb cc := by
  unfold auW
  refine ⟨by go_grown, by simp, ?_, ?_, ?_, ?_, ?_⟩ <;> go_simp
/-- a block V that holds an automaton -/
structure AuAt (W : World) (V : Nat) (a : Au) (A B C : Option Addr) (ca cb cc : Nat) : Prop where
  lt : V < W.heap.size
  c0 : W.cell? ⟨V, 0, none⟩ = some (.int .i64 a.st)
  c1 : W.cell? ⟨V, 1, none⟩ = some (.int .i64 a.le)
  c2 : W.cell? ⟨V, 2, none⟩ = some (.slice A a.fs.length ca)
  c3 : W.cell? ⟨V, 3, none⟩ = some (.slice B a.gs.length cb)
  c4 : W.cell? ⟨V, 4, none⟩ = some (.slice C a.ss.length cc)
theorem AuAt.below {W W' : World} {V n : Nat} {a : Au} {A B C : Option Addr} {ca cb cc : Nat} (h : AuAt W V a A B C ca cb cc) (hb : Below n W W') (hn : V < n) : AuAt W' V a A B C ca cb cc :=
  ⟨Nat.lt_of_lt_of_le h.lt hb.size, (hb.cell (p := ⟨V, 0, none⟩) hn).trans h.c0, (hb.cell (p := ⟨V, 1, none⟩) hn).trans h.c1, (hb.cell (p := ⟨V, 2, none⟩) hn).trans h.c2, (hb.cell (p := ⟨V, 3, none⟩) hn).trans h.c3, (hb.cell (p := ⟨V, 4, none⟩) hn).trans h.c4⟩
theorem AuW.at {w W : World} {a : Au} {A B C : Option Addr} {ca cb cc : Nat} (h : AuW w W a A B C ca cb cc) : AuAt W w.heap.size a A B C ca cb cc := ⟨by have := h.size; omega, h.c0, h.c1, h.c2, h.c3, h.c4⟩
theorem between_b (n a b : Int) (w : World) : Calls Try.prog 36 #[.int .i64 n, .int .i64 a, .int .i64 b] w fun e w' => e = .returned (.bool (btw n a b)) ∧ Below w.heap.size w w' :=
  (between_ n a b w).mono fun _ _ ⟨he, hw⟩ => ⟨he, by rw [← hw]; exact Below.refl _ _⟩
set_option maxRecDepth 100000 in
theorem Less_ (s t : Stp) (w : World) : Calls Try.prog 52 #[.agg #[.int .i64 s.f, .int .i64 s.l, .int .i64 s.t], .agg #[.int .i64 t.f, .int .i64 t.l, .int .i64 t.t]] w fun e w' => e = .returned (.bool (stpLt s t)) ∧ Below w.heap.size w w' := by
  have HV := Lib.hid (show stpLt s t = if s.f = t.f then (if s.l = t.l then decide (s.t < t.t) else decide (s.l < t.l)) else decide (s.f < t.f) from rfl)
  generalize stpLt s t = v at *
  by_cases h1 : s.f = t.f
  · have h1' : (s.f != t.f) = false := by simp [h1]
    by_cases h2 : s.l = t.l
    · have h2' : (s.l != t.l) = false := by simp [h2]
      have HF : Hid (v = decide (s.t < t.t)) := by show v = _; rw [HV.out, if_pos h1, if_pos h2]
      clear h1 h2
      go_enter Try.func52, Try.ntmps52
      go_wp2_with fail
      go_ret
      exact ⟨ret_bool HF.out.symm, by go_grown⟩
    · have h2' : (s.l != t.l) = true := by simpa using h2
      have HF : Hid (v = decide (s.l < t.l)) := by show v = _; rw [HV.out, if_pos h1, if_neg h2]
      clear h1 h2
      go_enter Try.func52, Try.ntmps52
      go_wp2_with fail
      go_ret
      exact ⟨ret_bool HF.out.symm, by go_grown⟩
  · have h1' : (s.f != t.f) = true := by simpa using h1
    have HF : Hid (v = decide (s.f < t.f)) := by show v = _; rw [HV.out, if_neg h1]
    clear h1
    go_enter Try.func52, Try.ntmps52
    go_wp2_with fail
    go_ret
    exact ⟨ret_bool HF.out.symm, by go_grown⟩
end Go.Proofs.Ytoglgeaiiipchaa

namespace Go.Proofs.Ytoglgeaiiipchaa
open Go Go.RowKit Go.Shelf

def ltV (a : Au) (j : Nat) : Nat := if a.gs.getD j false = true then 2 else 1
def ltAt (a : Au) (n : Int) (ss : List Stp) (i j : Nat) : Nat := if (⟨i, n, j⟩ : Stp) ∈ ss then ltV a j else 0
structure LtN (a : Au) (n : Int) (p : Nat) (O : Bx) : Prop where
  len : O.length = 9
  eq : ∀ i j, i < 3 → j < 3 → bg O i j = ltAt a n (a.ss.take p) i j
theorem LtN.zero (a : Au) (n : Int) : LtN a n 0 (List.replicate 9 0) := ⟨rfl, fun i j hi hj => by
  unfold ltAt
  rw [if_neg (by simp)]
  unfold bg
  rw [List.getD_eq_getElem?_getD, List.getElem?_replicate]
  split <;> rfl⟩
theorem LtN.no {a : Au} {n : Int} {p : Nat} {O : Bx} (h : LtN a n p O) (hp : p < a.ss.length) (hn : a.ss[p].l ≠ n) : LtN a n (p + 1) O := ⟨h.len, fun i j hi hj => by
  rw [h.eq i j hi hj]
  unfold ltAt
  rw [List.take_succ_eq_append_getElem hp]
  have : (⟨i, n, j⟩ : Stp) ∈ a.ss.take p ++ [a.ss[p]] ↔ (⟨i, n, j⟩ : Stp) ∈ a.ss.take p := by
    rw [List.mem_append, List.mem_singleton]
    exact ⟨fun h => h.elim id (fun h => absurd (by rw [← h]) hn), .inl⟩
  simp only [this]⟩
theorem LtN.yes {a : Au} {n : Int} {p : Nat} {O : Bx} (h : LtN a n p O) (hp : p < a.ss.length) {f t : Nat} (hs : a.ss[p] = ⟨f, n, t⟩) (hf : f < 3) (ht : t < 3) : LtN a n (p + 1) (O.set (f * 3 + t) (ltV a t)) := ⟨by simp [h.len], fun i j hi hj => by
  rw [bg_set h.len hf ht hi hj, h.eq i j hi hj]
  unfold ltAt
  rw [List.take_succ_eq_append_getElem hp, hs]
  have : (⟨i, n, j⟩ : Stp) ∈ a.ss.take p ++ [(⟨f, n, t⟩ : Stp)] ↔ (⟨i, n, j⟩ : Stp) ∈ a.ss.take p ∨ (i = f ∧ j = t) := by
    rw [List.mem_append, List.mem_singleton, Stp.mk.injEq]
    constructor
    · rintro (h | ⟨h1, _, h2⟩)
      · exact .inl h
      · exact .inr ⟨by omega, by omega⟩
    · rintro (h | ⟨rfl, rfl⟩)
      · exact .inl h
      · exact .inr ⟨rfl, rfl, rfl⟩
  by_cases he : i = f ∧ j = t
  · obtain ⟨rfl, rfl⟩ := he
    rw [if_pos ⟨rfl, rfl⟩, if_pos (this.2 (.inr ⟨rfl, rfl⟩))]
  · rw [if_neg he]
    simp only [this, he, or_false]⟩
theorem LtN.box {a : Au} (hf : AuFit a) {n : Int} {O : Bx} (h : LtN a n a.ss.length O) : BoxOf a [n] O :=
  letter_box hf h.len fun i j hi hj => by
    rw [h.eq i j hi hj, List.take_length]; rfl
structure LtM (w0 w : World) (V V3 V4 : Nat) (a : Au) (A B C : Option Addr) (ca cb cc : Nat) (O : Bx) : Prop where
  au : AuAt w V a A B C ca cb cc
  rd : AuRd w 0 a A B C ca cb cc
  r : URow 128 w V3 (List.replicate 9 0)
  o : URow 128 w V4 O
  below : Below w0.heap.size w0 w
  d : V < V3
  d34 : V3 ≠ V4
  l : w0.heap.size ≤ V
  l4 : V < V4
theorem LtM.on {w0 w w' : World} {V V3 V4 : Nat} {a : Au} {A B C : Option Addr} {ca cb cc : Nat} {O : Bx} (h : LtM w0 w V V3 V4 a A B C ca cb cc O) (hb : Below w.heap.size w w') : LtM w0 w' V V3 V4 a A B C ca cb cc O :=
  ⟨h.au.below hb h.au.lt, h.rd.below hb, h.r.below hb h.r.lt, h.o.below hb h.o.lt, Below_on h.below hb h.below.size, h.d, h.d34, h.l, h.l4⟩
theorem LtM.start (w : World) (a : Au) (A B C : Option Addr) (ca cb cc : Nat) (hr : AuRd w 0 a A B C ca cb cc) : LtM w (((auW w a A B C ca cb cc).alloc (Obj.cells z9 128)).alloc (Obj.cells z9 128)) w.heap.size (w.heap.size + 1) (w.heap.size + 1 + 1) a A B C ca cb cc (List.replicate 9 0) := by
  have HW := auW_is w a A B C ca cb cc
  have e1 := HW.size
  have b1 := HW.below
  have a1 := HW.at
  generalize auW w a A B C ca cb cc = w2 at *
  have e3 : (w2.alloc (Obj.cells z9 128)).heap.size = w2.heap.size + 1 := by simp
  have a3 := URow.zero 128 w2
  have c3 : Below w2.heap.size w2 (w2.alloc (Obj.cells z9 128)) := (Below.refl _ _).alloc (Nat.le_refl _) _
  generalize w2.alloc (Obj.cells z9 128) = w3 at *
  have a4 := URow.zero 128 w3
  have c4 : Below w3.heap.size w3 (w3.alloc (Obj.cells z9 128)) := (Below.refl _ _).alloc (Nat.le_refl _) _
  generalize w3.alloc (Obj.cells z9 128) = w4 at *
  rw [e1] at a3 c3 e3
  rw [e3] at a4 c4
  have b4 := Below_on (Below_on b1 c3 (by omega)) c4 (by omega)
  exact ⟨(a1.below c3 (by omega)).below c4 (by omega), hr.below b4, a3.below c4 (by omega), a4, b4, by omega, by omega, by omega, by omega⟩
theorem LtM.set {w0 w : World} {V V3 V4 : Nat} {a : Au} {A B C : Option Addr} {ca cb cc : Nat} {O : Bx} (h : LtM w0 w V V3 V4 a A B C ca cb cc O) (hr : AuRd w0 0 a A B C ca cb cc) (n v : Nat) : LtM w0 (w.setCell ⟨V4, n, none⟩ (.int .u8 (v : Int))).drew V V3 V4 a A B C ca cb cc (O.set n v) := by
  have l := h.l
  have l4 := h.l4
  have hb := (h.below.setCell (p := ⟨V4, n, none⟩) (by show _ ≤ V4; omega) (.int .u8 (v : Int))).drew
  have hk : Below V4 w (w.setCell ⟨V4, n, none⟩ (.int .u8 (v : Int))).drew := ((Below.refl V4 w).setCell (p := ⟨V4, n, none⟩) (Nat.le_refl _) _).drew
  exact ⟨h.au.below hk h.l4, hr.below hb, h.r.set_far h.d34 _, h.o.set_ n v, hb, h.d, h.d34, h.l, h.l4⟩
structure LtPost (w : World) (a : Au) (n : Int) (e : Ending) (w' : World) : Prop where
  is : ∃ O, e = .returned (.agg (boxC O)) ∧ BoxOf a [n] O
  below : Below w.heap.size w w'
set_option maxRecDepth 100000 in
set_option maxHeartbeats 4000000 in
theorem letter_ (a : Au) (ha : AuFit a) (h3 : a.st ≤ 3) (n : Int) (A B C : Option Addr) (ca cb cc : Nat) (w : World) (hr : AuRd w 0 a A B C ca cb cc) :
    Calls Try.prog 90 #[.agg #[.int .i64 a.st, .int .i64 a.le, .slice A a.fs.length ca, .slice B a.gs.length cb, .slice C a.ss.length cc], .int .i64 n] w (LtPost w a n) := by
  have HM0 := Lib.hid (LtM.start w a A B C ca cb cc hr)
  have HA := Lib.hid ha
  have H3 := Lib.hid h3
  have HR := Lib.hid hr
  have hle := hr.ss.le
  have hcap := hr.ss.cap
  have hgle := hr.gs.le
  unfold z9 auW at HM0
  clear ha h3 hr
  go_enter Try.func90, Try.ntmps90
  go_upto_region 2 with fail
  obtain ⟨V, h1⟩ : ∃ V, V = w.heap.size := ⟨_, rfl⟩
  obtain ⟨V3, h2⟩ : ∃ V, V = w.heap.size + 1 := ⟨_, rfl⟩
  obtain ⟨V4, h3⟩ : ∃ V, V = w.heap.size + 1 + 1 := ⟨_, rfl⟩
  rw [← h3, ← h2, ← h1] at HM0 ⊢
  clear h1 h2 h3
  generalize ((w.alloc (Obj.cells #[.int .i64 a.st, .int .i64 a.le, .slice A a.fs.length ca, .slice B a.gs.length cb, .slice C a.ss.length cc] 49)).alloc (Obj.cells #[.int .u8 0, .int .u8 0, .int .u8 0, .int .u8 0, .int .u8 0, .int .u8 0, .int .u8 0, .int .u8 0, .int .u8 0] 128)).alloc (Obj.cells #[.int .u8 0, .int .u8 0, .int .u8 0, .int .u8 0, .int .u8 0, .int .u8 0, .int .u8 0, .int .u8 0, .int .u8 0] 128) = W1 at *
  obtain ⟨_, c0, c1, c2, c3, c4⟩ := HM0.out.au
  go_wp2_with fail
  clear c0 c1 c2 c3 c4
  go_loopw [11] (fun v11 wr => ∃ p : Nat, p ≤ a.ss.length ∧ v11 = .int .i64 (p : Int) ∧ ∃ O, Hid (LtN a n p O) ∧ Hid (LtM w wr V V3 V4 a A B C ca cb cc O)) (fun v11 _ => a.ss.length - (intOf v11).toNat)
  case atStart => exact ⟨0, by omega, rfl, _, Lib.hid (LtN.zero a n), HM0⟩
  case round =>
    clear HM0
    obtain ⟨p, hp, rfl, O, HN, HM⟩ := hrel
    by_cases hpl : p < a.ss.length
    · have qp : (p : Int) < (a.ss.length : Int) := by omega
      have HP := Lib.hid hpl
      obtain ⟨sf, sl, st⟩ := HA.out.sr _ (List.getElem_mem hpl)
      have h3 := H3.out
      obtain ⟨b, o, rfl, _, _, x0, x1, x2⟩ := Stps.at_ HM.out.rd.ss hpl
      have HTG : Hid (a.ss[p].t.toNat < a.gs.length) := by have := HA.out.gl; show _ < _; omega
      have HNO := Lib.hid (fun h => HN.out.no hpl h)
      have HYE := Lib.hid (fun (f t : Nat) h hf ht => HN.out.yes (f := f) (t := t) hpl h hf ht)
      obtain ⟨f, t, hfe, hte, hf3, ht3⟩ : ∃ f t : Nat, (f : Int) = a.ss[p].f ∧ (t : Int) = a.ss[p].t ∧ f < 3 ∧ t < 3 := ⟨a.ss[p].f.toNat, a.ss[p].t.toNat, by omega, by omega, by omega, by omega⟩
      replace x0 : wr.cell? ⟨b, o + p * 3, none⟩ = some (.int .i64 (f : Int)) := by rw [hfe]; exact x0
      replace x2 : wr.cell? ⟨b, o + p * 3 + 2, none⟩ = some (.int .i64 (t : Int)) := by rw [hte]; exact x2
      have HSE : Hid (a.ss[p].l = n → a.ss[p] = ⟨f, n, t⟩) := fun h => by rw [← h, hfe, hte]
      replace HTG : Hid (t < a.gs.length) := by have := HTG.out; show _ < _; omega
      generalize a.ss[p].l = l at *
      clear sf sl st hfe hte h3
      go_upto_region 5 with fail
      have hba : Below wr.heap.size wr (wr.alloc (Obj.cells #[.int .i64 (f : Int), .int .i64 l, .int .i64 (t : Int)] 90)) := (Below.refl _ _).alloc (Nat.le_refl _) _
      have HMA := Lib.hid (HM.out.on hba)
      have HZA : Hid ((wr.alloc (Obj.cells #[.int .i64 (f : Int), .int .i64 l, .int .i64 (t : Int)] 90)).heap[wr.heap.size]? = some (.cells #[.int .i64 (f : Int), .int .i64 l, .int .i64 (t : Int)] 90 (0, 0))) := heapNew _ _
      have HZ4 : Hid (V4 < wr.heap.size) := HM.out.o.lt
      obtain ⟨Z, hZ⟩ : ∃ Z, Z = wr.heap.size := ⟨_, rfl⟩
      rw [← hZ] at HZA HZ4 ⊢
      clear hZ hba x0 x1 x2 HM
      generalize wr.alloc (Obj.cells #[.int .i64 (f : Int), .int .i64 l, .int .i64 (t : Int)] 90) = Wa at *
      have z0 : Wa.cell? ⟨Z, 0, none⟩ = some (.int .i64 (f : Int)) := by simp [World.cell?, HZA.out]
      have z1 : Wa.cell? ⟨Z, 1, none⟩ = some (.int .i64 l) := by simp [World.cell?, HZA.out]
      have z2 : Wa.cell? ⟨Z, 2, none⟩ = some (.int .i64 (t : Int)) := by simp [World.cell?, HZA.out]
      by_cases hln : l = n
      · subst hln
        have hN2 := HYE.out f t (HSE.out rfl) hf3 ht3
        have q0 : (l == l) = true := by simp
        obtain ⟨o1, o2⟩ := HMA.out.o.at_ HN.out.len hf3 ht3
        have HNE : Hid (Z ≠ V4) := by have := HZ4.out; show _ ≠ _; omega
        have HM1 : Hid (LtM w (Wa.setCell ⟨V4, f * 3 + t, none⟩ (.int .u8 1)).drew V V3 V4 a A B (some ⟨b, o, none⟩) ca cb cc (O.set (f * 3 + t) 1)) := HMA.out.set HR.out (f * 3 + t) 1
        have HZ1 : Hid ((Wa.setCell ⟨V4, f * 3 + t, none⟩ (.int .u8 1)).drew.heap[Z]? = _) := (Below.heap_setCell Wa ⟨V4, f * 3 + t, none⟩ (.int .u8 1) Z HNE.out).trans HZA.out
        have q1 : (f : Int) < 3 := by omega
        have q2 : (t : Int) < 3 := by omega
        have HF3 := Lib.hid hf3
        have HT3 := Lib.hid ht3
        have HN2 := Lib.hid hN2
        clear hN2 hf3 ht3
        go_wp2_with fail
        go_region
        clear o1 o2 z0 z1 z2
        generalize (Wa.setCell ⟨V4, f * 3 + t, none⟩ (.int .u8 1)).drew = Wb at *
        have z0 : Wb.cell? ⟨Z, 0, none⟩ = some (.int .i64 (f : Int)) := by simp [World.cell?, HZ1.out]
        have z2 : Wb.cell? ⟨Z, 2, none⟩ = some (.int .i64 (t : Int)) := by simp [World.cell?, HZ1.out]
        have hgl := HA.out.gl
        have h3 := H3.out
        have c3 := HM1.out.au.c3
        obtain ⟨bb, bo, rfl, _, _, y0⟩ := Bools.at_ HM1.out.rd.gs HTG.out
        have q3 : (t : Int) < (a.gs.length : Int) := by have := HTG.out; omega
        have HV : Hid (a.gs.getD t false = a.gs[t]'HTG.out) := getD_lt HTG.out
        obtain ⟨o1, o2⟩ := HM1.out.o.at_ (by simp [HN.out.len]) HF3.out HT3.out
        clear hgl h3
        by_cases hg : a.gs[t]'HTG.out = true
        · rw [hg] at y0
          have HVV : Hid (ltV a t = 2) := by show _ = _; unfold ltV; rw [HV.out, hg]; rfl
          have HM2 : Hid (LtM w (Wb.setCell ⟨V4, f * 3 + t, none⟩ (.int .u8 2)).drew V V3 V4 a A (some ⟨bb, bo, none⟩) (some ⟨b, o, none⟩) ca cb cc ((O.set (f * 3 + t) 1).set (f * 3 + t) 2)) := HM1.out.set HR.out (f * 3 + t) 2
          rw [List.set_set, ← HVV.out] at HM2
          clear hg
          go_wp2_with fail
          go_region
          clear o1 o2 z0 z2 y0 c3
          go_wp2_with fail
          go_roundw
          case rel => exact ⟨p + 1, HP.out, by go_num, _, HN2, HM2⟩
          case measure => simp [intOf]; have := HP.out; omega
        · have hg' : a.gs[t]'HTG.out = false := by simpa using hg
          rw [hg'] at y0
          have HVV : Hid (ltV a t = 1) := by show _ = _; unfold ltV; rw [HV.out, hg']; rfl
          rw [← HVV.out] at HM1
          clear hg hg' o1 o2
          go_wp2_with fail
          go_roundw
          case rel => exact ⟨p + 1, HP.out, by go_num, _, HN2, HM1⟩
          case measure => simp [intOf]; have := HP.out; omega
      · have q0 : (l == n) = false := by simpa using hln
        have HN2 := Lib.hid (HNO.out hln)
        clear hln z0 z2
        go_wp2_with fail
        go_roundw
        case rel => exact ⟨p + 1, HP.out, by go_num, _, HN2, HMA⟩
        case measure => simp [intOf]; have := HP.out; omega
    · obtain rfl : p = a.ss.length := by omega
      have HE : Hid (BoxOf a [n] O) := HN.out.box HA.out
      have HL := Lib.hid HN.out.len
      obtain ⟨o0, o1, o2, o3, o4, o5, o6, o7, o8, rfl, d0, d1, d2, d3, d4, d5, d6, d7, d8⟩ := HM.out.o.nine HN.out.len
      obtain ⟨z0, z1, z2, z3, z4, z5, z6, z7, z8, e0, f0, e1, f1, e2, f2, e3, f3, e4, f4, e5, f5, e6, f6, e7, f7, e8, f8⟩ := HM.out.r.is9 rfl
      have HR3 := Lib.hid (HM.out.r.put9 rfl o0 o1 o2 o3 o4 o5 o6 o7 o8)
      have HBE := Lib.hid (below_put9 HM.out.below (Nat.le_trans HM.out.l (Nat.le_of_lt HM.out.d)) o0 o1 o2 o3 o4 o5 o6 o7 o8)
      unfold put9 at HR3 HBE
      clear HN HM
      go_wp2_with fail
      exact bodyPost_ret (retBx Try.results90 _ _ V3 rfl HR3.out HL.out) rfl ⟨⟨_, rfl, HE.out⟩, HBE.out⟩
end Go.Proofs.Ytoglgeaiiipchaa

namespace Go.Proofs.Ytoglgeaiiipchaa
open Go Go.RowKit Go.Maps

/-- the letters' boxes so far -/
structure LetUp (a b : Au) (LS : List Bp) : Prop where
  a : ∀ n : Nat, n < LS.length → BoxOf a [(n : Int)] (LS.getD n bx0).1
  b : ∀ n : Nat, n < LS.length → BoxOf b [(n : Int)] (LS.getD n bx0).2
theorem LetUp.nil (a b : Au) : LetUp a b [] := ⟨fun n h => absurd h (Nat.not_lt_zero _), fun n h => absurd h (Nat.not_lt_zero _)⟩
theorem LetUp.snoc {a b : Au} {LS : List Bp} (h : LetUp a b LS) {X Y : Bx} (hx : BoxOf a [(LS.length : Int)] X) (hy : BoxOf b [(LS.length : Int)] Y) : LetUp a b (LS ++ [(X, Y)]) := by
  have e : ∀ n, n < (LS ++ [(X, Y)]).length → (n < LS.length ∧ (LS ++ [(X, Y)]).getD n bx0 = LS.getD n bx0) ∨ (n = LS.length ∧ (LS ++ [(X, Y)]).getD n bx0 = (X, Y)) := fun n hn => by
    rw [List.length_append, List.length_singleton] at hn
    by_cases h1 : n < LS.length
    · exact .inl ⟨h1, by simp [List.getD_eq_getElem?_getD, List.getElem?_append_left h1]⟩
    · obtain rfl : n = LS.length := by omega
      exact .inr ⟨rfl, by simp [List.getD_eq_getElem?_getD]⟩
  constructor
  · intro n hn
    rcases e n hn with ⟨h1, h2⟩ | ⟨rfl, h2⟩
    · rw [h2]; exact h.a n h1
    · rw [h2]; exact hx
  · intro n hn
    rcases e n hn with ⟨h1, h2⟩ | ⟨rfl, h2⟩
    · rw [h2]; exact h.b n h1
    · rw [h2]; exact hy
theorem LetUp.ok {a b : Au} {LS : List Bp} (h : LetUp a b LS) (hl : (LS.length : Int) = a.le) : LetOK a b LS := ⟨hl, h.a, h.b⟩
abbrev auL (a : Au) (A B C : Option Addr) (ca cb cc : Nat) : List Value := [.int .i64 a.st, .int .i64 a.le, .slice A a.fs.length ca, .slice B a.gs.length cb, .slice C a.ss.length cc]
theorem infoAu5 (a : Au) (A B C : Option Addr) (ca cb cc : Nat) : (Try.prog.info? 49).map (fun i => i.size) = some (auL a A B C ca cb cc).length := by
  have : (Try.prog.info? 49).map (fun i => i.size) = some 5 := by kernel_rfl
  exact this
/-- letter's contract, at the cells -/
theorem ltC_ (a : Au) (ha : AuFit a) (h3 : a.st ≤ 3) (n : Int) (A B C : Option Addr) (ca cb cc : Nat) (w : World) (hr : AuRd w 0 a A B C ca cb cc) :
    Calls Try.prog 90 #[.agg (auL a A B C ca cb cc).toArray, .int .i64 n] w fun e w' => ∃ O, e = .returned (.agg (bx9 O).toArray) ∧ BoxOf a [n] O ∧ Below w.heap.size w w' :=
  (letter_ a ha h3 n A B C ca cb cc w hr).mono fun e w' ⟨⟨O, he, hO⟩, hb⟩ => ⟨O, by rw [he, bx9_arr hO.len], hO, hb⟩
abbrev auArr (a : Au) (A B C : Option Addr) (ca cb cc : Nat) : Array Value := (auL a A B C ca cb cc).toArray
theorem auArr_at {W : World} {V : Nat} {a : Au} {A B C : Option Addr} {ca cb cc : Nat} {t : TypeId} (h : W.heap[V]? = some (.cells (auArr a A B C ca cb cc) t (0, 0))) : AuAt W V a A B C ca cb cc :=
  ⟨(Array.getElem?_eq_some_iff.1 h).1, by simp [World.cell?, h], by simp [World.cell?, h], by simp [World.cell?, h], by simp [World.cell?, h], by simp [World.cell?, h]⟩
structure ApM (w0 W : World) (Va Vb Vr Vs : Nat) (as' bs' : Array Value) (v : Value) (LS : List Bp) : Prop where
  aa : W.heap[Va]? = some (.cells as' 49 (0, 0))
  ab : W.heap[Vb]? = some (.cells bs' 49 (0, 0))
  cr : W.heap[Vr]? = some (.cells #[.slice none 0 0, .slice none 0 0] 26 (0, 0))
  cs : W.heap[Vs]? = some (.cells #[v] 125 (0, 0))
  q : GQ 131 bpC 18 W w0.heap.size v LS
  below : Below w0.heap.size w0 W
  la : w0.heap.size ≤ Va
  lb : w0.heap.size ≤ Vb
  lr : w0.heap.size ≤ Vr
  ls : w0.heap.size ≤ Vs
section
variable {w0 W W' : World} {Va Vb Vr Vs : Nat} {as' bs' : Array Value} {v : Value} {LS : List Bp}
theorem ApM.on (h : ApM w0 W Va Vb Vr Vs as' bs' v LS) (hb : Below W.heap.size W W') : ApM w0 W' Va Vb Vr Vs as' bs' v LS := by
  have lt : ∀ {k o}, W.heap[k]? = some o → k < W.heap.size := fun h => (Array.getElem?_eq_some_iff.1 h).1
  exact ⟨(hb.block _ (lt h.aa)).trans h.aa, (hb.block _ (lt h.ab)).trans h.ab, (hb.block _ (lt h.cr)).trans h.cr, (hb.block _ (lt h.cs)).trans h.cs, h.q.on hb, Below_on h.below hb h.below.size, h.la, h.lb, h.lr, h.ls⟩
theorem bpC_arr {X Y : Bx} (h1 : X.length = 9) (h2 : Y.length = 9) : boxC X ++ boxC Y = (bpC (X, Y)).toArray := by
  have := bpV_c (x := (X, Y)) h1 h2
  unfold bpV at this
  exact Value.agg.inj this
theorem ApM.app (h : ApM w0 W Va Vb Vr Vs as' bs' v LS) (hl : LS.length ≤ 1000000000) (x : Bp) :
    ∃ A c W2, (Builtin.append_ #[123, 123] 123 #[v, .slice (some ⟨W.heap.size, 0, none⟩) 1 1]).run Try.prog (W.alloc (Obj.cells (bpC x).toArray 131)) = .ok (.slice A (LS.length + 1) c) W2 ∧
      (W2.heap[Va]? = some (.cells as' 49 (0, 0)) ∧ W2.heap[Vb]? = some (.cells bs' 49 (0, 0))) ∧ W2.cell? ⟨Vs, 0, none⟩ = some v ∧ W2.frozen? ⟨Vs, 0, none⟩ = false ∧ ApM w0 (W2.setCell ⟨Vs, 0, none⟩ (.slice A (LS.length + 1) c)) Va Vb Vr Vs as' bs' (.slice A (LS.length + 1) c) (LS ++ [x]) := by
  have info18 : (Try.prog.info? 131).map (fun i => (i.zero, i.size, i.bytes)) = some (some (.agg #[.int .u8 0, .int .u8 0, .int .u8 0, .int .u8 0, .int .u8 0, .int .u8 0, .int .u8 0, .int .u8 0, .int .u8 0, .int .u8 0, .int .u8 0, .int .u8 0, .int .u8 0, .int .u8 0, .int .u8 0, .int .u8 0, .int .u8 0, .int .u8 0]), 18, 18) := by kernel_rfl
  obtain ⟨i0, hi0, hz0, hz1, hz2⟩ := info_parts info18
  have hb : Below W.heap.size W (W.alloc (Obj.cells (bpC x).toArray 131)) := (Below.refl _ _).alloc (Nat.le_refl _) _
  have hs1 : (W.alloc (Obj.cells (bpC x).toArray 131)).heap.size = W.heap.size + 1 := by simp
  have hsz := h.below.size
  have h1 := h.on hb
  obtain ⟨v', W2, hrun, hq, hg, hv'⟩ := run_append_g (y := x) (B := W.heap.size) 123 123 Try.underlying123 hi0 hz0 hz1 hz2 rfl (by decide) bpC_len bpC_one h1.q (allocNew W _) hl (by decide) (by omega)
  obtain ⟨A, c, rfl, _, _⟩ := hq.form
  rw [List.length_append, List.length_singleton] at *
  have nq : ∀ {k a t}, (W.alloc (Obj.cells (bpC x).toArray 131)).heap[k]? = some (Obj.cells a t (0, 0)) → t ≠ 131 → W2.heap[k]? = some (Obj.cells a t (0, 0)) := fun {k a t} hk ht => by
    refine (hg.block k (Array.getElem?_eq_some_iff.1 hk).1 (fun he => ?_)).trans hk
    obtain ⟨cur, hc⟩ := h1.q.cells he.symm
    exact cells_ne hk hc ht
  have hcs2 := nq h1.cs (by decide)
  have fc : ∀ {k a t}, W2.heap[k]? = some (Obj.cells a t (0, 0)) → t ≠ 125 → (W2.setCell ⟨Vs, 0, none⟩ (.slice A (LS.length + 1) c)).heap[k]? = some (Obj.cells a t (0, 0)) := fun {k a t} hk ht => by
    refine (Below.heap_setCell W2 ⟨Vs, 0, none⟩ _ k (fun he => ?_)).trans hk
    have he : k = Vs := he
    subst he
    exact cells_ne hk hcs2 ht
  have hbg : Below w0.heap.size w0 W2 := by
    refine Below_on (B := w0.heap.size) (B' := w0.heap.size) h1.below ?_ (Nat.le_refl _)
    exact ⟨hg.os, hg.tape, hg.output, hg.size, fun k hk => hg.block k (by omega) (fun e => by have := (h1.q.lt k e.symm).1; omega)⟩
  refine ⟨A, c, W2, hrun, ⟨nq h1.aa (by decide), nq h1.ab (by decide)⟩, by simp [World.cell?, hcs2], by simp [World.frozen?, hcs2], fc (nq h1.aa (by decide)) (by decide), fc (nq h1.ab (by decide)) (by decide), fc (nq h1.cr (by decide)) (by decide), ?_, ?_, hbg.setCell (p := ⟨Vs, 0, none⟩) h.ls _, h.la, h.lb, h.lr, h.ls⟩
  · simp [World.setCell, Array.getElem?_modify, hcs2]
  · refine hq.heap fun k hk => ?_
    obtain ⟨cur, hc⟩ := hq.cells hk
    rw [fc hc (by decide), hc]
theorem ApM.start (w : World) (as' bs' : Array Value) : ApM w ((((w.alloc (Obj.cells as' 49)).alloc (Obj.cells bs' 49)).alloc (Obj.cells #[.slice none 0 0, .slice none 0 0] 26)).alloc (Obj.cells #[.slice none 0 0] 125))
    w.heap.size (w.heap.size + 1) (w.heap.size + 1 + 1) (w.heap.size + 1 + 1 + 1) as' bs' (.slice none 0 0) [] := by
  have s1 : (w.alloc (Obj.cells as' 49)).heap.size = w.heap.size + 1 := by simp
  have g1 := allocNew w (Obj.cells as' 49)
  have b1 : Below w.heap.size w (w.alloc (Obj.cells as' 49)) := (Below.refl _ _).alloc (Nat.le_refl _) _
  generalize w.alloc (Obj.cells as' 49) = w1 at *
  have s2 : (w1.alloc (Obj.cells bs' 49)).heap.size = w1.heap.size + 1 := by simp
  have g2 := allocNew w1 (Obj.cells bs' 49)
  have b2 : Below w1.heap.size w1 (w1.alloc (Obj.cells bs' 49)) := (Below.refl _ _).alloc (Nat.le_refl _) _
  generalize w1.alloc (Obj.cells bs' 49) = w2 at *
  have s3 : (w2.alloc (Obj.cells #[.slice none 0 0, .slice none 0 0] 26)).heap.size = w2.heap.size + 1 := by simp
  have g3 := allocNew w2 (Obj.cells #[.slice none 0 0, .slice none 0 0] 26)
  have b3 : Below w2.heap.size w2 (w2.alloc (Obj.cells #[.slice none 0 0, .slice none 0 0] 26)) := (Below.refl _ _).alloc (Nat.le_refl _) _
  generalize w2.alloc (Obj.cells #[.slice none 0 0, .slice none 0 0] 26) = w3 at *
  have g4 := allocNew w3 (Obj.cells #[.slice none 0 0] 125)
  have b4 : Below w3.heap.size w3 (w3.alloc (Obj.cells #[.slice none 0 0] 125)) := (Below.refl _ _).alloc (Nat.le_refl _) _
  generalize w3.alloc (Obj.cells #[.slice none 0 0] 125) = w4 at *
  rw [s1] at g2 b2 s2
  rw [s2] at g3 b3 s3
  rw [s3] at g4 b4
  exact ⟨(b4.block _ (by omega)).trans ((b3.block _ (by omega)).trans ((b2.block _ (by omega)).trans g1)), (b4.block _ (by omega)).trans ((b3.block _ (by omega)).trans g2), (b4.block _ (by omega)).trans g3, g4, GQ.nil_,
    Below_on (Below_on (Below_on b1 b2 (by omega)) b3 (by omega)) b4 (by omega), by omega, by omega, by omega, by omega⟩
end
end Go.Proofs.Ytoglgeaiiipchaa

namespace Go.Proofs.Ytoglgeaiiipchaa
open Go Go.RowKit Go.Maps
theorem step_bsl {w : World} {ops : Array Oper} {o : Oper} {a : Act} {K : Act → World → Prop} {Q : Exit → Act → World → Prop} {E : Prop} (hgd : o.guard = none) (x : Operand)
    (ho : o.op = .buildSlice 123 1 #[(0, x)]) (y : Bp) (hx : a.eval x = .agg (bpC y).toArray) (h : K (a.put o.dst (.slice (some ⟨w.heap.size, 0, none⟩) 1 1)) (w.alloc (Obj.cells (bpC y).toArray 131))) :
    if Region.wanted o (yielded ops a.tmps) = true then Oper.wp Try.prog o a w K Q else E := by
  have hw : Region.wanted o (yielded ops a.tmps) = true := by simp [Region.wanted, hgd]
  rw [if_pos hw]
  have info18 : (Try.prog.info? 131).map (fun i => (i.zero, i.size, i.bytes)) = some (some (.agg #[.int .u8 0, .int .u8 0, .int .u8 0, .int .u8 0, .int .u8 0, .int .u8 0, .int .u8 0, .int .u8 0, .int .u8 0, .int .u8 0, .int .u8 0, .int .u8 0, .int .u8 0, .int .u8 0, .int .u8 0, .int .u8 0, .int .u8 0, .int .u8 0]), 18, 18) := by kernel_rfl
  obtain ⟨i0, hi0, hz0, hz1, hz2⟩ := info_parts info18
  refine wp_buildSlice 123 131 1 _ ho (bpC y).toArray i0 _ Try.underlying123 hi0 hz0 (by rw [hz1]; decide) (by rw [hz1]; decide) ?_ h
  rw [hz1]
  simp only [List.map_toArray, List.map_cons, List.map_nil, hx]
  first | kernel_rfl | simp [bpC, bx9, go_sem] | simp [bpC, bx9, Instr.fill, Array.range]
end Go.Proofs.Ytoglgeaiiipchaa

namespace Go.Proofs.Ytoglgeaiiipchaa
open Go Go.RowKit Go.Maps

def s2C (x : S2) : List Value := [.int .i64 x.1, .int .i64 x.2]
theorem s2C_len (x : S2) : (s2C x).length = 2 := rfl
theorem s2C_one (x : S2) : ∀ u ∈ s2C x, u.oneCell' = true := by
  intro u hu
  simp only [s2C, List.mem_cons, List.not_mem_nil, or_false] at hu
  rcases hu with rfl | rfl <;> rfl
theorem infoS2 : (Try.prog.info? 137).map (fun i => (i.zero, i.size, i.bytes)) = some (some (.agg #[.int .i64 0, .int .i64 0]), 2, 16) := by kernel_rfl
structure HdM (B : Nat) (W : World) (Mo : Nat) (v : Value) (D : List (S2 × Sl)) (Q : List S2) (Ws : List (Sl × List Int)) : Prop where
  out : GAt 137 s2L slE slD W Mo D
  q : GQ 137 s2C 2 W B v Q
  ws : ∀ s ∈ Ws, WyAt W B s.1 s.2
  bM : B ≤ Mo
section
variable {B : Nat} {W W' : World} {Mo : Nat} {v : Value} {D : List (S2 × Sl)} {Q : List S2} {Ws : List (Sl × List Int)}
theorem HdM.on (h : HdM B W Mo v D Q Ws) (hb : Below W.heap.size W W') : HdM B W' Mo v D Q Ws := ⟨h.out.on hb, h.q.on hb, fun e he => (h.ws e he).on hb, h.bM⟩
theorem HdM.add (h : HdM B W Mo v D Q Ws) {s : Sl} {w : List Int} (hs : WyAt W B s w) : HdM B W Mo v D Q ((s, w) :: Ws) := ⟨h.out, h.q, fun t ht => by
  rcases List.mem_cons.1 ht with rfl | ht
  · exact hs
  · exact h.ws t ht, h.bM⟩
theorem HdM.sub (h : HdM B W Mo v D Q Ws) {Ws' : List (Sl × List Int)} (hs : ∀ s ∈ Ws', s ∈ Ws) : HdM B W Mo v D Q Ws' := ⟨h.out, h.q, fun t ht => h.ws t (hs t ht), h.bM⟩
theorem HdM.queue (h : HdM B W Mo v D Q Ws) {v' : Value} {Q' : List S2} (hq : GQ 137 s2C 2 W B v' Q') : HdM B W Mo v' D Q' Ws := ⟨h.out, hq, h.ws, h.bM⟩
/-- cells stay where a map is turned -/
theorem keep_map {M : Nat} (hg : W.grownBy W' (some M)) (hM : ∃ es c, W.heap[M]? = some (.map es c)) {k : Nat} {a : Array Value} {t : TypeId} (hk : W.heap[k]? = some (Obj.cells a t (0, 0))) : W'.heap[k]? = some (Obj.cells a t (0, 0)) := by
  obtain ⟨es, c, hM⟩ := hM
  refine (hg.block k (Array.getElem?_eq_some_iff.1 hk).1 (fun e => ?_)).trans hk
  obtain rfl := Option.some.inj e
  rw [hM] at hk
  cases hk
theorem HdM.put (h : HdM B W Mo v D Q Ws) (hl : D.length ≤ 1000000000) {x : S2} (hx : S2W x) (s : Sl) :
    ∃ W', (Instr.mapUpdate 132 (.map (some Mo)) (s2V x) (slV s)).run Try.prog W = .ok () W' ∧ HdM B W' Mo v (D ++ [(x, s)]) Q Ws ∧ W.grownBy W' (some Mo) := by
  obtain ⟨W', h1, h2, h3⟩ := s2K.put (s := s) h.out (by omega) hx
  refine ⟨W', h1, ⟨h2, h.q.heap fun k hk => ?_, fun s hs => (h.ws s hs).heap fun k hk => ?_, h.bM⟩, h3⟩
  · obtain ⟨cur, hc⟩ := h.q.cells hk
    rw [keep_map h3 h.out.block hc, hc]
  · obtain ⟨cur, hc⟩ := (h.ws s hs).cells hk
    rw [keep_map h3 h.out.block hc, hc]
theorem HdM.app (h : HdM B W Mo v D Q Ws) (hl : Q.length ≤ 1000000000) (x : S2) {Bn : Nat} (hB : W.heap[Bn]? = some (.cells #[.int .i64 x.1, .int .i64 x.2] 137 (0, 0))) (hle : B ≤ W.heap.size) :
    ∃ A c W', (Builtin.append_ #[157, 157] 157 #[v, .slice (some ⟨Bn, 0, none⟩) 1 1]).run Try.prog W = .ok (.slice A (Q.length + 1) c) W' ∧ HdM B W' Mo (.slice A (Q.length + 1) c) D (Q ++ [x]) Ws ∧ W.grownBy W' v.ownBlock ∧
      (∀ k, (Value.slice A (Q.length + 1) c).ownBlock = some k → v.ownBlock = some k ∨ W.heap.size ≤ k) := by
  obtain ⟨i0, hi0, hz0, hz1, hz2⟩ := info_parts infoS2
  obtain ⟨v', W', h1, h2, h3, h4⟩ := run_append_g (y := x) (B := Bn) 157 157 Try.underlying157 hi0 hz0 hz1 hz2 rfl (by decide) s2C_len s2C_one h.q hB hl (by decide) hle
  obtain ⟨A, c, rfl, _, _⟩ := h2.form
  rw [List.length_append, List.length_singleton] at *
  refine ⟨A, c, W', h1, ⟨?_, h2, ?_, h.bM⟩, h3, fun k hk => ?_⟩
  · obtain ⟨es, c', hM⟩ := h.out.block
    refine h.out.heap (h3.block Mo h.out.lt fun e => ?_)
    obtain ⟨cur, hc⟩ := h.q.cells e.symm
    rw [hM] at hc; cases hc
  · refine fun s hs => (h.ws s hs).heap fun k hk => ?_
    obtain ⟨cur, hc⟩ := (h.ws s hs).cells hk
    refine h3.block k ((h.ws s hs).lt k hk).2 fun e => ?_
    obtain ⟨cur', hc'⟩ := h.q.cells e.symm
    exact cells_ne hc hc' (by decide)
  · rcases h4 with h5 | h5
    · exact .inl (by rw [← h5]; exact hk)
    · rw [h5] at hk
      have := Option.some.inj hk
      right; omega
end
def hdP (e : LO) : (Nat × Nat) × List Int := (e.1, e.2.1)
def hdW (e : LO) : Sl × List Int := (e.2.2, e.2.1)
def hdK (e : LO) : S2 := (((e.1.1 : Nat) : Int), ((e.1.2 : Nat) : Int))
structure HdS (w0 W : World) (Mo : Nat) (v : Value) (R : List LO) (p : Nat) : Prop where
  mem : HdM w0.heap.size W Mo v (R.map loM) ((R.drop p).map hdK) (R.map hdW)
  below : Below w0.heap.size w0 W
  le : p ≤ R.length
theorem HdS.on {w0 W W' : World} {Mo : Nat} {v : Value} {R : List LO} {p : Nat} (h : HdS w0 W Mo v R p) (hb : Below W.heap.size W W') : HdS w0 W' Mo v R p := ⟨h.mem.on hb, Below_on h.below hb h.below.size, h.le⟩
end Go.Proofs.Ytoglgeaiiipchaa
