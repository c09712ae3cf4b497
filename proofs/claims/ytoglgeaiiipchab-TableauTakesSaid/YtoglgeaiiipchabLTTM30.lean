/- Walks: the law's until and holdsBegun. -/
import Derived.Test.YtoglgeaiiipchabLTTM29
import Derived.Test.YtoglgeaiiipchabLTTM1
import Derived.Test.YtoglgeaiiipchabProg
set_option linter.unusedSimpArgs false
set_option linter.unusedVariables false
namespace Go.Proofs.Ytoglgeaiiipchab
open Go Go.RowKit Go.Shelf

def holdsV (f : List Nd) (l : La) : Bool := if ckT f l = 0 then gB (tableOf l f) (f.length - 1) 0 else false
theorem ret_bi {a a' : Bool} {b b' : Int} (h1 : a = a') (h2 : b = b') : Ending.returned (.tuple #[.bool a, .int .i64 b]) = Ending.returned (.tuple #[.bool a', .int .i64 b']) := by rw [h1, h2]
theorem ckT_F {f : List Nd} {l : La} (h : ckT f l = 0) : ckF f = 0 ∧ ckL l 8 = 0 := by
  unfold ckT at h
  split at h
  · exact ⟨by assumption, h⟩
  · rename_i h1; exact absurd h h1
theorem mem_tableOf (l : La) (f : List Nd) : ∀ r ∈ tableOf l f, r.length = l.n := mem_rowsOf l f f.length
theorem length_tableOf (l : La) (f : List Nd) : (tableOf l f).length = f.length := length_rowsOf l f f.length
theorem ckT_lim {f : List Nd} {l : La} (h : ckT f l = 0) : 0 < f.length ∧ f.length ≤ 12 ∧ l.n ≤ 8000 ∧ 0 < l.n ∧ l.h.length < l.n := by
  obtain ⟨h1, h2⟩ := ckT_F h
  have a := ckF_ok h1
  have b := okLetters h2
  unfold La.n
  omega

set_option maxRecDepth 100000 in
set_option maxHeartbeats 1000000 in
theorem Holds_ (F : Option Addr) (fc : Nat) (f : List Nd) (A B : Option Addr) (ca cb : Nat) (l : La) (w : World) (hf : Nds w 0 F fc f) (hh : Ints w 0 A ca l.h) (hl : Ints w 0 B cb l.l) :
    Calls Try.prog 15 #[.slice F f.length fc, .agg #[.slice A l.h.length ca, .slice B l.l.length cb]] w fun e w' => e = .returned (.tuple #[.bool (holdsV f l), .int .i64 (ckT f l)]) ∧ Below w.heap.size w w' := by
  have hle := hf.le
  have hcp := hf.cap
  have HA := Lib.hid ((Below.refl w.heap.size w).alloc (Nat.le_refl _) (Obj.cells #[Value.slice A l.h.length ca, Value.slice B l.l.length cb] 28))
  have HT := Lib.hid (Table_ F fc f A B ca cb l (w.alloc (Obj.cells #[Value.slice A l.h.length ca, Value.slice B l.l.length cb] 28)) (hf.below HA.out) (hh.below HA.out) (hl.below HA.out))
  go_enter Try.func15, Try.ntmps15
  go_wp2_with fail
  refine HT.out.mono ?_
  rintro e w1 ⟨hb1, hp⟩
  have HB1 := Lib.hid (Below_on HA.out hb1 (by simp))
  clear hb1
  by_cases hc : ckT f l = 0
  · rw [if_pos hc] at hp
    obtain ⟨v, gs, rfl, htab⟩ := hp
    obtain ⟨T, tc, hv, hjunk⟩ := own_form htab.own
    clear hjunk
    subst hv
    have hlim := ckT_lim hc
    have htl := length_tableOf l f
    have hrows := htab.rows (by omega) (fun r hr => by rw [mem_tableOf l f r hr]; omega)
    have hk : f.length - 1 < (tableOf l f).length := by omega
    have hcp2 := hrows.cap
    have hle2 := hrows.le
    obtain ⟨b, o, rfl, hbl, A', c', hcell, hrow⟩ := hrows.rd (f.length - 1) hk
    have hrl : ((tableOf l f)[f.length - 1]).length = l.n := mem_tableOf l f _ (List.getElem_mem hk)
    have h0 : 0 < ((tableOf l f)[f.length - 1]).length := by omega
    have hcp3 := hrow.cap
    have hle3 := hrow.le
    obtain ⟨b2, o2, rfl, _, _, hc2⟩ := Bools.at_ hrow h0
    rw [Nat.add_zero] at hc2
    have HF := Lib.hid (show holdsV f l = ((tableOf l f)[f.length - 1])[0] by
      unfold holdsV
      rw [if_pos hc]
      simp [gB, hk, h0])
    have HC := Lib.hid hc
    have e1 : ((f.length : Int) - 1) = ((f.length - 1 : Nat) : Int) := by omega
    have e2 : (ckT f l != 0) = false := by simp [hc]
    have hn : f.length - 1 < f.length := by omega
    clear htab hrows hrl hrow hc
    generalize (tableOf l f)[f.length - 1] = rw1 at *
    rw [htl]
    rw [htl] at hle2
    have h00 : (0 : Int) < (rw1.length : Int) := by omega
    clear htl
    go_wp2_with fail
    go_ret2
    exact ⟨ret_bi HF.out.symm HC.out.symm, HB1.out⟩
  · rw [if_neg hc] at hp
    subst hp
    have HF := Lib.hid (show holdsV f l = false by unfold holdsV; rw [if_neg hc])
    have e2 : (ckT f l != 0) = true := by simpa using hc
    clear hc
    go_wp2
    go_ret2
    exact ⟨ret_bi HF.out.symm rfl, HB1.out⟩
end Go.Proofs.Ytoglgeaiiipchab

namespace Go.Proofs.Ytoglgeaiiipchab
open Go Go.RowKit

def untF : List Nd := [⟨2, 0, 0, 0⟩, ⟨2, 0, 0, 1⟩, ⟨7, 0, 1, 0⟩]
theorem untF_rd {w' : World} {b : Nat} (hb : b < w'.heap.size) (h : w'.heap[b]? = some (Obj.cells #[Value.int IntKind.i64 2, Value.int IntKind.i64 0, Value.int IntKind.i64 0, Value.int IntKind.i64 0,
      Value.int IntKind.i64 2, Value.int IntKind.i64 0, Value.int IntKind.i64 0, Value.int IntKind.i64 1,
      Value.int IntKind.i64 7, Value.int IntKind.i64 0, Value.int IntKind.i64 1, Value.int IntKind.i64 0] 74)) : Nds w' 0 (some ⟨b, 0, none⟩) 3 untF := by
  refine ⟨by decide, by omega, by decide, fun _ => ⟨b, 0, rfl, Nat.zero_le _, hb, fun j u hu => ?_⟩⟩
  simp only [World.cell?, h]
  simp only [untF, List.flatMap_cons, List.flatMap_nil, Nd.cells, List.cons_append, List.nil_append, List.append_nil] at hu
  simpa using hu
def UntPost (w : World) (e : Ending) (w' : World) : Prop := ∃ b, e = .returned (.slice (some ⟨b, 0, none⟩) 3 3) ∧ Nds w' 0 (some ⟨b, 0, none⟩) 3 untF ∧ Below w.heap.size w w'
set_option maxRecDepth 100000 in
theorem until_ (w : World) : Calls Try.prog 38 #[] w (UntPost w) := by
  have HP : Hid (UntPost w (.returned (.slice (some ⟨w.heap.size, 0, none⟩) 3 3)) (w.alloc (Obj.cells #[Value.int IntKind.i64 2, Value.int IntKind.i64 0, Value.int IntKind.i64 0, Value.int IntKind.i64 0,
      Value.int IntKind.i64 2, Value.int IntKind.i64 0, Value.int IntKind.i64 0, Value.int IntKind.i64 1,
      Value.int IntKind.i64 7, Value.int IntKind.i64 0, Value.int IntKind.i64 1, Value.int IntKind.i64 0] 74))) :=
    ⟨_, rfl, untF_rd (by simp) Array.getElem?_push_size, (Below.refl _ _).alloc (Nat.le_refl _) _⟩
  go_enter Try.func38, Try.ntmps38
  go_wp2_with fail
  go_ret
  exact HP.out
end Go.Proofs.Ytoglgeaiiipchab

namespace Go.Proofs.Ytoglgeaiiipchab
open Go Go.RowKit Go.Shelf

def begL : La := ⟨[1, 2], [0]⟩
theorem untF_ck : ckT untF begL = 0 := by decide +kernel
theorem untF_tab : tableOf begL untF = [[true, false, false], [false, true, false], [true, true, false]] := by decide +kernel

/-- the world in which the law has laid its lasso -/
def hbW (w : World) : World := ((w.alloc (Obj.cells #[Value.int IntKind.i64 1, Value.int IntKind.i64 2] 3)).alloc
      (Obj.cells #[Value.int IntKind.i64 0] 3)).alloc
  (Obj.cells
    #[Value.slice (some ⟨w.heap.size, 0, none⟩) 2 2,
      Value.slice (some ⟨w.heap.size + 1, 0, none⟩) 1 1]
    28)
structure HbW (w W : World) : Prop where
  below : Below w.heap.size w W
  size : W.heap.size = w.heap.size + 1 + 1 + 1
  l0 : W.cell? ⟨w.heap.size + 1 + 1, 0, none⟩ = some (.slice (some ⟨w.heap.size, 0, none⟩) 2 2)
  l1 : W.cell? ⟨w.heap.size + 1 + 1, 1, none⟩ = some (.slice (some ⟨w.heap.size + 1, 0, none⟩) 1 1)
  h : Ints W 0 (some ⟨w.heap.size, 0, none⟩) 2 begL.h
  l : Ints W 0 (some ⟨w.heap.size + 1, 0, none⟩) 1 begL.l
theorem hbW_is (w : World) : HbW w (hbW w) := by
  unfold hbW
  refine ⟨by go_grown, by simp, by go_simp, by go_simp, ?_, ?_⟩
  · refine ⟨by decide, by omega, by decide, fun _ => ⟨_, 0, rfl, Nat.zero_le _, by simp; omega, fun j u hu => ?_⟩⟩
    match j, hu with
    | 0, hu => simp [begL] at hu; subst hu; go_simp
    | 1, hu => simp [begL] at hu; subst hu; go_simp
    | j + 2, hu => simp [begL] at hu
  · refine ⟨by decide, by omega, by decide, fun _ => ⟨_, 0, rfl, Nat.zero_le _, by simp, fun j u hu => ?_⟩⟩
    match j, hu with
    | 0, hu => simp [begL] at hu; subst hu; go_simp
    | j + 1, hu => simp [begL] at hu

theorem HoldsBeg_ {fb V : Nat} {w : World} (hf : Nds w 0 (some ⟨fb, 0, none⟩) 3 untF) (hh : Ints w 0 (some ⟨V, 0, none⟩) 2 begL.h) (hl : Ints w 0 (some ⟨V + 1, 0, none⟩) 1 begL.l) :
    Calls Try.prog 15 #[.slice (some ⟨fb, 0, none⟩) 3 3, .agg #[.slice (some ⟨V, 0, none⟩) 2 2, .slice (some ⟨V + 1, 0, none⟩) 1 1]] w fun e w' => e = .returned (.tuple #[.bool true, .int .i64 0]) ∧ Below w.heap.size w w' := by
  have := Holds_ _ _ untF _ _ _ _ begL w hf hh hl
  rw [show holdsV untF begL = true by decide +kernel, untF_ck] at this
  exact this

theorem tabBeg_rd {w : World} {lo : Nat} {v : Value} {gs : List Nat} (h : TabAt w lo v [[true, false, false], [false, true, false], [true, true, false]] gs) :
    ∃ tb tq tc g, v = .slice (some ⟨tb, tq, none⟩) 3 tc ∧ 3 ≤ tc ∧ tc ≤ 9223372036854775807 ∧ w.cell? ⟨tb, tq + 2, none⟩ = some (.slice (some ⟨g, 0, none⟩) 3 3) ∧ w.cell? ⟨g, 0, none⟩ = some (.bool true) ∧ w.cell? ⟨g, 1, none⟩ = some (.bool true) ∧ w.cell? ⟨g, 2, none⟩ = some (.bool false) := by
  obtain ⟨A, c, hv, h1, h2, h3, _⟩ := own_form h.own
  have hl := h.len
  match gs, hl with
  | [g0, g1, g2], _ =>
    obtain ⟨b, off, hA, _, hb, hc⟩ := h3 (by simp)
    obtain ⟨h4, h5, h6⟩ := h.row 2 (by decide) (by simp)
    refine ⟨b, off, c, g2, by rw [hv, hA]; rfl, h1, h2, hc 2 _ rfl, (h4.cell (i := 0) (by decide)).1, (h4.cell (i := 1) (by decide)).1, (h4.cell (i := 2) (by decide)).1⟩
theorem TableBeg_ {fb V : Nat} {w : World} (hf : Nds w 0 (some ⟨fb, 0, none⟩) 3 untF) (hh : Ints w 0 (some ⟨V, 0, none⟩) 2 begL.h) (hl : Ints w 0 (some ⟨V + 1, 0, none⟩) 1 begL.l) :
    Calls Try.prog 39 #[.slice (some ⟨fb, 0, none⟩) 3 3, .agg #[.slice (some ⟨V, 0, none⟩) 2 2, .slice (some ⟨V + 1, 0, none⟩) 1 1]] w fun e w' =>
      ∃ tb tq tc g, e = .returned (.tuple #[.slice (some ⟨tb, tq, none⟩) 3 tc, .int .i64 0]) ∧ 3 ≤ tc ∧ tc ≤ 9223372036854775807 ∧ w'.cell? ⟨tb, tq + 2, none⟩ = some (.slice (some ⟨g, 0, none⟩) 3 3) ∧ w'.cell? ⟨g, 0, none⟩ = some (.bool true) ∧ w'.cell? ⟨g, 1, none⟩ = some (.bool true) ∧ w'.cell? ⟨g, 2, none⟩ = some (.bool false) ∧ Below w.heap.size w w' := by
  have := Table_ _ _ untF _ _ _ _ begL w hf hh hl
  refine Calls.mono this ?_
  rintro e w' ⟨hb, hp⟩
  rw [untF_ck, if_pos rfl, untF_tab] at hp
  obtain ⟨v, gs, rfl, ht⟩ := hp
  obtain ⟨tb, tq, tc, g, rfl, h1, h2, h3, h4, h5, h6⟩ := tabBeg_rd ht
  exact ⟨tb, tq, tc, g, rfl, h1, h2, h3, h4, h5, h6, hb⟩

set_option maxRecDepth 100000 in
set_option maxHeartbeats 1000000 in
theorem holdsBegun_ (w : World) : Calls Try.prog 14 #[] w fun e w' => e = .returned (.bool true) ∧ Below w.heap.size w w' := by
  have HW := Lib.hid (hbW_is w)
  go_enter Try.func14, Try.ntmps14
  go_wp2_with fail
  change Code.wp _ _ _ _ (hbW w)
  generalize hbW w = W0 at *
  obtain ⟨V, hV⟩ : ∃ V, V = w.heap.size := ⟨_, rfl⟩
  obtain ⟨X, hX⟩ : ∃ X, X = w.heap.size + 1 + 1 := ⟨_, rfl⟩
  have HWV : Hid (W0.cell? ⟨X, 0, none⟩ = some (.slice (some ⟨V, 0, none⟩) 2 2) ∧ W0.cell? ⟨X, 1, none⟩ = some (.slice (some ⟨V + 1, 0, none⟩) 1 1) ∧ X < W0.heap.size ∧ Ints W0 0 (some ⟨V, 0, none⟩) 2 begL.h ∧ Ints W0 0 (some ⟨V + 1, 0, none⟩) 1 begL.l) := by
    rw [hX, hV]
    exact ⟨HW.out.l0, HW.out.l1, by have := HW.out.size; omega, HW.out.h, HW.out.l⟩
  rw [← hX, ← hV]
  have HV := Lib.hid hV
  clear hX hV
  obtain ⟨x0, x1, x2, HI, HL⟩ := HWV.out
  have HIH := Lib.hid HI
  have HIL := Lib.hid HL
  clear HI HL
  go_region_held3 (fun w' => w'.cell? ⟨X, 0, none⟩ = some (.slice (some ⟨V, 0, none⟩) 2 2) ∧ w'.cell? ⟨X, 1, none⟩ = some (.slice (some ⟨V + 1, 0, none⟩) 1 1))
    (first | go_keep | exact ⟨q0, q1⟩)
    (first
      | (go_at_call 38; refine (until_ _).mono ?_; rintro e w3 ⟨fb, rfl, hf, hb3'⟩; have hb3 : Below W0.heap.size W0 w3 := (Below.refl _ W0).drew.trans hb3'; have x3 : X < w3.heap.size := by { have := hb3.size; omega }; have q0 := (cell_on hb3 x2).trans x0; have q1 := (cell_on hb3 x2).trans x1)
      | (go_at_call 15; refine (HoldsBeg_ (fb := fb) (V := V) (w := w3) hf (HIH.out.below hb3) (HIL.out.below hb3)).mono ?_; rintro e w4 ⟨rfl, hb4⟩; have q2 := (cell_on hb4 x3).trans q0; have q3 := (cell_on hb4 x3).trans q1; clear q0 q1; have q0 := q2; have q1 := q3))
  have y0 := q0
  have y1 := q1
  clear q0 q1 q2 q3 x0 x1 x2 hf hb3'
  have x4 : X < w4.heap.size := by have := hb4.size; omega
  have HIH4 := Lib.hid ((HIH.out.below hb3).below hb4)
  have HIL4 := Lib.hid ((HIL.out.below hb3).below hb4)
  have HB4 : Hid (Below V w w4) := by
    rw [HV.out]
    exact Below_on (Below_on HW.out.below hb3 HW.out.below.size) hb4 (by have := hb3.size; have := HW.out.size; omega)
  have hV4 : V < w4.heap.size := by have := HB4.out.size; have := HW.out.size; have := hb3.size; have := hb4.size; rw [HV.out]; omega
  clear hb3 hb4 x3
  go_wp2_with fail
  go_region_held3 (fun w' => w'.cell? ⟨X, 0, none⟩ = some (.slice (some ⟨V, 0, none⟩) 2 2) ∧ w'.cell? ⟨X, 1, none⟩ = some (.slice (some ⟨V + 1, 0, none⟩) 1 1))
    (first | go_keep | exact ⟨q0, q1⟩)
    (first
      | (go_at_call 38; refine (until_ _).mono ?_; rintro e w5 ⟨fb, rfl, hf, hb5'⟩; have hb5 : Below w4.heap.size w4 w5 := (Below.refl _ w4).drew.trans hb5'; have x5 : X < w5.heap.size := by { have := hb5.size; omega }; have q0 := (cell_on hb5 x4).trans y0; have q1 := (cell_on hb5 x4).trans y1)
      | (go_at_call 39; refine (TableBeg_ (fb := fb) (V := V) (w := w5) hf (HIH4.out.below hb5) (HIL4.out.below hb5)).mono ?_; rintro e w6 ⟨tb, tq, tc, g, rfl, t1, t2, t3, t4, t5, t6, hb6⟩; have q2 := (cell_on hb6 x5).trans q0; have q3 := (cell_on hb6 x5).trans q1; clear q0 q1; have q0 := q2; have q1 := q3))
  clear q0 q1 q2 q3 y0 y1 hf hb5'
  have HP : Hid (Below w.heap.size w w6) := by
    have := Below_on (Below_on HB4.out hb5 (by omega)) hb6 (by have := hb5.size; omega)
    rw [HV.out] at this
    exact this
  clear hb5 hb6
  go_wp2_with fail
  go_ret
  exact ⟨rfl, HP.out⟩
end Go.Proofs.Ytoglgeaiiipchab
