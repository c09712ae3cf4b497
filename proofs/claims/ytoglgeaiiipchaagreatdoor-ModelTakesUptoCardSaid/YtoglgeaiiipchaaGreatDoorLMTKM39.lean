import Derived.Test.YtoglgeaiiipchaaGreatDoorLMTKM26
import Derived.Test.YtoglgeaiiipchaaGreatDoorLMTKM24
import Derived.Test.YtoglgeaiiipchaaGreatDoorLMTKM25
import Derived.Test.YtoglgeaiiipchaaGreatDoorLMTKM38
import Derived.Test.YtoglgeaiiipchaaGreatDoorLMTKM1
import Derived.WalkKit
import Derived.ProofKit
import Derived.OpenShut
import Derived.ShutString
import Derived.ChangeOld
import Derived.Below
import Derived.Carry
import Derived.SizedLaws
import Derived.Lib.SmallJoins
import Derived.Deep.Slices
import Derived.Deep.Fields
import Derived.Test.YtoglgeaiiipchaaGreatDoorLMTKM27
import Derived.Test.YtoglgeaiiipchaaGreatDoorRows
set_option linter.unusedSimpArgs false
set_option linter.unusedVariables false
namespace Go.Proofs.YtoglgeaiiipchaaGreatDoor
open Go Go.RowKit Go.Shelf
def zeroL : La := ⟨[], [0]⟩
def oneL : La := ⟨[1], [0]⟩
def zerL : La := ⟨[0], [0, 0]⟩
theorem flat_ints (xs : List Int) : xs.flatMap (fun n : Int => [Value.int .i64 n]) = xs.map (Value.int .i64) := by
  induction xs with
  | nil => rfl
  | cons x r ih => rw [List.flatMap_cons, List.map_cons, ih]; rfl
theorem ints_lit {W : World} {b : Nat} {t : TypeId} {fz : Nat × Nat} (xs : List Int) (h : W.heap[b]? = some (.cells (xs.map (Value.int .i64)).toArray t fz)) (hl : xs.length ≤ 1000) : Ints W 0 (some ⟨b, 0, none⟩) xs.length xs := by
  refine ⟨Nat.le_refl _, by omega, by omega, fun _ => ⟨b, 0, rfl, Nat.zero_le _, (Array.getElem?_eq_some_iff.1 h).1, fun j u hu => ?_⟩⟩
  simp only [World.cell?, h, Nat.zero_add]
  rw [flat_ints] at hu
  simpa using hu
def zerW (w : World) : World := (w.alloc (Obj.cells #[.slice none 0 0, .slice (some ⟨w.heap.size + 1, 0, none⟩) 1 1] 27)).alloc (Obj.cells #[.int .i64 0] 3)
theorem zerW_is (w : World) : Ints (zerW w) w.heap.size (some ⟨w.heap.size + 1, 0, none⟩) 1 [0] ∧ Below w.heap.size w (zerW w) := by
  refine ⟨?_, by unfold zerW; go_grown⟩
  refine ⟨by decide, by omega, by decide, fun _ => ⟨_, 0, rfl, by omega, by unfold zerW; simp, fun j u hu => ?_⟩⟩
  match j, hu with
  | 0, hu => simp at hu; subst hu; unfold zerW; go_simp
  | j + 1, hu => simp at hu
theorem ints_nil (w : World) (lo : Nat) : Ints w lo none 0 [] := ⟨Nat.le_refl _, by omega, by decide, Rd.nil⟩
set_option maxRecDepth 100000 in
theorem zero_ (w : World) : Calls Tryz.prog 41 #[] w (LaPost w zeroL) := by
  have HP : Hid (LaPost w zeroL (.returned (.agg #[.slice none 0 0, .slice (some ⟨w.heap.size + 1, 0, none⟩) 1 1])) (zerW w)) :=
    ⟨none, some ⟨w.heap.size + 1, 0, none⟩, 0, 1, rfl, ints_nil _ _, (zerW_is w).1, (zerW_is w).2⟩
  go_enter Tryz.func41, Tryz.ntmps41
  go_wp2_with fail
  exact bodyPost_ret (by simp [results, Tryz.results41, go_sem]) rfl HP.out
theorem zero_ck : ckL zeroL 2 = 0 := by decide +kernel
theorem one_zero : tkB oneA zeroL = true := by
  have h1 : taErr oneA zeroL = 0 := by unfold taErr; rw [if_pos one_ck]; exact zero_ck
  have h2 : takesB oneA zeroL.at = true := takesB_iff.2 ⟨fun _ => 0, by simp [oneA], fun i => by
    have : zeroL.at i = 0 := by unfold La.at zeroL; simp [Nat.mod_one]
    rw [this]
    simp [oneA], fun n => ⟨n, Nat.le_refl _, by unfold Au.good; simp [oneA]⟩⟩
  unfold tkB
  rw [h1, h2]
  rfl
theorem one_one : tkB oneA oneL = false := by
  have h2 : takesB oneA oneL.at = false := by
    cases h : takesB oneA oneL.at with
    | false => rfl
    | true =>
      obtain ⟨r, h0, h1, _⟩ := takesB_iff.1 h
      have := h1 0
      simp [oneA, La.at, oneL] at this
  unfold tkB
  rw [h2, Bool.and_false]
theorem one_ta : taErr oneA zeroL = 0 ∧ taErr oneA oneL = 0 := by
  unfold taErr
  rw [if_pos one_ck, if_pos one_ck]
  exact ⟨zero_ck, by decide +kernel⟩
theorem zer_least : lstL zerL 2 = zeroL ∧ ckL zerL 2 = 0 ∧ atL oneL 2 0 = 1 ∧ atE oneL 2 0 = 0 ∧ ckL zeroL 1 = 0 := by
  refine ⟨by decide +kernel, by decide +kernel, by decide +kernel, by decide +kernel, by decide +kernel⟩
end Go.Proofs.YtoglgeaiiipchaaGreatDoor
namespace Go.Proofs.YtoglgeaiiipchaaGreatDoor
open Go Go.RowKit Go.Shelf
theorem LeastZer_ (A B : Option Addr) (w : World) (hh : Ints w 0 A 1 [0]) (hl : Ints w 0 B 2 [0, 0]) :
    Calls Tryz.prog 24 #[.agg #[.slice A 1 1, .slice B 2 2], .int .i64 2] w fun e w' => ∃ A B ca cb, e = .returned (.tuple #[.agg #[.slice A 0 ca, .slice B 1 cb], .int .i64 0]) ∧ Ints w' 0 A ca [] ∧ Ints w' 0 B cb [0] ∧ Below w.heap.size w w' := by
  have := Least_ A B 1 2 zerL 2 w hh hl
  rw [zer_least.1, zer_least.2.1] at this
  refine this.mono ?_
  rintro e w' ⟨A, B, ca, cb, h1, h2, h3, h4⟩
  exact ⟨A, B, ca, cb, h1, h2.zero, h3.zero, h4⟩
theorem zero0_ (w : World) : Calls Tryz.prog 41 #[] w fun e w' => ∃ A B ca cb, e = .returned (.agg #[.slice A 0 ca, .slice B 1 cb]) ∧ Ints w' 0 A ca [] ∧ Ints w' 0 B cb [0] ∧ Below w.heap.size w w' :=
  (zero_ w).mono fun e w' ⟨A, B, ca, cb, h1, h2, h3, h4⟩ => ⟨A, B, ca, cb, h1, h2.zero, h3.zero, h4⟩
theorem AtOne_ (A B : Option Addr) (w : World) (hh : Ints w 0 A 1 [1]) (hl : Ints w 0 B 1 [0]) :
    Calls Tryz.prog 39 #[.agg #[.slice A 1 1, .slice B 1 1], .int .i64 2, .int .i64 0] w (IntsPost w 1 0) := by
  have := At_ A B 1 1 oneL 2 0 w hh hl (by decide)
  rwa [zer_least.2.2.1, zer_least.2.2.2.1] at this
theorem TakesOne_ (A B C D E : Option Addr) (ca cb cc cd ce : Nat) (w : World) (hr : AuRd w 0 oneA A B C ca cb cc) (hh : Ints w 0 D cd []) (hl : Ints w 0 E ce [0]) :
    Calls Tryz.prog 11 #[.agg #[.int .i64 1, .int .i64 2, .slice A 1 ca, .slice B 1 cb, .slice C 1 cc], .agg #[.slice D 0 cd, .slice E 1 ce]] w fun e w' => e = .returned (.tuple #[.bool true, .int .i64 0]) ∧ Below w.heap.size w w' := by
  have := Takes_ oneA A B C D E ca cb cc cd ce zeroL w hr hh hl
  unfold TkPost at this
  rwa [one_zero, one_ta.1] at this
theorem TakesNo_ (A B C D E : Option Addr) (ca cb cc cd ce : Nat) (w : World) (hr : AuRd w 0 oneA A B C ca cb cc) (hh : Ints w 0 D cd [1]) (hl : Ints w 0 E ce [0]) :
    Calls Tryz.prog 11 #[.agg #[.int .i64 1, .int .i64 2, .slice A 1 ca, .slice B 1 cb, .slice C 1 cc], .agg #[.slice D 1 cd, .slice E 1 ce]] w fun e w' => e = .returned (.tuple #[.bool false, .int .i64 0]) ∧ Below w.heap.size w w' := by
  have := Takes_ oneA A B C D E ca cb cc cd ce oneL w hr hh hl
  unfold TkPost at this
  rwa [one_one, one_ta.2] at this
theorem CheckZero_ (A B : Option Addr) (ca cb : Nat) (w : World) (hh : Ints w 0 A ca []) (hl : Ints w 0 B cb [0]) :
    Calls Tryz.prog 42 #[.agg #[.slice A 0 ca, .slice B 1 cb], .int .i64 1] w fun e w' => e = .returned (.int .i64 0) ∧ Below w.heap.size w w' := by
  have := wordCheck_ A B ca cb zeroL 1 w hh hl
  rwa [zer_least.2.2.2.2] at this
theorem SameZero_ (A B C D : Option Addr) (ca cb cc cd : Nat) (w : World) (hh : Ints w 0 A ca []) (hl : Ints w 0 B cb [0]) (gh : Ints w 0 C cc []) (gl : Ints w 0 D cd [0]) :
    Calls Tryz.prog 29 #[.agg #[.slice A 0 ca, .slice B 1 cb], .agg #[.slice C 0 cc, .slice D 1 cd]] w (BoolPost w true) :=
  SameLasso_ A B C D ca cb cc cd zeroL zeroL w hh hl gh gl
theorem ints_one {W : World} {b : Nat} {t : TypeId} {fz : Nat × Nat} {x : Int} (h : W.heap[b]? = some (.cells #[.int .i64 x] t fz)) : Ints W 0 (some ⟨b, 0, none⟩) 1 [x] := ints_lit [x] h (by simp)
theorem ints_two {W : World} {b : Nat} {t : TypeId} {fz : Nat × Nat} {x y : Int} (h : W.heap[b]? = some (.cells #[.int .i64 x, .int .i64 y] t fz)) : Ints W 0 (some ⟨b, 0, none⟩) 2 [x, y] := ints_lit [x, y] h (by simp)
theorem two_blocks (W : World) (o1 o2 : Obj) : ((W.alloc o1).alloc o2).heap[W.heap.size]? = some o1 ∧ ((W.alloc o1).alloc o2).heap[W.heap.size + 1]? = some o2 ∧ Below W.heap.size W ((W.alloc o1).alloc o2) :=
  ⟨by rw [Below.heap_alloc _ _ _ (by simp)]; exact World.alloc_heap_new _ _, by have := World.alloc_heap_new (W.alloc o1) o2; rwa [World.size_alloc] at this, ((Below.refl _ _).alloc (Nat.le_refl _) _).alloc (by simp) _⟩
set_option maxRecDepth 100000 in
set_option maxHeartbeats 2000000 in
theorem wordBegun_ (w : World) : Calls Tryz.prog 8 #[] w (BoolPost w true) := by
  have H1 := Lib.hid (two_blocks w (Obj.cells #[.int .i64 0] 3) (Obj.cells #[.int .i64 0, .int .i64 0] 3))
  go_enter Tryz.func8, Tryz.ntmps8
  go_wp2_with fail
  refine (LeastZer_ _ _ _ (ints_one H1.out.1) (ints_two H1.out.2.1)).mono ?_
  rintro e w1 ⟨LA, LB, lca, lcb, rfl, hlh, hll, hb1⟩
  have hba : Below w1.heap.size w1 (w1.alloc (Obj.cells #[.slice LA 0 lca, .slice LB 1 lcb] 27)) := (Below.refl _ _).alloc (Nat.le_refl _) _
  have HB1 : Hid (Below w.heap.size w (w1.alloc (Obj.cells #[.slice LA 0 lca, .slice LB 1 lcb] 27))) := Below_on (Below_on H1.out.2.2 hb1 H1.out.2.2.size) hba (Nat.le_trans H1.out.2.2.size hb1.size)
  have HLH := Lib.hid (hlh.below hba)
  have HLL := Lib.hid (hll.below hba)
  have HX : Hid ((w1.alloc (Obj.cells #[.slice LA 0 lca, .slice LB 1 lcb] 27)).heap[w1.heap.size]? = some (Obj.cells #[.slice LA 0 lca, .slice LB 1 lcb] 27)) := World.alloc_heap_new _ _
  have H2 := Lib.hid (two_blocks (w1.alloc (Obj.cells #[.slice LA 0 lca, .slice LB 1 lcb] 27)) (Obj.cells #[.int .i64 1] 3) (Obj.cells #[.int .i64 0] 3))
  rw [World.size_alloc] at H2
  clear H1 hb1 hlh hll hba
  go_wp2_with fail
  refine (AtOne_ _ _ _ (ints_one H2.out.1) (ints_one H2.out.2.1)).mono ?_
  rintro e w2 ⟨rfl, hb2⟩
  obtain ⟨X, hX⟩ : ∃ X, X = w1.heap.size := ⟨_, rfl⟩
  rw [← hX] at HX ⊢
  have hXl : X < (w1.alloc (Obj.cells #[.slice LA 0 lca, .slice LB 1 lcb] 27)).heap.size := by simp [hX]
  have hb3 := Below_on (show Below (w1.alloc (Obj.cells #[.slice LA 0 lca, .slice LB 1 lcb] 27)).heap.size _ _ by rw [World.size_alloc]; exact H2.out.2.2) hb2 (by simp)
  have HX2 : Hid (w2.heap[X]? = some (Obj.cells #[.slice LA 0 lca, .slice LB 1 lcb] 27)) := (hb3.block X hXl).trans HX.out
  have HB2 : Hid (Below w.heap.size w w2) := Below_on HB1.out hb3 HB1.out.size
  have HLH2 := Lib.hid (HLH.out.below hb3)
  have HLL2 := Lib.hid (HLL.out.below hb3)
  clear H2 hb2 hb3 HX HLH HLL HB1 hXl hX
  go_wp2_with fail
  refine (one0_ w2).mono ?_
  rintro e w3 ⟨A3, B3, C3, ca3, cb3, cc3, rfl, hr3, hb3⟩
  have HB3 := Lib.hid hb3
  have HR3 := Lib.hid hr3
  clear hb3 hr3
  go_wp2_with fail
  refine (zero0_ w3).mono ?_
  rintro e w4 ⟨D4, E4, cd4, ce4, rfl, hh4, hl4, hb4⟩
  have HB4 := Lib.hid (Below_on HB3.out hb4 HB3.out.size)
  have HR4 := Lib.hid (HR3.out.below hb4)
  have HH4 := Lib.hid hh4
  have HL4 := Lib.hid hl4
  clear hb4 hh4 hl4 HR3 HB3
  go_wp2_with fail
  refine (TakesOne_ A3 B3 C3 D4 E4 ca3 cb3 cc3 cd4 ce4 w4 HR4.out HH4.out HL4.out).mono ?_
  rintro e w5 ⟨rfl, hb5⟩
  have HB5 := Lib.hid (Below_on HB4.out hb5 HB4.out.size)
  clear hb5 HH4 HL4 HR4 HB4
  go_wp2_with fail
  refine (one0_ w5).mono ?_
  rintro e w6 ⟨A6, B6, C6, ca6, cb6, cc6, rfl, hr6, hb6⟩
  have HB6 := Lib.hid (Below_on HB5.out hb6 HB5.out.size)
  have HR6 := Lib.hid hr6
  have H6 := Lib.hid (two_blocks w6 (Obj.cells #[.int .i64 1] 3) (Obj.cells #[.int .i64 0] 3))
  clear hb6 hr6 HB5
  go_wp2_with fail
  refine (TakesNo_ A6 B6 C6 _ _ ca6 cb6 cc6 1 1 _ (HR6.out.below H6.out.2.2) (ints_one H6.out.1) (ints_one H6.out.2.1)).mono ?_
  rintro e w7 ⟨rfl, hb7⟩
  have HB7 : Hid (Below w2.heap.size w2 w7) := Below_on (Below_on HB6.out H6.out.2.2 HB6.out.size) hb7 (Nat.le_trans HB6.out.size H6.out.2.2.size)
  clear H6 hb7 HB6 HR6
  have hX2l : X < w2.heap.size := (Array.getElem?_eq_some_iff.1 HX2.out).1
  have HX7 : Hid (w7.heap[X]? = some (Obj.cells #[.slice LA 0 lca, .slice LB 1 lcb] 27)) := (HB7.out.block X hX2l).trans HX2.out
  have HLH7 := Lib.hid (HLH2.out.below HB7.out)
  have HLL7 := Lib.hid (HLL2.out.below HB7.out)
  have HW7 : Hid (Below w.heap.size w w7) := Below_on HB2.out HB7.out HB2.out.size
  clear HX2 HLH2 HLL2 HB7 HB2 hX2l
  go_wp2_with fail
  have HBX : Hid (∀ W, Below w7.heap.size w7 W → W.cell? ⟨X, 0, none⟩ = some (.slice LA 0 lca) ∧ W.cell? ⟨X, 1, none⟩ = some (.slice LB 1 lcb)) := by
    intro W hW
    have hl : X < w7.heap.size := (Array.getElem?_eq_some_iff.1 HX7.out).1
    have h7 := (hW.block X hl).trans HX7.out
    exact ⟨by simp [World.cell?, h7], by simp [World.cell?, h7]⟩
  obtain ⟨x0, x1⟩ := HBX.out w7 (Below.refl _ _)
  have hw7 : w7.heap.size ≤ w7.heap.size := Nat.le_refl _
  go_region_held3 (fun w' => w'.cell? ⟨X, 0, none⟩ = some (.slice LA 0 lca) ∧ w'.cell? ⟨X, 1, none⟩ = some (.slice LB 1 lcb))
    (first | go_keep | exact ⟨q0, q1⟩)
    (first
      | (go_at_call 29; refine (SameZero_ LA LB _ _ lca lcb _ _ _ (HLH7.out.below HBC.out) (HLL7.out.below HBC.out) HHC.out HLC.out).mono ?_; rintro e wd ⟨rfl, hbd⟩; have HBD := Lib.hid (Below_on HBC.out hbd HBC.out.size); have q0 := (HBX.out _ HBD.out).1; have q1 := (HBX.out _ HBD.out).2)
      | (go_at_call 41; refine (zero0_ _).mono ?_; rintro e wc ⟨Dc, Ec, cdc, cec, rfl, hhc, hlc, hbc⟩; have HBC := Lib.hid (Below_on HBB.out hbc HBB.out.size); have HHC := Lib.hid hhc; have HLC := Lib.hid hlc; have q0 := (HBX.out _ HBC.out).1; have q1 := (HBX.out _ HBC.out).2)
      | (go_at_call 42; refine (CheckZero_ _ _ _ _ _ HHA.out HLA.out).mono ?_; rintro e wb ⟨rfl, hbb⟩; have HBB := Lib.hid (Below_on HBA.out hbb HBA.out.size); have q0 := (HBX.out _ HBB.out).1; have q1 := (HBX.out _ HBB.out).2)
      | (go_at_call 41; refine (zero0_ _).mono ?_; rintro e wa ⟨Da, Ea, cda, cea, rfl, hha, hla, hba⟩; have HBA := Lib.hid (Below_on ((Below.refl _ w7).drew) hba hw7); have HHA := Lib.hid hha; have HLA := Lib.hid hla; have q0 := (HBX.out _ HBA.out).1; have q1 := (HBX.out _ HBA.out).2))
  all_goals
    have HP : Hid (BoolPost w true (.returned (.bool true)) wd) := ⟨rfl, Below_on HW7.out HBD.out HW7.out.size⟩
    clear q0 q1 x0 x1 hba hbb hbc hbd HBX hhc hlc hha hla
    go_wp2_with fail
    go_ret
    exact HP.out
end Go.Proofs.YtoglgeaiiipchaaGreatDoor

namespace Go.Proofs.YtoglgeaiiipchaaGreatDoor
open Go Go.RowKit Go.Sort Go.Shelf
theorem moA_tk {m : Mo} (hm : MoOK m) (l : La) : taErr (moA m) l = ckL l 8 ∧ (ckL l 8 = 0 → (tkB (moA m) l = true ↔ MoGoes m l)) := by
  have h1 : taErr (moA m) l = ckL l 8 := by unfold taErr; rw [if_pos (moA_ck hm)]; rfl
  refine ⟨h1, fun hl => ?_⟩
  have hp : 0 < l.l.length := by have := ckL_ne hl; omega
  unfold tkB
  rw [h1, hl, ← (show TakesU (moA m) l.at ↔ MoGoes m l from mo_takes hm (moA_sort m) hp), ← takesB_iff]
  simp
set_option maxRecDepth 100000 in
set_option maxHeartbeats 8000000 in
theorem ModelTakes_ (m : Mo) (hraw : ckM m = 0 → (moRaw m m.ls.length).length ≤ 2000000) (l : La) (A B C G K : Option Addr) (ca cb cc cg ck : Nat) (vs : List RwS) (w : World) (hr : MoRd w 0 m A B C ca cb cc vs) (hg : Ints w 0 G cg l.h) (hk : Ints w 0 K ck l.l) :
    Calls Tryz.prog 3 #[.agg #[.int .i64 m.pr, .slice A m.ls.length ca, .slice B m.fs.length cb, .slice C m.ss.length cc], .agg #[.slice G l.h.length cg, .slice K l.l.length ck]] w (BoolPost w true) := by
  have HS := GoM.start m l A B C G K ca cb cc cg ck vs w hr hg hk
  have HRAW := Lib.hid hraw
  clear hr hg hk hraw
  go_enter Tryz.func3, Tryz.ntmps3
  go_upto_region 1 with fail
  change Code.wp _ _ _ _ (laMW w m A B C ca cb cc l G K cg ck)
  generalize laMW w m A B C ca cb cc l G K cg ck = W0 at *
  obtain ⟨V, hV⟩ : ∃ V, V = w.heap.size := ⟨_, rfl⟩
  rw [← hV] at HS ⊢
  clear hV
  have HALL : Hid (∀ W, Below W0.heap.size W0 W → GoM m l A B C G K ca cb cc cg ck vs V w W) := fun W hW => HS.on hW
  clear HS
  obtain ⟨_, c0, c1, c2, c3⟩ := (HALL.out _ (Below.refl _ _)).at_
  have HMA := Lib.hid (modelAuto_ m HRAW.out A B C ca cb cc vs W0 (HALL.out _ (Below.refl _ _)).rd)
  go_wp2_with fail
  refine HMA.out.mono ?_
  rintro e w1 ⟨A1, B1, C1, ca1, cb1, cc1, rfl, hrd, hb1⟩
  obtain ⟨a, hae⟩ : ∃ a, a = moAuto m := ⟨_, rfl⟩
  rw [← hae] at hrd ⊢
  have HAE := Lib.hid hae
  clear hae
  have hal : Below w1.heap.size w1 (w1.alloc (Obj.cells #[.int .i64 a.st, .int .i64 a.le, .slice A1 a.fs.length ca1, .slice B1 a.gs.length cb1, .slice C1 a.ss.length cc1] 31)) := (Below.refl _ _).alloc (Nat.le_refl _) _
  have HX := Lib.hid (World.alloc_heap_new w1 (Obj.cells #[.int .i64 a.st, .int .i64 a.le, .slice A1 a.fs.length ca1, .slice B1 a.gs.length cb1, .slice C1 a.ss.length cc1] 31))
  have HB1 := Lib.hid (Below_on hb1 hal hb1.size)
  have HRD := Lib.hid ((hrd.low (Nat.zero_le _)).below hal)
  clear hb1 hal hrd HMA c0 c1 c2 c3
  go_upto_region 2 with fail
  obtain ⟨X, hX⟩ : ∃ X, X = w1.heap.size := ⟨_, rfl⟩
  rw [← hX] at HX ⊢
  clear hX
  generalize w1.alloc (Obj.cells #[.int .i64 a.st, .int .i64 a.le, .slice A1 a.fs.length ca1, .slice B1 a.gs.length cb1, .slice C1 a.ss.length cc1] 31) = W1 at *
  have HAL2 : Hid (∀ W, Below W1.heap.size W1 W → GoM m l A B C G K ca cb cc cg ck vs V w W ∧ W.heap[X]? = some (.cells #[.int .i64 a.st, .int .i64 a.le, .slice A1 a.fs.length ca1, .slice B1 a.gs.length cb1, .slice C1 a.ss.length cc1] 31 (0, 0)) ∧ AuRd W 0 a A1 B1 C1 ca1 cb1 cc1) := fun W hW =>
    ⟨HALL.out _ (Below_on HB1.out hW HB1.out.size), (hW.block X (Array.getElem?_eq_some_iff.1 HX.out).1).trans HX.out, HRD.out.below hW⟩
  clear HB1 HX HRD HALL
  obtain ⟨_, c0, c1, c2, c3⟩ := (HAL2.out _ (Below.refl _ _)).1.at_
  have HCM := Lib.hid (CheckModel_ m A B C ca cb cc vs W1 (HAL2.out _ (Below.refl _ _)).1.rd)
  go_upto_region 3 with (first
    | (go_at_call 6; refine HCM.out.mono ?_; rintro e w2 ⟨rfl, hb2⟩))
  have HB2 := Lib.hid hb2
  clear hb2 c0 c1 c2 c3 HCM
  go_wp2_with fail
  refine (modelBegun_ w2).mono ?_
  rintro e w3 ⟨rfl, hb3⟩
  have HB3 := Lib.hid (Below_on HB2.out hb3 HB2.out.size)
  clear hb3 HB2
  go_wp2_with fail
  refine (wordBegun_ w3).mono ?_
  rintro e w4 ⟨rfl, hb4⟩
  have HB4 := Lib.hid (Below_on HB3.out hb4 HB3.out.size)
  clear hb4 HB3
  obtain ⟨_, c0, c1, c2, c3⟩ := (HAL2.out _ HB4.out).1.at_
  have HCK := Lib.hid (modelCheck_ m A B C ca cb cc vs w4 (HAL2.out _ HB4.out).1.rd)
  go_wp2_with fail
  refine HCK.out.mono ?_
  rintro e w5 ⟨rfl, hb5⟩
  have HB5 := Lib.hid (Below_on HB4.out hb5 HB4.out.size)
  clear hb5 HB4 HCK c0 c1 c2 c3
  by_cases h0 : ckM m = 0
  · have HH0 := Lib.hid h0
    have HM := Lib.hid (ckM_ok h0)
    have HA2 : Hid (a = moA m) := by show _ = _; rw [HAE.out]; unfold moAuto; rw [if_pos h0]
    rw [h0]
    clear h0 HAE HRAW
    obtain ⟨x0, x1, x2, x3, x4, _⟩ := obj5 (HAL2.out _ HB5.out).2.1
    have HCA := Lib.hid (CheckAuto_ a A1 B1 C1 ca1 cb1 cc1 w5 (HAL2.out _ HB5.out).2.2)
    rw [show ckA a = 0 by rw [HA2.out]; exact moA_ck HM.out] at HCA
    go_wp2_with fail
    refine HCA.out.mono ?_
    rintro e w6 ⟨rfl, hb6⟩
    have HB6 := Lib.hid (Below_on HB5.out hb6 HB5.out.size)
    clear hb6 HCA x0 x1 x2 x3 x4 HB5
    obtain ⟨x0, x1, x2, x3, x4, _⟩ := obj5 (HAL2.out _ HB6.out).2.1
    obtain ⟨_, c0, c1, c2, c3⟩ := (HAL2.out _ HB6.out).1.at_
    have z0 := (HAL2.out _ HB6.out).1.l0
    have z1 := (HAL2.out _ HB6.out).1.l1
    have HLE : Hid (a.le = 8) := by show _ = _; rw [HA2.out]; rfl
    have HST : Hid (a.st = (m.ls.length : Int)) := by show _ = _; rw [HA2.out]; rfl
    have hle := HLE.out
    have hst := HST.out
    have hln : m.ls.length ≤ 12 := HM.out.n12
    rw [hle] at x1
    rw [hst] at x0
    have HTK := Lib.hid (Takes_ a A1 B1 C1 G K ca1 cb1 cc1 cg ck l w6 (HAL2.out _ HB6.out).2.2 (HAL2.out _ HB6.out).1.rg (HAL2.out _ HB6.out).1.rk)
    rw [hle, hst] at HTK
    unfold TkPost at HTK
    clear hle hst
    go_wp2_with fail
    refine HTK.out.mono ?_
    rintro e w7 ⟨rfl, hb7⟩
    have HB7 := Lib.hid (Below_on HB6.out hb7 HB6.out.size)
    clear hb7 HTK x0 x1 x2 x3 x4 c0 c1 c2 c3 z0 z1 HB6
    have HTE : Hid (taErr a l = ckL l 8) := by show _ = _; rw [HA2.out]; exact (moA_tk HM.out l).1
    obtain ⟨te, hte⟩ : ∃ k, k = taErr a l := ⟨_, rfl⟩
    rw [← hte]
    have HTE2 : Hid (te = ckL l 8) := by show _ = _; rw [hte]; exact HTE.out
    clear hte HTE
    by_cases ht : te = 0
    · have hl : ckL l 8 = 0 := by rw [← HTE2.out]; exact ht
      have HTB : Hid (tkB a l = true ↔ MoGoes m l) := by show _ ↔ _; rw [HA2.out]; exact (moA_tk HM.out l).2 hl
      obtain ⟨f1, f2, f3⟩ := ckL_few hl
      have HGB := Lib.hid (GoesBy_ m HM.out l (by omega) f2 f3 A B C G K ca cb cc cg ck vs w7 (HAL2.out _ HB7.out).1.rd (HAL2.out _ HB7.out).1.rg (HAL2.out _ HB7.out).1.rk)
      subst ht
      clear hl f1 f2 f3 HTE2
      obtain ⟨_, c0, c1, c2, c3⟩ := (HAL2.out _ HB7.out).1.at_
      have z0 := (HAL2.out _ HB7.out).1.l0
      have z1 := (HAL2.out _ HB7.out).1.l1
      obtain ⟨p, hp⟩ : ∃ b, b = tkB a l := ⟨_, rfl⟩
      rw [← hp] at HTB ⊢
      clear hp
      go_wp2_with fail
      refine HGB.out.mono ?_
      rintro e w8 ⟨b, rfl, hb, hb8⟩
      have hpb : p = b := by
        have h1 := HTB.out.trans hb.symm
        cases p <;> cases b <;> simp_all
      subst hpb
      have HP : Hid (BoolPost w true (.returned (.bool true)) w8) := ⟨rfl, Below_on (HAL2.out _ HB7.out).1.below hb8 (HAL2.out _ HB7.out).1.below.size⟩
      clear hb hb8 HGB c0 c1 c2 c3 z0 z1
      cases p with
      | true =>
        go_wp2_with fail
        go_ret
        exact HP.out
      | false =>
        go_wp2_with fail
        go_ret
        exact HP.out
    · have ht2 : (te != 0) = true := by simp [ht]
      have HP : Hid (BoolPost w true (.returned (.bool true)) w7) := ⟨rfl, (HAL2.out _ HB7.out).1.below⟩
      clear ht HTE2
      go_wp2_with fail
      go_ret
      exact HP.out
  · have h0' : (ckM m != 0) = true := by simp [h0]
    have HA2 : Hid (a = zeroAu) := by show _ = _; rw [HAE.out]; unfold moAuto; rw [if_neg h0]
    have HP : Hid (BoolPost w true (.returned (.bool true)) w5) := ⟨rfl, (HAL2.out _ HB5.out).1.below⟩
    have hx := (HAL2.out _ HB5.out).2.1
    rw [HA2.out] at hx
    obtain ⟨x0, x1, x2, x3, x4, _⟩ := obj5 hx
    have x0' : w5.cell? ⟨X, 0, none⟩ = some (.int .i64 0) := x0
    clear h0 hx x0 x1 x2 x3 x4 HRAW
    generalize ckM m = k at *
    go_wp2_with fail
    go_ret
    exact HP.out
end Go.Proofs.YtoglgeaiiipchaaGreatDoor

namespace Go.Proofs.YtoglgeaiiipchaaGreatDoor
open Go Go.ChangeShapes Go.WideShapes Go.ChangeAt Go.RowKit Go.Deep Go.Joins
theorem rd_flat {α : Type} {enc : α → List Value} {sz : Nat} (hsz : ∀ x, (enc x).length = sz) {w : World} {b : Nat} : ∀ (xs : List α) (off : Nat),
    (∀ (k : Nat) (hk : k < xs.length) (i : Nat) (u : Value), (enc xs[k])[i]? = some u → w.cell? ⟨b, off + (k * sz + i), none⟩ = some u) →
    ∀ (j : Nat) (u : Value), (xs.flatMap enc)[j]? = some u → w.cell? ⟨b, off + j, none⟩ = some u
  | [], _, _, j, u, hu => by simp at hu
  | x :: r, off, h, j, u, hu => by
    rw [List.flatMap_cons] at hu
    rcases Nat.lt_or_ge j sz with hj | hj
    · rw [List.getElem?_append_left (by rw [hsz]; exact hj)] at hu
      have := h 0 (by simp) j u (by simpa using hu)
      simpa using this
    · rw [List.getElem?_append_right (by rw [hsz]; exact hj), hsz] at hu
      have := rd_flat hsz r (off + sz) (fun k hk i v hv => by
        have := h (k + 1) (by simpa using hk) i v (by simpa using hv)
        rw [show off + sz + (k * sz + i) = off + ((k + 1) * sz + i) by rw [Nat.add_mul]; omega]
        exact this) (j - sz) u hu
      rw [show off + sz + (j - sz) = off + j by omega] at this
      exact this
theorem slE_of {α : Type} {enc : α → List Value} {sz bt : Nat} (hsz : ∀ x, (enc x).length = sz) (hp : 0 < sz) {w : World} {a : Addr} {len cap : Nat} (hl : len ≤ cap) (hm : cap ≤ maxLen) (hb : len * bt ≤ 140737488351232)
    (hx : ∀ i, i < len → ∃ x : α, ∀ j u, (enc x)[j]? = some u → w.cell? (a.add (i * sz + j)) = some u) : ∃ xs : List α, xs.length = len ∧ SlE enc bt w 0 (some a) cap xs := by
  have hc : ∀ i : Fin len, ∃ x : α, ∀ j u, (enc x)[j]? = some u → w.cell? (a.add (i.1 * sz + j)) = some u := fun i => hx i.1 i.2
  refine ⟨List.ofFn fun i => (hc i).choose, by simp, ⟨by simpa using hl, hm, by simpa using hb, fun hne => ?_⟩⟩
  have hlen : 0 < len := by
    rcases Nat.eq_zero_or_pos len with h | h
    · subst h; simp at hne
    · exact h
  obtain ⟨b, off, spot⟩ := a
  have h0 := (hc ⟨0, hlen⟩).choose_spec 0 _ (List.getElem?_eq_getElem (by rw [hsz]; exact hp))
  have hlt := World.block_lt_of_cell? _ _ h0
  have hs : spot = none := by
    have := World.cell?_spot h0
    simpa [Addr.add] using this
  subst hs
  refine ⟨b, off, rfl, Nat.zero_le _, by simpa [Addr.add] using hlt, rd_flat hsz _ off fun k hk i u hu => ?_⟩
  have hkl : k < len := by simpa using hk
  have := (hc ⟨k, hkl⟩).choose_spec i u (by simpa using hu)
  rw [Addr_add_off] at this
  exact this
section
variable {H : Type} {enc : TypeId × Value → H} {P : Program} {w : World} {spare : Nat → Bool} {held : Bool}
theorem ints_in {t e : TypeId} {n : Nat} {v : Value} {y : DataW H × List MemPlace} (ht : P.underlying t = some (.slice e)) (he : P.underlying e = some (.int .i64)) (hc : P.cellsOf e = 1) (hby : P.bytesOf e = 8)
    (h : DataW.trod enc P w 0 spare held n t [v] = some y) (hw : ∀ k ∈ y.1.weights P t, k ≤ reachBytes) : ∃ A c xs, v = .slice A xs.length c ∧ Ints w 0 A c xs := by
  rcases open_ints ht he hc h with ⟨hcs, _⟩ | ⟨a, len, cap, zs, hcs, _, hl, hm, hz, hx, hcell, _⟩
  · simp only [List.cons.injEq, and_true] at hcs
    exact ⟨none, 0, [], hcs, ⟨by simp, by omega, by simp, Rd.nil⟩⟩
  · simp only [List.cons.injEq, and_true] at hcs
    have hzl : len ≤ zs.length := by rw [hz]; split <;> omega
    have hwt := hw (zs.length * 8) (by
      rw [hx]
      simp only [DataW.weights, ht, lits, List.length_map, List.length_take, List.length_drop, hby]
      rw [show min len zs.length + (zs.length - len) = zs.length by omega]
      simp)
    obtain ⟨xs, hxl, hxs⟩ := slE_of (enc := fun n : Int => [Value.int .i64 n]) (sz := 1) (bt := 8) (fun _ => rfl) (by decide) (w := w) (a := a) hl hm (by simp only [reachBytes] at hwt; omega) (fun i hi => ⟨zs.getD i 0, fun j u hu => by
      have hj : j = 0 := by
        have := (List.getElem?_eq_some_iff.1 hu).1
        simp at this
        exact this
      subst hj
      simp at hu
      subst hu
      simpa using hcell i (by omega)⟩)
    exact ⟨some a, cap, xs, by rw [hcs, hxl], hxs⟩
end
end Go.Proofs.YtoglgeaiiipchaaGreatDoor

namespace Go.Proofs.YtoglgeaiiipchaaGreatDoor
open Go Go.ChangeShapes Go.WideShapes Go.ChangeAt Go.RowKit Go.Deep Go.Joins
section
variable {H : Type}
theorem bulk_one (d : DataW H) : 1 ≤ Rows.uptoBulk d := by
  cases d with
  | lit l => cases l <;> simp [Rows.uptoBulk]
  | _ => simp [Rows.uptoBulk]
theorem bulk_part {d : DataW H} : ∀ {l : List (DataW H)}, d ∈ l → Rows.uptoBulk d ≤ Rows.uptoBulkAll l
  | x :: r, h => by
    simp only [Rows.uptoBulkAll]
    rcases List.mem_cons.1 h with e | e
    · subst e; omega
    · have := bulk_part e; omega
theorem bulk_len : ∀ l : List (DataW H), l.length ≤ Rows.uptoBulkAll l
  | [] => by simp [Rows.uptoBulkAll]
  | x :: r => by have h1 := bulk_one x; have h2 := bulk_len r; simp only [Rows.uptoBulkAll, List.length_cons]; omega
theorem bulk_sum {α : Type} {f : Nat → List α} {D : Nat → DataW H} : ∀ {l : List Nat}, (∀ i ∈ l, (f i).length ≤ Rows.uptoBulk (D i)) → ((l.map f).map List.length).sum ≤ Rows.uptoBulkAll (l.map D)
  | [], _ => by simp [Rows.uptoBulkAll]
  | i :: r, h => by
    have h1 := h i (by simp)
    have h2 := bulk_sum (f := f) (D := D) (l := r) (fun j hj => h j (List.mem_cons_of_mem _ hj))
    simp only [List.map_cons, List.sum_cons, Rows.uptoBulkAll]
    omega
variable {enc : TypeId × Value → H} {P : Program} {w : World} {spare : Nat → Bool} {held : Bool}
theorem weights_all_mem {e : TypeId} {d : DataW H} {k : Nat} (hk : k ∈ d.weights P e) : ∀ {l : List (DataW H)}, d ∈ l → k ∈ DataW.weightsAll P e l
  | x :: r, h => by
    simp only [DataW.weightsAll, List.mem_append]
    rcases List.mem_cons.1 h with rfl | h
    · exact .inl hk
    · exact .inr (weights_all_mem hk h)
theorem ints_bulk {t e : TypeId} {n : Nat} {v : Value} {y : DataW H × List MemPlace} (ht : P.underlying t = some (.slice e)) (he : P.underlying e = some (.int .i64)) (hc : P.cellsOf e = 1) (hby : P.bytesOf e = 8)
    (h : DataW.trod enc P w 0 spare held n t [v] = some y) (hw : ∀ k ∈ y.1.weights P t, k ≤ reachBytes) : ∃ A c xs, v = .slice A xs.length c ∧ Ints w 0 A c xs ∧ xs.length ≤ Rows.uptoBulk y.1 := by
  obtain ⟨A, c, xs, rfl, hi⟩ := ints_in ht he hc hby h hw
  refine ⟨A, c, xs, rfl, hi, ?_⟩
  rcases open_ints ht he hc h with ⟨hcs, _⟩ | ⟨a, len, cap, zs, hcs, _, hl, hm, hz, hx, hcell, _⟩
  · simp only [List.cons.injEq, and_true, Value.slice.injEq] at hcs
    omega
  · simp only [List.cons.injEq, and_true, Value.slice.injEq] at hcs
    have hzl : len ≤ zs.length := by rw [hz]; split <;> omega
    have h1 := bulk_len (lits (H := H) .i64 (zs.take len))
    rw [hx]
    simp only [Rows.uptoBulk]
    simp only [lits, List.length_map, List.length_take] at h1
    simp only [lits]
    omega
theorem rows_in {t e ti : TypeId} {n : Nat} {v : Value} {y : DataW H × List MemPlace} (ht : P.underlying t = some (.slice e)) (hce : P.cellsOf e = 1) (hbe : P.bytesOf e = 24) (he : P.underlying e = some (.slice ti)) (hi : P.underlying ti = some (.int .i64)) (hc : P.cellsOf ti = 1) (hby : P.bytesOf ti = 8)
    (h : DataW.trod enc P w 0 spare held n t [v] = some y) (hw : ∀ k ∈ y.1.weights P t, k ≤ reachBytes) :
    ∃ (C : Option Addr) (cc : Nat) (vs : List RwS) (ss : List (List Int)), v = .slice C ss.length cc ∧ SlE rwV 24 w 0 C cc vs ∧ vs.length = ss.length ∧ (∀ k, k < ss.length → ∃ D cd, vs.getD k rw0 = (D, (ss.getD k []).length, cd) ∧ Ints w 0 D cd (ss.getD k [])) ∧ (ss.map List.length).sum ≤ Rows.uptoBulk y.1 := by
  rcases open_slice ht h with ⟨hcs, _⟩ | ⟨a, len, cap, m, n', D, Pl, hcs, _, hl, hm, hmm, hx, hel⟩
  · simp only [List.cons.injEq, and_true] at hcs
    exact ⟨none, 0, [], [], hcs, ⟨by simp, by omega, by simp, Rd.nil⟩, rfl, fun k hk => by simp at hk, by simp⟩
  · simp only [List.cons.injEq, and_true] at hcs
    have hml : len ≤ m := by rw [hmm]; split <;> omega
    have hwt := hw (m * 24) (by
      rw [hx]
      simp only [DataW.weights, ht, List.length_map, List.length_range, hbe]
      rw [show len + (m - len) = m by omega]
      simp)
    have each : ∀ i : Fin len, ∃ q : RwS × List Int, w.cell? (a.add (i.1 * 1)) = some (.slice q.1.1 q.1.2.1 q.1.2.2) ∧ q.1.2.1 = q.2.length ∧ Ints w 0 q.1.1 q.1.2.2 q.2 ∧ q.2.length ≤ Rows.uptoBulk (D i.1) := by
      intro ⟨i, hi'⟩
      obtain ⟨cs', hcc, ht'⟩ := hel i (by omega)
      rw [hce] at hcc
      obtain ⟨_, hcl, hat⟩ := World.cells?_some hcc
      match cs', hcl with
      | [u], _ =>
        obtain ⟨A, c, xs, rfl, hI, hb⟩ := ints_bulk he hi hc hby ht' (fun k hk => hw k (by
          rw [hx]
          simp only [DataW.weights, ht, List.mem_cons, List.mem_append]
          exact .inr (.inl (weights_all_mem hk (List.mem_map.2 ⟨i, List.mem_range.2 hi', rfl⟩)))))
        have h0 := hat 0 (by decide)
        rw [show (a.add (i * 1)).add 0 = a.add (i * 1) by simp [Addr.add]] at h0
        exact ⟨((A, xs.length, c), xs), by simpa using h0, rfl, hI, hb⟩
    obtain ⟨f, hf⟩ : ∃ f : Nat → RwS × List Int, ∀ i, i < len → w.cell? (a.add (i * 1)) = some (.slice (f i).1.1 (f i).1.2.1 (f i).1.2.2) ∧ (f i).1.2.1 = (f i).2.length ∧ Ints w 0 (f i).1.1 (f i).1.2.2 (f i).2 ∧ (f i).2.length ≤ Rows.uptoBulk (D i) :=
      ⟨fun i => if h : i < len then (each ⟨i, h⟩).choose else (rw0, []), fun i hi' => by
        simp only [dif_pos hi']
        exact (each ⟨i, hi'⟩).choose_spec⟩
    obtain ⟨vs, hvl, hvs⟩ := slE_of (enc := rwV) (sz := 1) (bt := 24) (fun _ => rfl) (by decide) (w := w) (a := a) hl hm (by simp only [reachBytes] at hwt; omega) (fun i hi' => ⟨(f i).1, fun j u hu => by
      have hj : j = 0 := by
        have := (List.getElem?_eq_some_iff.1 hu).1
        simp [rwV] at this
        exact this
      subst hj
      simp only [rwV, List.getElem?_cons_zero, Option.some.injEq] at hu
      subst hu
      simpa using (hf i hi').1⟩)
    refine ⟨some a, cap, vs, (List.range len).map fun i => (f i).2, by rw [hcs]; simp, hvs, by simp [hvl], fun k hk => ?_, ?_⟩
    · simp only [List.length_map, List.length_range] at hk
      obtain ⟨h1, h2, h3, _⟩ := hf k hk
      have hk' : k < vs.length := by omega
      obtain ⟨b, off, e1, _, _, h5⟩ := SlE.at (fun _ => rfl) (sz := 1) (fun _ => rfl) (by decide) hvs hk'
      have h6 := h5 0 (.slice vs[k].1 vs[k].2.1 vs[k].2.2) (by rfl)
      cases e1
      have h7 : w.cell? ⟨b, off + k, none⟩ = some (.slice vs[k].1 vs[k].2.1 vs[k].2.2) := by simpa using h6
      have h8 : w.cell? ⟨b, off + k, none⟩ = some (.slice (f k).1.1 (f k).1.2.1 (f k).1.2.2) := by
        rw [Addr_add_off, Nat.mul_one] at h1
        exact h1
      rw [h7] at h8
      simp only [Option.some.injEq, Value.slice.injEq] at h8
      have hss : ((List.range len).map fun i => (f i).2).getD k [] = (f k).2 := by simp [List.getD_eq_getElem?_getD, hk]
      refine ⟨(f k).1.1, (f k).1.2.2, ?_, by rw [hss]; exact h3⟩
      rw [hss, List.getD_eq_getElem?_getD, List.getElem?_eq_getElem hk', Option.getD_some, ← h2]
      exact Prod.ext h8.1 (Prod.ext h8.2.1 h8.2.2)
    · have := bulk_sum (f := fun i => (f i).2) (D := D) (l := List.range len) (fun i hi' => (hf i (List.mem_range.1 hi')).2.2.2)
      rw [hx]
      simp only [Rows.uptoBulk]
      omega
theorem raw_sum (m : Mo) (n : Nat) : (moRaw m n).length ≤ (m.ss.map List.length).sum := by
  have key : ∀ (ss : List (List Int)) (n : Nat), ((List.range n).map fun i => (ss.getD i []).length).sum ≤ (ss.map List.length).sum := by
    intro ss
    induction ss with
    | nil =>
      intro n
      have : ∀ l : List Nat, (l.map fun i => (([] : List (List Int)).getD i []).length).sum = 0 := by
        intro l
        induction l with
        | nil => rfl
        | cons x r ih => simpa using ih
      rw [this]
      exact Nat.zero_le _
    | cons x r ih =>
      intro n
      cases n with
      | zero => simp
      | succ n =>
        rw [List.range_succ_eq_map]
        have := ih n
        simp only [List.map_cons, List.map_map, List.sum_cons]
        simp only [Function.comp_def, Nat.succ_eq_add_one, List.getD_cons_succ, List.getD_cons_zero]
        omega
  unfold moRaw
  rw [List.length_flatMap]
  simp only [List.length_map]
  exact key m.ss n
theorem mo_in {t tF tS ti : TypeId} {f0 f1 f2 f3 : Field} {r : Reach} {b0 : Nat} {v : Value} {d : DataW H} {p : List MemPlace} (hs : P.underlying t = some (.struct #[f0, f1, f2, f3])) (hone : oneCellFields P #[f0, f1, f2, f3] = true) (hC : P.cellsOf t = 4)
    (hi : P.underlying ti = some (.int .i64)) (hci : P.cellsOf ti = 1) (hbi : P.bytesOf ti = 8) (hF : P.underlying tF = some (.slice ti)) (hcF : P.cellsOf tF = 1) (hbF : P.bytesOf tF = 24) (hS : P.underlying tS = some (.slice tF))
    (t0 : f0.type = ti) (t1 : f1.type = tF) (t2 : f2.type = tF) (t3 : f3.type = tS)
    (hv : Value.okWide P w r b0 t v) (h : DataW.Trod enc P w 0 spare held t v d p) (hw : ∀ k ∈ d.weights P t, k ≤ reachBytes) :
    ∃ m A B C ca cb cc vs, v = .agg #[.int .i64 m.pr, .slice A m.ls.length ca, .slice B m.fs.length cb, .slice C m.ss.length cc] ∧ MoRd w 0 m A B C ca cb cc vs ∧ ∀ n, (moRaw m n).length ≤ Rows.uptoBulk d := by
  obtain ⟨v0, v1, v2, v3, y0, y1, y2, y3, n, rfl, rfl, rfl, g0, g1, g2, g3⟩ := open_agg4 hs hone hC hv h
  rw [t0] at g0
  rw [t1] at g1
  rw [t2] at g2
  rw [t3] at g3
  obtain ⟨z0, hz0, _⟩ := DataW.trod_int hi g0
  obtain rfl : v0 = .int .i64 z0 := by simpa using hz0
  have hw' : ∀ k, k ∈ y1.1.weights P tF ∨ k ∈ y2.1.weights P tF ∨ k ∈ y3.1.weights P tS → k ≤ reachBytes := fun k hk => hw k (by
    simp only [DataW.weights, hs]
    simp only [List.map_cons, List.map_nil, DataW.weightsEach, List.mem_append, t0, t1, t2, t3]
    simp
    rcases hk with hk | hk | hk
    · exact .inr (.inl hk)
    · exact .inr (.inr (.inl hk))
    · exact .inr (.inr (.inr hk)))
  obtain ⟨A, ca, ls, rfl, hA⟩ := ints_in hF hi hci hbi g1 (fun k hk => hw' k (.inl hk))
  obtain ⟨B, cb, fs, rfl, hB⟩ := ints_in hF hi hci hbi g2 (fun k hk => hw' k (.inr (.inl hk)))
  obtain ⟨C, cc, vs, ss, rfl, hSS, hl, hrow, hb⟩ := rows_in hS hcF hbF hF hi hci hbi g3 (fun k hk => hw' k (.inr (.inr hk)))
  refine ⟨⟨z0, ls, fs, ss⟩, A, B, C, ca, cb, cc, vs, rfl, ⟨hA, hB, hSS, hl, hrow⟩, fun n => Nat.le_trans (raw_sum _ n) (Nat.le_trans hb ?_)⟩
  simp only [Rows.uptoBulk, Rows.uptoBulkAll]
  omega
end
end Go.Proofs.YtoglgeaiiipchaaGreatDoor
