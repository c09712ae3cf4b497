/- The arguments of a law, opened to readings; what weighs how much. -/
import Derived.Test.YtoglgeaiiipchabLTTM36
import Derived.Test.YtoglgeaiiipchabLTTM34
import Derived.Test.YtoglgeaiiipchabLTTM35
import Derived.Test.YtoglgeaiiipchabLTTM27
import Derived.Test.YtoglgeaiiipchabLTTM30
import Derived.Test.YtoglgeaiiipchabLTTM26
import Derived.Test.YtoglgeaiiipchabLTTM1
import Derived.WalkKit
import Derived.ProofKit
import Derived.OpenShut
import Derived.ShutString
import Derived.ChangeOld
import Derived.Below
import Derived.Carry
import Derived.SizedLaws
import Derived.Lib.SmallJoins
import Derived.Deep.Slices
import Derived.Deep.Fields
set_option linter.unusedSimpArgs false
set_option linter.unusedVariables false
namespace Go.Proofs.Ytoglgeaiiipchab
open Go Go.RowKit Go.Shelf

def zeroL : La := ⟨[], [0]⟩
def oneL : La := ⟨[1], [0]⟩
def zerL : La := ⟨[0], [0, 0]⟩
theorem flat_ints (xs : List Int) : xs.flatMap (fun n : Int => [Value.int .i64 n]) = xs.map (Value.int .i64) := by
  induction xs with
  | nil => rfl
  | cons x r ih => rw [List.flatMap_cons, List.map_cons, ih]; rfl
theorem ints_lit {W : World} {b : Nat} {t : TypeId} {fz : Nat × Nat} (xs : List Int) (h : W.heap[b]? = some (.cells (xs.map (Value.int .i64)).toArray t fz)) (hl : xs.length ≤ 1000) : Ints W 0 (some ⟨b, 0, none⟩) xs.length xs := by
  refine ⟨Nat.le_refl _, by omega, by omega, fun _ => ⟨b, 0, rfl, Nat.zero_le _, (Array.getElem?_eq_some_iff.1 h).1, fun j u hu => ?_⟩⟩
  simp only [World.cell?, h, Nat.zero_add]
  rw [flat_ints] at hu
  simpa using hu
def zerW (w : World) : World := (w.alloc (Obj.cells #[.slice none 0 0, .slice (some ⟨w.heap.size + 1, 0, none⟩) 1 1] 28)).alloc (Obj.cells #[.int .i64 0] 3)
theorem zerW_is (w : World) : Ints (zerW w) w.heap.size (some ⟨w.heap.size + 1, 0, none⟩) 1 [0] ∧ Below w.heap.size w (zerW w) := by
  refine ⟨?_, by unfold zerW; go_grown⟩
  refine ⟨by decide, by omega, by decide, fun _ => ⟨_, 0, rfl, by omega, by unfold zerW; simp, fun j u hu => ?_⟩⟩
  match j, hu with
  | 0, hu => simp at hu; subst hu; unfold zerW; go_simp
  | j + 1, hu => simp at hu
theorem ints_nil (w : World) (lo : Nat) : Ints w lo none 0 [] := ⟨Nat.le_refl _, by omega, by decide, Rd.nil⟩
set_option maxRecDepth 100000 in
theorem zero_ (w : World) : Calls Try.prog 24 #[] w (LaPost w zeroL) := by
  have HP : Hid (LaPost w zeroL (.returned (.agg #[.slice none 0 0, .slice (some ⟨w.heap.size + 1, 0, none⟩) 1 1])) (zerW w)) :=
    ⟨none, some ⟨w.heap.size + 1, 0, none⟩, 0, 1, rfl, ints_nil _ _, (zerW_is w).1, (zerW_is w).2⟩
  go_enter Try.func24, Try.ntmps24
  go_wp2_with fail
  exact bodyPost_ret (by simp [results, Try.results24, go_sem]) rfl HP.out
/-- what the closed calls answer -/
theorem zero_ck : ckL zeroL 2 = 0 := by decide +kernel
theorem one_zero : tkB oneA zeroL = true := by
  have h1 : taErr oneA zeroL = 0 := by unfold taErr; rw [if_pos one_ck]; exact zero_ck
  have h2 : takesB oneA zeroL.at = true := takesB_iff.2 ⟨fun _ => 0, by simp [oneA], fun i => by
    have : zeroL.at i = 0 := by unfold La.at zeroL; simp [Nat.mod_one]
    rw [this]
    simp [oneA], fun n => ⟨n, Nat.le_refl _, by unfold Au.good; simp [oneA]⟩⟩
  unfold tkB
  rw [h1, h2]
  rfl
theorem one_one : tkB oneA oneL = false := by
  have h2 : takesB oneA oneL.at = false := by
    cases h : takesB oneA oneL.at with
    | false => rfl
    | true =>
      obtain ⟨r, h0, h1, _⟩ := takesB_iff.1 h
      have := h1 0
      simp [oneA, La.at, oneL] at this
  unfold tkB
  rw [h2, Bool.and_false]
theorem one_ta : taErr oneA zeroL = 0 ∧ taErr oneA oneL = 0 := by
  unfold taErr
  rw [if_pos one_ck, if_pos one_ck]
  exact ⟨zero_ck, by decide +kernel⟩
theorem zer_least : lstL zerL 2 = zeroL ∧ ckL zerL 2 = 0 ∧ atL oneL 2 0 = 1 ∧ atE oneL 2 0 = 0 ∧ ckL zeroL 1 = 0 := by
  refine ⟨by decide +kernel, by decide +kernel, by decide +kernel, by decide +kernel, by decide +kernel⟩
end Go.Proofs.Ytoglgeaiiipchab

namespace Go.Proofs.Ytoglgeaiiipchab
open Go Go.RowKit Go.Shelf

theorem LeastZer_ (A B : Option Addr) (w : World) (hh : Ints w 0 A 1 [0]) (hl : Ints w 0 B 2 [0, 0]) :
    Calls Try.prog 25 #[.agg #[.slice A 1 1, .slice B 2 2], .int .i64 2] w fun e w' => ∃ A B ca cb, e = .returned (.tuple #[.agg #[.slice A 0 ca, .slice B 1 cb], .int .i64 0]) ∧ Ints w' 0 A ca [] ∧ Ints w' 0 B cb [0] ∧ Below w.heap.size w w' := by
  have := Least_ A B 1 2 zerL 2 w hh hl
  rw [zer_least.1, zer_least.2.1] at this
  refine this.mono ?_
  rintro e w' ⟨A, B, ca, cb, h1, h2, h3, h4⟩
  exact ⟨A, B, ca, cb, h1, h2.zero, h3.zero, h4⟩
theorem zero0_ (w : World) : Calls Try.prog 24 #[] w fun e w' => ∃ A B ca cb, e = .returned (.agg #[.slice A 0 ca, .slice B 1 cb]) ∧ Ints w' 0 A ca [] ∧ Ints w' 0 B cb [0] ∧ Below w.heap.size w w' :=
  (zero_ w).mono fun e w' ⟨A, B, ca, cb, h1, h2, h3, h4⟩ => ⟨A, B, ca, cb, h1, h2.zero, h3.zero, h4⟩
theorem AtOne_ (A B : Option Addr) (w : World) (hh : Ints w 0 A 1 [1]) (hl : Ints w 0 B 1 [0]) :
    Calls Try.prog 26 #[.agg #[.slice A 1 1, .slice B 1 1], .int .i64 2, .int .i64 0] w (IntsPost w 1 0) := by
  have := At_ A B 1 1 oneL 2 0 w hh hl (by decide)
  rwa [zer_least.2.2.1, zer_least.2.2.2.1] at this
theorem TakesOne_ (A B C D E : Option Addr) (ca cb cc cd ce : Nat) (w : World) (hr : AuRd w 0 oneA A B C ca cb cc) (hh : Ints w 0 D cd []) (hl : Ints w 0 E ce [0]) :
    Calls Try.prog 9 #[.agg #[.int .i64 1, .int .i64 2, .slice A 1 ca, .slice B 1 cb, .slice C 1 cc], .agg #[.slice D 0 cd, .slice E 1 ce]] w fun e w' => e = .returned (.tuple #[.bool true, .int .i64 0]) ∧ Below w.heap.size w w' := by
  have := Takes_ oneA A B C D E ca cb cc cd ce zeroL w hr hh hl
  unfold TkPost at this
  rwa [one_zero, one_ta.1] at this
theorem TakesNo_ (A B C D E : Option Addr) (ca cb cc cd ce : Nat) (w : World) (hr : AuRd w 0 oneA A B C ca cb cc) (hh : Ints w 0 D cd [1]) (hl : Ints w 0 E ce [0]) :
    Calls Try.prog 9 #[.agg #[.int .i64 1, .int .i64 2, .slice A 1 ca, .slice B 1 cb, .slice C 1 cc], .agg #[.slice D 1 cd, .slice E 1 ce]] w fun e w' => e = .returned (.tuple #[.bool false, .int .i64 0]) ∧ Below w.heap.size w w' := by
  have := Takes_ oneA A B C D E ca cb cc cd ce oneL w hr hh hl
  unfold TkPost at this
  rwa [one_one, one_ta.2] at this
theorem CheckZero_ (A B : Option Addr) (ca cb : Nat) (w : World) (hh : Ints w 0 A ca []) (hl : Ints w 0 B cb [0]) :
    Calls Try.prog 27 #[.agg #[.slice A 0 ca, .slice B 1 cb], .int .i64 1] w fun e w' => e = .returned (.int .i64 0) ∧ Below w.heap.size w w' := by
  have := wordCheck_ A B ca cb zeroL 1 w hh hl
  rwa [zer_least.2.2.2.2] at this
theorem SameZero_ (A B C D : Option Addr) (ca cb cc cd : Nat) (w : World) (hh : Ints w 0 A ca []) (hl : Ints w 0 B cb [0]) (gh : Ints w 0 C cc []) (gl : Ints w 0 D cd [0]) :
    Calls Try.prog 28 #[.agg #[.slice A 0 ca, .slice B 1 cb], .agg #[.slice C 0 cc, .slice D 1 cd]] w (BoolPost w true) :=
  SameLasso_ A B C D ca cb cc cd zeroL zeroL w hh hl gh gl
theorem ints_one {W : World} {b : Nat} {t : TypeId} {fz : Nat × Nat} {x : Int} (h : W.heap[b]? = some (.cells #[.int .i64 x] t fz)) : Ints W 0 (some ⟨b, 0, none⟩) 1 [x] := ints_lit [x] h (by simp)
theorem ints_two {W : World} {b : Nat} {t : TypeId} {fz : Nat × Nat} {x y : Int} (h : W.heap[b]? = some (.cells #[.int .i64 x, .int .i64 y] t fz)) : Ints W 0 (some ⟨b, 0, none⟩) 2 [x, y] := ints_lit [x, y] h (by simp)
theorem two_blocks (W : World) (o1 o2 : Obj) : ((W.alloc o1).alloc o2).heap[W.heap.size]? = some o1 ∧ ((W.alloc o1).alloc o2).heap[W.heap.size + 1]? = some o2 ∧ Below W.heap.size W ((W.alloc o1).alloc o2) :=
  ⟨by rw [Below.heap_alloc _ _ _ (by simp)]; exact World.alloc_heap_new _ _, by have := World.alloc_heap_new (W.alloc o1) o2; rwa [World.size_alloc] at this, ((Below.refl _ _).alloc (Nat.le_refl _) _).alloc (by simp) _⟩
set_option maxRecDepth 100000 in
set_option maxHeartbeats 2000000 in
theorem wordBegun_ (w : World) : Calls Try.prog 8 #[] w (BoolPost w true) := by
  have H1 := Lib.hid (two_blocks w (Obj.cells #[.int .i64 0] 3) (Obj.cells #[.int .i64 0, .int .i64 0] 3))
  go_enter Try.func8, Try.ntmps8
  go_wp2_with fail
  refine (LeastZer_ _ _ _ (ints_one H1.out.1) (ints_two H1.out.2.1)).mono ?_
  rintro e w1 ⟨LA, LB, lca, lcb, rfl, hlh, hll, hb1⟩
  have hba : Below w1.heap.size w1 (w1.alloc (Obj.cells #[.slice LA 0 lca, .slice LB 1 lcb] 28)) := (Below.refl _ _).alloc (Nat.le_refl _) _
  have HB1 : Hid (Below w.heap.size w (w1.alloc (Obj.cells #[.slice LA 0 lca, .slice LB 1 lcb] 28))) := Below_on (Below_on H1.out.2.2 hb1 H1.out.2.2.size) hba (Nat.le_trans H1.out.2.2.size hb1.size)
  have HLH := Lib.hid (hlh.below hba)
  have HLL := Lib.hid (hll.below hba)
  have HX : Hid ((w1.alloc (Obj.cells #[.slice LA 0 lca, .slice LB 1 lcb] 28)).heap[w1.heap.size]? = some (Obj.cells #[.slice LA 0 lca, .slice LB 1 lcb] 28)) := World.alloc_heap_new _ _
  have H2 := Lib.hid (two_blocks (w1.alloc (Obj.cells #[.slice LA 0 lca, .slice LB 1 lcb] 28)) (Obj.cells #[.int .i64 1] 3) (Obj.cells #[.int .i64 0] 3))
  rw [World.size_alloc] at H2
  clear H1 hb1 hlh hll hba
  go_wp2_with fail
  refine (AtOne_ _ _ _ (ints_one H2.out.1) (ints_one H2.out.2.1)).mono ?_
  rintro e w2 ⟨rfl, hb2⟩
  obtain ⟨X, hX⟩ : ∃ X, X = w1.heap.size := ⟨_, rfl⟩
  rw [← hX] at HX ⊢
  have hXl : X < (w1.alloc (Obj.cells #[.slice LA 0 lca, .slice LB 1 lcb] 28)).heap.size := by simp [hX]
  have hb3 := Below_on (show Below (w1.alloc (Obj.cells #[.slice LA 0 lca, .slice LB 1 lcb] 28)).heap.size _ _ by rw [World.size_alloc]; exact H2.out.2.2) hb2 (by simp)
  have HX2 : Hid (w2.heap[X]? = some (Obj.cells #[.slice LA 0 lca, .slice LB 1 lcb] 28)) := (hb3.block X hXl).trans HX.out
  have HB2 : Hid (Below w.heap.size w w2) := Below_on HB1.out hb3 HB1.out.size
  have HLH2 := Lib.hid (HLH.out.below hb3)
  have HLL2 := Lib.hid (HLL.out.below hb3)
  clear H2 hb2 hb3 HX HLH HLL HB1 hXl hX
  go_wp2_with fail
  refine (one0_ w2).mono ?_
  rintro e w3 ⟨A3, B3, C3, ca3, cb3, cc3, rfl, hr3, hb3⟩
  have HB3 := Lib.hid hb3
  have HR3 := Lib.hid hr3
  clear hb3 hr3
  go_wp2_with fail
  refine (zero0_ w3).mono ?_
  rintro e w4 ⟨D4, E4, cd4, ce4, rfl, hh4, hl4, hb4⟩
  have HB4 := Lib.hid (Below_on HB3.out hb4 HB3.out.size)
  have HR4 := Lib.hid (HR3.out.below hb4)
  have HH4 := Lib.hid hh4
  have HL4 := Lib.hid hl4
  clear hb4 hh4 hl4 HR3 HB3
  go_wp2_with fail
  refine (TakesOne_ A3 B3 C3 D4 E4 ca3 cb3 cc3 cd4 ce4 w4 HR4.out HH4.out HL4.out).mono ?_
  rintro e w5 ⟨rfl, hb5⟩
  have HB5 := Lib.hid (Below_on HB4.out hb5 HB4.out.size)
  clear hb5 HH4 HL4 HR4 HB4
  go_wp2_with fail
  refine (one0_ w5).mono ?_
  rintro e w6 ⟨A6, B6, C6, ca6, cb6, cc6, rfl, hr6, hb6⟩
  have HB6 := Lib.hid (Below_on HB5.out hb6 HB5.out.size)
  have HR6 := Lib.hid hr6
  have H6 := Lib.hid (two_blocks w6 (Obj.cells #[.int .i64 1] 3) (Obj.cells #[.int .i64 0] 3))
  clear hb6 hr6 HB5
  go_wp2_with fail
  refine (TakesNo_ A6 B6 C6 _ _ ca6 cb6 cc6 1 1 _ (HR6.out.below H6.out.2.2) (ints_one H6.out.1) (ints_one H6.out.2.1)).mono ?_
  rintro e w7 ⟨rfl, hb7⟩
  have HB7 : Hid (Below w2.heap.size w2 w7) := Below_on (Below_on HB6.out H6.out.2.2 HB6.out.size) hb7 (Nat.le_trans HB6.out.size H6.out.2.2.size)
  clear H6 hb7 HB6 HR6
  have hX2l : X < w2.heap.size := (Array.getElem?_eq_some_iff.1 HX2.out).1
  have HX7 : Hid (w7.heap[X]? = some (Obj.cells #[.slice LA 0 lca, .slice LB 1 lcb] 28)) := (HB7.out.block X hX2l).trans HX2.out
  have HLH7 := Lib.hid (HLH2.out.below HB7.out)
  have HLL7 := Lib.hid (HLL2.out.below HB7.out)
  have HW7 : Hid (Below w.heap.size w w7) := Below_on HB2.out HB7.out HB2.out.size
  clear HX2 HLH2 HLL2 HB7 HB2 hX2l
  go_wp2_with fail
  have HBX : Hid (∀ W, Below w7.heap.size w7 W → W.cell? ⟨X, 0, none⟩ = some (.slice LA 0 lca) ∧ W.cell? ⟨X, 1, none⟩ = some (.slice LB 1 lcb)) := by
    intro W hW
    have hl : X < w7.heap.size := (Array.getElem?_eq_some_iff.1 HX7.out).1
    have h7 := (hW.block X hl).trans HX7.out
    exact ⟨by simp [World.cell?, h7], by simp [World.cell?, h7]⟩
  obtain ⟨x0, x1⟩ := HBX.out w7 (Below.refl _ _)
  have hw7 : w7.heap.size ≤ w7.heap.size := Nat.le_refl _
  go_region_held3 (fun w' => w'.cell? ⟨X, 0, none⟩ = some (.slice LA 0 lca) ∧ w'.cell? ⟨X, 1, none⟩ = some (.slice LB 1 lcb))
    (first | go_keep | exact ⟨q0, q1⟩)
    (first
      | (go_at_call 28; refine (SameZero_ LA LB _ _ lca lcb _ _ _ (HLH7.out.below HBC.out) (HLL7.out.below HBC.out) HHC.out HLC.out).mono ?_; rintro e wd ⟨rfl, hbd⟩; have HBD := Lib.hid (Below_on HBC.out hbd HBC.out.size); have q0 := (HBX.out _ HBD.out).1; have q1 := (HBX.out _ HBD.out).2)
      | (go_at_call 24; refine (zero0_ _).mono ?_; rintro e wc ⟨Dc, Ec, cdc, cec, rfl, hhc, hlc, hbc⟩; have HBC := Lib.hid (Below_on HBB.out hbc HBB.out.size); have HHC := Lib.hid hhc; have HLC := Lib.hid hlc; have q0 := (HBX.out _ HBC.out).1; have q1 := (HBX.out _ HBC.out).2)
      | (go_at_call 27; refine (CheckZero_ _ _ _ _ _ HHA.out HLA.out).mono ?_; rintro e wb ⟨rfl, hbb⟩; have HBB := Lib.hid (Below_on HBA.out hbb HBA.out.size); have q0 := (HBX.out _ HBB.out).1; have q1 := (HBX.out _ HBB.out).2)
      | (go_at_call 24; refine (zero0_ _).mono ?_; rintro e wa ⟨Da, Ea, cda, cea, rfl, hha, hla, hba⟩; have HBA := Lib.hid (Below_on ((Below.refl _ w7).drew) hba hw7); have HHA := Lib.hid hha; have HLA := Lib.hid hla; have q0 := (HBX.out _ HBA.out).1; have q1 := (HBX.out _ HBA.out).2))
  all_goals
    have HP : Hid (BoolPost w true (.returned (.bool true)) wd) := ⟨rfl, Below_on HW7.out HBD.out HW7.out.size⟩
    clear q0 q1 x0 x1 hba hbb hbc hbd HBX hhc hlc hha hla
    go_wp2_with fail
    go_ret
    exact HP.out
end Go.Proofs.Ytoglgeaiiipchab

namespace Go.Proofs.Ytoglgeaiiipchab
open Go Go.RowKit Go.Maps Go.Shelf Go.Sort

theorem ckL_let {l : La} {letters : Int} (h : ckL l letters = 0) : ∀ m, 0 ≤ l.at m ∧ l.at m < letters := by
  have hne := ckL_ne h
  have hb : anyB (badL letters) l.h = false ∧ anyB (badL letters) l.l = false := by
    unfold ckL at h
    split at h
    · simp at h
    · split at h
      · simp at h
      · split at h
        · simp at h
        · rename_i h5
          simpa using h5
  have hx : ∀ xs : List Int, anyB (badL letters) xs = false → ∀ k, k < xs.length → 0 ≤ xs.getD k 0 ∧ xs.getD k 0 < letters := fun xs hxs k hk => by
    unfold anyB at hxs
    rw [List.any_eq_false] at hxs
    have := hxs xs[k] (List.getElem_mem hk)
    rw [List.getD_eq_getElem?_getD, List.getElem?_eq_getElem hk]
    unfold badL at this
    simp at this ⊢
    omega
  intro m
  unfold La.at
  split
  · rename_i hm
    exact hx _ hb.1 _ hm
  · exact hx _ hb.2 _ (Nat.mod_lt _ (by omega))
theorem raw_holds {f : List Nd} {r : Au} (hS : RawS f r) (h0 : ckF f = 0) (l : La) : tkB r l = holdsV f l ∧ taErr r l = ckT f l := by
  have h1 : taErr r l = ckL l 8 := by unfold taErr; rw [if_pos hS.ok, hS.le]
  have h2 : ckT f l = ckL l 8 := by unfold ckT; rw [if_pos h0]
  refine ⟨?_, by rw [h1, h2]⟩
  unfold tkB holdsV
  rw [h1, h2]
  by_cases hl : ckL l 8 = 0
  · have hf := ckF_zero.1 h0
    have hp : 0 < l.l.length := by have := ckL_ne hl; omega
    have hs := table_sem hp hf (f.length - 1) (by have := hf.pos; omega) 0 f.length (by have := hf.pos; omega)
    have hn : 0 < l.n := by unfold La.n; omega
    rw [plc_self hn] at hs
    have ht := hS.takes l.at (ckL_let hl)
    have hb := takesB_iff (a := r) (u := l.at)
    rw [hl, if_pos rfl]
    show (true && takesB r l.at) = gB (rowsOf l f f.length) (f.length - 1) 0
    rw [Bool.true_and]
    cases hx : takesB r l.at <;> cases hy : gB (rowsOf l f f.length) (f.length - 1) 0 <;> simp_all
  · rw [if_neg hl]
    simp [hl]
theorem auAt_of5 {W : World} {X : Nat} {p : Au} {A B C : Option Addr} {ca cb cc : Nat} (h : W.heap[X]? = some (.cells #[.int .i64 p.st, .int .i64 p.le, .slice A p.fs.length ca, .slice B p.gs.length cb, .slice C p.ss.length cc] 26 (0, 0))) : AuAt W X p A B C ca cb cc := by
  obtain ⟨x0, x1, x2, x3, x4, _⟩ := obj5 h
  exact ⟨(Array.getElem?_eq_some_iff.1 h).1, x0, x1, x2, x3, x4⟩
def onlL : La := ⟨[], [1]⟩
theorem unt_ck : ckF untF = 0 := by decide +kernel
theorem TakesBeg_ (r : Au) (hS : RawS untF r) (A B C D E : Option Addr) (ca cb cc cd ce : Nat) (w : World) (hr : AuRd w 0 r A B C ca cb cc) (hh : Ints w 0 D cd [1, 2]) (hl : Ints w 0 E ce [0]) :
    Calls Try.prog 9 #[.agg #[.int .i64 r.st, .int .i64 r.le, .slice A r.fs.length ca, .slice B r.gs.length cb, .slice C r.ss.length cc], .agg #[.slice D 2 cd, .slice E 1 ce]] w fun e w' => e = .returned (.tuple #[.bool true, .int .i64 0]) ∧ Below w.heap.size w w' := by
  have := Takes_ r A B C D E ca cb cc cd ce begL w hr hh hl
  unfold TkPost at this
  obtain ⟨h1, h2⟩ := raw_holds hS unt_ck begL
  rw [h1, h2, show holdsV untF begL = true by decide +kernel, untF_ck] at this
  exact this
theorem TakesOnl_ (r : Au) (hS : RawS untF r) (A B C E : Option Addr) (ca cb cc ce : Nat) (w : World) (hr : AuRd w 0 r A B C ca cb cc) (hl : Ints w 0 E ce [1]) :
    Calls Try.prog 9 #[.agg #[.int .i64 r.st, .int .i64 r.le, .slice A r.fs.length ca, .slice B r.gs.length cb, .slice C r.ss.length cc], .agg #[.slice none 0 0, .slice E 1 ce]] w fun e w' => e = .returned (.tuple #[.bool false, .int .i64 0]) ∧ Below w.heap.size w w' := by
  have := Takes_ r A B C none E ca cb cc 0 ce onlL w hr ⟨Nat.le_refl _, by omega, by simp [onlL], Rd.nil⟩ hl
  unfold TkPost at this
  obtain ⟨h1, h2⟩ := raw_holds hS unt_ck onlL
  rw [h1, h2, show holdsV untF onlL = false by decide +kernel, show ckT untF onlL = 0 by decide +kernel] at this
  exact this
set_option maxRecDepth 100000 in
set_option maxHeartbeats 4000000 in
theorem tableauBegun_ (w : World) : Calls Try.prog 13 #[] w (BoolPost w true) := by
  go_enter Try.func13, Try.ntmps13
  go_wp2_with fail
  refine (until_ w).mono ?_
  rintro e w1 ⟨b, rfl, hnd, hb1⟩
  have HB1 := Lib.hid hb1
  have HTL : Hid (Calls Try.prog 11 #[.slice (some ⟨b, 0, none⟩) 3 3] w1 (TlPost untF w1)) := Translate_ untF (some ⟨b, 0, none⟩) 3 w1 hnd
  clear hb1 hnd
  go_wp2_with fail
  refine HTL.out.mono ?_
  rintro e w2 ⟨r, A, B, C, ca, cb, cc, hS, _, rfl, hrd, hb2⟩
  rw [unt_ck]
  have HS := Lib.hid (hS unt_ck)
  have hal : Below w2.heap.size w2 (w2.alloc (Obj.cells #[.int .i64 r.st, .int .i64 r.le, .slice A r.fs.length ca, .slice B r.gs.length cb, .slice C r.ss.length cc] 26)) := (Below.refl _ _).alloc (Nat.le_refl _) _
  have hX := World.alloc_heap_new w2 (Obj.cells #[.int .i64 r.st, .int .i64 r.le, .slice A r.fs.length ca, .slice B r.gs.length cb, .slice C r.ss.length cc] 26)
  have HRD := Lib.hid ((hrd.low (Nat.zero_le _)).below hal)
  have HB3 := Lib.hid (Below_on (Below_on HB1.out hb2 HB1.out.size) hal (Nat.le_trans HB1.out.size hb2.size))
  clear hS hrd hb2 hal HTL HB1
  go_upto_region 2 with fail
  obtain ⟨X, hXX⟩ : ∃ X, X = w2.heap.size := ⟨_, rfl⟩
  rw [← hXX] at hX ⊢
  clear hXX
  generalize w2.alloc (Obj.cells #[.int .i64 r.st, .int .i64 r.le, .slice A r.fs.length ca, .slice B r.gs.length cb, .slice C r.ss.length cc] 26) = W3 at *
  have HA := Lib.hid (auAt_of5 hX)
  clear hX
  obtain ⟨_, x0, x1, x2, x3, x4⟩ := HA.out
  have H4 := Lib.hid (two_blocks W3 (Obj.cells #[.int .i64 1, .int .i64 2] 3) (Obj.cells #[.int .i64 0] 3))
  go_wp2_with fail
  refine (TakesBeg_ r HS.out _ _ _ _ _ _ _ _ _ _ _ (HRD.out.below H4.out.2.2) (ints_two H4.out.1) (ints_one H4.out.2.1)).mono ?_
  rintro e w5 ⟨rfl, hb5⟩
  have HB5 := Lib.hid (Below_on H4.out.2.2 hb5 H4.out.2.2.size)
  have HRD5 := Lib.hid (HRD.out.below HB5.out)
  clear x0 x1 x2 x3 x4 hb5 H4
  obtain ⟨_, x0, x1, x2, x3, x4⟩ := HA.out.below HB5.out HA.out.lt
  have hal : Below w5.heap.size w5 (w5.alloc (Obj.cells #[.int .i64 1] 3)) := (Below.refl _ _).alloc (Nat.le_refl _) _
  have HI := Lib.hid (World.alloc_heap_new w5 (Obj.cells #[.int .i64 1] 3))
  have HAL := Lib.hid hal
  clear hal
  go_wp2_with fail
  refine (TakesOnl_ r HS.out _ _ _ _ _ _ _ _ _ (HRD5.out.below HAL.out) (ints_one HI.out)).mono ?_
  rintro e w6 ⟨rfl, hb6⟩
  have HP : Hid (BoolPost w true (.returned (.bool true)) w6) := ⟨rfl, Below_on (Below_on HB3.out (Below_on HB5.out HAL.out HB5.out.size) HB3.out.size) hb6 (Nat.le_trans HB3.out.size (Nat.le_trans HB5.out.size HAL.out.size))⟩
  clear hb6 x0 x1 x2 x3 x4
  go_wp2_with fail
  go_ret
  exact HP.out
end Go.Proofs.Ytoglgeaiiipchab

namespace Go.Proofs.Ytoglgeaiiipchab
open Go Go.RowKit Go.Maps Go.Shelf Go.Sort

theorem la_cellsT {W : World} {V : Nat} {v0 v1 : Value} (h : W.heap[V]? = some (.cells #[v0, v1] 28 (0, 0))) : W.cell? ⟨V, 0, none⟩ = some v0 ∧ W.cell? ⟨V, 1, none⟩ = some v1 ∧ True := by
  refine ⟨?_, ?_, trivial⟩ <;> simp [World.cell?, h]
set_option maxRecDepth 100000 in
set_option maxHeartbeats 8000000 in
theorem TableauTakes_ (f : List Nd) (FA G K : Option Addr) (fc cg ck : Nat) (l : La) (w : World) (hf : Nds w 0 FA fc f) (hh : Ints w 0 G cg l.h) (hl : Ints w 0 K ck l.l) :
    Calls Try.prog 4 #[.slice FA f.length fc, .agg #[.slice G l.h.length cg, .slice K l.l.length ck]] w (BoolPost w true) := by
  have hz : Below w.heap.size w (w.alloc (Obj.cells #[.slice G l.h.length cg, .slice K l.l.length ck] 28)) := (Below.refl _ _).alloc (Nat.le_refl _) _
  have hV := World.alloc_heap_new w (Obj.cells #[.slice G l.h.length cg, .slice K l.l.length ck] 28)
  have HN1 := Lib.hid (hf.below hz)
  have HH1 := Lib.hid (hh.below hz)
  have HL1 := Lib.hid (hl.below hz)
  have HB1 := Lib.hid hz
  clear hf hh hl hz
  go_enter Try.func4, Try.ntmps4
  go_upto_region 1 with fail
  obtain ⟨V, hVV⟩ : ∃ V, V = w.heap.size := ⟨_, rfl⟩
  rw [← hVV] at hV ⊢
  clear hVV
  have HV1 := Lib.hid hV
  clear hV
  generalize w.alloc (Obj.cells #[.slice G l.h.length cg, .slice K l.l.length ck] 28) = W1 at *
  have HTL := Lib.hid (Translate_ f FA fc W1 HN1.out)
  go_wp2_with fail
  refine HTL.out.mono ?_
  rintro e w2 ⟨r, A, B, C, ca, cb, cc, hS, hno, rfl, hrd, hb2⟩
  have HS := Lib.hid hS
  have HNO := Lib.hid hno
  have hal : Below w2.heap.size w2 (w2.alloc (Obj.cells #[.int .i64 r.st, .int .i64 r.le, .slice A r.fs.length ca, .slice B r.gs.length cb, .slice C r.ss.length cc] 26)) := (Below.refl _ _).alloc (Nat.le_refl _) _
  have hX := World.alloc_heap_new w2 (Obj.cells #[.int .i64 r.st, .int .i64 r.le, .slice A r.fs.length ca, .slice B r.gs.length cb, .slice C r.ss.length cc] 26)
  have HRD := Lib.hid ((hrd.low (Nat.zero_le _)).below hal)
  have HB2 := Lib.hid (Below_on hb2 hal hb2.size)
  clear hS hno hrd hb2 hal HTL
  go_upto_region 2 with fail
  obtain ⟨X, hXX⟩ : ∃ X, X = w2.heap.size := ⟨_, rfl⟩
  rw [← hXX] at hX ⊢
  clear hXX
  have HA := Lib.hid (auAt_of5 hX)
  clear hX
  generalize w2.alloc (Obj.cells #[.int .i64 r.st, .int .i64 r.le, .slice A r.fs.length ca, .slice B r.gs.length cb, .slice C r.ss.length cc] 26) = W2 at *
  have HALL : Hid (∀ W, Below W2.heap.size W2 W → Below w.heap.size w W ∧ AuAt W X r A B C ca cb cc ∧ (W.cell? ⟨V, 0, none⟩ = some (.slice G l.h.length cg) ∧ W.cell? ⟨V, 1, none⟩ = some (.slice K l.l.length ck)) ∧ Nds W 0 FA fc f ∧ Ints W 0 G cg l.h ∧ Ints W 0 K ck l.l ∧ AuRd W 0 r A B C ca cb cc) := fun W hW => by
    have k := Below_on HB2.out hW HB2.out.size
    have hv := (k.block V (Array.getElem?_eq_some_iff.1 HV1.out).1).trans HV1.out
    exact ⟨Below_on HB1.out k HB1.out.size, HA.out.below hW HA.out.lt, ⟨(la_cellsT hv).1, (la_cellsT hv).2.1⟩, HN1.out.below k, HH1.out.below k, HL1.out.below k, HRD.out.below hW⟩
  have HCF := Lib.hid (CheckFormula_ FA fc f W2 (HALL.out W2 (Below.refl _ _)).2.2.2.1)
  clear HA HN1 HH1 HL1 HB1 HV1 HRD HB2
  go_wp2_with fail
  refine HCF.out.mono ?_
  rintro e w3 ⟨rfl, hb3⟩
  have HB3 := Lib.hid hb3
  clear hb3 HCF
  go_wp2_with fail
  refine (tableauBegun_ w3).mono ?_
  rintro e w4 ⟨rfl, hb4⟩
  have HB4 := Lib.hid (Below_on HB3.out hb4 HB3.out.size)
  clear hb4 HB3
  go_wp2_with fail
  refine (holdsBegun_ w4).mono ?_
  rintro e w5 ⟨rfl, hb5⟩
  have HB5 := Lib.hid (Below_on HB4.out hb5 HB4.out.size)
  clear hb5 HB4
  obtain ⟨hbw, ⟨_, x0, x1, x2, x3, x4⟩, ⟨l0, l1⟩, hnd, hih, hil, hra⟩ := HALL.out w5 HB5.out
  by_cases h0 : ckF f = 0
  · have HSS := Lib.hid (HS.out h0)
    have hle := HSS.out.le
    have HCA := Lib.hid (CheckAuto_ r A B C ca cb cc w5 hra)
    rw [HSS.out.ok] at HCA
    have HTV := Lib.hid (raw_holds HSS.out h0 l)
    rw [hle] at x1
    rw [h0]
    clear h0 hbw hnd hih hil hra HS HNO
    have HLE := Lib.hid hle
    rw [hle] at HCA
    clear hle
    go_wp2_with fail
    refine HCA.out.mono ?_
    rintro e w6 ⟨rfl, hb6⟩
    have HB6 := Lib.hid (Below_on HB5.out hb6 HB5.out.size)
    clear hb6 HCA x0 x1 x2 x3 x4 l0 l1
    obtain ⟨_, ⟨_, x0, x1, x2, x3, x4⟩, ⟨l0, l1⟩, hnd, hih, hil, hra⟩ := HALL.out w6 HB6.out
    have HHO := Lib.hid (Holds_ FA fc f G K cg ck l w6 hnd hih hil)
    rw [HLE.out] at x1
    clear hnd hih hil hra
    go_wp2_with fail
    refine HHO.out.mono ?_
    rintro e w7 ⟨rfl, hb7⟩
    have HB7 := Lib.hid (Below_on HB6.out hb7 HB6.out.size)
    clear hb7 HHO x0 x1 x2 x3 x4 l0 l1
    obtain ⟨_, ⟨_, x0, x1, x2, x3, x4⟩, ⟨l0, l1⟩, hnd, hih, hil, hra⟩ := HALL.out w7 HB7.out
    have HTK := Lib.hid (Takes_ r A B C G K ca cb cc cg ck l w7 hra hih hil)
    unfold TkPost at HTK
    rw [HTV.out.1, HTV.out.2] at HTK
    clear hnd hih hil hra HTV
    generalize holdsV f l = hv at *
    generalize ckT f l = ct at *
    go_wp2_with fail
    refine HTK.out.mono ?_
    rintro e w8 ⟨rfl, hb8⟩
    have HP : Hid (BoolPost w true (.returned (.bool true)) w8) := ⟨rfl, (HALL.out w8 (Below_on HB7.out hb8 HB7.out.size)).1⟩
    clear hb8 x0 x1 x2 x3 x4 l0 l1 HTK
    go_wp2_with fail
    go_ret
    exact HP.out
  · have hst := HNO.out h0
    rw [hst] at x0
    have h1 : (ckF f != 0) = true := by simp [h0]
    have HP : Hid (BoolPost w true (.returned (.bool true)) w5) := ⟨rfl, hbw⟩
    clear h0 hst hbw hnd hih hil hra HS HNO
    generalize ckF f = ck at *
    go_wp2_with fail
    go_ret
    exact HP.out
end Go.Proofs.Ytoglgeaiiipchab

namespace Go.Proofs.Ytoglgeaiiipchab
open Go Go.ChangeShapes Go.WideShapes Go.ChangeAt Go.RowKit Go.Deep Go.Joins

theorem rd_flat {α : Type} {enc : α → List Value} {sz : Nat} (hsz : ∀ x, (enc x).length = sz) {w : World} {b : Nat} : ∀ (xs : List α) (off : Nat),
    (∀ (k : Nat) (hk : k < xs.length) (i : Nat) (u : Value), (enc xs[k])[i]? = some u → w.cell? ⟨b, off + (k * sz + i), none⟩ = some u) →
    ∀ (j : Nat) (u : Value), (xs.flatMap enc)[j]? = some u → w.cell? ⟨b, off + j, none⟩ = some u
  | [], _, _, j, u, hu => by simp at hu
  | x :: r, off, h, j, u, hu => by
    rw [List.flatMap_cons] at hu
    rcases Nat.lt_or_ge j sz with hj | hj
    · rw [List.getElem?_append_left (by rw [hsz]; exact hj)] at hu
      have := h 0 (by simp) j u (by simpa using hu)
      simpa using this
    · rw [List.getElem?_append_right (by rw [hsz]; exact hj), hsz] at hu
      have := rd_flat hsz r (off + sz) (fun k hk i v hv => by
        have := h (k + 1) (by simpa using hk) i v (by simpa using hv)
        rw [show off + sz + (k * sz + i) = off + ((k + 1) * sz + i) by rw [Nat.add_mul]; omega]
        exact this) (j - sz) u hu
      rw [show off + sz + (j - sz) = off + j by omega] at this
      exact this
theorem slE_of {α : Type} {enc : α → List Value} {sz bt : Nat} (hsz : ∀ x, (enc x).length = sz) (hp : 0 < sz) {w : World} {a : Addr} {len cap : Nat} (hl : len ≤ cap) (hm : cap ≤ maxLen) (hb : len * bt ≤ 140737488351232)
    (hx : ∀ i, i < len → ∃ x : α, ∀ j u, (enc x)[j]? = some u → w.cell? (a.add (i * sz + j)) = some u) : ∃ xs : List α, xs.length = len ∧ SlE enc bt w 0 (some a) cap xs := by
  have hc : ∀ i : Fin len, ∃ x : α, ∀ j u, (enc x)[j]? = some u → w.cell? (a.add (i.1 * sz + j)) = some u := fun i => hx i.1 i.2
  refine ⟨List.ofFn fun i => (hc i).choose, by simp, ⟨by simpa using hl, hm, by simpa using hb, fun hne => ?_⟩⟩
  have hlen : 0 < len := by
    rcases Nat.eq_zero_or_pos len with h | h
    · subst h; simp at hne
    · exact h
  obtain ⟨b, off, spot⟩ := a
  have h0 := (hc ⟨0, hlen⟩).choose_spec 0 _ (List.getElem?_eq_getElem (by rw [hsz]; exact hp))
  have hlt := World.block_lt_of_cell? _ _ h0
  have hs : spot = none := by
    have := World.cell?_spot h0
    simpa [Addr.add] using this
  subst hs
  refine ⟨b, off, rfl, Nat.zero_le _, by simpa [Addr.add] using hlt, rd_flat hsz _ off fun k hk i u hu => ?_⟩
  have hkl : k < len := by simpa using hk
  have := (hc ⟨k, hkl⟩).choose_spec i u (by simpa using hu)
  rw [Addr_add_off] at this
  exact this

section
variable {H : Type} {enc : TypeId × Value → H} {P : Program} {w : World} {spare : Nat → Bool} {held : Bool}
theorem struct_int {e : TypeId} {fs : Array Field} {n base : Nat} {cs : List Value} {y : DataW H × List MemPlace} (he : P.underlying e = some (.struct fs)) (h : DataW.trod enc P w base spare held n e cs = some y) (j : Nat) (f : Field)
    (hf : fs[j]? = some f) (ho : f.offset = j) (hc : P.cellsOf f.type = 1) (hi : P.underlying f.type = some (.int .i64)) : ∃ z, cs[j]? = some (.int .i64 z) := by
  obtain ⟨ys, n', hn', hy, hlen, hyl, hg⟩ := DataW.trod_struct he h
  have h1 := hg j f hf
  rw [ho, hc] at h1
  have hj : j < ys.length := by rw [hyl]; exact (Array.getElem?_eq_some_iff.1 hf).1
  rw [List.getElem?_eq_getElem hj] at h1
  obtain ⟨z, hz, _⟩ := DataW.trod_int hi h1
  have h2 := congrArg (fun l => l[0]?) hz
  exact ⟨z, by simpa using h2⟩

/-- a slice of numbers, as a reading -/
theorem ints_in {t e : TypeId} {n : Nat} {v : Value} {y : DataW H × List MemPlace} (ht : P.underlying t = some (.slice e)) (he : P.underlying e = some (.int .i64)) (hc : P.cellsOf e = 1) (hby : P.bytesOf e = 8)
    (h : DataW.trod enc P w 0 spare held n t [v] = some y) (hw : ∀ k ∈ y.1.weights P t, k ≤ reachBytes) : ∃ A c xs, v = .slice A xs.length c ∧ Ints w 0 A c xs := by
  rcases open_ints ht he hc h with ⟨hcs, _⟩ | ⟨a, len, cap, zs, hcs, _, hl, hm, hz, hx, hcell, _⟩
  · simp only [List.cons.injEq, and_true] at hcs
    exact ⟨none, 0, [], hcs, ⟨by simp, by omega, by simp, Rd.nil⟩⟩
  · simp only [List.cons.injEq, and_true] at hcs
    have hzl : len ≤ zs.length := by rw [hz]; split <;> omega
    have hwt := hw (zs.length * 8) (by
      rw [hx]
      simp only [DataW.weights, ht, lits, List.length_map, List.length_take, List.length_drop, hby]
      rw [show min len zs.length + (zs.length - len) = zs.length by omega]
      simp)
    obtain ⟨xs, hxl, hxs⟩ := slE_of (enc := fun n : Int => [Value.int .i64 n]) (sz := 1) (bt := 8) (fun _ => rfl) (by decide) (w := w) (a := a) hl hm (by simp only [reachBytes] at hwt; omega) (fun i hi => ⟨zs.getD i 0, fun j u hu => by
      have hj : j = 0 := by
        have := (List.getElem?_eq_some_iff.1 hu).1
        simp at this
        exact this
      subst hj
      simp at hu
      subst hu
      simpa using hcell i (by omega)⟩)
    exact ⟨some a, cap, xs, by rw [hcs, hxl], hxs⟩
/-- a slice of nodes, as a reading -/
theorem nds_in {t e ti : TypeId} {n : Nat} {v : Value} {y : DataW H × List MemPlace} {f0 f1 f2 f3 : Field} (ht : P.underlying t = some (.slice e)) (he : P.underlying e = some (.struct #[f0, f1, f2, f3])) (hc : P.cellsOf e = 4) (hby : P.bytesOf e = 32)
    (hi : P.underlying ti = some (.int .i64)) (hci : P.cellsOf ti = 1) (t0 : f0.type = ti) (t1 : f1.type = ti) (t2 : f2.type = ti) (t3 : f3.type = ti) (o0 : f0.offset = 0) (o1 : f1.offset = 1) (o2 : f2.offset = 2) (o3 : f3.offset = 3)
    (h : DataW.trod enc P w 0 spare held n t [v] = some y) (hw : ∀ k ∈ y.1.weights P t, k ≤ reachBytes) : ∃ A c xs, v = .slice A xs.length c ∧ Nds w 0 A c xs := by
  rcases open_slice ht h with ⟨hcs, _⟩ | ⟨a, len, cap, m, n', D, Pl, hcs, _, hl, hm, hmm, hx, hel⟩
  · simp only [List.cons.injEq, and_true] at hcs
    exact ⟨none, 0, [], hcs, ⟨by simp, by omega, by simp, Rd.nil⟩⟩
  · simp only [List.cons.injEq, and_true] at hcs
    have hml : len ≤ m := by rw [hmm]; split <;> omega
    have hwt := hw (m * 32) (by
      rw [hx]
      simp only [DataW.weights, ht, List.length_map, List.length_range, hby]
      rw [show len + (m - len) = m by omega]
      simp)
    obtain ⟨xs, hxl, hxs⟩ := slE_of (enc := Nd.cells) (sz := 4) (bt := 32) (fun _ => rfl) (by decide) (w := w) (a := a) hl hm (by simp only [reachBytes] at hwt; omega) (fun i hi' => by
      obtain ⟨cs', hcc, ht'⟩ := hel i (by omega)
      rw [hc] at hcc
      obtain ⟨_, hcl, hat⟩ := World.cells?_some hcc
      obtain ⟨z0, e0⟩ := struct_int he ht' 0 f0 rfl o0 (by rw [t0]; exact hci) (by rw [t0]; exact hi)
      obtain ⟨z1, e1⟩ := struct_int he ht' 1 f1 rfl o1 (by rw [t1]; exact hci) (by rw [t1]; exact hi)
      obtain ⟨z2, e2⟩ := struct_int he ht' 2 f2 rfl o2 (by rw [t2]; exact hci) (by rw [t2]; exact hi)
      obtain ⟨z3, e3⟩ := struct_int he ht' 3 f3 rfl o3 (by rw [t3]; exact hci) (by rw [t3]; exact hi)
      refine ⟨⟨z0, z1, z2, z3⟩, fun j u hu => ?_⟩
      rw [← Go.Deep.add_add]
      match j, hu with
      | 0, hu => rw [hat 0 (by decide), e0]; simpa [Nd.cells] using hu
      | 1, hu => rw [hat 1 (by decide), e1]; simpa [Nd.cells] using hu
      | 2, hu => rw [hat 2 (by decide), e2]; simpa [Nd.cells] using hu
      | 3, hu => rw [hat 3 (by decide), e3]; simpa [Nd.cells] using hu
      | j + 4, hu => simp [Nd.cells] at hu)
    exact ⟨some a, cap, xs, by rw [hcs, hxl], hxs⟩
end
end Go.Proofs.Ytoglgeaiiipchab
