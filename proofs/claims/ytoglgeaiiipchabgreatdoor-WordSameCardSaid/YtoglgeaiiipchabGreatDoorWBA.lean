/- Walks: the law's wordBegun. -/
import Derived.Test.YtoglgeaiiipchabGreatDoorWTks
import Derived.Test.YtoglgeaiiipchabGreatDoorWA
import Derived.Test.YtoglgeaiiipchabGreatDoorWLe
import Derived.Test.YtoglgeaiiipchabGreatDoorOn
namespace Go.Proofs.YtoglgeaiiipchabGreatDoor
open Go Go.RowKit Go.Shelf

def zeroL : La := ⟨[], [0]⟩
def oneL : La := ⟨[1], [0]⟩
def zerL : La := ⟨[0], [0, 0]⟩
theorem flat_ints (xs : List Int) : xs.flatMap (fun n : Int => [Value.int .i64 n]) = xs.map (Value.int .i64) := by
  induction xs with
  | nil => rfl
  | cons x r ih => rw [List.flatMap_cons, List.map_cons, ih]; rfl
theorem ints_lit {W : World} {b : Nat} {t : TypeId} {fz : Nat × Nat} (xs : List Int) (h : W.heap[b]? = some (.cells (xs.map (Value.int .i64)).toArray t fz)) (hl : xs.length ≤ 1000) : Ints W 0 (some ⟨b, 0, none⟩) xs.length xs := by
  refine ⟨Nat.le_refl _, by omega, by omega, fun _ => ⟨b, 0, rfl, Nat.zero_le _, (Array.getElem?_eq_some_iff.1 h).1, fun j u hu => ?_⟩⟩
  simp only [World.cell?, h, Nat.zero_add]
  rw [flat_ints] at hu
  simpa using hu
def zerW (w : World) : World := (w.alloc (Obj.cells #[.slice none 0 0, .slice (some ⟨w.heap.size + 1, 0, none⟩) 1 1] 28)).alloc (Obj.cells #[.int .i64 0] 3)
theorem zerW_is (w : World) : Ints (zerW w) w.heap.size (some ⟨w.heap.size + 1, 0, none⟩) 1 [0] ∧ Below w.heap.size w (zerW w) := by
  refine ⟨?_, by unfold zerW; go_grown⟩
  refine ⟨by decide, by omega, by decide, fun _ => ⟨_, 0, rfl, by omega, by unfold zerW; simp, fun j u hu => ?_⟩⟩
  match j, hu with
  | 0, hu => simp at hu; subst hu; unfold zerW; go_simp
  | j + 1, hu => simp at hu
theorem ints_nil (w : World) (lo : Nat) : Ints w lo none 0 [] := ⟨Nat.le_refl _, by omega, by decide, Rd.nil⟩
set_option maxRecDepth 100000 in
theorem zero_ (w : World) : Calls Tryz.prog 26 #[] w (LaPost w zeroL) := by
  have HP : Hid (LaPost w zeroL (.returned (.agg #[.slice none 0 0, .slice (some ⟨w.heap.size + 1, 0, none⟩) 1 1])) (zerW w)) :=
    ⟨none, some ⟨w.heap.size + 1, 0, none⟩, 0, 1, rfl, ints_nil _ _, (zerW_is w).1, (zerW_is w).2⟩
  go_enter Tryz.func26, Tryz.ntmps26
  go_wp2_with fail
  exact bodyPost_ret (by simp [results, Tryz.results26, go_sem]) rfl HP.out
/-- what the closed calls answer -/
theorem zero_ck : ckL zeroL 2 = 0 := by decide +kernel
theorem one_zero : tkB oneA zeroL = true := by
  have h1 : taErr oneA zeroL = 0 := by unfold taErr; rw [if_pos one_ck]; exact zero_ck
  have h2 : takesB oneA zeroL.at = true := takesB_iff.2 ⟨fun _ => 0, by simp [oneA], fun i => by
    have : zeroL.at i = 0 := by unfold La.at zeroL; simp [Nat.mod_one]
    rw [this]
    simp [oneA], fun n => ⟨n, Nat.le_refl _, by unfold Au.good; simp [oneA]⟩⟩
  unfold tkB
  rw [h1, h2]
  rfl
theorem one_one : tkB oneA oneL = false := by
  have h2 : takesB oneA oneL.at = false := by
    cases h : takesB oneA oneL.at with
    | false => rfl
    | true =>
      obtain ⟨r, h0, h1, _⟩ := takesB_iff.1 h
      have := h1 0
      simp [oneA, La.at, oneL] at this
  unfold tkB
  rw [h2, Bool.and_false]
theorem one_ta : taErr oneA zeroL = 0 ∧ taErr oneA oneL = 0 := by
  unfold taErr
  rw [if_pos one_ck, if_pos one_ck]
  exact ⟨zero_ck, by decide +kernel⟩
theorem zer_least : lstL zerL 2 = zeroL ∧ ckL zerL 2 = 0 ∧ atL oneL 2 0 = 1 ∧ atE oneL 2 0 = 0 ∧ ckL zeroL 1 = 0 := by
  refine ⟨by decide +kernel, by decide +kernel, by decide +kernel, by decide +kernel, by decide +kernel⟩
end Go.Proofs.YtoglgeaiiipchabGreatDoor

namespace Go.Proofs.YtoglgeaiiipchabGreatDoor
open Go Go.RowKit Go.Shelf

theorem LeastZer_ (A B : Option Addr) (w : World) (hh : Ints w 0 A 1 [0]) (hl : Ints w 0 B 2 [0, 0]) :
    Calls Tryz.prog 8 #[.agg #[.slice A 1 1, .slice B 2 2], .int .i64 2] w fun e w' => ∃ A B ca cb, e = .returned (.tuple #[.agg #[.slice A 0 ca, .slice B 1 cb], .int .i64 0]) ∧ Ints w' 0 A ca [] ∧ Ints w' 0 B cb [0] ∧ Below w.heap.size w w' := by
  have := Least_ A B 1 2 zerL 2 w hh hl
  rw [zer_least.1, zer_least.2.1] at this
  refine this.mono ?_
  rintro e w' ⟨A, B, ca, cb, h1, h2, h3, h4⟩
  exact ⟨A, B, ca, cb, h1, h2.zero, h3.zero, h4⟩
theorem zero0_ (w : World) : Calls Tryz.prog 26 #[] w fun e w' => ∃ A B ca cb, e = .returned (.agg #[.slice A 0 ca, .slice B 1 cb]) ∧ Ints w' 0 A ca [] ∧ Ints w' 0 B cb [0] ∧ Below w.heap.size w w' :=
  (zero_ w).mono fun e w' ⟨A, B, ca, cb, h1, h2, h3, h4⟩ => ⟨A, B, ca, cb, h1, h2.zero, h3.zero, h4⟩
theorem AtOne_ (A B : Option Addr) (w : World) (hh : Ints w 0 A 1 [1]) (hl : Ints w 0 B 1 [0]) :
    Calls Tryz.prog 10 #[.agg #[.slice A 1 1, .slice B 1 1], .int .i64 2, .int .i64 0] w (IntsPost w 1 0) := by
  have := At_ A B 1 1 oneL 2 0 w hh hl (by decide)
  rwa [zer_least.2.2.1, zer_least.2.2.2.1] at this
theorem TakesOne_ (A B C D E : Option Addr) (ca cb cc cd ce : Nat) (w : World) (hr : AuRd w 0 oneA A B C ca cb cc) (hh : Ints w 0 D cd []) (hl : Ints w 0 E ce [0]) :
    Calls Tryz.prog 11 #[.agg #[.int .i64 1, .int .i64 2, .slice A 1 ca, .slice B 1 cb, .slice C 1 cc], .agg #[.slice D 0 cd, .slice E 1 ce]] w fun e w' => e = .returned (.tuple #[.bool true, .int .i64 0]) ∧ Below w.heap.size w w' := by
  have := Takes_ oneA A B C D E ca cb cc cd ce zeroL w hr hh hl
  unfold TkPost at this
  rwa [one_zero, one_ta.1] at this
theorem TakesNo_ (A B C D E : Option Addr) (ca cb cc cd ce : Nat) (w : World) (hr : AuRd w 0 oneA A B C ca cb cc) (hh : Ints w 0 D cd [1]) (hl : Ints w 0 E ce [0]) :
    Calls Tryz.prog 11 #[.agg #[.int .i64 1, .int .i64 2, .slice A 1 ca, .slice B 1 cb, .slice C 1 cc], .agg #[.slice D 1 cd, .slice E 1 ce]] w fun e w' => e = .returned (.tuple #[.bool false, .int .i64 0]) ∧ Below w.heap.size w w' := by
  have := Takes_ oneA A B C D E ca cb cc cd ce oneL w hr hh hl
  unfold TkPost at this
  rwa [one_one, one_ta.2] at this
theorem CheckZero_ (A B : Option Addr) (ca cb : Nat) (w : World) (hh : Ints w 0 A ca []) (hl : Ints w 0 B cb [0]) :
    Calls Tryz.prog 27 #[.agg #[.slice A 0 ca, .slice B 1 cb], .int .i64 1] w fun e w' => e = .returned (.int .i64 0) ∧ Below w.heap.size w w' := by
  have := wordCheck_ A B ca cb zeroL 1 w hh hl
  rwa [zer_least.2.2.2.2] at this
theorem SameZero_ (A B C D : Option Addr) (ca cb cc cd : Nat) (w : World) (hh : Ints w 0 A ca []) (hl : Ints w 0 B cb [0]) (gh : Ints w 0 C cc []) (gl : Ints w 0 D cd [0]) :
    Calls Tryz.prog 9 #[.agg #[.slice A 0 ca, .slice B 1 cb], .agg #[.slice C 0 cc, .slice D 1 cd]] w (BoolPost w true) :=
  SameLasso_ A B C D ca cb cc cd zeroL zeroL w hh hl gh gl
theorem ints_one {W : World} {b : Nat} {t : TypeId} {fz : Nat × Nat} {x : Int} (h : W.heap[b]? = some (.cells #[.int .i64 x] t fz)) : Ints W 0 (some ⟨b, 0, none⟩) 1 [x] := ints_lit [x] h (by simp)
theorem ints_two {W : World} {b : Nat} {t : TypeId} {fz : Nat × Nat} {x y : Int} (h : W.heap[b]? = some (.cells #[.int .i64 x, .int .i64 y] t fz)) : Ints W 0 (some ⟨b, 0, none⟩) 2 [x, y] := ints_lit [x, y] h (by simp)
theorem two_blocks (W : World) (o1 o2 : Obj) : ((W.alloc o1).alloc o2).heap[W.heap.size]? = some o1 ∧ ((W.alloc o1).alloc o2).heap[W.heap.size + 1]? = some o2 ∧ Below W.heap.size W ((W.alloc o1).alloc o2) :=
  ⟨by rw [Below.heap_alloc _ _ _ (by simp)]; exact World.alloc_heap_new _ _, by have := World.alloc_heap_new (W.alloc o1) o2; rwa [World.size_alloc] at this, ((Below.refl _ _).alloc (Nat.le_refl _) _).alloc (by simp) _⟩
set_option maxRecDepth 100000 in
set_option maxHeartbeats 2000000 in
theorem wordBegun_ (w : World) : Calls Tryz.prog 6 #[] w (BoolPost w true) := by
  have H1 := Lib.hid (two_blocks w (Obj.cells #[.int .i64 0] 3) (Obj.cells #[.int .i64 0, .int .i64 0] 3))
  go_enter Tryz.func6, Tryz.ntmps6
  go_wp2_with fail
  refine (LeastZer_ _ _ _ (ints_one H1.out.1) (ints_two H1.out.2.1)).mono ?_
  rintro e w1 ⟨LA, LB, lca, lcb, rfl, hlh, hll, hb1⟩
  have hba : Below w1.heap.size w1 (w1.alloc (Obj.cells #[.slice LA 0 lca, .slice LB 1 lcb] 28)) := (Below.refl _ _).alloc (Nat.le_refl _) _
  have HB1 : Hid (Below w.heap.size w (w1.alloc (Obj.cells #[.slice LA 0 lca, .slice LB 1 lcb] 28))) := Below_on (Below_on H1.out.2.2 hb1 H1.out.2.2.size) hba (Nat.le_trans H1.out.2.2.size hb1.size)
  have HLH := Lib.hid (hlh.below hba)
  have HLL := Lib.hid (hll.below hba)
  have HX : Hid ((w1.alloc (Obj.cells #[.slice LA 0 lca, .slice LB 1 lcb] 28)).heap[w1.heap.size]? = some (Obj.cells #[.slice LA 0 lca, .slice LB 1 lcb] 28)) := World.alloc_heap_new _ _
  have H2 := Lib.hid (two_blocks (w1.alloc (Obj.cells #[.slice LA 0 lca, .slice LB 1 lcb] 28)) (Obj.cells #[.int .i64 1] 3) (Obj.cells #[.int .i64 0] 3))
  rw [World.size_alloc] at H2
  clear H1 hb1 hlh hll hba
  go_wp2_with fail
  refine (AtOne_ _ _ _ (ints_one H2.out.1) (ints_one H2.out.2.1)).mono ?_
  rintro e w2 ⟨rfl, hb2⟩
  obtain ⟨X, hX⟩ : ∃ X, X = w1.heap.size := ⟨_, rfl⟩
  rw [← hX] at HX ⊢
  have hXl : X < (w1.alloc (Obj.cells #[.slice LA 0 lca, .slice LB 1 lcb] 28)).heap.size := by simp [hX]
  have hb3 := Below_on (show Below (w1.alloc (Obj.cells #[.slice LA 0 lca, .slice LB 1 lcb] 28)).heap.size _ _ by rw [World.size_alloc]; exact H2.out.2.2) hb2 (by simp)
  have HX2 : Hid (w2.heap[X]? = some (Obj.cells #[.slice LA 0 lca, .slice LB 1 lcb] 28)) := (hb3.block X hXl).trans HX.out
  have HB2 : Hid (Below w.heap.size w w2) := Below_on HB1.out hb3 HB1.out.size
  have HLH2 := Lib.hid (HLH.out.below hb3)
  have HLL2 := Lib.hid (HLL.out.below hb3)
  clear H2 hb2 hb3 HX HLH HLL HB1 hXl hX
  go_wp2_with fail
  refine (one0_ w2).mono ?_
  rintro e w3 ⟨A3, B3, C3, ca3, cb3, cc3, rfl, hr3, hb3⟩
  have HB3 := Lib.hid hb3
  have HR3 := Lib.hid hr3
  clear hb3 hr3
  go_wp2_with fail
  refine (zero0_ w3).mono ?_
  rintro e w4 ⟨D4, E4, cd4, ce4, rfl, hh4, hl4, hb4⟩
  have HB4 := Lib.hid (Below_on HB3.out hb4 HB3.out.size)
  have HR4 := Lib.hid (HR3.out.below hb4)
  have HH4 := Lib.hid hh4
  have HL4 := Lib.hid hl4
  clear hb4 hh4 hl4 HR3 HB3
  go_wp2_with fail
  refine (TakesOne_ A3 B3 C3 D4 E4 ca3 cb3 cc3 cd4 ce4 w4 HR4.out HH4.out HL4.out).mono ?_
  rintro e w5 ⟨rfl, hb5⟩
  have HB5 := Lib.hid (Below_on HB4.out hb5 HB4.out.size)
  clear hb5 HH4 HL4 HR4 HB4
  go_wp2_with fail
  refine (one0_ w5).mono ?_
  rintro e w6 ⟨A6, B6, C6, ca6, cb6, cc6, rfl, hr6, hb6⟩
  have HB6 := Lib.hid (Below_on HB5.out hb6 HB5.out.size)
  have HR6 := Lib.hid hr6
  have H6 := Lib.hid (two_blocks w6 (Obj.cells #[.int .i64 1] 3) (Obj.cells #[.int .i64 0] 3))
  clear hb6 hr6 HB5
  go_wp2_with fail
  refine (TakesNo_ A6 B6 C6 _ _ ca6 cb6 cc6 1 1 _ (HR6.out.below H6.out.2.2) (ints_one H6.out.1) (ints_one H6.out.2.1)).mono ?_
  rintro e w7 ⟨rfl, hb7⟩
  have HB7 : Hid (Below w2.heap.size w2 w7) := Below_on (Below_on HB6.out H6.out.2.2 HB6.out.size) hb7 (Nat.le_trans HB6.out.size H6.out.2.2.size)
  clear H6 hb7 HB6 HR6
  have hX2l : X < w2.heap.size := (Array.getElem?_eq_some_iff.1 HX2.out).1
  have HX7 : Hid (w7.heap[X]? = some (Obj.cells #[.slice LA 0 lca, .slice LB 1 lcb] 28)) := (HB7.out.block X hX2l).trans HX2.out
  have HLH7 := Lib.hid (HLH2.out.below HB7.out)
  have HLL7 := Lib.hid (HLL2.out.below HB7.out)
  have HW7 : Hid (Below w.heap.size w w7) := Below_on HB2.out HB7.out HB2.out.size
  clear HX2 HLH2 HLL2 HB7 HB2 hX2l
  go_wp2_with fail
  have HBX : Hid (∀ W, Below w7.heap.size w7 W → W.cell? ⟨X, 0, none⟩ = some (.slice LA 0 lca) ∧ W.cell? ⟨X, 1, none⟩ = some (.slice LB 1 lcb)) := by
    intro W hW
    have hl : X < w7.heap.size := (Array.getElem?_eq_some_iff.1 HX7.out).1
    have h7 := (hW.block X hl).trans HX7.out
    exact ⟨by simp [World.cell?, h7], by simp [World.cell?, h7]⟩
  obtain ⟨x0, x1⟩ := HBX.out w7 (Below.refl _ _)
  have hw7 : w7.heap.size ≤ w7.heap.size := Nat.le_refl _
  go_region_held3 (fun w' => w'.cell? ⟨X, 0, none⟩ = some (.slice LA 0 lca) ∧ w'.cell? ⟨X, 1, none⟩ = some (.slice LB 1 lcb))
    (first | go_keep | exact ⟨q0, q1⟩)
    (first
      | (go_at_call 9; refine (SameZero_ LA LB _ _ lca lcb _ _ _ (HLH7.out.below HBC.out) (HLL7.out.below HBC.out) HHC.out HLC.out).mono ?_; rintro e wd ⟨rfl, hbd⟩; have HBD := Lib.hid (Below_on HBC.out hbd HBC.out.size); have q0 := (HBX.out _ HBD.out).1; have q1 := (HBX.out _ HBD.out).2)
      | (go_at_call 26; refine (zero0_ _).mono ?_; rintro e wc ⟨Dc, Ec, cdc, cec, rfl, hhc, hlc, hbc⟩; have HBC := Lib.hid (Below_on HBB.out hbc HBB.out.size); have HHC := Lib.hid hhc; have HLC := Lib.hid hlc; have q0 := (HBX.out _ HBC.out).1; have q1 := (HBX.out _ HBC.out).2)
      | (go_at_call 27; refine (CheckZero_ _ _ _ _ _ HHA.out HLA.out).mono ?_; rintro e wb ⟨rfl, hbb⟩; have HBB := Lib.hid (Below_on HBA.out hbb HBA.out.size); have q0 := (HBX.out _ HBB.out).1; have q1 := (HBX.out _ HBB.out).2)
      | (go_at_call 26; refine (zero0_ _).mono ?_; rintro e wa ⟨Da, Ea, cda, cea, rfl, hha, hla, hba⟩; have HBA := Lib.hid (Below_on ((Below.refl _ w7).drew) hba hw7); have HHA := Lib.hid hha; have HLA := Lib.hid hla; have q0 := (HBX.out _ HBA.out).1; have q1 := (HBX.out _ HBA.out).2))
  all_goals
    have HP : Hid (BoolPost w true (.returned (.bool true)) wd) := ⟨rfl, Below_on HW7.out HBD.out HW7.out.size⟩
    clear q0 q1 x0 x1 hba hbb hbc hbd HBX hhc hlc hha hla
    go_wp2_with fail
    go_ret
    exact HP.out
end Go.Proofs.YtoglgeaiiipchabGreatDoor
