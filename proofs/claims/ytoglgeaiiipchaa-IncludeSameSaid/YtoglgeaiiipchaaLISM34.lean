/- Walks: the reference's checks of formulas. -/
import Derived.Test.YtoglgeaiiipchaaLISM33
import Derived.Test.YtoglgeaiiipchaaLISM30
import Derived.Test.YtoglgeaiiipchaaLISM32
import Derived.Test.YtoglgeaiiipchaaLISM22
import Derived.Test.YtoglgeaiiipchaaLISM12
set_option linter.unusedSimpArgs false
set_option linter.unusedVariables false
namespace Go.Proofs.Ytoglgeaiiipchaa
open Go Go.RowKit Go.Shelf

def zeroL : La := ⟨[], [0]⟩
def oneL : La := ⟨[1], [0]⟩
def zerL : La := ⟨[0], [0, 0]⟩
theorem flat_ints (xs : List Int) : xs.flatMap (fun n : Int => [Value.int .i64 n]) = xs.map (Value.int .i64) := by
  induction xs with
  | nil => rfl
  | cons x r ih => rw [List.flatMap_cons, List.map_cons, ih]; rfl
theorem ints_lit {W : World} {b : Nat} {t : TypeId} {fz : Nat × Nat} (xs : List Int) (h : W.heap[b]? = some (.cells (xs.map (Value.int .i64)).toArray t fz)) (hl : xs.length ≤ 1000) : Ints W 0 (some ⟨b, 0, none⟩) xs.length xs := by
  refine ⟨Nat.le_refl _, by omega, by omega, fun _ => ⟨b, 0, rfl, Nat.zero_le _, (Array.getElem?_eq_some_iff.1 h).1, fun j u hu => ?_⟩⟩
  simp only [World.cell?, h, Nat.zero_add]
  rw [flat_ints] at hu
  simpa using hu
def zerW (w : World) : World := (w.alloc (Obj.cells #[.slice none 0 0, .slice (some ⟨w.heap.size + 1, 0, none⟩) 1 1] 26)).alloc (Obj.cells #[.int .i64 0] 3)
theorem zerW_is (w : World) : Ints (zerW w) w.heap.size (some ⟨w.heap.size + 1, 0, none⟩) 1 [0] ∧ Below w.heap.size w (zerW w) := by
  refine ⟨?_, by unfold zerW; go_grown⟩
  refine ⟨by decide, by omega, by decide, fun _ => ⟨_, 0, rfl, by omega, by unfold zerW; simp, fun j u hu => ?_⟩⟩
  match j, hu with
  | 0, hu => simp at hu; subst hu; unfold zerW; go_simp
  | j + 1, hu => simp at hu
theorem ints_nil (w : World) (lo : Nat) : Ints w lo none 0 [] := ⟨Nat.le_refl _, by omega, by decide, Rd.nil⟩
set_option maxRecDepth 100000 in
theorem zero_ (w : World) : Calls Try.prog 44 #[] w (LaPost w zeroL) := by
  have HP : Hid (LaPost w zeroL (.returned (.agg #[.slice none 0 0, .slice (some ⟨w.heap.size + 1, 0, none⟩) 1 1])) (zerW w)) :=
    ⟨none, some ⟨w.heap.size + 1, 0, none⟩, 0, 1, rfl, ints_nil _ _, (zerW_is w).1, (zerW_is w).2⟩
  go_enter Try.func44, Try.ntmps44
  go_wp2_with fail
  exact bodyPost_ret (by simp [results, Try.results44, go_sem]) rfl HP.out
/-- what the closed calls answer -/
theorem zero_ck : ckL zeroL 2 = 0 := by decide +kernel
theorem one_zero : tkB oneA zeroL = true := by
  have h1 : taErr oneA zeroL = 0 := by unfold taErr; rw [if_pos one_ck]; exact zero_ck
  have h2 : takesB oneA zeroL.at = true := takesB_iff.2 ⟨fun _ => 0, by simp [oneA], fun i => by
    have : zeroL.at i = 0 := by unfold La.at zeroL; simp [Nat.mod_one]
    rw [this]
    simp [oneA], fun n => ⟨n, Nat.le_refl _, by unfold Au.good; simp [oneA]⟩⟩
  unfold tkB
  rw [h1, h2]
  rfl
theorem one_one : tkB oneA oneL = false := by
  have h2 : takesB oneA oneL.at = false := by
    cases h : takesB oneA oneL.at with
    | false => rfl
    | true =>
      obtain ⟨r, h0, h1, _⟩ := takesB_iff.1 h
      have := h1 0
      simp [oneA, La.at, oneL] at this
  unfold tkB
  rw [h2, Bool.and_false]
theorem one_ta : taErr oneA zeroL = 0 ∧ taErr oneA oneL = 0 := by
  unfold taErr
  rw [if_pos one_ck, if_pos one_ck]
  exact ⟨zero_ck, by decide +kernel⟩
theorem zer_least : lstL zerL 2 = zeroL ∧ ckL zerL 2 = 0 ∧ atL oneL 2 0 = 1 ∧ atE oneL 2 0 = 0 ∧ ckL zeroL 1 = 0 := by
  refine ⟨by decide +kernel, by decide +kernel, by decide +kernel, by decide +kernel, by decide +kernel⟩
end Go.Proofs.Ytoglgeaiiipchaa

namespace Go.Proofs.Ytoglgeaiiipchaa
open Go Go.RowKit Go.Shelf

theorem LeastZer_ (A B : Option Addr) (w : World) (hh : Ints w 0 A 1 [0]) (hl : Ints w 0 B 2 [0, 0]) :
    Calls Try.prog 15 #[.agg #[.slice A 1 1, .slice B 2 2], .int .i64 2] w fun e w' => ∃ A B ca cb, e = .returned (.tuple #[.agg #[.slice A 0 ca, .slice B 1 cb], .int .i64 0]) ∧ Ints w' 0 A ca [] ∧ Ints w' 0 B cb [0] ∧ Below w.heap.size w w' := by
  have := Least_ A B 1 2 zerL 2 w hh hl
  rw [zer_least.1, zer_least.2.1] at this
  refine this.mono ?_
  rintro e w' ⟨A, B, ca, cb, h1, h2, h3, h4⟩
  exact ⟨A, B, ca, cb, h1, h2.zero, h3.zero, h4⟩
theorem zero0_ (w : World) : Calls Try.prog 44 #[] w fun e w' => ∃ A B ca cb, e = .returned (.agg #[.slice A 0 ca, .slice B 1 cb]) ∧ Ints w' 0 A ca [] ∧ Ints w' 0 B cb [0] ∧ Below w.heap.size w w' :=
  (zero_ w).mono fun e w' ⟨A, B, ca, cb, h1, h2, h3, h4⟩ => ⟨A, B, ca, cb, h1, h2.zero, h3.zero, h4⟩
theorem AtOne_ (A B : Option Addr) (w : World) (hh : Ints w 0 A 1 [1]) (hl : Ints w 0 B 1 [0]) :
    Calls Try.prog 16 #[.agg #[.slice A 1 1, .slice B 1 1], .int .i64 2, .int .i64 0] w (IntsPost w 1 0) := by
  have := At_ A B 1 1 oneL 2 0 w hh hl (by decide)
  rwa [zer_least.2.2.1, zer_least.2.2.2.1] at this
theorem TakesOne_ (A B C D E : Option Addr) (ca cb cc cd ce : Nat) (w : World) (hr : AuRd w 0 oneA A B C ca cb cc) (hh : Ints w 0 D cd []) (hl : Ints w 0 E ce [0]) :
    Calls Try.prog 22 #[.agg #[.int .i64 1, .int .i64 2, .slice A 1 ca, .slice B 1 cb, .slice C 1 cc], .agg #[.slice D 0 cd, .slice E 1 ce]] w fun e w' => e = .returned (.tuple #[.bool true, .int .i64 0]) ∧ Below w.heap.size w w' := by
  have := Takes_ oneA A B C D E ca cb cc cd ce zeroL w hr hh hl
  unfold TkPost at this
  rwa [one_zero, one_ta.1] at this
theorem TakesNo_ (A B C D E : Option Addr) (ca cb cc cd ce : Nat) (w : World) (hr : AuRd w 0 oneA A B C ca cb cc) (hh : Ints w 0 D cd [1]) (hl : Ints w 0 E ce [0]) :
    Calls Try.prog 22 #[.agg #[.int .i64 1, .int .i64 2, .slice A 1 ca, .slice B 1 cb, .slice C 1 cc], .agg #[.slice D 1 cd, .slice E 1 ce]] w fun e w' => e = .returned (.tuple #[.bool false, .int .i64 0]) ∧ Below w.heap.size w w' := by
  have := Takes_ oneA A B C D E ca cb cc cd ce oneL w hr hh hl
  unfold TkPost at this
  rwa [one_one, one_ta.2] at this
theorem CheckZero_ (A B : Option Addr) (ca cb : Nat) (w : World) (hh : Ints w 0 A ca []) (hl : Ints w 0 B cb [0]) :
    Calls Try.prog 20 #[.agg #[.slice A 0 ca, .slice B 1 cb], .int .i64 1] w fun e w' => e = .returned (.int .i64 0) ∧ Below w.heap.size w w' := by
  have := wordCheck_ A B ca cb zeroL 1 w hh hl
  rwa [zer_least.2.2.2.2] at this
theorem SameZero_ (A B C D : Option Addr) (ca cb cc cd : Nat) (w : World) (hh : Ints w 0 A ca []) (hl : Ints w 0 B cb [0]) (gh : Ints w 0 C cc []) (gl : Ints w 0 D cd [0]) :
    Calls Try.prog 21 #[.agg #[.slice A 0 ca, .slice B 1 cb], .agg #[.slice C 0 cc, .slice D 1 cd]] w (BoolPost w true) :=
  SameLasso_ A B C D ca cb cc cd zeroL zeroL w hh hl gh gl
theorem ints_one {W : World} {b : Nat} {t : TypeId} {fz : Nat × Nat} {x : Int} (h : W.heap[b]? = some (.cells #[.int .i64 x] t fz)) : Ints W 0 (some ⟨b, 0, none⟩) 1 [x] := ints_lit [x] h (by simp)
theorem ints_two {W : World} {b : Nat} {t : TypeId} {fz : Nat × Nat} {x y : Int} (h : W.heap[b]? = some (.cells #[.int .i64 x, .int .i64 y] t fz)) : Ints W 0 (some ⟨b, 0, none⟩) 2 [x, y] := ints_lit [x, y] h (by simp)
theorem two_blocks (W : World) (o1 o2 : Obj) : ((W.alloc o1).alloc o2).heap[W.heap.size]? = some o1 ∧ ((W.alloc o1).alloc o2).heap[W.heap.size + 1]? = some o2 ∧ Below W.heap.size W ((W.alloc o1).alloc o2) :=
  ⟨by rw [Below.heap_alloc _ _ _ (by simp)]; exact World.alloc_heap_new _ _, by have := World.alloc_heap_new (W.alloc o1) o2; rwa [World.size_alloc] at this, ((Below.refl _ _).alloc (Nat.le_refl _) _).alloc (by simp) _⟩
set_option maxRecDepth 100000 in
set_option maxHeartbeats 2000000 in
theorem wordBegun_ (w : World) : Calls Try.prog 19 #[] w (BoolPost w true) := by
  have H1 := Lib.hid (two_blocks w (Obj.cells #[.int .i64 0] 3) (Obj.cells #[.int .i64 0, .int .i64 0] 3))
  go_enter Try.func19, Try.ntmps19
  go_wp2_with fail
  refine (LeastZer_ _ _ _ (ints_one H1.out.1) (ints_two H1.out.2.1)).mono ?_
  rintro e w1 ⟨LA, LB, lca, lcb, rfl, hlh, hll, hb1⟩
  have hba : Below w1.heap.size w1 (w1.alloc (Obj.cells #[.slice LA 0 lca, .slice LB 1 lcb] 26)) := (Below.refl _ _).alloc (Nat.le_refl _) _
  have HB1 : Hid (Below w.heap.size w (w1.alloc (Obj.cells #[.slice LA 0 lca, .slice LB 1 lcb] 26))) := Below_on (Below_on H1.out.2.2 hb1 H1.out.2.2.size) hba (Nat.le_trans H1.out.2.2.size hb1.size)
  have HLH := Lib.hid (hlh.below hba)
  have HLL := Lib.hid (hll.below hba)
  have HX : Hid ((w1.alloc (Obj.cells #[.slice LA 0 lca, .slice LB 1 lcb] 26)).heap[w1.heap.size]? = some (Obj.cells #[.slice LA 0 lca, .slice LB 1 lcb] 26)) := World.alloc_heap_new _ _
  have H2 := Lib.hid (two_blocks (w1.alloc (Obj.cells #[.slice LA 0 lca, .slice LB 1 lcb] 26)) (Obj.cells #[.int .i64 1] 3) (Obj.cells #[.int .i64 0] 3))
  rw [World.size_alloc] at H2
  clear H1 hb1 hlh hll hba
  go_wp2_with fail
  refine (AtOne_ _ _ _ (ints_one H2.out.1) (ints_one H2.out.2.1)).mono ?_
  rintro e w2 ⟨rfl, hb2⟩
  obtain ⟨X, hX⟩ : ∃ X, X = w1.heap.size := ⟨_, rfl⟩
  rw [← hX] at HX ⊢
  have hXl : X < (w1.alloc (Obj.cells #[.slice LA 0 lca, .slice LB 1 lcb] 26)).heap.size := by simp [hX]
  have hb3 := Below_on (show Below (w1.alloc (Obj.cells #[.slice LA 0 lca, .slice LB 1 lcb] 26)).heap.size _ _ by rw [World.size_alloc]; exact H2.out.2.2) hb2 (by simp)
  have HX2 : Hid (w2.heap[X]? = some (Obj.cells #[.slice LA 0 lca, .slice LB 1 lcb] 26)) := (hb3.block X hXl).trans HX.out
  have HB2 : Hid (Below w.heap.size w w2) := Below_on HB1.out hb3 HB1.out.size
  have HLH2 := Lib.hid (HLH.out.below hb3)
  have HLL2 := Lib.hid (HLL.out.below hb3)
  clear H2 hb2 hb3 HX HLH HLL HB1 hXl hX
  go_wp2_with fail
  refine (one0_ w2).mono ?_
  rintro e w3 ⟨A3, B3, C3, ca3, cb3, cc3, rfl, hr3, hb3⟩
  have HB3 := Lib.hid hb3
  have HR3 := Lib.hid hr3
  clear hb3 hr3
  go_wp2_with fail
  refine (zero0_ w3).mono ?_
  rintro e w4 ⟨D4, E4, cd4, ce4, rfl, hh4, hl4, hb4⟩
  have HB4 := Lib.hid (Below_on HB3.out hb4 HB3.out.size)
  have HR4 := Lib.hid (HR3.out.below hb4)
  have HH4 := Lib.hid hh4
  have HL4 := Lib.hid hl4
  clear hb4 hh4 hl4 HR3 HB3
  go_wp2_with fail
  refine (TakesOne_ A3 B3 C3 D4 E4 ca3 cb3 cc3 cd4 ce4 w4 HR4.out HH4.out HL4.out).mono ?_
  rintro e w5 ⟨rfl, hb5⟩
  have HB5 := Lib.hid (Below_on HB4.out hb5 HB4.out.size)
  clear hb5 HH4 HL4 HR4 HB4
  go_wp2_with fail
  refine (one0_ w5).mono ?_
  rintro e w6 ⟨A6, B6, C6, ca6, cb6, cc6, rfl, hr6, hb6⟩
  have HB6 := Lib.hid (Below_on HB5.out hb6 HB5.out.size)
  have HR6 := Lib.hid hr6
  have H6 := Lib.hid (two_blocks w6 (Obj.cells #[.int .i64 1] 3) (Obj.cells #[.int .i64 0] 3))
  clear hb6 hr6 HB5
  go_wp2_with fail
  refine (TakesNo_ A6 B6 C6 _ _ ca6 cb6 cc6 1 1 _ (HR6.out.below H6.out.2.2) (ints_one H6.out.1) (ints_one H6.out.2.1)).mono ?_
  rintro e w7 ⟨rfl, hb7⟩
  have HB7 : Hid (Below w2.heap.size w2 w7) := Below_on (Below_on HB6.out H6.out.2.2 HB6.out.size) hb7 (Nat.le_trans HB6.out.size H6.out.2.2.size)
  clear H6 hb7 HB6 HR6
  have hX2l : X < w2.heap.size := (Array.getElem?_eq_some_iff.1 HX2.out).1
  have HX7 : Hid (w7.heap[X]? = some (Obj.cells #[.slice LA 0 lca, .slice LB 1 lcb] 26)) := (HB7.out.block X hX2l).trans HX2.out
  have HLH7 := Lib.hid (HLH2.out.below HB7.out)
  have HLL7 := Lib.hid (HLL2.out.below HB7.out)
  have HW7 : Hid (Below w.heap.size w w7) := Below_on HB2.out HB7.out HB2.out.size
  clear HX2 HLH2 HLL2 HB7 HB2 hX2l
  go_wp2_with fail
  have HBX : Hid (∀ W, Below w7.heap.size w7 W → W.cell? ⟨X, 0, none⟩ = some (.slice LA 0 lca) ∧ W.cell? ⟨X, 1, none⟩ = some (.slice LB 1 lcb)) := by
    intro W hW
    have hl : X < w7.heap.size := (Array.getElem?_eq_some_iff.1 HX7.out).1
    have h7 := (hW.block X hl).trans HX7.out
    exact ⟨by simp [World.cell?, h7], by simp [World.cell?, h7]⟩
  obtain ⟨x0, x1⟩ := HBX.out w7 (Below.refl _ _)
  have hw7 : w7.heap.size ≤ w7.heap.size := Nat.le_refl _
  go_region_held3 (fun w' => w'.cell? ⟨X, 0, none⟩ = some (.slice LA 0 lca) ∧ w'.cell? ⟨X, 1, none⟩ = some (.slice LB 1 lcb))
    (first | go_keep | exact ⟨q0, q1⟩)
    (first
      | (go_at_call 21; refine (SameZero_ LA LB _ _ lca lcb _ _ _ (HLH7.out.below HBC.out) (HLL7.out.below HBC.out) HHC.out HLC.out).mono ?_; rintro e wd ⟨rfl, hbd⟩; have HBD := Lib.hid (Below_on HBC.out hbd HBC.out.size); have q0 := (HBX.out _ HBD.out).1; have q1 := (HBX.out _ HBD.out).2)
      | (go_at_call 44; refine (zero0_ _).mono ?_; rintro e wc ⟨Dc, Ec, cdc, cec, rfl, hhc, hlc, hbc⟩; have HBC := Lib.hid (Below_on HBB.out hbc HBB.out.size); have HHC := Lib.hid hhc; have HLC := Lib.hid hlc; have q0 := (HBX.out _ HBC.out).1; have q1 := (HBX.out _ HBC.out).2)
      | (go_at_call 20; refine (CheckZero_ _ _ _ _ _ HHA.out HLA.out).mono ?_; rintro e wb ⟨rfl, hbb⟩; have HBB := Lib.hid (Below_on HBA.out hbb HBA.out.size); have q0 := (HBX.out _ HBB.out).1; have q1 := (HBX.out _ HBB.out).2)
      | (go_at_call 44; refine (zero0_ _).mono ?_; rintro e wa ⟨Da, Ea, cda, cea, rfl, hha, hla, hba⟩; have HBA := Lib.hid (Below_on ((Below.refl _ w7).drew) hba hw7); have HHA := Lib.hid hha; have HLA := Lib.hid hla; have q0 := (HBX.out _ HBA.out).1; have q1 := (HBX.out _ HBA.out).2))
  all_goals
    have HP : Hid (BoolPost w true (.returned (.bool true)) wd) := ⟨rfl, Below_on HW7.out HBD.out HW7.out.size⟩
    clear q0 q1 x0 x1 hba hbb hbc hbd HBX hhc hlc hha hla
    go_wp2_with fail
    go_ret
    exact HP.out
end Go.Proofs.Ytoglgeaiiipchaa

namespace Go.Proofs.Ytoglgeaiiipchaa
open Go Go.RowKit Go.Maps

theorem letters_bad {n : Int} (hn : 0 ≤ n) {xs : List Int} : anyB (badL n) xs = false ↔ LtrIn n.toNat xs := by
  unfold anyB LtrIn
  rw [List.any_eq_false]
  constructor
  · intro h c hc
    have := h c hc
    unfold badL at this
    simp at this
    omega
  · intro h c hc hb
    have := h c hc
    unfold badL at hb
    simp at hb
    omega
theorem ckL_letters {l : La} {n : Int} (h : ckL l n = 0) : LtrIn n.toNat l.h ∧ LtrIn n.toNat l.l ∧ 0 < l.l.length := by
  by_cases h1 : n < 1 ∨ 8 < n
  · rw [ckL_3 h1] at h; cases h
  · by_cases h2 : 4000 < (l.h.length : Int) ∨ 4000 < (l.l.length : Int)
    · rw [ckL_2 h1 h2] at h; cases h
    · by_cases h3 : l.l.length = 0
      · rw [ckL_1 h1 h2 h3] at h; cases h
      · rw [ckL_x h1 h2 h3] at h
        cases ha : anyB (badL n) l.h with
        | true => rw [ha] at h; simp at h
        | false =>
          cases hb : anyB (badL n) l.l with
          | true => rw [ha, hb] at h; simp at h
          | false => exact ⟨(letters_bad (by omega)).1 ha, (letters_bad (by omega)).1 hb, by omega⟩
theorem letters_ckL {l : La} {n : Int} (hn : 1 ≤ n ∧ n ≤ 8) (h1 : LtrIn n.toNat l.h) (h2 : LtrIn n.toNat l.l) (h3 : 0 < l.l.length) (h4 : l.h.length ≤ 4000) (h5 : l.l.length ≤ 4000) : ckL l n = 0 := by
  rw [ckL_x (by omega) (by omega) (by omega), (letters_bad (by omega)).2 h1, (letters_bad (by omega)).2 h2]
  rfl
theorem inc_err {a b : Au} (h : rdErrI a b = 0) (l : La) : taErr b l = taErr a l ∧ taErr a l = ckL l a.le := by
  obtain ⟨h1, h2, h3, _⟩ := rdI_zero h
  unfold taErr
  rw [if_pos h1, if_pos h2, h3]
  exact ⟨rfl, rfl⟩
theorem inc_false {a b : Au} (h : rdErrI a b = 0) (hn : ¬ Apart a b) (l : La) : tkB a l = true → tkB b l = true := by
  obtain ⟨h1, h2⟩ := inc_err h l
  unfold tkB
  rw [h1]
  intro ht
  have hz : taErr a l = 0 := by
    have := (Bool.and_eq_true_iff.1 ht).1
    simpa using this
  have hta : TakesU a l.at := takesB_iff.1 (Bool.and_eq_true_iff.1 ht).2
  rw [hz] at h2 ⊢
  obtain ⟨k1, k2, k3⟩ := ckL_letters h2.symm
  have htb : TakesU b l.at := Classical.byContradiction fun hb => hn ⟨l, k3, k1, k2, hta, hb⟩
  rw [takesB_iff.2 htb]
  rfl
theorem inc_true {a b : Au} {l : La} (h : rdErrI a b = 0) (hA : ApIs a b true l) : ckL l a.le = 0 ∧ taErr a l = 0 ∧ taErr b l = 0 ∧ tkB a l = true ∧ tkB b l = false := by
  obtain ⟨h1, h2⟩ := inc_err h l
  obtain ⟨k1, k2, k3, k4, k5, k6, k7⟩ := hA.some_ rfl
  obtain ⟨oa, _⟩ := ckA_zero.1 (rdI_zero h).1
  have hc : ckL l a.le = 0 := letters_ckL ⟨by have := oa.le1; omega, by have := oa.le2; omega⟩ k4 k5 k3 k6 k7
  rw [hc] at h2
  rw [h2] at h1
  refine ⟨hc, h2, h1, ?_, ?_⟩
  · unfold tkB
    rw [h2, takesB_iff.2 k1]
    rfl
  · unfold tkB
    cases hb : takesB b l.at with
    | true => exact absurd (takesB_iff.1 hb) k2
    | false => rw [Bool.and_false]
end Go.Proofs.Ytoglgeaiiipchaa

namespace Go.Proofs.Ytoglgeaiiipchaa
open Go Go.RowKit Go.Maps

/-- takes nothing -/
def nonI : Au := ⟨1, 2, [], [false], []⟩
theorem nonI_takes (u : Nat → Int) : ¬ TakesU nonI u := fun ⟨r, h0, _, _⟩ => by simp [nonI] at h0
theorem onI_takes : TakesU oneA zeroL.at := by
  have h := one_zero
  unfold tkB at h
  rw [one_ta.1] at h
  exact takesB_iff.1 (by simpa using h)
theorem rd_no : rdErrI nonI oneA = 0 := by decide +kernel
theorem rd_on : rdErrI oneA nonI = 0 := by decide +kernel
theorem rd_oo : rdErrI oneA oneA = 0 := by decide +kernel
theorem apart_on : Apart oneA nonI := by
  refine ⟨zeroL, by decide, fun c hc => ?_, fun c hc => ?_, onI_takes, nonI_takes _⟩
  · simp [zeroL] at hc
  · have : c = 0 := by simpa [zeroL] using hc
    subst this
    decide
def nonW (w : World) : World := (w.alloc (Obj.cells #[.int .i64 1, .int .i64 2, .slice none 0 0, .slice (some ⟨w.heap.size + 1, 0, none⟩) 1 1, .slice none 0 0] 49)).alloc (Obj.cells #[.bool false] 4)
theorem nonW_is (w : World) : AuRd (nonW w) w.heap.size nonI none (some ⟨w.heap.size + 1, 0, none⟩) none 0 1 0 ∧ Below w.heap.size w (nonW w) := by
  refine ⟨⟨⟨by decide, by omega, by decide, Rd.nil⟩, ?_, ⟨by decide, by omega, by decide, Rd.nil⟩⟩, by unfold nonW; go_grown⟩
  refine ⟨by decide, by omega, by decide, fun _ => ⟨_, 0, rfl, by omega, by unfold nonW; simp, fun j u hu => ?_⟩⟩
  match j, hu with
  | 0, hu => simp [nonI] at hu; subst hu; unfold nonW; go_simp
  | j + 1, hu => simp [nonI] at hu
set_option maxRecDepth 100000 in
theorem non0_ (w : World) : Calls Try.prog 57 #[] w fun e w' => ∃ A B C ca cb cc, e = .returned (.agg #[.int .i64 1, .int .i64 2, .slice A 0 ca, .slice B 1 cb, .slice C 0 cc]) ∧ AuRd w' 0 nonI A B C ca cb cc ∧ Below w.heap.size w w' := by
  have HP : Hid (∃ A B C ca cb cc, Ending.returned (.agg #[.int .i64 1, .int .i64 2, .slice none 0 0, .slice (some ⟨w.heap.size + 1, 0, none⟩) 1 1, .slice none 0 0]) = .returned (.agg #[.int .i64 1, .int .i64 2, .slice A 0 ca, .slice B 1 cb, .slice C 0 cc]) ∧ AuRd (nonW w) 0 nonI A B C ca cb cc ∧ Below w.heap.size w (nonW w)) :=
    ⟨_, _, _, _, _, _, rfl, (nonW_is w).1.low (Nat.zero_le _), (nonW_is w).2⟩
  go_enter Try.func57, Try.ntmps57
  go_wp2_with fail
  exact bodyPost_ret (by simp [results, Try.results57, go_sem]) rfl HP.out
theorem IncNo_ (A B C D E F : Option Addr) (ca cb cc cd ce cf : Nat) (w : World) (ha : AuRd w 0 nonI A B C ca cb cc) (hb : AuRd w 0 oneA D E F cd ce cf) :
    Calls Try.prog 25 #[.agg #[.int .i64 1, .int .i64 2, .slice A 0 ca, .slice B 1 cb, .slice C 0 cc], .agg #[.int .i64 1, .int .i64 2, .slice D 1 cd, .slice E 1 ce, .slice F 1 cf]] w fun e w' => ∃ (H L : Option Addr) (ch cl hn ln : Nat), e = .returned (.tuple #[.bool true, .agg #[.slice H hn ch, .slice L ln cl], .int .i64 0]) ∧ Below w.heap.size w w' := by
  refine (Included_ nonI oneA A B C D E F ca cb cc cd ce cf w ha hb).mono ?_
  rintro e w' ⟨⟨found, ok, best, H, L, ch, cl, rfl, _, _, hif⟩, hbw⟩
  rw [rd_no, if_pos rfl] at *
  obtain ⟨rfl, hA⟩ := hif
  cases found with
  | true => exact absurd (hA.some_ rfl).1 (nonI_takes _)
  | false => exact ⟨H, L, ch, cl, _, _, rfl, hbw⟩
theorem IncOn_ (A B C D E F : Option Addr) (ca cb cc cd ce cf : Nat) (w : World) (ha : AuRd w 0 oneA A B C ca cb cc) (hb : AuRd w 0 nonI D E F cd ce cf) :
    Calls Try.prog 25 #[.agg #[.int .i64 1, .int .i64 2, .slice A 1 ca, .slice B 1 cb, .slice C 1 cc], .agg #[.int .i64 1, .int .i64 2, .slice D 0 cd, .slice E 1 ce, .slice F 0 cf]] w fun e w' => ∃ (H L : Option Addr) (ch cl hn ln : Nat), e = .returned (.tuple #[.bool false, .agg #[.slice H hn ch, .slice L ln cl], .int .i64 0]) ∧ 0 < ln ∧ Below w.heap.size w w' := by
  refine (Included_ oneA nonI A B C D E F ca cb cc cd ce cf w ha hb).mono ?_
  rintro e w' ⟨⟨found, ok, best, H, L, ch, cl, rfl, _, _, hif⟩, hbw⟩
  rw [rd_on, if_pos rfl] at *
  obtain ⟨rfl, hA⟩ := hif
  obtain rfl := hA.iff_.2 apart_on
  exact ⟨H, L, ch, cl, _, _, rfl, (hA.some_ rfl).2.2.1, hbw⟩
theorem SameOo_ (A B C D E F : Option Addr) (ca cb cc cd ce cf : Nat) (w : World) (ha : AuRd w 0 oneA A B C ca cb cc) (hb : AuRd w 0 oneA D E F cd ce cf) :
    Calls Try.prog 27 #[.agg #[.int .i64 1, .int .i64 2, .slice A 1 ca, .slice B 1 cb, .slice C 1 cc], .agg #[.int .i64 1, .int .i64 2, .slice D 1 cd, .slice E 1 ce, .slice F 1 cf]] w fun e w' => e = .returned (.tuple #[.bool true, .int .i64 0]) ∧ Below w.heap.size w w' := by
  refine (Same_ oneA oneA A B C D E F ca cb cc cd ce cf w ha hb).mono ?_
  rintro e w' ⟨⟨same, rfl, hif⟩, hbw⟩
  rw [rd_oo, if_pos rfl] at *
  have hn : ¬ Apart oneA oneA := fun ⟨l, _, _, _, h1, h2⟩ => h2 h1
  obtain rfl := hif.2 ⟨hn, hn⟩
  exact ⟨rfl, hbw⟩
set_option maxRecDepth 100000 in
set_option maxHeartbeats 4000000 in
theorem includeBegun_ (w : World) : Calls Try.prog 26 #[] w (BoolPost w true) := by
  go_enter Try.func26, Try.ntmps26
  go_wp2_with fail
  refine (non0_ _).mono ?_
  rintro e w1 ⟨A1, B1, C1, ca1, cb1, cc1, rfl, hr1, hb1⟩
  have HR1 := Lib.hid hr1
  have HB1 := Lib.hid hb1
  clear hr1 hb1
  go_wp2_with fail
  refine (one0_ _).mono ?_
  rintro e w2 ⟨A2, B2, C2, ca2, cb2, cc2, rfl, hr2, hb2⟩
  have HR1' := Lib.hid (HR1.out.below hb2)
  have HR2 := Lib.hid hr2
  have HB2 := Lib.hid (Below_on HB1.out hb2 HB1.out.size)
  clear hr2 hb2 HR1 HB1
  go_wp2_with fail
  refine (IncNo_ _ _ _ _ _ _ _ _ _ _ _ _ _ HR1'.out HR2.out).mono ?_
  rintro e w3 ⟨H3, L3, ch3, cl3, hn3, ln3, rfl, hb3⟩
  have hba : Below w3.heap.size w3 (w3.alloc (Obj.cells #[.slice H3 hn3 ch3, .slice L3 ln3 cl3] 26)) := (Below.refl _ _).alloc (Nat.le_refl _) _
  have HB4 := Lib.hid (Below_on (Below_on HB2.out hb3 HB2.out.size) hba (Nat.le_trans HB2.out.size hb3.size))
  clear hb3 hba HR1' HR2 HB2
  go_upto_region 2 with fail
  generalize w3.alloc (Obj.cells #[.slice H3 hn3 ch3, .slice L3 ln3 cl3] 26) = W4 at *
  go_wp2_with fail
  refine (one0_ _).mono ?_
  rintro e w5 ⟨A5, B5, C5, ca5, cb5, cc5, rfl, hr5, hb5⟩
  have HR5 := Lib.hid hr5
  have HB5 := Lib.hid (Below_on HB4.out hb5 HB4.out.size)
  clear hr5 hb5 HB4
  go_wp2_with fail
  refine (non0_ _).mono ?_
  rintro e w6 ⟨A6, B6, C6, ca6, cb6, cc6, rfl, hr6, hb6⟩
  have HR5' := Lib.hid (HR5.out.below hb6)
  have HR6 := Lib.hid hr6
  have HB6 := Lib.hid (Below_on HB5.out hb6 HB5.out.size)
  clear hr6 hb6 HR5 HB5
  go_wp2_with fail
  refine (IncOn_ _ _ _ _ _ _ _ _ _ _ _ _ _ HR5'.out HR6.out).mono ?_
  rintro e w7 ⟨H7, L7, ch7, cl7, hn7, ln7, rfl, hl7, hb7⟩
  have hba : Below w7.heap.size w7 (w7.alloc (Obj.cells #[.slice H7 hn7 ch7, .slice L7 ln7 cl7] 26)) := (Below.refl _ _).alloc (Nat.le_refl _) _
  have HZ := Lib.hid (allocNew w7 (Obj.cells #[.slice H7 hn7 ch7, .slice L7 ln7 cl7] 26))
  have HB8 := Lib.hid (Below_on (Below_on HB6.out hb7 HB6.out.size) hba (Nat.le_trans HB6.out.size hb7.size))
  have HL7 := Lib.hid hl7
  clear hb7 hba HR5' HR6 HB6 hl7
  go_upto_region 3 with fail
  obtain ⟨Z, hZ⟩ : ∃ Z, Z = w7.heap.size := ⟨_, rfl⟩
  rw [← hZ] at HZ ⊢
  clear hZ
  generalize w7.alloc (Obj.cells #[.slice H7 hn7 ch7, .slice L7 ln7 cl7] 26) = W8 at *
  go_wp2_with fail
  refine (one0_ _).mono ?_
  rintro e w9 ⟨A9, B9, C9, ca9, cb9, cc9, rfl, hr9, hb9⟩
  have HR9 := Lib.hid hr9
  have HB9 := Lib.hid (Below_on HB8.out hb9 HB8.out.size)
  have HZ9 : Hid (w9.heap[Z]? = _) := (hb9.block Z (Array.getElem?_eq_some_iff.1 HZ.out).1).trans HZ.out
  clear hr9 hb9 HB8 HZ
  go_wp2_with fail
  refine (one0_ _).mono ?_
  rintro e w10 ⟨A10, B10, C10, ca10, cb10, cc10, rfl, hr10, hb10⟩
  have HR9' := Lib.hid (HR9.out.below hb10)
  have HR10 := Lib.hid hr10
  have HB10 := Lib.hid (Below_on HB9.out hb10 HB9.out.size)
  have HZ10 : Hid (w10.heap[Z]? = _) := (hb10.block Z (Array.getElem?_eq_some_iff.1 HZ9.out).1).trans HZ9.out
  clear hr10 hb10 HR9 HB9 HZ9
  go_wp2_with fail
  refine (SameOo_ _ _ _ _ _ _ _ _ _ _ _ _ _ HR9'.out HR10.out).mono ?_
  rintro e w11 ⟨rfl, hb11⟩
  have HP : Hid (BoolPost w true (.returned (.bool (decide (0 < ln7)))) w11) := ⟨by rw [decide_eq_true HL7.out], Below_on HB10.out hb11 HB10.out.size⟩
  obtain ⟨z0, z1, _, _⟩ := la_cell2 ((hb11.block Z (Array.getElem?_eq_some_iff.1 HZ10.out).1).trans HZ10.out)
  clear hb11 HL7 HZ10 HR9' HR10 HB10
  go_wp2_with fail
  go_ret
  exact HP.out
end Go.Proofs.Ytoglgeaiiipchaa

namespace Go.Proofs.Ytoglgeaiiipchaa
open Go Go.RowKit

theorem NamesA_ (k : Int) (w : World) : Calls Try.prog 37 #[.int .i64 k] w fun e w' => e = .returned (.bool (nmA k)) ∧ w = w' := by
  go_enter Try.func37, Try.ntmps37
  go_wp2_with (go_at_call 36; refine (between_ _ _ _ _).mono ?_; rintro e w' ⟨rfl, rfl⟩)
  go_ret
  exact ⟨rfl, rfl⟩
theorem NamesB_ (k : Int) (w : World) : Calls Try.prog 38 #[.int .i64 k] w fun e w' => e = .returned (.bool (nmB k)) ∧ w = w' := by
  go_enter Try.func38, Try.ntmps38
  go_wp2
  all_goals (go_ret; exact ⟨ret_bool (by simp_all [nmB]), rfl⟩)
theorem TooMany_ (A : Option Addr) (c : Nat) (f : List Nd) (w : World) (hf : Nds w 0 A c f) :
    Calls Try.prog 35 #[.slice A f.length c] w fun e w' => e = .returned (.bool (tooMany f)) ∧ Below w.heap.size w w' := by
  have hle := hf.le
  have hmx := hf.max
  go_enter Try.func35, Try.ntmps35
  go_wp2
  go_loopw [3, 4] (fun n i wr => ∃ k : Nat, k ≤ f.length ∧ i = .int .i64 k ∧ n = .int .i64 (cntT (f.take k)) ∧ Below w.heap.size w wr) (fun _ i _ => f.length - (intOf i).toNat)
  case atStart => exact ⟨0, Nat.zero_le _, rfl, rfl, Below.refl _ _⟩
  case round =>
    obtain ⟨k, hk, rfl, rfl, hb⟩ := hrel
    have hct := cntT_le f k
    by_cases hlt : k < f.length
    · obtain ⟨b, o, rfl, _, _, hc1, hc2, hc3, hc4⟩ := Nds.at_ (hf.below hb) hlt
      have hs := cntT_take hlt
      have HS := Lib.hid hs
      clear hs
      go_wp2_with (go_at_call 36; refine (between_ _ _ _ _).mono ?_; rintro e w' ⟨rfl, rfl⟩)
      · have ht : isTmp f[k].k = true := by assumption
        go_roundw
        case rel => exact ⟨k + 1, by omega, by go_num, by rw [HS.out, if_pos ht]; go_num, hb⟩
        case measure => simp [intOf]; omega
      · have ht : isTmp f[k].k = false := by assumption
        go_roundw
        case rel => exact ⟨k + 1, by omega, by go_num, by rw [HS.out, if_neg (by simp [ht])]; go_num, hb⟩
        case measure => simp [intOf]; omega
    · have hall : f.take k = f := List.take_of_length_le (by omega)
      have HA := Lib.hid hall
      clear hall
      go_wp2
      all_goals (go_ret; refine ⟨ret_bool ?_, hb⟩; have ha := HA.out; (try rw [ha]); unfold tooMany)
      · rfl
      · rw [decide_eq_true (by assumption)]; rfl

set_option maxRecDepth 100000 in
set_option maxHeartbeats 4000000 in
theorem CheckFormula_ (A : Option Addr) (c : Nat) (f : List Nd) (w : World) (hf : Nds w 0 A c f) :
    Calls Try.prog 11 #[.slice A f.length c] w fun e w' => e = .returned (.int .i64 (ckF f)) ∧ Below w.heap.size w w' := by
  have hle := hf.le
  have hmx := hf.max
  by_cases h0 : f.length = 0
  · have h0' : ((f.length : Int) == 0) = true := by simp [h0]
    go_enter Try.func11, Try.ntmps11
    have H0 := Lib.hid h0
    clear h0
    go_wp2
    go_ret
    exact ⟨ret_int (by rw [ckF, if_pos H0.out]), Below.refl _ _⟩
  · have h0' : ((f.length : Int) == 0) = false := by simpa using h0
    by_cases hm : tooMany f = true
    · go_enter Try.func11, Try.ntmps11
      go_wp2_with (go_at_call 35; refine (TooMany_ _ _ _ _ hf).mono ?_; rintro e w1 ⟨rfl, hb1⟩)
      go_ret
      exact ⟨ret_int (by rw [ckF, if_neg h0, if_pos hm]), hb1⟩
    · have hm' : tooMany f = false := by simpa using hm
      have hfin : ckF f = ckNds (f.drop 0) 0 := by rw [ckF, if_neg h0, if_neg hm]; rfl
      have HF := Lib.hid hfin
      clear hfin hm
      go_enter Try.func11, Try.ntmps11
      go_wp2_with (go_at_call 35; refine (TooMany_ _ _ _ _ hf).mono ?_; rintro e w1 ⟨rfl, hb1⟩)
      go_loopw [3] (fun i wr => ∃ k : Nat, k ≤ f.length ∧ i = .int .i64 k ∧ ckF f = ckNds (f.drop k) k ∧ Below w.heap.size w wr) (fun i _ => f.length - (intOf i).toNat)
      case atStart => exact ⟨0, Nat.zero_le _, rfl, HF.out, hb1⟩
      case round =>
        obtain ⟨k, hk, rfl, hc, hb⟩ := hrel
        have HC := Lib.hid hc
        clear hc
        by_cases hlt : k < f.length
        · obtain ⟨b, o, rfl, _, hbl, hc1, hc2, hc3, hc4⟩ := Nds.at_ (hf.below hb) hlt
          have hst := ckNds_step hlt
          have HS := Lib.hid hst
          clear hst
          go_wp2_with (first | (go_at_call 36; refine (between_ _ _ _ _).mono ?_; rintro e w' ⟨rfl, rfl⟩) | (go_at_call 37; refine (NamesA_ _ _).mono ?_; rintro e w' ⟨rfl, rfl⟩) | (go_at_call 38; refine (NamesB_ _ _).mono ?_; rintro e w' ⟨rfl, rfl⟩))
          all_goals first
            | (go_ret; refine ⟨ret_int ?_, hb.alloc hb.size _⟩; go_tidy; rw [HC.out, HS.out]; simp_all [ndErr, nmN])
            | (go_roundw
               case rel => exact ⟨k + 1, by omega, by go_num, by go_tidy; rw [HC.out, HS.out, if_pos (by simp_all [ndErr, nmN])], hb.alloc hb.size _⟩
               case measure => simp [intOf]; omega)
        · go_wp2
          go_ret
          exact ⟨ret_int (by rw [HC.out, ckNds_end (by omega)]), hb⟩
end Go.Proofs.Ytoglgeaiiipchaa
