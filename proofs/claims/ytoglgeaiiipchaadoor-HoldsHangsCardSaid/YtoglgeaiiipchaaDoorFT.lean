/- Walks: the laws FormulaTells and FormulaParses. -/
import Derived.Test.YtoglgeaiiipchaaDoorFB
namespace Go.Proofs.YtoglgeaiiipchaaDoor
open Go Go.RowKit Go.Sort

theorem SameSelf_ (A B : Option Addr) (ca cb : Nat) (f : List Nd) (w : World) (hf : Nds w 0 A ca f) (hg : Nds w 0 B cb f) :
    Calls Tryd.prog 14 #[.slice A f.length ca, .slice B f.length cb] w fun e w' => e = .returned (.bool true) ∧ Below w.heap.size w w' := by
  have := SameFormula_ A B ca cb f f w hf hg
  rwa [show decide (f = f) = true by simp] at this
set_option maxRecDepth 100000 in
set_option maxHeartbeats 2000000 in
theorem FormulaParses_ (s : List UInt8) (w : World) : Calls Tryd.prog 4 #[.string (sb s)] w (FbPost w) := by
  have HP := Lib.hid (Parse_ s (sb s) (sb_size s) (sb_get s) w)
  have HRF := Lib.hid (fun W => ReadFormula_ s (sb s) (sb_size s) (sb_get s) W)
  generalize readV s = r at *
  generalize sb s = S at *
  obtain ⟨o, a, b⟩ := r
  go_enter Tryd.func4, Tryd.ntmps4
  go_wp2_with fail
  refine HP.out.mono ?_
  rintro e w1 ⟨A1, c1, rfl, hn1, hb1⟩
  have HB1 := Lib.hid hb1
  have HN1 := Lib.hid hn1
  have HC1 := Lib.hid (HRF.out w1)
  clear hb1 hn1 HP HRF
  simp only
  go_wp2_with fail
  refine HC1.out.mono ?_
  rintro e w2 ⟨A2, c2, rfl, hn2, hb2⟩
  have HB2 := Lib.hid (Below_on HB1.out hb2 HB1.out.size)
  have HN12 := Lib.hid (HN1.out.below hb2)
  have HN2 := Lib.hid hn2
  clear hb2 hn2 HC1
  simp only
  go_wp2_with fail
  refine (formulaBegun_ w2).mono ?_
  rintro e w3 ⟨rfl, hb3⟩
  have HB3 := Lib.hid (Below_on HB2.out hb3 HB2.out.size)
  have HS3 := Lib.hid (SameSelf_ A1 A2 c1 c2 o w3 (HN12.out.below hb3).zero (HN2.out.below hb3).zero)
  clear hb3
  go_wp2_with fail
  refine HS3.out.mono ?_
  rintro e w4 ⟨rfl, hb4⟩
  have HB4 := Lib.hid (Below_on HB3.out hb4 HB3.out.size)
  clear hb4 HS3
  go_wp2_with fail
  go_ret
  exact ⟨rfl, HB4.out⟩
set_option maxRecDepth 100000 in
set_option maxHeartbeats 2000000 in
theorem FormulaTells_ (F : Option Addr) (fc : Nat) (f : List Nd) (w : World) (hf : Nds w 0 F fc f) : Calls Tryd.prog 3 #[.slice F f.length fc] w (FbPost w) := by
  have HF := Lib.hid hf
  have hle := hf.le
  have hcp := hf.cap
  have HC0 := Lib.hid (Print_ F fc f w hf)
  clear hf
  go_enter Tryd.func3, Tryd.ntmps3
  go_wp2_with fail
  refine HC0.out.mono ?_
  rintro e w1 ⟨rfl, hb1⟩
  have HB1 := Lib.hid hb1
  have HC1 := Lib.hid (Negate_ F fc f w1 (HF.out.below hb1))
  clear hb1 HC0
  go_wp2_with fail
  refine HC1.out.mono ?_
  rintro e w2 ⟨A2, c2, rfl, hn2, hb2⟩
  have HB2 := Lib.hid (Below_on HB1.out hb2 HB1.out.size)
  have HN2 := Lib.hid hn2
  have HC2 := Lib.hid (CheckFormula_ F fc f w2 (HF.out.below HB2.out))
  clear hb2 hn2 HC1
  go_wp2_with fail
  refine HC2.out.mono ?_
  rintro e w3 ⟨rfl, hb3⟩
  have HB3 := Lib.hid (Below_on HB2.out hb3 HB2.out.size)
  have HN3 := Lib.hid (HN2.out.below hb3)
  clear hb3 HC2 HN2
  by_cases hc : ckF f = 0
  · have ho := ckF_zero.1 hc
    have hn := ho.pos
    have hlt : f.length - 1 < f.length := by omega
    have HPV : Hid (printV f = (treeAt f (f.length - 1)).show) := by unfold Hid printV; rw [if_pos hc]
    have HC3 : Hid (Calls Tryd.prog 10 #[.slice F f.length fc, .int .i64 ((f.length : Int) - 1)] w3 fun e w' => e = .returned (.string (sb (printV f))) ∧ Below w3.heap.size w3 w') := by
      have := ShowOf_ f F fc w HF.out ho (f.length - 1) hlt w3 HB3.out
      rw [← HPV.out] at this
      rwa [show ((f.length - 1 : Nat) : Int) = (f.length : Int) - 1 by omega] at this
    have HNO := Lib.hid (fun W hW => NegateOf_ F fc f W hW hc)
    have e2 : (ckF f == 0) = true := by simp [hc]
    rw [hc]
    have HCC := Lib.hid hc
    clear hc ho hn HPV
    go_wp2_with fail
    refine HC3.out.mono ?_
    rintro e w4 ⟨rfl, hb4⟩
    have HB4 := Lib.hid (Below_on HB3.out hb4 HB3.out.size)
    have HN4 := Lib.hid (HN3.out.below hb4)
    have HC4 := Lib.hid (HNO.out w4 (HF.out.below HB4.out))
    clear hb4 HC3 HNO HN3
    go_wp2_with fail
    refine HC4.out.mono ?_
    rintro e w5 ⟨A5, c5, rfl, hn5, hb5⟩
    have HB5 := Lib.hid (Below_on HB4.out hb5 HB4.out.size)
    have HN5 := Lib.hid (HN4.out.below hb5)
    have HM5 := Lib.hid hn5
    clear hb5 hn5 HC4 HN4
    go_wp2_with fail
    refine (formulaBegun_ w5).mono ?_
    rintro e w6 ⟨rfl, hb6⟩
    have HB6 := Lib.hid (Below_on HB5.out hb6 HB5.out.size)
    have HN6 := Lib.hid (HN5.out.below hb6)
    have HM6 := Lib.hid (HM5.out.below hb6)
    have HC6 := Lib.hid (formulaCheck_ F fc f w6 (HF.out.below HB6.out))
    rw [HCC.out] at HC6
    clear hb6 HN5 HM5
    go_wp2_with fail
    refine HC6.out.mono ?_
    rintro e w7 ⟨rfl, hb7⟩
    have HB7 := Lib.hid (Below_on HB6.out hb7 HB6.out.size)
    have HC7 := Lib.hid (SameSelf_ A2 A5 c2 c5 (negF f) w7 (HN6.out.below hb7).zero (HM6.out.below hb7).zero)
    clear hb7 HC6 e2
    generalize negF f = nf at *
    generalize negE f = ne at *
    generalize printV f = pf at *
    go_wp2_with fail
    refine HC7.out.mono ?_
    rintro e w8 ⟨rfl, hb8⟩
    have HB8 := Lib.hid (Below_on HB7.out hb8 HB7.out.size)
    clear hb8 HC7
    go_wp2_with fail
    go_ret
    exact ⟨rfl, HB8.out⟩
  · have HPV : Hid (printV f = []) := by unfold Hid printV; rw [if_neg hc]
    have HNV : Hid (negF f = []) := by unfold Hid negF; rw [if_neg hc]
    have HEV : Hid (negE f = ckF f) := by unfold Hid negE; rw [if_neg hc]
    have e2 : (ckF f == 0) = false := by simp [hc]
    rw [HPV.out, HNV.out, HEV.out]
    have HN3' : Hid (Nds w3 w1.heap.size A2 c2 []) := by have := HN3.out; rwa [HNV.out] at this
    have hs0 : sb [] = ⟨#[]⟩ := rfl
    rw [hs0]
    clear hc HN3 HPV HNV HEV hs0
    go_wp2_with fail
    refine (formulaBegun_ w3).mono ?_
    rintro e w6 ⟨rfl, hb6⟩
    have HB6 := Lib.hid (Below_on HB3.out hb6 HB3.out.size)
    have HN6 := Lib.hid (HN3'.out.below hb6)
    have HC6 := Lib.hid (formulaCheck_ F fc f w6 (HF.out.below HB6.out))
    clear hb6 HN3'
    go_wp2_with fail
    refine HC6.out.mono ?_
    rintro e w7 ⟨rfl, hb7⟩
    have HB7 := Lib.hid (Below_on HB6.out hb7 HB6.out.size)
    have HC7 : Hid (Calls Tryd.prog 14 #[.slice A2 0 c2, .slice none 0 0] w7 fun e w' => e = .returned (.bool true) ∧ Below w7.heap.size w7 w') := SameSelf_ A2 none c2 0 [] w7 (HN6.out.below hb7).zero (Nds.none _ _)
    clear hb7 HC6 e2
    generalize ckF f = cf at *
    go_wp2_with fail
    refine HC7.out.mono ?_
    rintro e w8 ⟨rfl, hb8⟩
    have HB8 := Lib.hid (Below_on HB7.out hb8 HB7.out.size)
    clear hb8 HC7
    go_wp2_with fail
    go_ret
    exact ⟨rfl, HB8.out⟩
end Go.Proofs.YtoglgeaiiipchaaDoor
