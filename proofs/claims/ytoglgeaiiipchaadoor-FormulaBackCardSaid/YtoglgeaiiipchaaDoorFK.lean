/- Walks: the law FormulaBack. -/
import Derived.Test.YtoglgeaiiipchaaDoorPBk
namespace Go.Proofs.YtoglgeaiiipchaaDoor
open Go Go.RowKit Go.Sort

set_option maxRecDepth 100000 in
set_option maxHeartbeats 2000000 in
theorem FormulaBack_ (F : Option Addr) (fc : Nat) (f : List Nd) (s : List UInt8) (w : World) (hf : Nds w 0 F fc f) : Calls Tryd.prog 5 #[.slice F f.length fc, .string (sb s)] w (FbPost w) := by
  have HF := Lib.hid hf
  have hle := hf.le
  have hcp := hf.cap
  have HPS := Lib.hid (fun W => Parse_ s (sb s) (sb_size s) (sb_get s) W)
  have HBS := Lib.hid (back_parse s)
  clear hf
  go_enter Tryd.func5, Tryd.ntmps5
  go_wp2_with fail
  refine (formulaBegun_ w).mono ?_
  rintro e w1 ⟨rfl, hb1⟩
  have HB1 := Lib.hid hb1
  have HC1 := Lib.hid (Print_ F fc f w1 (HF.out.below hb1))
  clear hb1
  go_wp2_with fail
  refine HC1.out.mono ?_
  rintro e w2 ⟨rfl, hb2⟩
  have HB2 := Lib.hid (Below_on HB1.out hb2 HB1.out.size)
  clear hb2 HC1 HB1
  by_cases hc : ckF f = 0
  · have HPF := Lib.hid (Parse_ (printV f) (sb (printV f)) (sb_size _) (sb_get _) w2)
    have HBP := Lib.hid (back_print hc)
    rw [hc]
    clear hc
    generalize printV f = pf at *
    generalize readV pf = r at *
    obtain ⟨o, a, b⟩ := r
    go_wp2_with fail
    refine HPF.out.mono ?_
    rintro e w3 ⟨A3, c3, rfl, hn3, hb3⟩
    have HB3 := Lib.hid (Below_on HB2.out hb3 HB2.out.size)
    have HN3 := Lib.hid hn3
    have hl3 := hn3.le
    have hc3 := hn3.cap
    clear hb3 hn3 HPF HB2
    simp only at hl3 hc3 ⊢
    rcases HBP.out with ⟨h1, h2, h3⟩ | h1
    · obtain rfl : b = 0 := h1
      have HC4 := Lib.hid (Print_ A3 c3 o w3 HN3.out.zero)
      rw [show ckF o = 0 from h2, show printV o = pf from h3] at HC4
      clear h2 h3 HBP
      go_wp2_with fail
      refine HC4.out.mono ?_
      rintro e w4 ⟨rfl, hb4⟩
      have HB9 := Lib.hid (Below_on HB3.out hb4 HB3.out.size)
      clear hb4 HC4
      generalize hw9 : w4 = w9 at *
      clear hw9
      have HC9 := Lib.hid (HPS.out w9)
      clear HPS
      generalize readV s = q at *
      obtain ⟨o9, a9, b9⟩ := q
      go_wp2_with fail
      refine HC9.out.mono ?_
      rintro e w10 ⟨A10, c10, rfl, hn10, hb10⟩
      have HB10 := Lib.hid (Below_on HB9.out hb10 HB9.out.size)
      have HN10 := Lib.hid hn10
      have hl10 := hn10.le
      have hc10 := hn10.cap
      clear hb10 hn10 HC9
      simp only at hl10 hc10 ⊢
      rcases HBS.out with ⟨h1, h2, h3⟩ | ⟨h1, h2⟩
      · obtain rfl : b9 = 0 := h1
        have HC11 := Lib.hid (Print_ A10 c10 o9 w10 HN10.out.zero)
        rw [show ckF o9 = 0 from h2, show printV o9 = s from h3] at HC11
        clear h2 h3 HBS
        go_wp2_with fail
        refine HC11.out.mono ?_
        rintro e w12 ⟨rfl, hb12⟩
        have HB12 := Lib.hid (Below_on HB10.out hb12 HB10.out.size)
        clear hb12 HC11
        go_wp2_with fail
        go_ret
        exact ⟨rfl, HB12.out⟩
      · obtain rfl : o9 = [] := h2
        have h1' : (b9 != 0) = true := by simpa using h1
        clear h1 HBS
        go_wp2_with fail
        go_ret
        exact ⟨rfl, HB10.out⟩
    · obtain rfl : b = 2 := h1
      have HB9 := HB3
      clear HBP HB3
      generalize hw9 : w3 = w9 at *
      clear hw9
      have HC9 := Lib.hid (HPS.out w9)
      clear HPS
      generalize readV s = q at *
      obtain ⟨o9, a9, b9⟩ := q
      go_wp2_with fail
      refine HC9.out.mono ?_
      rintro e w10 ⟨A10, c10, rfl, hn10, hb10⟩
      have HB10 := Lib.hid (Below_on HB9.out hb10 HB9.out.size)
      have HN10 := Lib.hid hn10
      have hl10 := hn10.le
      have hc10 := hn10.cap
      clear hb10 hn10 HC9
      simp only at hl10 hc10 ⊢
      rcases HBS.out with ⟨h1, h2, h3⟩ | ⟨h1, h2⟩
      · obtain rfl : b9 = 0 := h1
        have HC11 := Lib.hid (Print_ A10 c10 o9 w10 HN10.out.zero)
        rw [show ckF o9 = 0 from h2, show printV o9 = s from h3] at HC11
        clear h2 h3 HBS
        go_wp2_with fail
        refine HC11.out.mono ?_
        rintro e w12 ⟨rfl, hb12⟩
        have HB12 := Lib.hid (Below_on HB10.out hb12 HB10.out.size)
        clear hb12 HC11
        go_wp2_with fail
        go_ret
        exact ⟨rfl, HB12.out⟩
      · obtain rfl : o9 = [] := h2
        have h1' : (b9 != 0) = true := by simpa using h1
        clear h1 HBS
        go_wp2_with fail
        go_ret
        exact ⟨rfl, HB10.out⟩
  · have e2 : (ckF f == 0) = false := by simp [hc]
    have HB9 := HB2
    clear HB2 hc
    generalize hw9 : w2 = w9 at *
    clear hw9
    have HC9 := Lib.hid (HPS.out w9)
    clear HPS
    generalize readV s = q at *
    obtain ⟨o9, a9, b9⟩ := q
    go_wp2_with fail
    refine HC9.out.mono ?_
    rintro e w10 ⟨A10, c10, rfl, hn10, hb10⟩
    have HB10 := Lib.hid (Below_on HB9.out hb10 HB9.out.size)
    have HN10 := Lib.hid hn10
    have hl10 := hn10.le
    have hc10 := hn10.cap
    clear hb10 hn10 HC9
    simp only at hl10 hc10 ⊢
    rcases HBS.out with ⟨h1, h2, h3⟩ | ⟨h1, h2⟩
    · obtain rfl : b9 = 0 := h1
      have HC11 := Lib.hid (Print_ A10 c10 o9 w10 HN10.out.zero)
      rw [show ckF o9 = 0 from h2, show printV o9 = s from h3] at HC11
      clear h2 h3 HBS
      go_wp2_with fail
      refine HC11.out.mono ?_
      rintro e w12 ⟨rfl, hb12⟩
      have HB12 := Lib.hid (Below_on HB10.out hb12 HB10.out.size)
      clear hb12 HC11
      go_wp2_with fail
      go_ret
      exact ⟨rfl, HB12.out⟩
    · obtain rfl : o9 = [] := h2
      have h1' : (b9 != 0) = true := by simpa using h1
      clear h1 HBS
      go_wp2_with fail
      go_ret
      exact ⟨rfl, HB10.out⟩
end Go.Proofs.YtoglgeaiiipchaaDoor
