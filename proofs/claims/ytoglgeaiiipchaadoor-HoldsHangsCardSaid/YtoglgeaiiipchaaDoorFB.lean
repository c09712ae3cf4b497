/- Walks: the law's formulaBegun. -/
import Derived.Test.YtoglgeaiiipchaaDoorWSm
import Derived.Test.YtoglgeaiiipchaaDoorUn
namespace Go.Proofs.YtoglgeaiiipchaaDoor
open Go Go.RowKit Go.Sort

def ntuF : List Nd := [⟨2, 0, 0, 0⟩, ⟨3, 0, 0, 0⟩, ⟨2, 0, 0, 1⟩, ⟨3, 2, 0, 0⟩, ⟨8, 1, 3, 0⟩]
def untS : List UInt8 := [40, 112, 48, 32, 85, 32, 112, 49, 41]
def ntuS : List UInt8 := [40, 33, 112, 48, 32, 82, 32, 33, 112, 49, 41]
theorem untF_p : printV untF = untS := by decide +kernel
theorem untF_c : ckF untF = 0 := by decide +kernel
theorem untF_n : negF untF = ntuF := by decide +kernel
theorem untF_e : negE untF = 0 := by decide +kernel
theorem ntuF_p : printV ntuF = ntuS := by decide +kernel
theorem ntuF_c : ckF ntuF = 0 := by decide +kernel
theorem untS_r : readV untS = (untF, 0, 0) := by decide +kernel
theorem PrintU_ {b : Nat} {w : World} (hf : Nds w 0 (some ⟨b, 0, none⟩) 3 untF) : Calls Tryd.prog 7 #[.slice (some ⟨b, 0, none⟩) 3 3] w fun e w' => e = .returned (.tuple #[.string ⟨#[40, 112, 48, 32, 85, 32, 112, 49, 41]⟩, .int .i64 0]) ∧ Below w.heap.size w w' := by
  have := Print_ _ _ untF w hf
  rw [untF_p, untF_c] at this
  exact this
theorem CheckU_ {b : Nat} {w : World} (hf : Nds w 0 (some ⟨b, 0, none⟩) 3 untF) : Calls Tryd.prog 13 #[.slice (some ⟨b, 0, none⟩) 3 3] w fun e w' => e = .returned (.int .i64 0) ∧ Below w.heap.size w w' := by
  have := formulaCheck_ _ _ untF w hf
  rw [untF_c] at this
  exact this
theorem ParseU_ (w : World) : Calls Tryd.prog 15 #[.string ⟨#[40, 112, 48, 32, 85, 32, 112, 49, 41]⟩] w fun e w' => ∃ A c, e = .returned (.tuple #[.slice A 3 c, .int .i64 0, .int .i64 0]) ∧ Nds w' w.heap.size A c untF ∧ Below w.heap.size w w' := by
  have := Parse_ untS (sb untS) (sb_size _) (sb_get _) w
  rw [untS_r] at this
  exact this
theorem NegateU_ {b : Nat} {w : World} (hf : Nds w 0 (some ⟨b, 0, none⟩) 3 untF) : Calls Tryd.prog 8 #[.slice (some ⟨b, 0, none⟩) 3 3] w fun e w' => ∃ A c, e = .returned (.tuple #[.slice A 5 c, .int .i64 0]) ∧ Nds w' w.heap.size A c ntuF ∧ Below w.heap.size w w' := by
  have := Negate_ _ _ untF w hf
  rw [untF_n, untF_e] at this
  exact this
theorem PrintN_ {A : Option Addr} {c : Nat} {w : World} (hf : Nds w 0 A c ntuF) : Calls Tryd.prog 7 #[.slice A 5 c] w fun e w' => e = .returned (.tuple #[.string ⟨#[40, 33, 112, 48, 32, 82, 32, 33, 112, 49, 41]⟩, .int .i64 0]) ∧ Below w.heap.size w w' := by
  have := Print_ _ _ ntuF w hf
  rw [ntuF_p, ntuF_c] at this
  exact this
theorem SameU_ {A B : Option Addr} {ca cb : Nat} {w : World} (hf : Nds w 0 A ca untF) (hg : Nds w 0 B cb untF) : Calls Tryd.prog 14 #[.slice A 3 ca, .slice B 3 cb] w fun e w' => e = .returned (.bool true) ∧ Below w.heap.size w w' := by
  have := SameFormula_ A B ca cb untF untF w hf hg
  rw [show decide (untF = untF) = true by simp] at this
  exact this
def FbPost (w : World) (e : Ending) (w' : World) : Prop := e = .returned (.bool true) ∧ Below w.heap.size w w'
set_option maxRecDepth 100000 in
set_option maxHeartbeats 1000000 in
theorem formulaBegun_ (w : World) : Calls Tryd.prog 12 #[] w (FbPost w) := by
  go_enter Tryd.func12, Tryd.ntmps12
  go_wp2_with fail
  refine (until_ w).mono ?_
  rintro e w1 ⟨b1, rfl, hn1, hb1⟩
  have HB1 := Lib.hid hb1
  have HC1 := Lib.hid (PrintU_ hn1)
  clear hb1 hn1
  go_wp2_with fail
  refine HC1.out.mono ?_
  rintro e w2 ⟨rfl, hb2⟩
  have HB2 := Lib.hid (Below_on HB1.out hb2 HB1.out.size)
  clear hb2 HC1
  go_wp2_with fail
  refine (ParseU_ w2).mono ?_
  rintro e w3 ⟨A3, c3, rfl, hn3, hb3⟩
  have HB3 := Lib.hid (Below_on HB2.out hb3 HB2.out.size)
  have HN3 := Lib.hid hn3
  have hc3 := hn3.le
  have hd3 := hn3.cap
  simp only [untF, List.length_cons, List.length_nil] at hc3
  clear hb3 hn3
  go_wp2_with fail
  refine (until_ w3).mono ?_
  rintro e w4 ⟨b4, rfl, hn4, hb4⟩
  have HB4 := Lib.hid (Below_on HB3.out hb4 HB3.out.size)
  have HN34 := Lib.hid (HN3.out.below hb4)
  have HC4 := Lib.hid (NegateU_ hn4)
  clear hb4 hn4
  go_wp2_with fail
  refine HC4.out.mono ?_
  rintro e w5 ⟨A5, c5, rfl, hn5, hb5⟩
  have HB5 := Lib.hid (Below_on HB4.out hb5 HB4.out.size)
  have HN35 := Lib.hid (HN34.out.below hb5)
  have HC5 := Lib.hid (PrintN_ hn5.zero)
  have hc5 := hn5.le
  have hd5 := hn5.cap
  simp only [ntuF, List.length_cons, List.length_nil] at hc5
  clear hb5 hn5 HC4
  go_wp2_with fail
  refine HC5.out.mono ?_
  rintro e w6 ⟨rfl, hb6⟩
  have HB6 := Lib.hid (Below_on HB5.out hb6 HB5.out.size)
  have HN36 := Lib.hid (HN35.out.below hb6)
  clear hb6 HC5
  go_wp2_with fail
  refine (until_ w6).mono ?_
  rintro e w7 ⟨b7, rfl, hn7, hb7⟩
  have HB7 := Lib.hid (Below_on HB6.out hb7 HB6.out.size)
  have HN37 := Lib.hid (HN36.out.below hb7)
  have HC7 := Lib.hid (CheckU_ hn7)
  clear hb7 hn7
  go_wp2_with fail
  refine HC7.out.mono ?_
  rintro e w8 ⟨rfl, hb8⟩
  have HB8 := Lib.hid (Below_on HB7.out hb8 HB7.out.size)
  have HN38 := Lib.hid (HN37.out.below hb8)
  clear hb8 HC7
  go_wp2_with fail
  refine (until_ w8).mono ?_
  rintro e w9 ⟨b9, rfl, hn9, hb9⟩
  have HB9 := Lib.hid (Below_on HB8.out hb9 HB8.out.size)
  have HN39 := Lib.hid (HN38.out.below hb9)
  have HC9 := Lib.hid (SameU_ HN39.out.zero hn9)
  clear hb9 hn9
  go_wp2_with fail
  refine HC9.out.mono ?_
  rintro e w10 ⟨rfl, hb10⟩
  have HB10 := Lib.hid (Below_on HB9.out hb10 HB9.out.size)
  clear hb10 HC9
  go_wp2_with fail
  go_ret
  exact ⟨rfl, HB10.out⟩
end Go.Proofs.YtoglgeaiiipchaaDoor
