/- Walks: formula.Print, formula.opposite. -/
import Derived.Test.YtoglgeaiiipchaaDoorWSh
import Derived.Test.YtoglgeaiiipchaaDoorWG2
namespace Go.Proofs.YtoglgeaiiipchaaDoor
open Go Go.RowKit Go.Shelf

def printV (f : List Nd) : List UInt8 := if ckF f = 0 then (treeAt f (f.length - 1)).show else []
theorem ret_si {a a' : ByteArray} {b b' : Int} (h1 : a = a') (h2 : b = b') : Ending.returned (.tuple #[.string a, .int .i64 b]) = Ending.returned (.tuple #[.string a', .int .i64 b']) := by rw [h1, h2]
set_option maxRecDepth 100000 in
theorem Print_ (F : Option Addr) (fc : Nat) (f : List Nd) (w : World) (hf : Nds w 0 F fc f) :
    Calls Tryd.prog 7 #[.slice F f.length fc] w fun e w' => e = .returned (.tuple #[.string (sb (printV f)), .int .i64 (ckF f)]) ∧ Below w.heap.size w w' := by
  have hle := hf.le
  have hcp := hf.cap
  have HC := Lib.hid (formulaCheck_ F fc f w hf)
  have HF := Lib.hid hf
  clear hf
  go_enter Tryd.func7, Tryd.ntmps7
  go_wp2_with fail
  refine HC.out.mono ?_
  rintro e w1 ⟨rfl, hb1⟩
  have HB1 := Lib.hid hb1
  clear hb1 HC
  by_cases hc : ckF f = 0
  · have ho := ckF_zero.1 hc
    have hn := ho.pos
    have hlt : f.length - 1 < f.length := by omega
    have HS := Lib.hid (show_ f F fc w HF.out ho (f.length - 1) hlt w1 HB1.out)
    have HP : Hid (printV f = (treeAt f (f.length - 1)).show) := by unfold Hid printV; rw [if_pos hc]
    have HE := Lib.hid hc
    have e1 : ((f.length : Int) - 1) = ((f.length - 1 : Nat) : Int) := by omega
    have e2 : (ckF f != 0) = false := by simp [hc]
    clear hc ho hn
    go_wp2_with fail
    refine HS.out.mono ?_
    rintro e w2 ⟨rfl, hb2⟩
    have HB2 := Lib.hid (Below_on HB1.out hb2 HB1.out.size)
    clear hb2
    go_wp2_with fail
    go_ret2
    exact ⟨ret_si (by rw [HP.out]) HE.out.symm, HB2.out⟩
  · have HP : Hid (printV f = []) := by unfold Hid printV; rw [if_neg hc]
    have e2 : (ckF f != 0) = true := by simpa using hc
    clear hc
    go_wp2
    go_ret2
    exact ⟨ret_si (by rw [HP.out]; rfl) rfl, HB1.out⟩
theorem opposite_ (k : Int) (w : World) : Calls Tryd.prog 38 #[.int .i64 k] w fun e w' => e = .returned (.int .i64 (opp k)) ∧ Below w.heap.size w w' := by
  go_enter Tryd.func38, Tryd.ntmps38
  by_cases h4 : k = 4
  · subst h4; go_wp2; go_ret; exact ⟨rfl, Below.refl _ _⟩
  · by_cases h5 : k = 5
    · subst h5; go_wp2; go_ret; exact ⟨rfl, Below.refl _ _⟩
    · by_cases h7 : k = 7
      · subst h7; go_wp2; go_ret; exact ⟨rfl, Below.refl _ _⟩
      · by_cases h8 : k = 8
        · subst h8; go_wp2; go_ret; exact ⟨rfl, Below.refl _ _⟩
        · have HP : Hid (opp k = k) := by unfold Hid opp; rw [if_neg h4, if_neg h5, if_neg h7, if_neg h8]
          have k4 : (k == 4) = false := by simp [h4]
          have k5 : (k == 5) = false := by simp [h5]
          have k7 : (k == 7) = false := by simp [h7]
          have k8 : (k == 8) = false := by simp [h8]
          clear h4 h5 h7 h8
          go_wp2
          go_ret
          exact ⟨ret_int HP.out.symm, Below.refl _ _⟩
end Go.Proofs.YtoglgeaiiipchaaDoor
