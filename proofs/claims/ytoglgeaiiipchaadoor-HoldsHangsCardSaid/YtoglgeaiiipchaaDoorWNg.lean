/- Walks: formula.Negate. -/
import Derived.Test.YtoglgeaiiipchaaDoorWPl
namespace Go.Proofs.YtoglgeaiiipchaaDoor
open Go Go.RowKit Go.Shelf

def negO (f : List Nd) : List Nd := (treeAt f (f.length - 1)).negV true []
def negF (f : List Nd) : List Nd := if ckF f = 0 then (if tooMany (negO f) = true then [] else negO f) else []
def negE (f : List Nd) : Int := if ckF f = 0 then (if tooMany (negO f) = true then 2 else 0) else ckF f
def NegPost (w : World) (o : List Nd) (n : Int) (e : Ending) (w' : World) : Prop := ∃ A c, e = .returned (.tuple #[.slice A o.length c, .int .i64 n]) ∧ Nds w' w.heap.size A c o ∧ Below w.heap.size w w'
theorem Nds.none (w : World) (lo : Nat) : Nds w lo none 0 [] := ⟨Nat.le_refl _, by omega, by simp, Rd.nil⟩
set_option maxRecDepth 100000 in
theorem Negate_ (F : Option Addr) (fc : Nat) (f : List Nd) (w : World) (hf : Nds w 0 F fc f) :
    Calls Tryd.prog 8 #[.slice F f.length fc] w (NegPost w (negF f) (negE f)) := by
  have hle := hf.le
  have hcp := hf.cap
  have HC := Lib.hid (formulaCheck_ F fc f w hf)
  have HF := Lib.hid hf
  clear hf
  go_enter Tryd.func8, Tryd.ntmps8
  go_wp2_with fail
  refine HC.out.mono ?_
  rintro e w1 ⟨rfl, hb1⟩
  have HB1 := Lib.hid hb1
  clear hb1 HC
  by_cases hc : ckF f = 0
  · have ho := ckF_zero.1 hc
    have hn := ho.pos
    have hlt : f.length - 1 < f.length := by omega
    have hsz := show_len ho (f.length - 1) hlt
    have hfew : f.length ≤ 12 := by
      have := ho.few
      unfold tooMany at this
      simp only [Bool.or_eq_false_iff, decide_eq_false_iff_not] at this
      omega
    have h3 : 2 ^ (f.length - 1 + 1) ≤ 2 ^ 12 := Nat.pow_le_pow_right (by decide) (by omega)
    have h4 : (2 : Nat) ^ 12 = 4096 := by decide
    have HS := Lib.hid (plain_ f F fc w HF.out ho w1.heap.size HB1.out.size (f.length - 1) hlt true [] w1 w1 _ (.slice none 0 0) HB1.out (Nat.le_refl _) (NOwn.refl (World.ownsRow_nil _ _ _ _)) (by simp; omega))
    have hlen := negV_len (treeAt f (f.length - 1)) true []
    have HL : Hid ((negO f).length ≤ 100000) := by simp at hlen; show _ ≤ _; unfold negO; omega
    have HS2 : Hid (Calls Tryd.prog 21 #[.slice none 0 0, .slice F f.length fc, .int .i64 ((f.length - 1 : Nat) : Int), .bool true] w1 (NTo w1.heap.size (negO f) (.slice none 0 0) w1)) := HS.out
    have e1 : ((f.length : Int) - 1) = ((f.length - 1 : Nat) : Int) := by omega
    have e2 : (ckF f != 0) = false := by simp [hc]
    have HP : Hid (negF f = if tooMany (negO f) = true then [] else negO f) := by unfold Hid negF; rw [if_pos hc]
    have HE : Hid (negE f = if tooMany (negO f) = true then 2 else 0) := by unfold Hid negE; rw [if_pos hc]
    clear hc ho hn hsz h3 h4 hlen HS
    go_wp2_with fail
    refine HS2.out.mono ?_
    rintro e w2 ⟨v, rfl, hown⟩
    obtain ⟨T, c, rfl, hnds⟩ := hown.form (by have := HL.out; omega)
    have HB2 := Lib.hid (Below_on HB1.out (hown.belowB (Below.refl w1.heap.size w1) (Nat.le_refl _) (by intro k hk; simp [Value.ownBlock] at hk)) HB1.out.size)
    have HM := Lib.hid (many_ T c (negO f) w2 hnds.zero)
    have HN := Lib.hid hnds
    have hl2 := hnds.le
    have hc2 := hnds.cap
    clear hown hnds
    go_wp2_with fail
    refine HM.out.mono ?_
    rintro e w3 ⟨rfl, hb3⟩
    have HB3 := Lib.hid (Below_on HB2.out hb3 HB2.out.size)
    have HN3 := Lib.hid (HN.out.below hb3)
    clear hb3
    by_cases hm : tooMany (negO f) = true
    · have HP2 : Hid (negF f = []) := by rw [HP.out, if_pos hm]; rfl
      have HE2 : Hid (negE f = 2) := by rw [HE.out, if_pos hm]; rfl
      go_wp2_with fail
      go_ret2
      exact ⟨none, 0, by rw [HP2.out, HE2.out]; rfl, by rw [HP2.out]; exact Nds.none _ _, HB3.out⟩
    · have HP2 : Hid (negF f = negO f) := by rw [HP.out, if_neg hm]; rfl
      have HE2 : Hid (negE f = 0) := by rw [HE.out, if_neg hm]; rfl
      have hm' : tooMany (negO f) = false := by simpa using hm
      clear hm
      go_wp2_with fail
      go_ret2
      exact ⟨T, c, by rw [HP2.out, HE2.out]; rfl, by rw [HP2.out]; exact HN3.out.low HB1.out.size, HB3.out⟩
  · have HP : Hid (negF f = []) := by unfold Hid negF; rw [if_neg hc]
    have HE : Hid (negE f = ckF f) := by unfold Hid negE; rw [if_neg hc]
    have e2 : (ckF f != 0) = true := by simpa using hc
    clear hc
    go_wp2
    go_ret2
    exact ⟨none, 0, by rw [HP.out, HE.out]; rfl, by rw [HP.out]; exact Nds.none _ _, HB1.out⟩
end Go.Proofs.YtoglgeaiiipchaaDoor
