/- Walk: formula.Check. -/
import Derived.Test.YtoglgeaiiipchaaDoorWG
namespace Go.Proofs.YtoglgeaiiipchaaDoor
open Go Go.RowKit Go.Shelf

set_option maxRecDepth 100000 in
set_option maxHeartbeats 1000000 in
theorem formulaCheck_ (A : Option Addr) (c : Nat) (f : List Nd) (w : World) (hf : Nds w 0 A c f) :
    Calls Tryd.prog 13 #[.slice A f.length c] w fun e w' => e = .returned (.int .i64 (ckF f)) ∧ Below w.heap.size w w' := by
  have hle := hf.le
  have hmx := hf.max
  have hcp := hf.cap
  by_cases h0 : f.length = 0
  · have h0' : ((f.length : Int) == 0) = true := by simp [h0]
    go_enter Tryd.func13, Tryd.ntmps13
    have H0 := Lib.hid h0
    clear h0
    go_wp2
    go_ret
    exact ⟨ret_int (by rw [ckF, if_pos H0.out]), Below.refl _ _⟩
  · have h0' : ((f.length : Int) == 0) = false := by simpa using h0
    by_cases hm : tooMany f = true
    · go_enter Tryd.func13, Tryd.ntmps13
      go_wp2_with (go_at_call 22; refine (many_ _ _ _ _ hf).mono ?_; rintro e w1 ⟨rfl, hb1⟩)
      go_ret
      exact ⟨ret_int (by rw [ckF, if_neg h0, if_pos hm]), hb1⟩
    · have hm' : tooMany f = false := by simpa using hm
      have hfin : ckF f = ckNds (f.drop 0) 0 := by rw [ckF, if_neg h0, if_neg hm]; rfl
      have HF := Lib.hid hfin
      clear hfin hm
      go_enter Tryd.func13, Tryd.ntmps13
      go_wp2_with (go_at_call 22; refine (many_ _ _ _ _ hf).mono ?_; rintro e w1 ⟨rfl, hb1⟩)
      go_loopw [15] (fun i wr => ∃ k : Nat, k ≤ f.length ∧ i = .int .i64 k ∧ ckF f = ckNds (f.drop k) k ∧ Below w.heap.size w wr) (fun i _ => f.length - (intOf i).toNat)
      case atStart => exact ⟨0, Nat.zero_le _, rfl, HF.out, hb1⟩
      case round =>
        obtain ⟨k, hk, rfl, hc, hb⟩ := hrel
        have HC := Lib.hid hc
        clear hc
        by_cases hlt : k < f.length
        · obtain ⟨b, o, rfl, _, hbl, hc1, hc2, hc3, hc4⟩ := Nds.at_ (hf.below hb) hlt
          have hst := ckNds_step hlt
          have HS := Lib.hid hst
          clear hst
          have HB := Lib.hid (hb.alloc hb.size (Obj.cells #[.int .i64 f[k].k, .int .i64 f[k].a, .int .i64 f[k].b, .int .i64 f[k].n] 45))
          by_cases he : ndErr f[k] k = 0
          · have he' : (ndErr f[k] k != 0) = false := by simpa using he
            have HE := Lib.hid he
            clear he
            go_wp2_with (go_at_call 31; refine (node_ _ _ _).mono ?_; rintro e w1 ⟨rfl, hb2⟩)
            go_roundw
            case rel => exact ⟨k + 1, by omega, by go_num, by rw [HC.out, HS.out, if_pos HE.out], Below_on HB.out hb2 HB.out.size⟩
            case measure => simp [intOf]; omega
          · have he' : (ndErr f[k] k != 0) = true := by simpa using he
            go_wp2_with (go_at_call 31; refine (node_ _ _ _).mono ?_; rintro e w1 ⟨rfl, hb2⟩)
            go_ret
            exact ⟨ret_int (by rw [HC.out, HS.out, if_neg he]), Below_on HB.out hb2 HB.out.size⟩
        · go_wp2
          go_ret
          exact ⟨ret_int (by rw [HC.out, ckNds_end (by omega)]), hb⟩
end Go.Proofs.YtoglgeaiiipchaaDoor
