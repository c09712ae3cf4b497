/- Walks: the reference's checks of formulas. -/
import Derived.Test.YtoglgeaiiipchaaDoorPF
import Derived.Test.YtoglgeaiiipchaaDoorProg
namespace Go.Proofs.YtoglgeaiiipchaaDoor
open Go Go.RowKit

theorem between_ (n a b : Int) (w : World) : Calls Tryd.prog 24 #[.int .i64 n, .int .i64 a, .int .i64 b] w fun e w' => e = .returned (.bool (btw n a b)) ∧ w = w' := by
  go_enter Tryd.func24, Tryd.ntmps24
  go_wp2
  all_goals (go_ret; refine ⟨ret_bool ?_, rfl⟩; unfold btw; simp [*])
  omega
theorem NamesA_ (k : Int) (w : World) : Calls Tryd.prog 25 #[.int .i64 k] w fun e w' => e = .returned (.bool (nmA k)) ∧ w = w' := by
  go_enter Tryd.func25, Tryd.ntmps25
  go_wp2_with (go_at_call 24; refine (between_ _ _ _ _).mono ?_; rintro e w' ⟨rfl, rfl⟩)
  go_ret
  exact ⟨rfl, rfl⟩
theorem NamesB_ (k : Int) (w : World) : Calls Tryd.prog 26 #[.int .i64 k] w fun e w' => e = .returned (.bool (nmB k)) ∧ w = w' := by
  go_enter Tryd.func26, Tryd.ntmps26
  go_wp2
  all_goals (go_ret; exact ⟨ret_bool (by simp_all [nmB]), rfl⟩)
theorem TooMany_ (A : Option Addr) (c : Nat) (f : List Nd) (w : World) (hf : Nds w 0 A c f) :
    Calls Tryd.prog 23 #[.slice A f.length c] w fun e w' => e = .returned (.bool (tooMany f)) ∧ Below w.heap.size w w' := by
  have hle := hf.le
  have hmx := hf.max
  go_enter Tryd.func23, Tryd.ntmps23
  go_wp2
  go_loopw [3, 4] (fun n i wr => ∃ k : Nat, k ≤ f.length ∧ i = .int .i64 k ∧ n = .int .i64 (cntT (f.take k)) ∧ Below w.heap.size w wr) (fun _ i _ => f.length - (intOf i).toNat)
  case atStart => exact ⟨0, Nat.zero_le _, rfl, rfl, Below.refl _ _⟩
  case round =>
    obtain ⟨k, hk, rfl, rfl, hb⟩ := hrel
    have hct := cntT_le f k
    by_cases hlt : k < f.length
    · obtain ⟨b, o, rfl, _, _, hc1, hc2, hc3, hc4⟩ := Nds.at_ (hf.below hb) hlt
      have hs := cntT_take hlt
      have HS := Lib.hid hs
      clear hs
      go_wp2_with (go_at_call 24; refine (between_ _ _ _ _).mono ?_; rintro e w' ⟨rfl, rfl⟩)
      · have ht : isTmp f[k].k = true := by assumption
        go_roundw
        case rel => exact ⟨k + 1, by omega, by go_num, by rw [HS.out, if_pos ht]; go_num, hb⟩
        case measure => simp [intOf]; omega
      · have ht : isTmp f[k].k = false := by assumption
        go_roundw
        case rel => exact ⟨k + 1, by omega, by go_num, by rw [HS.out, if_neg (by simp [ht])]; go_num, hb⟩
        case measure => simp [intOf]; omega
    · have hall : f.take k = f := List.take_of_length_le (by omega)
      have HA := Lib.hid hall
      clear hall
      go_wp2
      all_goals (go_ret; refine ⟨ret_bool ?_, hb⟩; have ha := HA.out; (try rw [ha]); unfold tooMany)
      · rfl
      · rw [decide_eq_true (by assumption)]; rfl

set_option maxRecDepth 100000 in
set_option maxHeartbeats 4000000 in
theorem CheckFormula_ (A : Option Addr) (c : Nat) (f : List Nd) (w : World) (hf : Nds w 0 A c f) :
    Calls Tryd.prog 9 #[.slice A f.length c] w fun e w' => e = .returned (.int .i64 (ckF f)) ∧ Below w.heap.size w w' := by
  have hle := hf.le
  have hmx := hf.max
  by_cases h0 : f.length = 0
  · have h0' : ((f.length : Int) == 0) = true := by simp [h0]
    go_enter Tryd.func9, Tryd.ntmps9
    have H0 := Lib.hid h0
    clear h0
    go_wp2
    go_ret
    exact ⟨ret_int (by rw [ckF, if_pos H0.out]), Below.refl _ _⟩
  · have h0' : ((f.length : Int) == 0) = false := by simpa using h0
    by_cases hm : tooMany f = true
    · go_enter Tryd.func9, Tryd.ntmps9
      go_wp2_with (go_at_call 23; refine (TooMany_ _ _ _ _ hf).mono ?_; rintro e w1 ⟨rfl, hb1⟩)
      go_ret
      exact ⟨ret_int (by rw [ckF, if_neg h0, if_pos hm]), hb1⟩
    · have hm' : tooMany f = false := by simpa using hm
      have hfin : ckF f = ckNds (f.drop 0) 0 := by rw [ckF, if_neg h0, if_neg hm]; rfl
      have HF := Lib.hid hfin
      clear hfin hm
      go_enter Tryd.func9, Tryd.ntmps9
      go_wp2_with (go_at_call 23; refine (TooMany_ _ _ _ _ hf).mono ?_; rintro e w1 ⟨rfl, hb1⟩)
      go_loopw [3] (fun i wr => ∃ k : Nat, k ≤ f.length ∧ i = .int .i64 k ∧ ckF f = ckNds (f.drop k) k ∧ Below w.heap.size w wr) (fun i _ => f.length - (intOf i).toNat)
      case atStart => exact ⟨0, Nat.zero_le _, rfl, HF.out, hb1⟩
      case round =>
        obtain ⟨k, hk, rfl, hc, hb⟩ := hrel
        have HC := Lib.hid hc
        clear hc
        by_cases hlt : k < f.length
        · obtain ⟨b, o, rfl, _, hbl, hc1, hc2, hc3, hc4⟩ := Nds.at_ (hf.below hb) hlt
          have hst := ckNds_step hlt
          have HS := Lib.hid hst
          clear hst
          go_wp2_with (first | (go_at_call 24; refine (between_ _ _ _ _).mono ?_; rintro e w' ⟨rfl, rfl⟩) | (go_at_call 25; refine (NamesA_ _ _).mono ?_; rintro e w' ⟨rfl, rfl⟩) | (go_at_call 26; refine (NamesB_ _ _).mono ?_; rintro e w' ⟨rfl, rfl⟩))
          all_goals first
            | (go_ret; refine ⟨ret_int ?_, hb.alloc hb.size _⟩; go_tidy; rw [HC.out, HS.out]; simp_all [ndErr, nmN])
            | (go_roundw
               case rel => exact ⟨k + 1, by omega, by go_num, by go_tidy; rw [HC.out, HS.out, if_pos (by simp_all [ndErr, nmN])], hb.alloc hb.size _⟩
               case measure => simp [intOf]; omega)
        · go_wp2
          go_ret
          exact ⟨ret_int (by rw [HC.out, ckNds_end (by omega)]), hb⟩
end Go.Proofs.YtoglgeaiiipchaaDoor
