/- Walks: the program's check of formulas. -/
import Derived.Test.YtoglgeaiiipchaaDoorWF
import Derived.Shelf.Abstract
namespace Go.Proofs.YtoglgeaiiipchaaDoor
open Go Go.RowKit Go.Shelf

theorem Temporal_ (k : Int) (w : World) : Calls Tryd.prog 39 #[.int .i64 k] w fun e w' => e = .returned (.bool (isTmp k)) ∧ w = w' := by
  go_enter Tryd.func39, Tryd.ntmps39
  go_wp2
  all_goals (go_ret; refine ⟨ret_bool ?_, rfl⟩; unfold isTmp btw; simp [*])
  omega

theorem ret_b3 {a b c a' b' c' : Bool} (h1 : a = a') (h2 : b = b') (h3 : c = c') : Ending.returned (.tuple #[.bool a, .bool b, .bool c]) = Ending.returned (.tuple #[.bool a', .bool b', .bool c']) := by rw [h1, h2, h3]
theorem Names_ (k : Int) (w : World) : Calls Tryd.prog 40 #[.int .i64 k] w fun e w' => e = .returned (.tuple #[.bool (nmA k), .bool (nmB k), .bool (nmN k)]) ∧ w = w' := by
  go_enter Tryd.func40, Tryd.ntmps40
  go_wp2
  all_goals (go_ret3; refine ⟨ret_b3 ?_ ?_ ?_, rfl⟩ <;> simp_all [nmA, nmB, nmN, btw] <;> omega)

set_option maxRecDepth 100000 in
theorem many_ (A : Option Addr) (c : Nat) (f : List Nd) (w : World) (hf : Nds w 0 A c f) :
    Calls Tryd.prog 22 #[.slice A f.length c] w fun e w' => e = .returned (.bool (tooMany f)) ∧ Below w.heap.size w w' := by
  have hle := hf.le
  have hcp := hf.cap
  go_enter Tryd.func22, Tryd.ntmps22
  go_wp2
  go_loopw [3, 8] (fun n i wr => ∃ k : Nat, k ≤ f.length ∧ i = .int .i64 k ∧ n = .int .i64 (cntT (f.take k)) ∧ Below w.heap.size w wr) (fun _ i _ => f.length - (intOf i).toNat)
  case atStart => exact ⟨0, Nat.zero_le _, rfl, rfl, Below.refl _ _⟩
  case round =>
    obtain ⟨k, hk, rfl, rfl, hb⟩ := hrel
    have hct := cntT_le f k
    by_cases hlt : k < f.length
    · obtain ⟨b, o, rfl, _, _, hc1, hc2, hc3, hc4⟩ := Nds.at_ (hf.below hb) hlt
      have hs := cntT_take hlt
      have HS := Lib.hid hs
      clear hs
      have HB := Lib.hid (hb.alloc hb.size (Obj.cells #[.int .i64 f[k].k, .int .i64 f[k].a, .int .i64 f[k].b, .int .i64 f[k].n] 45))
      go_wp2_with (go_at_call 39; refine (Temporal_ _ _).mono ?_; rintro e w' ⟨rfl, rfl⟩)
      · have ht : isTmp f[k].k = true := by assumption
        go_roundw
        case rel => exact ⟨k + 1, by omega, by go_num, by rw [HS.out, if_pos ht]; go_num, HB.out⟩
        case measure => simp [intOf]; omega
      · have ht : isTmp f[k].k = false := by assumption
        go_roundw
        case rel => exact ⟨k + 1, by omega, by go_num, by rw [HS.out, if_neg (by simp [ht])]; go_num, HB.out⟩
        case measure => simp [intOf]; omega
    · have hall : f.take k = f := List.take_of_length_le (by omega)
      have HA := Lib.hid hall
      clear hall
      go_wp2
      all_goals (go_ret; refine ⟨ret_bool ?_, hb⟩; have ha := HA.out; (try rw [ha]); unfold tooMany)
      · rfl
      · rw [decide_eq_true (by assumption)]; rfl

set_option maxRecDepth 100000 in
theorem node1_ (i k : Int) (B : Nat) (w : World) (hc : w.cell? ⟨B, 0, none⟩ = some (.int .i64 i)) :
    Calls Tryd.prog 41 #[.int .i64 k, .pointer (some ⟨B, 0, none⟩)] w fun e w' => e = .returned (.bool (btw k 0 (i - 1))) ∧ w = w' := by
  go_enter Tryd.func41, Tryd.ntmps41
  go_wp2
  all_goals (go_ret; refine ⟨ret_bool ?_, rfl⟩; unfold btw; rw [Bool.eq_iff_iff]; simp; omega)

set_option maxRecDepth 100000 in
set_option maxHeartbeats 4000000 in
theorem node_ (x : Nd) (i : Int) (w : World) :
    Calls Tryd.prog 31 #[.agg #[.int .i64 x.k, .int .i64 x.a, .int .i64 x.b, .int .i64 x.n], .int .i64 i] w fun e w' => e = .returned (.int .i64 (ndErr x i)) ∧ Below w.heap.size w w' := by
  go_enter Tryd.func31, Tryd.ntmps31
  go_wp2_with (first | (go_at_call 40; refine (Names_ _ _).mono ?_; rintro e w' ⟨rfl, rfl⟩) | (go_at_call 41; refine (node1_ i _ (w.heap.size + 1) _ (by go_simp)).mono ?_; rintro e w' ⟨rfl, rfl⟩))
  all_goals (go_ret; refine ⟨ret_int ?_, by go_grown⟩; go_tidy; have hk := btw_iff x.k 1 8; have hn := btw_iff x.n 0 2; cases h1 : btw x.k 1 8 <;> cases h2 : btw x.n 0 2 <;> simp_all [ndErr] <;> omega)
end Go.Proofs.YtoglgeaiiipchaaDoor
