/- Walks: cmp.Compare, cmp.Or, auto.Order, auto.within. -/
import Derived.Test.YtoglgeaiiipchabDoorAu
import Derived.Test.YtoglgeaiiipchabDoorFld
import Derived.Shelf.Abstract
namespace Go.Proofs.YtoglgeaiiipchabDoor
open Go Go.RowKit Go.Sort Go.Shelf

def cmpI (x y : Int) : Int := if x < y then -1 else if y < x then 1 else 0
def orV : List Int → Int
  | [] => 0
  | x :: r => if x = 0 then orV r else x
def ordV (s t : Stp) : Int := orV [cmpI s.f t.f, cmpI s.l t.l, cmpI s.t t.t]
theorem orV_step {xs : List Int} {k : Nat} (hk : k < xs.length) : orV (xs.drop k) = if xs[k] = 0 then orV (xs.drop (k + 1)) else xs[k] := by
  rw [List.drop_eq_getElem_cons hk]; rfl
theorem ordV_lt (s t : Stp) : ordV s t < 0 ↔ stpLt s t = true := by
  rw [stpLt_iff]
  unfold ordV cmpI
  simp only [orV]
  split <;> split <;> (try split) <;> (try split) <;> (try split) <;> (try split) <;> omega
theorem isNaN_ (x : Int) (w : World) : Calls Tryd.prog 57 #[.int .i64 x] w fun e w' => e = .returned (.bool false) ∧ w = w' := by
  have h : (x != x) = false := by simp
  go_enter Tryd.func57, Tryd.ntmps57
  go_wp2_with fail
  go_ret
  exact ⟨rfl, rfl⟩
theorem Compare_ (x y : Int) (w : World) : Calls Tryd.prog 45 #[.int .i64 x, .int .i64 y] w fun e w' => e = .returned (.int .i64 (cmpI x y)) ∧ w = w' := by
  have HV := Lib.hid (show cmpI x y = if x < y then -1 else if y < x then 1 else 0 from rfl)
  generalize cmpI x y = v at *
  go_enter Tryd.func45, Tryd.ntmps45
  by_cases h1 : x < y
  · have HF : Hid (v = -1) := by show v = _; rw [HV.out, if_pos h1]
    go_wp2_with (go_at_call 57; refine (isNaN_ _ _).mono ?_; rintro e w' ⟨rfl, rfl⟩)
    go_ret
    exact ⟨ret_int HF.out.symm, rfl⟩
  · by_cases h2 : y < x
    · have HF : Hid (v = 1) := by show v = _; rw [HV.out, if_neg h1, if_pos h2]
      go_wp2_with (go_at_call 57; refine (isNaN_ _ _).mono ?_; rintro e w' ⟨rfl, rfl⟩)
      go_ret
      exact ⟨ret_int HF.out.symm, rfl⟩
    · have HF : Hid (v = 0) := by show v = _; rw [HV.out, if_neg h1, if_neg h2]
      go_wp2_with (go_at_call 57; refine (isNaN_ _ _).mono ?_; rintro e w' ⟨rfl, rfl⟩)
      go_ret
      exact ⟨ret_int HF.out.symm, rfl⟩
theorem OrI_ (A : Option Addr) (c : Nat) (xs : List Int) (w : World) (hx : Ints w 0 A c xs) : Calls Tryd.prog 44 #[.slice A xs.length c] w fun e w' => e = .returned (.int .i64 (orV xs)) ∧ w = w' := by
  have h1 := hx.le
  have h2 := hx.max
  have HX := Lib.hid hx
  clear hx
  obtain ⟨v, hv⟩ : ∃ v, v = orV xs := ⟨_, rfl⟩
  rw [← hv]
  have HV := Lib.hid hv
  clear hv
  go_enter Tryd.func44, Tryd.ntmps44
  go_wp2_with fail
  go_loop [5, 8] (fun s i => ∃ k : Nat, k ≤ xs.length ∧ i = .int .i64 k ∧ Hid (v = orV (xs.drop k))) (fun _ i => xs.length - (intOf i).toNat)
  case atStart => exact ⟨0, Nat.zero_le _, rfl, HV.out⟩
  case round =>
    obtain ⟨k, hk, rfl, HK⟩ := hrel
    by_cases hlt : k < xs.length
    · obtain ⟨b, o, rfl, _, _, q⟩ := Ints.at_ HX.out hlt
      have HS := Lib.hid (orV_step hlt)
      generalize xs[k] = x at *
      by_cases hx0 : x = 0
      · have hx1 : (x != 0) = false := by simp [hx0]
        have HF : Hid (v = orV (xs.drop (k + 1))) := by show v = _; rw [HK.out, HS.out, if_pos hx0]
        clear hx0
        go_wp2_with fail
        go_round
        case rel => exact ⟨k + 1, by omega, by go_num, HF⟩
        case measure => simp [intOf]; omega
      · have hx1 : (x != 0) = true := by simpa using hx0
        have HF : Hid (v = x) := by show v = _; rw [HK.out, HS.out, if_neg hx0]
        clear hx0
        go_wp2_with fail
        go_ret
        exact ⟨ret_int HF.out.symm, rfl⟩
    · have HF : Hid (v = 0) := by show v = _; rw [HK.out, List.drop_of_length_le (by omega)]; rfl
      go_wp2_with fail
      go_ret
      exact ⟨ret_int HF.out.symm, rfl⟩
theorem within_ (n a b : Int) (w : World) : Calls Tryd.prog 28 #[.int .i64 n, .int .i64 a, .int .i64 b] w fun e w' => e = .returned (.bool (btw n a b)) ∧ w = w' := by
  go_enter Tryd.func28, Tryd.ntmps28
  go_wp2
  all_goals (go_ret; refine ⟨ret_bool ?_, rfl⟩; unfold btw; simp [*])
  all_goals omega
/-- two steps in variables -/
def st2W (w : World) (s t : Stp) : World := (w.alloc (Obj.cells #[.int .i64 s.f, .int .i64 s.l, .int .i64 s.t] 54)).alloc (Obj.cells #[.int .i64 t.f, .int .i64 t.l, .int .i64 t.t] 54)
structure St2W (w W : World) (s t : Stp) : Prop where
  below : Below w.heap.size w W
  size : W.heap.size = w.heap.size + 1 + 1
  s0 : W.cell? ⟨w.heap.size, 0, none⟩ = some (.int .i64 s.f)
  s1 : W.cell? ⟨w.heap.size, 1, none⟩ = some (.int .i64 s.l)
  s2 : W.cell? ⟨w.heap.size, 2, none⟩ = some (.int .i64 s.t)
  t0 : W.cell? ⟨w.heap.size + 1, 0, none⟩ = some (.int .i64 t.f)
  t1 : W.cell? ⟨w.heap.size + 1, 1, none⟩ = some (.int .i64 t.l)
  t2 : W.cell? ⟨w.heap.size + 1, 2, none⟩ = some (.int .i64 t.t)
theorem st2W_is (w : World) (s t : Stp) : St2W w (st2W w s t) s t := by
  unfold st2W
  refine ⟨by go_grown, by simp, ?_, ?_, ?_, ?_, ?_, ?_⟩ <;> go_simp
theorem ints3 (w : World) (e : TypeId) (x y z : Int) : Ints (w.alloc (Obj.cells #[.int .i64 x, .int .i64 y, .int .i64 z] e)) 0 (some ⟨w.heap.size, 0, none⟩) 3 [x, y, z] :=
  ⟨Nat.le_refl _, by decide, by simp, Rd.new w #[.int .i64 x, .int .i64 y, .int .i64 z] e⟩
set_option maxRecDepth 100000 in
set_option maxHeartbeats 1000000 in
theorem Order_ (s t : Stp) (w : World) : Calls Tryd.prog 31 #[.agg #[.int .i64 s.f, .int .i64 s.l, .int .i64 s.t], .agg #[.int .i64 t.f, .int .i64 t.l, .int .i64 t.t]] w fun e w' => e = .returned (.int .i64 (ordV s t)) ∧ Below w.heap.size w w' := by
  have HW := Lib.hid (st2W_is w s t)
  have HF : Hid (ordV s t = orV [cmpI s.f t.f, cmpI s.l t.l, cmpI s.t t.t]) := rfl
  generalize ordV s t = v at *
  go_enter Tryd.func31, Tryd.ntmps31
  go_wp2_with fail
  change Code.wp _ _ _ _ (st2W w s t)
  generalize st2W w s t = W at *
  obtain ⟨X, hX⟩ : ∃ X, X = w.heap.size := ⟨_, rfl⟩
  have h0 := HW.out.s0
  have h1 := HW.out.s1
  have h2 := HW.out.s2
  have k0 := HW.out.t0
  have k1 := HW.out.t1
  have k2 := HW.out.t2
  rw [← hX] at h0 h1 h2 k0 k1 k2 ⊢
  have HX := Lib.hid hX
  clear hX
  go_region_held3 (fun w' => w'.cell? ⟨X, 0, none⟩ = some (.int .i64 s.f) ∧ w'.cell? ⟨X, 1, none⟩ = some (.int .i64 s.l) ∧ w'.cell? ⟨X, 2, none⟩ = some (.int .i64 s.t) ∧ w'.cell? ⟨X + 1, 0, none⟩ = some (.int .i64 t.f) ∧ w'.cell? ⟨X + 1, 1, none⟩ = some (.int .i64 t.l) ∧ w'.cell? ⟨X + 1, 2, none⟩ = some (.int .i64 t.t))
    (go_keep)
    (first
      | (go_at_call 45; refine (Compare_ _ _ _).mono ?_; rintro e w' ⟨rfl, rfl⟩)
      | (go_at_call 44; refine (OrI_ _ 3 [cmpI s.f t.f, cmpI s.l t.l, cmpI s.t t.t] _ ((ints3 W 3 _ _ _).below (Below.refl _ _).drew)).mono ?_; rintro e w' ⟨rfl, rfl⟩))
  all_goals
    go_wp2_with fail
    go_ret
    refine ⟨ret_int HF.out.symm, ?_⟩
    exact Below_on HW.out.below (((Below.refl _ W).alloc (Nat.le_refl _) _).drew) HW.out.below.size
end Go.Proofs.YtoglgeaiiipchabDoor
