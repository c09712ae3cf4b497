/- Walks: holds: the closures of node that read letters, or the next place. -/
import Derived.Test.YtoglgeaiiipchaaDoorWH
import Derived.Laws.BitsAllLaws
namespace Go.Proofs.YtoglgeaiiipchaaDoor
open Go Go.RowKit Go.Shelf

theorem do1_ (X Y R n N : Nat) (A : Option Addr) (c h : Nat) (xs : List Int) (w : World) (hX : w.cell? ⟨X, 0, none⟩ = some (.pointer (some ⟨R, 0, none⟩))) (hXl : X < w.heap.size)
    (hY : w.cell? ⟨Y, 3, none⟩ = some (.int .i64 N)) (hYl : Y < w.heap.size) (hr : RdrAt w R A xs.length c h) (hx : Ints w 0 A c xs) (hl : xs.length = n) (hN : N ≤ 2)
    (hb : ∀ (i : Nat) (hi : i < xs.length), 0 ≤ xs[i] ∧ xs[i] ≤ 7) :
    DoV Tryd.prog 48 #[.pointer (some ⟨X, 0, none⟩), .pointer (some ⟨Y, 0, none⟩)] n (fun i _ => bitOf (xs.getD i 0) N) w := by
  intro i nb W hi hW
  have hlt : i < xs.length := by omega
  have hv := hb i hlt
  have k1 : W.cell? ⟨X, 0, none⟩ = some (.pointer (some ⟨R, 0, none⟩)) := (hW.cell (p := ⟨X, 0, none⟩) hXl).trans hX
  have k2 : W.cell? ⟨Y, 3, none⟩ = some (.int .i64 N) := (hW.cell (p := ⟨Y, 3, none⟩) hYl).trans hY
  obtain ⟨k3, _, _⟩ := hr.below hW hr.2.2
  have hcp := hx.cap
  have hle := hx.le
  obtain ⟨b, o, rfl, _, _, hc⟩ := Ints.at_ (hx.below hW) hlt
  have HV := Lib.hid (show xs.getD i 0 = xs[i] by simp [hlt])
  clear hb hl hX hY hr hx
  generalize xs[i] = m at *
  generalize xs.length = len at *
  simp only [List.append_toArray, List.cons_append, List.nil_append]
  have hNN : N = 0 ∨ N = 1 ∨ N = 2 := by omega
  obtain rfl | rfl | rfl := hNN
  all_goals
    go_enter Tryd.func48, Tryd.ntmps48
    go_wp2
    go_quiet (fail)
    go_wp2
    go_ret
    refine ⟨ret_bool ?_, below_drewN (Below.refl _ _) _⟩
    rw [HV.out]
    have hm : m = 0 ∨ m = 1 ∨ m = 2 ∨ m = 3 ∨ m = 4 ∨ m = 5 ∨ m = 6 ∨ m = 7 := by omega
    go_tidy
    rcases hm with rfl | rfl | rfl | rfl | rfl | rfl | rfl | rfl <;> rfl

theorem do5_ (B X R n : Nat) (A : Option Addr) (c h : Nat) (xs : List Bool) (w : World) (hB : CapB w B xs) (hl : xs.length = n) (hX : w.cell? ⟨X, 0, none⟩ = some (.pointer (some ⟨R, 0, none⟩))) (hXl : X < w.heap.size)
    (hr : RdrAt w R A n c h) (hn : n ≤ 1000000) (hh : h < n) :
    DoV Tryd.prog 52 #[.pointer (some ⟨B, 0, none⟩), .pointer (some ⟨X, 0, none⟩)] n (fun i _ => xs.getD (nx n h i) false) w := by
  intro i nb W hi hW
  have hnx : nx n h i < n := nx_lt hi hh
  have hlt : nx n h i < xs.length := by omega
  have k1 : W.cell? ⟨X, 0, none⟩ = some (.pointer (some ⟨R, 0, none⟩)) := (hW.cell (p := ⟨X, 0, none⟩) hXl).trans hX
  have HN := Lib.hid (hr.below hW hr.2.2)
  have HQ : Hid (∀ k, Calls Tryd.prog 53 #[.pointer (some ⟨R, 0, none⟩), .int .i64 i] (W.drewN k) fun e w' => e = .returned (.int .i64 (nx n h i : Nat)) ∧ w' = W.drewN k) := fun k => hnext_ R A n c h i (W.drewN k) HN.out hi hn
  obtain ⟨A', c', h1, h2, h3⟩ := hB.below hW
  clear hX hB hr
  have hcp := h2.cap
  have hle := h2.le
  obtain ⟨b, o, rfl, _, _, hc⟩ := Bools.at_ h2 hlt
  have HV := Lib.hid (show xs.getD (nx n h i) false = xs[nx n h i] by simp [hlt])
  clear h2
  generalize xs[nx n h i] = v at *
  generalize xs.length = len at *
  generalize hj : nx n h i = j at *
  have HJ := Lib.hid hj
  clear hj
  simp only [List.append_toArray, List.cons_append, List.nil_append]
  go_enter Tryd.func52, Tryd.ntmps52
  go_wp2
  go_quiet ((go_at_call 53; exact Calls.quiet_of_same (HQ.out _)))
  go_wp2
  go_ret
  exact ⟨ret_bool (by rw [HJ.out, HV.out]), below_drewN (Below.refl _ _) _⟩
end Go.Proofs.YtoglgeaiiipchaaDoor
