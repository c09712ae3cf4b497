/- Walks: holds: next, the closures of node, fill. -/
import Derived.Test.YtoglgeaiiipchaaDoorPH
import Derived.Test.YtoglgeaiiipchaaDoorWRep
import Derived.Shelf.Abstract
namespace Go.Proofs.YtoglgeaiiipchaaDoor
open Go Go.RowKit Go.Shelf

/-- a reader in memory: its row has n places and goes on at h -/
def RdrAt (w : World) (R : Nat) (A : Option Addr) (n c h : Nat) : Prop :=
  w.cell? ⟨R, 0, none⟩ = some (.slice A n c) ∧ w.cell? ⟨R, 1, none⟩ = some (.int .i64 h) ∧ R < w.heap.size

theorem RdrAt.below {w w' : World} {R : Nat} {A : Option Addr} {n c h : Nat} (hr : RdrAt w R A n c h) {B : Nat} (hb : Below B w w') (hB : R < B) : RdrAt w' R A n c h :=
  ⟨(hb.cell (p := ⟨R, 0, none⟩) hB).trans hr.1, (hb.cell (p := ⟨R, 1, none⟩) hB).trans hr.2.1, Nat.lt_of_lt_of_le hr.2.2 hb.size⟩

set_option maxRecDepth 100000 in
theorem hnext_ (R : Nat) (A : Option Addr) (n c h i : Nat) (w : World) (hr : RdrAt w R A n c h) (hi : i < n) (hn : n ≤ 1000000) :
    Calls Tryd.prog 53 #[.pointer (some ⟨R, 0, none⟩), .int .i64 i] w fun e w' => e = .returned (.int .i64 (nx n h i : Nat)) ∧ w' = w := by
  obtain ⟨h1, h2, h3⟩ := hr
  by_cases he : i + 1 = n
  · have he' : (((i : Int) + 1) == (n : Int)) = true := by simp; omega
    have HF := Lib.hid (show nx n h i = h by unfold nx; rw [if_pos he])
    clear he
    go_enter Tryd.func53, Tryd.ntmps53
    go_wp2
    go_ret
    exact ⟨ret_int (by rw [HF.out]; try (first | rfl | (push_cast; rfl))), rfl⟩
  · have he' : (((i : Int) + 1) == (n : Int)) = false := by simp; omega
    have HF := Lib.hid (show nx n h i = i + 1 by unfold nx; rw [if_neg he])
    clear he
    go_enter Tryd.func53, Tryd.ntmps53
    go_wp2
    go_ret
    exact ⟨ret_int (by rw [HF.out]; try (first | rfl | (push_cast; rfl))), rfl⟩

/-- a function value that says, of a place and of what holds at the next one, what holds -/
def DoV (P : Program) (g : FuncId) (caps : Array Value) (n : Nat) (D : Nat → Bool → Bool) (w : World) : Prop :=
  ∀ (i : Nat) (nb : Bool) (W : World), i < n → Below w.heap.size w W → Calls P g (#[.int .i64 i, .bool nb] ++ caps) W fun e W' => e = .returned (.bool (D i nb)) ∧ Below W.heap.size W W'
theorem DoV.below {P : Program} {g : FuncId} {caps : Array Value} {n : Nat} {D : Nat → Bool → Bool} {w w' : World} (h : DoV P g caps n D w) (hb : Below w.heap.size w w') : DoV P g caps n D w' :=
  fun i nb W hi hW => h i nb W hi (hb.trans (hW.mono hb.size))

/-- a captured variable that holds a row of bools -/
def CapB (w : World) (B : Nat) (xs : List Bool) : Prop := ∃ A c, w.cell? ⟨B, 0, none⟩ = some (.slice A xs.length c) ∧ Bools w 0 A c xs ∧ B < w.heap.size
theorem CapB.below {w w' : World} {B : Nat} {xs : List Bool} (h : CapB w B xs) (hb : Below w.heap.size w w') : CapB w' B xs := by
  obtain ⟨A, c, h1, h2, h3⟩ := h
  exact ⟨A, c, (hb.cell (p := ⟨B, 0, none⟩) h3).trans h1, h2.below hb, Nat.lt_of_lt_of_le h3 hb.size⟩

theorem do2_ (B n : Nat) (xs : List Bool) (w : World) (hx : CapB w B xs) (hl : xs.length = n) :
    DoV Tryd.prog 49 #[.pointer (some ⟨B, 0, none⟩)] n (fun i _ => !xs.getD i false) w := by
  intro i nb W hi hW
  have hlt : i < xs.length := by omega
  obtain ⟨A, c, h1, h2, h3⟩ := hx.below hW
  have hcp := h2.cap
  have hle := h2.le
  obtain ⟨b, o, rfl, _, hb, hc⟩ := Bools.at_ h2 (k := i) (by omega)
  have hv : xs.getD i false = xs[i] := by simp [hlt]
  have HV := Lib.hid hv
  clear hv
  simp only [List.append_toArray, List.cons_append, List.nil_append]
  go_enter Tryd.func49, Tryd.ntmps49
  go_wp2
  go_ret
  exact ⟨ret_bool (by rw [HV.out]), Below.refl _ _⟩

theorem do3_ (B C n : Nat) (xs ys : List Bool) (w : World) (hx : CapB w B xs) (hy : CapB w C ys) (hl : xs.length = n) (hm : ys.length = n) :
    DoV Tryd.prog 50 #[.pointer (some ⟨B, 0, none⟩), .pointer (some ⟨C, 0, none⟩)] n (fun i _ => xs.getD i false && ys.getD i false) w := by
  intro i nb W hi hW
  have hlt : i < xs.length := by omega
  obtain ⟨A, c, h1, h2, h3⟩ := hx.below hW
  have hlt' : i < ys.length := by omega
  obtain ⟨A', c', k1, k2, k3⟩ := hy.below hW
  clear hx hy hl hm
  have hcp := h2.cap
  have hle := h2.le
  have hcp' := k2.cap
  have hle' := k2.le
  obtain ⟨b, o, rfl, _, hb, hc⟩ := Bools.at_ h2 (k := i) hlt
  obtain ⟨b', o', rfl, _, hb', hc'⟩ := Bools.at_ k2 (k := i) hlt'
  have HV := Lib.hid (show xs.getD i false = xs[i] by simp [hlt])
  have HV' := Lib.hid (show ys.getD i false = ys[i] by simp [hlt'])
  simp only [List.append_toArray, List.cons_append, List.nil_append]
  go_enter Tryd.func50, Tryd.ntmps50
  go_wp2
  all_goals (go_ret; refine ⟨ret_bool ?_, Below.refl _ _⟩; rw [HV.out, HV'.out]; simp [*])

theorem do4_ (B C n : Nat) (xs ys : List Bool) (w : World) (hx : CapB w B xs) (hy : CapB w C ys) (hl : xs.length = n) (hm : ys.length = n) :
    DoV Tryd.prog 51 #[.pointer (some ⟨B, 0, none⟩), .pointer (some ⟨C, 0, none⟩)] n (fun i _ => xs.getD i false || ys.getD i false) w := by
  intro i nb W hi hW
  have hlt : i < xs.length := by omega
  obtain ⟨A, c, h1, h2, h3⟩ := hx.below hW
  have hlt' : i < ys.length := by omega
  obtain ⟨A', c', k1, k2, k3⟩ := hy.below hW
  clear hx hy hl hm
  have hcp := h2.cap
  have hle := h2.le
  have hcp' := k2.cap
  have hle' := k2.le
  obtain ⟨b, o, rfl, _, hb, hc⟩ := Bools.at_ h2 (k := i) hlt
  obtain ⟨b', o', rfl, _, hb', hc'⟩ := Bools.at_ k2 (k := i) hlt'
  have HV := Lib.hid (show xs.getD i false = xs[i] by simp [hlt])
  have HV' := Lib.hid (show ys.getD i false = ys[i] by simp [hlt'])
  simp only [List.append_toArray, List.cons_append, List.nil_append]
  go_enter Tryd.func51, Tryd.ntmps51
  go_wp2
  all_goals (go_ret; refine ⟨ret_bool ?_, Below.refl _ _⟩; rw [HV.out, HV'.out]; simp [*])

theorem do6_ (B C n : Nat) (xs ys : List Bool) (w : World) (hx : CapB w B xs) (hy : CapB w C ys) (hl : xs.length = n) (hm : ys.length = n) :
    DoV Tryd.prog 54 #[.pointer (some ⟨C, 0, none⟩), .pointer (some ⟨B, 0, none⟩)] n (fun i nb => ys.getD i false || xs.getD i false && nb) w := by
  intro i nb W hi hW
  have hlt : i < xs.length := by omega
  obtain ⟨A, c, h1, h2, h3⟩ := hx.below hW
  have hlt' : i < ys.length := by omega
  obtain ⟨A', c', k1, k2, k3⟩ := hy.below hW
  clear hx hy hl hm
  have hcp := h2.cap
  have hle := h2.le
  have hcp' := k2.cap
  have hle' := k2.le
  obtain ⟨b, o, rfl, _, hb, hc⟩ := Bools.at_ h2 (k := i) hlt
  obtain ⟨b', o', rfl, _, hb', hc'⟩ := Bools.at_ k2 (k := i) hlt'
  have HV := Lib.hid (show xs.getD i false = xs[i] by simp [hlt])
  have HV' := Lib.hid (show ys.getD i false = ys[i] by simp [hlt'])
  simp only [List.append_toArray, List.cons_append, List.nil_append]
  go_enter Tryd.func54, Tryd.ntmps54
  go_wp2
  all_goals (go_ret; refine ⟨ret_bool ?_, Below.refl _ _⟩; rw [HV.out, HV'.out]; simp [*])

theorem do7_ (B C n : Nat) (xs ys : List Bool) (w : World) (hx : CapB w B xs) (hy : CapB w C ys) (hl : xs.length = n) (hm : ys.length = n) :
    DoV Tryd.prog 55 #[.pointer (some ⟨C, 0, none⟩), .pointer (some ⟨B, 0, none⟩)] n (fun i nb => ys.getD i false && (xs.getD i false || nb)) w := by
  intro i nb W hi hW
  have hlt : i < xs.length := by omega
  obtain ⟨A, c, h1, h2, h3⟩ := hx.below hW
  have hlt' : i < ys.length := by omega
  obtain ⟨A', c', k1, k2, k3⟩ := hy.below hW
  clear hx hy hl hm
  have hcp := h2.cap
  have hle := h2.le
  have hcp' := k2.cap
  have hle' := k2.le
  obtain ⟨b, o, rfl, _, hb, hc⟩ := Bools.at_ h2 (k := i) hlt
  obtain ⟨b', o', rfl, _, hb', hc'⟩ := Bools.at_ k2 (k := i) hlt'
  have HV := Lib.hid (show xs.getD i false = xs[i] by simp [hlt])
  have HV' := Lib.hid (show ys.getD i false = ys[i] by simp [hlt'])
  simp only [List.append_toArray, List.cons_append, List.nil_append]
  go_enter Tryd.func55, Tryd.ntmps55
  go_wp2
  all_goals (go_ret; refine ⟨ret_bool ?_, Below.refl _ _⟩; rw [HV.out, HV'.out]; simp [*])

theorem do8_ (n : Nat) (w : World) : DoV Tryd.prog 56 #[] n (fun _ _ => true) w := by
  intro i nb W hi hW
  simp only [List.append_toArray, List.append_nil]
  go_enter Tryd.func56, Tryd.ntmps56
  go_wp2
  go_ret
  exact ⟨rfl, Below.refl _ _⟩
end Go.Proofs.YtoglgeaiiipchaaDoor
