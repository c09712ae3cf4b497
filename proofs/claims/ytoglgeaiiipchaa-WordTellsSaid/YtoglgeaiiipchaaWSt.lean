/- Walks: the steps from a spot: walker.steps and what it hands back. -/
import Derived.Test.YtoglgeaiiipchaaWFr2
import Derived.Test.YtoglgeaiiipchaaRT
import Derived.Test.YtoglgeaiiipchaaPT2
import Derived.Deep.RegionLaw
import Derived.Deep.CutBlock
import Derived.Deep.DeepCutAuto
namespace Go.Proofs.Ytoglgeaiiipchaa
open Go Go.RowKit Go.Shelf
attribute [local go_sem] Oper.semAt_some

/-- a walker in a variable K: the automaton, the row of letters, where it goes on -/
structure WkAt (W : World) (K V : Nat) (a : Au) (A B C : Option Addr) (ca cb cc : Nat) (row : List Int) (D : Option Addr) (cr back : Nat) : Prop where
  lt : K < W.heap.size
  c3 : W.cell? ⟨K, 3, none⟩ = some (.slice B a.gs.length cb)
  c5 : W.cell? ⟨K, 5, none⟩ = some (.slice D row.length cr)
  c6 : W.cell? ⟨K, 6, none⟩ = some (.int .i64 back)
  c7 : W.cell? ⟨K, 7, none⟩ = some (.func (.func 84) #[] #[.pointer (some ⟨V, 0, none⟩)])
  au : AuAt W V a A B C ca cb cc
  rd : AuRd W 0 a A B C ca cb cc
  row : Ints W 0 D cr row
theorem WkAt.below {W W' : World} {K V : Nat} {a : Au} {A B C : Option Addr} {ca cb cc : Nat} {row : List Int} {D : Option Addr} {cr back : Nat} (h : WkAt W K V a A B C ca cb cc row D cr back) (hb : Below W.heap.size W W') : WkAt W' K V a A B C ca cb cc row D cr back :=
  ⟨Nat.lt_of_lt_of_le h.lt hb.size, (hb.cell (p := ⟨K, 3, none⟩) h.lt).trans h.c3, (hb.cell (p := ⟨K, 5, none⟩) h.lt).trans h.c5, (hb.cell (p := ⟨K, 6, none⟩) h.lt).trans h.c6, (hb.cell (p := ⟨K, 7, none⟩) h.lt).trans h.c7, h.au.below hb h.au.lt, h.rd.below hb, h.row.below hb⟩
/-- the steps from a spot as a value: the walker, the spot, where they lead, in variables -/
structure SpAt (W : World) (K X Y Z : Nat) (q : Int) (p d : Nat) : Prop where
  lx : X < W.heap.size
  ly : Y < W.heap.size
  lz : Z < W.heap.size
  x : W.cell? ⟨X, 0, none⟩ = some (.pointer (some ⟨K, 0, none⟩))
  y0 : W.cell? ⟨Y, 0, none⟩ = some (.int .i64 q)
  y1 : W.cell? ⟨Y, 1, none⟩ = some (.int .i64 p)
  z : W.cell? ⟨Z, 0, none⟩ = some (.int .i64 d)
theorem SpAt.below {W W' : World} {m K X Y Z : Nat} {q : Int} {p d : Nat} (h : SpAt W K X Y Z q p d) (hb : Below m W W') (h1 : X < m) (h2 : Y < m) (h3 : Z < m) : SpAt W' K X Y Z q p d :=
  ⟨Nat.lt_of_lt_of_le h.lx hb.size, Nat.lt_of_lt_of_le h.ly hb.size, Nat.lt_of_lt_of_le h.lz hb.size, (cell_on3 hb h1).trans h.x, (cell_on3 hb h2).trans h.y0, (cell_on3 hb h2).trans h.y1, (cell_on3 hb h3).trans h.z⟩
def StPost (w : World) (K : Nat) (q : Int) (p d : Nat) (e : Ending) (w' : World) : Prop :=
  ∃ X Y Z, e = .returned (.func (.func 106) #[] #[.pointer (some ⟨X, 0, none⟩), .pointer (some ⟨Y, 0, none⟩), .pointer (some ⟨Z, 0, none⟩)]) ∧ w.heap.size ≤ X ∧ w.heap.size ≤ Y ∧ w.heap.size ≤ Z ∧ SpAt w' K X Y Z q p d ∧ Below w.heap.size w w'
def spW (w : World) (K : Nat) (q : Int) (p : Nat) : World :=
  ((w.alloc (Obj.cells #[.pointer (some ⟨K, 0, none⟩)] 78)).alloc (Obj.cells #[.int .i64 q, .int .i64 p] 85)).alloc (Obj.cells #[.int .i64 ((p : Int) + 1)] 3)
theorem spW_is (w : World) (K : Nat) (q : Int) (p : Nat) : SpAt (spW w K q p) K w.heap.size (w.heap.size + 1) (w.heap.size + 1 + 1) q p (p + 1) ∧ Below w.heap.size w (spW w K q p) ∧ (spW w K q p).heap.size = w.heap.size + 1 + 1 + 1 ∧ (spW w K q p).frozen? ⟨w.heap.size + 1 + 1, 0, none⟩ = false := by
  unfold spW
  refine ⟨⟨by simp; omega, by simp, by simp, ?_, ?_, ?_, ?_⟩, by go_grown, by simp, ?_⟩ <;> go_simp
set_option maxRecDepth 100000 in
theorem steps_ (a : Au) (A B C D : Option Addr) (ca cb cc cr K V back : Nat) (row : List Int) (q : Int) (p : Nat) (w : World) (hK : WkAt w K V a A B C ca cb cc row D cr back) (hp : p < row.length) (hr : row.length ≤ 8000) :
    Calls Try.prog 89 #[.pointer (some ⟨K, 0, none⟩), .agg #[.int .i64 q, .int .i64 p]] w (StPost w K q p (if p + 1 = row.length then back else p + 1)) := by
  have HW := Lib.hid (spW_is w K q p)
  have HK := Lib.hid hK
  clear hK
  go_enter Try.func89, Try.ntmps89
  go_upto_region 2 with fail
  change Code.wp _ _ _ _ (spW w K q p)
  generalize spW w K q p = W1 at *
  obtain ⟨X, hX⟩ : ∃ X, X = w.heap.size := ⟨_, rfl⟩
  rw [← hX] at HW ⊢
  have hK0 := HK.out.lt
  obtain ⟨_, k3, k5, k6, k7, _, _, _⟩ := HK.out.below (show Below w.heap.size w W1 by rw [← hX]; exact HW.out.2.1)
  obtain ⟨lx, ly, lz, x0, y0, y1, z0⟩ := HW.out.1
  have HB := Lib.hid HW.out.2.1
  have HSZ := Lib.hid HW.out.2.2.1
  have HFR := Lib.hid HW.out.2.2.2
  have HXX := Lib.hid hX
  clear hX
  by_cases hpn : p + 1 = row.length
  · have hpn2 : ((p : Int) + 1 == (row.length : Int)) = true := by simp; omega
    have HEQ : Hid ((if p + 1 = row.length then back else p + 1) = back) := by show _ = _; rw [if_pos hpn]
    generalize (if p + 1 = row.length then back else p + 1) = dd at *
    go_quiet (fail)
    have HB2 : Hid (Below X w (W1.drewN nq)) := below_drewN HB.out nq
    have HS2 : Hid (SpAt (W1.drewN nq) K X (X + 1) (X + 1 + 1) q p (p + 1)) := ⟨lx, ly, lz, x0, y0, y1, z0⟩
    have HSZ2 : Hid ((W1.drewN nq).heap.size = X + 1 + 1 + 1) := HSZ.out
    clear lx ly lz x0 y0 y1 z0 k3 k5 k6 k7 HW HB HSZ
    have hfr : (W1.drewN nq).frozen? ⟨X + 1 + 1, 0, none⟩ = false := HFR.out
    clear HFR
    generalize W1.drewN nq = W2 at *
    obtain ⟨lx, ly, lz, x0, y0, y1, z0⟩ := HS2.out
    obtain ⟨_, k3, k5, k6, k7, _, _, _⟩ := HK.out.below (show Below w.heap.size w W2 by rw [← HXX.out]; exact HB2.out)
    have HP : Hid (StPost w K q p dd (.returned (.func (.func 106) #[] #[.pointer (some ⟨X, 0, none⟩), .pointer (some ⟨X + 1, 0, none⟩), .pointer (some ⟨X + 1 + 1, 0, none⟩)])) (W2.setCell ⟨X + 1 + 1, 0, none⟩ (.int .i64 back))) := by
      have hXX := HXX.out
      refine ⟨X, X + 1, X + 1 + 1, rfl, by omega, by omega, by omega, ⟨by simp; omega, by simp; omega, by simp; omega, ?_, ?_, ?_, ?_⟩, ?_⟩
      · exact (World.cell?_setCell_other _ ⟨X + 1 + 1, 0, none⟩ ⟨X, 0, none⟩ _ (fun h => by have := congrArg Addr.block h; simp at this; omega)).trans x0
      · exact (World.cell?_setCell_other _ ⟨X + 1 + 1, 0, none⟩ ⟨X + 1, 0, none⟩ _ (fun h => by have := congrArg Addr.block h; simp at this)).trans y0
      · exact (World.cell?_setCell_other _ ⟨X + 1 + 1, 0, none⟩ ⟨X + 1, 1, none⟩ _ (fun h => by have := congrArg Addr.block h; simp at this)).trans y1
      · rw [HEQ.out]; exact World.cell?_setCell_same' _ _ _ (by rw [z0]; rfl)
      · rw [← hXX]; exact HB2.out.setCell (p := ⟨X + 1 + 1, 0, none⟩) (by show X ≤ X + 1 + 1; omega) _
    go_wp2_with fail
    go_ret
    exact HP.out
  · have hpn2 : ((p : Int) + 1 == (row.length : Int)) = false := by simp; omega
    have HEQ : Hid ((if p + 1 = row.length then back else p + 1) = p + 1) := by show _ = _; rw [if_neg hpn]
    generalize (if p + 1 = row.length then back else p + 1) = dd at *
    go_quiet (fail)
    have HP : Hid (StPost w K q p dd (.returned (.func (.func 106) #[] #[.pointer (some ⟨X, 0, none⟩), .pointer (some ⟨X + 1, 0, none⟩), .pointer (some ⟨X + 1 + 1, 0, none⟩)])) (W1.drewN nq)) := by
      have hXX := HXX.out
      refine ⟨X, X + 1, X + 1 + 1, rfl, by omega, by omega, by omega, ⟨lx, ly, lz, x0, y0, y1, by rw [HEQ.out]; exact z0⟩, ?_⟩
      rw [← hXX]
      exact below_drewN HB.out nq
    clear lx ly lz x0 y0 y1 z0 k3 k5 k6 k7 HW HB HSZ
    generalize W1.drewN nq = W2 at *
    go_wp2_with fail
    go_ret
    exact HP.out
end Go.Proofs.Ytoglgeaiiipchaa
