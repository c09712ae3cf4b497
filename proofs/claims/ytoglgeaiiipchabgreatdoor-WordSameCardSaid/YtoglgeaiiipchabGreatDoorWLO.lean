/- Walks: the reference's LeastOf. -/
import Derived.Test.YtoglgeaiiipchabGreatDoorTSA
import Derived.Test.YtoglgeaiiipchabGreatDoorWA
import Derived.Test.YtoglgeaiiipchabGreatDoorMeA
import Derived.Test.YtoglgeaiiipchabGreatDoorQB
import Derived.Test.YtoglgeaiiipchabGreatDoorFld
import Derived.Deep.RegionLaw
import Derived.Deep.CutBlock
import Derived.Deep.DeepCutAuto
import Derived.Test.YtoglgeaiiipchabGreatDoorBRA
namespace Go.Proofs.YtoglgeaiiipchabGreatDoor
open Go Go.RowKit Go.Shelf Go.Sort

theorem at_loop {l : La} (hp : 0 < l.l.length) (i : Nat) : l.at (l.h.length + i) = l.l.getD (i % l.l.length) 0 := by
  unfold La.at
  rw [if_neg (by omega), show l.h.length + i - l.h.length = i by omega]
theorem same_iff {l : La} (hp : 0 < l.l.length) {n : Nat} : turnsV l.l n = true ↔ ∀ i, i < l.l.length → l.at (l.h.length + i) = l.at (l.h.length + i + n) := by
  rw [turnsV_iff]
  constructor
  · intro h i hi
    rw [Nat.add_assoc, at_loop hp, at_loop hp, h i hi, Nat.mod_eq_of_lt hi]
  · intro h i hi
    have := h i hi
    rw [Nat.add_assoc, at_loop hp, at_loop hp, Nat.mod_eq_of_lt hi] at this
    exact this.symm
def LaPost (w : World) (m : La) (e : Ending) (w' : World) : Prop :=
  ∃ A B ca cb, e = .returned (.agg #[.slice A m.h.length ca, .slice B m.l.length cb]) ∧ Ints w' w.heap.size A ca m.h ∧ Ints w' w.heap.size B cb m.l ∧ Below w.heap.size w w'
/-- the world in which a lasso and a lasso to hand back stand in variables -/
def loW (w : World) (A B : Option Addr) (ca cb : Nat) (l : La) : World := (w.alloc (Obj.cells #[Value.slice A l.h.length ca, Value.slice B l.l.length cb] 28)).alloc (Obj.cells #[Value.slice none 0 0, Value.slice none 0 0] 28)
structure LoW (w W : World) (A B : Option Addr) (ca cb : Nat) (l : La) : Prop where
  below : Below w.heap.size w W
  size : W.heap.size = w.heap.size + 1 + 1
  l0 : W.cell? ⟨w.heap.size, 0, none⟩ = some (.slice A l.h.length ca)
  l1 : W.cell? ⟨w.heap.size, 1, none⟩ = some (.slice B l.l.length cb)
  r0 : W.cell? ⟨w.heap.size + 1, 0, none⟩ = some (.slice none 0 0)
  r1 : W.cell? ⟨w.heap.size + 1, 1, none⟩ = some (.slice none 0 0)
  f0 : W.frozen? ⟨w.heap.size + 1, 0, none⟩ = false
  f1 : W.frozen? ⟨w.heap.size + 1, 1, none⟩ = false
theorem loW_is (w : World) (A B : Option Addr) (ca cb : Nat) (l : La) : LoW w (loW w A B ca cb l) A B ca cb l := by
  unfold loW
  refine ⟨by go_grown, by simp, ?_, ?_, ?_, ?_, ?_, ?_⟩ <;> go_simp
theorem leastN_here {P : Nat → Bool} {L : Nat} : ∀ (m k n : Nat), 0 < k → k ≤ n → n ≤ L → L ≤ k + m → (∀ j, k ≤ j → j < n → P j = false) → (n < L → P n = true) → firstTurn P L m k = n
  | 0, k, n, _, h1, h2, h3, _, _ => by unfold firstTurn; omega
  | m + 1, k, n, h0, h1, h2, h3, hn, hp => by
    unfold firstTurn
    by_cases h : L ≤ k
    · rw [if_pos h]; omega
    · rw [if_neg h]
      by_cases hkn : k = n
      · subst hkn
        rw [hp (by omega)]
        rfl
      · rw [hn k (Nat.le_refl _) (by omega)]
        simp only [Bool.false_eq_true, if_false]
        exact leastN_here m (k + 1) n (by omega) (by omega) h2 (by omega) (fun j h4 h5 => hn j (by omega) h5) hp

/-- the world in which the answer stands in a variable -/
def outW (w : World) : World := w.alloc (Obj.cells #[Value.slice none 0 0, Value.slice none 0 0] 28)
structure OutW (w W : World) (B G : Nat) : Prop where
  le : B ≤ G
  below : Below w.heap.size w W
  size : W.heap.size = G + 1
  c0 : W.cell? ⟨G, 0, none⟩ = some (.slice none 0 0)
  c1 : W.cell? ⟨G, 1, none⟩ = some (.slice none 0 0)
  f0 : W.frozen? ⟨G, 0, none⟩ = false
  f1 : W.frozen? ⟨G, 1, none⟩ = false
theorem outW_is (w : World) (B : Nat) (h : B ≤ w.heap.size) : OutW w (outW w) B w.heap.size := by
  unfold outW
  refine ⟨h, by go_grown, by simp, ?_, ?_, ?_, ?_⟩ <;> go_simp
theorem lo_end {w W0 w10 wr : World} {V G H2 k n c c' : Nat} {l : La} {T T' : Option Addr} {v0 v1 : Value} (hV : V = w.heap.size) (hb : Below V w W0) (hG : V + 1 < G)
    {v0W : World} (h9 : OutV v0W 3 G (G + 1) 0 1 v0 k (vals l.at 0 k) T c w10) (hH : H2 = w10.heap.size) (h11 : OutV w10 3 G H2 1 0 v1 n (vals l.at k n) T' c' wr) (hb11 : Below W0.heap.size W0 wr) (hV2 : V + 1 < W0.heap.size)
    (hn : leastN l = n) (hk : downK l.at n l.h.length = k) (hk4 : k ≤ 4000) (hn4 : n ≤ 4000) :
    LaPost w (leastOf l) (.returned (.agg #[.slice T k c, .slice T' n c'])) ((wr.setCell ⟨V + 1, 0, none⟩ (.slice T k c)).setCell ⟨V + 1, 1, none⟩ (.slice T' n c')) := by
  have i1 := ints_of_vals h9.own (by omega)
  have i2 := ints_of_vals h11.own (by omega)
  have e : leastOf l = ⟨valsL l.at 0 k, valsL l.at k n⟩ := by
    unfold leastOf valsL
    rw [hn, hk]
    simp
  have hl1 : (valsL l.at 0 k).length = k := by simp [valsL]
  have hl2 : (valsL l.at k n).length = n := by simp [valsL]
  have hlt := h11.lt
  have hle := h11.le
  rw [e]
  refine ⟨T, T', c, c', by simp only [hl1, hl2], ?_, ?_, ?_⟩
  · have h1 := i1.kept (w' := wr) (by rw [← hH]; exact h11.kept)
    have h2 := h1.kept (Kept.set _ _ _ (p := ⟨V + 1, 0, none⟩) (.slice T k c) (.inl (by show V + 1 < _; omega)))
    exact (h2.kept (Kept.set _ _ _ (p := ⟨V + 1, 1, none⟩) (.slice T' n c') (.inl (by show V + 1 < _; omega)))).low (by omega)
  · have h2 := i2.kept (Kept.set _ _ _ (p := ⟨V + 1, 0, none⟩) (.slice T k c) (.inl (by show V + 1 < _; omega)))
    exact (h2.kept (Kept.set _ _ _ (p := ⟨V + 1, 1, none⟩) (.slice T' n c') (.inl (by show V + 1 < _; omega)))).low (by omega)
  · rw [← hV]
    exact (((hb.trans (hb11.mono (by omega))).setCell (p := ⟨V + 1, 0, none⟩) (by show V ≤ V + 1; omega) _).setCell (p := ⟨V + 1, 1, none⟩) (by show V ≤ V + 1; omega) _)
theorem lo_cells {wr : World} {X : Nat} {a b u v : Value} (h0 : wr.cell? ⟨X, 0, none⟩ = some a) (h1 : wr.cell? ⟨X, 1, none⟩ = some b) :
    ((wr.setCell ⟨X, 0, none⟩ u).setCell ⟨X, 1, none⟩ v).cell? ⟨X, 0, none⟩ = some u ∧ ((wr.setCell ⟨X, 0, none⟩ u).setCell ⟨X, 1, none⟩ v).cell? ⟨X, 1, none⟩ = some v := by
  constructor
  · exact (World.cell?_setCell_other _ ⟨X, 1, none⟩ ⟨X, 0, none⟩ _ (by simp)).trans (World.cell?_setCell_same' _ _ _ (by rw [h0]; rfl))
  · exact World.cell?_setCell_same' _ _ _ (by rw [World.cell?_setCell_other _ ⟨X, 0, none⟩ ⟨X, 1, none⟩ _ (by simp), h1]; rfl)
end Go.Proofs.YtoglgeaiiipchabGreatDoor
