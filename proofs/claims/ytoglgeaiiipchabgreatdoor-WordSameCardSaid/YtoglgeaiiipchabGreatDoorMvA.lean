/- Walks: the reference's TakesOf. -/
import Derived.Test.YtoglgeaiiipchabGreatDoorWCA
import Derived.Test.YtoglgeaiiipchabGreatDoorBRA
import Derived.Test.YtoglgeaiiipchabGreatDoorPZA
import Derived.Deep.RegionLaw
import Derived.Deep.CutBlock
import Derived.Deep.DeepCutAuto
namespace Go.Proofs.YtoglgeaiiipchabGreatDoor
open Go Go.RowKit Go.Sort

def MvPost (w : World) (a : Au) (now good : List Bool) (c : Int) (n : Nat) (e : Ending) (w' : World) : Prop :=
  ∃ gx gy xs ys, e = .returned (.tuple #[.slice (some ⟨gx, 0, none⟩) n n, .slice (some ⟨gy, 0, none⟩) n n]) ∧ w.heap.size ≤ gx ∧ w.heap.size ≤ gy ∧ gx ≠ gy ∧ BRow w' gx xs ∧ BRow w' gy ys ∧ Moved a now good c xs ys ∧ Below w.heap.size w w'
/-- a round's memory -/
structure MvAt (W0 : World) (a : Au) (now good : List Bool) (c : Int) (gx gy k : Nat) (xs ys : List Bool) (wr : World) : Prop where
  below : Below W0.heap.size W0 wr
  hx : BRow wr gx xs
  hy : BRow wr gy ys
  mv : MovedTo a now good c k xs ys

end Go.Proofs.YtoglgeaiiipchabGreatDoor

namespace Go.Proofs.YtoglgeaiiipchabGreatDoor
open Go Go.RowKit Go.Sort

/-- a bool that says whether something is so -/
def SoPost (w : World) (P : Prop) (e : Ending) (w' : World) : Prop := ∃ b : Bool, e = .returned (.bool b) ∧ (b = true ↔ P) ∧ Below w.heap.size w w'
/-- sets of states on their way, in memory -/
structure CrAt (W0 : World) (a : Au) (u : Nat → Int) (i : Nat) (q : Int) (j gx gy : Nat) (xs ys : List Bool) (wr : World) : Prop where
  below : Below W0.heap.size W0 wr
  hx : BRow wr gx xs
  hy : BRow wr gy ys
  ft : FromTo a u i q j xs ys
def Circle (a : Au) (l : La) (q : Int) (m : Nat) : Prop := Way a l.at true l.h.length q (l.h.length + l.l.length * m) q
theorem La.at_loop {l : La} {m i : Nat} (hi : i < l.l.length) : l.at (l.h.length + l.l.length * m + i) = l.l[i] := by
  unfold La.at
  rw [if_neg (by omega), show l.h.length + l.l.length * m + i - l.h.length = i + l.l.length * m by omega, Nat.add_mul_mod_self_left, Nat.mod_eq_of_lt hi, List.getD_eq_getElem?_getD, List.getElem?_eq_getElem hi]
  rfl

end Go.Proofs.YtoglgeaiiipchabGreatDoor

namespace Go.Proofs.YtoglgeaiiipchabGreatDoor
open Go Go.RowKit Go.Sort

/-- an automaton and a lasso in variables -/
def alW (w : World) (a : Au) (A B C : Option Addr) (ca cb cc : Nat) (l : La) (D E : Option Addr) (cd ce : Nat) : World :=
  (auW w a A B C ca cb cc).alloc (Obj.cells #[.slice D l.h.length cd, .slice E l.l.length ce] 28)
structure AlAt (W : World) (V : Nat) (a : Au) (A B C : Option Addr) (ca cb cc : Nat) (l : La) (D E : Option Addr) (cd ce : Nat) : Prop where
  lt : V + 1 < W.heap.size
  au : AuAt W V a A B C ca cb cc
  l0 : W.cell? ⟨V + 1, 0, none⟩ = some (.slice D l.h.length cd)
  l1 : W.cell? ⟨V + 1, 1, none⟩ = some (.slice E l.l.length ce)
theorem AlAt.below {W W' : World} {V n : Nat} {a : Au} {A B C : Option Addr} {ca cb cc : Nat} {l : La} {D E : Option Addr} {cd ce : Nat} (h : AlAt W V a A B C ca cb cc l D E cd ce) (hb : Below n W W') (hn : V + 1 < n) : AlAt W' V a A B C ca cb cc l D E cd ce :=
  ⟨Nat.lt_of_lt_of_le h.lt hb.size, h.au.below hb (by omega), (cell_on3 hb hn).trans h.l0, (cell_on3 hb hn).trans h.l1⟩
structure AlW (w W : World) (a : Au) (A B C : Option Addr) (ca cb cc : Nat) (l : La) (D E : Option Addr) (cd ce V : Nat) : Prop where
  below : Below w.heap.size w W
  size : W.heap.size = V + 1 + 1
  at_ : AlAt W V a A B C ca cb cc l D E cd ce
theorem alW_is (w : World) (a : Au) (A B C : Option Addr) (ca cb cc : Nat) (l : La) (D E : Option Addr) (cd ce : Nat) : AlW w (alW w a A B C ca cb cc l D E cd ce) a A B C ca cb cc l D E cd ce w.heap.size := by
  have h := auW_is w a A B C ca cb cc
  have hb : Below (auW w a A B C ca cb cc).heap.size (auW w a A B C ca cb cc) (alW w a A B C ca cb cc l D E cd ce) := (Below.refl _ _).alloc (Nat.le_refl _) _
  have hs : (alW w a A B C ca cb cc l D E cd ce).heap.size = w.heap.size + 1 + 1 := by unfold alW; simp [h.size]
  refine ⟨Below_on h.below hb h.below.size, hs, by omega, h.at.below hb (by rw [h.size]; omega), ?_, ?_⟩
  · unfold alW auW; go_simp
  · unfold alW auW; go_simp
/-- the set of the states that the first ones lead to, in memory -/
structure NwAt (W0 : World) (a : Au) (u : Nat → Int) (j g : Nat) (xs : List Bool) (wr : World) : Prop where
  below : Below W0.heap.size W0 wr
  hx : BRow wr g xs
  now : NowAt a u j xs
/-- the set of all states at the beginnings of loops, in memory -/
structure AlSet (a : Au) (l : La) (k : Nat) (zs : List Bool) : Prop where
  lz : (zs.length : Int) = a.st
  sz : ∀ p, InS zs p ↔ LoopAt a l k p
theorem LoopAt.succ {a : Au} {l : La} {k : Nat} {p : Int} : LoopAt a l (k + 1) p ↔ LoopAt a l k p ∨ ∃ f ∈ a.fs, Way a l.at false 0 f (l.h.length + l.l.length * k) p := by
  constructor
  · rintro ⟨i, hi, h⟩
    rcases Nat.lt_or_ge i k with h1 | h1
    · exact .inl ⟨i, h1, h⟩
    · obtain rfl : i = k := by omega
      exact .inr h
  · rintro (⟨i, hi, h⟩ | h)
    · exact ⟨i, by omega, h⟩
    · exact ⟨k, by omega, h⟩

/-- a round over the states: those that are in now, ahead of number i, put in -/
structure AddTo (xs zs zs2 : List Bool) (i : Nat) (b : Bool) : Prop where
  len : zs2.length = zs.length
  is : ∀ p, InS zs2 p ↔ InS zs p ∨ (InS xs p ∧ p < i)
  no : b = false → zs2 = zs
  yes : b = true → zs2.count false < zs.count false
theorem AddTo.start (xs zs : List Bool) : AddTo xs zs zs 0 false := ⟨rfl, fun p => ⟨.inl, fun h => h.elim id fun ⟨h1, h2⟩ => absurd h1.1 (by omega)⟩, fun _ => rfl, fun h => by cases h⟩
theorem AddTo.skip {xs zs zs2 : List Bool} {i : Nat} {b : Bool} (h : AddTo xs zs zs2 i b) (hs : xs.getD i false = true → zs2.getD i false = true) : AddTo xs zs zs2 (i + 1) b := by
  refine ⟨h.len, fun p => ?_, h.no, h.yes⟩
  rw [h.is p]
  constructor
  · rintro (h1 | ⟨h1, h2⟩)
    · exact .inl h1
    · exact .inr ⟨h1, by omega⟩
  · rintro (h1 | ⟨h1, h2⟩)
    · exact .inl h1
    · rcases Int.lt_or_le p i with h3 | h3
      · exact .inr ⟨h1, h3⟩
      · obtain rfl : p = (i : Int) := by omega
        have h4 : InS zs2 (i : Int) := ⟨by omega, hs h1.2⟩
        rcases (h.is (i : Int)).1 h4 with h5 | ⟨_, h5⟩
        · exact .inl h5
        · omega
theorem AddTo.put {xs zs zs2 : List Bool} {i : Nat} {b : Bool} (h : AddTo xs zs zs2 i b) (hi : i < zs2.length) (hx : xs.getD i false = true) (hz : zs2.getD i false = false) : AddTo xs zs (zs2.set i true) (i + 1) true := by
  refine ⟨by rw [List.length_set]; exact h.len, fun p => ?_, fun h => (by cases h), fun _ => ?_⟩
  · have := InS_set (xs := zs2) (p := (i : Int)) (q := p) ⟨by omega, by omega⟩
    rw [Int.toNat_natCast] at this
    rw [this, h.is p]
    constructor
    · rintro ((h1 | ⟨h1, h2⟩) | rfl)
      · exact .inl h1
      · exact .inr ⟨h1, by omega⟩
      · exact .inr ⟨⟨by omega, hx⟩, by omega⟩
    · rintro (h1 | ⟨h1, h2⟩)
      · exact .inl (.inl h1)
      · rcases Int.lt_or_le p i with h3 | h3
        · exact .inl (.inr ⟨h1, h3⟩)
        · exact .inr (by omega)
  · have h1 := cntS_more (s := true) zs2 i hi hz
    cases b with
    | false => rw [h.no rfl] at h1 ⊢; omega
    | true => have := h.yes rfl; omega
theorem AddTo.more {a : Au} {l : La} {j n : Nat} {xs zs zs2 : List Bool} (h : AddTo xs zs zs2 n true) (hx : NowAt a l.at (l.h.length + l.l.length * j) xs) (hl : xs.length = n) (hz : AlSet a l j zs) : AlSet a l (j + 1) zs2 := by
  refine ⟨by rw [h.len]; exact hz.lz, fun p => ?_⟩
  rw [h.is p, hz.sz p, LoopAt.succ, ← hx.sx p]
  constructor
  · rintro (h1 | ⟨h1, _⟩)
    · exact .inl h1
    · exact .inr h1
  · rintro (h1 | h1)
    · exact .inl h1
    · exact .inr ⟨h1, by have := InS_lt h1; have := h1.1; omega⟩
theorem AddTo.done {a : Au} {l : La} {j n : Nat} {xs zs zs2 : List Bool} (hp : 0 < l.l.length) (h : AddTo xs zs zs2 n false) (hx : NowAt a l.at (l.h.length + l.l.length * j) xs) (hl : xs.length = n) (hz : AlSet a l j zs) :
    ∀ p, InS zs2 p ↔ ∃ j, ∃ f ∈ a.fs, Way a l.at false 0 f (l.h.length + l.l.length * j) p := by
  have e := h.no rfl
  intro p
  rw [e, hz.sz p]
  constructor
  · rintro ⟨i, _, h1⟩; exact ⟨i, h1⟩
  · rintro ⟨j', h1⟩
    refine loopAt_all hp (fun q hq => ?_) j' p h1
    have hq' := (hx.sx q).2 hq
    have : InS zs2 q := (h.is q).2 (.inr ⟨hq', by have := InS_lt hq'; have := hq'.1; omega⟩)
    rw [e] at this
    exact (hz.sz q).1 this
end Go.Proofs.YtoglgeaiiipchabGreatDoor
