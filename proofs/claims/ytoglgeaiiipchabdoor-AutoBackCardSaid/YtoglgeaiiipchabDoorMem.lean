/- Reading predicates: a slice value that reads as a list of numbers, bools, steps or nodes in a world; that these readings stay while memory below is kept. -/
import Derived.WalkKit
import Derived.WalkLawsBesides
import Derived.Below
import Derived.Outline
import Derived.Deep.QuietTactic
import Derived.BigQuiet
import Derived.Lib.Hide
import Derived.Handy
import Derived.OneCell
import Derived.Laws.AppendOwn
import Derived.Laws.OwnMore
import Derived.Laws.MakeOwn
import Derived.OwnWalk
import Derived.Maps.AppendAt
import Derived.Deep.RegionHeld3
import Derived.Deep.AppendLies
namespace Go.Proofs.YtoglgeaiiipchabDoor
open Go Go.RowKit

def vi (n : Int) : Value := .int .i64 n
def vb (b : Bool) : Value := .bool b
structure Stp where
  f : Int
  l : Int
  t : Int
  deriving DecidableEq
structure Nd where
  k : Int
  a : Int
  b : Int
  n : Int
  deriving DecidableEq
structure Au where
  st : Int
  le : Int
  fs : List Int
  gs : List Bool
  ss : List Stp
  deriving DecidableEq
structure La where
  h : List Int
  l : List Int
  deriving DecidableEq
def Stp.cells (s : Stp) : List Value := [.int .i64 s.f, .int .i64 s.l, .int .i64 s.t]
def Nd.cells (x : Nd) : List Value := [.int .i64 x.k, .int .i64 x.a, .int .i64 x.b, .int .i64 x.n]

theorem ret_bool {a b : Bool} (h : a = b) : Ending.returned (.bool a) = Ending.returned (.bool b) := by rw [h]
theorem ret_int {k : IntKind} {a b : Int} (h : a = b) : Ending.returned (.int k a) = Ending.returned (.int k b) := by rw [h]

theorem below_drewN {B : Nat} {a w : World} (h : Below B a w) (n : Nat) : Below B a (w.drewN n) := ⟨h.os, h.tape, h.output, h.size, h.block⟩
theorem bcell {W w1 : World} {B : Nat} (hb : Below B W w1) : (∀ b o, b < B → w1.cell? ⟨b, o, none⟩ = W.cell? ⟨b, o, none⟩) ∧ (∀ b o, b < B → w1.frozen? ⟨b, o, none⟩ = W.frozen? ⟨b, o, none⟩) :=
  ⟨fun b o h => hb.cell (p := ⟨b, o, none⟩) h, fun b o h => hb.frozen (p := ⟨b, o, none⟩) h⟩
/-- a step on from a chain of kept memory -/
theorem Below_on {B B' : Nat} {a w w' : World} (h : Below B a w) (k : Below B' w w') (hB : B ≤ B') : Below B a w' := h.trans (k.mono hB)

/-- what a slice's cells hold, from block lo on -/
def Rd (w : World) (lo : Nat) (A : Option Addr) (xs : List Value) : Prop :=
  xs ≠ [] → ∃ b off, A = some ⟨b, off, none⟩ ∧ lo ≤ b ∧ b < w.heap.size ∧ ∀ j u, xs[j]? = some u → w.cell? ⟨b, off + j, none⟩ = some u

structure SlE {α : Type} (enc : α → List Value) (bt : Nat) (w : World) (lo : Nat) (A : Option Addr) (c : Nat) (xs : List α) : Prop where
  le : xs.length ≤ c
  cap : c ≤ 9223372036854775807
  max : xs.length * bt ≤ 140737488351232
  rd : Rd w lo A (xs.flatMap enc)

theorem flatMap_get {α : Type} {enc : α → List Value} {sz : Nat} (hsz : ∀ x, (enc x).length = sz) : ∀ (xs : List α) (k : Nat) (hk : k < xs.length) (i : Nat) (u : Value),
    (enc xs[k])[i]? = some u → (xs.flatMap enc)[k * sz + i]? = some u := by
  intro xs
  induction xs with
  | nil => intro k hk; simp at hk
  | cons x xs ih =>
    intro k hk i u hu
    cases k with
    | zero =>
      simp only [List.getElem_cons_zero] at hu
      have hi : i < (enc x).length := (List.getElem?_eq_some_iff.1 hu).1
      rw [List.flatMap_cons, Nat.zero_mul, Nat.zero_add, List.getElem?_append_left hi]
      exact hu
    | succ k =>
      simp only [List.getElem_cons_succ] at hu
      have := ih k (by simpa using hk) i u hu
      have h1 : (enc x).length ≤ (k + 1) * sz + i := by rw [hsz, Nat.succ_mul]; omega
      rw [List.flatMap_cons, List.getElem?_append_right h1, hsz]
      have e : (k + 1) * sz + i - sz = k * sz + i := by rw [Nat.succ_mul]; omega
      rw [e]
      exact this

theorem Rd.below {w w' : World} {lo : Nat} {A : Option Addr} {xs : List Value} {B : Nat} (h : Rd w lo A xs) (hb : Below B w w') (hB : w.heap.size ≤ B) : Rd w' lo A xs := by
  intro hne
  obtain ⟨b, off, hA, hlo, hlt, hc⟩ := h hne
  exact ⟨b, off, hA, hlo, Nat.lt_of_lt_of_le hlt hb.size, fun j u hu => (hb.cell (p := ⟨b, off + j, none⟩) (Nat.lt_of_lt_of_le hlt hB)).trans (hc j u hu)⟩
theorem Rd.low {w : World} {lo lo' : Nat} {A : Option Addr} {xs : List Value} (h : Rd w lo A xs) (hl : lo' ≤ lo) : Rd w lo' A xs := by
  intro hne
  obtain ⟨b, off, hA, hlo, hlt, hc⟩ := h hne
  exact ⟨b, off, hA, Nat.le_trans hl hlo, hlt, hc⟩
theorem Rd.nil {w : World} {lo : Nat} {A : Option Addr} : Rd w lo A [] := fun h => absurd rfl h

section
variable {α : Type} {enc : α → List Value} {bt : Nat} {w w' : World} {lo : Nat} {A : Option Addr} {c : Nat} {xs : List α}
theorem SlE.below {B : Nat} (h : SlE enc bt w lo A c xs) (hb : Below B w w') (hB : w.heap.size ≤ B := by exact Nat.le_refl _) : SlE enc bt w' lo A c xs := ⟨h.le, h.cap, h.max, h.rd.below hb hB⟩
theorem SlE.low {lo' : Nat} (h : SlE enc bt w lo A c xs) (hl : lo' ≤ lo) : SlE enc bt w lo' A c xs := ⟨h.le, h.cap, h.max, h.rd.low hl⟩
theorem SlE.zero (h : SlE enc bt w lo A c xs) : SlE enc bt w 0 A c xs := h.low (Nat.zero_le _)
theorem SlE.at (hsz : ∀ x, (enc x).length = (enc x).length) {sz : Nat} (hs : ∀ x, (enc x).length = sz) (hp : 0 < sz) (h : SlE enc bt w lo A c xs) {k : Nat} (hk : k < xs.length) :
    ∃ b off, A = some ⟨b, off, none⟩ ∧ lo ≤ b ∧ b < w.heap.size ∧ ∀ i u, (enc xs[k])[i]? = some u → w.cell? ⟨b, off + (k * sz + i), none⟩ = some u := by
  have hne : xs.flatMap enc ≠ [] := by
    intro he
    have hi : 0 < (enc xs[k]).length := by rw [hs]; exact hp
    have := flatMap_get hs xs k hk 0 _ (List.getElem?_eq_getElem hi)
    rw [he] at this
    simp at this
  obtain ⟨b, off, hA, hlo, hlt, hc⟩ := h.rd hne
  exact ⟨b, off, hA, hlo, hlt, fun i u hu => hc _ u (flatMap_get hs xs k hk i u hu)⟩
end

abbrev Ints := SlE (fun n : Int => [Value.int .i64 n]) 8
abbrev Bools := SlE (fun b : Bool => [Value.bool b]) 1
abbrev Stps := SlE Stp.cells 24
abbrev Nds := SlE Nd.cells 32

section
variable {w w' : World} {lo : Nat} {A : Option Addr} {c : Nat}
theorem Ints.at_ {xs : List Int} (h : Ints w lo A c xs) {k : Nat} (hk : k < xs.length) : ∃ b off, A = some ⟨b, off, none⟩ ∧ lo ≤ b ∧ b < w.heap.size ∧ w.cell? ⟨b, off + k, none⟩ = some (.int .i64 xs[k]) := by
  obtain ⟨b, off, hA, h1, h2, hc⟩ := SlE.at (fun _ => rfl) (sz := 1) (fun _ => rfl) (by decide) h hk
  exact ⟨b, off, hA, h1, h2, by simpa using hc 0 _ rfl⟩
theorem Bools.at_ {xs : List Bool} (h : Bools w lo A c xs) {k : Nat} (hk : k < xs.length) : ∃ b off, A = some ⟨b, off, none⟩ ∧ lo ≤ b ∧ b < w.heap.size ∧ w.cell? ⟨b, off + k, none⟩ = some (.bool xs[k]) := by
  obtain ⟨b, off, hA, h1, h2, hc⟩ := SlE.at (fun _ => rfl) (sz := 1) (fun _ => rfl) (by decide) h hk
  exact ⟨b, off, hA, h1, h2, by simpa using hc 0 _ rfl⟩
theorem Stps.at_ {xs : List Stp} (h : Stps w lo A c xs) {k : Nat} (hk : k < xs.length) : ∃ b off, A = some ⟨b, off, none⟩ ∧ lo ≤ b ∧ b < w.heap.size ∧
    w.cell? ⟨b, off + k * 3, none⟩ = some (.int .i64 xs[k].f) ∧ w.cell? ⟨b, off + k * 3 + 1, none⟩ = some (.int .i64 xs[k].l) ∧ w.cell? ⟨b, off + k * 3 + 2, none⟩ = some (.int .i64 xs[k].t) := by
  obtain ⟨b, off, hA, h1, h2, hc⟩ := SlE.at (fun _ => rfl) (sz := 3) (fun _ => rfl) (by decide) h hk
  exact ⟨b, off, hA, h1, h2, by simpa [Nat.add_assoc] using hc 0 _ rfl, by simpa [Nat.add_assoc] using hc 1 _ rfl, by simpa [Nat.add_assoc] using hc 2 _ rfl⟩
theorem Nds.at_ {xs : List Nd} (h : Nds w lo A c xs) {k : Nat} (hk : k < xs.length) : ∃ b off, A = some ⟨b, off, none⟩ ∧ lo ≤ b ∧ b < w.heap.size ∧
    w.cell? ⟨b, off + k * 4, none⟩ = some (.int .i64 xs[k].k) ∧ w.cell? ⟨b, off + k * 4 + 1, none⟩ = some (.int .i64 xs[k].a) ∧ w.cell? ⟨b, off + k * 4 + 2, none⟩ = some (.int .i64 xs[k].b) ∧ w.cell? ⟨b, off + k * 4 + 3, none⟩ = some (.int .i64 xs[k].n) := by
  obtain ⟨b, off, hA, h1, h2, hc⟩ := SlE.at (fun _ => rfl) (sz := 4) (fun _ => rfl) (by decide) h hk
  exact ⟨b, off, hA, h1, h2, by simpa [Nat.add_assoc] using hc 0 _ rfl, by simpa [Nat.add_assoc] using hc 1 _ rfl, by simpa [Nat.add_assoc] using hc 2 _ rfl, by simpa [Nat.add_assoc] using hc 3 _ rfl⟩
end
end Go.Proofs.YtoglgeaiiipchabDoor
