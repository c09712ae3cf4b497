/- Walks: slices.Clone of ints. -/
import Derived.WalkKit
import Derived.WalkLawsBesides
import Derived.Below
import Derived.Outline
import Derived.Deep.QuietTactic
import Derived.BigQuiet
import Derived.Lib.Hide
import Derived.Handy
import Derived.OneCell
import Derived.Laws.AppendOwn
import Derived.Laws.OwnMore
import Derived.Laws.MakeOwn
import Derived.OwnWalk
import Derived.Maps.AppendAt
import Derived.Deep.RegionHeld3
import Derived.Deep.AppendLies
import Derived.Test.YtoglgeaiiipchaaProg
import Derived.Lib.AppendZerosOnto
import Derived.WalkSpells
set_option linter.unusedSimpArgs false
set_option linter.unusedVariables false
namespace Go.Proofs.Ytoglgeaiiipchaa
open Go Go.RowKit

def vi (n : Int) : Value := .int .i64 n
def vb (b : Bool) : Value := .bool b
structure Stp where
  f : Int
  l : Int
  t : Int
  deriving DecidableEq
structure Nd where
  k : Int
  a : Int
  b : Int
  n : Int
  deriving DecidableEq
structure Au where
  st : Int
  le : Int
  fs : List Int
  gs : List Bool
  ss : List Stp
  deriving DecidableEq
structure La where
  h : List Int
  l : List Int
  deriving DecidableEq
def Stp.cells (s : Stp) : List Value := [.int .i64 s.f, .int .i64 s.l, .int .i64 s.t]
def Nd.cells (x : Nd) : List Value := [.int .i64 x.k, .int .i64 x.a, .int .i64 x.b, .int .i64 x.n]

theorem ret_bool {a b : Bool} (h : a = b) : Ending.returned (.bool a) = Ending.returned (.bool b) := by rw [h]
theorem ret_int {k : IntKind} {a b : Int} (h : a = b) : Ending.returned (.int k a) = Ending.returned (.int k b) := by rw [h]

theorem below_drewN {B : Nat} {a w : World} (h : Below B a w) (n : Nat) : Below B a (w.drewN n) := ⟨h.os, h.tape, h.output, h.size, h.block⟩
theorem bcell {W w1 : World} {B : Nat} (hb : Below B W w1) : (∀ b o, b < B → w1.cell? ⟨b, o, none⟩ = W.cell? ⟨b, o, none⟩) ∧ (∀ b o, b < B → w1.frozen? ⟨b, o, none⟩ = W.frozen? ⟨b, o, none⟩) :=
  ⟨fun b o h => hb.cell (p := ⟨b, o, none⟩) h, fun b o h => hb.frozen (p := ⟨b, o, none⟩) h⟩
/-- a step on from a chain of kept memory -/
theorem Below_on {B B' : Nat} {a w w' : World} (h : Below B a w) (k : Below B' w w') (hB : B ≤ B') : Below B a w' := h.trans (k.mono hB)

/-- what a slice's cells hold, from block lo on -/
def Rd (w : World) (lo : Nat) (A : Option Addr) (xs : List Value) : Prop :=
  xs ≠ [] → ∃ b off, A = some ⟨b, off, none⟩ ∧ lo ≤ b ∧ b < w.heap.size ∧ ∀ j u, xs[j]? = some u → w.cell? ⟨b, off + j, none⟩ = some u

structure SlE {α : Type} (enc : α → List Value) (bt : Nat) (w : World) (lo : Nat) (A : Option Addr) (c : Nat) (xs : List α) : Prop where
  le : xs.length ≤ c
  cap : c ≤ 9223372036854775807
  max : xs.length * bt ≤ 140737488351232
  rd : Rd w lo A (xs.flatMap enc)

theorem flatMap_get {α : Type} {enc : α → List Value} {sz : Nat} (hsz : ∀ x, (enc x).length = sz) : ∀ (xs : List α) (k : Nat) (hk : k < xs.length) (i : Nat) (u : Value),
    (enc xs[k])[i]? = some u → (xs.flatMap enc)[k * sz + i]? = some u := by
  intro xs
  induction xs with
  | nil => intro k hk; simp at hk
  | cons x xs ih =>
    intro k hk i u hu
    cases k with
    | zero =>
      simp only [List.getElem_cons_zero] at hu
      have hi : i < (enc x).length := (List.getElem?_eq_some_iff.1 hu).1
      rw [List.flatMap_cons, Nat.zero_mul, Nat.zero_add, List.getElem?_append_left hi]
      exact hu
    | succ k =>
      simp only [List.getElem_cons_succ] at hu
      have := ih k (by simpa using hk) i u hu
      have h1 : (enc x).length ≤ (k + 1) * sz + i := by rw [hsz, Nat.succ_mul]; omega
      rw [List.flatMap_cons, List.getElem?_append_right h1, hsz]
      have e : (k + 1) * sz + i - sz = k * sz + i := by rw [Nat.succ_mul]; omega
      rw [e]
      exact this

theorem Rd.below {w w' : World} {lo : Nat} {A : Option Addr} {xs : List Value} {B : Nat} (h : Rd w lo A xs) (hb : Below B w w') (hB : w.heap.size ≤ B) : Rd w' lo A xs := by
  intro hne
  obtain ⟨b, off, hA, hlo, hlt, hc⟩ := h hne
  exact ⟨b, off, hA, hlo, Nat.lt_of_lt_of_le hlt hb.size, fun j u hu => (hb.cell (p := ⟨b, off + j, none⟩) (Nat.lt_of_lt_of_le hlt hB)).trans (hc j u hu)⟩
theorem Rd.low {w : World} {lo lo' : Nat} {A : Option Addr} {xs : List Value} (h : Rd w lo A xs) (hl : lo' ≤ lo) : Rd w lo' A xs := by
  intro hne
  obtain ⟨b, off, hA, hlo, hlt, hc⟩ := h hne
  exact ⟨b, off, hA, Nat.le_trans hl hlo, hlt, hc⟩
theorem Rd.nil {w : World} {lo : Nat} {A : Option Addr} : Rd w lo A [] := fun h => absurd rfl h

section
variable {α : Type} {enc : α → List Value} {bt : Nat} {w w' : World} {lo : Nat} {A : Option Addr} {c : Nat} {xs : List α}
theorem SlE.below {B : Nat} (h : SlE enc bt w lo A c xs) (hb : Below B w w') (hB : w.heap.size ≤ B := by exact Nat.le_refl _) : SlE enc bt w' lo A c xs := ⟨h.le, h.cap, h.max, h.rd.below hb hB⟩
theorem SlE.low {lo' : Nat} (h : SlE enc bt w lo A c xs) (hl : lo' ≤ lo) : SlE enc bt w lo' A c xs := ⟨h.le, h.cap, h.max, h.rd.low hl⟩
theorem SlE.zero (h : SlE enc bt w lo A c xs) : SlE enc bt w 0 A c xs := h.low (Nat.zero_le _)
theorem SlE.at (hsz : ∀ x, (enc x).length = (enc x).length) {sz : Nat} (hs : ∀ x, (enc x).length = sz) (hp : 0 < sz) (h : SlE enc bt w lo A c xs) {k : Nat} (hk : k < xs.length) :
    ∃ b off, A = some ⟨b, off, none⟩ ∧ lo ≤ b ∧ b < w.heap.size ∧ ∀ i u, (enc xs[k])[i]? = some u → w.cell? ⟨b, off + (k * sz + i), none⟩ = some u := by
  have hne : xs.flatMap enc ≠ [] := by
    intro he
    have hi : 0 < (enc xs[k]).length := by rw [hs]; exact hp
    have := flatMap_get hs xs k hk 0 _ (List.getElem?_eq_getElem hi)
    rw [he] at this
    simp at this
  obtain ⟨b, off, hA, hlo, hlt, hc⟩ := h.rd hne
  exact ⟨b, off, hA, hlo, hlt, fun i u hu => hc _ u (flatMap_get hs xs k hk i u hu)⟩
end

abbrev Ints := SlE (fun n : Int => [Value.int .i64 n]) 8
abbrev Bools := SlE (fun b : Bool => [Value.bool b]) 1
abbrev Stps := SlE Stp.cells 24
abbrev Nds := SlE Nd.cells 32

section
variable {w w' : World} {lo : Nat} {A : Option Addr} {c : Nat}
theorem Ints.at_ {xs : List Int} (h : Ints w lo A c xs) {k : Nat} (hk : k < xs.length) : ∃ b off, A = some ⟨b, off, none⟩ ∧ lo ≤ b ∧ b < w.heap.size ∧ w.cell? ⟨b, off + k, none⟩ = some (.int .i64 xs[k]) := by
  obtain ⟨b, off, hA, h1, h2, hc⟩ := SlE.at (fun _ => rfl) (sz := 1) (fun _ => rfl) (by decide) h hk
  exact ⟨b, off, hA, h1, h2, by simpa using hc 0 _ rfl⟩
theorem Bools.at_ {xs : List Bool} (h : Bools w lo A c xs) {k : Nat} (hk : k < xs.length) : ∃ b off, A = some ⟨b, off, none⟩ ∧ lo ≤ b ∧ b < w.heap.size ∧ w.cell? ⟨b, off + k, none⟩ = some (.bool xs[k]) := by
  obtain ⟨b, off, hA, h1, h2, hc⟩ := SlE.at (fun _ => rfl) (sz := 1) (fun _ => rfl) (by decide) h hk
  exact ⟨b, off, hA, h1, h2, by simpa using hc 0 _ rfl⟩
theorem Stps.at_ {xs : List Stp} (h : Stps w lo A c xs) {k : Nat} (hk : k < xs.length) : ∃ b off, A = some ⟨b, off, none⟩ ∧ lo ≤ b ∧ b < w.heap.size ∧
    w.cell? ⟨b, off + k * 3, none⟩ = some (.int .i64 xs[k].f) ∧ w.cell? ⟨b, off + k * 3 + 1, none⟩ = some (.int .i64 xs[k].l) ∧ w.cell? ⟨b, off + k * 3 + 2, none⟩ = some (.int .i64 xs[k].t) := by
  obtain ⟨b, off, hA, h1, h2, hc⟩ := SlE.at (fun _ => rfl) (sz := 3) (fun _ => rfl) (by decide) h hk
  exact ⟨b, off, hA, h1, h2, by simpa [Nat.add_assoc] using hc 0 _ rfl, by simpa [Nat.add_assoc] using hc 1 _ rfl, by simpa [Nat.add_assoc] using hc 2 _ rfl⟩
theorem Nds.at_ {xs : List Nd} (h : Nds w lo A c xs) {k : Nat} (hk : k < xs.length) : ∃ b off, A = some ⟨b, off, none⟩ ∧ lo ≤ b ∧ b < w.heap.size ∧
    w.cell? ⟨b, off + k * 4, none⟩ = some (.int .i64 xs[k].k) ∧ w.cell? ⟨b, off + k * 4 + 1, none⟩ = some (.int .i64 xs[k].a) ∧ w.cell? ⟨b, off + k * 4 + 2, none⟩ = some (.int .i64 xs[k].b) ∧ w.cell? ⟨b, off + k * 4 + 3, none⟩ = some (.int .i64 xs[k].n) := by
  obtain ⟨b, off, hA, h1, h2, hc⟩ := SlE.at (fun _ => rfl) (sz := 4) (fun _ => rfl) (by decide) h hk
  exact ⟨b, off, hA, h1, h2, by simpa [Nat.add_assoc] using hc 0 _ rfl, by simpa [Nat.add_assoc] using hc 1 _ rfl, by simpa [Nat.add_assoc] using hc 2 _ rfl, by simpa [Nat.add_assoc] using hc 3 _ rfl⟩
end
end Go.Proofs.Ytoglgeaiiipchaa

namespace Go.Proofs.Ytoglgeaiiipchaa
open Go Go.RowKit

theorem Addr_add_off (b o n : Nat) : (⟨b, o, none⟩ : Addr).add n = ⟨b, o + n, none⟩ := by
  unfold Addr.add
  by_cases h : n = 0
  · simp [h]
  · simp [h]

/-- what the call made, as a reading -/
theorem own_form {w : World} {base : Nat} {e : TypeId} {size n : Nat} {v : Value} {xs : List Value} (h : w.ownsRow base e size v n xs) :
    ∃ A c, v = .slice A n c ∧ n ≤ c ∧ c ≤ 9223372036854775807 ∧ Rd w base A xs ∧ (∀ b off, A = some ⟨b, off, none⟩ → base ≤ b ∧ b < w.heap.size ∧ ∀ j, w.frozen? ⟨b, off + j, none⟩ = false) := by
  obtain ⟨hl, h2⟩ := h
  rcases h2 with ⟨rfl, rfl⟩ | ⟨g, cap, cur, rfl, hg, hh, hn, hc, hs, ht⟩
  · have hx : xs = [] := List.eq_nil_of_length_eq_zero (by simpa using hl)
    subst hx
    exact ⟨none, 0, rfl, Nat.le_refl _, by omega, Rd.nil, fun b off h => by simp at h⟩
  · have hlt : g < w.heap.size := by
      rcases Nat.lt_or_ge g w.heap.size with h | h
      · exact h
      · rw [Array.getElem?_eq_none h] at hh; cases hh
    refine ⟨some ⟨g, 0, none⟩, cap, rfl, hn, by simpa [maxLen] using hc, fun _ => ⟨g, 0, rfl, hg, hlt, fun j u hu => ?_⟩, fun b off hA => ?_⟩
    · have hj : j < n * size := by
        have := (List.getElem?_eq_some_iff.1 hu).1
        rw [hl] at this
        exact this
      rw [← ht, List.getElem?_take_of_lt hj] at hu
      simp only [World.cell?, Nat.zero_add, hh]
      simpa using hu
    · simp at hA
      obtain ⟨rfl, rfl⟩ := hA
      exact ⟨hg, hlt, fun j => by simp [World.frozen?, hh]⟩

section
variable {P : Program} (w : World)
theorem run_app (base : Nat) (t ty e : TypeId) (i : TypeInfo) (z : Value) (size bytes : Nat) (ht : P.underlying t = some (.slice e)) (hi : P.info? e = some i) (hz : i.zero = some z)
    (hsize : i.size = size) (hby : i.bytes = bytes) (hzs : z.cells.size = size) (hsz : 0 < size)
    (v : Value) (n : Nat) (xs : List Value) (hown : w.ownsRow base e size v n xs)
    (A : Option Addr) (m c : Nat) (news : List Value) (hl : news.length = m * size) (hr : Rd w 0 A news) (h1 : ∀ u ∈ news, u.oneCell' = true)
    (h63 : n + m ≤ maxLen) (hbytes : (n + m) * bytes ≤ 140737488355328) (hbase : base ≤ w.heap.size) :
    ∃ v' w', (Builtin.append_ #[t, t] ty #[v, .slice A m c]).run P w = .ok v' w' ∧ w'.ownsRow base e size v' (n + m) (xs ++ news) ∧ w.grownBy w' v.ownBlock ∧
      (v'.ownBlock = v.ownBlock ∨ v'.ownBlock = some w.heap.size) := by
  by_cases hn : news = []
  · subst hn
    have hm : m = 0 := by
      rcases Nat.eq_zero_or_pos m with h | h
      · exact h
      · have := Nat.mul_pos h hsz
        rw [← hl] at this
        simp at this
    subst hm
    cases A with
    | none =>
      refine ⟨v, w, ?_, by simpa using hown, World.grownBy.refl w _, .inl rfl⟩
      rcases hown.2 with ⟨rfl, rfl⟩ | ⟨g, cap, cur, rfl, _, _, hnc, _⟩
      · simp [Builtin.append_, run_underlying ht, sizeOf, typeInfo, hi, Builtin.lenOf, Builtin.firstCells]
      · simp [Builtin.append_, run_underlying ht, sizeOf, typeInfo, hi, Builtin.lenOf, Builtin.firstCells, hnc, storeCells]
    | some a =>
      obtain ⟨v', w', r1, r2, r3, _, r5⟩ := run_append_own_at (P := P) w base t ty e i z size bytes ht hi hz hsize hby hzs hsz v n xs hown a 0 c [] hl (by simp) h1 h63 hbytes hbase
      exact ⟨v', w', r1, r2, r3, r5⟩
  · obtain ⟨b, off, rfl, _, _, hc⟩ := hr hn
    obtain ⟨v', w', r1, r2, r3, _, r5⟩ := run_append_own_at (P := P) w base t ty e i z size bytes ht hi hz hsize hby hzs hsz v n xs hown ⟨b, off, none⟩ m c news hl
      (fun j u hu => by rw [Addr_add_off]; exact hc j u hu) h1 h63 hbytes hbase
    exact ⟨v', w', r1, r2, r3, r5⟩

theorem wp_app {o : Oper} {a : Act} {K : Act → World → Prop} {Q : Exit → Act → World → Prop} (s x : Operand) (t : TypeId)
    (ho : o.op = .call { callee := .builtin .append, args := #[s, x], argTypes := #[t, t] })
    (base : Nat) (e : TypeId) (i : TypeInfo) (z : Value) (size bytes : Nat) (ht : P.underlying t = some (.slice e)) (hi : P.info? e = some i) (hz : i.zero = some z)
    (hsize : i.size = size) (hby : i.bytes = bytes) (hzs : z.cells.size = size) (hsz : 0 < size)
    (v : Value) (n : Nat) (xs : List Value) (hs : a.eval s = v) (hown : w.ownsRow base e size v n xs)
    (A : Option Addr) (m c : Nat) (news : List Value) (hx : a.eval x = .slice A m c) (hl : news.length = m * size) (hr : Rd w 0 A news) (h1 : ∀ u ∈ news, u.oneCell' = true)
    (h63 : n + m ≤ maxLen) (hbytes : (n + m) * bytes ≤ 140737488355328) (hbase : base ≤ w.heap.size)
    (h : ∀ v' w', w'.ownsRow base e size v' (n + m) (xs ++ news) → w.grownBy w' v.ownBlock → (v'.ownBlock = v.ownBlock ∨ v'.ownBlock = some w.heap.size) → K (a.put o.dst v') w') : o.wp P a w K Q := by
  obtain ⟨v', w', hrun, h2, h3, h4⟩ := run_app (P := P) w base t o.type e i z size bytes ht hi hz hsize hby hzs hsz v n xs hown A m c news hl hr h1 h63 hbytes hbase
  unfold Oper.wp execOp
  simp only [ho, resolve, invoke, builtin, Sem.run_bind, Sem.run_pure, Result.andThen_ok, List.map_toArray, List.map_cons, List.map_nil, hs, hx, hrun]
  exact h v' w' h2 h3 h4

theorem wpList_app {ops : Array Oper} {rest : List Oper} {o : Oper} {a : Act} {Q : Exit → Act → World → Prop} (hgd : o.guard = none) (s x : Operand) (t : TypeId)
    (ho : o.op = .call { callee := .builtin .append, args := #[s, x], argTypes := #[t, t] })
    (base : Nat) (e : TypeId) (i : TypeInfo) (z : Value) (size bytes : Nat) (ht : P.underlying t = some (.slice e)) (hi : P.info? e = some i) (hz : i.zero = some z)
    (hsize : i.size = size) (hby : i.bytes = bytes) (hzs : z.cells.size = size) (hsz : 0 < size)
    (v : Value) (n : Nat) (xs : List Value) (hs : a.eval s = v) (hown : w.ownsRow base e size v n xs)
    (A : Option Addr) (m c : Nat) (news : List Value) (hx : a.eval x = .slice A m c) (hl : news.length = m * size) (hr : Rd w 0 A news) (h1 : ∀ u ∈ news, u.oneCell' = true)
    (h63 : n + m ≤ maxLen) (hbytes : (n + m) * bytes ≤ 140737488355328) (hbase : base ≤ w.heap.size)
    (h : ∀ v' w', w'.ownsRow base e size v' (n + m) (xs ++ news) → w.grownBy w' v.ownBlock → (v'.ownBlock = v.ownBlock ∨ v'.ownBlock = some w.heap.size) → wpList P ops Q rest (a.put o.dst v') w') : wpList P ops Q (o :: rest) a w :=
  wpList_plain hgd fun _ hK => wp_app w s x t ho base e i z size bytes ht hi hz hsize hby hzs hsz v n xs hs hown A m c news hx hl hr h1 h63 hbytes hbase fun v' w' h2 h3 h4 => hK _ _ (h v' w' h2 h3 h4)

theorem step_app {ops : Array Oper} {o : Oper} {a : Act} {K : Act → World → Prop} {Q : Exit → Act → World → Prop} {E : Prop} (hgd : o.guard = none) (s x : Operand) (t : TypeId)
    (ho : o.op = .call { callee := .builtin .append, args := #[s, x], argTypes := #[t, t] })
    (base : Nat) (e : TypeId) (i : TypeInfo) (z : Value) (size bytes : Nat) (ht : P.underlying t = some (.slice e)) (hi : P.info? e = some i) (hz : i.zero = some z)
    (hsize : i.size = size) (hby : i.bytes = bytes) (hzs : z.cells.size = size) (hsz : 0 < size)
    (v : Value) (n : Nat) (xs : List Value) (hs : a.eval s = v) (hown : w.ownsRow base e size v n xs)
    (A : Option Addr) (m c : Nat) (news : List Value) (hx : a.eval x = .slice A m c) (hl : news.length = m * size) (hr : Rd w 0 A news) (h1 : ∀ u ∈ news, u.oneCell' = true)
    (h63 : n + m ≤ maxLen) (hbytes : (n + m) * bytes ≤ 140737488355328) (hbase : base ≤ w.heap.size)
    (h : ∀ v' w', w'.ownsRow base e size v' (n + m) (xs ++ news) → w.grownBy w' v.ownBlock → (v'.ownBlock = v.ownBlock ∨ v'.ownBlock = some w.heap.size) → K (a.put o.dst v') w') :
    if Region.wanted o (yielded ops a.tmps) = true then Oper.wp P o a w K Q else E := by
  have hw : Region.wanted o (yielded ops a.tmps) = true := by simp [Region.wanted, hgd]
  rw [if_pos hw]
  exact wp_app w s x t ho base e i z size bytes ht hi hz hsize hby hzs hsz v n xs hs hown A m c news hx hl hr h1 h63 hbytes hbase h
end

/-- an append whose run is known -/
theorem wpList_appRun {P : Program} {w w' : World} {ops : Array Oper} {rest : List Oper} {o : Oper} {a : Act} {Q : Exit → Act → World → Prop} (hgd : o.guard = none) (s x : Operand) (t tn : TypeId)
    (ho : o.op = .call { callee := .builtin .append, args := #[s, x], argTypes := #[t, tn] }) (v u r : Value) (hs : a.eval s = v) (hx : a.eval x = u)
    (hrun : (Builtin.append_ #[t, tn] o.type #[v, u]).run P w = .ok r w') (h : wpList P ops Q rest (a.put o.dst r) w') : wpList P ops Q (o :: rest) a w :=
  wpList_plain hgd fun K hK => by
    unfold Oper.wp execOp
    simp only [ho, resolve, invoke, builtin, Sem.run_bind, Sem.run_pure, Result.andThen_ok, List.map_toArray, List.map_cons, List.map_nil, hs, hx, hrun]
    exact hK _ _ h
theorem grownOwn_ {B base : Nat} {a w w' : World} {e : TypeId} {size n : Nat} {v : Value} {xs : List Value} (h : Below B a w) (hg : w.grownBy w' v.ownBlock) (hown : w.ownsRow base e size v n xs) (hB : B ≤ base) (hw : B ≤ w.heap.size) : Below B a w' :=
  h.grown hg hw fun k hk => Nat.le_trans hB (hown.lt k hk).1
theorem ints_oneCell (xs : List Int) : ∀ u ∈ xs.flatMap (fun n : Int => [Value.int .i64 n]), u.oneCell' = true := by
  intro u hu
  simp only [List.mem_flatMap, List.mem_singleton] at hu
  obtain ⟨a, _, rfl⟩ := hu
  rfl
theorem bools_oneCell (xs : List Bool) : ∀ u ∈ xs.flatMap (fun b : Bool => [Value.bool b]), u.oneCell' = true := by
  intro u hu
  simp only [List.mem_flatMap, List.mem_singleton] at hu
  obtain ⟨a, _, rfl⟩ := hu
  rfl
theorem stps_oneCell (xs : List Stp) : ∀ u ∈ xs.flatMap Stp.cells, u.oneCell' = true := by
  intro u hu
  simp only [List.mem_flatMap, Stp.cells, List.mem_cons, List.not_mem_nil, or_false] at hu
  obtain ⟨a, _, rfl | rfl | rfl⟩ := hu <;> rfl
theorem nds_oneCell (xs : List Nd) : ∀ u ∈ xs.flatMap Nd.cells, u.oneCell' = true := by
  intro u hu
  simp only [List.mem_flatMap, Nd.cells, List.mem_cons, List.not_mem_nil, or_false] at hu
  obtain ⟨a, _, rfl | rfl | rfl | rfl⟩ := hu <;> rfl
theorem flatMap_len {α : Type} {enc : α → List Value} {sz : Nat} (hsz : ∀ x, (enc x).length = sz) (xs : List α) : (xs.flatMap enc).length = xs.length * sz := by
  induction xs with
  | nil => simp
  | cons x xs ih => rw [List.flatMap_cons, List.length_append, hsz, ih, List.length_cons, Nat.succ_mul]; omega
/-- a row that the call made reads as the list -/
theorem SlE.of_own {α : Type} {enc : α → List Value} {bt sz : Nat} {w : World} {base : Nat} {e : TypeId} {v : Value} {xs : List α} (h : w.ownsRow base e sz v xs.length (xs.flatMap enc)) (hb : xs.length * bt ≤ 140737488351232) :
    ∃ A c, v = .slice A xs.length c ∧ SlE enc bt w base A c xs := by
  obtain ⟨A, c, rfl, h1, h2, h3, _⟩ := own_form h
  exact ⟨A, c, rfl, h1, h2, hb, h3⟩
theorem own_empty {w : World} {base : Nat} (e : TypeId) (size : Nat) (hb : base ≤ w.heap.size) : (w.alloc (.cells #[] e)).ownsRow base e size (.slice (some ⟨w.heap.size, 0, none⟩) 0 0) 0 [] := by
  refine ⟨by simp, .inr ⟨w.heap.size, 0, #[], rfl, hb, ?_, Nat.le_refl _, by simp [maxLen], by simp, by simp⟩⟩
  show (w.heap.push _)[w.heap.size]? = _
  simp
theorem own_room {w : World} {base cap : Nat} {cs : Array Value} (e : TypeId) (size : Nat) (hb : base ≤ w.heap.size) (hm : cap ≤ maxLen) (hs : cs.size = cap * size) :
    (w.alloc (.cells cs e)).drew.ownsRow base e size (.slice (some ⟨w.heap.size, 0, none⟩) 0 cap) 0 [] := by
  refine ⟨by simp, .inr ⟨w.heap.size, cap, cs, rfl, hb, ?_, Nat.zero_le _, hm, hs, by simp⟩⟩
  show (w.heap.push _)[w.heap.size]? = _
  simp
theorem own_ne {w : World} {base : Nat} {e : TypeId} {size n : Nat} {v : Value} {xs : List Value} (h : w.ownsRow base e size v n xs) {b : Nat} (hb : b < base) : some b ≠ v.ownBlock := fun he => by
  have := (h.lt b he.symm).1
  omega
theorem own_drew {w : World} {base : Nat} {e : TypeId} {size n : Nat} {v : Value} {xs : List Value} (h : w.ownsRow base e size v n xs) : w.drew.ownsRow base e size v n xs := h
theorem own_below {w w' : World} {base : Nat} {e : TypeId} {size n : Nat} {v : Value} {xs : List Value} (h : w.ownsRow base e size v n xs) (hb : Below w.heap.size w w') : w'.ownsRow base e size v n xs := by
  obtain ⟨h1, h2⟩ := h
  refine ⟨h1, ?_⟩
  rcases h2 with h2 | ⟨g, cap, cur, hv, hg, hh, r⟩
  · exact .inl h2
  · refine .inr ⟨g, cap, cur, hv, hg, ?_, r⟩
    have hlt : g < w.heap.size := by
      rcases Nat.lt_or_ge g w.heap.size with h | h
      · exact h
      · rw [Array.getElem?_eq_none h] at hh; cases hh
    rw [hb.block g hlt]
    exact hh
end Go.Proofs.Ytoglgeaiiipchaa

namespace Go.Proofs.Ytoglgeaiiipchaa
open Go Go.RowKit
theorem infoInt : (Try.prog.info? 3).map (fun i => (i.zero, i.size, i.bytes)) = some (some (.int .i64 0), 1, 8) := by kernel_rfl
theorem infoBool : (Try.prog.info? 4).map (fun i => (i.zero, i.size, i.bytes)) = some (some (.bool false), 1, 1) := by kernel_rfl
theorem infoRow : (Try.prog.info? 37).map (fun i => (i.zero, i.size, i.bytes)) = some (some (.slice none 0 0), 1, 24) := by kernel_rfl
end Go.Proofs.Ytoglgeaiiipchaa

namespace Go.Proofs.Ytoglgeaiiipchaa
open Go Go.RowKit

/-- a row of bools that the call made, known whole -/
def BRow (w : World) (g : Nat) (xs : List Bool) : Prop := w.heap[g]? = some (.cells (xs.map Value.bool).toArray 4 (0, 0))
theorem BRow.below {w w' : World} {g : Nat} {xs : List Bool} (h : BRow w g xs) {B : Nat} (hb : Below B w w') (hg : g < B) : BRow w' g xs := (hb.block g hg).trans h
theorem BRow.lt {w : World} {g : Nat} {xs : List Bool} (h : BRow w g xs) : g < w.heap.size := by
  rcases Nat.lt_or_ge g w.heap.size with hl | hl
  · exact hl
  · unfold BRow at h
    rw [Array.getElem?_eq_none hl] at h
    cases h
theorem BRow.cell {w : World} {g : Nat} {xs : List Bool} (h : BRow w g xs) {i : Nat} (hi : i < xs.length) : w.cell? ⟨g, i, none⟩ = some (.bool xs[i]) ∧ w.frozen? ⟨g, i, none⟩ = false := by
  unfold BRow at h
  refine ⟨?_, ?_⟩
  · simp only [World.cell?, h]
    simp [hi]
  · simp only [World.frozen?, h]
    simp
theorem BRow.set_ {w : World} {g : Nat} {xs : List Bool} (h : BRow w g xs) (i : Nat) (v : Bool) : BRow (w.setCell ⟨g, i, none⟩ (.bool v)) g (xs.set i v) := by
  unfold BRow at h ⊢
  simp [World.setCell, Array.getElem?_modify, h]

theorem BRow.getD_ {w : World} {g : Nat} {xs : List Bool} (h : BRow w g xs) {i : Nat} (hi : i < xs.length) (s : Bool) : w.cell? ⟨g, i, none⟩ = some (.bool (xs.getD i s)) ∧ w.frozen? ⟨g, i, none⟩ = false := by
  have := h.cell hi
  rw [List.getD_eq_getElem?_getD, List.getElem?_eq_getElem hi]
  exact this
theorem flatMap_bool (xs : List Bool) : xs.flatMap (fun b : Bool => [Value.bool b]) = xs.map Value.bool := by
  induction xs with
  | nil => rfl
  | cons x r ih => rw [List.flatMap_cons, ih]; rfl
theorem BRow.bools {w : World} {g : Nat} {xs : List Bool} (h : BRow w g xs) (hl : xs.length ≤ 1000000) : Bools w g (some ⟨g, 0, none⟩) xs.length xs := by
  refine ⟨Nat.le_refl _, by omega, by omega, fun _ => ⟨g, 0, rfl, Nat.le_refl _, h.lt, fun j u hu => ?_⟩⟩
  rw [flatMap_bool] at hu
  unfold BRow at h
  simp only [World.cell?, h, Nat.zero_add]
  simpa using hu
theorem BRow.grown {w w' : World} {g : Nat} {xs : List Bool} {row : Option Nat} (h : BRow w g xs) (hg : w.grownBy w' row) (hne : some g ≠ row) : BRow w' g xs := (hg.block g h.lt hne).trans h
theorem BRow.set_far {w : World} {g : Nat} {xs : List Bool} (h : BRow w g xs) {p : Addr} (hp : g ≠ p.block) (u : Value) : BRow (w.setCell p u) g xs := (Below.heap_setCell w p u g hp).trans h
/-- how many of a row's cells are s -/
noncomputable def rowCnt (s : Bool) (g : Nat) (w : World) : Nat :=
  match w.heap[g]? with
  | some (.cells cs _ _) => (cs.toList.filter (fun v => match v with | .bool b => b == s | _ => false)).length
  | _ => 0
theorem rowCnt_eq {s : Bool} {g : Nat} {w : World} {xs : List Bool} (h : BRow w g xs) : rowCnt s g w = xs.count s := by
  unfold BRow at h
  unfold rowCnt
  rw [h]
  simp only [List.filter_map, List.length_map, List.count_eq_length_filter]
  congr 1

theorem BRow.new (w : World) (n : Nat) : BRow (w.alloc (Obj.cells (madeCells #[Value.bool false] n) 4)) w.heap.size (List.replicate n false) := by
  have e : madeCells #[Value.bool false] n = ((List.replicate n false).map Value.bool).toArray := by
    rw [List.map_replicate]
    unfold madeCells
    apply Array.ext
    · simp
    · intro i h1 h2
      simp [Nat.mod_one]
  show (w.heap.push _)[w.heap.size]? = _
  rw [e]
  simp
theorem run_makeBools (st : Int) (n : Nat) (hn : (n : Int) = st) (hl : n ≤ 1000000) : ∀ w, (Instr.makeSlice 37 (.int .i64 st) (.int .i64 st)).run Try.prog w = .ok (.slice (some ⟨w.heap.size, 0, none⟩) n n) (w.alloc (Obj.cells (madeCells #[Value.bool false] n) 4)) := by
  intro w
  obtain ⟨i0, hi0, hz0, hz1, hz2⟩ := info_parts infoBool
  have := run_make (P := Try.prog) w 37 4 i0 (.bool false) Try.underlying37 hi0 hz0 .i64 .i64 st st (by omega) (by omega) (by rw [hz2]; omega) (by omega)
  rw [this, ← hn, hz1]
  simp [Value.cells]
theorem BRow.alloc {w : World} {n g : Nat} {xs : List Bool} (h : BRow w g xs) : BRow (w.alloc (Obj.cells (madeCells #[Value.bool false] n) 4)) g xs := h.below ((Below.refl _ w).alloc (Nat.le_refl _) _) h.lt
end Go.Proofs.Ytoglgeaiiipchaa

namespace Go.Proofs.Ytoglgeaiiipchaa
open Go Go.RowKit

/-- what Grow leaves of nothing: room, and no element -/
def GrowPost (w : World) (t : TypeId) (e : Ending) (w' : World) : Prop :=
  ∃ v, e = .returned v ∧ w'.ownsRow w.heap.size t 1 v 0 [] ∧ Below w.heap.size w w'

set_option maxRecDepth 100000 in
theorem GrowI_ (n : Nat) (hn : n ≤ 100000000) (w : World) :
    Calls Try.prog 66 #[.slice none 0 0, .int .i64 n] w (GrowPost w 3) := by
  obtain ⟨i0, hi0, hz0, hz1, hz2⟩ := info_parts infoInt
  by_cases h0 : n = 0
  · subst h0
    have HP : Hid (GrowPost w 3 (.returned (.slice none 0 0)) w) := ⟨_, rfl, World.ownsRow_nil _ _ _ _, Below.refl _ _⟩
    go_enter Try.func66, Try.ntmps66
    go_wp2
    go_ret
    exact HP.out
  · have hp : 0 < n := by omega
    have hap := Lib.run_append_grow_zeros (P := Try.prog) w 24 3 24 3 i0 _ .i64 .i64 Try.underlying24 Try.underlying3 hi0 hz0 none 0 0 [] (by rw [hz1]; rfl) n hp (by omega) (by omega) (by omega) (by rw [hz2]; omega) (by rw [hz2, show Builtin.nextslicecap (0 + n) 0 = n by simp [Builtin.nextslicecap, hp]]; omega)
    have hcap := grownCap_ge w (0 + n) 0 3
    have hcap2 := grownCap_le_maxLen w (0 + n) 0 3 (by simp only [maxLen]; omega)
    simp only [Nat.zero_add] at hap hcap hcap2
    generalize grownCap w n 0 3 = cp at *
    go_enter Try.func66, Try.ntmps66
    have HAP := Lib.hid hap
    clear hap
    go_wp2_with (at_builtin; refine wpList_appRun rfl (.tmp 20) (.tmp 21) _ _ rfl _ _ _ rfl rfl HAP.out ?_)
    have HP : Hid (GrowPost w 3 (.returned (.slice (some ⟨w.heap.size, 0, none⟩) 0 cp)) (w.alloc (Obj.cells (Builtin.zeroCells #[Value.int IntKind.i64 0] n ++ Builtin.zeroCells #[Value.int IntKind.i64 0] (cp - n)) 3)).drew) := by
      refine ⟨_, rfl, own_room _ _ (Nat.le_refl _) (by simpa using hcap2) ?_, ((Below.refl _ _).alloc (Nat.le_refl _) _).drew⟩
      simp [Builtin.zeroCells]
      omega
    go_ret
    exact HP.out

/-- what Concat leaves: a row of its own -/
def CatPost (w : World) (xs : List Int) (e : Ending) (w' : World) : Prop :=
  ∃ A c, e = .returned (.slice A xs.length c) ∧ Ints w' w.heap.size A c xs ∧ Below w.heap.size w w'

set_option maxRecDepth 100000 in
set_option maxHeartbeats 1000000 in
theorem ConcatI_ (G : Nat) (A B : Option Addr) (ca cb : Nat) (xs ys : List Int) (w : World) (hx : Ints w 0 A ca xs) (hy : Ints w 0 B cb ys) (hl : xs.length + ys.length ≤ 100000000)
    (h0 : w.cell? ⟨G, 0, none⟩ = some (.slice A xs.length ca)) (h1 : w.cell? ⟨G, 1, none⟩ = some (.slice B ys.length cb)) (hG : G < w.heap.size) :
    Calls Try.prog 33 #[.slice (some ⟨G, 0, none⟩) 2 2] w (CatPost w (xs ++ ys)) := by
  obtain ⟨i0, hi0, hz0, hz1, hz2⟩ := info_parts infoInt
  go_enter Try.func33, Try.ntmps33
  go_wp2
  go_loop [3, 11] (fun s i => ∃ k : Nat, k ≤ 2 ∧ i = .int .i64 k ∧ s = .int .i64 (if k = 0 then 0 else if k = 1 then xs.length else xs.length + ys.length : Nat)) (fun _ i => 2 - (intOf i).toNat)
  case atStart => exact ⟨0, by omega, rfl, rfl⟩
  case round =>
    obtain ⟨k, hk, rfl, rfl⟩ := hrel
    have hk3 : k = 0 ∨ k = 1 ∨ k = 2 := by omega
    rcases hk3 with rfl | rfl | rfl
    · go_wp2
      go_round
      case rel => exact ⟨1, by omega, rfl, rfl⟩
      case measure => simp [intOf]
    · go_wp2
      go_round
      case rel => exact ⟨2, by omega, rfl, by simp⟩
      case measure => simp [intOf]
    · go_wp2_with fail
      rw [show ((xs.length : Int) + (ys.length : Int)) = ((xs.length + ys.length : Nat) : Int) from by omega]
      refine (GrowI_ _ hl w).mono ?_
      rintro e w1 ⟨v, rfl, hown, hb1⟩
      have HO := Lib.hid hown
      clear hown
      go_wp2
      go_loopw [6, 27] (fun v i wr => ∃ (k : Nat) (zs : List Int), k ≤ 2 ∧ i = .int .i64 k ∧ Hid (zs = if k = 0 then [] else if k = 1 then xs else xs ++ ys) ∧ wr.ownsRow w.heap.size 3 1 v zs.length (zs.flatMap fun n : Int => [Value.int .i64 n]) ∧ Below w.heap.size w wr) (fun _ i _ => 2 - (intOf i).toNat)
      case atStart => exact ⟨0, [], by omega, rfl, rfl, by simpa using HO.out, hb1⟩
      case round =>
        obtain ⟨k, zs, hk, rfl, hzs, hown, hb⟩ := hrel
        have HOW := Lib.hid hown
        have HB := Lib.hid hb
        have g0 : wr.cell? ⟨G, 0, none⟩ = some (.slice A xs.length ca) := (hb.cell (p := ⟨G, 0, none⟩) hG).trans h0
        have g1 : wr.cell? ⟨G, 1, none⟩ = some (.slice B ys.length cb) := (hb.cell (p := ⟨G, 1, none⟩) hG).trans h1
        have HX := Lib.hid (hx.below hb)
        have HY := Lib.hid (hy.below hb)
        clear hown hb
        have hk3 : k = 0 ∨ k = 1 ∨ k = 2 := by omega
        rcases hk3 with rfl | rfl | rfl
        · obtain rfl : zs = [] := by simpa using hzs.out
          have m2 : (0 + xs.length) * 8 ≤ 140737488355328 := by omega
          have m3 : 0 + xs.length ≤ maxLen := by simp only [maxLen]; omega
          go_wp2_with (at_builtin; refine wpList_app _ rfl (.tmp 31) (.tmp 32) _ rfl w.heap.size 3 i0 _ 1 8 Try.underlying24 hi0 hz0 hz1 hz2 rfl (by decide) u6 0 [] rfl HOW.out A xs.length ca _ rfl (flatMap_len (sz := 1) (fun _ => rfl) _) HX.out.rd (ints_oneCell _) m3 m2 HB.out.size ?_; intro v2 w2 hown2 hg2 hat2)
          go_roundw
          case rel => exact ⟨1, xs, by omega, rfl, show _ = _ from by simp, by simpa using hown2, grownOwn_ HB.out hg2 HOW.out (Nat.le_refl _) HB.out.size⟩
          case measure => simp [intOf]
        · obtain rfl : zs = xs := by simpa using hzs.out
          have m2 : (zs.length + ys.length) * 8 ≤ 140737488355328 := by omega
          have m3 : zs.length + ys.length ≤ maxLen := by simp only [maxLen]; omega
          go_wp2_with (at_builtin; refine wpList_app _ rfl (.tmp 31) (.tmp 32) _ rfl w.heap.size 3 i0 _ 1 8 Try.underlying24 hi0 hz0 hz1 hz2 rfl (by decide) u6 _ _ rfl HOW.out B ys.length cb _ rfl (flatMap_len (sz := 1) (fun _ => rfl) _) HY.out.rd (ints_oneCell _) m3 m2 HB.out.size ?_; intro v2 w2 hown2 hg2 hat2)
          go_roundw
          case rel => exact ⟨2, zs ++ ys, by omega, rfl, show _ = _ from by simp, by simpa using hown2, grownOwn_ HB.out hg2 HOW.out (Nat.le_refl _) HB.out.size⟩
          case measure => simp [intOf]
        · obtain rfl : zs = xs ++ ys := by simpa using hzs.out
          have HP : Hid (CatPost w (xs ++ ys) (.returned u6) wr) := by
            obtain ⟨C, cc, hv, hall⟩ := SlE.of_own (bt := 8) HOW.out (by simp; omega)
            exact ⟨C, cc, by rw [hv], hall, HB.out⟩
          clear HOW hzs
          go_wp2
          go_ret
          exact HP.out
end Go.Proofs.Ytoglgeaiiipchaa

namespace Go.Proofs.Ytoglgeaiiipchaa
open Go Go.RowKit

set_option maxRecDepth 100000 in
theorem CloneI_ (A : Option Addr) (c : Nat) (xs : List Int) (w : World) (hx : Ints w 0 A c xs) :
    Calls Try.prog 41 #[.slice A xs.length c] w (CatPost w xs) := by
  obtain ⟨i0, hi0, hz0, hz1, hz2⟩ := info_parts infoInt
  have hmax := hx.max
  have q24 : ∀ (w : World) (a : Option Addr) (n c n' c' : Nat), (binOp .eql 24 (.slice a n c) (.slice none n' c')).run Try.prog w = .ok (.bool a.isNone) w := fun w a n c n' c' => Lib.run_eql_slice_nil w _ _ a n c n' c' Try.underlying24
  cases A with
  | none =>
    have hxs : xs = [] := by
      cases xs with
      | nil => rfl
      | cons x r =>
        obtain ⟨b, off, h, _⟩ := hx.rd (by simp)
        cases h
    subst hxs
    have HP : Hid (CatPost w [] (.returned (.slice none 0 0)) w) := ⟨none, 0, rfl, ⟨Nat.le_refl _, by omega, by simp, Rd.nil⟩, Below.refl _ _⟩
    go_enter Try.func41, Try.ntmps41
    go_wp2_with fail
    go_ret
    exact HP.out
  | some a =>
    have HX := Lib.hid (hx.rd.below (w' := w.alloc (Obj.cells #[] 3)) ((Below.refl _ _).alloc (Nat.le_refl _) _) (Nat.le_refl _))
    have HO := Lib.hid (own_empty (w := w) (base := w.heap.size) 3 1 (Nat.le_refl _))
    have m2 : (0 + xs.length) * 8 ≤ 140737488355328 := by omega
    have m3 : 0 + xs.length ≤ maxLen := by simp only [maxLen]; omega
    have m4 : w.heap.size ≤ (w.alloc (Obj.cells #[] 3)).heap.size := by simp
    have HM := Lib.hid hmax
    clear hx hmax
    go_enter Try.func41, Try.ntmps41
    go_wp2_with (at_builtin; refine wpList_app _ rfl (.tmp 5) (.tmp 6) _ rfl w.heap.size 3 i0 _ 1 8 Try.underlying24 hi0 hz0 hz1 hz2 rfl (by decide) (.slice (some ⟨w.heap.size, 0, none⟩) 0 0) 0 [] rfl HO.out (some a) xs.length c _ rfl (flatMap_len (sz := 1) (fun _ => rfl) _) HX.out (ints_oneCell _) m3 m2 m4 ?_; intro v2 w2 hown2 hg2 hat2)
    have HP : Hid (CatPost w xs (.returned v2) w2) := by
      obtain ⟨C, cc, hv, hall⟩ := SlE.of_own (bt := 8) (xs := xs) (by simpa using hown2) HM.out
      exact ⟨C, cc, by rw [hv], hall, grownOwn_ ((Below.refl _ _).alloc (Nat.le_refl _) _) hg2 HO.out (Nat.le_refl _) (by simp)⟩
    clear hown2 hg2 hat2
    go_wp2_with fail
    go_ret
    exact HP.out
end Go.Proofs.Ytoglgeaiiipchaa
