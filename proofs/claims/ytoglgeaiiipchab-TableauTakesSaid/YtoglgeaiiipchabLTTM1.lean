/- append onto a row that the call itself made, whatever slice is appended; a made row as a reading. -/
import Derived.WalkKit
import Derived.WalkLawsBesides
import Derived.Below
import Derived.Outline
import Derived.Deep.QuietTactic
import Derived.BigQuiet
import Derived.Lib.Hide
import Derived.Handy
import Derived.OneCell
import Derived.Laws.AppendOwn
import Derived.Laws.OwnMore
import Derived.Laws.MakeOwn
import Derived.OwnWalk
import Derived.Maps.AppendAt
import Derived.Deep.RegionHeld3
import Derived.Deep.AppendLies
set_option linter.unusedSimpArgs false
set_option linter.unusedVariables false
namespace Go.Proofs.Ytoglgeaiiipchab
open Go Go.RowKit

def vi (n : Int) : Value := .int .i64 n
def vb (b : Bool) : Value := .bool b
structure Stp where
  f : Int
  l : Int
  t : Int
  deriving DecidableEq
structure Nd where
  k : Int
  a : Int
  b : Int
  n : Int
  deriving DecidableEq
structure Au where
  st : Int
  le : Int
  fs : List Int
  gs : List Bool
  ss : List Stp
  deriving DecidableEq
structure La where
  h : List Int
  l : List Int
  deriving DecidableEq
def Stp.cells (s : Stp) : List Value := [.int .i64 s.f, .int .i64 s.l, .int .i64 s.t]
def Nd.cells (x : Nd) : List Value := [.int .i64 x.k, .int .i64 x.a, .int .i64 x.b, .int .i64 x.n]

theorem ret_bool {a b : Bool} (h : a = b) : Ending.returned (.bool a) = Ending.returned (.bool b) := by rw [h]
theorem ret_int {k : IntKind} {a b : Int} (h : a = b) : Ending.returned (.int k a) = Ending.returned (.int k b) := by rw [h]

theorem below_drewN {B : Nat} {a w : World} (h : Below B a w) (n : Nat) : Below B a (w.drewN n) := ⟨h.os, h.tape, h.output, h.size, h.block⟩
theorem bcell {W w1 : World} {B : Nat} (hb : Below B W w1) : (∀ b o, b < B → w1.cell? ⟨b, o, none⟩ = W.cell? ⟨b, o, none⟩) ∧ (∀ b o, b < B → w1.frozen? ⟨b, o, none⟩ = W.frozen? ⟨b, o, none⟩) :=
  ⟨fun b o h => hb.cell (p := ⟨b, o, none⟩) h, fun b o h => hb.frozen (p := ⟨b, o, none⟩) h⟩
/-- a step on from a chain of kept memory -/
theorem Below_on {B B' : Nat} {a w w' : World} (h : Below B a w) (k : Below B' w w') (hB : B ≤ B') : Below B a w' := h.trans (k.mono hB)

/-- what a slice's cells hold, from block lo on -/
def Rd (w : World) (lo : Nat) (A : Option Addr) (xs : List Value) : Prop :=
  xs ≠ [] → ∃ b off, A = some ⟨b, off, none⟩ ∧ lo ≤ b ∧ b < w.heap.size ∧ ∀ j u, xs[j]? = some u → w.cell? ⟨b, off + j, none⟩ = some u

structure SlE {α : Type} (enc : α → List Value) (bt : Nat) (w : World) (lo : Nat) (A : Option Addr) (c : Nat) (xs : List α) : Prop where
  le : xs.length ≤ c
  cap : c ≤ 9223372036854775807
  max : xs.length * bt ≤ 140737488351232
  rd : Rd w lo A (xs.flatMap enc)

theorem flatMap_get {α : Type} {enc : α → List Value} {sz : Nat} (hsz : ∀ x, (enc x).length = sz) : ∀ (xs : List α) (k : Nat) (hk : k < xs.length) (i : Nat) (u : Value),
    (enc xs[k])[i]? = some u → (xs.flatMap enc)[k * sz + i]? = some u := by
  intro xs
  induction xs with
  | nil => intro k hk; simp at hk
  | cons x xs ih =>
    intro k hk i u hu
    cases k with
    | zero =>
      simp only [List.getElem_cons_zero] at hu
      have hi : i < (enc x).length := (List.getElem?_eq_some_iff.1 hu).1
      rw [List.flatMap_cons, Nat.zero_mul, Nat.zero_add, List.getElem?_append_left hi]
      exact hu
    | succ k =>
      simp only [List.getElem_cons_succ] at hu
      have := ih k (by simpa using hk) i u hu
      have h1 : (enc x).length ≤ (k + 1) * sz + i := by rw [hsz, Nat.succ_mul]; omega
      rw [List.flatMap_cons, List.getElem?_append_right h1, hsz]
      have e : (k + 1) * sz + i - sz = k * sz + i := by rw [Nat.succ_mul]; omega
      rw [e]
      exact this

theorem Rd.below {w w' : World} {lo : Nat} {A : Option Addr} {xs : List Value} {B : Nat} (h : Rd w lo A xs) (hb : Below B w w') (hB : w.heap.size ≤ B) : Rd w' lo A xs := by
  intro hne
  obtain ⟨b, off, hA, hlo, hlt, hc⟩ := h hne
  exact ⟨b, off, hA, hlo, Nat.lt_of_lt_of_le hlt hb.size, fun j u hu => (hb.cell (p := ⟨b, off + j, none⟩) (Nat.lt_of_lt_of_le hlt hB)).trans (hc j u hu)⟩
theorem Rd.low {w : World} {lo lo' : Nat} {A : Option Addr} {xs : List Value} (h : Rd w lo A xs) (hl : lo' ≤ lo) : Rd w lo' A xs := by
  intro hne
  obtain ⟨b, off, hA, hlo, hlt, hc⟩ := h hne
  exact ⟨b, off, hA, Nat.le_trans hl hlo, hlt, hc⟩
theorem Rd.nil {w : World} {lo : Nat} {A : Option Addr} : Rd w lo A [] := fun h => absurd rfl h

section
variable {α : Type} {enc : α → List Value} {bt : Nat} {w w' : World} {lo : Nat} {A : Option Addr} {c : Nat} {xs : List α}
theorem SlE.below {B : Nat} (h : SlE enc bt w lo A c xs) (hb : Below B w w') (hB : w.heap.size ≤ B := by exact Nat.le_refl _) : SlE enc bt w' lo A c xs := ⟨h.le, h.cap, h.max, h.rd.below hb hB⟩
theorem SlE.low {lo' : Nat} (h : SlE enc bt w lo A c xs) (hl : lo' ≤ lo) : SlE enc bt w lo' A c xs := ⟨h.le, h.cap, h.max, h.rd.low hl⟩
theorem SlE.zero (h : SlE enc bt w lo A c xs) : SlE enc bt w 0 A c xs := h.low (Nat.zero_le _)
theorem SlE.at (hsz : ∀ x, (enc x).length = (enc x).length) {sz : Nat} (hs : ∀ x, (enc x).length = sz) (hp : 0 < sz) (h : SlE enc bt w lo A c xs) {k : Nat} (hk : k < xs.length) :
    ∃ b off, A = some ⟨b, off, none⟩ ∧ lo ≤ b ∧ b < w.heap.size ∧ ∀ i u, (enc xs[k])[i]? = some u → w.cell? ⟨b, off + (k * sz + i), none⟩ = some u := by
  have hne : xs.flatMap enc ≠ [] := by
    intro he
    have hi : 0 < (enc xs[k]).length := by rw [hs]; exact hp
    have := flatMap_get hs xs k hk 0 _ (List.getElem?_eq_getElem hi)
    rw [he] at this
    simp at this
  obtain ⟨b, off, hA, hlo, hlt, hc⟩ := h.rd hne
  exact ⟨b, off, hA, hlo, hlt, fun i u hu => hc _ u (flatMap_get hs xs k hk i u hu)⟩
end

abbrev Ints := SlE (fun n : Int => [Value.int .i64 n]) 8
abbrev Bools := SlE (fun b : Bool => [Value.bool b]) 1
abbrev Stps := SlE Stp.cells 24
abbrev Nds := SlE Nd.cells 32

section
variable {w w' : World} {lo : Nat} {A : Option Addr} {c : Nat}
theorem Ints.at_ {xs : List Int} (h : Ints w lo A c xs) {k : Nat} (hk : k < xs.length) : ∃ b off, A = some ⟨b, off, none⟩ ∧ lo ≤ b ∧ b < w.heap.size ∧ w.cell? ⟨b, off + k, none⟩ = some (.int .i64 xs[k]) := by
  obtain ⟨b, off, hA, h1, h2, hc⟩ := SlE.at (fun _ => rfl) (sz := 1) (fun _ => rfl) (by decide) h hk
  exact ⟨b, off, hA, h1, h2, by simpa using hc 0 _ rfl⟩
theorem Bools.at_ {xs : List Bool} (h : Bools w lo A c xs) {k : Nat} (hk : k < xs.length) : ∃ b off, A = some ⟨b, off, none⟩ ∧ lo ≤ b ∧ b < w.heap.size ∧ w.cell? ⟨b, off + k, none⟩ = some (.bool xs[k]) := by
  obtain ⟨b, off, hA, h1, h2, hc⟩ := SlE.at (fun _ => rfl) (sz := 1) (fun _ => rfl) (by decide) h hk
  exact ⟨b, off, hA, h1, h2, by simpa using hc 0 _ rfl⟩
theorem Stps.at_ {xs : List Stp} (h : Stps w lo A c xs) {k : Nat} (hk : k < xs.length) : ∃ b off, A = some ⟨b, off, none⟩ ∧ lo ≤ b ∧ b < w.heap.size ∧
    w.cell? ⟨b, off + k * 3, none⟩ = some (.int .i64 xs[k].f) ∧ w.cell? ⟨b, off + k * 3 + 1, none⟩ = some (.int .i64 xs[k].l) ∧ w.cell? ⟨b, off + k * 3 + 2, none⟩ = some (.int .i64 xs[k].t) := by
  obtain ⟨b, off, hA, h1, h2, hc⟩ := SlE.at (fun _ => rfl) (sz := 3) (fun _ => rfl) (by decide) h hk
  exact ⟨b, off, hA, h1, h2, by simpa [Nat.add_assoc] using hc 0 _ rfl, by simpa [Nat.add_assoc] using hc 1 _ rfl, by simpa [Nat.add_assoc] using hc 2 _ rfl⟩
theorem Nds.at_ {xs : List Nd} (h : Nds w lo A c xs) {k : Nat} (hk : k < xs.length) : ∃ b off, A = some ⟨b, off, none⟩ ∧ lo ≤ b ∧ b < w.heap.size ∧
    w.cell? ⟨b, off + k * 4, none⟩ = some (.int .i64 xs[k].k) ∧ w.cell? ⟨b, off + k * 4 + 1, none⟩ = some (.int .i64 xs[k].a) ∧ w.cell? ⟨b, off + k * 4 + 2, none⟩ = some (.int .i64 xs[k].b) ∧ w.cell? ⟨b, off + k * 4 + 3, none⟩ = some (.int .i64 xs[k].n) := by
  obtain ⟨b, off, hA, h1, h2, hc⟩ := SlE.at (fun _ => rfl) (sz := 4) (fun _ => rfl) (by decide) h hk
  exact ⟨b, off, hA, h1, h2, by simpa [Nat.add_assoc] using hc 0 _ rfl, by simpa [Nat.add_assoc] using hc 1 _ rfl, by simpa [Nat.add_assoc] using hc 2 _ rfl, by simpa [Nat.add_assoc] using hc 3 _ rfl⟩
end
end Go.Proofs.Ytoglgeaiiipchab

namespace Go.Proofs.Ytoglgeaiiipchab
open Go Go.RowKit

theorem Addr_add_off (b o n : Nat) : (⟨b, o, none⟩ : Addr).add n = ⟨b, o + n, none⟩ := by
  unfold Addr.add
  by_cases h : n = 0
  · simp [h]
  · simp [h]

/-- what the call made, as a reading -/
theorem own_form {w : World} {base : Nat} {e : TypeId} {size n : Nat} {v : Value} {xs : List Value} (h : w.ownsRow base e size v n xs) :
    ∃ A c, v = .slice A n c ∧ n ≤ c ∧ c ≤ 9223372036854775807 ∧ Rd w base A xs ∧ (∀ b off, A = some ⟨b, off, none⟩ → base ≤ b ∧ b < w.heap.size ∧ ∀ j, w.frozen? ⟨b, off + j, none⟩ = false) := by
  obtain ⟨hl, h2⟩ := h
  rcases h2 with ⟨rfl, rfl⟩ | ⟨g, cap, cur, rfl, hg, hh, hn, hc, hs, ht⟩
  · have hx : xs = [] := List.eq_nil_of_length_eq_zero (by simpa using hl)
    subst hx
    exact ⟨none, 0, rfl, Nat.le_refl _, by omega, Rd.nil, fun b off h => by simp at h⟩
  · have hlt : g < w.heap.size := by
      rcases Nat.lt_or_ge g w.heap.size with h | h
      · exact h
      · rw [Array.getElem?_eq_none h] at hh; cases hh
    refine ⟨some ⟨g, 0, none⟩, cap, rfl, hn, by simpa [maxLen] using hc, fun _ => ⟨g, 0, rfl, hg, hlt, fun j u hu => ?_⟩, fun b off hA => ?_⟩
    · have hj : j < n * size := by
        have := (List.getElem?_eq_some_iff.1 hu).1
        rw [hl] at this
        exact this
      rw [← ht, List.getElem?_take_of_lt hj] at hu
      simp only [World.cell?, Nat.zero_add, hh]
      simpa using hu
    · simp at hA
      obtain ⟨rfl, rfl⟩ := hA
      exact ⟨hg, hlt, fun j => by simp [World.frozen?, hh]⟩

section
variable {P : Program} (w : World)
theorem run_app (base : Nat) (t ty e : TypeId) (i : TypeInfo) (z : Value) (size bytes : Nat) (ht : P.underlying t = some (.slice e)) (hi : P.info? e = some i) (hz : i.zero = some z)
    (hsize : i.size = size) (hby : i.bytes = bytes) (hzs : z.cells.size = size) (hsz : 0 < size)
    (v : Value) (n : Nat) (xs : List Value) (hown : w.ownsRow base e size v n xs)
    (A : Option Addr) (m c : Nat) (news : List Value) (hl : news.length = m * size) (hr : Rd w 0 A news) (h1 : ∀ u ∈ news, u.oneCell' = true)
    (h63 : n + m ≤ maxLen) (hbytes : (n + m) * bytes ≤ 140737488355328) (hbase : base ≤ w.heap.size) :
    ∃ v' w', (Builtin.append_ #[t, t] ty #[v, .slice A m c]).run P w = .ok v' w' ∧ w'.ownsRow base e size v' (n + m) (xs ++ news) ∧ w.grownBy w' v.ownBlock ∧
      (v'.ownBlock = v.ownBlock ∨ v'.ownBlock = some w.heap.size) := by
  by_cases hn : news = []
  · subst hn
    have hm : m = 0 := by
      rcases Nat.eq_zero_or_pos m with h | h
      · exact h
      · have := Nat.mul_pos h hsz
        rw [← hl] at this
        simp at this
    subst hm
    cases A with
    | none =>
      refine ⟨v, w, ?_, by simpa using hown, World.grownBy.refl w _, .inl rfl⟩
      rcases hown.2 with ⟨rfl, rfl⟩ | ⟨g, cap, cur, rfl, _, _, hnc, _⟩
      · simp [Builtin.append_, run_underlying ht, sizeOf, typeInfo, hi, Builtin.lenOf, Builtin.firstCells]
      · simp [Builtin.append_, run_underlying ht, sizeOf, typeInfo, hi, Builtin.lenOf, Builtin.firstCells, hnc, storeCells]
    | some a =>
      obtain ⟨v', w', r1, r2, r3, _, r5⟩ := run_append_own_at (P := P) w base t ty e i z size bytes ht hi hz hsize hby hzs hsz v n xs hown a 0 c [] hl (by simp) h1 h63 hbytes hbase
      exact ⟨v', w', r1, r2, r3, r5⟩
  · obtain ⟨b, off, rfl, _, _, hc⟩ := hr hn
    obtain ⟨v', w', r1, r2, r3, _, r5⟩ := run_append_own_at (P := P) w base t ty e i z size bytes ht hi hz hsize hby hzs hsz v n xs hown ⟨b, off, none⟩ m c news hl
      (fun j u hu => by rw [Addr_add_off]; exact hc j u hu) h1 h63 hbytes hbase
    exact ⟨v', w', r1, r2, r3, r5⟩

theorem wp_app {o : Oper} {a : Act} {K : Act → World → Prop} {Q : Exit → Act → World → Prop} (s x : Operand) (t : TypeId)
    (ho : o.op = .call { callee := .builtin .append, args := #[s, x], argTypes := #[t, t] })
    (base : Nat) (e : TypeId) (i : TypeInfo) (z : Value) (size bytes : Nat) (ht : P.underlying t = some (.slice e)) (hi : P.info? e = some i) (hz : i.zero = some z)
    (hsize : i.size = size) (hby : i.bytes = bytes) (hzs : z.cells.size = size) (hsz : 0 < size)
    (v : Value) (n : Nat) (xs : List Value) (hs : a.eval s = v) (hown : w.ownsRow base e size v n xs)
    (A : Option Addr) (m c : Nat) (news : List Value) (hx : a.eval x = .slice A m c) (hl : news.length = m * size) (hr : Rd w 0 A news) (h1 : ∀ u ∈ news, u.oneCell' = true)
    (h63 : n + m ≤ maxLen) (hbytes : (n + m) * bytes ≤ 140737488355328) (hbase : base ≤ w.heap.size)
    (h : ∀ v' w', w'.ownsRow base e size v' (n + m) (xs ++ news) → w.grownBy w' v.ownBlock → (v'.ownBlock = v.ownBlock ∨ v'.ownBlock = some w.heap.size) → K (a.put o.dst v') w') : o.wp P a w K Q := by
  obtain ⟨v', w', hrun, h2, h3, h4⟩ := run_app (P := P) w base t o.type e i z size bytes ht hi hz hsize hby hzs hsz v n xs hown A m c news hl hr h1 h63 hbytes hbase
  unfold Oper.wp execOp
  simp only [ho, resolve, invoke, builtin, Sem.run_bind, Sem.run_pure, Result.andThen_ok, List.map_toArray, List.map_cons, List.map_nil, hs, hx, hrun]
  exact h v' w' h2 h3 h4

theorem wpList_app {ops : Array Oper} {rest : List Oper} {o : Oper} {a : Act} {Q : Exit → Act → World → Prop} (hgd : o.guard = none) (s x : Operand) (t : TypeId)
    (ho : o.op = .call { callee := .builtin .append, args := #[s, x], argTypes := #[t, t] })
    (base : Nat) (e : TypeId) (i : TypeInfo) (z : Value) (size bytes : Nat) (ht : P.underlying t = some (.slice e)) (hi : P.info? e = some i) (hz : i.zero = some z)
    (hsize : i.size = size) (hby : i.bytes = bytes) (hzs : z.cells.size = size) (hsz : 0 < size)
    (v : Value) (n : Nat) (xs : List Value) (hs : a.eval s = v) (hown : w.ownsRow base e size v n xs)
    (A : Option Addr) (m c : Nat) (news : List Value) (hx : a.eval x = .slice A m c) (hl : news.length = m * size) (hr : Rd w 0 A news) (h1 : ∀ u ∈ news, u.oneCell' = true)
    (h63 : n + m ≤ maxLen) (hbytes : (n + m) * bytes ≤ 140737488355328) (hbase : base ≤ w.heap.size)
    (h : ∀ v' w', w'.ownsRow base e size v' (n + m) (xs ++ news) → w.grownBy w' v.ownBlock → (v'.ownBlock = v.ownBlock ∨ v'.ownBlock = some w.heap.size) → wpList P ops Q rest (a.put o.dst v') w') : wpList P ops Q (o :: rest) a w :=
  wpList_plain hgd fun _ hK => wp_app w s x t ho base e i z size bytes ht hi hz hsize hby hzs hsz v n xs hs hown A m c news hx hl hr h1 h63 hbytes hbase fun v' w' h2 h3 h4 => hK _ _ (h v' w' h2 h3 h4)

theorem step_app {ops : Array Oper} {o : Oper} {a : Act} {K : Act → World → Prop} {Q : Exit → Act → World → Prop} {E : Prop} (hgd : o.guard = none) (s x : Operand) (t : TypeId)
    (ho : o.op = .call { callee := .builtin .append, args := #[s, x], argTypes := #[t, t] })
    (base : Nat) (e : TypeId) (i : TypeInfo) (z : Value) (size bytes : Nat) (ht : P.underlying t = some (.slice e)) (hi : P.info? e = some i) (hz : i.zero = some z)
    (hsize : i.size = size) (hby : i.bytes = bytes) (hzs : z.cells.size = size) (hsz : 0 < size)
    (v : Value) (n : Nat) (xs : List Value) (hs : a.eval s = v) (hown : w.ownsRow base e size v n xs)
    (A : Option Addr) (m c : Nat) (news : List Value) (hx : a.eval x = .slice A m c) (hl : news.length = m * size) (hr : Rd w 0 A news) (h1 : ∀ u ∈ news, u.oneCell' = true)
    (h63 : n + m ≤ maxLen) (hbytes : (n + m) * bytes ≤ 140737488355328) (hbase : base ≤ w.heap.size)
    (h : ∀ v' w', w'.ownsRow base e size v' (n + m) (xs ++ news) → w.grownBy w' v.ownBlock → (v'.ownBlock = v.ownBlock ∨ v'.ownBlock = some w.heap.size) → K (a.put o.dst v') w') :
    if Region.wanted o (yielded ops a.tmps) = true then Oper.wp P o a w K Q else E := by
  have hw : Region.wanted o (yielded ops a.tmps) = true := by simp [Region.wanted, hgd]
  rw [if_pos hw]
  exact wp_app w s x t ho base e i z size bytes ht hi hz hsize hby hzs hsz v n xs hs hown A m c news hx hl hr h1 h63 hbytes hbase h
end

/-- an append whose run is known -/
theorem wpList_appRun {P : Program} {w w' : World} {ops : Array Oper} {rest : List Oper} {o : Oper} {a : Act} {Q : Exit → Act → World → Prop} (hgd : o.guard = none) (s x : Operand) (t tn : TypeId)
    (ho : o.op = .call { callee := .builtin .append, args := #[s, x], argTypes := #[t, tn] }) (v u r : Value) (hs : a.eval s = v) (hx : a.eval x = u)
    (hrun : (Builtin.append_ #[t, tn] o.type #[v, u]).run P w = .ok r w') (h : wpList P ops Q rest (a.put o.dst r) w') : wpList P ops Q (o :: rest) a w :=
  wpList_plain hgd fun K hK => by
    unfold Oper.wp execOp
    simp only [ho, resolve, invoke, builtin, Sem.run_bind, Sem.run_pure, Result.andThen_ok, List.map_toArray, List.map_cons, List.map_nil, hs, hx, hrun]
    exact hK _ _ h
theorem grownOwn_ {B base : Nat} {a w w' : World} {e : TypeId} {size n : Nat} {v : Value} {xs : List Value} (h : Below B a w) (hg : w.grownBy w' v.ownBlock) (hown : w.ownsRow base e size v n xs) (hB : B ≤ base) (hw : B ≤ w.heap.size) : Below B a w' :=
  h.grown hg hw fun k hk => Nat.le_trans hB (hown.lt k hk).1
theorem ints_oneCell (xs : List Int) : ∀ u ∈ xs.flatMap (fun n : Int => [Value.int .i64 n]), u.oneCell' = true := by
  intro u hu
  simp only [List.mem_flatMap, List.mem_singleton] at hu
  obtain ⟨a, _, rfl⟩ := hu
  rfl
theorem bools_oneCell (xs : List Bool) : ∀ u ∈ xs.flatMap (fun b : Bool => [Value.bool b]), u.oneCell' = true := by
  intro u hu
  simp only [List.mem_flatMap, List.mem_singleton] at hu
  obtain ⟨a, _, rfl⟩ := hu
  rfl
theorem stps_oneCell (xs : List Stp) : ∀ u ∈ xs.flatMap Stp.cells, u.oneCell' = true := by
  intro u hu
  simp only [List.mem_flatMap, Stp.cells, List.mem_cons, List.not_mem_nil, or_false] at hu
  obtain ⟨a, _, rfl | rfl | rfl⟩ := hu <;> rfl
theorem nds_oneCell (xs : List Nd) : ∀ u ∈ xs.flatMap Nd.cells, u.oneCell' = true := by
  intro u hu
  simp only [List.mem_flatMap, Nd.cells, List.mem_cons, List.not_mem_nil, or_false] at hu
  obtain ⟨a, _, rfl | rfl | rfl | rfl⟩ := hu <;> rfl
theorem flatMap_len {α : Type} {enc : α → List Value} {sz : Nat} (hsz : ∀ x, (enc x).length = sz) (xs : List α) : (xs.flatMap enc).length = xs.length * sz := by
  induction xs with
  | nil => simp
  | cons x xs ih => rw [List.flatMap_cons, List.length_append, hsz, ih, List.length_cons, Nat.succ_mul]; omega
/-- a row that the call made reads as the list -/
theorem SlE.of_own {α : Type} {enc : α → List Value} {bt sz : Nat} {w : World} {base : Nat} {e : TypeId} {v : Value} {xs : List α} (h : w.ownsRow base e sz v xs.length (xs.flatMap enc)) (hb : xs.length * bt ≤ 140737488351232) :
    ∃ A c, v = .slice A xs.length c ∧ SlE enc bt w base A c xs := by
  obtain ⟨A, c, rfl, h1, h2, h3, _⟩ := own_form h
  exact ⟨A, c, rfl, h1, h2, hb, h3⟩
theorem own_empty {w : World} {base : Nat} (e : TypeId) (size : Nat) (hb : base ≤ w.heap.size) : (w.alloc (.cells #[] e)).ownsRow base e size (.slice (some ⟨w.heap.size, 0, none⟩) 0 0) 0 [] := by
  refine ⟨by simp, .inr ⟨w.heap.size, 0, #[], rfl, hb, ?_, Nat.le_refl _, by simp [maxLen], by simp, by simp⟩⟩
  show (w.heap.push _)[w.heap.size]? = _
  simp
theorem own_room {w : World} {base cap : Nat} {cs : Array Value} (e : TypeId) (size : Nat) (hb : base ≤ w.heap.size) (hm : cap ≤ maxLen) (hs : cs.size = cap * size) :
    (w.alloc (.cells cs e)).drew.ownsRow base e size (.slice (some ⟨w.heap.size, 0, none⟩) 0 cap) 0 [] := by
  refine ⟨by simp, .inr ⟨w.heap.size, cap, cs, rfl, hb, ?_, Nat.zero_le _, hm, hs, by simp⟩⟩
  show (w.heap.push _)[w.heap.size]? = _
  simp
theorem own_ne {w : World} {base : Nat} {e : TypeId} {size n : Nat} {v : Value} {xs : List Value} (h : w.ownsRow base e size v n xs) {b : Nat} (hb : b < base) : some b ≠ v.ownBlock := fun he => by
  have := (h.lt b he.symm).1
  omega
theorem own_drew {w : World} {base : Nat} {e : TypeId} {size n : Nat} {v : Value} {xs : List Value} (h : w.ownsRow base e size v n xs) : w.drew.ownsRow base e size v n xs := h
theorem own_below {w w' : World} {base : Nat} {e : TypeId} {size n : Nat} {v : Value} {xs : List Value} (h : w.ownsRow base e size v n xs) (hb : Below w.heap.size w w') : w'.ownsRow base e size v n xs := by
  obtain ⟨h1, h2⟩ := h
  refine ⟨h1, ?_⟩
  rcases h2 with h2 | ⟨g, cap, cur, hv, hg, hh, r⟩
  · exact .inl h2
  · refine .inr ⟨g, cap, cur, hv, hg, ?_, r⟩
    have hlt : g < w.heap.size := by
      rcases Nat.lt_or_ge g w.heap.size with h | h
      · exact h
      · rw [Array.getElem?_eq_none h] at hh; cases hh
    rw [hb.block g hlt]
    exact hh
end Go.Proofs.Ytoglgeaiiipchab
