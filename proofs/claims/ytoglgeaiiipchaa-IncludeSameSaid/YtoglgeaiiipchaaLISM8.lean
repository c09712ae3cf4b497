/- append of one node onto nodes that the call made; what a chain of such appends and calls leaves. -/
import Derived.Test.YtoglgeaiiipchaaLISM2
import Derived.Test.YtoglgeaiiipchaaLISM7
import Derived.Deep.CutBlock
import Derived.Deep.DeepCutAuto
import Derived.Test.YtoglgeaiiipchaaLISM1
import Derived.Test.YtoglgeaiiipchaaProg
import Derived.Maps.Range
set_option linter.unusedSimpArgs false
set_option linter.unusedVariables false
namespace Go.Proofs.Ytoglgeaiiipchaa
open Go Go.RowKit Go.Shelf

def u8v (n : Nat) : Value := .int .u8 (n : Int)
def boxC (B : List Nat) : Array Value := (B.map u8v).toArray
/-- bytes that lie in block g, known whole -/
def URow (t : TypeId) (w : World) (g : Nat) (B : List Nat) : Prop := w.heap[g]? = some (.cells (boxC B) t (0, 0))
section
variable {t : TypeId} {w w' : World} {g : Nat} {B : List Nat}
theorem URow.below (h : URow t w g B) {b : Nat} (hb : Below b w w') (hg : g < b) : URow t w' g B := (hb.block g hg).trans h
theorem URow.lt (h : URow t w g B) : g < w.heap.size := by
  rcases Nat.lt_or_ge g w.heap.size with hl | hl
  · exact hl
  · unfold URow at h
    rw [Array.getElem?_eq_none hl] at h
    cases h
theorem URow.cell (h : URow t w g B) {i : Nat} (hi : i < B.length) : w.cell? ⟨g, i, none⟩ = some (u8v (B.getD i 0)) ∧ w.frozen? ⟨g, i, none⟩ = false := by
  unfold URow at h
  refine ⟨?_, ?_⟩
  · simp only [World.cell?, h]
    simp [hi, boxC, u8v]
  · simp only [World.frozen?, h]
    simp
theorem URow.set_ (h : URow t w g B) (i : Nat) (v : Nat) : URow t (w.setCell ⟨g, i, none⟩ (u8v v)) g (B.set i v) := by
  unfold URow at h ⊢
  simp [World.setCell, Array.getElem?_modify, h, boxC, u8v]
theorem URow.new (t : TypeId) (w : World) (B : List Nat) : URow t (w.alloc (Obj.cells (boxC B) t)) w.heap.size B := by
  show (w.heap.push _)[w.heap.size]? = _
  simp
theorem URow.set_far (h : URow t w g B) {p : Addr} (hp : g ≠ p.block) (u : Value) : URow t (w.setCell p u) g B := (Below.heap_setCell w p u g hp).trans h
end
theorem bg_set {B : List Nat} (hl : B.length = 9) {i j i' j' v : Nat} (hi : i < 3) (hj : j < 3) (_hi' : i' < 3) (hj' : j' < 3) : bg (B.set (i * 3 + j) v) i' j' = if i' = i ∧ j' = j then v else bg B i' j' := by
  unfold bg
  rw [List.getD_eq_getElem?_getD, List.getD_eq_getElem?_getD, List.getElem?_set]
  by_cases h : i' = i ∧ j' = j
  · obtain ⟨rfl, rfl⟩ := h
    rw [if_pos (by omega), if_pos (by omega), if_pos ⟨rfl, rfl⟩]; rfl
  · rw [if_neg (by omega), if_neg h]
theorem bg_row {B : List Nat} {i j : Nat} : bg B i j = B.getD (i * 3 + j) 0 := by unfold bg; rw [Nat.mul_comm]
/-- bits of a small set, as the walk reads and writes them -/
theorem bit3_and {n k : Nat} (hn : n < 8) (hk : k < 3) : (bits BinOp.and IntKind.i64 ((n : Int) / 2 ^ k) 1 == 1) = n.testBit k := by
  have : ∀ n : Fin 8, ∀ k : Fin 3, (bits BinOp.and IntKind.i64 (((n : Nat) : Int) / 2 ^ (k : Nat)) 1 == 1) = (n : Nat).testBit k := by decide +kernel
  exact this ⟨n, hn⟩ ⟨k, hk⟩
theorem bit3_or {n k : Nat} (hn : n < 8) (hk : k < 3) : bits BinOp.or IntKind.i64 (n : Int) (2 ^ k) = ((n ||| 2 ^ k : Nat) : Int) := by
  have : ∀ n : Fin 8, ∀ k : Fin 3, bits BinOp.or IntKind.i64 ((n : Nat) : Int) (2 ^ (k : Nat)) = (((n : Nat) ||| 2 ^ (k : Nat) : Nat) : Int) := by decide +kernel
  exact this ⟨n, hn⟩ ⟨k, hk⟩
theorem wrap_pow3 {k : Nat} (hk : k < 3) : IntKind.i64.wrap ((2 : Int) ^ k) = 2 ^ k := by
  have : k = 0 ∨ k = 1 ∨ k = 2 := by omega
  rcases this with rfl | rfl | rfl <;> rfl
theorem bits3_or {P Q : Nat → Prop} {k : Nat} (hk : k < 3) (h : ∀ j, j < 3 → (Q j ↔ P j ∨ j = k)) : bits3 Q = bits3 P ||| 2 ^ k := by
  have : 2 ^ k < 8 := by
    have : k = 0 ∨ k = 1 ∨ k = 2 := by omega
    rcases this with rfl | rfl | rfl <;> decide
  have h8 : bits3 P ||| 2 ^ k < 2 ^ 3 := Nat.or_lt_two_pow (bits3_lt P) this
  refine lt8_ext (bits3_lt _) h8 fun j hj => boolIff ?_
  rw [bits3_bit _ hj, Nat.testBit_or, Bool.or_eq_true, bits3_bit _ hj, h j hj, Nat.testBit_two_pow]
  simp only [decide_eq_true_eq]
  constructor
  · rintro (h | h)
    · exact .inl h
    · exact .inr h.symm
  · rintro (h | h)
    · exact .inl h
    · exact .inr h.symm
theorem bits3_congr {P Q : Nat → Prop} (h : ∀ j, j < 3 → (Q j ↔ P j)) : bits3 Q = bits3 P := by
  refine lt8_ext (bits3_lt _) (bits3_lt _) fun j hj => boolIff ?_
  rw [bits3_bit _ hj, bits3_bit _ hj, h j hj]
theorem bits3_none {P : Nat → Prop} (h : ∀ j, j < 3 → ¬ P j) : bits3 P = 0 := by
  unfold bits3
  rw [if_neg (h 0 (by omega)), if_neg (h 1 (by omega)), if_neg (h 2 (by omega))]
/-- a row of a box in memory -/
theorem URow.row {t : TypeId} {w : World} {g : Nat} {B : List Nat} (h : URow t w g B) (hl : B.length = 9) {i : Nat} (hi : i < 3) :
    w.cell? ⟨g, i * 3, none⟩ = some (u8v (bg B i 0)) ∧ w.cell? ⟨g, i * 3 + 1, none⟩ = some (u8v (bg B i 1)) ∧ w.cell? ⟨g, i * 3 + 2, none⟩ = some (u8v (bg B i 2)) := by
  rw [bg_row, bg_row, bg_row, Nat.add_zero]
  exact ⟨(h.cell (i := i * 3) (by omega)).1, (h.cell (i := i * 3 + 1) (by omega)).1, (h.cell (i := i * 3 + 2) (by omega)).1⟩
theorem URow.at_ {t : TypeId} {w : World} {g : Nat} {B : List Nat} (h : URow t w g B) (hl : B.length = 9) {i j : Nat} (hi : i < 3) (hj : j < 3) :
    w.cell? ⟨g, i * 3 + j, none⟩ = some (.int .u8 (bg B i j : Nat)) ∧ w.frozen? ⟨g, i * 3 + j, none⟩ = false := by
  rw [bg_row]
  exact h.cell (i := i * 3 + j) (by omega)
theorem index_row {w : World} {B : List Nat} {i k : Nat} (hk : k < 3) : (Instr.index 126 (.agg #[u8v (bg B i 0), u8v (bg B i 1), u8v (bg B i 2)]) (.int .i64 (k : Int))).run Try.prog w = .ok (.int .u8 (bg B i k : Nat)) w := by
  have h0 : ∀ (x y z : Value) (w : World), (Instr.index 126 (.agg #[x, y, z]) (.int .i64 0)).run Try.prog w = .ok x w := fun x y z w => by kernel_rfl
  have h1 : ∀ (x y z : Value) (w : World), (Instr.index 126 (.agg #[x, y, z]) (.int .i64 1)).run Try.prog w = .ok y w := fun x y z w => by kernel_rfl
  have h2 : ∀ (x y z : Value) (w : World), (Instr.index 126 (.agg #[x, y, z]) (.int .i64 2)).run Try.prog w = .ok z w := fun x y z w => by kernel_rfl
  have : k = 0 ∨ k = 1 ∨ k = 2 := by omega
  rcases this with rfl | rfl | rfl
  · exact h0 _ _ _ w
  · exact h1 _ _ _ w
  · exact h2 _ _ _ w
theorem list9 {B : List Nat} (hl : B.length = 9) : ∃ a b c d e f g h i, B = [a, b, c, d, e, f, g, h, i] := by
  match B, hl with
  | [a, b, c, d, e, f, g, h, i], _ => exact ⟨a, b, c, d, e, f, g, h, i, rfl⟩
theorem URow.whole {t : TypeId} {w : World} {g : Nat} {B : List Nat} (h : URow t w g B) (hl : B.length = 9) :
    (loadVar 128 ⟨g, 0, none⟩).run Try.prog w = .ok (.agg (boxC B)) w := by
  have c0 := (h.cell (i := 0) (by omega)).1
  have c1 := (h.cell (i := 1) (by omega)).1
  have c2 := (h.cell (i := 2) (by omega)).1
  have c3 := (h.cell (i := 3) (by omega)).1
  have c4 := (h.cell (i := 4) (by omega)).1
  have c5 := (h.cell (i := 5) (by omega)).1
  have c6 := (h.cell (i := 6) (by omega)).1
  have c7 := (h.cell (i := 7) (by omega)).1
  have c8 := (h.cell (i := 8) (by omega)).1
  obtain ⟨a, b, c, d, e, f, k, l, i, rfl⟩ := list9 hl
  simp [loadVar, loadCells, loadCellsFrom, go_sem, c0, c1, c2, c3, c4, c5, c6, c7, c8, Addr_add_off, boxC]
theorem heapNew (w : World) (o : Obj) : (w.alloc o).heap[w.heap.size]? = some o := by
  show (w.heap.push _)[w.heap.size]? = _
  simp
/-- nine cells written, one behind the other -/
def put9 (w : World) (g : Nat) (o0 o1 o2 o3 o4 o5 o6 o7 o8 : Nat) : World := ((((((((w.setCell ⟨g, 0, none⟩ (.int .u8 (o0 : Int))).setCell ⟨g, 1, none⟩ (.int .u8 (o1 : Int))).setCell ⟨g, 2, none⟩ (.int .u8 (o2 : Int))).setCell ⟨g, 3, none⟩ (.int .u8 (o3 : Int))).setCell ⟨g, 4, none⟩ (.int .u8 (o4 : Int))).setCell ⟨g, 5, none⟩ (.int .u8 (o5 : Int))).setCell ⟨g, 6, none⟩ (.int .u8 (o6 : Int))).setCell ⟨g, 7, none⟩ (.int .u8 (o7 : Int))).setCell ⟨g, 8, none⟩ (.int .u8 (o8 : Int))
theorem URow.nine {t : TypeId} {w : World} {g : Nat} {B : List Nat} (h : URow t w g B) (hl : B.length = 9) : ∃ o0 o1 o2 o3 o4 o5 o6 o7 o8, B = [o0, o1, o2, o3, o4, o5, o6, o7, o8] ∧ w.cell? ⟨g, 0, none⟩ = some (.int .u8 (o0 : Int)) ∧ w.cell? ⟨g, 1, none⟩ = some (.int .u8 (o1 : Int)) ∧ w.cell? ⟨g, 2, none⟩ = some (.int .u8 (o2 : Int)) ∧ w.cell? ⟨g, 3, none⟩ = some (.int .u8 (o3 : Int)) ∧ w.cell? ⟨g, 4, none⟩ = some (.int .u8 (o4 : Int)) ∧ w.cell? ⟨g, 5, none⟩ = some (.int .u8 (o5 : Int)) ∧ w.cell? ⟨g, 6, none⟩ = some (.int .u8 (o6 : Int)) ∧ w.cell? ⟨g, 7, none⟩ = some (.int .u8 (o7 : Int)) ∧ w.cell? ⟨g, 8, none⟩ = some (.int .u8 (o8 : Int)) := by
  have c0 := (h.cell (i := 0) (by omega)).1
  have c1 := (h.cell (i := 1) (by omega)).1
  have c2 := (h.cell (i := 2) (by omega)).1
  have c3 := (h.cell (i := 3) (by omega)).1
  have c4 := (h.cell (i := 4) (by omega)).1
  have c5 := (h.cell (i := 5) (by omega)).1
  have c6 := (h.cell (i := 6) (by omega)).1
  have c7 := (h.cell (i := 7) (by omega)).1
  have c8 := (h.cell (i := 8) (by omega)).1
  obtain ⟨a, b, c, d, e, f, k, l, i, rfl⟩ := list9 hl
  exact ⟨a, b, c, d, e, f, k, l, i, rfl, c0, c1, c2, c3, c4, c5, c6, c7, c8⟩
theorem URow.frozen9 {t : TypeId} {w : World} {g : Nat} {B : List Nat} (h : URow t w g B) (hl : B.length = 9) : w.frozen? ⟨g, 0, none⟩ = false ∧ w.frozen? ⟨g, 1, none⟩ = false ∧ w.frozen? ⟨g, 2, none⟩ = false ∧ w.frozen? ⟨g, 3, none⟩ = false ∧ w.frozen? ⟨g, 4, none⟩ = false ∧ w.frozen? ⟨g, 5, none⟩ = false ∧ w.frozen? ⟨g, 6, none⟩ = false ∧ w.frozen? ⟨g, 7, none⟩ = false ∧ w.frozen? ⟨g, 8, none⟩ = false :=
  ⟨(h.cell (i := 0) (by omega)).2, (h.cell (i := 1) (by omega)).2, (h.cell (i := 2) (by omega)).2, (h.cell (i := 3) (by omega)).2, (h.cell (i := 4) (by omega)).2, (h.cell (i := 5) (by omega)).2, (h.cell (i := 6) (by omega)).2, (h.cell (i := 7) (by omega)).2, (h.cell (i := 8) (by omega)).2⟩
theorem URow.is9 {t : TypeId} {w : World} {g : Nat} {B : List Nat} (h : URow t w g B) (hl : B.length = 9) : ∃ z0 z1 z2 z3 z4 z5 z6 z7 z8, w.cell? ⟨g, 0, none⟩ = some z0 ∧ w.frozen? ⟨g, 0, none⟩ = false ∧ w.cell? ⟨g, 1, none⟩ = some z1 ∧ w.frozen? ⟨g, 1, none⟩ = false ∧ w.cell? ⟨g, 2, none⟩ = some z2 ∧ w.frozen? ⟨g, 2, none⟩ = false ∧ w.cell? ⟨g, 3, none⟩ = some z3 ∧ w.frozen? ⟨g, 3, none⟩ = false ∧ w.cell? ⟨g, 4, none⟩ = some z4 ∧ w.frozen? ⟨g, 4, none⟩ = false ∧ w.cell? ⟨g, 5, none⟩ = some z5 ∧ w.frozen? ⟨g, 5, none⟩ = false ∧ w.cell? ⟨g, 6, none⟩ = some z6 ∧ w.frozen? ⟨g, 6, none⟩ = false ∧ w.cell? ⟨g, 7, none⟩ = some z7 ∧ w.frozen? ⟨g, 7, none⟩ = false ∧ w.cell? ⟨g, 8, none⟩ = some z8 ∧ w.frozen? ⟨g, 8, none⟩ = false :=
  ⟨_, _, _, _, _, _, _, _, _, (h.cell (i := 0) (by omega)).1, (h.cell (i := 0) (by omega)).2, (h.cell (i := 1) (by omega)).1, (h.cell (i := 1) (by omega)).2, (h.cell (i := 2) (by omega)).1, (h.cell (i := 2) (by omega)).2, (h.cell (i := 3) (by omega)).1, (h.cell (i := 3) (by omega)).2, (h.cell (i := 4) (by omega)).1, (h.cell (i := 4) (by omega)).2, (h.cell (i := 5) (by omega)).1, (h.cell (i := 5) (by omega)).2, (h.cell (i := 6) (by omega)).1, (h.cell (i := 6) (by omega)).2, (h.cell (i := 7) (by omega)).1, (h.cell (i := 7) (by omega)).2, (h.cell (i := 8) (by omega)).1, (h.cell (i := 8) (by omega)).2⟩
theorem URow.put9 {t : TypeId} {w : World} {g : Nat} {B : List Nat} (h : URow t w g B) (hl : B.length = 9) (o0 o1 o2 o3 o4 o5 o6 o7 o8 : Nat) : URow t (put9 w g o0 o1 o2 o3 o4 o5 o6 o7 o8) g [o0, o1, o2, o3, o4, o5, o6, o7, o8] := by
  obtain ⟨a, b, c, d, e, f, k, l, i, rfl⟩ := list9 hl
  exact ((((((((h.set_ 0 o0).set_ 1 o1).set_ 2 o2).set_ 3 o3).set_ 4 o4).set_ 5 o5).set_ 6 o6).set_ 7 o7).set_ 8 o8
theorem below_put9 {a w : World} {n g : Nat} (h : Below n a w) (hg : n ≤ g) (o0 o1 o2 o3 o4 o5 o6 o7 o8 : Nat) : Below n a (put9 w g o0 o1 o2 o3 o4 o5 o6 o7 o8) :=
  ((((((((h.setCell (p := ⟨g, 0, none⟩) hg _).setCell (p := ⟨g, 1, none⟩) hg _).setCell (p := ⟨g, 2, none⟩) hg _).setCell (p := ⟨g, 3, none⟩) hg _).setCell (p := ⟨g, 4, none⟩) hg _).setCell (p := ⟨g, 5, none⟩) hg _).setCell (p := ⟨g, 6, none⟩) hg _).setCell (p := ⟨g, 7, none⟩) hg _).setCell (p := ⟨g, 8, none⟩) hg _
end Go.Proofs.Ytoglgeaiiipchaa

namespace Go.Proofs.Ytoglgeaiiipchaa
open Go Go.RowKit Go.Maps

def dgL (B : List Nat) : List Lit := B.map fun n : Nat => Lit.int .u8 (n : Int)
def bpV (x : Bp) : Value := .agg (boxC x.1 ++ boxC x.2)
def bpL (x : Bp) : Lit := .string (keyBytes (dgL (x.1 ++ x.2)))
def BpW (x : Bp) : Prop := x.1.length = 9 ∧ x.2.length = 9 ∧ (∀ d ∈ x.1 ++ x.2, d ≤ 255)
theorem u8_wf {n : Nat} (h : n ≤ 255) : (Lit.int .u8 (n : Int)).wf = true := by
  have : ∀ n : Fin 256, (Lit.int .u8 ((n : Nat) : Int)).wf = true := by decide +kernel
  exact this ⟨n, by omega⟩
theorem ex_succ3 {n : Nat} (h : 3 ≤ n) : ∃ k, n = k + 1 + 1 + 1 := ⟨n - 3, by omega⟩
theorem bpWide : (match Try.prog.underlying 131 with | some (.array _ _) | some (.struct _) => true | _ => false) = true := by kernel_rfl
theorem bpRow : (131 : TypeId) < Try.prog.types.size := of_decide_eq_true (by kernel_rfl)
set_option maxRecDepth 100000 in
theorem bpLaw : Keyed Try.prog 131 := Keyed.of_law (deep_law_laid spLaid (m := 5) (by decide) bpRow (by kernel_rfl) bpWide)
theorem kl_u8 (k : Nat) {n : Nat} (h : n ≤ 255) : Try.prog.keyLits (k + 1) 5 [.int .u8 (n : Int)] = some [.int .u8 (n : Int)] := by
  simp [Program.keyLits, Try.underlying5, u8_wf h]
theorem kl_row (k : Nat) {a b c : Nat} (ha : a ≤ 255) (hb : b ≤ 255) (hc : c ≤ 255) : Try.prog.keyLits (k + 1 + 1) 126 [.int .u8 (a : Int), .int .u8 (b : Int), .int .u8 (c : Int)] = some [.int .u8 (a : Int), .int .u8 (b : Int), .int .u8 (c : Int)] := by
  have h3 : Try.prog.cellsOf 126 = 3 := by kernel_rfl
  have h1 : Try.prog.cellsOf 5 = 1 := by kernel_rfl
  unfold Program.keyLits
  simp only [Try.underlying126, h3]
  simp [h1, List.range_succ, kl_u8 k ha, kl_u8 k hb, kl_u8 k hc]
theorem kl_box (k : Nat) {B : List Nat} (hl : B.length = 9) (hB : ∀ d ∈ B, d ≤ 255) : Try.prog.keyLits (k + 1 + 1 + 1) 128 (boxC B).toList = some (dgL B) := by
  have h9 : Try.prog.cellsOf 128 = 9 := by kernel_rfl
  have h3 : Try.prog.cellsOf 126 = 3 := by kernel_rfl
  obtain ⟨a, b, c, d, e, f, g, h, i, rfl⟩ := list9 hl
  unfold Program.keyLits
  simp only [Try.underlying128, h9]
  have r1 := kl_row k (hB a (by simp)) (hB b (by simp)) (hB c (by simp))
  have r2 := kl_row k (hB d (by simp)) (hB e (by simp)) (hB f (by simp))
  have r3 := kl_row k (hB g (by simp)) (hB h (by simp)) (hB i (by simp))
  simp [h3, List.range_succ, boxC, u8v, dgL, r1, r2, r3]
theorem bpKey (x : Bp) (h : BpW x) : Go.keyOf Try.prog 131 (bpV x) = some (bpL x) := by
  obtain ⟨X, Y⟩ := x
  obtain ⟨h1, h2, h3⟩ := h
  simp only at h1 h2 h3
  obtain ⟨k, hk⟩ : ∃ k, Try.prog.types.size = k + 1 + 1 + 1 := ex_succ3 (of_decide_eq_true (by kernel_rfl))
  have hc : Try.prog.cellsOf 131 = 18 := by kernel_rfl
  have h9 : Try.prog.cellsOf 128 = 9 := by kernel_rfl
  have ht : Try.prog.keyType 131 = true := by kernel_rfl
  have b1 := kl_box k h1 (fun d hd => h3 d (List.mem_append_left _ hd))
  have b2 := kl_box k h2 (fun d hd => h3 d (List.mem_append_right _ hd))
  have s1 : (boxC X).toList.length = 9 := by simp [boxC, h1]
  have s2 : (boxC Y).toList.length = 9 := by simp [boxC, h2]
  have hf : (bpV (X, Y)).formed Try.prog 131 = true := by simp [bpV, Value.formed, Try.underlying131, hc, boxC, h1, h2]
  have hl : Try.prog.keyLits (Try.prog.types.size + 1) 131 ((boxC X).toList ++ (boxC Y).toList) = some (dgL (X ++ Y)) := by
    rw [hk]
    unfold Program.keyLits
    simp only [Try.underlying131, hc]
    rw [if_pos (by simp [s1, s2])]
    have b2' : Try.prog.keyLits (k + 3) 128 (List.take 9 (boxC Y).toList) = some (dgL Y) := by rw [List.take_of_length_le (by rw [s2]; omega)]; exact b2
    simp [h9, List.take_append_of_le_length, List.drop_append_of_le_length, s1, s2, b1, dgL]
    rw [b2']
    simp [dgL]
  unfold Go.keyOf
  simp only [Try.underlying131, ht, hf, Bool.and_self, if_true]
  show (Option.map _ (Try.prog.keyLits (Try.prog.types.size + 1) 131 ((boxC X) ++ (boxC Y)).toList)) = _
  rw [Array.toList_append, hl]
  rfl
theorem dg_alike : ∀ {X Y : List Nat}, X.length = Y.length → Alike (dgL X) (dgL Y)
  | [], [], _ => trivial
  | _ :: X, _ :: Y, h => ⟨rfl, dg_alike (X := X) (Y := Y) (by simpa using h)⟩
theorem dg_inj : ∀ {X Y : List Nat}, dgL X = dgL Y → X = Y
  | [], [], _ => rfl
  | [], y :: Y, h => by simp [dgL] at h
  | x :: X, [], h => by simp [dgL] at h
  | x :: X, y :: Y, h => by
    simp only [dgL, List.map_cons, List.cons.injEq] at h
    obtain ⟨h1, h2⟩ := h
    rw [dg_inj (X := X) (Y := Y) h2]
    simp at h1
    obtain rfl : x = y := by omega
    rfl
theorem bpInj (x y : Bp) (hx : BpW x) (hy : BpW y) (h : bpL x = bpL y) : x = y := by
  obtain ⟨X, Y⟩ := x
  obtain ⟨X', Y'⟩ := y
  obtain ⟨h1, h2, h3⟩ := hx
  obtain ⟨g1, g2, g3⟩ := hy
  simp only at h1 h2 h3 g1 g2 g3
  unfold bpL at h
  have wf : ∀ Z : List Nat, (∀ d ∈ Z, d ≤ 255) → ∀ a ∈ dgL Z, a.keyWf := fun Z hZ a ha => by
    obtain ⟨d, hd, rfl⟩ := List.mem_map.1 ha
    exact u8_wf (hZ d hd)
  have h := keyBytes_inj (l := dgL (X ++ Y)) (l' := dgL (X' ++ Y')) (dg_alike (by simp [h1, h2, g1, g2])) (wf _ h3) (wf _ g3) (by simpa using h)
  obtain ⟨e1, e2⟩ := List.append_inj (dg_inj h) (by rw [h1, g1])
  rw [e1, e2]
/-- bools as elements -/
def blE (v : Value) : Option (DataW Unit × List MemPlace) :=
  match v with
  | .bool b => some (.lit (.bool b), [])
  | _ => none
theorem bpK : KM 131 4 149 bpV bpL BpW Value.bool blE (fun b => .lit (.bool b)) false := by
  refine ⟨bpLaw, Try.underlying149, fun w => by kernel_rfl, bpKey, fun k => trivial, bpInj, fun e => rfl, fun v z h => ?_, fun a b h => by simpa using h⟩
  unfold blE at h
  split at h
  · rename_i b
    exact ⟨b, rfl, (Option.some.inj h).symm⟩
  · cases h
/-- slices as elements -/
abbrev Sl := Option Addr × Nat × Nat
def slV (s : Sl) : Value := .slice s.1 s.2.1 s.2.2
def slD (s : Sl) : DataW Unit :=
  match s.1 with
  | none => .agg [.lit (.int .i64 s.2.1), .lit (.int .i64 s.2.2)]
  | some ⟨b, o, none⟩ => .agg [.lit (.int .i64 s.2.1), .lit (.int .i64 s.2.2), .lit (.int .i64 b), .lit (.int .i64 o)]
  | some ⟨b, o, some p⟩ => .agg [.lit (.int .i64 s.2.1), .lit (.int .i64 s.2.2), .lit (.int .i64 b), .lit (.int .i64 o), .lit (.int .i64 p)]
def slE (v : Value) : Option (DataW Unit × List MemPlace) :=
  match v with
  | .slice A n c => some (slD (A, n, c), [])
  | _ => none
theorem slD_inj (s t : Sl) (h : slD s = slD t) : s = t := by
  obtain ⟨A, n, c⟩ := s
  obtain ⟨A', n', c'⟩ := t
  match A, A', h with
  | none, none, h =>
    simp [slD] at h
    exact Prod.ext rfl (Prod.ext (by show n = n'; omega) (by show c = c'; omega))
  | none, some ⟨b, o, none⟩, h => simp [slD] at h
  | none, some ⟨b, o, some p⟩, h => simp [slD] at h
  | some ⟨b, o, none⟩, none, h => simp [slD] at h
  | some ⟨b, o, some p⟩, none, h => simp [slD] at h
  | some ⟨b, o, none⟩, some ⟨b', o', none⟩, h =>
    simp [slD] at h
    obtain rfl : b = b' := by omega
    obtain rfl : o = o' := by omega
    exact Prod.ext rfl (Prod.ext (by show n = n'; omega) (by show c = c'; omega))
  | some ⟨b, o, none⟩, some ⟨b', o', some p⟩, h => simp [slD] at h
  | some ⟨b, o, some p⟩, some ⟨b', o', none⟩, h => simp [slD] at h
  | some ⟨b, o, some p⟩, some ⟨b', o', some p'⟩, h =>
    simp [slD] at h
    obtain rfl : b = b' := by omega
    obtain rfl : o = o' := by omega
    obtain rfl : p = p' := by omega
    exact Prod.ext rfl (Prod.ext (by show n = n'; omega) (by show c = c'; omega))
abbrev S2 := Int × Int
def s2V (x : S2) : Value := .agg #[.int .i64 x.1, .int .i64 x.2]
def s2L (x : S2) : Lit := .string (keyBytes [.int .i64 x.1, .int .i64 x.2])
def S2W (x : S2) : Prop := (Lit.int .i64 x.1).wf = true ∧ (Lit.int .i64 x.2).wf = true
theorem s2Wide : (match Try.prog.underlying 137 with | some (.array _ _) | some (.struct _) => true | _ => false) = true := by kernel_rfl
theorem s2Row : (137 : TypeId) < Try.prog.types.size := of_decide_eq_true (by kernel_rfl)
set_option maxRecDepth 100000 in
theorem s2Law : Keyed Try.prog 137 := Keyed.of_law (deep_law_laid spLaid (m := 3) (by decide) s2Row (by kernel_rfl) s2Wide)
theorem s2Key (x : S2) (h : S2W x) : Go.keyOf Try.prog 137 (s2V x) = some (s2L x) := by
  obtain ⟨k, hk⟩ : ∃ k, Try.prog.types.size = k + 1 + 1 + 1 := ex_succ3 (of_decide_eq_true (by kernel_rfl))
  have h1 : ∀ (a : Int), (Lit.int .i64 a).wf = true → Try.prog.keyLits (k + 1 + 1 + 1) 135 [.int .i64 a] = some [.int .i64 a] := fun a ha => by
    simp [Program.keyLits, Try.underlying135, ha]
  have hc : Try.prog.cellsOf 137 = 2 := by kernel_rfl
  have hc1 : Try.prog.cellsOf 135 = 1 := by kernel_rfl
  have ht : Try.prog.keyType 137 = true := by kernel_rfl
  have hf : (s2V x).formed Try.prog 137 = true := by simp [s2V, Value.formed, Try.underlying137, hc]
  have hl : Try.prog.keyLits (Try.prog.types.size + 1) 137 [.int .i64 x.1, .int .i64 x.2] = some [.int .i64 x.1, .int .i64 x.2] := by
    rw [hk]
    unfold Program.keyLits
    simp only [Try.underlying137, hc]
    have a1 := h1 _ h.1
    have a2 := h1 _ h.2
    simp [hc1, List.range_succ, a1, a2]
  unfold Go.keyOf
  simp only [Try.underlying137, ht, hf, Bool.and_self, if_true]
  show (Option.map _ (Try.prog.keyLits (Try.prog.types.size + 1) 137 [.int .i64 x.1, .int .i64 x.2])) = _
  rw [hl]
  rfl
theorem s2Inj (x y : S2) (hx : S2W x) (hy : S2W y) (h : s2L x = s2L y) : x = y := by
  unfold s2L at h
  have h := keyBytes_inj (l := [.int .i64 x.1, .int .i64 x.2]) (l' := [.int .i64 y.1, .int .i64 y.2]) ⟨rfl, rfl, trivial⟩ (fun a ha => by rcases List.mem_cons.1 ha with rfl | ha; exact hx.1; rw [List.mem_singleton.1 ha]; exact hx.2) (fun a ha => by rcases List.mem_cons.1 ha with rfl | ha; exact hy.1; rw [List.mem_singleton.1 ha]; exact hy.2) (by simpa using h)
  simp at h
  exact Prod.ext h.1 h.2
theorem s2K : KM 137 138 132 s2V s2L S2W slV slE slD (none, 0, 0) := by
  refine ⟨s2Law, Try.underlying132, fun w => by kernel_rfl, s2Key, fun k => trivial, s2Inj, fun e => rfl, fun v z h => ?_, slD_inj⟩
  unfold slE at h
  split at h
  · rename_i A n c
    exact ⟨(A, n, c), rfl, (Option.some.inj h).symm⟩
  · cases h
set_option maxRecDepth 100000 in
theorem s2Kinv {key : Value} {kl : Lit} (h : Go.keyOf Try.prog 137 key = some kl) : ∃ z : S2, key = s2V z ∧ kl = s2L z ∧ S2W z := by
  have hc : Try.prog.cellsOf 137 = 2 := by kernel_rfl
  have hc1 : Try.prog.cellsOf 135 = 1 := by kernel_rfl
  have ht : Try.prog.keyType 137 = true := by kernel_rfl
  unfold Go.keyOf at h
  simp only [Try.underlying137, ht, Bool.true_and] at h
  split at h
  · rename_i hf
    cases key <;> simp only [Value.formed, Try.underlying137, Bool.false_eq_true] at hf
    rename_i cs
    rw [hc] at hf
    obtain ⟨cl⟩ := cs
    match cl, hf with
    | [c0, c1], _ =>
      simp only [Value.cells] at h
      obtain ⟨ls, hls, rfl⟩ := Option.map_eq_some_iff.1 h
      unfold Program.keyLits at hls
      simp only [Try.underlying137, hc] at hls
      simp [hc1, List.range_succ] at hls
      obtain ⟨l0, h0, hls⟩ := Option.bind_eq_some_iff.1 hls
      obtain ⟨n0, e0, rfl⟩ := keyLits_int' Try.underlying135 h0
      obtain ⟨l1, hls, hl1⟩ := Option.map_eq_some_iff.1 hls
      obtain ⟨l2, hl2, hls⟩ := Option.bind_eq_some_iff.1 hls
      obtain ⟨l3, h3, hl3⟩ := Option.bind_eq_some_iff.1 hl2
      obtain ⟨n1, e1, rfl⟩ := keyLits_int' Try.underlying135 h3
      obtain rfl : c0 = .int .i64 n0 := by simpa using e0
      obtain rfl : c1 = .int .i64 n1 := by simpa using e1
      have w0 := keyLits_wf h0 _ (List.mem_singleton.2 rfl)
      have w1 := keyLits_wf h3 _ (List.mem_singleton.2 rfl)
      obtain rfl := Option.some.inj hl3
      obtain rfl := Option.some.inj hls
      subst hl1
      exact ⟨(n0, n1), rfl, rfl, w0, w1⟩
  · cases h
end Go.Proofs.Ytoglgeaiiipchaa

namespace Go.Proofs.Ytoglgeaiiipchaa
open Go Go.RowKit
theorem infoInt : (Try.prog.info? 3).map (fun i => (i.zero, i.size, i.bytes)) = some (some (.int .i64 0), 1, 8) := by kernel_rfl
theorem infoBool : (Try.prog.info? 4).map (fun i => (i.zero, i.size, i.bytes)) = some (some (.bool false), 1, 1) := by kernel_rfl
theorem infoRow : (Try.prog.info? 37).map (fun i => (i.zero, i.size, i.bytes)) = some (some (.slice none 0 0), 1, 24) := by kernel_rfl
end Go.Proofs.Ytoglgeaiiipchaa

namespace Go.Proofs.Ytoglgeaiiipchaa
open Go Go.RowKit

/-- a row of bools that the call made, known whole -/
def BRow (w : World) (g : Nat) (xs : List Bool) : Prop := w.heap[g]? = some (.cells (xs.map Value.bool).toArray 4 (0, 0))
theorem BRow.below {w w' : World} {g : Nat} {xs : List Bool} (h : BRow w g xs) {B : Nat} (hb : Below B w w') (hg : g < B) : BRow w' g xs := (hb.block g hg).trans h
theorem BRow.lt {w : World} {g : Nat} {xs : List Bool} (h : BRow w g xs) : g < w.heap.size := by
  rcases Nat.lt_or_ge g w.heap.size with hl | hl
  · exact hl
  · unfold BRow at h
    rw [Array.getElem?_eq_none hl] at h
    cases h
theorem BRow.cell {w : World} {g : Nat} {xs : List Bool} (h : BRow w g xs) {i : Nat} (hi : i < xs.length) : w.cell? ⟨g, i, none⟩ = some (.bool xs[i]) ∧ w.frozen? ⟨g, i, none⟩ = false := by
  unfold BRow at h
  refine ⟨?_, ?_⟩
  · simp only [World.cell?, h]
    simp [hi]
  · simp only [World.frozen?, h]
    simp
theorem BRow.set_ {w : World} {g : Nat} {xs : List Bool} (h : BRow w g xs) (i : Nat) (v : Bool) : BRow (w.setCell ⟨g, i, none⟩ (.bool v)) g (xs.set i v) := by
  unfold BRow at h ⊢
  simp [World.setCell, Array.getElem?_modify, h]

theorem BRow.getD_ {w : World} {g : Nat} {xs : List Bool} (h : BRow w g xs) {i : Nat} (hi : i < xs.length) (s : Bool) : w.cell? ⟨g, i, none⟩ = some (.bool (xs.getD i s)) ∧ w.frozen? ⟨g, i, none⟩ = false := by
  have := h.cell hi
  rw [List.getD_eq_getElem?_getD, List.getElem?_eq_getElem hi]
  exact this
theorem flatMap_bool (xs : List Bool) : xs.flatMap (fun b : Bool => [Value.bool b]) = xs.map Value.bool := by
  induction xs with
  | nil => rfl
  | cons x r ih => rw [List.flatMap_cons, ih]; rfl
theorem BRow.bools {w : World} {g : Nat} {xs : List Bool} (h : BRow w g xs) (hl : xs.length ≤ 1000000) : Bools w g (some ⟨g, 0, none⟩) xs.length xs := by
  refine ⟨Nat.le_refl _, by omega, by omega, fun _ => ⟨g, 0, rfl, Nat.le_refl _, h.lt, fun j u hu => ?_⟩⟩
  rw [flatMap_bool] at hu
  unfold BRow at h
  simp only [World.cell?, h, Nat.zero_add]
  simpa using hu
theorem BRow.grown {w w' : World} {g : Nat} {xs : List Bool} {row : Option Nat} (h : BRow w g xs) (hg : w.grownBy w' row) (hne : some g ≠ row) : BRow w' g xs := (hg.block g h.lt hne).trans h
theorem BRow.set_far {w : World} {g : Nat} {xs : List Bool} (h : BRow w g xs) {p : Addr} (hp : g ≠ p.block) (u : Value) : BRow (w.setCell p u) g xs := (Below.heap_setCell w p u g hp).trans h
/-- how many of a row's cells are s -/
noncomputable def rowCnt (s : Bool) (g : Nat) (w : World) : Nat :=
  match w.heap[g]? with
  | some (.cells cs _ _) => (cs.toList.filter (fun v => match v with | .bool b => b == s | _ => false)).length
  | _ => 0
theorem rowCnt_eq {s : Bool} {g : Nat} {w : World} {xs : List Bool} (h : BRow w g xs) : rowCnt s g w = xs.count s := by
  unfold BRow at h
  unfold rowCnt
  rw [h]
  simp only [List.filter_map, List.length_map, List.count_eq_length_filter]
  congr 1

theorem BRow.new (w : World) (n : Nat) : BRow (w.alloc (Obj.cells (madeCells #[Value.bool false] n) 4)) w.heap.size (List.replicate n false) := by
  have e : madeCells #[Value.bool false] n = ((List.replicate n false).map Value.bool).toArray := by
    rw [List.map_replicate]
    unfold madeCells
    apply Array.ext
    · simp
    · intro i h1 h2
      simp [Nat.mod_one]
  show (w.heap.push _)[w.heap.size]? = _
  rw [e]
  simp
theorem run_makeBools (st : Int) (n : Nat) (hn : (n : Int) = st) (hl : n ≤ 1000000) : ∀ w, (Instr.makeSlice 37 (.int .i64 st) (.int .i64 st)).run Try.prog w = .ok (.slice (some ⟨w.heap.size, 0, none⟩) n n) (w.alloc (Obj.cells (madeCells #[Value.bool false] n) 4)) := by
  intro w
  obtain ⟨i0, hi0, hz0, hz1, hz2⟩ := info_parts infoBool
  have := run_make (P := Try.prog) w 37 4 i0 (.bool false) Try.underlying37 hi0 hz0 .i64 .i64 st st (by omega) (by omega) (by rw [hz2]; omega) (by omega)
  rw [this, ← hn, hz1]
  simp [Value.cells]
theorem BRow.alloc {w : World} {n g : Nat} {xs : List Bool} (h : BRow w g xs) : BRow (w.alloc (Obj.cells (madeCells #[Value.bool false] n) 4)) g xs := h.below ((Below.refl _ w).alloc (Nat.le_refl _) _) h.lt
end Go.Proofs.Ytoglgeaiiipchaa

namespace Go.Proofs.Ytoglgeaiiipchaa
open Go Go.RowKit

theorem infoNode : (Try.prog.info? 65).map (fun i => (i.zero, i.size, i.bytes)) = some (some (.agg #[.int .i64 0, .int .i64 0, .int .i64 0, .int .i64 0]), 4, 32) := by kernel_rfl
theorem step_appRun {P : Program} {w w' : World} {ops : Array Oper} {o : Oper} {a : Act} {K : Act → World → Prop} {Q : Exit → Act → World → Prop} {E : Prop} (hgd : o.guard = none) (s x : Operand) (t tn : TypeId)
    (ho : o.op = .call { callee := .builtin .append, args := #[s, x], argTypes := #[t, tn] }) (v u r : Value) (hs : a.eval s = v) (hx : a.eval x = u)
    (hrun : (Builtin.append_ #[t, tn] o.type #[v, u]).run P w = .ok r w') (h : K (a.put o.dst r) w') :
    if Region.wanted o (yielded ops a.tmps) = true then Oper.wp P o a w K Q else E := by
  have hw : Region.wanted o (yielded ops a.tmps) = true := by simp [Region.wanted, hgd]
  rw [if_pos hw]
  unfold Oper.wp execOp
  simp only [ho, resolve, invoke, builtin, Sem.run_bind, Sem.run_pure, Result.andThen_ok, List.map_toArray, List.map_cons, List.map_nil, hs, hx, hrun]
  exact h
/-- from W0 on, but for a block that was owned there, all that there was stays; the nodes o are owned by v -/
structure NOwn (base : Nat) (W0 : World) (row : Option Nat) (W : World) (v : Value) (o : List Nd) : Prop where
  own : W.ownsRow base 65 4 v o.length (o.flatMap Nd.cells)
  gr : W0.grownBy W row
  bl : ∀ k, v.ownBlock = some k → row = some k ∨ W0.heap.size ≤ k
section
variable {base : Nat} {W0 W W' : World} {row : Option Nat} {v : Value} {o : List Nd}
theorem NOwn.form (h : NOwn base W0 row W v o) (hl : o.length ≤ 1000000) : ∃ A c, v = .slice A o.length c ∧ Nds W base A c o := SlE.of_own h.own (by omega)
theorem NOwn.below (h : NOwn base W0 row W v o) (hb : Below W.heap.size W W') : NOwn base W0 row W' v o :=
  ⟨own_below h.own hb, h.gr.trans ⟨hb.os, hb.tape, hb.output, hb.size, fun k hk _ => hb.block k hk⟩, h.bl⟩
theorem NOwn.alloc (h : NOwn base W0 row W v o) (x : Obj) : NOwn base W0 row (W.alloc x) v o := h.below ((Below.refl _ _).alloc (Nat.le_refl _) _)
theorem NOwn.refl (h : W.ownsRow base 65 4 v o.length (o.flatMap Nd.cells)) : NOwn base W v.ownBlock W v o := ⟨h, World.grownBy.refl _ _, fun _ hk => .inl hk⟩
theorem NOwn.cell (h : NOwn base W0 row W v o) {a : Addr} {u : Value} (hc : W0.cell? a = some u) (hne : some a.block ≠ row) : W.cell? a = some u := h.gr.cell hc hne
theorem NOwn.belowB {B : Nat} {w : World} (h : NOwn base W0 row W v o) (hb : Below B w W0) (hB : B ≤ W0.heap.size) (hrow : ∀ k, row = some k → B ≤ k) : Below B w W := hb.grown h.gr hB hrow
/-- what a call that goes on with owned nodes leaves -/
def NTo (base : Nat) (o' : List Nd) (v : Value) (W : World) (e : Ending) (w' : World) : Prop := ∃ v', e = .returned v' ∧ NOwn base W v.ownBlock w' v' o'
theorem NOwn.call {o' : List Nd} {v' : Value} (h : NOwn base W0 row W v o) (hc : NOwn base W v.ownBlock W' v' o') : NOwn base W0 row W' v' o' := by
  refine ⟨hc.own, h.gr.andThen hc.gr (fun j hj => ?_), fun k hk => ?_⟩
  · rcases h.bl j hj with h1 | h1
    · exact .inr h1
    · exact .inl h1
  · rcases hc.bl k hk with h1 | h1
    · exact h.bl k h1
    · exact .inr (Nat.le_trans h.gr.size h1)
theorem NOwn.app (h : NOwn base W0 row W v o) (x : Nd) (hl : o.length ≤ 1000000) (hb : base ≤ W.heap.size) :
    ∃ T c w', (Builtin.append_ #[23, 23] 23 #[v, .slice (some ⟨W.heap.size, 0, none⟩) 1 1]).run Try.prog (W.alloc (.cells #[.int .i64 x.k, .int .i64 x.a, .int .i64 x.b, .int .i64 x.n] 65)) = .ok (.slice T (o.length + 1) c) w' ∧
      NOwn base W0 row w' (.slice T (o.length + 1) c) (o ++ [x]) ∧ W.grownBy w' v.ownBlock := by
  obtain ⟨i0, hi0, hz0, hz1, hz2⟩ := info_parts infoNode
  have ha := h.alloc (.cells #[.int .i64 x.k, .int .i64 x.a, .int .i64 x.b, .int .i64 x.n] 65)
  obtain ⟨v', w', hrun, h2, h3, h4⟩ := run_app (P := Try.prog) (W.alloc (.cells #[.int .i64 x.k, .int .i64 x.a, .int .i64 x.b, .int .i64 x.n] 65)) base 23 23 65 i0 _ 4 32 Try.underlying23 hi0 hz0 hz1 hz2 rfl (by decide)
    v o.length _ ha.own (some ⟨W.heap.size, 0, none⟩) 1 1 x.cells rfl (fun _ => ⟨_, 0, rfl, Nat.zero_le _, by simp, fun j u hu => by
      have h : (W.alloc (Obj.cells #[.int .i64 x.k, .int .i64 x.a, .int .i64 x.b, .int .i64 x.n] 65)).heap[W.heap.size]? = some (Obj.cells #[.int .i64 x.k, .int .i64 x.a, .int .i64 x.b, .int .i64 x.n] 65) := by
        show (W.heap.push _)[W.heap.size]? = _
        simp
      simp only [World.cell?, h, Nat.zero_add]
      simpa [Nd.cells] using hu⟩)
    (by intro u hu; simp only [Nd.cells, List.mem_cons, List.not_mem_nil, or_false] at hu; rcases hu with rfl | rfl | rfl | rfl <;> rfl)
    (by simp only [maxLen]; omega) (by omega) (by simp; omega)
  have hown : w'.ownsRow base 65 4 v' (o ++ [x]).length ((o ++ [x]).flatMap Nd.cells) := by simpa using h2
  obtain ⟨T, c, hv, _⟩ := own_form hown
  rw [show (o ++ [x]).length = o.length + 1 by simp] at hv
  subst hv
  have hg : W.grownBy w' v.ownBlock := (World.grownBy_alloc W _ _).trans h3
  have hbl : ∀ k, (Value.slice T (o.length + 1) c).ownBlock = some k → v.ownBlock = some k ∨ W.heap.size ≤ k := by
    intro k hk
    rcases h4 with h4 | h4
    · exact .inl (h4 ▸ hk)
    · rw [h4] at hk
      simp at hk
      exact .inr (by omega)
  exact ⟨T, c, w', hrun, h.call ⟨hown, hg, hbl⟩, hg⟩
end
end Go.Proofs.Ytoglgeaiiipchaa
