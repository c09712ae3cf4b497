/- Walks: include's note of a word met. -/
import Derived.Test.YtoglgeaiiipchaaLISM9
import Derived.Test.YtoglgeaiiipchaaLISM10
import Derived.Deep.MidRow
import Derived.Deep.RegionHeld3
set_option linter.unusedSimpArgs false
set_option linter.unusedVariables false
namespace Go.Proofs.Ytoglgeaiiipchaa
open Go Go.RowKit Go.Maps

/-- what a box of two boxes lies in: eighteen bytes -/
theorem cells18 {W : World} {X : Nat} {x0 x1 x2 x3 x4 x5 x6 x7 x8 y0 y1 y2 y3 y4 y5 y6 y7 y8 : Nat} {t : TypeId} (h : W.heap[X]? = some (.cells #[.int .u8 (x0 : Int), .int .u8 (x1 : Int), .int .u8 (x2 : Int), .int .u8 (x3 : Int), .int .u8 (x4 : Int), .int .u8 (x5 : Int), .int .u8 (x6 : Int), .int .u8 (x7 : Int), .int .u8 (x8 : Int), .int .u8 (y0 : Int), .int .u8 (y1 : Int), .int .u8 (y2 : Int), .int .u8 (y3 : Int), .int .u8 (y4 : Int), .int .u8 (y5 : Int), .int .u8 (y6 : Int), .int .u8 (y7 : Int), .int .u8 (y8 : Int)] t (0, 0))) : W.cell? ⟨X, 0, none⟩ = some (.int .u8 (x0 : Int)) ∧ W.cell? ⟨X, 1, none⟩ = some (.int .u8 (x1 : Int)) ∧ W.cell? ⟨X, 2, none⟩ = some (.int .u8 (x2 : Int)) ∧ W.cell? ⟨X, 3, none⟩ = some (.int .u8 (x3 : Int)) ∧ W.cell? ⟨X, 4, none⟩ = some (.int .u8 (x4 : Int)) ∧ W.cell? ⟨X, 5, none⟩ = some (.int .u8 (x5 : Int)) ∧ W.cell? ⟨X, 6, none⟩ = some (.int .u8 (x6 : Int)) ∧ W.cell? ⟨X, 7, none⟩ = some (.int .u8 (x7 : Int)) ∧ W.cell? ⟨X, 8, none⟩ = some (.int .u8 (x8 : Int)) ∧ W.cell? ⟨X, 9, none⟩ = some (.int .u8 (y0 : Int)) ∧ W.cell? ⟨X, 10, none⟩ = some (.int .u8 (y1 : Int)) ∧ W.cell? ⟨X, 11, none⟩ = some (.int .u8 (y2 : Int)) ∧ W.cell? ⟨X, 12, none⟩ = some (.int .u8 (y3 : Int)) ∧ W.cell? ⟨X, 13, none⟩ = some (.int .u8 (y4 : Int)) ∧ W.cell? ⟨X, 14, none⟩ = some (.int .u8 (y5 : Int)) ∧ W.cell? ⟨X, 15, none⟩ = some (.int .u8 (y6 : Int)) ∧ W.cell? ⟨X, 16, none⟩ = some (.int .u8 (y7 : Int)) ∧ W.cell? ⟨X, 17, none⟩ = some (.int .u8 (y8 : Int)) := by
  refine ⟨?_, ?_, ?_, ?_, ?_, ?_, ?_, ?_, ?_, ?_, ?_, ?_, ?_, ?_, ?_, ?_, ?_, ?_⟩ <;> simp [World.cell?, h]
theorem nt_z {W W5 : World} {X : Nat} {o : Obj} (zz : W.heap[X]? = some o) (hb : Below W.heap.size W W5) : W5.heap[X]? = some o := (hb.block X (Array.getElem?_eq_some_iff.1 zz).1).trans zz
theorem nt_b {W4 W W5 : World} (bb : Below W4.heap.size W4 W) (hb : Below W.heap.size W W5) : Below W4.heap.size W4 W5 := Below_on bb hb bb.size
theorem nt_a {W : World} {X : Nat} {o : Obj} (zz : W.heap[X]? = some o) (b : Obj) : (W.alloc b).heap[X]? = some o := nt_z zz ((Below.refl _ _).alloc (Nat.le_refl _) _)
theorem nt_d {W4 W : World} (bb : Below W4.heap.size W4 W) (b : Obj) : Below W4.heap.size W4 (W.alloc b) := nt_b bb ((Below.refl _ _).alloc (Nat.le_refl _) _)
theorem nt_c {W : World} {Z : Nat} {a b : Value} {t : TypeId} (h : W.heap[Z]? = some (.cells #[a, b] t (0, 0))) : W.cell? ⟨Z, 0, none⟩ = some a ∧ W.cell? ⟨Z, 1, none⟩ = some b ∧ W.frozen? ⟨Z, 0, none⟩ = false ∧ W.frozen? ⟨Z, 1, none⟩ = false := by
  refine ⟨?_, ?_, ?_, ?_⟩ <;> simp [World.cell?, World.frozen?, h]
theorem nt_w {W : World} {Z : Nat} {a b : Value} {t : TypeId} (h : W.heap[Z]? = some (.cells #[a, b] t (0, 0))) (u v : Value) : ((W.setCell ⟨Z, 0, none⟩ u).setCell ⟨Z, 1, none⟩ v).heap[Z]? = some (.cells #[u, v] t (0, 0)) := by
  simp [World.setCell, Array.getElem?_modify, h]
theorem nt_s {W : World} {X Z : Nat} {o : Obj} (zz : W.heap[X]? = some o) (hne : X ≠ Z) (u v : Value) : ((W.setCell ⟨Z, 0, none⟩ u).setCell ⟨Z, 1, none⟩ v).heap[X]? = some o :=
  (Below.heap_setCell _ ⟨Z, 1, none⟩ v X hne).trans ((Below.heap_setCell W ⟨Z, 0, none⟩ u X hne).trans zz)
theorem nt_u {W4 W : World} {Z : Nat} (bb : Below W4.heap.size W4 W) (hZ : W4.heap.size ≤ Z) (u v : Value) : Below W4.heap.size W4 ((W.setCell ⟨Z, 0, none⟩ u).setCell ⟨Z, 1, none⟩ v) :=
  (bb.setCell (p := ⟨Z, 0, none⟩) hZ u).setCell (p := ⟨Z, 1, none⟩) hZ v
theorem infoBox : (Try.prog.info? 128).map (fun i => i.size) = some 9 := by kernel_rfl
theorem nt_r0 {W : World} {X : Nat} {x0 x1 x2 x3 x4 x5 x6 x7 x8 y0 y1 y2 y3 y4 y5 y6 y7 y8 : Nat} {t : TypeId} (h : W.heap[X]? = some (.cells #[.int .u8 (x0 : Int), .int .u8 (x1 : Int), .int .u8 (x2 : Int), .int .u8 (x3 : Int), .int .u8 (x4 : Int), .int .u8 (x5 : Int), .int .u8 (x6 : Int), .int .u8 (x7 : Int), .int .u8 (x8 : Int), .int .u8 (y0 : Int), .int .u8 (y1 : Int), .int .u8 (y2 : Int), .int .u8 (y3 : Int), .int .u8 (y4 : Int), .int .u8 (y5 : Int), .int .u8 (y6 : Int), .int .u8 (y7 : Int), .int .u8 (y8 : Int)] t (0, 0))) : W.rangeAt X 0 [.int .u8 (x0 : Int), .int .u8 (x1 : Int), .int .u8 (x2 : Int), .int .u8 (x3 : Int), .int .u8 (x4 : Int), .int .u8 (x5 : Int), .int .u8 (x6 : Int), .int .u8 (x7 : Int), .int .u8 (x8 : Int)] := by
  intro j v hj
  rw [Nat.zero_add]
  simp only [World.cell?, h]
  have : j < 9 := (List.getElem?_eq_some_iff.1 hj).1
  have hj2 : ([.int .u8 (x0 : Int), .int .u8 (x1 : Int), .int .u8 (x2 : Int), .int .u8 (x3 : Int), .int .u8 (x4 : Int), .int .u8 (x5 : Int), .int .u8 (x6 : Int), .int .u8 (x7 : Int), .int .u8 (x8 : Int)] ++ [.int .u8 (y0 : Int), .int .u8 (y1 : Int), .int .u8 (y2 : Int), .int .u8 (y3 : Int), .int .u8 (y4 : Int), .int .u8 (y5 : Int), .int .u8 (y6 : Int), .int .u8 (y7 : Int), .int .u8 (y8 : Int)] : List Value)[j]? = some v := by rw [List.getElem?_append_left this]; exact hj
  simpa using hj2
theorem nt_r9 {W : World} {X : Nat} {x0 x1 x2 x3 x4 x5 x6 x7 x8 y0 y1 y2 y3 y4 y5 y6 y7 y8 : Nat} {t : TypeId} (h : W.heap[X]? = some (.cells #[.int .u8 (x0 : Int), .int .u8 (x1 : Int), .int .u8 (x2 : Int), .int .u8 (x3 : Int), .int .u8 (x4 : Int), .int .u8 (x5 : Int), .int .u8 (x6 : Int), .int .u8 (x7 : Int), .int .u8 (x8 : Int), .int .u8 (y0 : Int), .int .u8 (y1 : Int), .int .u8 (y2 : Int), .int .u8 (y3 : Int), .int .u8 (y4 : Int), .int .u8 (y5 : Int), .int .u8 (y6 : Int), .int .u8 (y7 : Int), .int .u8 (y8 : Int)] t (0, 0))) : W.rangeAt X 9 [.int .u8 (y0 : Int), .int .u8 (y1 : Int), .int .u8 (y2 : Int), .int .u8 (y3 : Int), .int .u8 (y4 : Int), .int .u8 (y5 : Int), .int .u8 (y6 : Int), .int .u8 (y7 : Int), .int .u8 (y8 : Int)] := by
  intro j v hj
  simp only [World.cell?, h]
  have hj2 : ([.int .u8 (x0 : Int), .int .u8 (x1 : Int), .int .u8 (x2 : Int), .int .u8 (x3 : Int), .int .u8 (x4 : Int), .int .u8 (x5 : Int), .int .u8 (x6 : Int), .int .u8 (x7 : Int), .int .u8 (x8 : Int)] ++ [.int .u8 (y0 : Int), .int .u8 (y1 : Int), .int .u8 (y2 : Int), .int .u8 (y3 : Int), .int .u8 (y4 : Int), .int .u8 (y5 : Int), .int .u8 (y6 : Int), .int .u8 (y7 : Int), .int .u8 (y8 : Int)] : List Value)[9 + j]? = some v := by
    rw [List.getElem?_append_right (by simp)]
    simpa using hj
  simpa using hj2
theorem infoBoxes : (Try.prog.info? 131).map (fun i => i.size) = some 18 := by kernel_rfl
noncomputable def ky (x : Bp) : S2 := (((livesN x.1 : Nat) : Int), ((livesN x.2 : Nat) : Int))
theorem ky_w (x : Bp) : S2W (ky x) := by
  have h : ∀ n : Nat, n < 8 → (Lit.int .i64 (n : Int)).wf = true := fun n hn => WalkArith.wf_i64 (by omega)
  exact ⟨h _ (bits3_lt _), h _ (bits3_lt _)⟩
structure NtPost (B : Nat) (Vm Vl Vo Mm Mo : Nat) (v : Value) (D : List Bp) (xs : List En) (Ws : List (Sl × List Int)) (O : List (S2 × Sl)) (x : Bp) (wd : List Int) (s : Sl) (w : World) (e : Ending) (w' : World) : Prop where
  e : e = .returned (.tuple #[])
  k : KpL Vl Mm Mo v.ownBlock w w'
  is : (x ∈ D ∧ LpMem B w' Vm Vl Vo Mm Mo v D xs Ws O) ∨
    (x ∉ D ∧ ∃ A c, LpMem B w' Vm Vl Vo Mm Mo (.slice A (xs.length + 1) c) (D ++ [x]) (xs ++ [(x, wd, s)]) Ws (if ky x ∈ O.map Prod.fst then O else O ++ [(ky x, s)]) ∧ (∀ k, (Value.slice A (xs.length + 1) c).ownBlock = some k → v.ownBlock = some k ∨ w.heap.size ≤ k))
set_option maxRecDepth 100000 in
set_option maxHeartbeats 8000000 in
theorem note_ (B Vm Vl Vo Mm Mo : Nat) (v : Value) (D : List Bp) (xs : List En) (Ws : List (Sl × List Int)) (O : List (S2 × Sl)) (x : Bp) (hx1 : x.1.length = 9) (hx2 : x.2.length = 9) (hle : ∀ i j, i < 3 → j < 3 → bg x.1 i j ≤ 2 ∧ bg x.2 i j ≤ 2) (hbw : BpW x) (wd : List Int) (s : Sl)
    (hDw : ∀ y ∈ D, BpW y) (hDn : D.Nodup) (hOw : ∀ o ∈ O, S2W o.1) (hOn : (O.map Prod.fst).Nodup) (hDl : D.length ≤ 1000000000) (hxl : xs.length ≤ 1000000000) (hOl : O.length ≤ 1000000000) (w : World) (hB : B ≤ w.heap.size) (hm : LpMem B w Vm Vl Vo Mm Mo v D xs Ws O) :
    Calls Try.prog 107 #[bpV x, slV s, .pointer (some ⟨Vm, 0, none⟩), .pointer (some ⟨Vl, 0, none⟩), .pointer (some ⟨Vo, 0, none⟩)] w (NtPost B Vm Vl Vo Mm Mo v D xs Ws O x wd s w) := by
  obtain ⟨X1, X2⟩ := x
  simp only at hx1 hx2 hle
  obtain ⟨x0, x1, x2, x3, x4, x5, x6, x7, x8, rfl⟩ := list9 hx1
  obtain ⟨y0, y1, y2, y3, y4, y5, y6, y7, y8, rfl⟩ := list9 hx2
  have HL1 : Hid (∀ w : World, Calls Try.prog 108 #[.agg #[.int .u8 (x0 : Int), .int .u8 (x1 : Int), .int .u8 (x2 : Int), .int .u8 (x3 : Int), .int .u8 (x4 : Int), .int .u8 (x5 : Int), .int .u8 (x6 : Int), .int .u8 (x7 : Int), .int .u8 (x8 : Int)]] w fun e w' => e = .returned (.int .i64 (livesN [x0, x1, x2, x3, x4, x5, x6, x7, x8] : Nat)) ∧ Below w.heap.size w w') := fun w => lives_ [x0, x1, x2, x3, x4, x5, x6, x7, x8] hx1 (fun i j hi hj => (hle i j hi hj).1) w
  have HL2 : Hid (∀ w : World, Calls Try.prog 108 #[.agg #[.int .u8 (y0 : Int), .int .u8 (y1 : Int), .int .u8 (y2 : Int), .int .u8 (y3 : Int), .int .u8 (y4 : Int), .int .u8 (y5 : Int), .int .u8 (y6 : Int), .int .u8 (y7 : Int), .int .u8 (y8 : Int)]] w fun e w' => e = .returned (.int .i64 (livesN [y0, y1, y2, y3, y4, y5, y6, y7, y8] : Nat)) ∧ Below w.heap.size w w') := fun w => lives_ [y0, y1, y2, y3, y4, y5, y6, y7, y8] hx2 (fun i j hi hj => (hle i j hi hj).2) w
  have hbv : bpV ([x0, x1, x2, x3, x4, x5, x6, x7, x8], [y0, y1, y2, y3, y4, y5, y6, y7, y8]) = .agg #[.int .u8 (x0 : Int), .int .u8 (x1 : Int), .int .u8 (x2 : Int), .int .u8 (x3 : Int), .int .u8 (x4 : Int), .int .u8 (x5 : Int), .int .u8 (x6 : Int), .int .u8 (x7 : Int), .int .u8 (x8 : Int), .int .u8 (y0 : Int), .int .u8 (y1 : Int), .int .u8 (y2 : Int), .int .u8 (y3 : Int), .int .u8 (y4 : Int), .int .u8 (y5 : Int), .int .u8 (y6 : Int), .int .u8 (y7 : Int), .int .u8 (y8 : Int)] := rfl
  have HKY : Hid (ky ([x0, x1, x2, x3, x4, x5, x6, x7, x8], [y0, y1, y2, y3, y4, y5, y6, y7, y8]) = (((livesN [x0, x1, x2, x3, x4, x5, x6, x7, x8] : Nat) : Int), ((livesN [y0, y1, y2, y3, y4, y5, y6, y7, y8] : Nat) : Int))) := rfl
  have HKW := Lib.hid (ky_w ([x0, x1, x2, x3, x4, x5, x6, x7, x8], [y0, y1, y2, y3, y4, y5, y6, y7, y8]))
  have hen : (enC (([x0, x1, x2, x3, x4, x5, x6, x7, x8], [y0, y1, y2, y3, y4, y5, y6, y7, y8]), wd, s)).toArray = #[.int .u8 (x0 : Int), .int .u8 (x1 : Int), .int .u8 (x2 : Int), .int .u8 (x3 : Int), .int .u8 (x4 : Int), .int .u8 (x5 : Int), .int .u8 (x6 : Int), .int .u8 (x7 : Int), .int .u8 (x8 : Int), .int .u8 (y0 : Int), .int .u8 (y1 : Int), .int .u8 (y2 : Int), .int .u8 (y3 : Int), .int .u8 (y4 : Int), .int .u8 (y5 : Int), .int .u8 (y6 : Int), .int .u8 (y7 : Int), .int .u8 (y8 : Int), .slice s.1 s.2.1 s.2.2] := rfl
  obtain ⟨As, ns, cs⟩ := s
  simp only at hen
  show Calls _ _ #[_, .slice As ns cs, _, _, _] _ _
  generalize hxx : ([x0, x1, x2, x3, x4, x5, x6, x7, x8], [y0, y1, y2, y3, y4, y5, y6, y7, y8]) = xx at *
  rw [hbv]
  have HBV := Lib.hid hbv
  have HEN := Lib.hid hen
  have HBW := Lib.hid hbw
  have HDW := Lib.hid hDw
  have HDN := Lib.hid hDn
  have HOW := Lib.hid hOw
  have HON := Lib.hid hOn
  have hb0 : Below w.heap.size w (w.alloc (Obj.cells #[.int .u8 (x0 : Int), .int .u8 (x1 : Int), .int .u8 (x2 : Int), .int .u8 (x3 : Int), .int .u8 (x4 : Int), .int .u8 (x5 : Int), .int .u8 (x6 : Int), .int .u8 (x7 : Int), .int .u8 (x8 : Int), .int .u8 (y0 : Int), .int .u8 (y1 : Int), .int .u8 (y2 : Int), .int .u8 (y3 : Int), .int .u8 (y4 : Int), .int .u8 (y5 : Int), .int .u8 (y6 : Int), .int .u8 (y7 : Int), .int .u8 (y8 : Int)] 131)) := (Below.refl _ _).alloc (Nat.le_refl _) _
  have HB0 := Lib.hid hb0
  have HM0 := Lib.hid (hm.on hb0)
  have HZ0 := Lib.hid (allocNew w (Obj.cells #[.int .u8 (x0 : Int), .int .u8 (x1 : Int), .int .u8 (x2 : Int), .int .u8 (x3 : Int), .int .u8 (x4 : Int), .int .u8 (x5 : Int), .int .u8 (x6 : Int), .int .u8 (x7 : Int), .int .u8 (x8 : Int), .int .u8 (y0 : Int), .int .u8 (y1 : Int), .int .u8 (y2 : Int), .int .u8 (y3 : Int), .int .u8 (y4 : Int), .int .u8 (y5 : Int), .int .u8 (y6 : Int), .int .u8 (y7 : Int), .int .u8 (y8 : Int)] 131))
  have HLT : Hid (Vm < w.heap.size ∧ Vl < w.heap.size ∧ Mm < w.heap.size ∧ Mo < w.heap.size ∧ ∀ k, v.ownBlock = some k → k < w.heap.size) :=
    ⟨(Array.getElem?_eq_some_iff.1 hm.cm).1, (Array.getElem?_eq_some_iff.1 hm.cl).1, hm.met.lt, hm.out.lt, fun k hk => (hm.q.lt k hk).2⟩
  clear hx1 hx2 hle hbv hen hxx hbw hDw hDn hOw hOn hb0 hm
  go_enter Try.func107, Try.ntmps107
  go_upto_region 1 with fail
  obtain ⟨X, hX⟩ : ∃ X, X = w.heap.size := ⟨_, rfl⟩
  rw [← hX] at HZ0 ⊢
  have HX := Lib.hid hX
  clear hX
  generalize w.alloc (Obj.cells #[.int .u8 (x0 : Int), .int .u8 (x1 : Int), .int .u8 (x2 : Int), .int .u8 (x3 : Int), .int .u8 (x4 : Int), .int .u8 (x5 : Int), .int .u8 (x6 : Int), .int .u8 (x7 : Int), .int .u8 (x8 : Int), .int .u8 (y0 : Int), .int .u8 (y1 : Int), .int .u8 (y2 : Int), .int .u8 (y3 : Int), .int .u8 (y4 : Int), .int .u8 (y5 : Int), .int .u8 (y6 : Int), .int .u8 (y7 : Int), .int .u8 (y8 : Int)] 131) = W1 at *
  have m0 : W1.cell? ⟨Vm, 0, none⟩ = some (.map (some Mm)) := by simp [World.cell?, HM0.out.cm]
  by_cases hD : xx ∈ D
  · have hlk : (Instr.lookup 149 (.map (some Mm)) (.agg #[.int .u8 (x0 : Int), .int .u8 (x1 : Int), .int .u8 (x2 : Int), .int .u8 (x3 : Int), .int .u8 (x4 : Int), .int .u8 (x5 : Int), .int .u8 (x6 : Int), .int .u8 (x7 : Int), .int .u8 (x8 : Int), .int .u8 (y0 : Int), .int .u8 (y1 : Int), .int .u8 (y2 : Int), .int .u8 (y3 : Int), .int .u8 (y4 : Int), .int .u8 (y5 : Int), .int .u8 (y6 : Int), .int .u8 (y7 : Int), .int .u8 (y8 : Int)]) false).run Try.prog W1 = .ok (.bool true) W1 := by
      have := bpK.get HM0.out.met (fun p hp => by obtain ⟨y, hy, rfl⟩ := List.mem_map.1 hp; exact HDW.out y hy) (by rw [List.map_map]; exact (List.map_id D).symm ▸ HDN.out) HBW.out (List.mem_map.2 ⟨xx, hD, rfl⟩)
      rw [HBV.out] at this
      exact this
    have HD := Lib.hid hD
    clear hD
    go_wp2_with (refine wpList_load_row rfl 131 _ rfl X rfl 131 #[.int .u8 (x0 : Int), .int .u8 (x1 : Int), .int .u8 (x2 : Int), .int .u8 (x3 : Int), .int .u8 (x4 : Int), .int .u8 (x5 : Int), .int .u8 (x6 : Int), .int .u8 (x7 : Int), .int .u8 (x8 : Int), .int .u8 (y0 : Int), .int .u8 (y1 : Int), .int .u8 (y2 : Int), .int .u8 (y3 : Int), .int .u8 (y4 : Int), .int .u8 (y5 : Int), .int .u8 (y6 : Int), .int .u8 (y7 : Int), .int .u8 (y8 : Int)] (0, 0) _ HZ0.out Try.underlying131 rfl infoBoxes ?_)
    go_end0
    exact ⟨rfl, KpL.ofBelow HB0.out, .inl ⟨HD.out, HM0.out⟩⟩
  · have hlk : (Instr.lookup 149 (.map (some Mm)) (.agg #[.int .u8 (x0 : Int), .int .u8 (x1 : Int), .int .u8 (x2 : Int), .int .u8 (x3 : Int), .int .u8 (x4 : Int), .int .u8 (x5 : Int), .int .u8 (x6 : Int), .int .u8 (x7 : Int), .int .u8 (x8 : Int), .int .u8 (y0 : Int), .int .u8 (y1 : Int), .int .u8 (y2 : Int), .int .u8 (y3 : Int), .int .u8 (y4 : Int), .int .u8 (y5 : Int), .int .u8 (y6 : Int), .int .u8 (y7 : Int), .int .u8 (y8 : Int)]) false).run Try.prog W1 = .ok (.bool false) W1 := by
      have := bpK.none_ HM0.out.met (fun p hp => by obtain ⟨y, hy, rfl⟩ := List.mem_map.1 hp; exact HDW.out y hy) HBW.out (fun h => hD (by rw [List.map_map] at h; exact (List.map_id D) ▸ h))
      rw [HBV.out] at this
      exact this
    obtain ⟨W2, hrun2, hm2, hk2⟩ := HM0.out.putMet hDl HBW.out
    rw [HBV.out] at hrun2
    have HM2 := Lib.hid hm2
    have HK2 := Lib.hid hk2
    have HD := Lib.hid hD
    have HZ2 : Hid (W2.heap[X]? = some (.cells #[.int .u8 (x0 : Int), .int .u8 (x1 : Int), .int .u8 (x2 : Int), .int .u8 (x3 : Int), .int .u8 (x4 : Int), .int .u8 (x5 : Int), .int .u8 (x6 : Int), .int .u8 (x7 : Int), .int .u8 (x8 : Int), .int .u8 (y0 : Int), .int .u8 (y1 : Int), .int .u8 (y2 : Int), .int .u8 (y3 : Int), .int .u8 (y4 : Int), .int .u8 (y5 : Int), .int .u8 (y6 : Int), .int .u8 (y7 : Int), .int .u8 (y8 : Int)] 131 (0, 0))) := (hk2.block X (Array.getElem?_eq_some_iff.1 HZ0.out).1 (by have := HLT.out.2.1; have := HX.out; omega) (by have := HLT.out.2.2.1; have := HX.out; omega) (by have := HLT.out.2.2.2.1; have := HX.out; omega) (fun e => by have := HLT.out.2.2.2.2 X e.symm; have := HX.out; omega)).trans HZ0.out
    clear hD hm2 hk2
    go_upto_region 3 with (refine wpList_load_row rfl 131 _ rfl X rfl 131 #[.int .u8 (x0 : Int), .int .u8 (x1 : Int), .int .u8 (x2 : Int), .int .u8 (x3 : Int), .int .u8 (x4 : Int), .int .u8 (x5 : Int), .int .u8 (x6 : Int), .int .u8 (x7 : Int), .int .u8 (x8 : Int), .int .u8 (y0 : Int), .int .u8 (y1 : Int), .int .u8 (y2 : Int), .int .u8 (y3 : Int), .int .u8 (y4 : Int), .int .u8 (y5 : Int), .int .u8 (y6 : Int), .int .u8 (y7 : Int), .int .u8 (y8 : Int)] (0, 0) _ HZ0.out Try.underlying131 rfl infoBoxes ?_)
    clear hlk hrun2 m0
    have l0 : W2.cell? ⟨Vl, 0, none⟩ = some v := by simp [World.cell?, HM2.out.cl]
    obtain ⟨A3, cq3, W3, hrun3, hc3, hf3, hkk3, hm3, hk3, hown3⟩ := HM2.out.app hxl (xx, wd, As, ns, cs) (by have := HK2.out.size; have := HB0.out.size; omega)
    rw [HEN.out] at hrun3
    have HR3 := Lib.hid hrun3
    have HM3 := Lib.hid hm3
    have HK3 := Lib.hid hk3
    have HOWN := Lib.hid hown3
    clear hrun3 hm3 hk3 hown3 hkk3
    go_wp2_with (first | (refine wpList_load_row rfl 131 _ rfl X rfl 131 #[.int .u8 (x0 : Int), .int .u8 (x1 : Int), .int .u8 (x2 : Int), .int .u8 (x3 : Int), .int .u8 (x4 : Int), .int .u8 (x5 : Int), .int .u8 (x6 : Int), .int .u8 (x7 : Int), .int .u8 (x8 : Int), .int .u8 (y0 : Int), .int .u8 (y1 : Int), .int .u8 (y2 : Int), .int .u8 (y3 : Int), .int .u8 (y4 : Int), .int .u8 (y5 : Int), .int .u8 (y6 : Int), .int .u8 (y7 : Int), .int .u8 (y8 : Int)] (0, 0) _ HZ2.out Try.underlying131 rfl infoBoxes ?_) | (at_builtin; refine wpList_appRun rfl (.tmp 15) (.tmp 19) _ _ rfl _ _ _ rfl rfl HR3.out ?_))
    have HZ4 : Hid ((W3.setCell ⟨Vl, 0, none⟩ (.slice A3 (xs.length + 1) cq3)).heap[X]? = some (.cells #[.int .u8 (x0 : Int), .int .u8 (x1 : Int), .int .u8 (x2 : Int), .int .u8 (x3 : Int), .int .u8 (x4 : Int), .int .u8 (x5 : Int), .int .u8 (x6 : Int), .int .u8 (x7 : Int), .int .u8 (x8 : Int), .int .u8 (y0 : Int), .int .u8 (y1 : Int), .int .u8 (y2 : Int), .int .u8 (y3 : Int), .int .u8 (y4 : Int), .int .u8 (y5 : Int), .int .u8 (y6 : Int), .int .u8 (y7 : Int), .int .u8 (y8 : Int)] 131 (0, 0))) := (HK3.out.block X (Array.getElem?_eq_some_iff.1 HZ2.out).1 (by have := HLT.out.2.1; have := HX.out; omega) (by have := HLT.out.2.2.1; have := HX.out; omega) (by have := HLT.out.2.2.2.1; have := HX.out; omega) (fun e => by have := HLT.out.2.2.2.2 X e.symm; have := HX.out; omega)).trans HZ2.out
    clear l0 hc3 hf3 HR3 HM2
    generalize W3.setCell ⟨Vl, 0, none⟩ (.slice A3 (xs.length + 1) cq3) = W4 at *
    obtain ⟨l1, hl1⟩ : ∃ l, l = livesN [x0, x1, x2, x3, x4, x5, x6, x7, x8] := ⟨_, rfl⟩
    obtain ⟨l2, hl2⟩ : ∃ l, l = livesN [y0, y1, y2, y3, y4, y5, y6, y7, y8] := ⟨_, rfl⟩
    rw [← hl1] at HL1 HKY
    rw [← hl2] at HL2 HKY
    clear hl1 hl2
    go_cut [7] (fun s7 wx => ∃ Z, s7 = .pointer (some ⟨Z, 0, none⟩) ∧ wx.heap[Z]? = some (.cells #[.int .i64 (l1 : Int), .int .i64 (l2 : Int)] 137 (0, 0)) ∧ Below W4.heap.size W4 wx)
    case first =>
      have zz := HZ4.out
      have bb : Below W4.heap.size W4 W4 := Below.refl _ _
      have hxl4 : X < W4.heap.size := (Array.getElem?_eq_some_iff.1 zz).1
      refine wp_region_held_drew (S := fun w' => w'.heap[X]? = some (.cells #[.int .u8 (x0 : Int), .int .u8 (x1 : Int), .int .u8 (x2 : Int), .int .u8 (x3 : Int), .int .u8 (x4 : Int), .int .u8 (x5 : Int), .int .u8 (x6 : Int), .int .u8 (x7 : Int), .int .u8 (x8 : Int), .int .u8 (y0 : Int), .int .u8 (y1 : Int), .int .u8 (y2 : Int), .int .u8 (y3 : Int), .int .u8 (y4 : Int), .int .u8 (y5 : Int), .int .u8 (y6 : Int), .int .u8 (y7 : Int), .int .u8 (y8 : Int)] 131 (0, 0))) (by kernel_rfl) zz ?_
      intro hS
      replace zz := hS
      replace bb : Below W4.heap.size W4 W4.drew := bb.drew
      generalize W4.drew = Wd at *
      refine wpAnyH_take (i := 0) (v := .pointer (some ⟨X, 0, none⟩)) rfl (by kernel_rfl) (by kernel_rfl) (by kernel_rfl) (fun _ _ _ h => h) (Or.inl ⟨by rfl, fun w _ => by go_simp⟩) hS ?_
      simp only [Act.put, List.setIfInBounds_toArray, List.set_cons_zero, List.set_cons_succ]
      refine wpAnyH_take (i := 1) (v := .agg #[.int .u8 (x0 : Int), .int .u8 (x1 : Int), .int .u8 (x2 : Int), .int .u8 (x3 : Int), .int .u8 (x4 : Int), .int .u8 (x5 : Int), .int .u8 (x6 : Int), .int .u8 (x7 : Int), .int .u8 (x8 : Int)]) rfl (by kernel_rfl) (by kernel_rfl) (by kernel_rfl) (fun _ _ _ h => h) (yieldsIf_load_mid (by rfl) 128 (.tmp 21) rfl X 0 rfl [.int .u8 (x0 : Int), .int .u8 (x1 : Int), .int .u8 (x2 : Int), .int .u8 (x3 : Int), .int .u8 (x4 : Int), .int .u8 (x5 : Int), .int .u8 (x6 : Int), .int .u8 (x7 : Int), .int .u8 (x8 : Int)] _ (fun w hw => nt_r0 hw) Try.underlying128 rfl infoBox) hS ?_
      simp only [Act.put, List.setIfInBounds_toArray, List.set_cons_zero, List.set_cons_succ]
      refine wpAnyH_take (i := 3) (v := .pointer (some ⟨X, 9, none⟩)) rfl (by kernel_rfl) (by kernel_rfl) (by kernel_rfl) (fun _ _ _ h => h) (Or.inl ⟨by rfl, fun w _ => by go_simp⟩) hS ?_
      simp only [Act.put, List.setIfInBounds_toArray, List.set_cons_zero, List.set_cons_succ]
      refine wpAnyH_take (i := 4) (v := .agg #[.int .u8 (y0 : Int), .int .u8 (y1 : Int), .int .u8 (y2 : Int), .int .u8 (y3 : Int), .int .u8 (y4 : Int), .int .u8 (y5 : Int), .int .u8 (y6 : Int), .int .u8 (y7 : Int), .int .u8 (y8 : Int)]) rfl (by kernel_rfl) (by kernel_rfl) (by kernel_rfl) (fun _ _ _ h => h) (yieldsIf_load_mid (by rfl) 128 (.tmp 24) rfl X 9 rfl [.int .u8 (y0 : Int), .int .u8 (y1 : Int), .int .u8 (y2 : Int), .int .u8 (y3 : Int), .int .u8 (y4 : Int), .int .u8 (y5 : Int), .int .u8 (y6 : Int), .int .u8 (y7 : Int), .int .u8 (y8 : Int)] _ (fun w hw => nt_r9 hw) Try.underlying128 rfl infoBox) hS ?_
      simp only [Act.put, List.setIfInBounds_toArray, List.set_cons_zero, List.set_cons_succ]
      refine wpAnyH_ready (rs := [2, 7]) (by kernel_rfl) (by simp) ?_
      refine (AllReadyH.cons rfl (fun K' hK => ?_) (AllReadyH.cons rfl (fun K' hK => ?_) AllReadyH.nil))
      · go_simp
        go_at_call 108
        refine (HL1.out _).mono ?_
        rintro e v1 ⟨rfl, hb⟩
        have zn := nt_z zz hb
        have bn := nt_b bb hb
        clear zz bb hS
        have zz := zn
        have bb := bn
        clear zn bn hb
        refine hK.out _ _ zz (fun hS => ?_)
        clear hK K'
        try simp only [Act.put, List.setIfInBounds_toArray, List.set_cons_zero, List.set_cons_succ]
        refine wpAnyH_ready (rs := [5, 7]) (by kernel_rfl) (by simp) ?_
        refine (AllReadyH.cons rfl (fun K' hK => ?_) (AllReadyH.cons rfl (fun K' hK => ?_) AllReadyH.nil))
        · go_simp
          go_at_call 108
          refine (HL2.out _).mono ?_
          rintro e v2 ⟨rfl, hb⟩
          have zn := nt_z zz hb
          have bn := nt_b bb hb
          clear zz bb hS
          have zz := zn
          have bb := bn
          clear zn bn hb
          refine hK.out _ _ zz (fun hS => ?_)
          clear hK K'
          try simp only [Act.put, List.setIfInBounds_toArray, List.set_cons_zero, List.set_cons_succ]
          refine wpAnyH_take (i := 6) (v := .agg #[.int .i64 (l1 : Int), .int .i64 (l2 : Int)]) rfl (by kernel_rfl) (by kernel_rfl) (by kernel_rfl) (fun _ _ _ h => h) (Or.inl ⟨by rfl, fun w _ => by go_simp⟩) hS ?_
          simp only [Act.put, List.setIfInBounds_toArray, List.set_cons_zero, List.set_cons_succ]
          refine wpAnyH_ready (rs := [7]) (by kernel_rfl) (by simp) ?_
          refine (AllReadyH.cons rfl (fun K' hK => ?_) AllReadyH.nil)
          · go_simp
            have hz := allocNew v2 (Obj.cells #[.int .i64 0, .int .i64 0] 137)
            have zn := nt_a zz (Obj.cells #[.int .i64 0, .int .i64 0] 137)
            have bn := nt_d bb (Obj.cells #[.int .i64 0, .int .i64 0] 137)
            have hZ := bb.size
            have hne := Nat.ne_of_lt (Array.getElem?_eq_some_iff.1 zz).1
            clear zz bb hS
            have zz := zn
            have bb := bn
            clear zn bn
            refine hK.out _ _ zz (fun hS => ?_)
            clear hK K'
            obtain ⟨Z, hZe⟩ : ∃ Z, Z = v2.heap.size := ⟨_, rfl⟩
            rw [← hZe] at hz hZ hne ⊢
            clear hZe
            generalize v2.alloc (Obj.cells #[.int .i64 0, .int .i64 0] 137) = v3 at *
            try simp only [Act.put, List.setIfInBounds_toArray, List.set_cons_zero, List.set_cons_succ]
            refine wpAnyH_ready (rs := [8]) (by kernel_rfl) (by simp) ?_
            refine AllReadyH.cons rfl (fun K' hK => ?_) AllReadyH.nil
            obtain ⟨e0, e1, g0, g1⟩ := nt_c hz
            go_simp
            refine hK.out _ _ (nt_s zz hne _ _) (fun hS => ?_)
            refine wpAnyH_done (by kernel_rfl) ?_ _
            go_wp2_with fail
            go_meet
            exact ⟨Z, rfl, nt_w hz _ _, nt_u bb hZ _ _⟩
        · go_simp
          have hz := allocNew v1 (Obj.cells #[.int .i64 0, .int .i64 0] 137)
          have zn := nt_a zz (Obj.cells #[.int .i64 0, .int .i64 0] 137)
          have bn := nt_d bb (Obj.cells #[.int .i64 0, .int .i64 0] 137)
          have hZ := bb.size
          have hne := Nat.ne_of_lt (Array.getElem?_eq_some_iff.1 zz).1
          clear zz bb hS
          have zz := zn
          have bb := bn
          clear zn bn
          refine hK.out _ _ zz (fun hS => ?_)
          clear hK K'
          obtain ⟨Z, hZe⟩ : ∃ Z, Z = v1.heap.size := ⟨_, rfl⟩
          rw [← hZe] at hz hZ hne ⊢
          clear hZe
          generalize v1.alloc (Obj.cells #[.int .i64 0, .int .i64 0] 137) = v4 at *
          try simp only [Act.put, List.setIfInBounds_toArray, List.set_cons_zero, List.set_cons_succ]
          refine wpAnyH_ready (rs := [5]) (by kernel_rfl) (by simp) ?_
          refine (AllReadyH.cons rfl (fun K' hK => ?_) AllReadyH.nil)
          · go_simp
            go_at_call 108
            refine (HL2.out _).mono ?_
            rintro e v5 ⟨rfl, hb⟩
            have zn := nt_z zz hb
            have bn := nt_b bb hb
            have hzn := nt_z hz hb
            clear hz
            have hz := hzn
            clear hzn
            clear zz bb hS
            have zz := zn
            have bb := bn
            clear zn bn hb
            refine hK.out _ _ zz (fun hS => ?_)
            clear hK K'
            try simp only [Act.put, List.setIfInBounds_toArray, List.set_cons_zero, List.set_cons_succ]
            refine wpAnyH_take (i := 6) (v := .agg #[.int .i64 (l1 : Int), .int .i64 (l2 : Int)]) rfl (by kernel_rfl) (by kernel_rfl) (by kernel_rfl) (fun _ _ _ h => h) (Or.inl ⟨by rfl, fun w _ => by go_simp⟩) hS ?_
            simp only [Act.put, List.setIfInBounds_toArray, List.set_cons_zero, List.set_cons_succ]
            refine wpAnyH_ready (rs := [8]) (by kernel_rfl) (by simp) ?_
            refine AllReadyH.cons rfl (fun K' hK => ?_) AllReadyH.nil
            obtain ⟨e0, e1, g0, g1⟩ := nt_c hz
            go_simp
            refine hK.out _ _ (nt_s zz hne _ _) (fun hS => ?_)
            refine wpAnyH_done (by kernel_rfl) ?_ _
            go_wp2_with fail
            go_meet
            exact ⟨Z, rfl, nt_w hz _ _, nt_u bb hZ _ _⟩
      · go_simp
        have hz := allocNew Wd (Obj.cells #[.int .i64 0, .int .i64 0] 137)
        have zn := nt_a zz (Obj.cells #[.int .i64 0, .int .i64 0] 137)
        have bn := nt_d bb (Obj.cells #[.int .i64 0, .int .i64 0] 137)
        have hZ := bb.size
        have hne := Nat.ne_of_lt (Array.getElem?_eq_some_iff.1 zz).1
        clear zz bb hS
        have zz := zn
        have bb := bn
        clear zn bn
        refine hK.out _ _ zz (fun hS => ?_)
        clear hK K'
        obtain ⟨Z, hZe⟩ : ∃ Z, Z = Wd.heap.size := ⟨_, rfl⟩
        rw [← hZe] at hz hZ hne ⊢
        clear hZe
        generalize Wd.alloc (Obj.cells #[.int .i64 0, .int .i64 0] 137) = v6 at *
        try simp only [Act.put, List.setIfInBounds_toArray, List.set_cons_zero, List.set_cons_succ]
        refine wpAnyH_ready (rs := [2]) (by kernel_rfl) (by simp) ?_
        refine (AllReadyH.cons rfl (fun K' hK => ?_) AllReadyH.nil)
        · go_simp
          go_at_call 108
          refine (HL1.out _).mono ?_
          rintro e v7 ⟨rfl, hb⟩
          have zn := nt_z zz hb
          have bn := nt_b bb hb
          have hzn := nt_z hz hb
          clear hz
          have hz := hzn
          clear hzn
          clear zz bb hS
          have zz := zn
          have bb := bn
          clear zn bn hb
          refine hK.out _ _ zz (fun hS => ?_)
          clear hK K'
          try simp only [Act.put, List.setIfInBounds_toArray, List.set_cons_zero, List.set_cons_succ]
          refine wpAnyH_ready (rs := [5]) (by kernel_rfl) (by simp) ?_
          refine (AllReadyH.cons rfl (fun K' hK => ?_) AllReadyH.nil)
          · go_simp
            go_at_call 108
            refine (HL2.out _).mono ?_
            rintro e v8 ⟨rfl, hb⟩
            have zn := nt_z zz hb
            have bn := nt_b bb hb
            have hzn := nt_z hz hb
            clear hz
            have hz := hzn
            clear hzn
            clear zz bb hS
            have zz := zn
            have bb := bn
            clear zn bn hb
            refine hK.out _ _ zz (fun hS => ?_)
            clear hK K'
            try simp only [Act.put, List.setIfInBounds_toArray, List.set_cons_zero, List.set_cons_succ]
            refine wpAnyH_take (i := 6) (v := .agg #[.int .i64 (l1 : Int), .int .i64 (l2 : Int)]) rfl (by kernel_rfl) (by kernel_rfl) (by kernel_rfl) (fun _ _ _ h => h) (Or.inl ⟨by rfl, fun w _ => by go_simp⟩) hS ?_
            simp only [Act.put, List.setIfInBounds_toArray, List.set_cons_zero, List.set_cons_succ]
            refine wpAnyH_ready (rs := [8]) (by kernel_rfl) (by simp) ?_
            refine AllReadyH.cons rfl (fun K' hK => ?_) AllReadyH.nil
            obtain ⟨e0, e1, g0, g1⟩ := nt_c hz
            go_simp
            refine hK.out _ _ (nt_s zz hne _ _) (fun hS => ?_)
            refine wpAnyH_done (by kernel_rfl) ?_ _
            go_wp2_with fail
            go_meet
            exact ⟨Z, rfl, nt_w hz _ _, nt_u bb hZ _ _⟩
    case rest =>
      obtain ⟨Z, rfl, hz, hb⟩ := hcut
      have HM5 := Lib.hid (HM3.out.on hb)
      have o0 : wc.cell? ⟨Vo, 0, none⟩ = some (.map (some Mo)) := by simp [World.cell?, HM5.out.co]
      obtain ⟨z0, z1, _, _⟩ := nt_c hz
      have HS1 : Hid (w.heap.size ≤ W2.heap.size) := Nat.le_trans HB0.out.size HK2.out.size
      have HKK : Hid (KpL Vl Mm Mo v.ownBlock w wc) := (((KpL.ofBelow HB0.out).trans HK2.out (fun j h => .inl h)).trans HK3.out (fun j h => .inl h)).trans (KpL.ofBelow (r := v.ownBlock) hb) (fun j h => .inl h)
      have HOW2 : Hid (∀ k, (Value.slice A3 (xs.length + 1) cq3).ownBlock = some k → v.ownBlock = some k ∨ w.heap.size ≤ k) := fun k hk => by
        have h1 := HS1.out
        rcases HOWN.out k hk with h | h
        · exact .inl h
        · right; omega
      clear hz hb HM3 HK3 HB0 HM0 HZ0 HK2 HZ2 HZ4
      by_cases hin : ky xx ∈ O.map Prod.fst
      · obtain ⟨⟨k', s'⟩, hs', he⟩ := List.mem_map.1 hin
        simp only at he
        subst he
        have hlk : (Instr.lookup 132 (.map (some Mo)) (.agg #[.int .i64 (l1 : Int), .int .i64 (l2 : Int)]) true).run Try.prog wc = .ok (.tuple #[.slice s'.1 s'.2.1 s'.2.2, .bool true]) wc := by
          have := s2K.hit HM5.out.out HOW.out HON.out HKW.out hs'
          rw [HKY.out] at this
          exact this
        have HP : Hid (NtPost B Vm Vl Vo Mm Mo v D xs Ws O xx wd (As, ns, cs) w (.returned (.tuple #[])) wc) := ⟨rfl, HKK.out, .inr ⟨HD.out, A3, cq3, by rw [if_pos hin]; exact HM5.out, HOW2.out⟩⟩
        clear hin hs'
        go_wp2_with fail
        go_end0
        exact HP.out
      · have hlk : (Instr.lookup 132 (.map (some Mo)) (.agg #[.int .i64 (l1 : Int), .int .i64 (l2 : Int)]) true).run Try.prog wc = .ok (.tuple #[.slice none 0 0, .bool false]) wc := by
          have := s2K.miss HM5.out.out HOW.out HKW.out hin
          rw [HKY.out] at this
          exact this
        obtain ⟨w6, hrun6, hm6, hk6⟩ := HM5.out.putOut hOl HKW.out (As, ns, cs)
        rw [HKY.out] at hrun6
        have hrun7 : (Instr.mapUpdate 132 (.map (some Mo)) (.agg #[.int .i64 (l1 : Int), .int .i64 (l2 : Int)]) (.slice As ns cs)).run Try.prog wc = .ok () w6 := hrun6
        have HP : Hid (NtPost B Vm Vl Vo Mm Mo v D xs Ws O xx wd (As, ns, cs) w (.returned (.tuple #[])) w6) := ⟨rfl, HKK.out.trans hk6 HOW2.out, .inr ⟨HD.out, A3, cq3, by rw [if_neg hin]; exact hm6, HOW2.out⟩⟩
        clear hin hrun6 hm6 hk6
        go_wp2_with fail
        go_end0
        exact HP.out
end Go.Proofs.Ytoglgeaiiipchaa
