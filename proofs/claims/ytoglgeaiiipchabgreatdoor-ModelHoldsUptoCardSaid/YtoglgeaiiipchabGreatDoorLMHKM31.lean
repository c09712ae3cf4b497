import Derived.Test.YtoglgeaiiipchabGreatDoorLMHKM30
import Derived.Test.YtoglgeaiiipchabGreatDoorLMHKM26
import Derived.Test.YtoglgeaiiipchabGreatDoorLMHKM25
import Derived.Test.YtoglgeaiiipchabGreatDoorLMHKM15
import Derived.Test.YtoglgeaiiipchabGreatDoorLMHKM17
import Derived.Test.YtoglgeaiiipchabGreatDoorLMHKM12
import Derived.Test.YtoglgeaiiipchabGreatDoorLMHKM14
set_option linter.unusedSimpArgs false
set_option linter.unusedVariables false
namespace Go.Proofs.YtoglgeaiiipchabGreatDoor
open Go Go.RowKit Go.Shelf
attribute [local go_sem] Oper.semAt_some
theorem wr64 {x : Int} (h1 : -9000000000000000000 ≤ x) (h2 : x ≤ 9000000000000000000) : IntKind.i64.wrap x = x := IntWalk.i64_in _ (by omega)
def prW (w : World) (a b : Au) (A B C D E F : Option Addr) (ca cb cc cd ce cf N : Nat) : World :=
  (((((auW2 w a b A B C D E F ca cb cc cd ce cf).alloc (Obj.cells #[.int .i64 0, .int .i64 0, .slice none 0 0, .slice none 0 0, .slice none 0 0] 26)).alloc
    (Obj.cells #[.int .i64 a.st, .int .i64 a.le, .slice A a.fs.length ca, .slice B a.gs.length cb, .slice C a.ss.length cc, .int .i64 b.st, .int .i64 b.le, .slice D b.fs.length cd, .slice E b.gs.length ce, .slice F b.ss.length cf] 142)).alloc
    (Obj.cells #[.pointer (some ⟨w.heap.size + 3, 0, none⟩)] 140)).alloc (Obj.cells #[.int .i64 (3 * a.st * b.st), .int .i64 a.le, .slice none 0 0, .slice (some ⟨w.heap.size + 6, 0, none⟩) N N, .slice none 0 0] 26)).alloc (Obj.cells (madeCells #[Value.bool false] N) 4)
structure PrW (w : World) (a b : Au) (A B C D E F : Option Addr) (ca cb cc cd ce cf N V : Nat) (W : World) : Prop where
  below : Below w.heap.size w W
  size : W.heap.size = V + 7
  v : V = w.heap.size
  at1 : AuAt W V a A B C ca cb cc
  at2 : AuAt W (V + 1) b D E F cd ce cf
  res : W.heap[V + 2]? = some (.cells #[.int .i64 0, .int .i64 0, .slice none 0 0, .slice none 0 0, .slice none 0 0] 26 (0, 0))
  pr : Au2At W (V + 3) a b A B C D E F ca cb cc cd ce cf
  pp : W.heap[V + 4]? = some (.cells #[.pointer (some ⟨V + 3, 0, none⟩)] 140 (0, 0))
  out : W.heap[V + 5]? = some (.cells #[.int .i64 (3 * a.st * b.st), .int .i64 a.le, .slice none 0 0, .slice (some ⟨V + 6, 0, none⟩) N N, .slice none 0 0] 26 (0, 0))
  row : BRow W (V + 6) (List.replicate N false)
theorem prW_is (w : World) (a b : Au) (A B C D E F : Option Addr) (ca cb cc cd ce cf N : Nat) : PrW w a b A B C D E F ca cb cc cd ce cf N w.heap.size (prW w a b A B C D E F ca cb cc cd ce cf N) := by
  have h := auW2_is w a b A B C D E F ca cb cc cd ce cf
  unfold prW
  obtain ⟨W1, hW1⟩ : ∃ W, W = auW2 w a b A B C D E F ca cb cc cd ce cf := ⟨_, rfl⟩
  rw [← hW1] at h ⊢
  clear hW1
  obtain ⟨hb, hs, h1, h2⟩ := h
  have n1 := World.alloc_heap_new W1 (Obj.cells #[.int .i64 0, .int .i64 0, .slice none 0 0, .slice none 0 0, .slice none 0 0] 26)
  have b1 : Below W1.heap.size W1 (W1.alloc (Obj.cells #[.int .i64 0, .int .i64 0, .slice none 0 0, .slice none 0 0, .slice none 0 0] 26)) := (Below.refl _ _).alloc (Nat.le_refl _) _
  have s1 : (W1.alloc (Obj.cells #[.int .i64 0, .int .i64 0, .slice none 0 0, .slice none 0 0, .slice none 0 0] 26)).heap.size = W1.heap.size + 1 := by simp
  generalize W1.alloc (Obj.cells #[.int .i64 0, .int .i64 0, .slice none 0 0, .slice none 0 0, .slice none 0 0] 26) = W2 at *
  have n2 := World.alloc_heap_new W2 (Obj.cells #[.int .i64 a.st, .int .i64 a.le, .slice A a.fs.length ca, .slice B a.gs.length cb, .slice C a.ss.length cc, .int .i64 b.st, .int .i64 b.le, .slice D b.fs.length cd, .slice E b.gs.length ce, .slice F b.ss.length cf] 142)
  have b2 : Below W2.heap.size W2 (W2.alloc (Obj.cells #[.int .i64 a.st, .int .i64 a.le, .slice A a.fs.length ca, .slice B a.gs.length cb, .slice C a.ss.length cc, .int .i64 b.st, .int .i64 b.le, .slice D b.fs.length cd, .slice E b.gs.length ce, .slice F b.ss.length cf] 142)) := (Below.refl _ _).alloc (Nat.le_refl _) _
  have s2 : (W2.alloc (Obj.cells #[.int .i64 a.st, .int .i64 a.le, .slice A a.fs.length ca, .slice B a.gs.length cb, .slice C a.ss.length cc, .int .i64 b.st, .int .i64 b.le, .slice D b.fs.length cd, .slice E b.gs.length ce, .slice F b.ss.length cf] 142)).heap.size = W2.heap.size + 1 := by simp
  generalize W2.alloc (Obj.cells #[.int .i64 a.st, .int .i64 a.le, .slice A a.fs.length ca, .slice B a.gs.length cb, .slice C a.ss.length cc, .int .i64 b.st, .int .i64 b.le, .slice D b.fs.length cd, .slice E b.gs.length ce, .slice F b.ss.length cf] 142) = W3 at *
  have n3 := World.alloc_heap_new W3 (Obj.cells #[.pointer (some ⟨w.heap.size + 3, 0, none⟩)] 140)
  have b3 : Below W3.heap.size W3 (W3.alloc (Obj.cells #[.pointer (some ⟨w.heap.size + 3, 0, none⟩)] 140)) := (Below.refl _ _).alloc (Nat.le_refl _) _
  have s3 : (W3.alloc (Obj.cells #[.pointer (some ⟨w.heap.size + 3, 0, none⟩)] 140)).heap.size = W3.heap.size + 1 := by simp
  generalize W3.alloc (Obj.cells #[.pointer (some ⟨w.heap.size + 3, 0, none⟩)] 140) = W4 at *
  have n4 := World.alloc_heap_new W4 (Obj.cells #[.int .i64 (3 * a.st * b.st), .int .i64 a.le, .slice none 0 0, .slice (some ⟨w.heap.size + 6, 0, none⟩) N N, .slice none 0 0] 26)
  have b4 : Below W4.heap.size W4 (W4.alloc (Obj.cells #[.int .i64 (3 * a.st * b.st), .int .i64 a.le, .slice none 0 0, .slice (some ⟨w.heap.size + 6, 0, none⟩) N N, .slice none 0 0] 26)) := (Below.refl _ _).alloc (Nat.le_refl _) _
  have s4 : (W4.alloc (Obj.cells #[.int .i64 (3 * a.st * b.st), .int .i64 a.le, .slice none 0 0, .slice (some ⟨w.heap.size + 6, 0, none⟩) N N, .slice none 0 0] 26)).heap.size = W4.heap.size + 1 := by simp
  generalize W4.alloc (Obj.cells #[.int .i64 (3 * a.st * b.st), .int .i64 a.le, .slice none 0 0, .slice (some ⟨w.heap.size + 6, 0, none⟩) N N, .slice none 0 0] 26) = W5 at *
  have n5 := BRow.new W5 N
  have b5 : Below W5.heap.size W5 (W5.alloc (Obj.cells (madeCells #[Value.bool false] N) 4)) := (Below.refl _ _).alloc (Nat.le_refl _) _
  have s5 : (W5.alloc (Obj.cells (madeCells #[Value.bool false] N) 4)).heap.size = W5.heap.size + 1 := by simp
  generalize W5.alloc (Obj.cells (madeCells #[Value.bool false] N) 4) = W6 at *
  have b12 : Below W1.heap.size W1 W6 := ((((b1.trans (b2.mono (by omega))).trans (b3.mono (by omega))).trans (b4.mono (by omega))).trans (b5.mono (by omega)))
  refine ⟨Below_on hb b12 (by omega), by omega, rfl, h1.below b12 (by omega), h2.below b12 (by omega), ?_, ?_, ?_, ?_, ?_⟩
  · rw [show w.heap.size + 2 = W1.heap.size by omega]
    rw [b5.block _ (by omega), b4.block _ (by omega), b3.block _ (by omega), b2.block _ (by omega)]
    exact n1
  · have e : W6.heap[w.heap.size + 3]? = some (Obj.cells #[.int .i64 a.st, .int .i64 a.le, .slice A a.fs.length ca, .slice B a.gs.length cb, .slice C a.ss.length cc, .int .i64 b.st, .int .i64 b.le, .slice D b.fs.length cd, .slice E b.gs.length ce, .slice F b.ss.length cf] 142) := by
      rw [show w.heap.size + 3 = W2.heap.size by omega, b5.block _ (by omega), b4.block _ (by omega), b3.block _ (by omega)]
      exact n2
    refine ⟨by omega, ?_, ?_, ?_, ?_, ?_, ?_, ?_, ?_, ?_, ?_⟩ <;> simp [World.cell?, e]
  · rw [show w.heap.size + 4 = W3.heap.size by omega, b5.block _ (by omega), b4.block _ (by omega)]
    exact n3
  · rw [show w.heap.size + 5 = W4.heap.size by omega, b5.block _ (by omega)]
    exact n4
  · rw [show W5.heap.size = w.heap.size + 6 by omega] at n5
    exact n5
def mkG (M k : Nat) : List Bool := (List.range (3 * M)).map fun i => decide (i % 3 = 2 ∧ i / 3 < k)
theorem mkG_len (M k : Nat) : (mkG M k).length = 3 * M := by simp [mkG]
theorem mkG_zero (M : Nat) : mkG M 0 = List.replicate (3 * M) false := by
  apply List.ext_getElem
  · simp [mkG]
  · intro i h1 h2
    simp [mkG]
theorem mkG_all (M : Nat) : mkG M M = pairGs M := by
  unfold mkG pairGs
  refine List.map_congr_left fun i hi => ?_
  have := List.mem_range.1 hi
  apply decide_eq_decide.2
  omega
theorem mkG_succ (M k : Nat) : mkG M (k + 1) = (mkG M k).set (3 * k + 2) true := by
  apply List.ext_getElem
  · simp [mkG]
  · intro i h1 h2
    rw [List.getElem_set]
    simp only [mkG, List.getElem_map, List.getElem_range]
    by_cases h : 3 * k + 2 = i
    · rw [if_pos h]; simp; omega
    · rw [if_neg h]
      apply decide_eq_decide.2
      omega
theorem BRow.ownR {W : World} {B g n : Nat} {xs : List Bool} (h : BRow W g xs) (hB : B ≤ g) (hn : n = xs.length) (hl : n ≤ 1000000) : W.ownsRow B 4 1 (.slice (some ⟨g, 0, none⟩) n n) xs.length (xs.flatMap vbL) := by
  subst hn
  refine ⟨flatMap_len (sz := 1) (fun _ => rfl) xs, .inr ⟨g, xs.length, _, rfl, hB, h, Nat.le_refl _, by unfold maxLen; omega, by simp, ?_⟩⟩
  have : ∀ xs : List Bool, xs.flatMap vbL = xs.map Value.bool := by
    intro xs
    induction xs with
    | nil => rfl
    | cons x xs ih => rw [List.flatMap_cons, ih]; rfl
  rw [this xs, Nat.mul_one]
  exact List.take_of_length_le (by simp)
def fsTo (a b : Au) (k : Nat) : List Int := (a.fs.take k).flatMap fun x => b.fs.map fun y => pnum b x y 0
theorem fsTo_all (a b : Au) : fsTo a b a.fs.length = pairFs a b := by unfold fsTo pairFs; rw [List.take_length]
theorem fsTo_succ (a b : Au) {k : Nat} (h : k < a.fs.length) : fsTo a b (k + 1) = fsTo a b k ++ b.fs.map fun y => pnum b a.fs[k] y 0 := by
  unfold fsTo
  rw [List.take_succ_eq_append_getElem h, List.flatMap_append]
  simp
theorem fsTo_len (a b : Au) : ∀ k, k ≤ a.fs.length → (fsTo a b k).length = k * b.fs.length
  | 0, _ => by simp [fsTo]
  | k + 1, h => by rw [fsTo_succ a b (by omega), List.length_append, fsTo_len a b k (by omega), List.length_map, Nat.add_mul, Nat.one_mul]
theorem AuFit.fs_le {a : Au} (h : AuFit a) : (a.fs.length : Int) ≤ a.st := by
  have hnd : (a.fs.map Int.toNat).Nodup := by
    unfold List.Nodup
    rw [List.pairwise_map]
    exact h.fo.imp_of_mem (fun {x y} hx hy hlt he => by
      have := h.fr x hx
      have := h.fr y hy
      omega)
  have := nodup_few a.st.toNat (a.fs.map Int.toNat) hnd (fun x hx => by
    obtain ⟨y, hy, rfl⟩ := List.mem_map.1 hx
    have := h.fr y hy
    omega)
  rw [List.length_map] at this
  have := h.st1
  omega
def frT (V : Nat) (v12 v13 v14 v15 v16 v17 v78 v79 v88 v89 v96 : Value) (u : Nat → Value) : Array Value := #[u 0, u 1, .pointer (some ⟨V, 0, none⟩), .pointer (some ⟨V + 1, 0, none⟩), .pointer (some ⟨V + 2, 0, none⟩), .pointer (some ⟨V + 4, 0, none⟩), .pointer (some ⟨V + 5, 0, none⟩), u 7, u 8, u 9, u 10, u 11, v12, v13, v14, v15, v16, v17, u 18, u 19, u 20, u 21, u 22, u 23, u 24, u 25, u 26, u 27, u 28, u 29, u 30, u 31, u 32, u 33, u 34, u 35, u 36, u 37, u 38, u 39, u 40, u 41, u 42, u 43, u 44, u 45, u 46, u 47, u 48, u 49, u 50, u 51, u 52, u 53, u 54, u 55, u 56, u 57, u 58, u 59, u 60, u 61, u 62, u 63, u 64, u 65, u 66, u 67, u 68, u 69, u 70, u 71, u 72, u 73, u 74, u 75, u 76, u 77, v78, v79, u 80, u 81, u 82, u 83, u 84, u 85, u 86, u 87, v88, v89, u 90, u 91, u 92, u 93, u 94, u 95, v96, u 97, u 98, u 99, u 100, u 101, u 102, u 103, u 104, u 105, u 106, u 107, u 108, u 109, u 110, u 111, u 112, u 113, u 114, u 115, u 116, u 117, u 118, u 119, u 120, u 121, u 122, u 123, u 124, u 125, u 126, u 127, u 128, u 129, u 130, u 131, u 132, u 133, u 134, u 135, u 136, u 137, u 138]
def FrP (V : Nat) (v12 v13 v14 v15 v16 v17 v78 v79 v88 v89 v96 : Value) (ds : List Deferred) (a : Act) : Prop := ∃ u : Nat → Value, a = { tmps := frT V v12 v13 v14 v15 v16 v17 v78 v79 v88 v89 v96 u, defers := ds }
theorem FrP.mk {V : Nat} {v12 v13 v14 v15 v16 v17 v78 v79 v88 v89 v96 : Value} {ds : List Deferred} {a : Act} (h : a = { tmps := frT V v12 v13 v14 v15 v16 v17 v78 v79 v88 v89 v96 (fun i => a.tmps.getD i undef), defers := ds }) : FrP V v12 v13 v14 v15 v16 v17 v78 v79 v88 v89 v96 ds a := ⟨_, h⟩
def PrPost (w : World) (r : Au) (e : Ending) (w' : World) : Prop := ∃ A B C ca cb cc, e = .returned (.agg #[.int .i64 r.st, .int .i64 r.le, .slice A r.fs.length ca, .slice B r.gs.length cb, .slice C r.ss.length cc]) ∧ AuRd w' w.heap.size r A B C ca cb cc ∧ Below w.heap.size w w'
set_option maxRecDepth 100000 in
set_option maxHeartbeats 8000000 in
theorem Pair_ (a b : Au) (A B C D E F : Option Addr) (ca cb cc cd ce cf : Nat) (w : World) (ha : AuRd w 0 a A B C ca cb cc) (hb : AuRd w 0 b D E F cd ce cf) (hfa : AuFit a) (hfb : AuFit b) (hst : 3 * a.st * b.st ≤ 1000000) (hsa : a.ss.length ≤ 1000000) (hsb : b.ss.length ≤ 1000000) (hsn : stepsN a b ≤ 100000000) :
    Calls Tryz.prog 50 #[.agg #[.int .i64 a.st, .int .i64 a.le, .slice A a.fs.length ca, .slice B a.gs.length cb, .slice C a.ss.length cc], .agg #[.int .i64 b.st, .int .i64 b.le, .slice D b.fs.length cd, .slice E b.gs.length ce, .slice F b.ss.length cf]] w (PrPost w (pairOf a b (dd (sortS (rawP a b))))) := by
  have hst1 := hfa.st1
  have hst2 := hfb.st1
  obtain ⟨NA, hNA⟩ := Int.eq_ofNat_of_zero_le (show 0 ≤ a.st by omega)
  obtain ⟨NB, hNB⟩ := Int.eq_ofNat_of_zero_le (show 0 ≤ b.st by omega)
  obtain ⟨M, hM⟩ : ∃ M, M = NA * NB := ⟨_, rfl⟩
  have hab : a.st * b.st = (M : Int) := by rw [hNA, hNB, hM]; simp
  have h3ab : 3 * a.st * b.st = ((3 * M : Nat) : Int) := by rw [Int.mul_assoc, hab]; simp
  have hNN : 3 * M ≤ 1000000 := by omega
  have hNAl : NA ≤ 1000000 := by
    have : NA * 1 ≤ NA * NB := Nat.mul_le_mul_left _ (by omega)
    omega
  have hNBl : NB ≤ 1000000 := by
    have : 1 * NB ≤ NA * NB := Nat.mul_le_mul_right _ (by omega)
    omega
  have hmk := run_makeBools (3 * a.st * b.st) (3 * M) h3ab.symm hNN
  have q1 : IntKind.i64.wrap (3 * a.st) = 3 * a.st := wr64 (by omega) (by omega)
  have q2 : IntKind.i64.wrap (3 * a.st * b.st) = 3 * a.st * b.st := wr64 (by omega) (by omega)
  have q3 : IntKind.i64.wrap (a.st * b.st) = (M : Int) := by rw [wr64 (by omega) (by omega)]; exact hab
  have HPW := Lib.hid (prW_is w a b A B C D E F ca cb cc cd ce cf (3 * M))
  have HRA := Lib.hid ha
  have HRB := Lib.hid hb
  have HFA := Lib.hid hfa
  have HFB := Lib.hid hfb
  have HNA := Lib.hid hNA
  have HNB := Lib.hid hNB
  have HAB := Lib.hid hab
  have H3AB := Lib.hid h3ab
  have HMM := Lib.hid hM
  clear ha hb hfa hfb hNA hNB hab h3ab hM
  refine (callsIn_wide (n := 12)).1 ?_
  refine callsIn_of_wp_marks Tryz.func50 rfl trivial ?_
  simp only [Tryz.ntmps50, List.size_toArray, List.length_cons, List.length_nil, Nat.reduceAdd, Nat.reduceSub, Array.replicate_succ, Array.replicate_zero, List.push_toArray, List.append_toArray, List.nil_append, List.cons_append]
  gi_wp2
  show Code.wpIn _ _ _ _ _ _ (prW w a b A B C D E F ca cb cc cd ce cf (3 * M))
  obtain ⟨V, hV⟩ : ∃ V, V = w.heap.size := ⟨_, rfl⟩
  simp only [Nat.add_assoc, Nat.reduceAdd]
  rw [← hV] at HPW ⊢
  clear hV
  generalize prW w a b A B C D E F ca cb cc cd ce cf (3 * M) = W7 at *
  clear hmk q1 q2 q3
  have HOB : Hid (∀ wr, W7.grownBy wr (some (V + 6)) → wr.heap[V + 5]? = some (.cells #[.int .i64 (3 * a.st * b.st), .int .i64 a.le, .slice none 0 0, .slice (some ⟨V + 6, 0, none⟩) (3 * M) (3 * M), .slice none 0 0] 26 (0, 0))) := fun wr h =>
    (h.block (V + 5) (by have := HPW.out.size; omega) (by simp)).trans HPW.out.out
  gi_loopw [7, 40] (fun _ v40 wr => ∃ k : Nat, k ≤ M ∧ v40 = .int .i64 (k : Int) ∧ Hid (BRow wr (V + 6) (mkG M k)) ∧ Hid (W7.grownBy wr (some (V + 6)))) (fun _ v40 _ => M - (intOf v40).toNat)
  case atStart => exact ⟨0, Nat.zero_le _, rfl, by show BRow _ _ _; rw [mkG_zero]; exact HPW.out.row, World.grownBy.refl _ _⟩
  case round =>
    obtain ⟨k, hk, rfl, HR, HG⟩ := hrel
    by_cases hkM : k < M
    · have q1 : (k : Int) < (M : Int) := by omega
      obtain ⟨z1, z2⟩ := HR.out.getD_ (i := 3 * k + 2) (by rw [mkG_len]; omega) false
      obtain ⟨_, _, _, c3, _, _, _, _, f3, _⟩ := obj5 (HOB.out _ HG.out)
      have HR2 : Hid (BRow (wr.setCell ⟨V + 6, 3 * k + 2, none⟩ (.bool true)) (V + 6) (mkG M (k + 1))) := by
        show BRow _ _ _
        rw [mkG_succ]
        exact HR.out.set_ (3 * k + 2) true
      have HG2 := Lib.hid (grown_grownR HG.out (grown_setR wr (V + 6) (3 * k + 2) (.bool true)))
      have HX := Lib.hid hkM
      have q4 : 3 * (k : Int) + 2 < 3 * (M : Int) := by omega
      gi_wp2
      go_roundw
      case rel => exact ⟨k + 1, HX.out, by go_num, HR2.out, HG2.out⟩
      case measure => simp [intOf]; have := HX.out; omega
    · have q1 : ¬ (k : Int) < (M : Int) := by omega
      obtain rfl : k = M := by omega
      rw [mkG_all] at HR
      have HN0 : Hid (AuN (V + 5) (V + 5) (3 * a.st * b.st) a.le [] (pairGs k) [] (.slice none 0 0) (.slice (some ⟨V + 6, 0, none⟩) (3 * k) (3 * k)) (.slice none 0 0) wr) :=
        ⟨Nat.le_refl _, HOB.out _ HG.out, World.ownsRow_nil _ _ _ _, HR.out.ownR (by omega) (by simp [pairGs]) hNN, World.ownsRow_nil _ _ _ _⟩
      have HB0 : Hid (Below (V + 5) W7 wr) := (Below.refl _ _).grown HG.out (by have := HPW.out.size; omega) (fun k hk => by simp at hk; omega)
      clear HOB q1 hk HR HG
      obtain ⟨w1, hw1⟩ : ∃ w1 : World, w1 = wr := ⟨_, rfl⟩
      rw [← hw1] at HN0 HB0 ⊢
      clear hw1 wr
      have HV : Hid (∀ wr, Below (V + 5) W7 wr → AuAt wr V a A B C ca cb cc ∧ AuAt wr (V + 1) b D E F cd ce cf ∧ Au2At wr (V + 3) a b A B C D E F ca cb cc cd ce cf ∧ wr.cell? ⟨V + 4, 0, none⟩ = some (.pointer (some ⟨V + 3, 0, none⟩)) ∧ AuRd wr 0 a A B C ca cb cc ∧ AuRd wr 0 b D E F cd ce cf) := fun wr h => by
        have hs := HPW.out.size
        have hv := HPW.out.v
        have h5 : wr.heap[V + 4]? = some (.cells #[.pointer (some ⟨V + 3, 0, none⟩)] 140 (0, 0)) := (h.block (V + 4) (by omega)).trans HPW.out.pp
        have hbw : Below w.heap.size w wr := HPW.out.below.trans (h.mono (by omega))
        exact ⟨HPW.out.at1.below h (by omega), HPW.out.at2.below h (by omega), HPW.out.pr.below h (by omega), by simp [World.cell?, h5], HRA.out.below hbw, HRB.out.below hbw⟩
      have hfl : a.fs.length ≤ 1000000 := by have := HFA.out.fs_le; have := HNA.out; omega
      have hfl2 : b.fs.length ≤ 1000000 := by have := HFB.out.fs_le; have := HNB.out; omega
      have HFL : Hid (∀ i, i ≤ a.fs.length → (fsTo a b i).length ≤ 1000000) := fun i hi => by
        rw [fsTo_len a b i hi]
        have h1 := HFA.out.fs_le
        have h2 := HFB.out.fs_le
        rw [HNA.out] at h1
        rw [HNB.out] at h2
        have := HMM.out
        have : i * b.fs.length ≤ NA * NB := Nat.mul_le_mul (by omega) (by omega)
        omega
      obtain ⟨⟨_, c0, c1, c2, c3, c4⟩, -, -, -, hra, hrb⟩ := HV.out _ HB0.out
      have fle := hra.fs.le
      have fle2 := hrb.fs.le
      clear hra hrb
      gi_wp2
      gi_loopw [9, 53] (fun _ v53 wr => ∃ (i : Nat) (fv : Value), i ≤ a.fs.length ∧ v53 = .int .i64 (i : Int) ∧ Hid (AuN (V + 5) (V + 5) (3 * a.st * b.st) a.le (fsTo a b i) (pairGs k) [] fv (.slice (some ⟨V + 6, 0, none⟩) (3 * k) (3 * k)) (.slice none 0 0) wr) ∧ Hid (Below (V + 5) W7 wr)) (fun _ v53 _ => a.fs.length - (intOf v53).toNat)
      case atStart => exact ⟨0, _, Nat.zero_le _, rfl, HN0.out, HB0.out⟩
      case round =>
        obtain ⟨i, fv, hi, rfl, HN, HB⟩ := hrel
        obtain ⟨⟨_, c0, c1, c2, c3, c4⟩, ⟨_, d0, d1, d2, d3, d4⟩, -, -, hra, hrb⟩ := HV.out _ HB.out
        by_cases hif : i < a.fs.length
        · have q1 : (i : Int) < (a.fs.length : Int) := by omega
          obtain ⟨ab, ao, rfl, _, _, y0⟩ := Ints.at_ hra.fs hif
          have HX := Lib.hid hif
          have HXR := Lib.hid (HFA.out.fr _ (List.getElem_mem hif))
          have HFS := Lib.hid (fsTo_succ a b hif)
          revert y0 HXR HFS
          generalize a.fs[i] = x
          intro y0 HXR HFS
          clear hra hrb
          gi_wp2
          gi_loopw [11, 60] (fun _ v60 wr => ∃ (j : Nat) (fv : Value), j ≤ b.fs.length ∧ v60 = .int .i64 (j : Int) ∧ Hid (AuN (V + 5) (V + 5) (3 * a.st * b.st) a.le (fsTo a b i ++ (b.fs.take j).map fun y => pnum b x y 0) (pairGs k) [] fv (.slice (some ⟨V + 6, 0, none⟩) (3 * k) (3 * k)) (.slice none 0 0) wr) ∧ Hid (Below (V + 5) W7 wr)) (fun _ v60 _ => b.fs.length - (intOf v60).toNat)
          case atStart => exact ⟨0, fv, Nat.zero_le _, rfl, by show AuN _ _ _ _ _ _ _ _ _ _ _; rw [List.take_zero, List.map_nil, List.append_nil]; exact HN.out, HB.out⟩
          case round =>
            clear c0 c1 c2 c3 c4 d0 d1 d2 d3 d4 y0 HN HB
            obtain ⟨j, fv, hj, rfl, HN, HB⟩ := hrel
            obtain ⟨⟨_, c0, c1, c2, c3, c4⟩, ⟨_, d0, d1, d2, d3, d4⟩, hpr, hpp, hra, hrb⟩ := HV.out _ HB.out
            by_cases hjf : j < b.fs.length
            · have q2 : (j : Int) < (b.fs.length : Int) := by omega
              obtain ⟨bb, bo, rfl, _, _, y1⟩ := Ints.at_ hrb.fs hjf
              have hdw : Below wr.heap.size wr wr.drew := (Below.refl _ _).drew
              have HND := Lib.hid (HN.out.on hdw)
              obtain ⟨-, -, hpr, hpp, -, -⟩ := HV.out wr.drew (Below_on HB.out hdw (by have := HN.out.lt; omega))
              have HX2 := Lib.hid hjf
              have HYR := Lib.hid (HFB.out.fr _ (List.getElem_mem hjf))
              have HLS : Hid (fsTo a b i ++ (b.fs.take (j + 1)).map (fun y => pnum b x y 0) = (fsTo a b i ++ (b.fs.take j).map fun y => pnum b x y 0) ++ [pnum b x b.fs[j] 0]) := by show _ = _; rw [List.take_succ_eq_append_getElem hjf, List.map_append, List.append_assoc]; rfl
              have HLL : Hid ((fsTo a b i ++ (b.fs.take j).map fun y => pnum b x y 0).length ≤ 2000000) := by
                have h1 := HFL.out i hi
                show _ ≤ _
                rw [List.length_append, List.length_map, List.length_take]
                omega
              revert y1 HYR HLS
              generalize b.fs[j] = y
              intro y1 HYR HLS
              clear hra hrb c0 c1 c2 c3 c4 d0 d1 d2 d3 d4
              gi_wp2
              clear y1
              generalize fsTo a b i ++ (b.fs.take j).map (fun y => pnum b x y 0) = fl at *
              obtain ⟨T, c, rfl, hlc, hcm, T3, c3, w3, hrun, q4, f4, hgr, hNN3, hBB3⟩ := HND.out.appF (pnum b x y 0) (Nat.le_trans HLL.out (by decide))
              obtain ⟨_, _, g2, _, _, _⟩ := obj5 HND.out.obj
              have hal : Below wr.drew.heap.size wr.drew (wr.drew.alloc (Obj.cells #[.int .i64 (pnum b x y 0)] 3)) := (Below.refl _ _).alloc (Nat.le_refl _) _
              have hG5 : V + 5 < wr.drew.heap.size := HND.out.lt
              have hb3 : Below (V + 5) wr.drew w3 := (hal.mono (Nat.le_of_lt hG5)).grown hgr (by have := hal.size; omega) (fun k hk => (HND.out.f.lt k hk).1)
              have HN3 := Lib.hid hNN3
              have HB3 : Hid (Below (V + 5) W7 (w3.setCell ⟨V + 5, 2, none⟩ (.slice T3 (fl.length + 1) c3))) := (Below_on HB.out hdw (by have := HN.out.lt; omega)).trans hBB3
              have g25 : (wr.drew.alloc (Obj.cells #[.int .i64 (pnum b x y 0)] 3)).cell? ⟨V + 5, 2, none⟩ = some (.slice T fl.length c) := (hal.cell (p := ⟨V + 5, 2, none⟩) hG5).trans g2
              have hpp5 : (wr.drew.alloc (Obj.cells #[.int .i64 (pnum b x y 0)] 3)).cell? ⟨V + 4, 0, none⟩ = some (.pointer (some ⟨V + 3, 0, none⟩)) := (hal.cell (p := ⟨V + 4, 0, none⟩) (show V + 4 < _ by omega)).trans hpp
              have hpr5 := hpr.below hal (by omega)
              have hpp3 : w3.cell? ⟨V + 4, 0, none⟩ = some (.pointer (some ⟨V + 3, 0, none⟩)) := (hb3.cell (p := ⟨V + 4, 0, none⟩) (show V + 4 < _ by omega)).trans hpp
              have hpr3 := hpr.below hb3 (by omega)
              have HRUN := Lib.hid hrun
              clear hNN3 hBB3 hrun hgr hb3 hal
              refine wpIn_region_Z (fun w' => w'.cell? ⟨V + 5, 2, none⟩ = some (.slice T fl.length c) ∧ w'.cell? ⟨V + 4, 0, none⟩ = some (.pointer (some ⟨V + 3, 0, none⟩)) ∧ Au2At w' (V + 3) a b (some ⟨ab, ao, none⟩) B C (some ⟨bb, bo, none⟩) E F ca cb cc cd ce cf) 9 (by kernel_rfl) ?_
              refine wpAnyZIn_take (i := 0) (v := ?v0) rfl (by kernel_rfl) (by kernel_rfl) (by kernel_rfl) (by kernel_rfl) (by kernel_rfl) (by kernel_rfl) (fun _ _ _ h => h) (yieldsZ_of (fun _ h => (by cases h)) (by rfl) ?hy0) ⟨g2, hpp, hpr⟩ ?rest0
              case hy0 => (intro w' hw'; obtain ⟨h0, h1, h2⟩ := hw'; go_simp; (try with_reducible rfl))
              (try simp only [Act.put, List.setIfInBounds_toArray, List.set_cons_zero, List.set_cons_succ])
              refine wpAnyZIn_take (i := 1) (v := ?v1) rfl (by kernel_rfl) (by kernel_rfl) (by kernel_rfl) (by kernel_rfl) (by kernel_rfl) (by kernel_rfl) (fun _ _ _ h => h) (yieldsZ_of (fun _ h => (by cases h)) (by rfl) ?hy1) ⟨g2, hpp, hpr⟩ ?rest1
              case hy1 => (intro w' hw'; obtain ⟨h0, h1, h2⟩ := hw'; go_simp; (try with_reducible rfl))
              (try simp only [Act.put, List.setIfInBounds_toArray, List.set_cons_zero, List.set_cons_succ])
              refine wpAnyZIn_take (i := 2) (v := ?v2) rfl (by kernel_rfl) (by kernel_rfl) (by kernel_rfl) (by kernel_rfl) (by kernel_rfl) (by kernel_rfl) (fun _ _ _ h => h) (yieldsZ_of (fun _ h => (by cases h)) (by rfl) ?hy2) ⟨g2, hpp, hpr⟩ ?rest2
              case hy2 => (intro w' hw'; obtain ⟨h0, h1, h2⟩ := hw'; go_simp; (try with_reducible rfl))
              (try simp only [Act.put, List.setIfInBounds_toArray, List.set_cons_zero, List.set_cons_succ])
              refine wpAnyZIn_take (i := 3) (v := ?v3) rfl (by kernel_rfl) (by kernel_rfl) (by kernel_rfl) (by kernel_rfl) (by kernel_rfl) (by kernel_rfl) (fun _ _ _ h => h) (yieldsZ_of (fun _ h => (by cases h)) (by rfl) ?hy3) ⟨g2, hpp, hpr⟩ ?rest3
              case hy3 => (intro w' hw'; obtain ⟨h0, h1, h2⟩ := hw'; go_simp; (try with_reducible rfl))
              (try simp only [Act.put, List.setIfInBounds_toArray, List.set_cons_zero, List.set_cons_succ])
              refine wpAnyZIn_take (i := 4) (v := ?v4) rfl (by kernel_rfl) (by kernel_rfl) (by kernel_rfl) (by kernel_rfl) (by kernel_rfl) (by kernel_rfl) (fun _ _ _ h => h) (yieldsZ_of (fun _ h => (by cases h)) (by rfl) ?hy4) ⟨g2, hpp, hpr⟩ ?rest4
              case hy4 => (intro w' hw'; obtain ⟨h0, h1, h2⟩ := hw'; go_simp; (try with_reducible rfl))
              (try simp only [Act.put, List.setIfInBounds_toArray, List.set_cons_zero, List.set_cons_succ])
              refine wpAnyZIn_take (i := 5) (v := .int .i64 (pnum b x y 0)) rfl (by kernel_rfl) (by kernel_rfl) (by kernel_rfl) (by kernel_rfl) (by kernel_rfl) (by kernel_rfl) (fun _ _ _ h => h) (yieldsZ_call (f := 91) (args := #[.pointer (some ⟨V + 3, 0, none⟩), .int .i64 x, .int .i64 y, .int .i64 0]) (fun _ _ _ _ => trivial) (by rfl) ?hx5 (fun h => (by cases h)) ?hc5) ⟨g2, hpp, hpr⟩ ?rest5
              case hx5 => (intro w'; go_simp; (try with_reducible rfl))
              case hc5 => (intro w' hw'; exact (callsIn_wide.2 (number_ a b (some ⟨ab, ao, none⟩) B C (some ⟨bb, bo, none⟩) E F ca cb cc cd ce cf (V + 3) x y 0 w' hw'.2.2 HXR.out.1 (by have := HXR.out.2; have := HNA.out; omega) HYR.out.1 (by have := HYR.out.2; have := HNB.out; omega) (by omega) (by omega) hst2 (by have := HNB.out; omega))).mono (fun e w'' h => ⟨h.1, h.2.symm⟩))
              (try simp only [Act.put, List.setIfInBounds_toArray, List.set_cons_zero, List.set_cons_succ])
              refine wpAnyZIn_one (i := 6) rfl (by kernel_rfl) rfl (fun K hK => ?_)
              go_simp
              refine hK.out _ _ (.inr ⟨g25, hpp5, hpr5⟩) ?_
              clear hK K
              (try simp only [Act.put, List.setIfInBounds_toArray, List.set_cons_zero, List.set_cons_succ])
              refine wpAnyZIn_one (i := 7) rfl (by kernel_rfl) rfl (fun K hK => ?_)
              refine step_appIn (.tmp 65) (.tmp 70) _ _ rfl (.slice T fl.length c) (.slice (some ⟨wr.drew.heap.size, 0, none⟩) 1 1) (.slice T3 (fl.length + 1) c3) (by go_simp) (by go_simp) HRUN.out ?_
              refine hK.out _ _ (.inr ⟨q4, hpp3, hpr3⟩) ?_
              clear hK K
              (try simp only [Act.put, List.setIfInBounds_toArray, List.set_cons_zero, List.set_cons_succ])
              refine wpAnyZIn_take (i := 8) (v := ?v8) rfl (by kernel_rfl) (by kernel_rfl) (by kernel_rfl) (by kernel_rfl) (by kernel_rfl) (by kernel_rfl) (fun _ _ _ h => h) (yieldsZ_of (fun _ h => (by cases h)) (by rfl) ?hy8) ⟨q4, hpp3, hpr3⟩ ?rest8
              case hy8 => (intro w' hw'; obtain ⟨h0, h1, h2⟩ := hw'; go_simp; (try with_reducible rfl))
              (try simp only [Act.put, List.setIfInBounds_toArray, List.set_cons_zero, List.set_cons_succ])
              refine wpAnyZIn_one (i := 9) rfl (by kernel_rfl) rfl (fun K hK => ?_)
              go_simp
              refine hK.out _ _ (.inl rfl) ?_
              clear hK K
              refine wpAnyZIn_done (by kernel_rfl) (noPanic_normal ?_) _
              gi_wp2
              go_roundw
              case rel => exact ⟨j + 1, _, HX2.out, by go_num, by show AuN _ _ _ _ _ _ _ _ _ _ _; rw [HLS.out]; exact HN3.out, HB3.out⟩
              case measure => simp [intOf]; have := HX2.out; omega
            · have q2 : ¬ (j : Int) < (b.fs.length : Int) := by omega
              obtain rfl : j = b.fs.length := by omega
              have HN2 : Hid (AuN (V + 5) (V + 5) (3 * a.st * b.st) a.le (fsTo a b (i + 1)) (pairGs k) [] fv (.slice (some ⟨V + 6, 0, none⟩) (3 * k) (3 * k)) (.slice none 0 0) wr) := by
                have := HN.out
                rw [List.take_length] at this
                show AuN _ _ _ _ _ _ _ _ _ _ _
                rw [HFS.out]
                exact this
              clear hra hrb hpr hpp c0 c1 c2 c3 c4 d0 d1 d2 d3 d4
              gi_wp2
              go_roundw
              case rel => exact ⟨i + 1, fv, HX.out, by go_num, HN2.out, HB.out⟩
              case measure => simp [intOf]; have := HX.out; omega
        · have q1 : ¬ (i : Int) < (a.fs.length : Int) := by omega
          obtain rfl : i = a.fs.length := by omega
          rw [fsTo_all] at HN
          clear hra hrb HN0 HB0 HFL
          have HFB2 : Hid (Calls Tryz.prog 36 _ wr _) := From_ b D E F cd ce cf wr
          gi_wp2
          refine ⟨trivial, ?_⟩
          refine (callsIn_wide.2 HFB2.out).mono ?_
          rintro e w5 ⟨VB, rfl, hVl, hVA, hb5⟩
          have hba : Below w5.heap.size w5 (w5.alloc (Obj.cells #[.func (.func 72) #[] #[.pointer (some ⟨VB, 0, none⟩)]] 74)) := (Below.refl _ _).alloc (Nat.le_refl _) _
          clear c0 c1 c2 c3 c4 d0 d1 d2 d3 d4
          obtain ⟨⟨_, c0, c1, c2, c3, c4⟩, -, -, -, -, -⟩ := HV.out w5 (Below_on HB.out hb5 (by have := HN.out.lt; omega))
          gi_wp2
          obtain ⟨X, hX⟩ : ∃ X, X = w5.heap.size := ⟨_, rfl⟩
          have hw15 : Below wr.heap.size wr (w5.alloc (Obj.cells #[.func (.func 72) #[] #[.pointer (some ⟨VB, 0, none⟩)]] 74)) := Below_on hb5 hba hb5.size
          have hs7 := HPW.out.size
          have hs0 : Sane V [] [V + 5] wr := HN.out.sane (by omega) (fun k hk => by cases hk)
          have HN5 := Lib.hid (HN.out.on hw15)
          have HB5 : Hid (Below (V + 5) W7 (w5.alloc (Obj.cells #[.func (.func 72) #[] #[.pointer (some ⟨VB, 0, none⟩)]] 74))) := Below_on HB.out hw15 (by have := HN.out.lt; omega)
          have HAB := Lib.hid (hVA.below hba hVA.lt)
          have HGB : Hid (Good V [] [V + 5] (w5.alloc (Obj.cells #[.func (.func 72) #[] #[.pointer (some ⟨VB, 0, none⟩)]] 74)) VB) := Good.new hs0 hw15 hVl (Nat.lt_of_lt_of_le hVA.lt hba.size)
          have HGX : Hid (Good V [] [V + 5] (w5.alloc (Obj.cells #[.func (.func 72) #[] #[.pointer (some ⟨VB, 0, none⟩)]] 74)) X) := Good.new hs0 hw15 (by rw [hX]; exact hb5.size) (by rw [hX]; simp)
          have HCX : Hid ((w5.alloc (Obj.cells #[.func (.func 72) #[] #[.pointer (some ⟨VB, 0, none⟩)]] 74)).cell? ⟨X, 0, none⟩ = some (.func (.func 72) #[] #[.pointer (some ⟨VB, 0, none⟩)])) := by
            show _ = _
            rw [hX]
            go_simp
          rw [← hX]
          clear hX hw15 hs0 hVA hVl hba hb5 HN HB HFB2 c0 c1 c2 c3 c4
          generalize w5.alloc (Obj.cells #[.func (.func 72) #[] #[.pointer (some ⟨VB, 0, none⟩)]] 74) = W5 at *
          refine wpIn_loop_ghost (fun n aa W => ∃ (x : Nat) (ds : List Deferred) (sv v13 v14 v15 v16 v17 v88 v89 v96 : Value), n + x = NA ∧ FrP V (.pointer (some ⟨X, 0, none⟩)) v13 v14 v15 v16 v17 (.int .i64 a.st) (.int .i64 (x : Int)) v88 v89 v96 ds aa ∧
            Hid (AuN (V + 5) (V + 5) (3 * a.st * b.st) a.le (pairFs a b) (pairGs k) (rX a b x) fv (.slice (some ⟨V + 6, 0, none⟩) (3 * k) (3 * k)) sv W) ∧ Hid (Off V [] [V + 5] W5 W) ∧ Hid (MarksO V [] [V + 5] W ds)) NA
            ⟨0, [], _, _, _, _, _, _, _, _, _, rfl, FrP.mk rfl, HN5.out, Off.refl (HN5.out.sane (by omega) (fun k hk => by cases hk)), MarksO.nil _ _ _ _⟩ ?_
          rintro n aa wq ⟨x, ds, sv, v13, v14, v15, v16, v17, v88, v89, v96, hn, hfr, HN, HO, HMK⟩
          obtain ⟨u, rfl⟩ := hfr
          unfold frT
          have HBW : Hid (Below (V + 5) W7 wq) := HB5.out.trans (HN5.out.below_off HO.out (fun k hk => by cases hk))
          obtain ⟨⟨_, c0, c1, c2, c3, c4⟩, -, -, -, -, -⟩ := HV.out wq HBW.out
          by_cases hx : x < NA
          · have q1 : (x : Int) < a.st := by have := HNA.out; omega
            gi_wp2
            have hba : Below wq.heap.size wq (wq.alloc (Obj.cells #[.int .i64 (x : Int)] 3)) := (Below.refl _ _).alloc (Nat.le_refl _) _
            have hdw : Below (wq.alloc (Obj.cells #[.int .i64 (x : Int)] 3)).heap.size (wq.alloc (Obj.cells #[.int .i64 (x : Int)] 3)) (wq.alloc (Obj.cells #[.int .i64 (x : Int)] 3)).drew := (Below.refl _ _).drew
            have hbd := Below_on hba hdw hba.size
            obtain ⟨Xx, hXx⟩ : ∃ Xx, Xx = wq.heap.size := ⟨_, rfl⟩
            have hcx : (wq.alloc (Obj.cells #[.int .i64 (x : Int)] 3)).drew.cell? ⟨Xx, 0, none⟩ = some (.int .i64 (x : Int)) := by rw [hXx]; go_simp
            have hxl : Xx < (wq.alloc (Obj.cells #[.int .i64 (x : Int)] 3)).drew.heap.size := by rw [hXx]; simp
            have hlq := HN.out.lt
            obtain ⟨hA6, -, -, -, -, -⟩ := HV.out _ (Below_on HBW.out hbd (by omega))
            have HBD := Lib.hid hbd
            have HXX := Lib.hid hXx
            rw [← hXx]
            clear hba hdw hbd hXx c0 c1 c2 c3 c4
            refine wpIn_region_Z (fun w' => AuAt w' V a A B C ca cb cc ∧ w'.cell? ⟨Xx, 0, none⟩ = some (.int .i64 (x : Int))) 3 (by kernel_rfl) ?_
            generalize (wq.alloc (Obj.cells #[.int .i64 (x : Int)] 3)).drew = W6 at *
            refine wpAnyZIn_take (i := 0) (v := ?v0b) rfl (by kernel_rfl) (by kernel_rfl) (by kernel_rfl) (by kernel_rfl) (by kernel_rfl) (by kernel_rfl) (fun _ _ _ h => h) (yieldsZ_of (fun _ h => (by cases h)) (by rfl) ?hy0b) ⟨hA6, hcx⟩ ?rest0b
            case hy0b => (intro w' hw'; obtain ⟨⟨_, h0, h1, h2, h3, h4⟩, h5⟩ := hw'; go_simp; (try with_reducible rfl))
            (try simp only [Act.put, List.setIfInBounds_toArray, List.set_cons_zero, List.set_cons_succ])
            refine wpAnyZIn_take (i := 2) (v := ?v2b) rfl (by kernel_rfl) (by kernel_rfl) (by kernel_rfl) (by kernel_rfl) (by kernel_rfl) (by kernel_rfl) (fun _ _ _ h => h) (yieldsZ_of (fun _ h => (by cases h)) (by rfl) ?hy2b) ⟨hA6, hcx⟩ ?rest2b
            case hy2b => (intro w' hw'; obtain ⟨⟨_, h0, h1, h2, h3, h4⟩, h5⟩ := hw'; go_simp; (try with_reducible rfl))
            (try simp only [Act.put, List.setIfInBounds_toArray, List.set_cons_zero, List.set_cons_succ])
            refine wpAnyZIn_one (i := 1) rfl (by kernel_rfl) rfl (fun K hK => ?_)
            refine step_callIn (f := 36) (args := #[.agg #[.int .i64 a.st, .int .i64 a.le, .slice A a.fs.length ca, .slice B a.gs.length cb, .slice C a.ss.length cc]]) (by go_simp; (try with_reducible rfl)) (fun _ h => (by cases h)) (fun _ => trivial) (fun h => (by cases h)) ?_
            refine (callsIn_wide.2 (From_ a A B C ca cb cc W6)).mono ?_
            rintro e w7 ⟨VA, rfl, hVl, hVA, hb7⟩
            refine ⟨_, rfl, ?_⟩
            have hcx7 := (hb7.cell (p := ⟨Xx, 0, none⟩) hxl).trans hcx
            have hA7 := hA6.below hb7 hA6.lt
            refine hK.out _ _ (.inr ⟨hA7, hcx7⟩) ?_
            clear hK K
            (try simp only [Act.put, List.setIfInBounds_toArray, List.set_cons_zero, List.set_cons_succ])
            refine wpAnyZIn_one (i := 3) rfl (by kernel_rfl) rfl (fun K hK => ?_)
            refine step_callIn (f := 72) (args := #[.int .i64 (x : Int), .pointer (some ⟨VA, 0, none⟩)]) (by go_simp; (try with_reducible rfl)) (fun _ h => (by cases h)) (fun _ => trivial) (fun h => (by cases h)) ?_
            have hbq7 := Below_on HBD.out hb7 HBD.out.size
            refine (callsIn_wide.2 (next_ a A B C ca cb cc VA (x : Int) w7 hVA (HV.out w7 (Below_on HBW.out hbq7 (by omega))).2.2.2.2.1.ss HFA.out.so hsa)).mono ?_
            rintro e w8 ⟨X3, Y3, i3, rfl, hX3, hY3, hS3, hLB3, hb8⟩
            refine ⟨_, rfl, ?_⟩
            refine hK.out _ _ (.inl rfl) ?_
            clear hK K
            (try simp only [Act.put, List.setIfInBounds_toArray, List.set_cons_zero, List.set_cons_succ])
            refine wpAnyZIn_done (by kernel_rfl) (noPanic_normal ?_) _
            have hq8 : Below wq.heap.size wq w8 := Below_on hbq7 hb8 hbq7.size
            have hsq : Sane V [] [V + 5] wq := HO.out.sane
            have hs7 := HPW.out.size
            have HN8 := Lib.hid (HN.out.on hq8)
            have HO8 := Lib.hid (HO.out.trans (Off.of_below hsq hq8))
            have HB8 : Hid (Below (V + 5) W7 w8) := Below_on HBW.out hq8 (by omega)
            have hVA8 := hVA.below hb8 hVA.lt
            have h67 := HBD.out.size
            have HGVA : Hid (Good V [] [V + 5] w8 VA) := Good.new hsq hq8 (Nat.le_trans h67 hVl) hVA8.lt
            have HGX3 : Hid (Good V [] [V + 5] w8 X3) := Good.new hsq hq8 (Nat.le_trans hbq7.size hX3) hS3.lx
            have HGY3 : Hid (Good V [] [V + 5] w8 Y3) := Good.new hsq hq8 (Nat.le_trans hbq7.size hY3) hS3.ly
            have HKx : Hid (Kc V (V + 5) w8 Xx 0 (.int .i64 (x : Int))) := ⟨Good.new hsq hq8 (by have := HXX.out; omega) (Nat.lt_of_lt_of_le hxl (Nat.le_trans hb7.size hb8.size)), (hb8.cell (p := ⟨Xx, 0, none⟩) (Nat.lt_of_lt_of_le hxl hb7.size)).trans ((hb7.cell (p := ⟨Xx, 0, none⟩) hxl).trans hcx)⟩
            have HKX : Hid (Kc V (V + 5) w8 X 0 (.func (.func 72) #[] #[.pointer (some ⟨VB, 0, none⟩)])) := Kc.off ⟨HGX.out, HCX.out⟩ HO8.out
            have HAB8 := Lib.hid (HAB.out.off HGB.out HO8.out)
            have HGB8 := Lib.hid (HGB.out.off HO8.out)
            have HMK8 := Lib.hid (HMK.out.off (Off.of_below hsq hq8))
            have nb8 : ∀ k, Good V [] [V + 5] w8 k → ¬ Bad [w8.heap.size + 1] [V + 5] w8 k := fun k hk h => h.of_cons.elim (fun h => by have := hk.lt; omega) hk.not
            have hG8 : V + 5 < w8.heap.size := HN8.out.lt
            have hv := HPW.out.v
            have hsq8 := next_givesV a A B C ca cb cc VA X3 Y3 i3 (x : Int) [w8.heap.size + 1] [V + 5] w w8 hVA8 (nb8 _ HGVA.out) HRA.out.ss (HPW.out.below.trans (HB8.out.mono (by omega))) hS3.x hS3.y hS3.lx hS3.ly (fun k hk => by rw [List.mem_singleton.1 hk]; exact hG8) (nb8 _ HGX3.out) (nb8 _ HGY3.out) HFA.out.so hsa hLB3 11 (by omega)
            rw [← hv] at hsq8
            have HSQ := Lib.hid hsq8
            clear hv hsq8 hVA8 hS3 hLB3 hb8 hb7 hVA hVl hcx7 hA7 hA6 hcx hxl hq8 hsq hbq7 hX3 hY3 h67 hlq HXX HBD HN
            gi_wp2
            refine wp_range_own (gf := 76) (lb := #[.pointer (some ⟨VA, 0, none⟩), .pointer (some ⟨X3, 0, none⟩), .pointer (some ⟨Y3, 0, none⟩)]) (by omega) rfl (enters_of Tryz.func76 (by kernel_rfl) rfl)
              HSQ.out
              (fun h1 h2 => h1.trans h2) ?kb ?sane (Below.refl _ _) (fun _ => rfl)
              (fun pre W' => (∃ sv, Hid (AuN (V + 5) (V + 5) (3 * a.st * b.st) a.le (pairFs a b) (pairGs k) (rX a b x ++ rS a b pre) fv (.slice (some ⟨V + 6, 0, none⟩) (3 * k) (3 * k)) sv W')) ∧ Hid (Off V [] [V + 5] w8 W'))
              (fun _ _ _ => False)
              ?hI ?hIx ?h0
              (fun s a' W' => ∃ Yb, Sane V [] [V + 5] W' ∧ Good V [] [V + 5] W' Yb ∧ W'.heap[Yb]? = some (Obj.cells #[.int .i64 s.f, .int .i64 s.l, .int .i64 s.t] 108) ∧ FrP V (.pointer (some ⟨X, 0, none⟩)) (.pointer (some ⟨Xx, 0, none⟩)) (.pointer (some ⟨Yb, 0, none⟩)) v15 v16 v17 (.int .i64 a.st) (.int .i64 (x : Int)) v88 v89 v96 [] a')
              ?hAx ?assign ?body ?done ?stop
            case kb =>
              intro W' r r' h hs
              exact Off.put hs (List.mem_cons_self ..) h rfl rfl
            case sane =>
              intro r
              have h1 : Below w8.heap.size w8 ((w8.alloc (.deferred (some []))).alloc (.loop r)) := ((Below.refl _ _).alloc (Nat.le_refl _) _).alloc (by simp) _
              exact (Off.of_below HO8.out.sane h1).sane.cons (by omega) (by simp)
            case hI =>
              rintro pre A' B' rw ⟨⟨sv', h1⟩, h2⟩ hg hrw
              exact ⟨⟨sv', h1.out.own hg (fun r hr => (hrw r hr).2)⟩, h2.out.own (fun k hk => by rw [List.mem_singleton.1 hk]; exact hG8) hg hrw⟩
            case hIx => exact fun _ s A' B' rw hs _ _ => hs.elim
            case h0 => exact ⟨⟨sv, by show AuN (V + 5) (V + 5) (3 * a.st * b.st) a.le (pairFs a b) (pairGs k) (rX a b x ++ rS a b []) fv (.slice (some ⟨V + 6, 0, none⟩) (3 * k) (3 * k)) sv w8; rw [show rX a b x ++ rS a b [] = rX a b x from List.append_nil _]; exact HN8.out⟩, Off.refl HO8.out.sane⟩
            case hAx =>
              rintro s a' _ A' B' rw ⟨Yb, h0, h1, h2, h3⟩ hg hrw
              have hF : ∀ F ∈ [V + 5], F < w8.heap.size := fun k hk => by rw [List.mem_singleton.1 hk]; exact hG8
              refine ⟨Yb, h0.own hF hg hrw, h1.own hF h0 hg hrw, (hg.block Yb h1.lt fun e => ?_).trans h2, h3⟩
              obtain ⟨_, o', h4, h5⟩ := hrw _ e.symm
              rw [h2] at h4
              rw [← Option.some.inj h4] at h5
              cases h5
            case assign =>
              rintro l' pre s W' KK ⟨⟨sv', HN'⟩, HO'⟩ hKK
              have HKK := Lib.hid hKK
              have h1 : Below W'.heap.size W' (W'.alloc (Obj.cells #[.int .i64 s.f, .int .i64 s.l, .int .i64 s.t] 108)) := (Below.refl _ _).alloc (Nat.le_refl _) _
              have HF1 := Lib.hid (Off.of_below HO'.out.sane h1)
              have HG1 : Hid (Good V [] [V + 5] (W'.alloc (Obj.cells #[.int .i64 s.f, .int .i64 s.l, .int .i64 s.t] 108)) W'.heap.size) := Good.new HO'.out.sane h1 (Nat.le_refl _) (by simp)
              have HB1 := Lib.hid h1
              clear hKK h1
              gi_wp2
              exact HKK.out _ _ ((KeepsOthers.alloc _ _).from _) (KpO.of_below HB1.out) ⟨⟨sv', HN'.out.on HB1.out⟩, HO'.out.trans HF1.out⟩ ⟨W'.heap.size, HF1.out.sane, HG1.out, World.alloc_heap_new _ _, FrP.mk rfl⟩
            case body =>
              rintro l' pre s a' W' hl' hrec ⟨⟨sv', HN'⟩, HO'⟩ ⟨Yb, hsn, hgd, hyb, hfr⟩ hpre
              obtain ⟨u2, rfl⟩ := hfr
              unfold frT
              have hG8' : V + 5 < W'.heap.size := HN'.out.lt
              have HB1 : Hid (Below (V + 5) W7 W') := HB8.out.trans (HN8.out.below_off HO'.out (fun k hk => by cases hk))
              have HKx1 := Lib.hid (HKx.out.off HO'.out)
              have HKX1 := Lib.hid (HKX.out.off HO'.out)
              have HAB1 := Lib.hid (HAB8.out.off HGB8.out HO'.out)
              have HGB1 := Lib.hid (HGB8.out.off HO'.out)
              have HKs1 : Hid (Kc V (V + 5) W' Yb 1 (.int .i64 s.l)) := ⟨hgd, by simp [World.cell?, hyb]⟩
              have HKs2 : Hid (Kc V (V + 5) W' Yb 2 (.int .i64 s.t)) := ⟨hgd, by simp [World.cell?, hyb]⟩
              have HPRE : Hid (pre ++ [s] <+: sfr a (x : Int)) := hpre
              obtain ⟨hsa1, hsx⟩ := List.mem_filter.1 (hpre.subset (List.mem_append_right _ (List.mem_singleton.2 rfl)))
              have HSA := Lib.hid (HFA.out.sr s hsa1)
              have HSX : Hid (s.f = (x : Int)) := by show _ = _; simpa using hsx
              have HREC := Lib.hid hrec
              have HLL := Lib.hid hl'
              obtain ⟨-, ⟨_, d0, d1, d2, d3, d4⟩, -, -, -, -⟩ := HV.out W' HB1.out
              clear hsn hgd hyb hpre hsa1 hsx hrec hl' HSQ HGVA HGX3 HGY3 HMK8
              gi_wp2
              clear d0 d1 d2 d3 d4
              gi_loopw [89] (fun v89 wr => ∃ (y : Nat) (sv : Value), y ≤ NB ∧ v89 = .int .i64 (y : Int) ∧ Hid (AuN (V + 5) (V + 5) (3 * a.st * b.st) a.le (pairFs a b) (pairGs k) (rX a b x ++ (rS a b pre ++ rY a b s y)) fv (.slice (some ⟨V + 6, 0, none⟩) (3 * k) (3 * k)) sv wr) ∧ Hid (Off V [] [V + 5] W' wr)) (fun v89 _ => NB - (intOf v89).toNat)
              case atStart => exact ⟨0, sv', Nat.zero_le _, rfl, by show AuN (V + 5) (V + 5) (3 * a.st * b.st) a.le (pairFs a b) (pairGs k) (rX a b x ++ (rS a b pre ++ rY a b s 0)) fv (.slice (some ⟨V + 6, 0, none⟩) (3 * k) (3 * k)) sv' W'; rw [show rS a b pre ++ rY a b s 0 = rS a b pre from List.append_nil _]; exact HN'.out, Off.refl HO'.out.sane⟩
              case round =>
                obtain ⟨y, sw, hy, rfl, HNr, HOr⟩ := hrel
                by_cases hyb : y < NB
                · have q2 : (y : Int) < b.st := by have := HNB.out; omega
                  have hba : Below wr.heap.size wr (wr.alloc (Obj.cells #[.int .i64 (y : Int)] 3)) := (Below.refl _ _).alloc (Nat.le_refl _) _
                  have HBA := Lib.hid hba
                  have HOA := Lib.hid (HOr.out.trans (Off.of_below HOr.out.sane hba))
                  have HNA2 := Lib.hid (HNr.out.on hba)
                  have cX := (HKX1.out.off HOA.out).2
                  have HBr : Hid (Below (V + 5) W7 (wr.alloc (Obj.cells #[.int .i64 (y : Int)] 3))) := HB1.out.trans (HN'.out.below_off HOA.out (fun k hk => by cases hk))
                  have HCY : Hid (Kc V (V + 5) (wr.alloc (Obj.cells #[.int .i64 (y : Int)] 3)) wr.heap.size 0 (.int .i64 (y : Int))) := ⟨Good.new HOr.out.sane hba (Nat.le_refl _) (by simp), by go_simp⟩
                  clear hba
                  gi_wp2
                  refine ⟨trivial, ?_⟩
                  clear cX
                  obtain ⟨Xy, hXy⟩ : ∃ Xy, Xy = wr.heap.size := ⟨_, rfl⟩
                  rw [← hXy] at HCY ⊢
                  clear hXy
                  generalize (wr.alloc (Obj.cells #[.int .i64 (y : Int)] 3)) = W2 at *
                  refine (show CallsIn (Fence.wide.inRound l') _ _ _ _ _ (NextPost _ _ _ _ _ _ _ _ _ _) from callsIn_wide.2 (next_ b D E F cd ce cf VB (y : Int) W2 (HAB1.out.off HGB1.out HOA.out) (HV.out W2 HBr.out).2.2.2.2.2.ss HFB.out.so hsb)).mono ?_
                  rintro e w9 ⟨X4, Y4, i4, rfl, hX4, hY4, hS4, hLB4, hb9⟩
                  have hF9 := Off.of_below HOA.out.sane hb9
                  have HO9 := Lib.hid (HOA.out.trans hF9)
                  have HN9 := Lib.hid (HNA2.out.on hb9)
                  have HB9 : Hid (Below (V + 5) W7 w9) := HB1.out.trans (HN'.out.below_off HO9.out (fun k hk => by cases hk))
                  have HKy := Lib.hid (HCY.out.off hF9)
                  have HGX4 : Hid (Good V [] [V + 5] w9 X4) := Good.new HOA.out.sane hb9 hX4 hS4.lx
                  have HGY4 : Hid (Good V [] [V + 5] w9 Y4) := Good.new HOA.out.sane hb9 hY4 hS4.ly
                  have HAB9 := Lib.hid (HAB1.out.off HGB1.out HO9.out)
                  have HGB9 := Lib.hid (HGB1.out.off HO9.out)
                  have nb9 : ∀ k, Good V [] [V + 5] w9 k → ¬ Bad [w9.heap.size] [V + 5] w9 k := fun k hk h => h.of_cons.elim (fun h => by have := hk.lt; omega) hk.not
                  have hG9 : V + 5 < w9.heap.size := HN9.out.lt
                  have hv := HPW.out.v
                  have hs7 := HPW.out.size
                  have hsq9 := next_givesV b D E F cd ce cf VB X4 Y4 i4 (y : Int) [w9.heap.size] [V + 5] w w9 HAB9.out (nb9 _ HGB9.out) HRB.out.ss (HPW.out.below.trans (HB9.out.mono (by omega))) hS4.x hS4.y hS4.lx hS4.ly (fun k hk => by rw [List.mem_singleton.1 hk]; exact hG9) (nb9 _ HGX4.out) (nb9 _ HGY4.out) HFB.out.so hsb hLB4 9 (by omega)
                  rw [← hv] at hsq9
                  have HSQ9 := Lib.hid hsq9
                  have hrl : ∃ r, w9.heap[l']? = some (.loop r) := by
                    obtain ⟨r, hr⟩ := HREC.out
                    have hg := HN'.out.good_obj (lo := V) hr rfl
                    exact ⟨r, (HO9.out.block l' hg.lt hg.not).trans hr⟩
                  obtain ⟨r0, hr0⟩ := hrl
                  clear hv hsq9 hS4 hLB4 hb9 hX4 hY4 hF9 hs7
                  gi_wp2
                  refine wp_range_ownN hr0 (gf := 76) (lb := #[.pointer (some ⟨VB, 0, none⟩), .pointer (some ⟨X4, 0, none⟩), .pointer (some ⟨Y4, 0, none⟩)]) (by omega) rfl (enters_of Tryz.func76 (by kernel_rfl) rfl)
                    HSQ9.out
                    (fun h1 h2 => h1.trans h2) ?kb2 ?sane2 (Below.refl _ _) (fun _ => rfl)
                    (fun pre2 W'' => (∃ sv, Hid (AuN (V + 5) (V + 5) (3 * a.st * b.st) a.le (pairFs a b) (pairGs k) (rX a b x ++ (rS a b pre ++ (rY a b s y ++ rT a b s pre2))) fv (.slice (some ⟨V + 6, 0, none⟩) (3 * k) (3 * k)) sv W'')) ∧ Hid (Off V [] [V + 5] w9 W''))
                    (fun _ _ _ => False)
                    ?hI2 ?hIx2 ?h02
                    (fun t a' W'' => ∃ Yt, Sane V [] [V + 5] W'' ∧ Good V [] [V + 5] W'' Yt ∧ W''.heap[Yt]? = some (Obj.cells #[.int .i64 t.f, .int .i64 t.l, .int .i64 t.t] 108) ∧ ∃ v17 v88 v89 v96, FrP V (.pointer (some ⟨X, 0, none⟩)) (.pointer (some ⟨Xx, 0, none⟩)) (.pointer (some ⟨Yb, 0, none⟩)) (.pointer (some ⟨Xy, 0, none⟩)) (.pointer (some ⟨Yt, 0, none⟩)) v17 (.int .i64 a.st) (.int .i64 (x : Int)) v88 v89 v96 [] a')
                    ?hAx2 ?assign2 ?body2 ?done2 ?stop2
                  case kb2 =>
                    intro W' r r' h hs
                    exact Off.put hs (List.mem_cons_self ..) h rfl rfl
                  case sane2 =>
                    intro r
                    have h1 : Below w9.heap.size w9 (w9.alloc (.loop r)) := (Below.refl _ _).alloc (Nat.le_refl _) _
                    exact (Off.of_below HO9.out.sane h1).sane.cons (by omega) (by simp)
                  case hI2 =>
                    rintro pre A' B' rw ⟨⟨sv', h1⟩, h2⟩ hg hrw
                    exact ⟨⟨sv', h1.out.own hg (fun r hr => (hrw r hr).2)⟩, h2.out.own (fun k hk => by rw [List.mem_singleton.1 hk]; exact hG9) hg hrw⟩
                  case hIx2 => exact fun _ s A' B' rw hs _ _ => hs.elim
                  case h02 => exact ⟨⟨sw, by show AuN (V + 5) (V + 5) (3 * a.st * b.st) a.le (pairFs a b) (pairGs k) (rX a b x ++ (rS a b pre ++ (rY a b s y ++ rT a b s []))) fv (.slice (some ⟨V + 6, 0, none⟩) (3 * k) (3 * k)) sw w9; rw [show rY a b s y ++ rT a b s [] = rY a b s y from List.append_nil _]; exact HN9.out⟩, Off.refl HO9.out.sane⟩
                  case hAx2 =>
                    rintro t a' _ A' B' rw ⟨Yt, h0, h1, h2, h3⟩ hg hrw
                    have hF : ∀ F ∈ [V + 5], F < w9.heap.size := fun k hk => by rw [List.mem_singleton.1 hk]; exact hG9
                    refine ⟨Yt, h0.own hF hg hrw, h1.own hF h0 hg hrw, (hg.block Yt h1.lt fun e => ?_).trans h2, h3⟩
                    obtain ⟨_, o', h4, h5⟩ := hrw _ e.symm
                    rw [h2] at h4
                    rw [← Option.some.inj h4] at h5
                    cases h5
                  case assign2 =>
                    rintro l2 pre2 t W'' KK ⟨⟨sv2, HN2⟩, HO2⟩ hKK
                    have HKK := Lib.hid hKK
                    have h1 : Below W''.heap.size W'' (W''.alloc (Obj.cells #[.int .i64 t.f, .int .i64 t.l, .int .i64 t.t] 108)) := (Below.refl _ _).alloc (Nat.le_refl _) _
                    have HF1 := Lib.hid (Off.of_below HO2.out.sane h1)
                    have HG1 : Hid (Good V [] [V + 5] (W''.alloc (Obj.cells #[.int .i64 t.f, .int .i64 t.l, .int .i64 t.t] 108)) W''.heap.size) := Good.new HO2.out.sane h1 (Nat.le_refl _) (by simp)
                    have HB1 := Lib.hid h1
                    clear hKK h1
                    gi_wp2
                    exact HKK.out _ _ ((KeepsOthers.alloc _ _).from _) (KpO.of_below HB1.out) ⟨⟨sv2, HN2.out.on HB1.out⟩, HO2.out.trans HF1.out⟩ ⟨W''.heap.size, HF1.out.sane, HG1.out, World.alloc_heap_new _ _, _, _, _, _, FrP.mk rfl⟩
                  case body2 =>
                    rintro l2 pre2 t a' W'' hl2 hrec2 ⟨⟨sv2, HN2⟩, HO2⟩ ⟨Yt, hsn2, hgd, hyt, v17, v88, v89, v96, hfr⟩ hpre2
                    obtain ⟨u3, rfl⟩ := hfr
                    unfold frT
                    have hGw9 : V + 5 < w9.heap.size := hG9
                    have HO92 := Lib.hid (HO9.out.trans HO2.out)
                    have HKx2 := Lib.hid (HKx1.out.off HO92.out)
                    have HKs12 := Lib.hid (HKs1.out.off HO92.out)
                    have HKs22 := Lib.hid (HKs2.out.off HO92.out)
                    have HKy2 := Lib.hid (HKy.out.off HO2.out)
                    have HKt1 : Hid (Kc V (V + 5) W'' Yt 1 (.int .i64 t.l)) := ⟨hgd, by simp [World.cell?, hyt]⟩
                    have HKt2 : Hid (Kc V (V + 5) W'' Yt 2 (.int .i64 t.t)) := ⟨hgd, by simp [World.cell?, hyt]⟩
                    have HPRE2 : Hid (pre2 ++ [t] <+: sfr b (y : Int)) := hpre2
                    obtain ⟨hta1, htx⟩ := List.mem_filter.1 (hpre2.subset (List.mem_append_right _ (List.mem_singleton.2 rfl)))
                    have HTA := Lib.hid (HFB.out.sr t hta1)
                    have HTX : Hid (t.f = (y : Int)) := by show _ = _; simpa using htx
                    have HLEN : Hid (∀ z, z ≤ 3 → (curP a b x pre s y pre2 t (z)).length ≤ 100000000) := fun z hz => Nat.le_trans (cur_len (by have := HNA.out; omega) HPRE.out (by have := HNB.out; omega) HPRE2.out hz) hsn
                    have HXB : Hid ((x : Int) ≤ 1000000 ∧ (y : Int) ≤ 1000000) := ⟨by omega, by omega⟩
                    clear hsn2 hgd hyt hpre2 hta1 htx hrec2 hl2 HSQ9 HGX4 HGY4 hr0
                    gi_wp2
                    gi_loopw [96] (fun v96 wr => ∃ (z : Nat) (sv : Value), z ≤ 3 ∧ v96 = .int .i64 (z : Int) ∧ Hid (AuN (V + 5) (V + 5) (3 * a.st * b.st) a.le (pairFs a b) (pairGs k) (curP a b x pre s y pre2 t (z)) fv (.slice (some ⟨V + 6, 0, none⟩) (3 * k) (3 * k)) sv wr) ∧ Hid (Off V [] [V + 5] W'' wr)) (fun v96 _ => 3 - (intOf v96).toNat)
                    case atStart => exact ⟨0, sv2, by omega, rfl, by show AuN (V + 5) (V + 5) (3 * a.st * b.st) a.le (pairFs a b) (pairGs k) (curP a b x pre s y pre2 t (0)) fv (.slice (some ⟨V + 6, 0, none⟩) (3 * k) (3 * k)) sv2 W''; unfold curP; rw [triTo_zero, List.append_nil]; exact HN2.out, Off.refl HO2.out.sane⟩
                    case round =>
                      obtain ⟨z, sz, hz, rfl, HNz, HOz⟩ := hrel
                      have hs1 := (HKs12.out.off HOz.out).2
                      have ht1 := (HKt1.out.off HOz.out).2
                      by_cases hz3 : z < 3
                      · have q3 : (z : Int) < 3 := by omega
                        by_cases hst : s.l = t.l
                        · have hst1' : (s.l == t.l) = true := by simp [hst]
                          have HTR : Hid (curP a b x pre s y pre2 t (z + 1) = curP a b x pre s y pre2 t (z) ++ [(pairStp a b s t (z : Int))]) := by
                            show _ = _
                            unfold curP
                            rw [triTo_succ hst]
                            simp only [List.append_assoc]
                          clear hst
                          have hdw : Below wr.heap.size wr wr.drew := (Below.refl _ _).drew
                          have HND := Lib.hid (HNz.out.on hdw)
                          have hOd := HOz.out.trans (Off.of_below HOz.out.sane hdw)
                          have HOD := Lib.hid hOd
                          have hBd : Below (V + 5) W7 wr.drew := HB9.out.trans (HN9.out.below_off (HO2.out.trans hOd) (fun k hk => by cases hk))
                          have HKX3 := Lib.hid (HKx2.out.off hOd)
                          have HKY3 := Lib.hid (HKy2.out.off hOd)
                          have HKS1 := Lib.hid (HKs12.out.off hOd)
                          have HKS2 := Lib.hid (HKs22.out.off hOd)
                          have HKT2 := Lib.hid (HKt2.out.off hOd)
                          have hLz := HLEN.out z hz
                          gi_wp2
                          generalize curP a b x pre s y pre2 t (z) = cl at *
                          obtain ⟨T, c, rfl, hlc, hcm, T3, c3, w3, hrun, q4, f4, hgr, hNN3, hOO3⟩ := HND.out.appSO (pairStp a b s t (z : Int)) (Nat.le_trans hLz (by decide))
                          have hal : Below wr.drew.heap.size wr.drew (wr.drew.alloc (Obj.cells #[.int .i64 (pairStp a b s t (z : Int)).f, .int .i64 (pairStp a b s t (z : Int)).l, .int .i64 (pairStp a b s t (z : Int)).t] 108)) := (Below.refl _ _).alloc (Nat.le_refl _) _
                          have hG5 : V + 5 < wr.drew.heap.size := HND.out.lt
                          have hb3 : Below (V + 5) wr.drew w3 := (hal.mono (Nat.le_of_lt hG5)).grown hgr (by have := hal.size; omega) (fun k hk => (HND.out.s.lt k hk).1)
                          have k3 : ∀ (k o : Nat) (v : Value), Kc V (V + 5) wr.drew k o v → w3.cell? ⟨k, o, none⟩ = some v := fun k o v h =>
                            (cell_of_heap ((hgr.block k (Nat.lt_of_lt_of_le h.1.lt hal.size) (fun e => h.1.not (HND.out.bad.2 (.inr (.inr (.inr (.inr e.symm))))))).trans (hal.block k h.1.lt)) o).trans h.2
                          have k2 : ∀ (k o : Nat) (v : Value), Kc V (V + 5) wr.drew k o v → (wr.drew.alloc (Obj.cells #[.int .i64 (pairStp a b s t (z : Int)).f, .int .i64 (pairStp a b s t (z : Int)).l, .int .i64 (pairStp a b s t (z : Int)).t] 108)).cell? ⟨k, o, none⟩ = some v := fun k o v h => (cell_of_heap (hal.block k h.1.lt) o).trans h.2
                          obtain ⟨_, _, _, _, g4, _⟩ := obj5 HND.out.obj
                          have HS1 : Hid (Below (V + 5) W7 wr.drew ∧ wr.drew.cell? ⟨V + 5, 4, none⟩ = some (.slice T cl.length c) ∧ wr.drew.cell? ⟨Xx, 0, none⟩ = some (.int .i64 (x : Int)) ∧ wr.drew.cell? ⟨Xy, 0, none⟩ = some (.int .i64 (y : Int)) ∧ wr.drew.cell? ⟨Yb, 1, none⟩ = some (.int .i64 s.l) ∧ wr.drew.cell? ⟨Yb, 2, none⟩ = some (.int .i64 s.t) ∧ wr.drew.cell? ⟨Yt, 2, none⟩ = some (.int .i64 t.t)) :=
                            ⟨hBd, g4, HKX3.out.2, HKY3.out.2, HKS1.out.2, HKS2.out.2, HKT2.out.2⟩
                          have HS2 : Hid (Below (V + 5) W7 (wr.drew.alloc (Obj.cells #[.int .i64 (pairStp a b s t (z : Int)).f, .int .i64 (pairStp a b s t (z : Int)).l, .int .i64 (pairStp a b s t (z : Int)).t] 108)) ∧ (wr.drew.alloc (Obj.cells #[.int .i64 (pairStp a b s t (z : Int)).f, .int .i64 (pairStp a b s t (z : Int)).l, .int .i64 (pairStp a b s t (z : Int)).t] 108)).cell? ⟨V + 5, 4, none⟩ = some (.slice T cl.length c) ∧ (wr.drew.alloc (Obj.cells #[.int .i64 (pairStp a b s t (z : Int)).f, .int .i64 (pairStp a b s t (z : Int)).l, .int .i64 (pairStp a b s t (z : Int)).t] 108)).cell? ⟨Xx, 0, none⟩ = some (.int .i64 (x : Int)) ∧ (wr.drew.alloc (Obj.cells #[.int .i64 (pairStp a b s t (z : Int)).f, .int .i64 (pairStp a b s t (z : Int)).l, .int .i64 (pairStp a b s t (z : Int)).t] 108)).cell? ⟨Xy, 0, none⟩ = some (.int .i64 (y : Int)) ∧ (wr.drew.alloc (Obj.cells #[.int .i64 (pairStp a b s t (z : Int)).f, .int .i64 (pairStp a b s t (z : Int)).l, .int .i64 (pairStp a b s t (z : Int)).t] 108)).cell? ⟨Yb, 1, none⟩ = some (.int .i64 s.l) ∧ (wr.drew.alloc (Obj.cells #[.int .i64 (pairStp a b s t (z : Int)).f, .int .i64 (pairStp a b s t (z : Int)).l, .int .i64 (pairStp a b s t (z : Int)).t] 108)).cell? ⟨Yb, 2, none⟩ = some (.int .i64 s.t) ∧ (wr.drew.alloc (Obj.cells #[.int .i64 (pairStp a b s t (z : Int)).f, .int .i64 (pairStp a b s t (z : Int)).l, .int .i64 (pairStp a b s t (z : Int)).t] 108)).cell? ⟨Yt, 2, none⟩ = some (.int .i64 t.t)) :=
                            ⟨hBd.trans (hal.mono (Nat.le_of_lt hG5)), (hal.cell (p := ⟨V + 5, 4, none⟩) hG5).trans g4, k2 _ _ _ HKX3.out, k2 _ _ _ HKY3.out, k2 _ _ _ HKS1.out, k2 _ _ _ HKS2.out, k2 _ _ _ HKT2.out⟩
                          have HS3 : Hid (Below (V + 5) W7 w3 ∧ w3.cell? ⟨V + 5, 4, none⟩ = some (.slice T cl.length c) ∧ w3.cell? ⟨Xx, 0, none⟩ = some (.int .i64 (x : Int)) ∧ w3.cell? ⟨Xy, 0, none⟩ = some (.int .i64 (y : Int)) ∧ w3.cell? ⟨Yb, 1, none⟩ = some (.int .i64 s.l) ∧ w3.cell? ⟨Yb, 2, none⟩ = some (.int .i64 s.t) ∧ w3.cell? ⟨Yt, 2, none⟩ = some (.int .i64 t.t)) :=
                            ⟨hBd.trans hb3, q4, k3 _ _ _ HKX3.out, k3 _ _ _ HKY3.out, k3 _ _ _ HKS1.out, k3 _ _ _ HKS2.out, k3 _ _ _ HKT2.out⟩
                          have HN3 := Lib.hid hNN3
                          have HO3 : Hid (Off V [] [V + 5] W'' (w3.setCell ⟨V + 5, 4, none⟩ (.slice T3 (cl.length + 1) c3))) := hOd.trans (hOO3 V [] (by omega) (fun k hk => by cases hk))
                          have HRUN := Lib.hid hrun
                          have HPF : Hid ((pairStp a b s t (z : Int)).f = pnum b (x : Int) (y : Int) (z : Int)) := by show pnum b s.f t.f (z : Int) = _; rw [HSX.out, HTX.out]
                          have HPT : Hid ((pairStp a b s t (z : Int)).t = pnum b s.t t.t (pwait a b (x : Int) (y : Int) (z : Int))) := by show pnum b s.t t.t (pwait a b s.f t.f (z : Int)) = _; rw [HSX.out, HTX.out]
                          have HPL : Hid ((pairStp a b s t (z : Int)).l = s.l) := rfl
                          have HPW2 := Lib.hid (pwait_lt a b (x : Int) (y : Int) (z : Int) ⟨by omega, q3⟩)
                          have HX := Lib.hid hz3
                          obtain ⟨ps, hps⟩ : ∃ ps, ps = (pairStp a b s t (z : Int)) := ⟨_, rfl⟩
                          rw [← hps] at HPF HPT HPL HTR HRUN HN3 HS2
                          rw [HPF.out, HPT.out, HPL.out] at HS2 HRUN
                          clear hps hs1 ht1 hrun hNN3 hOO3 hgr hb3 hal k2 k3 hOd hBd hdw g4 q4
                          refine wpIn_region_Z (fun w' => Below (V + 5) W7 w' ∧ w'.cell? ⟨V + 5, 4, none⟩ = some (.slice T cl.length c) ∧ w'.cell? ⟨Xx, 0, none⟩ = some (.int .i64 (x : Int)) ∧ w'.cell? ⟨Xy, 0, none⟩ = some (.int .i64 (y : Int)) ∧ w'.cell? ⟨Yb, 1, none⟩ = some (.int .i64 s.l) ∧ w'.cell? ⟨Yb, 2, none⟩ = some (.int .i64 s.t) ∧ w'.cell? ⟨Yt, 2, none⟩ = some (.int .i64 t.t)) 24 (by kernel_rfl) ?_
                          have hs33 := HS1.out
                          refine wpAnyZIn_take (i := 0) (v := ?v0c) rfl (by kernel_rfl) (by kernel_rfl) (by kernel_rfl) (by kernel_rfl) (by kernel_rfl) (by kernel_rfl) (fun _ _ _ h => h) (yieldsZ_of (fun _ h => (by cases h)) (by rfl) ?hy0c) hs33 ?rest0c
                          case hy0c => (intro w' hw'; obtain ⟨hb, h1, h2, h3, h4, h5, h6⟩ := hw'; obtain ⟨-, -, -, hpp, -, -⟩ := HV.out w' hb; go_simp; (try with_reducible rfl))
                          (try simp only [Act.put, List.setIfInBounds_toArray, List.set_cons_zero, List.set_cons_succ])
                          refine wpAnyZIn_take (i := 1) (v := ?v1c) rfl (by kernel_rfl) (by kernel_rfl) (by kernel_rfl) (by kernel_rfl) (by kernel_rfl) (by kernel_rfl) (fun _ _ _ h => h) (yieldsZ_of (fun _ h => (by cases h)) (by rfl) ?hy1c) hs33 ?rest1c
                          case hy1c => (intro w' hw'; obtain ⟨hb, h1, h2, h3, h4, h5, h6⟩ := hw'; obtain ⟨-, -, -, hpp, -, -⟩ := HV.out w' hb; go_simp; (try with_reducible rfl))
                          (try simp only [Act.put, List.setIfInBounds_toArray, List.set_cons_zero, List.set_cons_succ])
                          refine wpAnyZIn_take (i := 2) (v := ?v2c) rfl (by kernel_rfl) (by kernel_rfl) (by kernel_rfl) (by kernel_rfl) (by kernel_rfl) (by kernel_rfl) (fun _ _ _ h => h) (yieldsZ_of (fun _ h => (by cases h)) (by rfl) ?hy2c) hs33 ?rest2c
                          case hy2c => (intro w' hw'; obtain ⟨hb, h1, h2, h3, h4, h5, h6⟩ := hw'; obtain ⟨-, -, -, hpp, -, -⟩ := HV.out w' hb; go_simp; (try with_reducible rfl))
                          (try simp only [Act.put, List.setIfInBounds_toArray, List.set_cons_zero, List.set_cons_succ])
                          refine wpAnyZIn_take (i := 3) (v := ?v3c) rfl (by kernel_rfl) (by kernel_rfl) (by kernel_rfl) (by kernel_rfl) (by kernel_rfl) (by kernel_rfl) (fun _ _ _ h => h) (yieldsZ_of (fun _ h => (by cases h)) (by rfl) ?hy3c) hs33 ?rest3c
                          case hy3c => (intro w' hw'; obtain ⟨hb, h1, h2, h3, h4, h5, h6⟩ := hw'; obtain ⟨-, -, -, hpp, -, -⟩ := HV.out w' hb; go_simp; (try with_reducible rfl))
                          (try simp only [Act.put, List.setIfInBounds_toArray, List.set_cons_zero, List.set_cons_succ])
                          refine wpAnyZIn_take (i := 4) (v := ?v4c) rfl (by kernel_rfl) (by kernel_rfl) (by kernel_rfl) (by kernel_rfl) (by kernel_rfl) (by kernel_rfl) (fun _ _ _ h => h) (yieldsZ_of (fun _ h => (by cases h)) (by rfl) ?hy4c) hs33 ?rest4c
                          case hy4c => (intro w' hw'; obtain ⟨hb, h1, h2, h3, h4, h5, h6⟩ := hw'; obtain ⟨-, -, -, hpp, -, -⟩ := HV.out w' hb; go_simp; (try with_reducible rfl))
                          (try simp only [Act.put, List.setIfInBounds_toArray, List.set_cons_zero, List.set_cons_succ])
                          refine wpAnyZIn_take (i := 5) (v := ?v5c) rfl (by kernel_rfl) (by kernel_rfl) (by kernel_rfl) (by kernel_rfl) (by kernel_rfl) (by kernel_rfl) (fun _ _ _ h => h) (yieldsZ_of (fun _ h => (by cases h)) (by rfl) ?hy5c) hs33 ?rest5c
                          case hy5c => (intro w' hw'; obtain ⟨hb, h1, h2, h3, h4, h5, h6⟩ := hw'; obtain ⟨-, -, -, hpp, -, -⟩ := HV.out w' hb; go_simp; (try with_reducible rfl))
                          (try simp only [Act.put, List.setIfInBounds_toArray, List.set_cons_zero, List.set_cons_succ])
                          refine wpAnyZIn_take (i := 6) (v := .int .i64 (pnum b (x : Int) (y : Int) (z : Int))) rfl (by kernel_rfl) (by kernel_rfl) (by kernel_rfl) (by kernel_rfl) (by kernel_rfl) (by kernel_rfl) (fun _ _ _ h => h) (yieldsZ_call (f := 91) (args := #[.pointer (some ⟨V + 3, 0, none⟩), .int .i64 (x : Int), .int .i64 (y : Int), .int .i64 (z : Int)]) (fun _ _ _ _ => trivial) (by rfl) ?hx6c (fun h => (by cases h)) ?hc6c) hs33 ?rest6c
                          case hx6c => (intro w'; go_simp; (try with_reducible rfl))
                          case hc6c => (intro w' hw'; exact (show CallsIn (Fence.wide.inRound l2) _ _ _ _ _ (fun e w'' => e = .returned (.int .i64 (pnum b (x : Int) (y : Int) (z : Int))) ∧ w' = w'') from callsIn_wide.2 (number_ a b A B C D E F ca cb cc cd ce cf (V + 3) (x : Int) (y : Int) (z : Int) w' (HV.out w' hw'.1).2.2.1 (by omega) HXB.out.1 (by omega) HXB.out.2 (by omega) (by omega) hst2 (by have := HNB.out; omega))).mono (fun e w'' h => ⟨h.1, h.2.symm⟩))
                          (try simp only [Act.put, List.setIfInBounds_toArray, List.set_cons_zero, List.set_cons_succ])
                          refine wpAnyZIn_take (i := 7) (v := ?v7c) rfl (by kernel_rfl) (by kernel_rfl) (by kernel_rfl) (by kernel_rfl) (by kernel_rfl) (by kernel_rfl) (fun _ _ _ h => h) (yieldsZ_of (fun _ h => (by cases h)) (by rfl) ?hy7c) hs33 ?rest7c
                          case hy7c => (intro w' hw'; obtain ⟨hb, h1, h2, h3, h4, h5, h6⟩ := hw'; obtain ⟨-, -, -, hpp, -, -⟩ := HV.out w' hb; go_simp; (try with_reducible rfl))
                          (try simp only [Act.put, List.setIfInBounds_toArray, List.set_cons_zero, List.set_cons_succ])
                          refine wpAnyZIn_take (i := 8) (v := ?v8c) rfl (by kernel_rfl) (by kernel_rfl) (by kernel_rfl) (by kernel_rfl) (by kernel_rfl) (by kernel_rfl) (fun _ _ _ h => h) (yieldsZ_of (fun _ h => (by cases h)) (by rfl) ?hy8c) hs33 ?rest8c
                          case hy8c => (intro w' hw'; obtain ⟨hb, h1, h2, h3, h4, h5, h6⟩ := hw'; obtain ⟨-, -, -, hpp, -, -⟩ := HV.out w' hb; go_simp; (try with_reducible rfl))
                          (try simp only [Act.put, List.setIfInBounds_toArray, List.set_cons_zero, List.set_cons_succ])
                          refine wpAnyZIn_take (i := 9) (v := ?v9c) rfl (by kernel_rfl) (by kernel_rfl) (by kernel_rfl) (by kernel_rfl) (by kernel_rfl) (by kernel_rfl) (fun _ _ _ h => h) (yieldsZ_of (fun _ h => (by cases h)) (by rfl) ?hy9c) hs33 ?rest9c
                          case hy9c => (intro w' hw'; obtain ⟨hb, h1, h2, h3, h4, h5, h6⟩ := hw'; obtain ⟨-, -, -, hpp, -, -⟩ := HV.out w' hb; go_simp; (try with_reducible rfl))
                          (try simp only [Act.put, List.setIfInBounds_toArray, List.set_cons_zero, List.set_cons_succ])
                          refine wpAnyZIn_take (i := 10) (v := ?v10c) rfl (by kernel_rfl) (by kernel_rfl) (by kernel_rfl) (by kernel_rfl) (by kernel_rfl) (by kernel_rfl) (fun _ _ _ h => h) (yieldsZ_of (fun _ h => (by cases h)) (by rfl) ?hy10c) hs33 ?rest10c
                          case hy10c => (intro w' hw'; obtain ⟨hb, h1, h2, h3, h4, h5, h6⟩ := hw'; obtain ⟨-, -, -, hpp, -, -⟩ := HV.out w' hb; go_simp; (try with_reducible rfl))
                          (try simp only [Act.put, List.setIfInBounds_toArray, List.set_cons_zero, List.set_cons_succ])
                          refine wpAnyZIn_take (i := 11) (v := ?v11c) rfl (by kernel_rfl) (by kernel_rfl) (by kernel_rfl) (by kernel_rfl) (by kernel_rfl) (by kernel_rfl) (fun _ _ _ h => h) (yieldsZ_of (fun _ h => (by cases h)) (by rfl) ?hy11c) hs33 ?rest11c
                          case hy11c => (intro w' hw'; obtain ⟨hb, h1, h2, h3, h4, h5, h6⟩ := hw'; obtain ⟨-, -, -, hpp, -, -⟩ := HV.out w' hb; go_simp; (try with_reducible rfl))
                          (try simp only [Act.put, List.setIfInBounds_toArray, List.set_cons_zero, List.set_cons_succ])
                          refine wpAnyZIn_take (i := 12) (v := ?v12c) rfl (by kernel_rfl) (by kernel_rfl) (by kernel_rfl) (by kernel_rfl) (by kernel_rfl) (by kernel_rfl) (fun _ _ _ h => h) (yieldsZ_of (fun _ h => (by cases h)) (by rfl) ?hy12c) hs33 ?rest12c
                          case hy12c => (intro w' hw'; obtain ⟨hb, h1, h2, h3, h4, h5, h6⟩ := hw'; obtain ⟨-, -, -, hpp, -, -⟩ := HV.out w' hb; go_simp; (try with_reducible rfl))
                          (try simp only [Act.put, List.setIfInBounds_toArray, List.set_cons_zero, List.set_cons_succ])
                          refine wpAnyZIn_take (i := 13) (v := ?v13c) rfl (by kernel_rfl) (by kernel_rfl) (by kernel_rfl) (by kernel_rfl) (by kernel_rfl) (by kernel_rfl) (fun _ _ _ h => h) (yieldsZ_of (fun _ h => (by cases h)) (by rfl) ?hy13c) hs33 ?rest13c
                          case hy13c => (intro w' hw'; obtain ⟨hb, h1, h2, h3, h4, h5, h6⟩ := hw'; obtain ⟨-, -, -, hpp, -, -⟩ := HV.out w' hb; go_simp; (try with_reducible rfl))
                          (try simp only [Act.put, List.setIfInBounds_toArray, List.set_cons_zero, List.set_cons_succ])
                          refine wpAnyZIn_take (i := 14) (v := ?v14c) rfl (by kernel_rfl) (by kernel_rfl) (by kernel_rfl) (by kernel_rfl) (by kernel_rfl) (by kernel_rfl) (fun _ _ _ h => h) (yieldsZ_of (fun _ h => (by cases h)) (by rfl) ?hy14c) hs33 ?rest14c
                          case hy14c => (intro w' hw'; obtain ⟨hb, h1, h2, h3, h4, h5, h6⟩ := hw'; obtain ⟨-, -, -, hpp, -, -⟩ := HV.out w' hb; go_simp; (try with_reducible rfl))
                          (try simp only [Act.put, List.setIfInBounds_toArray, List.set_cons_zero, List.set_cons_succ])
                          refine wpAnyZIn_take (i := 15) (v := ?v15c) rfl (by kernel_rfl) (by kernel_rfl) (by kernel_rfl) (by kernel_rfl) (by kernel_rfl) (by kernel_rfl) (fun _ _ _ h => h) (yieldsZ_of (fun _ h => (by cases h)) (by rfl) ?hy15c) hs33 ?rest15c
                          case hy15c => (intro w' hw'; obtain ⟨hb, h1, h2, h3, h4, h5, h6⟩ := hw'; obtain ⟨-, -, -, hpp, -, -⟩ := HV.out w' hb; go_simp; (try with_reducible rfl))
                          (try simp only [Act.put, List.setIfInBounds_toArray, List.set_cons_zero, List.set_cons_succ])
                          refine wpAnyZIn_take (i := 16) (v := ?v16c) rfl (by kernel_rfl) (by kernel_rfl) (by kernel_rfl) (by kernel_rfl) (by kernel_rfl) (by kernel_rfl) (fun _ _ _ h => h) (yieldsZ_of (fun _ h => (by cases h)) (by rfl) ?hy16c) hs33 ?rest16c
                          case hy16c => (intro w' hw'; obtain ⟨hb, h1, h2, h3, h4, h5, h6⟩ := hw'; obtain ⟨-, -, -, hpp, -, -⟩ := HV.out w' hb; go_simp; (try with_reducible rfl))
                          (try simp only [Act.put, List.setIfInBounds_toArray, List.set_cons_zero, List.set_cons_succ])
                          refine wpAnyZIn_take (i := 17) (v := ?v17c) rfl (by kernel_rfl) (by kernel_rfl) (by kernel_rfl) (by kernel_rfl) (by kernel_rfl) (by kernel_rfl) (fun _ _ _ h => h) (yieldsZ_of (fun _ h => (by cases h)) (by rfl) ?hy17c) hs33 ?rest17c
                          case hy17c => (intro w' hw'; obtain ⟨hb, h1, h2, h3, h4, h5, h6⟩ := hw'; obtain ⟨-, -, -, hpp, -, -⟩ := HV.out w' hb; go_simp; (try with_reducible rfl))
                          (try simp only [Act.put, List.setIfInBounds_toArray, List.set_cons_zero, List.set_cons_succ])
                          refine wpAnyZIn_take (i := 18) (v := .int .i64 (pwait a b (x : Int) (y : Int) (z : Int))) rfl (by kernel_rfl) (by kernel_rfl) (by kernel_rfl) (by kernel_rfl) (by kernel_rfl) (by kernel_rfl) (fun _ _ _ h => h) (yieldsZ_call (f := 92) (args := #[.pointer (some ⟨V + 3, 0, none⟩), .int .i64 (x : Int), .int .i64 (y : Int), .int .i64 (z : Int)]) (fun _ _ _ _ => trivial) (by rfl) ?hx18c (fun h => (by cases h)) ?hc18c) hs33 ?rest18c
                          case hx18c => (intro w'; go_simp; (try with_reducible rfl))
                          case hc18c => (intro w' hw'; exact (show CallsIn (Fence.wide.inRound l2) _ _ _ _ _ (fun e w'' => e = .returned (.int .i64 (pwait a b (x : Int) (y : Int) (z : Int))) ∧ w' = w'') from callsIn_wide.2 (wait_ a b A B C D E F ca cb cc cd ce cf (V + 3) (x : Int) (y : Int) (z : Int) w' (HV.out w' hw'.1).2.2.1 (HV.out w' hw'.1).2.2.2.2.1.gs (HV.out w' hw'.1).2.2.2.2.2.gs (by omega) (by have := HFA.out.gl; have := HNA.out; omega) (by omega) (by have := HFB.out.gl; have := HNB.out; omega) (by omega) (by omega))).mono (fun e w'' h => ⟨h.1, h.2.symm⟩))
                          (try simp only [Act.put, List.setIfInBounds_toArray, List.set_cons_zero, List.set_cons_succ])
                          refine wpAnyZIn_take (i := 19) (v := .int .i64 (pnum b s.t t.t (pwait a b (x : Int) (y : Int) (z : Int)))) rfl (by kernel_rfl) (by kernel_rfl) (by kernel_rfl) (by kernel_rfl) (by kernel_rfl) (by kernel_rfl) (fun _ _ _ h => h) (yieldsZ_call (f := 91) (args := #[.pointer (some ⟨V + 3, 0, none⟩), .int .i64 s.t, .int .i64 t.t, .int .i64 (pwait a b (x : Int) (y : Int) (z : Int))]) (fun _ _ _ _ => trivial) (by rfl) ?hx19c (fun h => (by cases h)) ?hc19c) hs33 ?rest19c
                          case hx19c => (intro w'; go_simp; (try with_reducible rfl))
                          case hc19c => (intro w' hw'; exact (show CallsIn (Fence.wide.inRound l2) _ _ _ _ _ (fun e w'' => e = .returned (.int .i64 (pnum b s.t t.t (pwait a b (x : Int) (y : Int) (z : Int)))) ∧ w' = w'') from callsIn_wide.2 (number_ a b A B C D E F ca cb cc cd ce cf (V + 3) (s.t) (t.t) (pwait a b (x : Int) (y : Int) (z : Int)) w' (HV.out w' hw'.1).2.2.1 HSA.out.2.1.1 (by have := HSA.out.2.1.2; have := HNA.out; omega) HTA.out.2.1.1 (by have := HTA.out.2.1.2; have := HNB.out; omega) HPW2.out.1 (by have := HPW2.out.2; omega) hst2 (by have := HNB.out; omega))).mono (fun e w'' h => ⟨h.1, h.2.symm⟩))
                          (try simp only [Act.put, List.setIfInBounds_toArray, List.set_cons_zero, List.set_cons_succ])
                          refine wpAnyZIn_take (i := 20) (v := ?v20c) rfl (by kernel_rfl) (by kernel_rfl) (by kernel_rfl) (by kernel_rfl) (by kernel_rfl) (by kernel_rfl) (fun _ _ _ h => h) (yieldsZ_of (fun _ h => (by cases h)) (by rfl) ?hy20c) hs33 ?rest20c
                          case hy20c => (intro w' hw'; obtain ⟨hb, h1, h2, h3, h4, h5, h6⟩ := hw'; obtain ⟨-, -, -, hpp, -, -⟩ := HV.out w' hb; go_simp; (try with_reducible rfl))
                          (try simp only [Act.put, List.setIfInBounds_toArray, List.set_cons_zero, List.set_cons_succ])
                          refine wpAnyZIn_one (i := 21) rfl (by kernel_rfl) rfl (fun K hK => ?_)
                          go_simp
                          refine hK.out _ _ (.inr HS2.out) ?_
                          clear hK K
                          (try simp only [Act.put, List.setIfInBounds_toArray, List.set_cons_zero, List.set_cons_succ])
                          refine wpAnyZIn_one (i := 22) rfl (by kernel_rfl) rfl (fun K hK => ?_)
                          refine step_appIn (.tmp 105) (.tmp 125) _ _ rfl (.slice T cl.length c) (.slice (some ⟨wr.drew.heap.size, 0, none⟩) 1 1) (.slice T3 (cl.length + 1) c3) (by go_simp) (by go_simp) HRUN.out ?_
                          refine hK.out _ _ (.inr HS3.out) ?_
                          clear hK K
                          (try simp only [Act.put, List.setIfInBounds_toArray, List.set_cons_zero, List.set_cons_succ])
                          refine wpAnyZIn_take (i := 23) (v := ?v23c) rfl (by kernel_rfl) (by kernel_rfl) (by kernel_rfl) (by kernel_rfl) (by kernel_rfl) (by kernel_rfl) (fun _ _ _ h => h) (yieldsZ_of (fun _ h => (by cases h)) (by rfl) ?hy23c) HS3.out ?rest23c
                          case hy23c => (intro w' hw'; obtain ⟨hb, h1, h2, h3, h4, h5, h6⟩ := hw'; obtain ⟨-, -, -, hpp, -, -⟩ := HV.out w' hb; go_simp; (try with_reducible rfl))
                          (try simp only [Act.put, List.setIfInBounds_toArray, List.set_cons_zero, List.set_cons_succ])
                          refine wpAnyZIn_one (i := 24) rfl (by kernel_rfl) rfl (fun K hK => ?_)
                          have q44 := HS3.out.2.1
                          go_simp
                          refine hK.out _ _ (.inl rfl) ?_
                          clear hK K
                          refine wpAnyZIn_done (by kernel_rfl) (noPanic_normal ?_) _
                          clear hs33
                          gi_wp2
                          go_roundw
                          case rel => exact ⟨z + 1, _, HX.out, by go_num, by show AuN (V + 5) (V + 5) (3 * a.st * b.st) a.le (pairFs a b) (pairGs k) (curP a b x pre s y pre2 t (z + 1)) fv (.slice (some ⟨V + 6, 0, none⟩) (3 * k) (3 * k)) _ _; rw [HTR.out]; exact HN3.out, HO3.out⟩
                          case measure => simp [intOf]; have := HX.out; omega
                        · have hst1' : (s.l == t.l) = false := by simp [hst]
                          have HN3 : Hid (AuN (V + 5) (V + 5) (3 * a.st * b.st) a.le (pairFs a b) (pairGs k) (curP a b x pre s y pre2 t (z + 1)) fv (.slice (some ⟨V + 6, 0, none⟩) (3 * k) (3 * k)) sz wr) := by
                            have := HNz.out
                            show AuN (V + 5) (V + 5) (3 * a.st * b.st) a.le (pairFs a b) (pairGs k) (curP a b x pre s y pre2 t (z + 1)) fv (.slice (some ⟨V + 6, 0, none⟩) (3 * k) (3 * k)) sz wr
                            unfold curP at *
                            rw [triTo_no hst] at *
                            exact this
                          have HX := Lib.hid hz3
                          clear hst
                          gi_wp2
                          go_roundw
                          case rel => exact ⟨z + 1, sz, HX.out, by go_num, HN3.out, HOz.out⟩
                          case measure => simp [intOf]; have := HX.out; omega
                      · have q3 : ¬ (z : Int) < 3 := by omega
                        obtain rfl : z = 3 := by omega
                        have HF : Hid (KeepsFrom w9.heap.size W'' wr ∧ KpO V [w9.heap.size] [V + 5] W'' wr ∧ (∃ sv, Hid (AuN (V + 5) (V + 5) (3 * a.st * b.st) a.le (pairFs a b) (pairGs k) (rX a b x ++ (rS a b pre ++ (rY a b s y ++ rT a b s (pre2 ++ [t])))) fv (.slice (some ⟨V + 6, 0, none⟩) (3 * k) (3 * k)) sv wr)) ∧ Hid (Off V [] [V + 5] w9 wr)) :=
                          ⟨HOz.out.keeps HO2.out.sane (fun k hk => by cases hk) (fun k hk => by rw [List.mem_singleton.1 hk]; exact hGw9), fun hs => HOz.out.cons (by omega) (hs.bad _ (.inl (List.mem_cons_self ..))).2, ⟨sz, by
                            show AuN (V + 5) (V + 5) (3 * a.st * b.st) a.le (pairFs a b) (pairGs k) (rX a b x ++ (rS a b pre ++ (rY a b s y ++ rT a b s (pre2 ++ [t])))) fv (.slice (some ⟨V + 6, 0, none⟩) (3 * k) (3 * k)) sz wr
                            rw [rT_snoc]
                            exact HNz.out⟩, HO2.out.trans HOz.out⟩
                        clear hs1 ht1
                        gi_wp2
                        exact HF.out
                  case done2 =>
                    rintro W'' ⟨⟨sv2, HN2⟩, HO2⟩
                    have HN3 : Hid (AuN (V + 5) (V + 5) (3 * a.st * b.st) a.le (pairFs a b) (pairGs k) (rX a b x ++ (rS a b pre ++ rY a b s (y + 1))) fv (.slice (some ⟨V + 6, 0, none⟩) (3 * k) (3 * k)) sv2 W'') := by
                      have := HN2.out
                      rwa [show rY a b s y ++ rT a b s (stepsFrom b (y : Int)) = rY a b s (y + 1) from (rY_succ a b s y).symm] at this
                    have HO3 := Lib.hid (HO9.out.trans HO2.out)
                    have HX := Lib.hid hyb
                    clear HN2 HO2
                    gi_wp2
                    go_roundw
                    case rel => exact ⟨y + 1, sv2, HX.out, by go_num, HN3.out, HO3.out⟩
                    case measure => simp [intOf]; have := HX.out; omega
                  case stop2 => exact fun _ _ _ _ h => h.elim
                · have q2 : ¬ (y : Int) < b.st := by have := HNB.out; omega
                  obtain rfl : y = NB := by omega
                  have HF : Hid (KeepsFrom w8.heap.size W' wr ∧ KpO V [w8.heap.size + 1] [V + 5] W' wr ∧ (∃ sv, Hid (AuN (V + 5) (V + 5) (3 * a.st * b.st) a.le (pairFs a b) (pairGs k) (rX a b x ++ rS a b (pre ++ [s])) fv (.slice (some ⟨V + 6, 0, none⟩) (3 * k) (3 * k)) sv wr)) ∧ Hid (Off V [] [V + 5] w8 wr)) :=
                    ⟨HOr.out.keeps HO'.out.sane (fun k hk => by cases hk) (fun k hk => by rw [List.mem_singleton.1 hk]; exact hG8), fun hs => HOr.out.cons (by have := HPW.out.size; omega) (hs.bad _ (.inl (List.mem_cons_self ..))).2, ⟨sw, by
                      show AuN (V + 5) (V + 5) (3 * a.st * b.st) a.le (pairFs a b) (pairGs k) (rX a b x ++ rS a b (pre ++ [s])) fv (.slice (some ⟨V + 6, 0, none⟩) (3 * k) (3 * k)) sw wr
                      rw [rS_snoc, show b.st.toNat = y by have := HNB.out; omega]
                      exact HNr.out⟩, HO'.out.trans HOr.out⟩
                  gi_wp2
                  exact HF.out
            case done =>
              rintro Dm W' hDm ⟨⟨sv', HN'⟩, HO'⟩ hD
              have HN3 : Hid (AuN (V + 5) (V + 5) (3 * a.st * b.st) a.le (pairFs a b) (pairGs k) (rX a b (x + 1)) fv (.slice (some ⟨V + 6, 0, none⟩) (3 * k) (3 * k)) sv' W') := by
                have := HN'.out
                rwa [show rX a b x ++ rS a b (stepsFrom a (x : Int)) = rX a b (x + 1) from (rX_succ a b x).symm] at this
              have HO3 := Lib.hid (HO8.out.trans HO'.out)
              have HMK3 : Hid (MarksO V [] [V + 5] W' ({ target := .collected Dm, args := #[] } :: ds)) := by
                have hgd := HN'.out.good_obj (lo := V) hD rfl
                obtain ⟨Ds, rfl, h2, h3⟩ := HMK8.out
                refine ⟨Dm :: Ds, rfl, List.nodup_cons.2 ⟨fun hm => ?_, h2⟩, fun D' hm => ?_⟩
                · have := (h3 Dm hm).2.1.lt
                  omega
                · rcases List.mem_cons.1 hm with rfl | hm
                  · exact ⟨by omega, hgd, hD⟩
                  · obtain ⟨a1, a2, a3⟩ := h3 D' hm
                    exact ⟨a1, a2.off HO'.out, (HO'.out.block D' a2.lt a2.not).trans a3⟩
              have HX := Lib.hid hx
              clear HN' HO' HN8 HO8 hD hDm
              gi_wp2
              exact ⟨n - 1, by have := HX.out; omega, x + 1, _, sv', _, _, _, _, _, _, _, _, by have := HX.out; omega, FrP.mk rfl, HN3.out, HO3.out, HMK3.out⟩
            case stop => exact fun _ _ _ _ _ _ h => h.elim
          · have q1 : ¬ (x : Int) < a.st := by have := HNA.out; omega
            obtain rfl : x = NA := by omega
            obtain ⟨rw, hrw⟩ : ∃ l, l = rawP a b := ⟨_, rfl⟩
            have HRX : Hid (rX a b x = rw) := by show _ = _; rw [hrw]; unfold rawP; rw [HNA.out]; rfl
            have HRW := Lib.hid hrw
            have hrl : rw.length ≤ 100000000 := by rw [hrw]; exact Nat.le_trans (raw_len a b) hsn
            rw [HRX.out] at HN
            obtain ⟨_, _, _, _, g4, _⟩ := obj5 HN.out.obj
            have HSC : Hid (Calls Tryz.prog 93 _ wq _) := SortS_ wq (V + 5) sv rw HN.out.s (by omega)
            clear c0 c1 c2 c3 c4 hrw
            gi_wp2
            refine ⟨trivial, ?_⟩
            refine (callsIn_wide.2 HSC.out).mono ?_
            rintro e ws ⟨rfl, hown, hgs⟩
            have HNs := Lib.hid (HN.out.reS hown hgs)
            have HBs : Hid (Below (V + 5) W7 ws) := HBW.out.grown hgs (by have := HN.out.lt; omega) (fun k hk => (HN.out.s.lt k hk).1)
            have HMs : Hid (MarksO V [] [V + 5] ws ds) := by
              obtain ⟨Ds, h1, h2, h3⟩ := HMK.out
              refine ⟨Ds, h1, h2, fun D hD => ?_⟩
              obtain ⟨a1, a2, a3⟩ := h3 D hD
              have e := (hgs.block D a2.lt (fun e => a2.not (HN.out.bad.2 (.inr (.inr (.inr (.inr e.symm))))))).trans a3
              exact ⟨a1, HNs.out.good_obj e rfl, e⟩
            obtain ⟨_, _, _, _, g4', _⟩ := obj5 HNs.out.obj
            have HCC : Hid (Calls Tryz.prog 94 _ ws _) := CompactS_ ws (V + 5) sv (sortS rw) HNs.out.s (by rw [sortS_len]; omega)
            clear hown hgs g4 HMK HN HBW HSC
            gi_wp2
            refine ⟨trivial, ?_⟩
            refine (callsIn_wide.2 HCC.out).mono ?_
            rintro e wc ⟨vc, rfl, hown, hgs, hvb⟩
            obtain ⟨TC, cC, rfl, _, _, _⟩ := own_form hown
            obtain ⟨hNc, hob⟩ := HNs.out.putS2 hown hgs
            have hfl3 : (pairFs a b).length ≤ 1000000 := by
              rw [← fsTo_all, fsTo_len a b _ (Nat.le_refl _)]
              have h1 := HFA.out.fs_le
              have h2 := HFB.out.fs_le
              rw [HNA.out] at h1
              rw [HNB.out] at h2
              have := HMM.out
              have : a.fs.length * b.fs.length ≤ x * NB := Nat.mul_le_mul (by omega) (by omega)
              omega
            have hdl : (dd (sortS rw)).length ≤ 100000000 := Nat.le_trans (ddTo_len _ _) (by rw [sortS_len]; exact hrl)
            obtain ⟨A', B', C', ca', cb', cc', rfl, hgv, hsv, hrd⟩ := hNc.rd (by omega) (by simp [pairGs]; omega) (by omega)
            simp only [Value.slice.injEq] at hgv hsv
            obtain ⟨rfl, hgl, rfl⟩ := hgv
            obtain ⟨rfl, _, rfl⟩ := hsv
            have HNc := Lib.hid hNc
            have HBc : Hid (Below (V + 5) W7 (wc.setCell ⟨V + 5, 4, none⟩ (.slice TC (dd (sortS rw)).length cC))) := (HBs.out.grown hgs (by have := HNs.out.lt; omega) (fun k hk => (HNs.out.s.lt k hk).1)).setCell (p := ⟨V + 5, 4, none⟩) (Nat.le_refl _) _
            have HMc : Hid (MarksO V [] [V + 5] (wc.setCell ⟨V + 5, 4, none⟩ (.slice TC (dd (sortS rw)).length cC)) ds) := by
              obtain ⟨Ds, h1, h2, h3⟩ := HMs.out
              refine ⟨Ds, h1, h2, fun D hD => ?_⟩
              obtain ⟨a1, a2, a3⟩ := h3 D hD
              have hne : D ≠ V + 5 := fun e => a2.not (HNs.out.bad.2 (.inr (.inl e)))
              have e := (Below.heap_setCell wc ⟨V + 5, 4, none⟩ (.slice TC (dd (sortS rw)).length cC) D hne).trans ((hgs.block D a2.lt (fun e => a2.not (HNs.out.bad.2 (.inr (.inr (.inr (.inr e.symm))))))).trans a3)
              exact ⟨a1, HNc.out.good_obj e rfl, e⟩
            obtain ⟨e0, e1, e2, e3, e4, e5, e6, e7, e8, e9⟩ := obj5 hob
            obtain ⟨n0, n1, n2, n3, n4, _⟩ := obj5 hNc.obj
            have HRS : Hid ((wc.setCell ⟨V + 5, 4, none⟩ (.slice TC (dd (sortS rw)).length cC)).heap[V + 2]? = some (.cells #[.int .i64 0, .int .i64 0, .slice none 0 0, .slice none 0 0, .slice none 0 0] 26 (0, 0))) := (HBc.out.block (V + 2) (by omega)).trans HPW.out.res
            obtain ⟨s0, s1, s2, s3, s4, t0, t1, t2, t3, t4⟩ := obj5 HRS.out
            have HFI : Hid (∀ W, W = set5 (wc.setCell ⟨V + 5, 4, none⟩ (.slice TC (dd (sortS rw)).length cC)) (V + 2) (.int .i64 (3 * a.st * b.st)) (.int .i64 a.le) (.slice A' (pairFs a b).length ca') (.slice (some ⟨V + 6, 0, none⟩) (3 * k) (3 * k)) (.slice TC (dd (sortS rw)).length cC) →
                AuN (V + 5) (V + 5) (3 * a.st * b.st) a.le (pairFs a b) (pairGs k) (dd (sortS rw)) (.slice A' (pairFs a b).length ca') (.slice (some ⟨V + 6, 0, none⟩) (3 * k) (3 * k)) (.slice TC (dd (sortS rw)).length cC) W ∧
                W.heap[V + 2]? = some (.cells #[.int .i64 (3 * a.st * b.st), .int .i64 a.le, .slice A' (pairFs a b).length ca', .slice (some ⟨V + 6, 0, none⟩) (3 * k) (3 * k), .slice TC (dd (sortS rw)).length cC] 26 (0, 0)) ∧ Below w.heap.size w W ∧ MarksO V [] [V + 5] W ds) := fun W hW => by
              subst hW
              have hs7 := HPW.out.size
              have hv := HPW.out.v
              have hbw : Below w.heap.size w (wc.setCell ⟨V + 5, 4, none⟩ (.slice TC (dd (sortS rw)).length cC)) := HPW.out.below.trans (HBc.out.mono (by omega))
              have hfar : ∀ j, j ≠ V + 2 → (set5 (wc.setCell ⟨V + 5, 4, none⟩ (.slice TC (dd (sortS rw)).length cC)) (V + 2) (.int .i64 (3 * a.st * b.st)) (.int .i64 a.le) (.slice A' (pairFs a b).length ca') (.slice (some ⟨V + 6, 0, none⟩) (3 * k) (3 * k)) (.slice TC (dd (sortS rw)).length cC)).heap[j]? = (wc.setCell ⟨V + 5, 4, none⟩ (.slice TC (dd (sortS rw)).length cC)).heap[j]? := fun j hj => set5_far _ _ _ _ _ _ _ hj
              have hg2 : (wc.setCell ⟨V + 5, 4, none⟩ (.slice TC (dd (sortS rw)).length cC)).grownBy (set5 (wc.setCell ⟨V + 5, 4, none⟩ (.slice TC (dd (sortS rw)).length cC)) (V + 2) (.int .i64 (3 * a.st * b.st)) (.int .i64 a.le) (.slice A' (pairFs a b).length ca') (.slice (some ⟨V + 6, 0, none⟩) (3 * k) (3 * k)) (.slice TC (dd (sortS rw)).length cC)) (some (V + 2)) :=
                ⟨rfl, rfl, rfl, Nat.le_of_eq (set5_size _ _ _ _ _ _ _).symm, fun j _ hj => hfar j (fun e => hj (by rw [e]))⟩
              have kp : ∀ {v : Value} {e : TypeId} {sz n : Nat} {xs : List Value}, (wc.setCell ⟨V + 5, 4, none⟩ (.slice TC (dd (sortS rw)).length cC)).ownsRow (V + 5) e sz v n xs → (set5 (wc.setCell ⟨V + 5, 4, none⟩ (.slice TC (dd (sortS rw)).length cC)) (V + 2) (.int .i64 (3 * a.st * b.st)) (.int .i64 a.le) (.slice A' (pairFs a b).length ca') (.slice (some ⟨V + 6, 0, none⟩) (3 * k) (3 * k)) (.slice TC (dd (sortS rw)).length cC)).ownsRow (V + 5) e sz v n xs := fun {v e sz n xs} ho => by
                refine World.ownsRow.kept ho hg2 ?_
                cases hvo : v.ownBlock with
                | none => exact .inl rfl
                | some r => exact .inr (fun e => by have := (ho.lt r hvo).1; have := Option.some.inj e; omega)
              refine ⟨⟨HNc.out.lo, (hfar (V + 5) (by omega)).trans HNc.out.obj, kp HNc.out.f, kp HNc.out.g, kp HNc.out.s⟩, set5_heap HRS.out _ _ _ _ _, below_set5 hbw (by omega) _ _ _ _ _, ?_⟩
              obtain ⟨Ds, h1, h2, h3⟩ := HMc.out
              refine ⟨Ds, h1, h2, fun D hD => ?_⟩
              obtain ⟨a1, a2, a3⟩ := h3 D hD
              have hne : D ≠ V + 2 := fun e => by
                have h4 := HRS.out
                rw [← e, a3] at h4
                cases h4
              have e := (hfar D hne).trans a3
              have hAU : AuN (V + 5) (V + 5) (3 * a.st * b.st) a.le (pairFs a b) (pairGs k) (dd (sortS rw)) (.slice A' (pairFs a b).length ca') (.slice (some ⟨V + 6, 0, none⟩) (3 * k) (3 * k)) (.slice TC (dd (sortS rw)).length cC) _ := ⟨HNc.out.lo, (hfar (V + 5) (by omega)).trans HNc.out.obj, kp HNc.out.f, kp HNc.out.g, kp HNc.out.s⟩
              exact ⟨a1, hAU.good_obj e rfl, e⟩
            unfold set5 at HFI
            have HFS3 := Lib.hid hfl3
            have HDL := Lib.hid hdl
            have HPO : Hid ((⟨3 * a.st * b.st, a.le, pairFs a b, pairGs k, dd (sortS rw)⟩ : Au) = pairOf a b (dd (sortS (rawP a b)))) := by
              show _ = _
              unfold pairOf
              rw [HRW.out, HNA.out, HNB.out]
              simp only [Int.toNat_natCast]
              rw [HMM.out]
            clear hNc hown hgs hvb HCC g4' HMs HBs HNs hrd hgl hfl3 hdl HMc HRS HBc
            gi_wp2
            obtain ⟨hau, hres, hbw, hmk⟩ := HFI.out _ rfl
            refine leaves_marks (v := undef) (B := V) (I := fun _ W => AuN (V + 5) (V + 5) (3 * a.st * b.st) a.le (pairFs a b) (pairGs k) (dd (sortS rw)) (.slice A' (pairFs a b).length ca') (.slice (some ⟨V + 6, 0, none⟩) (3 * k) (3 * k)) (.slice TC (dd (sortS rw)).length cC) W ∧
                W.heap[V + 2]? = some (.cells #[.int .i64 (3 * a.st * b.st), .int .i64 a.le, .slice A' (pairFs a b).length ca', .slice (some ⟨V + 6, 0, none⟩) (3 * k) (3 * k), .slice TC (dd (sortS rw)).length cC] 26 (0, 0)) ∧ Below w.heap.size w W) ?_ ?_ ds _ hmk.marks ⟨hau, hres, hbw⟩
            · rintro _ P' Q' row ⟨i1, i2, i3⟩ hg hr
              refine ⟨i1.own hg (fun r h => (hr r h).2), (hg.block (V + 2) (Array.getElem?_eq_some_iff.1 i2).1 (fun e => ?_)).trans i2, i3.grown hg i3.size (fun k hk => by have := (hr k hk).1; have := HPW.out.v; omega)⟩
              obtain ⟨_, o', h4, h5⟩ := hr _ e.symm
              rw [i2] at h4
              rw [← Option.some.inj h4] at h5
              cases h5
            · rintro W ⟨i1, i2, i3⟩
              obtain ⟨A2, B2, C2, ca2, cb2, cc2, r1, r2, r3, hrd⟩ := i1.rd (by have := HFS3.out; omega) (by simp [pairGs]; omega) (by have := HDL.out; omega)
              simp only [Value.slice.injEq] at r1 r2 r3
              obtain ⟨rfl, _, rfl⟩ := r1
              obtain ⟨rfl, hgl2, rfl⟩ := r2
              obtain ⟨rfl, _, rfl⟩ := r3
              refine ⟨_, retA1 Tryz.results50 _ _ (V + 2) rfl i2, ?_⟩
              rw [← HPO.out]
              exact ⟨A', some ⟨V + 6, 0, none⟩, TC, ca', 3 * k, cC, by rw [show (pairGs k).length = 3 * k from hgl2.symm], hrd.low (by have := HPW.out.v; omega), i3⟩
end Go.Proofs.YtoglgeaiiipchabGreatDoor
