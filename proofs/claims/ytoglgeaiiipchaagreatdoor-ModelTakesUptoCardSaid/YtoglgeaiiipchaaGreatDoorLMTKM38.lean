import Derived.Test.YtoglgeaiiipchaaGreatDoorLMTKM37
import Derived.Test.YtoglgeaiiipchaaGreatDoorLMTKM27
import Derived.Test.YtoglgeaiiipchaaGreatDoorLMTKM24
import Derived.Test.YtoglgeaiiipchaaGreatDoorLMTKM3
import Derived.Test.YtoglgeaiiipchaaGreatDoorLMTKM26
import Derived.Deep.RegionLaw
import Derived.Deep.CutBlock
import Derived.Deep.DeepCutAuto
import Derived.Test.YtoglgeaiiipchaaGreatDoorLMTKM2
set_option linter.unusedSimpArgs false
set_option linter.unusedVariables false
namespace Go.Proofs.YtoglgeaiiipchaaGreatDoor
open Go Go.RowKit Go.Sort Go.Shelf
theorem nodes_row {W : World} {b : Nat} {f : List Nd} (h : W.heap[b]? = some (.cells (f.flatMap Nd.cells).toArray 63 (0, 0))) (hl : f.length ≤ 1000) : Nds W 0 (some ⟨b, 0, none⟩) f.length f :=
  ⟨Nat.le_refl _, by omega, by omega, fun _ => ⟨b, 0, rfl, Nat.zero_le _, (Array.getElem?_eq_some_iff.1 h).1, fun j u hj => by
    rw [Nat.zero_add]
    simp only [World.cell?, h]
    simpa using hj⟩⟩
theorem prN (W : World) : Nds (W.alloc (Obj.cells #[.int .i64 2, .int .i64 0, .int .i64 0, .int .i64 0] 63)) 0 (some ⟨W.heap.size, 0, none⟩) 1 prF := nodes_row (f := prF) (World.alloc_heap_new W _) (by decide)
theorem noN (W : World) : Nds (W.alloc (Obj.cells #[.int .i64 2, .int .i64 0, .int .i64 0, .int .i64 0, .int .i64 3, .int .i64 0, .int .i64 0, .int .i64 0] 63)) 0 (some ⟨W.heap.size, 0, none⟩) 2 noF := nodes_row (f := noF) (World.alloc_heap_new W _) (by decide)
set_option maxRecDepth 100000 in
set_option maxHeartbeats 8000000 in
theorem modelBegun_ (w : World) : Calls Tryz.prog 7 #[] w (BoolPost w true) := by
  go_enter Tryz.func7, Tryz.ntmps7
  go_wp2_with fail
  refine (small_ _).mono ?_
  rintro e w1 ⟨A1, B1, C1, vs1, rfl, hr1, hb1⟩
  have HR1 := Lib.hid hr1
  have HB1 := Lib.hid hb1
  clear hr1 hb1
  go_wp2_with fail
  refine (SmAuto_ _ _ _ _ _ HR1.out).mono ?_
  rintro e w2 ⟨st, A2, B2, C2, n1, n2, n3, ca, cb, cc, rfl, hb2⟩
  have hba : Below w2.heap.size w2 (w2.alloc (Obj.cells #[.int .i64 st, .int .i64 8, .slice A2 n1 ca, .slice B2 n2 cb, .slice C2 n3 cc] 31)) := (Below.refl _ _).alloc (Nat.le_refl _) _
  have HX := Lib.hid (World.alloc_heap_new w2 (Obj.cells #[.int .i64 st, .int .i64 8, .slice A2 n1 ca, .slice B2 n2 cb, .slice C2 n3 cc] 31))
  have HB2 := Lib.hid (Below_on (Below_on HB1.out hb2 HB1.out.size) hba (Nat.le_trans HB1.out.size hb2.size))
  clear hb2 hba HR1 HB1
  go_upto_region 2 with fail
  obtain ⟨X, hX⟩ : ∃ X, X = w2.heap.size := ⟨_, rfl⟩
  rw [← hX] at HX ⊢
  clear hX
  generalize w2.alloc (Obj.cells #[.int .i64 st, .int .i64 8, .slice A2 n1 ca, .slice B2 n2 cb, .slice C2 n3 cc] 31) = W2 at *
  go_wp2_with fail
  refine (small_ _).mono ?_
  rintro e w3 ⟨A3, B3, C3, vs3, rfl, hr3, hb3⟩
  have hba : Below w3.heap.size w3 (w3.alloc (Obj.cells #[.int .i64 2, .int .i64 0, .int .i64 0, .int .i64 0] 63)) := (Below.refl _ _).alloc (Nat.le_refl _) _
  have HR3 := Lib.hid (hr3.below hba)
  have HF3 := Lib.hid (prN w3)
  have HB3 := Lib.hid (Below_on hb3 hba hb3.size)
  clear hr3 hb3 hba
  go_wp2_with fail
  refine (SmPr_ _ _ _ _ _ _ _ HR3.out HF3.out).mono ?_
  rintro e w4 ⟨H4, L4, hn4, ch4, ln4, cl4, rfl, hb4⟩
  have hba : Below w4.heap.size w4 (w4.alloc (Obj.cells #[.slice H4 hn4 ch4, .slice L4 ln4 cl4] 27)) := (Below.refl _ _).alloc (Nat.le_refl _) _
  have HB4 := Lib.hid (Below_on (Below_on HB3.out hb4 HB3.out.size) hba (Nat.le_trans HB3.out.size hb4.size))
  clear hb4 hba HR3 HF3 HB3
  go_upto_region 3 with fail
  generalize w4.alloc (Obj.cells #[.slice H4 hn4 ch4, .slice L4 ln4 cl4] 27) = W4 at *
  go_wp2_with fail
  refine (small_ _).mono ?_
  rintro e w5 ⟨A5, B5, C5, vs5, rfl, hr5, hb5⟩
  have hba : Below w5.heap.size w5 (w5.alloc (Obj.cells #[.int .i64 2, .int .i64 0, .int .i64 0, .int .i64 0, .int .i64 3, .int .i64 0, .int .i64 0, .int .i64 0] 63)) := (Below.refl _ _).alloc (Nat.le_refl _) _
  have HR5 := Lib.hid (hr5.below hba)
  have HF5 := Lib.hid (noN w5)
  have HB5 := Lib.hid (Below_on (Below_on HB4.out hb5 HB4.out.size) hba (Nat.le_trans HB4.out.size hb5.size))
  clear hr5 hb5 hba HB4
  go_wp2_with fail
  refine (SmNo_ _ _ _ _ _ _ _ HR5.out HF5.out).mono ?_
  rintro e w6 ⟨H6, L6, hn6, ch6, ln6, cl6, rfl, hp6, hb6⟩
  have hba : Below w6.heap.size w6 (w6.alloc (Obj.cells #[.slice H6 hn6 ch6, .slice L6 ln6 cl6] 27)) := (Below.refl _ _).alloc (Nat.le_refl _) _
  have HZ := Lib.hid (World.alloc_heap_new w6 (Obj.cells #[.slice H6 hn6 ch6, .slice L6 ln6 cl6] 27))
  have HB6 := Lib.hid (Below_on (Below_on HB5.out hb6 HB5.out.size) hba (Nat.le_trans HB5.out.size hb6.size))
  have HP6 := Lib.hid hp6
  clear hb6 hba hp6 HR5 HF5 HB5
  go_upto_region 4 with fail
  obtain ⟨Z, hZ⟩ : ∃ Z, Z = w6.heap.size := ⟨_, rfl⟩
  rw [← hZ] at HZ ⊢
  clear hZ
  generalize w6.alloc (Obj.cells #[.slice H6 hn6 ch6, .slice L6 ln6 cl6] 27) = W6 at *
  go_wp2_with fail
  refine (small_ _).mono ?_
  rintro e w7 ⟨A7, B7, C7, vs7, rfl, hr7, hb7⟩
  have HR7 := Lib.hid hr7
  have HB7 := Lib.hid hb7
  clear hr7 hb7
  go_wp2_with fail
  refine (SmAsk_ _ _ _ _ _ HR7.out).mono ?_
  rintro e w8 ⟨rfl, hb8⟩
  have HB8 := Lib.hid (Below_on HB7.out hb8 HB7.out.size)
  clear hb8 HR7 HB7
  go_wp2_with fail
  refine (small_ _).mono ?_
  rintro e w9 ⟨A9, B9, C9, vs9, rfl, hr9, hb9⟩
  have HR9 := Lib.hid hr9
  have HB9 := Lib.hid (Below_on HB8.out hb9 HB8.out.size)
  clear hr9 hb9 HB8
  go_wp2_with fail
  refine (SmCheck_ _ _ _ _ _ HR9.out).mono ?_
  rintro e w10 ⟨rfl, hb10⟩
  have HB10 := Lib.hid (Below_on HB9.out hb10 HB9.out.size)
  have hz := (HB10.out.block Z (Array.getElem?_eq_some_iff.1 HZ.out).1).trans HZ.out
  have hx4 := (HB6.out.block X (Array.getElem?_eq_some_iff.1 HX.out).1).trans HX.out
  have hx := (HB10.out.block X (Array.getElem?_eq_some_iff.1 hx4).1).trans hx4
  obtain ⟨x0, x1, x2, x3, x4, _⟩ := obj5 hx
  obtain ⟨z0, z1, _, _⟩ := moh_cells hz
  have HP : Hid (BoolPost w true (.returned (.bool true)) w10) := ⟨rfl, Below_on (Below_on HB2.out HB6.out HB2.out.size) HB10.out (Nat.le_trans HB2.out.size HB6.out.size)⟩
  have hp6 := HP6.out
  clear hb10 hz hx4 hx HR9 HB9 HB10 HP6
  go_wp2_with fail
  go_ret
  exact HP.out
end Go.Proofs.YtoglgeaiiipchaaGreatDoor

namespace Go.Proofs.YtoglgeaiiipchaaGreatDoor
open Go Go.RowKit Go.Sort
theorem heap_new (w : World) (o : Obj) : (w.alloc o).heap[w.heap.size]? = some o := by
  show (w.heap.push _)[w.heap.size]? = _
  simp
structure BSet (n : Nat) (xs : List Bool) (P : Nat → Prop) : Prop where
  l : xs.length = n
  is : ∀ q, q < n → (xs.getD q false = true ↔ P q)
theorem BSet.iff {n : Nat} {xs : List Bool} {P Q : Nat → Prop} (h : BSet n xs P) (hq : ∀ q, q < n → (P q ↔ Q q)) : BSet n xs Q := ⟨h.l, fun q hl => (h.is q hl).trans (hq q hl)⟩
theorem BSet.put {n : Nat} {xs : List Bool} {P : Nat → Prop} (h : BSet n xs P) {q0 : Nat} (h0 : q0 < n) : BSet n (xs.set q0 true) (fun q => P q ∨ q = q0) := by
  refine ⟨by rw [List.length_set]; exact h.l, fun q hq => ?_⟩
  have hl := h.l
  by_cases e : q = q0
  · subst e
    rw [List.getD_eq_getElem?_getD, List.getElem?_set_self (by omega)]
    simp
  · rw [List.getD_eq_getElem?_getD, List.getElem?_set_ne (fun h => e h.symm), ← List.getD_eq_getElem?_getD, h.is q hq]
    constructor
    · exact fun h => .inl h
    · rintro (h | h)
      · exact h
      · exact absurd h e
theorem BSet.none_ (n : Nat) : BSet n (List.replicate n false) (fun _ => False) := ⟨List.length_replicate, fun q hq => by rw [List.getD_eq_getElem?_getD, List.getElem?_replicate]; simp [hq]⟩
theorem take_mem1 {xs : List Int} {k : Nat} (hk : k < xs.length) (x : Int) : x ∈ xs.take (k + 1) ↔ x ∈ xs.take k ∨ x = xs[k] := by
  rw [List.take_succ_eq_append_getElem hk, List.mem_append, List.mem_singleton]
def AnyTo (m : Mo) (xs : List Bool) (c : Int) (i : Nat) : Prop := ∃ p, p < i ∧ xs.getD p false = true ∧ m.ls.getD p 0 = c
def NxTo (m : Mo) (xs : List Bool) (c : Int) (i : Nat) (q : Nat) : Prop := ∃ p, p < i ∧ (xs.getD p false = true ∧ m.ls.getD p 0 = c) ∧ (q : Int) ∈ m.ss.getD p []
theorem AnyTo.succ {m : Mo} {xs : List Bool} {c : Int} {i : Nat} : AnyTo m xs c (i + 1) ↔ AnyTo m xs c i ∨ (xs.getD i false = true ∧ m.ls.getD i 0 = c) := by
  constructor
  · rintro ⟨p, hp, h⟩
    rcases Nat.lt_or_ge p i with h1 | h1
    · exact .inl ⟨p, h1, h⟩
    · obtain rfl : p = i := by omega
      exact .inr h
  · rintro (⟨p, hp, h⟩ | h)
    · exact ⟨p, by omega, h⟩
    · exact ⟨i, by omega, h⟩
theorem NxTo.succ {m : Mo} {xs : List Bool} {c : Int} {i q : Nat} : NxTo m xs c (i + 1) q ↔ NxTo m xs c i q ∨ ((xs.getD i false = true ∧ m.ls.getD i 0 = c) ∧ (q : Int) ∈ m.ss.getD i []) := by
  constructor
  · rintro ⟨p, hp, h⟩
    rcases Nat.lt_or_ge p i with h1 | h1
    · exact .inl ⟨p, h1, h⟩
    · obtain rfl : p = i := by omega
      exact .inr h
  · rintro (⟨p, hp, h⟩ | h)
    · exact ⟨p, by omega, h⟩
    · exact ⟨i, by omega, h⟩
theorem goes_any {m : Mo} (hm : MoOK m) {u : Nat → Int} {k : Nat} {xs : List Bool} (hx : BSet m.ls.length xs fun q => MoIn m u k (q : Int)) : AnyTo m xs (u k) m.ls.length ↔ ∃ q, MoIn m u k q ∧ m.lab q = u k := by
  constructor
  · rintro ⟨p, hp, h1, h2⟩
    exact ⟨(p : Int), (hx.is p hp).1 h1, by unfold Mo.lab; simpa using h2⟩
  · rintro ⟨q, hq, hl⟩
    obtain ⟨h0, h1⟩ := moIn_range hm hq
    obtain ⟨p, rfl⟩ := Int.eq_ofNat_of_zero_le h0
    exact ⟨p, by omega, (hx.is p (by omega)).2 hq, by unfold Mo.lab at hl; simpa using hl⟩
theorem goes_next {m : Mo} (hm : MoOK m) {u : Nat → Int} {k : Nat} {xs ys : List Bool} (hx : BSet m.ls.length xs fun q => MoIn m u k (q : Int)) (hy : BSet m.ls.length ys (NxTo m xs (u k) m.ls.length)) : BSet m.ls.length ys fun q => MoIn m u (k + 1) (q : Int) := by
  refine hy.iff fun q hq => ?_
  constructor
  · rintro ⟨p, hp, ⟨h1, h2⟩, h3⟩
    exact ⟨(p : Int), (hx.is p hp).1 h1, by unfold Mo.lab; simpa using h2, by unfold Mo.nxt; simpa using h3⟩
  · rintro ⟨p, hp, h2, h3⟩
    obtain ⟨h0, h1⟩ := moIn_range hm hp
    obtain ⟨p, rfl⟩ := Int.eq_ofNat_of_zero_le h0
    exact ⟨p, by omega, ⟨(hx.is p (by omega)).2 hp, by unfold Mo.lab at h2; simpa using h2⟩, by unfold Mo.nxt at h3; simpa using h3⟩
def laMW (w : World) (m : Mo) (A B C : Option Addr) (ca cb cc : Nat) (l : La) (G K : Option Addr) (cg ck : Nat) : World := (moW w m A B C ca cb cc).alloc (Obj.cells #[.slice G l.h.length cg, .slice K l.l.length ck] 27)
structure GoM (m : Mo) (l : La) (A B C G K : Option Addr) (ca cb cc cg ck : Nat) (vs : List RwS) (V : Nat) (w W : World) : Prop where
  below : Below w.heap.size w W
  at_ : MoAt W V m A B C ca cb cc
  l0 : W.cell? ⟨V + 1, 0, none⟩ = some (.slice G l.h.length cg)
  l1 : W.cell? ⟨V + 1, 1, none⟩ = some (.slice K l.l.length ck)
  lt : V + 1 < W.heap.size
  rd : MoRd W 0 m A B C ca cb cc vs
  rg : Ints W 0 G cg l.h
  rk : Ints W 0 K ck l.l
theorem GoM.on {m : Mo} {l : La} {A B C G K : Option Addr} {ca cb cc cg ck : Nat} {vs : List RwS} {V : Nat} {w W W' : World} (h : GoM m l A B C G K ca cb cc cg ck vs V w W) (hb : Below W.heap.size W W') : GoM m l A B C G K ca cb cc cg ck vs V w W' :=
  ⟨Below_on h.below hb h.below.size, h.at_.below hb h.at_.lt, (hb.cell (p := ⟨V + 1, 0, none⟩) h.lt).trans h.l0, (hb.cell (p := ⟨V + 1, 1, none⟩) h.lt).trans h.l1, Nat.lt_of_lt_of_le h.lt hb.size, h.rd.below hb, h.rg.below hb, h.rk.below hb⟩
theorem GoM.start (m : Mo) (l : La) (A B C G K : Option Addr) (ca cb cc cg ck : Nat) (vs : List RwS) (w : World) (hr : MoRd w 0 m A B C ca cb cc vs) (hg : Ints w 0 G cg l.h) (hk : Ints w 0 K ck l.l) : GoM m l A B C G K ca cb cc cg ck vs w.heap.size w (laMW w m A B C ca cb cc l G K cg ck) := by
  have HW := moW_is w m A B C ca cb cc
  have hal : Below (moW w m A B C ca cb cc).heap.size (moW w m A B C ca cb cc) (laMW w m A B C ca cb cc l G K cg ck) := (Below.refl _ _).alloc (Nat.le_refl _) _
  have hb := Below_on HW.below hal HW.below.size
  have hn : (laMW w m A B C ca cb cc l G K cg ck).heap[(moW w m A B C ca cb cc).heap.size]? = _ := heap_new _ _
  rw [HW.size] at hn
  refine ⟨hb, HW.at_.below hal HW.at_.lt, ?_, ?_, (Array.getElem?_eq_some_iff.1 hn).1, hr.below hb, hg.below hb, hk.below hb⟩ <;> simp [World.cell?, hn]
def GoPost (m : Mo) (l : La) (w : World) (e : Ending) (w' : World) : Prop := ∃ b : Bool, e = .returned (.bool b) ∧ (b = true ↔ MoGoes m l) ∧ Below w.heap.size w w'
set_option maxRecDepth 100000 in
set_option maxHeartbeats 8000000 in
theorem GoesBy_ (m : Mo) (hm : MoOK m) (l : La) (hp : 0 < l.l.length) (h4 : l.h.length ≤ 4000) (l4 : l.l.length ≤ 4000) (A B C G K : Option Addr) (ca cb cc cg ck : Nat) (vs : List RwS) (w : World) (hr : MoRd w 0 m A B C ca cb cc vs) (hg : Ints w 0 G cg l.h) (hk : Ints w 0 K ck l.l) :
    Calls Tryz.prog 12 #[.agg #[.int .i64 m.pr, .slice A m.ls.length ca, .slice B m.fs.length cb, .slice C m.ss.length cc], .agg #[.slice G l.h.length cg, .slice K l.l.length ck]] w (GoPost m l w) := by
  have HS := GoM.start m l A B C G K ca cb cc cg ck vs w hr hg hk
  have r1 := hr.ls.le
  have r2 := hr.ls.max
  have r3 := hr.fs.le
  have r4 := hr.fs.max
  have r5 := hr.ss.le
  have r6 := hr.ss.max
  rw [hr.len] at r5 r6
  have r7 := hg.le
  have r8 := hg.max
  have r9 := hk.le
  have r10 := hk.max
  have HM := Lib.hid hm
  have hmk := run_makeBools (m.ls.length : Int) m.ls.length rfl (by have := hm.n12; omega)
  have HMK := Lib.hid hmk
  clear hr hg hk hm hmk
  go_enter Tryz.func12, Tryz.ntmps12
  go_upto_region 1 with fail
  change Code.wp _ _ _ _ (laMW w m A B C ca cb cc l G K cg ck)
  generalize laMW w m A B C ca cb cc l G K cg ck = W0 at *
  obtain ⟨V, hV⟩ : ∃ V, V = w.heap.size := ⟨_, rfl⟩
  rw [← hV] at HS ⊢
  have HVV := Lib.hid hV
  clear hV
  have HB0 := Lib.hid HS.below
  have HALL : Hid (∀ W, Below W0.heap.size W0 W → GoM m l A B C G K ca cb cc cg ck vs V w W) := fun W hW => HS.on hW
  clear HS
  obtain ⟨_, c0, c1, c2, c3⟩ := (HALL.out _ (Below.refl _ _)).at_
  have hmk := HMK.out
  go_upto_region 3 with fail
  clear hmk c0 c1 c2 c3
  have HN12 := Lib.hid HM.out.n12
  have HN0 := Lib.hid HM.out.n0
  have hb1 : Below W0.heap.size W0 (W0.alloc (Obj.cells (madeCells #[Value.bool false] m.ls.length) 4)) := (Below.refl _ _).alloc (Nat.le_refl _) _
  have HBR := Lib.hid (BRow.new W0 m.ls.length)
  have HB1 := Lib.hid hb1
  obtain ⟨g0, hg0⟩ : ∃ g, g = W0.heap.size := ⟨_, rfl⟩
  have HG0 : Hid (W0.heap.size ≤ g0) := by rw [hg0]; exact Nat.le_refl _
  rw [← hg0] at HBR ⊢
  clear hb1 hg0
  generalize W0.alloc (Obj.cells (madeCells #[Value.bool false] m.ls.length) 4) = W1 at *
  go_wp2_with fail
  go_loopw [7] (fun i wr => ∃ (k : Nat) (xs : List Bool), k ≤ m.fs.length ∧ i = .int .i64 (k : Int) ∧ Hid (Below W0.heap.size W0 wr) ∧ Hid (BRow wr g0 xs) ∧ Hid (BSet m.ls.length xs fun q => (q : Int) ∈ m.fs.take k)) (fun i _ => m.fs.length - (intOf i).toNat)
  case atStart => exact ⟨0, _, Nat.zero_le _, rfl, HB1, HBR, (BSet.none_ _).iff fun q _ => by simp⟩
  case round =>
    clear HB1 HBR
    obtain ⟨k, xs, hk, rfl, HB, HX, HP⟩ := hrel
    obtain ⟨_, c0, c1, c2, c3⟩ := (HALL.out _ HB.out).at_
    by_cases hkl : k < m.fs.length
    · have hk1 : (k : Int) < (m.fs.length : Int) := by omega
      obtain ⟨b, o, hBB, _, _, q⟩ := Ints.at_ (HALL.out _ HB.out).rd.fs hkl
      subst hBB
      obtain ⟨hx0, hx1⟩ := HM.out.fr _ (List.getElem_mem hkl)
      have HTK := Lib.hid (fun x => take_mem1 hkl x)
      generalize m.fs[k] = x at *
      obtain ⟨x, rfl⟩ := Int.eq_ofNat_of_zero_le hx0
      have hxn : x < m.ls.length := by omega
      obtain ⟨x1, x2⟩ := HX.out.getD_ (i := x) (by rw [HP.out.l]; exact hxn) false
      have HXN := Lib.hid hxn
      go_wp2_with fail
      go_roundw
      case rel =>
        refine ⟨k + 1, xs.set x true, by omega, by go_num, HB.out.setCell (p := ⟨g0, x, none⟩) HG0.out _, HX.out.set_ x true, (HP.out.put HXN.out).iff fun q _ => ?_⟩
        rw [HTK.out]
        constructor
        · rintro (h | h)
          · exact .inl h
          · exact .inr (by omega)
        · rintro (h | h)
          · exact .inl h
          · exact .inr (by omega)
      case measure => simp [intOf]; omega
    · have hk1 : ¬ (k : Int) < (m.fs.length : Int) := by omega
      have HP0 : Hid (BSet m.ls.length xs fun q => MoIn m l.at 0 (q : Int)) := HP.out.iff fun q _ => by
        rw [List.take_of_length_le (by omega)]
        exact Iff.rfl
      clear HP hk hkl
      go_wp2_with fail
      obtain ⟨P, hP⟩ : ∃ P : Nat, P = (m.ls.length + 1) * l.l.length := ⟨_, rfl⟩
      have hPb : P ≤ 52000 := by rw [hP]; exact Nat.mul_le_mul (show m.ls.length + 1 ≤ 13 by have := HN12.out; omega) l4
      have hPi : ((m.ls.length : Int) + 1) * (l.l.length : Int) = (P : Int) := by rw [hP]; push_cast; rfl
      have HPN := Lib.hid hP
      clear hP
      have HGO : Hid (MoGoes m l ↔ ∀ k, k < l.h.length + P → ∃ q, MoIn m l.at k q ∧ m.lab q = l.at k) := by
        rw [HPN.out]
        exact Iff.rfl
      go_loopw [6, 8] (fun s i wr => ∃ (a g : Nat) (xs : List Bool), a ≤ l.h.length + P ∧ i = .int .i64 (a : Int) ∧ s = .slice (some ⟨g, 0, none⟩) m.ls.length m.ls.length ∧ W0.heap.size ≤ g ∧ Hid (Below W0.heap.size W0 wr) ∧ Hid (BRow wr g xs) ∧ Hid (BSet m.ls.length xs fun q => MoIn m l.at a (q : Int)) ∧ Hid (∀ j, j < a → ∃ q, MoIn m l.at j q ∧ m.lab q = l.at j)) (fun _ i _ => l.h.length + P - (intOf i).toNat)
      case atStart => exact ⟨0, g0, xs, Nat.zero_le _, rfl, rfl, HG0.out, HB, HX, HP0, fun j hj => absurd hj (by omega)⟩
      case round =>
        clear HB HX HP0 c0 c1 c2 c3 hk1
        obtain ⟨a, g, xs, ha, rfl, rfl, hgl, HB, HX, HP, HPRE⟩ := hrel
        have HGL := Lib.hid hgl
        clear hgl
        obtain ⟨_, c0, c1, c2, c3⟩ := (HALL.out _ HB.out).at_
        have z0 := (HALL.out _ HB.out).l0
        have z1 := (HALL.out _ HB.out).l1
        by_cases hal : a < l.h.length + P
        · have hal1 : (a : Int) < (l.h.length : Int) + (P : Int) := by omega
          have hmk := HMK.out
          go_upto_region 12 with fail
          clear hmk c0 c1 c2 c3 z0 z1 hal1
          have hb2 : Below wr.heap.size wr (wr.alloc (Obj.cells (madeCells #[Value.bool false] m.ls.length) 4)) := (Below.refl _ _).alloc (Nat.le_refl _) _
          have HYR := Lib.hid (BRow.new wr m.ls.length)
          have HXR := Lib.hid (HX.out.below hb2 HX.out.lt)
          have HB2 := Lib.hid (Below_on HB.out hb2 HB.out.size)
          have HGN : Hid (g ≠ wr.heap.size ∧ W0.heap.size ≤ wr.heap.size) := ⟨Nat.ne_of_lt HX.out.lt, HB.out.size⟩
          have HAL := Lib.hid hal
          have ha1 : (a : Int) ≤ 60000 := by omega
          have HA1 : Hid (a ≤ 60000) := by show _ ≤ _; omega
          obtain ⟨g2, hg2⟩ : ∃ g, g = wr.heap.size := ⟨_, rfl⟩
          rw [← hg2] at HYR HGN ⊢
          clear hg2 hb2 HX HB hal
          generalize wr.alloc (Obj.cells (madeCells #[Value.bool false] m.ls.length) 4) = w2 at *
          go_wp2_with fail
          go_loopw [10, 11] (fun an i wr => ∃ (p : Nat) (b : Bool) (ys : List Bool), p ≤ m.ls.length ∧ i = .int .i64 (p : Int) ∧ an = .bool b ∧ Hid (b = true ↔ AnyTo m xs (l.at a) p) ∧ Hid (Below W0.heap.size W0 wr) ∧ Hid (BRow wr g xs) ∧ Hid (BRow wr g2 ys) ∧ Hid (BSet m.ls.length ys (NxTo m xs (l.at a) p))) (fun _ i _ => m.ls.length - (intOf i).toNat)
          case atStart => exact ⟨0, false, _, Nat.zero_le _, rfl, rfl, ⟨fun h => (by cases h), fun ⟨p, hp, _⟩ => absurd hp (by omega)⟩, HB2, HXR, HYR, (BSet.none_ _).iff fun q _ => ⟨fun h => h.elim, fun ⟨p, hp, _⟩ => absurd hp (by omega)⟩⟩
          case round =>
            clear HB2 HXR HYR
            obtain ⟨p, b, ys, hpl, rfl, rfl, HAN, HB, HX, HY, HN⟩ := hrel
            obtain ⟨_, c0, c1, c2, c3⟩ := (HALL.out _ HB.out).at_
            have z0 := (HALL.out _ HB.out).l0
            have z1 := (HALL.out _ HB.out).l1
            by_cases hpn : p < m.ls.length
            · have hpn1 : (p : Int) < (m.ls.length : Int) := by omega
              have HPN2 := Lib.hid hpn
              have x1 := (HX.out.getD_ (i := p) (by rw [HP.out.l]; exact hpn) false).1
              obtain ⟨bb, oo, hAA, _, _, q⟩ := Ints.at_ (HALL.out _ HB.out).rd.ls hpn
              subst hAA
              have HLB : Hid (m.ls.getD p 0 = m.ls[p]'hpn) := getD_lt hpn
              obtain ⟨xp, hxp⟩ : ∃ x, x = xs.getD p false := ⟨_, rfl⟩
              rw [← hxp] at x1
              have HXP := Lib.hid hxp
              clear hxp
              generalize m.ls[p]'hpn = lb at *
              cases xp with
              | false =>
                have HAN2 : Hid (b = true ↔ AnyTo m xs (l.at a) (p + 1)) := HAN.out.trans ((AnyTo.succ).trans ⟨fun h => h.elim id (fun h => by rw [← HXP.out] at h; exact absurd h.1 (by decide)), .inl⟩).symm
                have HN2 : Hid (BSet m.ls.length ys (NxTo m xs (l.at a) (p + 1))) := HN.out.iff fun q _ => ((NxTo.succ).trans ⟨fun h => h.elim id (fun h => by rw [← HXP.out] at h; exact absurd h.1.1 (by decide)), .inl⟩).symm
                have C1 := Lib.hid (regrown_call (w := wr) fun W hW => LetterAtB_ G K cg ck l a W ((HALL.out _ HB.out).rg.below hW) ((HALL.out _ HB.out).rk.below hW) (by omega) (by have := HA1.out; omega))
                have e0 := cell_regrown c1
                have e1 := cell_regrown x1
                have e2 := cell_regrown q
                have e3 := cell_regrown z0
                have e4 := cell_regrown z1
                go_wp2_with fail
                refine wp_region_quiet_below (by kernel_rfl) (by kernel_rfl) ?_
                repeat (go_big_quiet_step (with_reducible exact C1.out _ _))
                refine wpQuiet_nil ?_
                intro _ hw'
                obtain ⟨⟨dq, osq⟩, hw''⟩ := hw'
                subst hw''
                have HB4 := Lib.hid (regrown_on HB.out HB.out.size dq osq)
                have HX4 : Hid (BRow (grow (redrawn wr dq) osq) g xs) := HX.out.below (regrown_on (Below.refl wr.heap.size wr) (Nat.le_refl _) dq osq) HX.out.lt
                have HY4 : Hid (BRow (grow (redrawn wr dq) osq) g2 ys) := HY.out.below (regrown_on (Below.refl wr.heap.size wr) (Nat.le_refl _) dq osq) HY.out.lt
                clear e0 e1 e2 e3 e4 q x1 z0 z1 c0 c1 c2 c3
                generalize grow (redrawn wr dq) osq = w4 at *
                go_wp2_with fail
                go_roundw
                case rel => exact ⟨p + 1, b, ys, HPN2.out, by go_num, rfl, HAN2, HB4, HX4, HY4, HN2⟩
                case measure => simp [intOf]; have := HPN2.out; omega
              | true =>
                by_cases hlb : lb = l.at a
                · have hlb1 : (lb != l.at a) = false := by simp [hlb]
                  have HTK : Hid (xs.getD p false = true ∧ m.ls.getD p 0 = l.at a) := ⟨HXP.out.symm, by rw [HLB.out, hlb]⟩
                  clear hlb
                  have C1 := Lib.hid (regrown_call (w := wr) fun W hW => LetterAtB_ G K cg ck l a W ((HALL.out _ HB.out).rg.below hW) ((HALL.out _ HB.out).rk.below hW) (by omega) (by have := HA1.out; omega))
                  have e0 := cell_regrown c1
                  have e1 := cell_regrown x1
                  have e2 := cell_regrown q
                  have e3 := cell_regrown z0
                  have e4 := cell_regrown z1
                  go_wp2_with fail
                  refine wp_region_quiet_below (by kernel_rfl) (by kernel_rfl) ?_
                  repeat (go_big_quiet_step (with_reducible exact C1.out _ _))
                  refine wpQuiet_nil ?_
                  intro _ hw'
                  obtain ⟨⟨dq, osq⟩, hw''⟩ := hw'
                  subst hw''
                  have HB4 := Lib.hid (regrown_on HB.out HB.out.size dq osq)
                  have HX4 : Hid (BRow (grow (redrawn wr dq) osq) g xs) := HX.out.below (regrown_on (Below.refl wr.heap.size wr) (Nat.le_refl _) dq osq) HX.out.lt
                  have HY4 : Hid (BRow (grow (redrawn wr dq) osq) g2 ys) := HY.out.below (regrown_on (Below.refl wr.heap.size wr) (Nat.le_refl _) dq osq) HY.out.lt
                  clear e0 e1 e2 e3 e4 q x1 z0 z1 c0 c1 c2 c3
                  generalize grow (redrawn wr dq) osq = w4 at *
                  have HKS : Hid (p < m.ss.length) := by show _ < _; rw [HM.out.sl]; exact HPN2.out
                  have hks : (p : Int) < (m.ss.length : Int) := by have := HKS.out; omega
                  have HAN2 : Hid (true = true ↔ AnyTo m xs (l.at a) (p + 1)) := ⟨fun _ => AnyTo.succ.2 (.inr HTK.out), fun _ => rfl⟩
                  have HNS : Hid (∀ q, NxTo m xs (l.at a) (p + 1) q ↔ NxTo m xs (l.at a) p q ∨ (q : Int) ∈ m.ss.getD p []) := fun q => (NxTo.succ).trans ⟨fun h => h.elim .inl (fun h => .inr h.2), fun h => h.elim .inl (fun h => .inr ⟨HTK.out, h⟩)⟩
                  obtain ⟨b5, off, hC, _, _⟩ := (HALL.out _ HB4.out).rd.at_ HKS.out
                  subst hC
                  have HRA : Hid (∀ W, Below W0.heap.size W0 W → W.cell? ⟨b5, off + p, none⟩ = some (.slice (vs.getD p rw0).1 (m.ss.getD p []).length (vs.getD p rw0).2.2) ∧ Ints W 0 (vs.getD p rw0).1 (vs.getD p rw0).2.2 (m.ss.getD p [])) := fun W hW => (HALL.out _ hW).rd.rowAt HKS.out
                  have HRR : Hid (∀ q ∈ m.ss.getD p [], 0 ≤ q ∧ q < (m.ls.length : Int)) := by
                    have := HM.out.rr (m.ss[p]'HKS.out) (List.getElem_mem HKS.out)
                    rw [getD_lt HKS.out]
                    exact this
                  have rr1 := (HRA.out _ HB4.out).2.le
                  have rr2 := (HRA.out _ HB4.out).2.max
                  generalize m.ss.getD p [] = r at *
                  generalize (vs.getD p rw0).1 = D at *
                  generalize (vs.getD p rw0).2.2 = cd at *
                  have HN3 : Hid (BSet m.ls.length ys fun q => NxTo m xs (l.at a) p q ∨ (q : Int) ∈ r.take 0) := HN.out.iff fun q _ => by simp
                  clear HN
                  go_wp2_with fail
                  go_loopw [12] (fun kk wr => ∃ (j : Nat) (ys : List Bool), j ≤ r.length ∧ kk = .int .i64 (j : Int) ∧ Hid (Below W0.heap.size W0 wr) ∧ Hid (BRow wr g xs) ∧ Hid (BRow wr g2 ys) ∧ Hid (BSet m.ls.length ys fun q => NxTo m xs (l.at a) p q ∨ (q : Int) ∈ r.take j)) (fun kk _ => r.length - (intOf kk).toNat)
                  case atStart => exact ⟨0, ys, Nat.zero_le _, rfl, HB4, HX4, HY4, HN3⟩
                  case round =>
                    clear HB4 HX4 HY4 HN3
                    obtain ⟨j, ys, hj, rfl, HB5, HX5, HY5, HN5⟩ := hrel
                    obtain ⟨_, c0, c1, c2, c3⟩ := (HALL.out _ HB5.out).at_
                    obtain ⟨q, hi⟩ := HRA.out _ HB5.out
                    by_cases hjl : j < r.length
                    · have hj1 : (j : Int) < (r.length : Int) := by omega
                      obtain ⟨b6, o6, hDD, _, _, q2⟩ := Ints.at_ hi hjl
                      subst hDD
                      clear hi
                      obtain ⟨hx0, hx1⟩ := HRR.out _ (List.getElem_mem hjl)
                      have HTK2 := Lib.hid (fun x => take_mem1 hjl x)
                      generalize r[j] = x at *
                      obtain ⟨x, rfl⟩ := Int.eq_ofNat_of_zero_le hx0
                      have hxn : x < m.ls.length := by omega
                      obtain ⟨y1, y2⟩ := HY5.out.getD_ (i := x) (by rw [HN5.out.l]; exact hxn) false
                      have HXN := Lib.hid hxn
                      go_wp2_with fail
                      go_roundw
                      case rel =>
                        refine ⟨j + 1, ys.set x true, by omega, by go_num, HB5.out.setCell (p := ⟨g2, x, none⟩) HGN.out.2 _, HX5.out.set_far (p := ⟨g2, x, none⟩) HGN.out.1 _, HY5.out.set_ x true, (HN5.out.put HXN.out).iff fun q _ => ?_⟩
                        rw [HTK2.out]
                        constructor
                        · rintro ((h | h) | h)
                          · exact .inl h
                          · exact .inr (.inl h)
                          · exact .inr (.inr (by omega))
                        · rintro (h | h | h)
                          · exact .inl (.inl h)
                          · exact .inl (.inr h)
                          · exact .inr (by omega)
                      case measure => simp [intOf]; omega
                    · have hj1 : ¬ (j : Int) < (r.length : Int) := by omega
                      have HN6 : Hid (BSet m.ls.length ys (NxTo m xs (l.at a) (p + 1))) := HN5.out.iff fun q _ => by
                        rw [HNS.out, List.take_of_length_le (by omega)]
                      clear hi hj hjl
                      go_wp2_with fail
                      go_roundw
                      case rel => exact ⟨p + 1, true, ys, HPN2.out, by go_num, rfl, (show Hid _ from by have h := HAN2.out; simp only [eq_self_iff_true] at h ⊢; exact h), HB5, HX5, HY5, HN6⟩
                      case measure => simp [intOf]; have := HPN2.out; omega
                · have hlb1 : (lb != l.at a) = true := by simp [hlb]
                  have HNT : Hid (¬ (xs.getD p false = true ∧ m.ls.getD p 0 = l.at a)) := fun h => hlb (by rw [← HLB.out]; exact h.2)
                  have HAN2 : Hid (b = true ↔ AnyTo m xs (l.at a) (p + 1)) := HAN.out.trans ((AnyTo.succ).trans ⟨fun h => h.elim id (fun h => absurd h HNT.out), .inl⟩).symm
                  have HN2 : Hid (BSet m.ls.length ys (NxTo m xs (l.at a) (p + 1))) := HN.out.iff fun q _ => ((NxTo.succ).trans ⟨fun h => h.elim id (fun h => absurd h.1 HNT.out), .inl⟩).symm
                  clear hlb
                  have C1 := Lib.hid (regrown_call (w := wr) fun W hW => LetterAtB_ G K cg ck l a W ((HALL.out _ HB.out).rg.below hW) ((HALL.out _ HB.out).rk.below hW) (by omega) (by have := HA1.out; omega))
                  have e0 := cell_regrown c1
                  have e1 := cell_regrown x1
                  have e2 := cell_regrown q
                  have e3 := cell_regrown z0
                  have e4 := cell_regrown z1
                  go_wp2_with fail
                  refine wp_region_quiet_below (by kernel_rfl) (by kernel_rfl) ?_
                  repeat (go_big_quiet_step (with_reducible exact C1.out _ _))
                  refine wpQuiet_nil ?_
                  intro _ hw'
                  obtain ⟨⟨dq, osq⟩, hw''⟩ := hw'
                  subst hw''
                  have HB4 := Lib.hid (regrown_on HB.out HB.out.size dq osq)
                  have HX4 : Hid (BRow (grow (redrawn wr dq) osq) g xs) := HX.out.below (regrown_on (Below.refl wr.heap.size wr) (Nat.le_refl _) dq osq) HX.out.lt
                  have HY4 : Hid (BRow (grow (redrawn wr dq) osq) g2 ys) := HY.out.below (regrown_on (Below.refl wr.heap.size wr) (Nat.le_refl _) dq osq) HY.out.lt
                  clear e0 e1 e2 e3 e4 q x1 z0 z1 c0 c1 c2 c3
                  generalize grow (redrawn wr dq) osq = w4 at *
                  go_wp2_with fail
                  go_roundw
                  case rel => exact ⟨p + 1, b, ys, HPN2.out, by go_num, rfl, HAN2, HB4, HX4, HY4, HN2⟩
                  case measure => simp [intOf]; have := HPN2.out; omega
            · have hpn1 : ¬ (p : Int) < (m.ls.length : Int) := by omega
              obtain rfl : p = m.ls.length := by omega
              cases b with
              | false =>
                have HNG : Hid (¬ MoGoes m l) := fun h => by
                  have h2 := (goes_any HM.out HP.out).2 (HGO.out.1 h a HAL.out)
                  exact absurd (HAN.out.2 h2) (by decide)
                have HP9 : Hid (GoPost m l w (.returned (.bool false)) wr) := ⟨false, rfl, ⟨fun h => (by cases h), fun h => absurd h HNG.out⟩, (HALL.out _ HB.out).below⟩
                go_wp2_with fail
                go_ret
                exact HP9.out
              | true =>
                have HPX := Lib.hid (goes_next HM.out HP.out HN.out)
                have HPY : Hid (∀ j, j < a + 1 → ∃ q, MoIn m l.at j q ∧ m.lab q = l.at j) := fun j hj => by
                  rcases Nat.lt_or_ge j a with h1 | h1
                  · exact HPRE.out j h1
                  · obtain rfl : j = a := by omega
                    exact (goes_any HM.out HP.out).1 (HAN.out.1 rfl)
                go_wp2_with fail
                go_roundw
                case rel => exact ⟨a + 1, g2, ys, HAL.out, by go_num, rfl, HGN.out.2, HB, HY, HPX, HPY⟩
                case measure => simp [intOf]; have := HAL.out; omega
        · have hal1 : ¬ (a : Int) < (l.h.length : Int) + (P : Int) := by omega
          have HP9 : Hid (GoPost m l w (.returned (.bool true)) wr) := ⟨true, rfl, ⟨fun _ => HGO.out.2 fun j hj => HPRE.out j (by omega), fun _ => rfl⟩, (HALL.out _ HB.out).below⟩
          clear ha hal
          go_wp2_with fail
          go_ret
          exact HP9.out
end Go.Proofs.YtoglgeaiiipchaaGreatDoor

namespace Go.Proofs.YtoglgeaiiipchaaGreatDoor
open Go Go.RowKit
def oneA : Au := ⟨1, 2, [0], [true], [⟨0, 0, 0⟩]⟩
def AuPost (w : World) (a : Au) (e : Ending) (w' : World) : Prop := ∃ A B C ca cb cc, e = .returned (.agg #[.int .i64 a.st, .int .i64 a.le, .slice A a.fs.length ca, .slice B a.gs.length cb, .slice C a.ss.length cc]) ∧ AuRd w' w.heap.size a A B C ca cb cc ∧ Below w.heap.size w w'
def oneW (w : World) : World := (((w.alloc (Obj.cells #[.int .i64 1, .int .i64 2, .slice (some ⟨w.heap.size + 1, 0, none⟩) 1 1, .slice (some ⟨w.heap.size + 1 + 1, 0, none⟩) 1 1, .slice (some ⟨w.heap.size + 1 + 1 + 1, 0, none⟩) 1 1] 31)).alloc
  (Obj.cells #[.int .i64 0] 3)).alloc (Obj.cells #[.bool true] 4)).alloc (Obj.cells #[.int .i64 0, .int .i64 0, .int .i64 0] 80)
theorem oneW_is (w : World) : AuRd (oneW w) w.heap.size oneA (some ⟨w.heap.size + 1, 0, none⟩) (some ⟨w.heap.size + 1 + 1, 0, none⟩) (some ⟨w.heap.size + 1 + 1 + 1, 0, none⟩) 1 1 1 ∧ Below w.heap.size w (oneW w) := by
  refine ⟨⟨?_, ?_, ?_⟩, by unfold oneW; go_grown⟩
  · refine ⟨by decide, by omega, by decide, fun _ => ⟨_, 0, rfl, by omega, by unfold oneW; simp, fun j u hu => ?_⟩⟩
    match j, hu with
    | 0, hu => simp [oneA] at hu; subst hu; unfold oneW; go_simp
    | j + 1, hu => simp [oneA] at hu
  · refine ⟨by decide, by omega, by decide, fun _ => ⟨_, 0, rfl, by omega, by unfold oneW; simp, fun j u hu => ?_⟩⟩
    match j, hu with
    | 0, hu => simp [oneA] at hu; subst hu; unfold oneW; go_simp
    | j + 1, hu => simp [oneA] at hu
  · refine ⟨by decide, by omega, by decide, fun _ => ⟨_, 0, rfl, by omega, by unfold oneW; simp, fun j u hu => ?_⟩⟩
    match j, hu with
    | 0, hu => simp [oneA, Stp.cells] at hu; subst hu; unfold oneW; go_simp
    | 1, hu => simp [oneA, Stp.cells] at hu; subst hu; unfold oneW; go_simp
    | 2, hu => simp [oneA, Stp.cells] at hu; subst hu; unfold oneW; go_simp
    | j + 3, hu => simp [oneA, Stp.cells] at hu
set_option maxRecDepth 100000 in
theorem one_ (w : World) : Calls Tryz.prog 40 #[] w (AuPost w oneA) := by
  have HP : Hid (AuPost w oneA (.returned (.agg #[.int .i64 1, .int .i64 2, .slice (some ⟨w.heap.size + 1, 0, none⟩) 1 1, .slice (some ⟨w.heap.size + 1 + 1, 0, none⟩) 1 1, .slice (some ⟨w.heap.size + 1 + 1 + 1, 0, none⟩) 1 1])) (oneW w)) :=
    ⟨_, _, _, _, _, _, rfl, (oneW_is w).1, (oneW_is w).2⟩
  go_enter Tryz.func40, Tryz.ntmps40
  go_wp2_with fail
  exact bodyPost_ret (by simp [results, Tryz.results40, go_sem]) rfl HP.out
theorem one0_ (w : World) : Calls Tryz.prog 40 #[] w fun e w' => ∃ A B C ca cb cc, e = .returned (.agg #[.int .i64 1, .int .i64 2, .slice A 1 ca, .slice B 1 cb, .slice C 1 cc]) ∧ AuRd w' 0 oneA A B C ca cb cc ∧ Below w.heap.size w w' :=
  (one_ w).mono fun e w' ⟨A, B, C, ca, cb, cc, h1, h2, h3⟩ => ⟨A, B, C, ca, cb, cc, h1, h2.low (Nat.zero_le _), h3⟩
theorem one_ck : ckA oneA = 0 := by decide +kernel
end Go.Proofs.YtoglgeaiiipchaaGreatDoor
