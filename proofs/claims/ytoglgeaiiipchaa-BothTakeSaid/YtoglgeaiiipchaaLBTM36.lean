/- Walks: the law BothTake: its last pieces, joined. -/
import Derived.Test.YtoglgeaiiipchaaLBTM35
import Derived.Test.YtoglgeaiiipchaaLBTM3
import Derived.Deep.CutBlock
set_option linter.unusedSimpArgs false
set_option linter.unusedVariables false
namespace Go.Proofs.Ytoglgeaiiipchaa
open Go Go.RowKit Go.Shelf Go.Sort

theorem tk_or {a b p : Au} {l : La} (ha : ckA a = 0) (hb : ckA b = 0) (hp : ckA p = 0) (hle : a.le = b.le) (hpl : p.le = a.le) (ht : ∀ u, TakesU p u ↔ TakesU a u ∨ TakesU b u) : taErr p l = taErr a l ∧ taErr b l = taErr a l ∧ tkB p l = (tkB a l || tkB b l) := by
  have h1 : taErr p l = taErr a l := by unfold taErr; rw [if_pos hp, if_pos ha, hpl]
  have h2 : taErr b l = taErr a l := by unfold taErr; rw [if_pos hb, if_pos ha, hle]
  refine ⟨h1, h2, ?_⟩
  have h3 : takesB p l.at = (takesB a l.at || takesB b l.at) := by
    have x := takesB_iff (a := p) (u := l.at)
    have y := takesB_iff (a := a) (u := l.at)
    have z := takesB_iff (a := b) (u := l.at)
    have := ht l.at
    cases hx : takesB p l.at <;> cases hy : takesB a l.at <;> cases hz : takesB b l.at <;> simp_all
  unfold tkB
  rw [h1, h2, h3]
  cases (taErr a l == 0) <;> rfl
theorem tk_and {a b p : Au} {l : La} (ha : ckA a = 0) (hb : ckA b = 0) (hp : ckA p = 0) (hle : a.le = b.le) (hpl : p.le = a.le) (ht : ∀ u, TakesU p u ↔ TakesU a u ∧ TakesU b u) : taErr p l = taErr a l ∧ taErr b l = taErr a l ∧ tkB p l = (tkB a l && tkB b l) := by
  have h1 : taErr p l = taErr a l := by unfold taErr; rw [if_pos hp, if_pos ha, hpl]
  have h2 : taErr b l = taErr a l := by unfold taErr; rw [if_pos hb, if_pos ha, hle]
  refine ⟨h1, h2, ?_⟩
  have h3 : takesB p l.at = (takesB a l.at && takesB b l.at) := by
    have x := takesB_iff (a := p) (u := l.at)
    have y := takesB_iff (a := a) (u := l.at)
    have z := takesB_iff (a := b) (u := l.at)
    have := ht l.at
    cases hx : takesB p l.at <;> cases hy : takesB a l.at <;> cases hz : takesB b l.at <;> simp_all
  unfold tkB
  rw [h1, h2, h3]
  cases (taErr a l == 0) <;> cases takesB a l.at <;> rfl
def bt3W (w : World) (a b : Au) (A B C D E F : Option Addr) (ca cb cc cd ce cf : Nat) (l : La) (G K : Option Addr) (cg ck : Nat) : World := (auW2 w a b A B C D E F ca cb cc cd ce cf).alloc (Obj.cells #[.slice G l.h.length cg, .slice K l.l.length ck] 26)
structure Bt3 (w W : World) (a b : Au) (A B C D E F : Option Addr) (ca cb cc cd ce cf : Nat) (l : La) (G K : Option Addr) (cg ck : Nat) : Prop where
  below : Below w.heap.size w W
  size : W.heap.size = w.heap.size + 3
  at1 : AuAt W w.heap.size a A B C ca cb cc
  at2 : AuAt W (w.heap.size + 1) b D E F cd ce cf
  la : W.heap[w.heap.size + 2]? = some (.cells #[.slice G l.h.length cg, .slice K l.l.length ck] 26 (0, 0))
theorem bt3_is (w : World) (a b : Au) (A B C D E F : Option Addr) (ca cb cc cd ce cf : Nat) (l : La) (G K : Option Addr) (cg ck : Nat) : Bt3 w (bt3W w a b A B C D E F ca cb cc cd ce cf l G K cg ck) a b A B C D E F ca cb cc cd ce cf l G K cg ck := by
  have h := auW2_is w a b A B C D E F ca cb cc cd ce cf
  have hb : Below (auW2 w a b A B C D E F ca cb cc cd ce cf).heap.size (auW2 w a b A B C D E F ca cb cc cd ce cf) (bt3W w a b A B C D E F ca cb cc cd ce cf l G K cg ck) := (Below.refl _ _).alloc (Nat.le_refl _) _
  have hn : (bt3W w a b A B C D E F ca cb cc cd ce cf l G K cg ck).heap[(auW2 w a b A B C D E F ca cb cc cd ce cf).heap.size]? = _ := World.alloc_heap_new _ _
  rw [h.size] at hn
  exact ⟨Below_on h.below hb h.below.size, by unfold bt3W; rw [World.size_alloc, h.size], h.at1.below hb h.at1.lt, h.at2.below hb h.at2.lt, hn⟩
theorem auAt_of {W : World} {X : Nat} {p : Au} {A B C : Option Addr} {ca cb cc : Nat} (h : W.heap[X]? = some (.cells #[.int .i64 p.st, .int .i64 p.le, .slice A p.fs.length ca, .slice B p.gs.length cb, .slice C p.ss.length cc] 49 (0, 0))) : AuAt W X p A B C ca cb cc := by
  obtain ⟨x0, x1, x2, x3, x4, _⟩ := obj5 h
  exact ⟨(Array.getElem?_eq_some_iff.1 h).1, x0, x1, x2, x3, x4⟩
/-- the rest of a sequence, its first piece -/
def dropC : Nat → Code → Code
  | 0, c => c
  | n + 1, .seq _ b => dropC n b
  | _ + 1, c => c
def headC : Code → Code
  | .seq a _ => a
  | c => c
noncomputable def btC (n : Nat) : Code := dropC n (Try.f8.body.getD .skip)
def btF (V X Y : Nat) (ei bo : Int) (v11 v12 v13 v14 v15 v16 : Value) (u : Nat → Value) : Array Value := #[u 0, u 1, u 2, .pointer (some ⟨V, 0, none⟩), .pointer (some ⟨V + 1, 0, none⟩), .pointer (some ⟨V + 2, 0, none⟩), .bool false, .pointer (some ⟨X, 0, none⟩), .int .i64 ei, .pointer (some ⟨Y, 0, none⟩), .int .i64 bo, v11, v12, v13, v14, v15, v16, u 17, u 18, u 19, u 20, u 21, u 22, u 23, u 24, u 25, u 26, u 27, u 28, u 29, u 30, u 31, u 32, u 33, u 34, u 35, u 36, u 37, u 38, u 39, u 40, u 41, u 42, u 43, u 44, u 45, u 46, u 47, u 48, u 49, u 50, u 51, u 52, u 53, u 54, u 55, u 56, u 57, u 58, u 59, u 60, u 61, u 62, u 63, u 64, u 65, u 66, u 67, u 68, u 69, u 70, u 71, u 72, u 73, u 74, u 75, u 76, u 77, u 78, u 79, u 80, u 81, u 82, u 83, u 84, u 85, u 86, u 87, u 88, u 89, u 90, u 91, u 92, u 93, u 94, u 95, u 96, u 97, u 98, u 99, u 100, u 101, u 102, u 103, u 104, u 105, u 106, u 107, u 108, u 109, u 110, u 111, u 112, u 113, u 114, u 115, u 116, u 117, u 118, u 119, u 120, u 121, u 122, u 123, u 124, u 125, u 126, u 127, u 128, u 129, u 130, u 131, u 132, u 133, u 134, u 135, u 136, u 137, u 138, u 139, u 140, u 141, u 142, u 143, u 144, u 145, u 146, u 147, u 148, u 149, u 150, u 151, u 152, u 153, u 154, u 155, u 156, u 157, u 158, u 159, u 160, u 161, u 162, u 163, u 164, u 165, u 166, u 167, u 168, u 169, u 170, u 171, u 172, u 173, u 174, u 175, u 176, u 177, u 178, u 179, u 180, u 181, u 182, u 183, u 184, u 185, u 186, u 187, u 188, u 189, u 190, u 191, u 192, u 193, u 194, u 195, u 196, u 197, u 198, u 199, u 200, u 201, u 202, u 203, u 204, u 205, u 206, u 207, u 208, u 209, u 210, u 211, u 212, u 213, u 214]
def BtP (V X Y : Nat) (ei bo : Int) (v11 v12 v13 v14 v15 v16 : Value) (a : Act) : Prop := ∃ u : Nat → Value, a = { tmps := btF V X Y ei bo v11 v12 v13 v14 v15 v16 u, defers := [] }
theorem BtP.mk {V X Y : Nat} {ei bo : Int} {v11 v12 v13 v14 v15 v16 : Value} {a : Act} (h : a = { tmps := btF V X Y ei bo v11 v12 v13 v14 v15 v16 (fun i => a.tmps.getD i undef), defers := [] }) : BtP V X Y ei bo v11 v12 v13 v14 v15 v16 a := ⟨_, h⟩
/-- what stands in memory all along -/
structure BtM (a b p q : Au) (l : La) (A B C D E F G K : Option Addr) (ca cb cc cd ce cf cg ck : Nat) (A1 B1 C1 A2 B2 C2 : Option Addr) (ca1 cb1 cc1 ca2 cb2 cc2 : Nat) (V X Y : Nat) (w W : World) : Prop where
  below : Below w.heap.size w W
  aa : AuAt W V a A B C ca cb cc
  ab : AuAt W (V + 1) b D E F cd ce cf
  l0 : W.cell? ⟨V + 2, 0, none⟩ = some (.slice G l.h.length cg)
  l1 : W.cell? ⟨V + 2, 1, none⟩ = some (.slice K l.l.length ck)
  ap : AuAt W X p A1 B1 C1 ca1 cb1 cc1
  aq : AuAt W Y q A2 B2 C2 ca2 cb2 cc2
  ra : AuRd W 0 a A B C ca cb cc
  rb : AuRd W 0 b D E F cd ce cf
  rp : AuRd W 0 p A1 B1 C1 ca1 cb1 cc1
  rq : AuRd W 0 q A2 B2 C2 ca2 cb2 cc2
  lh : Ints W 0 G cg l.h
  ll : Ints W 0 K ck l.l
  ll2 : V + 2 < W.heap.size
section
variable {a b p q : Au} {l : La} {A B C D E F G K : Option Addr} {ca cb cc cd ce cf cg ck : Nat} {A1 B1 C1 A2 B2 C2 : Option Addr} {ca1 cb1 cc1 ca2 cb2 cc2 : Nat} {V X Y : Nat} {w W W' : World}
theorem BtM.on (h : BtM a b p q l A B C D E F G K ca cb cc cd ce cf cg ck A1 B1 C1 A2 B2 C2 ca1 cb1 cc1 ca2 cb2 cc2 V X Y w W) (hb : Below W.heap.size W W') : BtM a b p q l A B C D E F G K ca cb cc cd ce cf cg ck A1 B1 C1 A2 B2 C2 ca1 cb1 cc1 ca2 cb2 cc2 V X Y w W' :=
  ⟨Below_on h.below hb h.below.size, h.aa.below hb h.aa.lt, h.ab.below hb h.ab.lt, (hb.cell (p := ⟨V + 2, 0, none⟩) h.ll2).trans h.l0, (hb.cell (p := ⟨V + 2, 1, none⟩) h.ll2).trans h.l1, h.ap.below hb h.ap.lt, h.aq.below hb h.aq.lt, h.ra.below hb, h.rb.below hb, h.rp.below hb, h.rq.below hb, h.lh.below hb, h.ll.below hb, Nat.lt_of_lt_of_le h.ll2 hb.size⟩
variable {Kn : Act → World → Prop} {Q : Exit → Act → World → Prop} {ac : Act} {ei bo k1 k2 rd : Int} {v12 v13 v14 v15 v16 : Value}

set_option maxRecDepth 100000 in
set_option maxHeartbeats 4000000 in
theorem bt3_ {v11 : Value} (HK : Hid (∀ ac' W', BtP V X Y ei bo (.int .i64 (ckA a)) v12 v13 v14 v15 v16 ac' → BtM a b p q l A B C D E F G K ca cb cc cd ce cf cg ck A1 B1 C1 A2 B2 C2 ca1 cb1 cc1 ca2 cb2 cc2 V X Y w W' → Kn ac' W')) (ha : BtP V X Y ei bo v11 v12 v13 v14 v15 v16 ac) (HM : Hid (BtM a b p q l A B C D E F G K ca cb cc cd ce cf cg ck A1 B1 C1 A2 B2 C2 ca1 cb1 cc1 ca2 cb2 cc2 V X Y w W)) : Code.wp Try.prog (headC (btC 3)) (Exit.then Kn Q) ac W := by
  obtain ⟨u, rfl⟩ := ha
  unfold btF
  conv => arg 2; whnf
  have HC := Lib.hid (CheckAuto_ a A B C ca cb cc W HM.out.ra)
  obtain ⟨_, c0, c1, c2, c3, c4⟩ := HM.out.aa
  go_wp2_with fail
  refine HC.out.mono ?_
  rintro e w3 ⟨rfl, hb3⟩
  have HM3 := Lib.hid (HM.out.on hb3)
  clear hb3 c0 c1 c2 c3 c4 HC
  go_wp2_with fail
  exact HK.out _ _ (BtP.mk rfl) HM3.out
set_option maxRecDepth 100000 in
set_option maxHeartbeats 4000000 in
theorem bt4_ (HK : Hid (∀ ac' W', BtP V X Y ei bo (.int .i64 (if ckA a = 0 then ckA b else ckA a)) v12 v13 v14 v15 v16 ac' → BtM a b p q l A B C D E F G K ca cb cc cd ce cf cg ck A1 B1 C1 A2 B2 C2 ca1 cb1 cc1 ca2 cb2 cc2 V X Y w W' → Kn ac' W')) (ha : BtP V X Y ei bo (.int .i64 (ckA a)) v12 v13 v14 v15 v16 ac) (HM : Hid (BtM a b p q l A B C D E F G K ca cb cc cd ce cf cg ck A1 B1 C1 A2 B2 C2 ca1 cb1 cc1 ca2 cb2 cc2 V X Y w W)) : Code.wp Try.prog (headC (btC 4)) (Exit.then Kn Q) ac W := by
  obtain ⟨u, rfl⟩ := ha
  unfold btF
  conv => arg 2; whnf
  by_cases hz : ckA a = 0
  · rw [if_pos hz] at HK
    rw [hz]
    have HC := Lib.hid (CheckAuto_ b D E F cd ce cf W HM.out.rb)
    obtain ⟨_, d0, d1, d2, d3, d4⟩ := HM.out.ab
    clear hz
    go_wp2_with fail
    refine HC.out.mono ?_
    rintro e w3 ⟨rfl, hb3⟩
    have HM3 := Lib.hid (HM.out.on hb3)
    clear hb3 d0 d1 d2 d3 d4 HC
    go_wp2_with fail
    exact HK.out _ _ (BtP.mk rfl) HM3.out
  · rw [if_neg hz] at HK
    have e1 : (ckA a == 0) = false := by simp [hz]
    clear hz
    generalize ckA a = k1 at *
    go_wp2_with fail
    exact HK.out _ _ (BtP.mk rfl) HM.out
set_option maxRecDepth 100000 in
set_option maxHeartbeats 4000000 in
theorem bt5_ (HK : Hid (∀ ac' W', BtP V X Y ei bo (.int .i64 (if k1 = 0 then (if a.le = b.le then 0 else 1) else k1)) v12 v13 v14 v15 v16 ac' → BtM a b p q l A B C D E F G K ca cb cc cd ce cf cg ck A1 B1 C1 A2 B2 C2 ca1 cb1 cc1 ca2 cb2 cc2 V X Y w W' → Kn ac' W')) (ha : BtP V X Y ei bo (.int .i64 k1) v12 v13 v14 v15 v16 ac) (HM : Hid (BtM a b p q l A B C D E F G K ca cb cc cd ce cf cg ck A1 B1 C1 A2 B2 C2 ca1 cb1 cc1 ca2 cb2 cc2 V X Y w W)) : Code.wp Try.prog (headC (btC 5)) (Exit.then Kn Q) ac W := by
  obtain ⟨u, rfl⟩ := ha
  unfold btF
  conv => arg 2; whnf
  obtain ⟨_, c0, c1, c2, c3, c4⟩ := HM.out.aa
  obtain ⟨_, d0, d1, d2, d3, d4⟩ := HM.out.ab
  by_cases hz : k1 = 0
  · subst hz
    rw [if_pos rfl] at HK
    by_cases hl : a.le = b.le
    · rw [if_pos hl] at HK
      have e1 : (a.le != b.le) = false := by simp [hl]
      clear hl
      go_wp2_with fail
      exact HK.out _ _ (BtP.mk rfl) HM.out
    · rw [if_neg hl] at HK
      have e1 : (a.le != b.le) = true := by simp [hl]
      clear hl
      go_wp2_with fail
      exact HK.out _ _ (BtP.mk rfl) HM.out
  · rw [if_neg hz] at HK
    have e1 : (k1 == 0) = false := by simp [hz]
    clear hz
    go_wp2_with fail
    exact HK.out _ _ (BtP.mk rfl) HM.out
set_option maxRecDepth 100000 in
set_option maxHeartbeats 4000000 in
theorem bt6_ (HK : Hid (∀ ac' W', BtP V X Y ei bo (.int .i64 rd) (.int .i64 rd) v13 v14 v15 v16 ac' → BtM a b p q l A B C D E F G K ca cb cc cd ce cf cg ck A1 B1 C1 A2 B2 C2 ca1 cb1 cc1 ca2 cb2 cc2 V X Y w W' → Kn ac' W')) (ha : BtP V X Y ei bo (.int .i64 rd) v12 v13 v14 v15 v16 ac) (HM : Hid (BtM a b p q l A B C D E F G K ca cb cc cd ce cf cg ck A1 B1 C1 A2 B2 C2 ca1 cb1 cc1 ca2 cb2 cc2 V X Y w W)) : Code.wp Try.prog (headC (btC 6)) (Exit.then Kn Q) ac W := by
  obtain ⟨u, rfl⟩ := ha
  unfold btF
  conv => arg 2; whnf
  go_wp2_with fail
  exact HK.out _ _ (BtP.mk rfl) HM.out
set_option maxRecDepth 100000 in
set_option maxHeartbeats 4000000 in
theorem bt7_ (hok : Hid (rd = 0 → AuOK a ∧ AuOK b)) (HK : Hid (∀ ac' W', BtP V X Y ei bo (.int .i64 (if rd = 0 then (if 300 < a.st + b.st ∨ 6000 < (a.ss.length : Int) + b.ss.length then 2 else 0) else rd)) (.int .i64 rd) v13 v14 v15 v16 ac' → BtM a b p q l A B C D E F G K ca cb cc cd ce cf cg ck A1 B1 C1 A2 B2 C2 ca1 cb1 cc1 ca2 cb2 cc2 V X Y w W' → Kn ac' W')) (ha : BtP V X Y ei bo (.int .i64 rd) (.int .i64 rd) v13 v14 v15 v16 ac) (HM : Hid (BtM a b p q l A B C D E F G K ca cb cc cd ce cf cg ck A1 B1 C1 A2 B2 C2 ca1 cb1 cc1 ca2 cb2 cc2 V X Y w W)) : Code.wp Try.prog (headC (btC 7)) (Exit.then Kn Q) ac W := by
  obtain ⟨u, rfl⟩ := ha
  unfold btF
  conv => arg 2; whnf
  obtain ⟨_, c0, c1, c2, c3, c4⟩ := HM.out.aa
  obtain ⟨_, d0, d1, d2, d3, d4⟩ := HM.out.ab
  by_cases hz : rd = 0
  · subst hz
    obtain ⟨oa, ob⟩ := hok.out rfl
    rw [if_pos rfl] at HK
    have q1 : IntKind.i64.wrap (a.st + b.st) = a.st + b.st := wr64 (by have := oa.st1; have := ob.st1; omega) (by have := oa.st2; have := ob.st2; omega)
    have q2 : IntKind.i64.wrap ((a.ss.length : Int) + (b.ss.length : Int)) = (a.ss.length : Int) + b.ss.length := wr64 (by omega) (by have := oa.sl; have := ob.sl; omega)
    clear oa ob
    by_cases h3 : 300 < a.st + b.st
    · rw [if_pos (.inl h3)] at HK
      go_wp2_with fail
      exact HK.out _ _ (BtP.mk rfl) HM.out
    · by_cases h6 : 6000 < (a.ss.length : Int) + b.ss.length
      · rw [if_pos (.inr h6)] at HK
        go_wp2_with fail
        exact HK.out _ _ (BtP.mk rfl) HM.out
      · rw [if_neg (fun h => h.elim h3 h6)] at HK
        go_wp2_with fail
        exact HK.out _ _ (BtP.mk rfl) HM.out
  · rw [if_neg hz] at HK
    have e1 : (rd == 0) = false := by simp [hz]
    clear hz
    go_wp2_with fail
    exact HK.out _ _ (BtP.mk rfl) HM.out
set_option maxRecDepth 100000 in
set_option maxHeartbeats 4000000 in
theorem bt8_ {v11 : Value} (hok : Hid (rd = 0 → AuOK a ∧ AuOK b)) (HK : Hid (∀ ac' W', BtP V X Y ei bo v11 (.int .i64 (if rd = 0 then (if 300 < 3 * a.st * b.st ∨ 6000 < stepsN a b then 2 else 0) else rd)) v13 v14 v15 v16 ac' → BtM a b p q l A B C D E F G K ca cb cc cd ce cf cg ck A1 B1 C1 A2 B2 C2 ca1 cb1 cc1 ca2 cb2 cc2 V X Y w W' → Kn ac' W')) (ha : BtP V X Y ei bo v11 (.int .i64 rd) v13 v14 v15 v16 ac) (HM : Hid (BtM a b p q l A B C D E F G K ca cb cc cd ce cf cg ck A1 B1 C1 A2 B2 C2 ca1 cb1 cc1 ca2 cb2 cc2 V X Y w W)) : Code.wp Try.prog (headC (btC 8)) (Exit.then Kn Q) ac W := by
  obtain ⟨u, rfl⟩ := ha
  unfold btF
  conv => arg 2; whnf
  obtain ⟨_, c0, c1, c2, c3, c4⟩ := HM.out.aa
  obtain ⟨_, d0, d1, d2, d3, d4⟩ := HM.out.ab
  by_cases hz : rd = 0
  · subst hz
    obtain ⟨oa, ob⟩ := hok.out rfl
    rw [if_pos rfl] at HK
    obtain ⟨P, hP⟩ : ∃ P, P = 3 * a.st * b.st := ⟨_, rfl⟩
    rw [← hP] at HK
    have hPB : 0 ≤ P ∧ P ≤ 1000000 ∧ IntKind.i64.wrap (3 * a.st) = 3 * a.st ∧ IntKind.i64.wrap (3 * a.st * b.st) = P := by
      have sa1 := oa.st1
      have sa2 := oa.st2
      have sb1 := ob.st1
      have sb2 := ob.st2
      obtain ⟨NA, hNA⟩ := Int.eq_ofNat_of_zero_le (show 0 ≤ a.st by omega)
      obtain ⟨NB, hNB⟩ := Int.eq_ofNat_of_zero_le (show 0 ≤ b.st by omega)
      have hmul : a.st * b.st = ((NA * NB : Nat) : Int) := by rw [hNA, hNB]; simp
      have hM : NA * NB ≤ 300 * 300 := Nat.mul_le_mul (by omega) (by omega)
      have hP2 : P = 3 * ((NA * NB : Nat) : Int) := by rw [hP, Int.mul_assoc, hmul]
      have hPb : 0 ≤ P ∧ P ≤ 1000000 := by rw [hP2]; omega
      exact ⟨hPb.1, hPb.2, wr64 (by omega) (by omega), by rw [← hP]; exact wr64 (by omega) (by omega)⟩
    obtain ⟨p1, p2, q1, q2⟩ := hPB
    have HSC := Lib.hid (lawSteps_ a b A B C D E F ca cb cc cd ce cf W HM.out.ra HM.out.rb oa ob)
    clear oa ob hP
    by_cases h3 : 300 < P
    · rw [if_pos (.inl h3)] at HK
      go_wp2_with fail
      exact HK.out _ _ (BtP.mk rfl) HM.out
    · by_cases h6 : 6000 < stepsN a b
      · rw [if_pos (.inr h6)] at HK
        have h6' : (6000 : Int) < ((stepsN a b : Nat) : Int) := by omega
        generalize stepsN a b = sn at *
        clear h6
        go_wp2_with fail
        refine HSC.out.mono ?_
        rintro e w5 ⟨rfl, hb5⟩
        have HM5 := Lib.hid (HM.out.on hb5)
        clear hb5 c0 c1 c2 c3 c4 d0 d1 d2 d3 d4
        go_wp2_with fail
        exact HK.out _ _ (BtP.mk rfl) HM5.out
      · rw [if_neg (fun h => h.elim h3 h6)] at HK
        have h6' : ¬ (6000 : Int) < ((stepsN a b : Nat) : Int) := by omega
        generalize stepsN a b = sn at *
        clear h6
        go_wp2_with fail
        refine HSC.out.mono ?_
        rintro e w5 ⟨rfl, hb5⟩
        have HM5 := Lib.hid (HM.out.on hb5)
        clear hb5 c0 c1 c2 c3 c4 d0 d1 d2 d3 d4
        go_wp2_with fail
        exact HK.out _ _ (BtP.mk rfl) HM5.out
  · rw [if_neg hz] at HK
    have e1 : (rd == 0) = false := by simp [hz]
    clear hz
    go_wp2_with fail
    exact HK.out _ _ (BtP.mk rfl) HM.out
set_option maxRecDepth 100000 in
set_option maxHeartbeats 4000000 in
theorem bt9_ (HK : Hid (∀ ac' W', BtP V X Y ei bo (.int .i64 ei) (.int .i64 bo) v13 v14 v15 v16 ac' → BtM a b p q l A B C D E F G K ca cb cc cd ce cf cg ck A1 B1 C1 A2 B2 C2 ca1 cb1 cc1 ca2 cb2 cc2 V X Y w W' → Kn ac' W')) (ha : BtP V X Y ei bo (.int .i64 ei) (.int .i64 bo) v13 v14 v15 v16 ac) (HM : Hid (BtM a b p q l A B C D E F G K ca cb cc cd ce cf cg ck A1 B1 C1 A2 B2 C2 ca1 cb1 cc1 ca2 cb2 cc2 V X Y w W)) : Code.wp Try.prog (headC (btC 9)) (Exit.then Kn Q) ac W := by
  obtain ⟨u, rfl⟩ := ha
  unfold btF
  conv => arg 2; whnf
  go_wp2_with fail
  refine (bothBegun_ W).mono ?_
  rintro e w3 ⟨rfl, hb3⟩
  have HM3 := Lib.hid (HM.out.on hb3)
  clear hb3
  go_wp2_with fail
  refine (wordBegun_ w3).mono ?_
  rintro e w4 ⟨rfl, hb4⟩
  have HM4 := Lib.hid (HM3.out.on hb4)
  clear hb4
  go_wp2_with fail
  exact HK.out _ _ (BtP.mk rfl) HM4.out
set_option maxRecDepth 100000 in
set_option maxHeartbeats 4000000 in
theorem bt10_ {v11 : Value} (HK : Hid (∀ ac' W', BtP V X Y ei bo v11 v12 (.bool (tkB a l)) (.int .i64 (taErr a l)) v15 v16 ac' → BtM a b p q l A B C D E F G K ca cb cc cd ce cf cg ck A1 B1 C1 A2 B2 C2 ca1 cb1 cc1 ca2 cb2 cc2 V X Y w W' → Kn ac' W')) (ha : BtP V X Y ei bo v11 v12 v13 v14 v15 v16 ac) (HM : Hid (BtM a b p q l A B C D E F G K ca cb cc cd ce cf cg ck A1 B1 C1 A2 B2 C2 ca1 cb1 cc1 ca2 cb2 cc2 V X Y w W)) : Code.wp Try.prog (headC (btC 10)) (Exit.then Kn Q) ac W := by
  obtain ⟨u, rfl⟩ := ha
  unfold btF
  conv => arg 2; whnf
  have HT := Lib.hid (Takes_ a A B C G K ca cb cc cg ck l W HM.out.ra HM.out.lh HM.out.ll)
  unfold TkPost at HT
  generalize tkB a l = tb at *
  generalize taErr a l = te at *
  obtain ⟨_, c0, c1, c2, c3, c4⟩ := HM.out.aa
  have l0 := HM.out.l0
  have l1 := HM.out.l1
  go_wp2_with fail
  refine HT.out.mono ?_
  rintro e w3 ⟨rfl, hb3⟩
  have HM3 := Lib.hid (HM.out.on hb3)
  clear hb3 c0 c1 c2 c3 c4 l0 l1
  go_wp2_with fail
  exact HK.out _ _ (BtP.mk rfl) HM3.out
set_option maxRecDepth 100000 in
set_option maxHeartbeats 4000000 in
theorem bt11_ {v11 : Value} (HK : Hid (∀ ac' W', BtP V X Y ei bo v11 v12 v13 v14 (.bool (tkB b l)) (.int .i64 (taErr b l)) ac' → BtM a b p q l A B C D E F G K ca cb cc cd ce cf cg ck A1 B1 C1 A2 B2 C2 ca1 cb1 cc1 ca2 cb2 cc2 V X Y w W' → Kn ac' W')) (ha : BtP V X Y ei bo v11 v12 v13 v14 v15 v16 ac) (HM : Hid (BtM a b p q l A B C D E F G K ca cb cc cd ce cf cg ck A1 B1 C1 A2 B2 C2 ca1 cb1 cc1 ca2 cb2 cc2 V X Y w W)) : Code.wp Try.prog (headC (btC 11)) (Exit.then Kn Q) ac W := by
  obtain ⟨u, rfl⟩ := ha
  unfold btF
  conv => arg 2; whnf
  have HT := Lib.hid (Takes_ b D E F G K cd ce cf cg ck l W HM.out.rb HM.out.lh HM.out.ll)
  unfold TkPost at HT
  generalize tkB b l = tb at *
  generalize taErr b l = te at *
  obtain ⟨_, c0, c1, c2, c3, c4⟩ := HM.out.ab
  have l0 := HM.out.l0
  have l1 := HM.out.l1
  go_wp2_with fail
  refine HT.out.mono ?_
  rintro e w3 ⟨rfl, hb3⟩
  have HM3 := Lib.hid (HM.out.on hb3)
  clear hb3 c0 c1 c2 c3 c4 l0 l1
  go_wp2_with fail
  exact HK.out _ _ (BtP.mk rfl) HM3.out
/-- what is asked of an automaton of either word -/
structure EiOK (a b p : Au) (l : La) (ei : Int) : Prop where
  yes : ei = 0 → ckA p = 0 ∧ p.st = a.st + b.st ∧ p.le = a.le ∧ IntKind.i64.wrap (a.st + b.st) = a.st + b.st ∧ taErr p l = taErr a l ∧ taErr b l = taErr a l ∧ tkB p l = (tkB a l || tkB b l)
  no : ei ≠ 0 → p.st = 0
set_option maxRecDepth 100000 in
set_option maxHeartbeats 4000000 in
theorem bt12_ {v12 : Value} (HE : Hid (EiOK a b p l ei)) (HK : Hid (∀ ac' W', BtP V X Y ei bo (.int .i64 ei) v12 (.bool (tkB a l)) (.int .i64 (taErr a l)) (.bool (tkB b l)) (.int .i64 (taErr b l)) ac' → BtM a b p q l A B C D E F G K ca cb cc cd ce cf cg ck A1 B1 C1 A2 B2 C2 ca1 cb1 cc1 ca2 cb2 cc2 V X Y w W' → Kn ac' W')) (ha : BtP V X Y ei bo (.int .i64 ei) v12 (.bool (tkB a l)) (.int .i64 (taErr a l)) (.bool (tkB b l)) (.int .i64 (taErr b l)) ac) (HM : Hid (BtM a b p q l A B C D E F G K ca cb cc cd ce cf cg ck A1 B1 C1 A2 B2 C2 ca1 cb1 cc1 ca2 cb2 cc2 V X Y w W)) : Code.wp Try.prog (headC (btC 12)) (Exit.then Kn Q) ac W := by
  obtain ⟨u, rfl⟩ := ha
  unfold btF
  conv => arg 2; whnf
  obtain ⟨_, c0, c1, c2, c3, c4⟩ := HM.out.aa
  obtain ⟨_, d0, d1, d2, d3, d4⟩ := HM.out.ab
  obtain ⟨_, x0, x1, x2, x3, x4⟩ := HM.out.ap
  by_cases hz : ei = 0
  · subst hz
    obtain ⟨e1, e2, e3, q1, e4, e5, e6⟩ := HE.out.yes rfl
    have HC := Lib.hid (CheckAuto_ p A1 B1 C1 ca1 cb1 cc1 W HM.out.rp)
    rw [e1] at HC
    have e7 : ¬ (a.st + b.st < p.st) := by omega
    have e8 : (p.le != a.le) = false := by simp [e3]
    have HT := Lib.hid (fun W' (hm : BtM a b p q l A B C D E F G K ca cb cc cd ce cf cg ck A1 B1 C1 A2 B2 C2 ca1 cb1 cc1 ca2 cb2 cc2 V X Y w W') => Takes_ p A1 B1 C1 G K ca1 cb1 cc1 cg ck l W' hm.rp hm.lh hm.ll)
    unfold TkPost at HT
    rw [e4, e6] at HT
    rw [e5] at HK ⊢
    generalize tkB a l = ta at *
    generalize tkB b l = tb at *
    generalize taErr a l = te at *
    clear e1 e2 e3 e4 e5 e6 HE
    go_wp2_with fail
    refine HC.out.mono ?_
    rintro e w3 ⟨rfl, hb3⟩
    have HM3 := Lib.hid (HM.out.on hb3)
    clear hb3 c0 c1 c2 c3 c4 d0 d1 d2 d3 d4 x0 x1 x2 x3 x4 HC
    obtain ⟨_, c0, c1, c2, c3, c4⟩ := HM3.out.aa
    obtain ⟨_, d0, d1, d2, d3, d4⟩ := HM3.out.ab
    obtain ⟨_, x0, x1, x2, x3, x4⟩ := HM3.out.ap
    have l0 := HM3.out.l0
    have l1 := HM3.out.l1
    have HT3 := Lib.hid (HT.out w3 HM3.out)
    go_wp2_with fail
    refine HT3.out.mono ?_
    rintro e w4 ⟨rfl, hb4⟩
    have HM4 := Lib.hid (HM3.out.on hb4)
    clear hb4 c0 c1 c2 c3 c4 d0 d1 d2 d3 d4 x0 x1 x2 x3 x4 l0 l1 HT HT3
    by_cases hg : te = 0
    · subst hg
      cases ta <;> cases tb
      all_goals
        go_wp2_with fail
        exact HK.out _ _ (BtP.mk rfl) HM4.out
    · have e9 : (te == 0) = false := by simp [hg]
      clear hg
      go_wp2_with fail
      exact HK.out _ _ (BtP.mk rfl) HM4.out
  · have hps := HE.out.no hz
    have e1 : (ei == 0) = false := by simp [hz]
    have e2 : (p.st != 0) = false := by simp [hps]
    clear hz hps HE
    generalize tkB a l = ta at *
    generalize tkB b l = tb at *
    generalize taErr a l = te at *
    generalize taErr b l = tf at *
    go_wp2_with fail
    exact HK.out _ _ (BtP.mk rfl) HM.out
end
end Go.Proofs.Ytoglgeaiiipchaa

namespace Go.Proofs.Ytoglgeaiiipchaa
open Go Go.RowKit Go.Shelf Go.Sort

/-- what is asked of an automaton of both words -/
structure BoOK (a b q : Au) (l : La) (bo : Int) : Prop where
  yes : bo = 0 → ∃ P, ckA q = 0 ∧ q.st = P ∧ q.le = a.le ∧ IntKind.i64.wrap (3 * a.st) = 3 * a.st ∧ IntKind.i64.wrap (3 * a.st * b.st) = P ∧ taErr q l = taErr a l ∧ taErr b l = taErr a l ∧ tkB q l = (tkB a l && tkB b l)
  no : bo ≠ 0 → q.st = 0
section
variable {a b p q : Au} {l : La} {A B C D E F G K : Option Addr} {ca cb cc cd ce cf cg ck : Nat} {A1 B1 C1 A2 B2 C2 : Option Addr} {ca1 cb1 cc1 ca2 cb2 cc2 : Nat} {V X Y : Nat} {w W W' : World}
variable {Kn : Act → World → Prop} {Q : Exit → Act → World → Prop} {ac : Act} {ei bo k1 k2 rd : Int} {v12 v13 v14 v15 v16 : Value}
set_option maxRecDepth 100000 in
set_option maxHeartbeats 4000000 in
theorem bt13_ {v11 : Value} (HE : Hid (BoOK a b q l bo)) (HK : Hid (bo = 0 → ∀ ac' W', BtP V X Y ei bo v11 (.int .i64 bo) v13 v14 v15 v16 ac' → BtM a b p q l A B C D E F G K ca cb cc cd ce cf cg ck A1 B1 C1 A2 B2 C2 ca1 cb1 cc1 ca2 cb2 cc2 V X Y w W' → Kn ac' W')) (ha : BtP V X Y ei bo v11 (.int .i64 bo) v13 v14 v15 v16 ac) (HM : Hid (BtM a b p q l A B C D E F G K ca cb cc cd ce cf cg ck A1 B1 C1 A2 B2 C2 ca1 cb1 cc1 ca2 cb2 cc2 V X Y w W)) : Code.wp Try.prog (headC (btC 13)) (Exit.then Kn (bodyPost Try.prog Try.f8 (BoolPost w true))) ac W := by
  obtain ⟨u, rfl⟩ := ha
  unfold btF
  conv => arg 2; whnf
  obtain ⟨_, x0, x1, x2, x3, x4⟩ := HM.out.aq
  by_cases hz : bo = 0
  · have HK0 := Lib.hid (HK.out hz)
    subst hz
    go_wp2_with fail
    exact HK0.out _ _ (BtP.mk rfl) HM.out
  · have hps := HE.out.no hz
    have e1 : (bo != 0) = true := by simp [hz]
    rw [hps] at x0
    have HP : Hid (BoolPost w true (.returned (.bool true)) W) := ⟨rfl, HM.out.below⟩
    clear hz hps HE
    go_wp2_with fail
    go_ret
    exact HP.out
set_option maxRecDepth 100000 in
set_option maxHeartbeats 4000000 in
theorem bt14_ {v11 : Value} (HE : Hid (BoOK a b q l 0)) (HK : Hid (∀ ac' W', BtP V X Y ei 0 v11 v12 v13 v14 v15 v16 ac' → BtM a b p q l A B C D E F G K ca cb cc cd ce cf cg ck A1 B1 C1 A2 B2 C2 ca1 cb1 cc1 ca2 cb2 cc2 V X Y w W' → Kn ac' W')) (ha : BtP V X Y ei 0 v11 v12 v13 v14 v15 v16 ac) (HM : Hid (BtM a b p q l A B C D E F G K ca cb cc cd ce cf cg ck A1 B1 C1 A2 B2 C2 ca1 cb1 cc1 ca2 cb2 cc2 V X Y w W)) : Code.wp Try.prog (headC (btC 14)) (Exit.then Kn Q) ac W := by
  obtain ⟨u, rfl⟩ := ha
  unfold btF
  conv => arg 2; whnf
  obtain ⟨_, c0, c1, c2, c3, c4⟩ := HM.out.aa
  obtain ⟨_, d0, d1, d2, d3, d4⟩ := HM.out.ab
  obtain ⟨_, x0, x1, x2, x3, x4⟩ := HM.out.aq
  obtain ⟨P, e1, e2, e3, q1, q2, _⟩ := HE.out.yes rfl
  have HC := Lib.hid (CheckAuto_ q A2 B2 C2 ca2 cb2 cc2 W HM.out.rq)
  rw [e1] at HC
  have e7 : ¬ (P < q.st) := by omega
  have e8 : (q.le != a.le) = false := by simp [e3]
  clear e1 e2 e3 HE
  go_wp2_with fail
  refine HC.out.mono ?_
  rintro e w3 ⟨rfl, hb3⟩
  have HM3 := Lib.hid (HM.out.on hb3)
  clear hb3 c0 c1 c2 c3 c4 d0 d1 d2 d3 d4 x0 x1 x2 x3 x4 HC
  obtain ⟨_, c0, c1, c2, c3, c4⟩ := HM3.out.aa
  obtain ⟨_, d0, d1, d2, d3, d4⟩ := HM3.out.ab
  obtain ⟨_, x0, x1, x2, x3, x4⟩ := HM3.out.aq
  go_wp2_with fail
  exact HK.out _ _ (BtP.mk rfl) HM3.out
set_option maxRecDepth 100000 in
set_option maxHeartbeats 4000000 in
theorem bt15_ {v11 : Value} (HE : Hid (BoOK a b q l 0)) (ha : BtP V X Y ei 0 v11 v12 (.bool (tkB a l)) (.int .i64 (taErr a l)) (.bool (tkB b l)) (.int .i64 (taErr b l)) ac) (HM : Hid (BtM a b p q l A B C D E F G K ca cb cc cd ce cf cg ck A1 B1 C1 A2 B2 C2 ca1 cb1 cc1 ca2 cb2 cc2 V X Y w W)) : Code.wp Try.prog (btC 15) (bodyPost Try.prog Try.f8 (BoolPost w true)) ac W := by
  obtain ⟨u, rfl⟩ := ha
  unfold btF
  conv => arg 2; whnf
  obtain ⟨_, x0, x1, x2, x3, x4⟩ := HM.out.aq
  have l0 := HM.out.l0
  have l1 := HM.out.l1
  obtain ⟨P, e1, e2, e3, q1, q2, e4, e5, e6⟩ := HE.out.yes rfl
  have HT := Lib.hid (Takes_ q A2 B2 C2 G K ca2 cb2 cc2 cg ck l W HM.out.rq HM.out.lh HM.out.ll)
  unfold TkPost at HT
  rw [e4, e6] at HT
  rw [e5]
  generalize tkB a l = ta at *
  generalize tkB b l = tb at *
  generalize taErr a l = te at *
  clear e1 e2 e3 q1 q2 e4 e5 e6 HE
  go_wp2_with fail
  refine HT.out.mono ?_
  rintro e w4 ⟨rfl, hb4⟩
  have HP : Hid (BoolPost w true (.returned (.bool true)) w4) := ⟨rfl, (HM.out.on hb4).below⟩
  clear hb4 x0 x1 x2 x3 x4 l0 l1 HT
  by_cases hg : te = 0
  · subst hg
    cases ta <;> cases tb
    all_goals
      go_wp2_with fail
      go_ret
      exact HP.out
  · have e9 : (te == 0) = false := by simp [hg]
    have e10 : (te != 0) = true := by simp [hg]
    clear hg
    go_wp2_with fail
    go_ret
    exact HP.out
end
end Go.Proofs.Ytoglgeaiiipchaa
