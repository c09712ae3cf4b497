import Derived.Test.YtoglgeaiiipchaaGreatDoorLMTKM32
import Derived.Deep.RegionLaw
import Derived.Deep.CutBlock
import Derived.Deep.DeepCutAuto
import Derived.Test.YtoglgeaiiipchaaGreatDoorLMTKM8
import Derived.Test.YtoglgeaiiipchaaGreatDoorLMTKM3
set_option linter.unusedSimpArgs false
set_option linter.unusedVariables false
namespace Go.Proofs.YtoglgeaiiipchaaGreatDoor
open Go Go.RowKit
def auW2 (w : World) (a b : Au) (A B C D E F : Option Addr) (ca cb cc cd ce cf : Nat) : World := auW (auW w a A B C ca cb cc) b D E F cd ce cf
structure AuW2 (w W : World) (a b : Au) (A B C D E F : Option Addr) (ca cb cc cd ce cf : Nat) : Prop where
  below : Below w.heap.size w W
  size : W.heap.size = w.heap.size + 2
  at1 : AuAt W w.heap.size a A B C ca cb cc
  at2 : AuAt W (w.heap.size + 1) b D E F cd ce cf
theorem auW2_is (w : World) (a b : Au) (A B C D E F : Option Addr) (ca cb cc cd ce cf : Nat) : AuW2 w (auW2 w a b A B C D E F ca cb cc cd ce cf) a b A B C D E F ca cb cc cd ce cf := by
  have h1 := auW_is w a A B C ca cb cc
  have h2 := auW_is (auW w a A B C ca cb cc) b D E F cd ce cf
  unfold auW2
  have s1 := h1.size
  have s2 := h2.size
  refine ⟨Below_on h1.below h2.below h1.below.size, by omega, h1.at.below h2.below h1.at.lt, ?_⟩
  have := h2.at
  rwa [s1] at this
structure Au2At (W : World) (G : Nat) (a b : Au) (A B C D E F : Option Addr) (ca cb cc cd ce cf : Nat) : Prop where
  lt : G < W.heap.size
  c0 : W.cell? ⟨G, 0, none⟩ = some (.int .i64 a.st)
  c1 : W.cell? ⟨G, 1, none⟩ = some (.int .i64 a.le)
  c2 : W.cell? ⟨G, 2, none⟩ = some (.slice A a.fs.length ca)
  c3 : W.cell? ⟨G, 3, none⟩ = some (.slice B a.gs.length cb)
  c4 : W.cell? ⟨G, 4, none⟩ = some (.slice C a.ss.length cc)
  c5 : W.cell? ⟨G, 5, none⟩ = some (.int .i64 b.st)
  c6 : W.cell? ⟨G, 6, none⟩ = some (.int .i64 b.le)
  c7 : W.cell? ⟨G, 7, none⟩ = some (.slice D b.fs.length cd)
  c8 : W.cell? ⟨G, 8, none⟩ = some (.slice E b.gs.length ce)
  c9 : W.cell? ⟨G, 9, none⟩ = some (.slice F b.ss.length cf)
theorem Au2At.below {W W' : World} {G n : Nat} {a b : Au} {A B C D E F : Option Addr} {ca cb cc cd ce cf : Nat} (h : Au2At W G a b A B C D E F ca cb cc cd ce cf) (hb : Below n W W') (hn : G < n) : Au2At W' G a b A B C D E F ca cb cc cd ce cf :=
  ⟨Nat.lt_of_lt_of_le h.lt hb.size, (hb.cell (p := ⟨G, 0, none⟩) hn).trans h.c0, (hb.cell (p := ⟨G, 1, none⟩) hn).trans h.c1, (hb.cell (p := ⟨G, 2, none⟩) hn).trans h.c2, (hb.cell (p := ⟨G, 3, none⟩) hn).trans h.c3, (hb.cell (p := ⟨G, 4, none⟩) hn).trans h.c4,
    (hb.cell (p := ⟨G, 5, none⟩) hn).trans h.c5, (hb.cell (p := ⟨G, 6, none⟩) hn).trans h.c6, (hb.cell (p := ⟨G, 7, none⟩) hn).trans h.c7, (hb.cell (p := ⟨G, 8, none⟩) hn).trans h.c8, (hb.cell (p := ⟨G, 9, none⟩) hn).trans h.c9⟩
end Go.Proofs.YtoglgeaiiipchaaGreatDoor

namespace Go.Proofs.YtoglgeaiiipchaaGreatDoor
open Go Go.RowKit Go.Sort
def gB2 (a : Au) (x : Int) : Bool := a.gs.getD x.toNat false
theorem good_b {a : Au} {x : Int} (h : 0 ≤ x) : a.good x ↔ gB2 a x = true := ⟨fun g => g.2, fun g => ⟨h, g⟩⟩
theorem mul_in {x s : Int} {m k : Int} (h0 : 0 ≤ x) (h1 : x ≤ m) (h2 : 0 ≤ s) (h3 : s ≤ k) (hk : 0 ≤ k) : 0 ≤ x * s ∧ x * s ≤ m * k := ⟨Int.mul_nonneg h0 h2, Int.mul_le_mul h1 h3 h2 (by omega)⟩
theorem number_ (a b : Au) (A B C D E F : Option Addr) (ca cb cc cd ce cf P : Nat) (x y z : Int) (w : World) (hp : Au2At w P a b A B C D E F ca cb cc cd ce cf) (hx : 0 ≤ x) (hx2 : x ≤ 1000000) (hy : 0 ≤ y) (hy2 : y ≤ 1000000) (hz : 0 ≤ z) (hz2 : z ≤ 2) (hb1 : 1 ≤ b.st) (hb2 : b.st ≤ 1000000) :
    Calls Tryz.prog 104 #[.pointer (some ⟨P, 0, none⟩), .int .i64 x, .int .i64 y, .int .i64 z] w fun e w' => e = .returned (.int .i64 (pnum b x y z)) ∧ w = w' := by
  obtain ⟨_, c0, c1, c2, c3, c4, c5, c6, c7, c8, c9⟩ := hp
  obtain ⟨m1, m2⟩ := mul_in hx hx2 (s := b.st) (k := 1000000) (by omega) hb2 (by omega)
  have HE : Hid ((x * b.st + y) * 3 + z = pnum b x y z) := rfl
  go_enter Tryz.func104, Tryz.ntmps104
  go_wp2_with fail
  go_ret
  exact ⟨ret_int HE.out, rfl⟩
open Classical in
set_option maxRecDepth 100000 in
set_option maxHeartbeats 2000000 in
theorem wait_ (a b : Au) (A B C D E F : Option Addr) (ca cb cc cd ce cf P : Nat) (x y z : Int) (w : World) (hp : Au2At w P a b A B C D E F ca cb cc cd ce cf) (hga : Bools w 0 B cb a.gs) (hgb : Bools w 0 E ce b.gs)
    (hx : 0 ≤ x) (hx2 : x < a.gs.length) (hy : 0 ≤ y) (hy2 : y < b.gs.length) (hz : 0 ≤ z) (hz2 : z ≤ 2) :
    Calls Tryz.prog 105 #[.pointer (some ⟨P, 0, none⟩), .int .i64 x, .int .i64 y, .int .i64 z] w fun e w' => e = .returned (.int .i64 (pwait a b x y z)) ∧ w = w' := by
  obtain ⟨_, c0, c1, c2, c3, c4, c5, c6, c7, c8, c9⟩ := hp
  have HPW : Hid (pwait a b x y z = (let w0 := if z = 2 then 0 else z; let w1 := if w0 = 0 ∧ gB2 a x = true then 1 else w0; if w1 = 1 ∧ gB2 b y = true then 2 else w1)) := by
    show _ = _
    unfold pwait
    simp only [good_b hx, good_b hy]
  obtain ⟨n, rfl⟩ := Int.eq_ofNat_of_zero_le hx
  obtain ⟨m, rfl⟩ := Int.eq_ofNat_of_zero_le hy
  have l1 := hga.le
  have l2 := hgb.le
  have l3 := hga.cap
  have l4 := hgb.cap
  obtain ⟨g1, o1, rfl, _, _, x1⟩ := Bools.at_ hga (k := n) (by omega)
  obtain ⟨g2, o2, rfl, _, _, x2⟩ := Bools.at_ hgb (k := m) (by omega)
  have e1 : a.gs[n]'(by omega) = gB2 a n := by unfold gB2; rw [Int.toNat_natCast, List.getD_eq_getElem?_getD, List.getElem?_eq_getElem]; rfl
  have e2 : b.gs[m]'(by omega) = gB2 b m := by unfold gB2; rw [Int.toNat_natCast, List.getD_eq_getElem?_getD, List.getElem?_eq_getElem]; rfl
  rw [e1] at x1
  rw [e2] at x2
  clear e1 e2 hga hgb
  generalize gB2 a n = ga at *
  generalize gB2 b m = gb at *
  have hz3 : z = 0 ∨ z = 1 ∨ z = 2 := by omega
  rcases hz3 with rfl | rfl | rfl
  all_goals
    cases ga <;> cases gb
    all_goals
      simp at HPW
      go_enter Tryz.func105, Tryz.ntmps105
      go_wp2_with fail
      go_ret
      exact ⟨ret_int HPW.out.symm, rfl⟩
end Go.Proofs.YtoglgeaiiipchaaGreatDoor

namespace Go.Proofs.YtoglgeaiiipchaaGreatDoor
open Go Go.RowKit
section
variable {n : Nat} {P : Program}
theorem wp_range_ownN {α : Type} {g : Operand} {ps : Array Tmp} {assign body : Code} {Q : Exit → Act → World → Prop} {a : Act} {w : World} {l0 : Nat} {r0 : Loop} (hl0 : w.heap[l0]? = some (.loop r0)) (h1 : 1 ≤ n) {gf : Nat} {lb : Array Value}
    (hg : a.eval g = .func (.func gf) #[] lb) (eg : ∀ args w, (callFunc gf args).run P w = .ok (.enter gf args) w)
    {encs : α → Array Value} {Kp : World → World → Prop} {S : World → Prop} {xs : List α} {w0 : World} (hseq : SeqO (n - 1) P gf lb encs Kp S xs w0)
    (hKt : ∀ {A B C : World}, Kp A B → Kp B C → Kp A C) (hKb : ∀ (W : World) (r r' : Loop), W.heap[w.heap.size]? = some (.loop r) → Kp W (W.putObj w.heap.size (.loop r'))) (hS : ∀ r, S (w.alloc (.loop r)))
    (hb0 : Below w0.heap.size w0 w) (hps : ∀ x, (encs x).size = ps.size)
    (I : List α → World → Prop) (Ix : Code → List α → World → Prop) (hI : OwnFrom w.heap.size I) (hIx : ∀ c, OwnFrom w.heap.size (Ix c)) (h0 : I [] w)
    (Ax : α → Act → World → Prop) (hAx : ∀ x a', OwnFrom w.heap.size (fun (_ : Unit) W => Ax x a' W))
    (hassign : ∀ (l : Nat) (pre : List α) (x : α) (W : World) (K : Act → World → Prop), I pre W → (∀ a' W', KeepsFrom w.heap.size W W' → Kp W W' → I pre W' → Ax x a' W' → K a' W') →
      assign.wpIn (Fence.wide.inRound l) (n - 1 - 1) P (Exit.then K (fun _ _ _ => False)) { tmps := (ps.zip (encs x)).foldl (fun t (p, v) => t.setIfInBounds p v) a.tmps, defers := [] } W)
    (hbody : ∀ (l : Nat) (pre : List α) (x : α) (a' : Act) (W : World), w.heap.size ≤ l → (∃ r, W.heap[l]? = some (.loop r)) → I pre W → Ax x a' W → pre ++ [x] <+: xs →
      body.wpIn (Fence.wide.inRound l) (n - 1 - 1) P (ownPostO w.heap.size Kp I Ix (pre ++ [x]) W) a' W)
    (hdone : ∀ (W : World), I xs W → Q .normal a W)
    (hstop : ∀ (c : Code) (pre : List α) (W : World), pre <+: xs → Ix c pre W → c.wpIn (Fence.wide.inRound l0) n P Q a W) :
    (Code.rangeFunc g ps assign body).wpIn (Fence.wide.inRound l0) n P Q a w := by
  refine wpIn_rangeFunc fun fn hfn => ?_
  have hL := Nat.lt_succ_self w.heap.size
  generalize hrec : (fun st pe => ({ state := st, pending := pe, fn, tmps := a.tmps, params := ps, assign, body, defers := r0.defers } : Loop)) = rec
  have hrs : ∀ st pe, (rec st pe).state = st := by intro st pe; rw [← hrec]
  have hrp : ∀ st pe, (rec st pe).pending = pe := by intro st pe; rw [← hrec]
  obtain ⟨W1, hW1⟩ : ∃ W1, W1 = w.alloc (.loop (rec .ready none)) := ⟨_, rfl⟩
  have hs1 : W1.heap.size = w.heap.size + 1 := by rw [hW1]; simp
  have rL : W1.heap[w.heap.size]? = some (.loop (rec .ready none)) := by rw [hW1]; exact World.alloc_heap_new w _
  have i1 : I [] W1 := by rw [hW1]; exact hI.alloc _ h0
  have b1 : Below w0.heap.size w0 W1 := by
    have hb : Below w.heap.size w W1 := by rw [hW1]; exact (Below.refl _ w).alloc (Nat.le_refl _) _
    exact hb0.trans (hb.mono hb0.size)
  refine ⟨w.heap.size, [], W1, { target := .fn (.func gf) lb, args := #[.func (.yield w.heap.size) #[] #[]] }, W1, gf,
    #[.func (.yield w.heap.size) #[] #[]] ++ lb, W1, ?_, ?_, fun _ _ => trivial, ?_, fun _ => h1, ?_⟩
  · rw [hW1, ← hrec]
    exact run_enterLoop_inner hl0 _ _ _ _ _
  · simp only [resolve, hg]
    simp [go_sem]
  · simp [invoke, go_sem, eg]
  · have own2 : ∀ {A B : World} {row : Option Nat}, (∀ r, row = some r → W1.heap.size ≤ r ∧ ∃ o : Obj, A.heap[r]? = some o ∧ o.isCells = false) → (∀ r, row = some r → w.heap.size ≤ r ∧ ∃ o : Obj, A.heap[r]? = some o ∧ o.isCells = false) :=
      fun hr r e => ⟨by have := (hr r e).1; omega, (hr r e).2⟩
    refine (hseq w.heap.size
      (fun pre W => I pre W ∧ W.heap[w.heap.size]? = some (.loop (rec .ready none)))
      (fun pre W => ∃ c, Ix c pre W ∧ W.heap[w.heap.size]? = some (.loop (rec .done (some c))))
      W1 b1 (by rw [hW1]; exact hS _)
      (fun s A B row hs hg' hr => ⟨hI s A B row hs.1 hg' (own2 (B := B) hr), kept_far hg' (fun r e => (hr r e).1) (by omega) hs.2⟩)
      (fun s A B row ⟨c, hc, h2⟩ hg' hr => ⟨c, hIx c s A B row hc hg' (own2 (B := B) hr), kept_far hg' (fun r e => (hr r e).1) (by omega) h2⟩)
      ?_ ⟨i1, rL⟩).mono ?_
    · rintro pre x W ⟨hi, hl⟩ hpre
      have hlt : w.heap.size < W.heap.size := (Array.getElem?_eq_some_iff.1 hl).1
      have hy := run_yield (P := P) (args := encs x) hl (by rw [← hrec]; exact hps x)
      rw [← hrec] at hy
      refine ⟨fn, _, assign, body, hy, roundIn_of_wpIn hfn (hassign _ pre x W _ hi fun a' Wa ka kpa ia xa => ?_)⟩
      clear hy
      have hla := ka.same _ _ (by omega) hl rfl
      have hlta : w.heap.size < Wa.heap.size := (Array.getElem?_eq_some_iff.1 hla).1
      refine ⟨_, run_beginRound hla (hrs _ _), ?_⟩
      obtain ⟨W2, hW2⟩ : ∃ W2, W2 = Wa.putObj w.heap.size (.loop { rec .ready none with state := .busy }) := ⟨_, rfl⟩
      rw [← hW2]
      have hl2 : W2.heap[w.heap.size]? = some (.loop { rec .ready none with state := .busy }) := by rw [hW2]; exact World.putObj_heap_same hlta
      have kp2 : Kp Wa W2 := by rw [hW2]; exact hKb _ _ _ hla
      have i2 : I pre W2 := by rw [hW2]; exact hI.putObj _ ia (by omega) hla rfl
      have x2 : Ax x a' W2 := by rw [hW2]; exact (hAx x a').putObj (s := ()) _ xa (by omega) hla rfl
      clear hW2
      have fin : ∀ (jump : Option Code) (W3 : World), KeepsFrom w.heap.size W2 W3 → ∃ W4, (Instr.endRound w.heap.size jump).run P W3 = .ok (.bool jump.isNone) W4 ∧
          (W3.heap[w.heap.size]? = some (.loop { rec .ready none with state := .busy })) ∧ W4 = W3.putObj w.heap.size (.loop (rec (if jump.isNone then .ready else .done) jump)) ∧
          W4.heap[w.heap.size]? = some (.loop (rec (if jump.isNone then .ready else .done) jump)) := fun jump W3 k3 => by
        have h3 := k3.same _ _ (by omega) hl2 rfl
        refine ⟨_, ?_, h3, rfl, World.putObj_heap_same (Array.getElem?_eq_some_iff.1 h3).1⟩
        have := run_endRound (P := P) jump h3
        rw [← hrec] at this ⊢
        exact this
      refine wpIn_mono (hbody _ pre x a' W2 (by omega) ⟨_, hl2⟩ i2 x2 hpre) ?_
      rintro e a3 W3 hp
      have leave : ∀ c : Code, KeepsFrom w.heap.size W2 W3 ∧ Kp W2 W3 ∧ Ix c (pre ++ [x]) W3 → ∃ v W4, (Instr.endRound w.heap.size (some c)).run P W3 = .ok v W4 ∧
          ((Ending.returned v = .returned (.bool true) ∧ (I (pre ++ [x]) W4 ∧ W4.heap[w.heap.size]? = some (.loop (rec .ready none))) ∧ Kp W W4) ∨
          (Ending.returned v = .returned (.bool false) ∧ (∃ c, Ix c (pre ++ [x]) W4 ∧ W4.heap[w.heap.size]? = some (.loop (rec .done (some c)))) ∧ Kp W W4)) := fun c ⟨k3, kp3, i3⟩ => by
        obtain ⟨W4, hr, h3, hW4, h5⟩ := fin (some c) W3 k3
        exact ⟨_, W4, hr, .inr ⟨rfl, ⟨c, by rw [hW4]; exact (hIx c).putObj _ i3 (by omega) h3 rfl, h5⟩, hKt kpa (hKt kp2 (hKt kp3 (by rw [hW4]; exact hKb _ _ _ h3)))⟩⟩
      cases e with
      | normal =>
        obtain ⟨k3, kp3, i3⟩ := hp
        obtain ⟨W4, hr, h3, hW4, h5⟩ := fin none W3 k3
        refine ⟨_, W4, hr, .inl ⟨rfl, ⟨by rw [hW4]; exact hI.putObj _ i3 (by omega) h3 rfl, h5⟩, hKt kpa (hKt kp2 (hKt kp3 ?_))⟩⟩
        rw [hW4]
        exact hKb _ _ _ h3
      | ret => exact leave _ hp
      | exit id => exact leave _ hp
      | goto t => exact leave _ hp
      | panic ch => exact hp.elim
      | outgrown => exact hp.elim
    · rintro e W2 ⟨⟨v, rfl⟩, (⟨hi, hl⟩ | ⟨pre, hpre, c, hi, hl⟩)⟩
      · have he := run_endLoop (P := P) hl (by rw [hrs]; decide)
        rw [hrp] at he
        exact ⟨none, _, he, hdone _ (hI.putObj _ hi (by omega) hl rfl)⟩
      · have he := run_endLoop (P := P) hl (by rw [hrs]; decide)
        rw [hrp] at he
        exact ⟨some c, _, he, hstop c pre _ hpre ((hIx c).putObj _ hi (by omega) hl rfl)⟩
end
end Go.Proofs.YtoglgeaiiipchaaGreatDoor
