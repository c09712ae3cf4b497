/- A variable with a row of its own, among what rounds may turn. -/
import Derived.RangeFuncNested
import Derived.RangeFuncLeaves
import Derived.Test.YtoglgeaiiipchaaLBTM1
import Derived.RangeFuncBox
set_option linter.unusedSimpArgs false
set_option linter.unusedVariables false
namespace Go.Proofs.Ytoglgeaiiipchaa
open Go Go.RowKit

/-- An iterator value gives the list xs, one by one, to the rounds of whatever loop: a round that goes on carries J on, one that stops leaves Jx; both abide that blocks that are no cells and were laid since the call are turned. -/
def SeqO {α : Type} (n : Nat) (P : Program) (g : Nat) (lb : Array Value) (encs : α → Array Value) (Kp : World → World → Prop) (S : World → Prop) (xs : List α) (w : World) : Prop :=
  ∀ (l : Nat) (J Jx : List α → World → Prop) (W : World), Below w.heap.size w W → S W → OwnFrom W.heap.size J → OwnFrom W.heap.size Jx →
    (∀ pre x W1, J pre W1 → pre ++ [x] <+: xs → YieldAt Fence.wide (n - 1) P l (encs x) W1 fun e W' =>
      (e = .returned (.bool true) ∧ J (pre ++ [x]) W' ∧ Kp W1 W') ∨ (e = .returned (.bool false) ∧ Jx (pre ++ [x]) W' ∧ Kp W1 W')) →
    J [] W →
    CallsIn Fence.wide n P g (#[.func (.yield l) #[] #[]] ++ lb) W fun e W' => (∃ v, e = .returned v) ∧ (J xs W' ∨ ∃ pre, pre <+: xs ∧ Jx pre W')

/-- what a round leaves -/
def ownPostO {α : Type} (B : Nat) (Kp : World → World → Prop) (I : List α → World → Prop) (Ix : Code → List α → World → Prop) (xs : List α) (W : World) : Exit → Act → World → Prop
  | .normal, _, W' => KeepsFrom B W W' ∧ Kp W W' ∧ I xs W'
  | .ret, _, W' => KeepsFrom B W W' ∧ Kp W W' ∧ Ix .ret xs W'
  | .exit id, _, W' => KeepsFrom B W W' ∧ Kp W W' ∧ Ix (.exit id) xs W'
  | .goto t, _, W' => KeepsFrom B W W' ∧ Kp W W' ∧ Ix (.goto t) xs W'
  | .panic _, _, _ => False
  | .outgrown, _, _ => False
theorem kept_far {W W' : World} {row : Option Nat} {B k : Nat} {o : Obj} (hg : W.grownBy W' row) (hr : ∀ r, row = some r → B ≤ r) (hk : k < B) (h : W.heap[k]? = some o) : W'.heap[k]? = some o :=
  (hg.block k (Array.getElem?_eq_some_iff.1 h).1 (fun e => by have := hr k e.symm; omega)).trans h

section
variable {n : Nat} {P : Program}
/-- the statement 'for .. := range g { .. }', outside of every other such loop -/
theorem wp_range_own {α : Type} {g : Operand} {ps : Array Tmp} {assign body : Code} {Q : Exit → Act → World → Prop} {a : Act} {w : World} (h1 : 1 ≤ n) {gf : Nat} {lb : Array Value}
    (hg : a.eval g = .func (.func gf) #[] lb) (eg : ∀ args w, (callFunc gf args).run P w = .ok (.enter gf args) w)
    {encs : α → Array Value} {Kp : World → World → Prop} {S : World → Prop} {xs : List α} {w0 : World} (hseq : SeqO (n - 1) P gf lb encs Kp S xs w0)
    (hKt : ∀ {A B C : World}, Kp A B → Kp B C → Kp A C) (hKb : ∀ (W : World) (r r' : Loop), W.heap[w.heap.size + 1]? = some (.loop r) → Kp W (W.putObj (w.heap.size + 1) (.loop r'))) (hS : ∀ r, S ((w.alloc (.deferred (some []))).alloc (.loop r)))
    (hb0 : Below w0.heap.size w0 w) (hps : ∀ x, (encs x).size = ps.size)
    (I : List α → World → Prop) (Ix : Code → List α → World → Prop) (hI : OwnFrom w.heap.size I) (hIx : ∀ c, OwnFrom w.heap.size (Ix c)) (h0 : I [] w)
    (Ax : α → Act → World → Prop) (hAx : ∀ x a', OwnFrom w.heap.size (fun (_ : Unit) W => Ax x a' W))
    (hassign : ∀ (l : Nat) (pre : List α) (x : α) (W : World) (K : Act → World → Prop), I pre W → (∀ a' W', KeepsFrom w.heap.size W W' → Kp W W' → I pre W' → Ax x a' W' → K a' W') →
      assign.wpIn (Fence.wide.inRound l) (n - 1 - 1) P (Exit.then K (fun _ _ _ => False)) { tmps := (ps.zip (encs x)).foldl (fun t (p, v) => t.setIfInBounds p v) a.tmps, defers := [] } W)
    (hbody : ∀ (l : Nat) (pre : List α) (x : α) (a' : Act) (W : World), w.heap.size ≤ l → (∃ r, W.heap[l]? = some (.loop r)) → I pre W → Ax x a' W → pre ++ [x] <+: xs →
      body.wpIn (Fence.wide.inRound l) (n - 1 - 1) P (ownPostO w.heap.size Kp I Ix (pre ++ [x]) W) a' W)
    (hdone : ∀ (D : Nat) (W : World), w.heap.size ≤ D → I xs W → W.heap[D]? = some (.deferred (some [])) → Q .normal { a with defers := { target := .collected D, args := #[] } :: a.defers } W)
    (hstop : ∀ (D : Nat) (c : Code) (pre : List α) (W : World), w.heap.size ≤ D → pre <+: xs → Ix c pre W → W.heap[D]? = some (.deferred (some [])) → c.wpIn Fence.wide n P Q { a with defers := { target := .collected D, args := #[] } :: a.defers } W) :
    (Code.rangeFunc g ps assign body).wpIn Fence.wide n P Q a w := by
  refine wpIn_rangeFunc fun fn hfn => ?_
  have hL := Nat.lt_succ_self w.heap.size
  generalize hrec : (fun st pe => ({ state := st, pending := pe, fn, tmps := a.tmps, params := ps, assign, body, defers := w.heap.size } : Loop)) = rec
  have hrs : ∀ st pe, (rec st pe).state = st := by intro st pe; rw [← hrec]
  have hrp : ∀ st pe, (rec st pe).pending = pe := by intro st pe; rw [← hrec]
  obtain ⟨W1, hW1⟩ : ∃ W1, W1 = (w.alloc (.deferred (some []))).alloc (.loop (rec .ready none)) := ⟨_, rfl⟩
  have hs1 : W1.heap.size = w.heap.size + 1 + 1 := by rw [hW1]; simp
  have rL : W1.heap[w.heap.size + 1]? = some (.loop (rec .ready none)) := by
    have := World.alloc_heap_new (w.alloc (.deferred (some []))) (.loop (rec .ready none))
    rw [World.size_alloc] at this
    rw [hW1]; exact this
  have rD : W1.heap[w.heap.size]? = some (.deferred (some [])) := by
    rw [hW1, Below.heap_alloc _ _ _ (by simp)]
    exact World.alloc_heap_new w _
  have i1 : I [] W1 := by rw [hW1]; exact hI.alloc _ (hI.alloc _ h0)
  have b1 : Below w0.heap.size w0 W1 := by
    have hb : Below w.heap.size w W1 := by rw [hW1]; exact ((Below.refl _ w).alloc (Nat.le_refl _) _).alloc (by simp) _
    exact hb0.trans (hb.mono hb0.size)
  refine ⟨w.heap.size + 1, [{ target := .collected w.heap.size, args := #[] }], W1, { target := .fn (.func gf) lb, args := #[.func (.yield (w.heap.size + 1)) #[] #[]] }, W1, gf,
    #[.func (.yield (w.heap.size + 1)) #[] #[]] ++ lb, W1, ?_, ?_, fun _ _ => trivial, ?_, fun _ => h1, ?_⟩
  · rw [hW1, ← hrec]
    exact run_enterLoop_outer _ _ _ _ _
  · simp only [resolve, hg]
    simp [go_sem]
  · simp [invoke, go_sem, eg]
  · have own2 : ∀ {A B : World} {row : Option Nat}, (∀ r, row = some r → W1.heap.size ≤ r ∧ ∃ o : Obj, A.heap[r]? = some o ∧ o.isCells = false) → (∀ r, row = some r → w.heap.size ≤ r ∧ ∃ o : Obj, A.heap[r]? = some o ∧ o.isCells = false) :=
      fun hr r e => ⟨by have := (hr r e).1; omega, (hr r e).2⟩
    refine (hseq (w.heap.size + 1)
      (fun pre W => I pre W ∧ W.heap[w.heap.size + 1]? = some (.loop (rec .ready none)) ∧ W.heap[w.heap.size]? = some (.deferred (some [])))
      (fun pre W => ∃ c, Ix c pre W ∧ W.heap[w.heap.size + 1]? = some (.loop (rec .done (some c))) ∧ W.heap[w.heap.size]? = some (.deferred (some [])))
      W1 b1 (by rw [hW1]; exact hS _)
      (fun s A B row hs hg' hr => ⟨hI s A B row hs.1 hg' (own2 (B := B) hr), kept_far hg' (fun r e => (hr r e).1) (by omega) hs.2.1, kept_far hg' (fun r e => (hr r e).1) (by omega) hs.2.2⟩)
      (fun s A B row ⟨c, hc, h2, h3⟩ hg' hr => ⟨c, hIx c s A B row hc hg' (own2 (B := B) hr), kept_far hg' (fun r e => (hr r e).1) (by omega) h2, kept_far hg' (fun r e => (hr r e).1) (by omega) h3⟩)
      ?_ ⟨i1, rL, rD⟩).mono ?_
    · rintro pre x W ⟨hi, hl, hk⟩ hpre
      have hlt : w.heap.size + 1 < W.heap.size := (Array.getElem?_eq_some_iff.1 hl).1
      have hy := run_yield (P := P) (args := encs x) hl (by rw [← hrec]; exact hps x)
      rw [← hrec] at hy
      refine ⟨fn, _, assign, body, hy, roundIn_of_wpIn hfn (hassign _ pre x W _ hi fun a' Wa ka kpa ia xa => ?_)⟩
      clear hy
      have hla := ka.same _ _ (by omega) hl rfl
      have hka := ka.same _ _ (Nat.le_refl _) hk rfl
      have hlta : w.heap.size + 1 < Wa.heap.size := (Array.getElem?_eq_some_iff.1 hla).1
      refine ⟨_, run_beginRound hla (hrs _ _), ?_⟩
      obtain ⟨W2, hW2⟩ : ∃ W2, W2 = Wa.putObj (w.heap.size + 1) (.loop { rec .ready none with state := .busy }) := ⟨_, rfl⟩
      rw [← hW2]
      have hl2 : W2.heap[w.heap.size + 1]? = some (.loop { rec .ready none with state := .busy }) := by rw [hW2]; exact World.putObj_heap_same hlta
      have hk2 : W2.heap[w.heap.size]? = some (.deferred (some [])) := by rw [hW2]; exact (World.putObj_heap_other (by omega)).trans hka
      have kp2 : Kp Wa W2 := by rw [hW2]; exact hKb _ _ _ hla
      have i2 : I pre W2 := by rw [hW2]; exact hI.putObj _ ia (by omega) hla rfl
      have x2 : Ax x a' W2 := by rw [hW2]; exact (hAx x a').putObj (s := ()) _ xa (by omega) hla rfl
      clear hW2
      -- how the round's end leaves the record
      have fin : ∀ (jump : Option Code) (W3 : World), KeepsFrom w.heap.size W2 W3 → ∃ W4, (Instr.endRound (w.heap.size + 1) jump).run P W3 = .ok (.bool jump.isNone) W4 ∧
          (W3.heap[w.heap.size + 1]? = some (.loop { rec .ready none with state := .busy })) ∧ W4 = W3.putObj (w.heap.size + 1) (.loop (rec (if jump.isNone then .ready else .done) jump)) ∧
          W4.heap[w.heap.size + 1]? = some (.loop (rec (if jump.isNone then .ready else .done) jump)) ∧ W4.heap[w.heap.size]? = some (.deferred (some [])) := fun jump W3 k3 => by
        have h3 := k3.same _ _ (by omega) hl2 rfl
        have h4 := k3.same _ _ (Nat.le_refl _) hk2 rfl
        refine ⟨_, ?_, h3, rfl, World.putObj_heap_same (Array.getElem?_eq_some_iff.1 h3).1, (World.putObj_heap_other (by omega)).trans h4⟩
        have := run_endRound (P := P) jump h3
        rw [← hrec] at this ⊢
        exact this
      refine wpIn_mono (hbody _ pre x a' W2 (by omega) ⟨_, hl2⟩ i2 x2 hpre) ?_
      rintro e a3 W3 hp
      have leave : ∀ c : Code, KeepsFrom w.heap.size W2 W3 ∧ Kp W2 W3 ∧ Ix c (pre ++ [x]) W3 → ∃ v W4, (Instr.endRound (w.heap.size + 1) (some c)).run P W3 = .ok v W4 ∧
          ((Ending.returned v = .returned (.bool true) ∧ (I (pre ++ [x]) W4 ∧ W4.heap[w.heap.size + 1]? = some (.loop (rec .ready none)) ∧ W4.heap[w.heap.size]? = some (.deferred (some []))) ∧ Kp W W4) ∨
          (Ending.returned v = .returned (.bool false) ∧ (∃ c, Ix c (pre ++ [x]) W4 ∧ W4.heap[w.heap.size + 1]? = some (.loop (rec .done (some c))) ∧ W4.heap[w.heap.size]? = some (.deferred (some []))) ∧ Kp W W4)) := fun c ⟨k3, kp3, i3⟩ => by
        obtain ⟨W4, hr, h3, hW4, h5, h6⟩ := fin (some c) W3 k3
        exact ⟨_, W4, hr, .inr ⟨rfl, ⟨c, by rw [hW4]; exact (hIx c).putObj _ i3 (by omega) h3 rfl, h5, h6⟩, hKt kpa (hKt kp2 (hKt kp3 (by rw [hW4]; exact hKb _ _ _ h3)))⟩⟩
      cases e with
      | normal =>
        obtain ⟨k3, kp3, i3⟩ := hp
        obtain ⟨W4, hr, h3, hW4, h5, h6⟩ := fin none W3 k3
        refine ⟨_, W4, hr, .inl ⟨rfl, ⟨by rw [hW4]; exact hI.putObj _ i3 (by omega) h3 rfl, h5, h6⟩, hKt kpa (hKt kp2 (hKt kp3 ?_))⟩⟩
        rw [hW4]
        exact hKb _ _ _ h3
      | ret => exact leave _ hp
      | exit id => exact leave _ hp
      | goto t => exact leave _ hp
      | panic ch => exact hp.elim
      | outgrown => exact hp.elim
    · rintro e W2 ⟨⟨v, rfl⟩, (⟨hi, hl, hk⟩ | ⟨pre, hpre, c, hi, hl, hk⟩)⟩
      · have he := run_endLoop (P := P) hl (by rw [hrs]; decide)
        rw [hrp] at he
        exact ⟨none, _, he, hdone _ _ (Nat.le_refl _) (hI.putObj _ hi (by omega) hl rfl) ((World.putObj_heap_other (by omega)).trans hk)⟩
      · have he := run_endLoop (P := P) hl (by rw [hrs]; decide)
        rw [hrp] at he
        exact ⟨some c, _, he, hstop _ c pre _ (Nat.le_refl _) hpre ((hIx c).putObj _ hi (by omega) hl rfl) ((World.putObj_heap_other (by omega)).trans hk)⟩
end

/-- at the wide fence no depth is asked; a round within a round is one as it stands -/
theorem round_any {n n' k : Nat} {P : Program} {l l' : Nat} {f : FuncId} {tmps : Array Value} {assign body : Code} {w : World} {R R' : Ending → World → Prop} (h : RoundIn Fence.wide n P l f tmps assign body w R) (hr : ∀ e w, R e w → R' e w) :
    (Fence.wide.depth.isSome = true → 1 ≤ k) ∧ RoundIn (Fence.wide.inRound l') n' P l f tmps assign body w R' :=
  ⟨(fun h => (by cases h)), (show RoundIn Fence.wide n' P l f tmps assign body w R from ⟨h.1, fun c cs _ => h.2 c cs (room_wide _)⟩).mono hr⟩
/-- the deferred marks of an activation whose loops have ended -/
def Marks (B : Nat) (W : World) (ds : List Deferred) : Prop := ∃ Ds : List Nat, ds = Ds.map (fun D => { target := .collected D, args := #[] }) ∧ Ds.Nodup ∧ ∀ D ∈ Ds, B ≤ D ∧ W.heap[D]? = some (.deferred (some []))
theorem Marks.nil (B : Nat) (W : World) : Marks B W [] := ⟨[], rfl, .nil, fun D h => by cases h⟩
theorem Marks.cons {B : Nat} {W : World} {ds : List Deferred} {D : Nat} {w0 : World} (h : Marks B w0 ds) (hk : ∀ k o, W.heap.size ≤ W.heap.size → k < w0.heap.size → w0.heap[k]? = some o → o.isCells = false → W.heap[k]? = some o) (hD : w0.heap.size ≤ D) (hB : B ≤ D) (hd : W.heap[D]? = some (.deferred (some []))) :
    Marks B W ({ target := .collected D, args := #[] } :: ds) := by
  obtain ⟨Ds, rfl, hn, ha⟩ := h
  refine ⟨D :: Ds, rfl, List.nodup_cons.2 ⟨fun hm => ?_, hn⟩, fun D' hm => ?_⟩
  · have := (Array.getElem?_eq_some_iff.1 (ha D hm).2).1
    omega
  · rcases List.mem_cons.1 hm with rfl | hm
    · exact ⟨hB, hd⟩
    · have := (ha D' hm).2
      exact ⟨(ha D' hm).1, hk D' _ (Nat.le_refl _) (Array.getElem?_eq_some_iff.1 this).1 this rfl⟩
/-- a return past marks: what holds of the world and abides the turn of blocks that are no cells -/
theorem leaves_marks {P : Program} {n : Nat} {fn : Func} {tmps : Array Value} {R : Ending → World → Prop} {v : Value} {B : Nat} {I : Unit → World → Prop} (hI : OwnFrom B I) (hR : ∀ W, I () W → LeavesIn Fence.wide n P fn tmps R [] .returning W) :
    ∀ (ds : List Deferred) (W : World), Marks B W ds → I () W → LeavesInM Fence.wide n P fn tmps R ds .returning W := by
  intro ds
  induction ds with
  | nil => exact fun W _ hi => hR W hi
  | cons d ds ih =>
    rintro W ⟨Ds, he, hn, ha⟩ hi
    cases Ds with
    | nil => cases he
    | cons D Ds =>
      obtain ⟨rfl, rfl⟩ : d = _ ∧ ds = _ := by simpa using he
      obtain ⟨hn1, hn2⟩ := List.nodup_cons.1 hn
      have hd := (ha D (List.mem_cons_self ..)).2
      refine ⟨by simp, .inl ⟨D, _, rfl, run_takeDeferred hd, ih _ ⟨Ds, rfl, hn2, fun D' hm => ⟨(ha D' (List.mem_cons_of_mem _ hm)).1, ?_⟩⟩ (hI.putObj _ hi (ha D (List.mem_cons_self ..)).1 hd rfl)⟩⟩
      exact (World.putObj_heap_other (fun e => hn1 (by rw [← e]; exact hm))).trans (ha D' (List.mem_cons_of_mem _ hm)).2
end Go.Proofs.Ytoglgeaiiipchaa

namespace Go.Proofs.Ytoglgeaiiipchaa
open Go Go.RowKit

/-- the blocks that a round may turn -/
def Bad (Ms Fs : List Nat) (W : World) (k : Nat) : Prop := k ∈ Ms ∨ k ∈ Fs ∨ ∃ F ∈ Fs, ∃ o ad n c, W.cell? ⟨F, o, none⟩ = some (.slice (some ad) n c) ∧ ad.block = k
structure Sane (lo : Nat) (Ms Fs : List Nat) (W : World) : Prop where
  bad : ∀ k, Bad Ms Fs W k → lo ≤ k ∧ k < W.heap.size
  row : ∀ F ∈ Fs, ∀ o ad n c, W.cell? ⟨F, o, none⟩ = some (.slice (some ad) n c) → ∃ ob, W.heap[ad.block]? = some ob ∧ ob.isCells = true
structure Off (lo : Nat) (Ms Fs : List Nat) (W W' : World) : Prop where
  os : W'.os = W.os
  tape : W'.tape = W.tape
  output : W'.output = W.output
  size : W.heap.size ≤ W'.heap.size
  block : ∀ k, k < W.heap.size → ¬ Bad Ms Fs W k → W'.heap[k]? = W.heap[k]?
  bad : ∀ k, Bad Ms Fs W' k → Bad Ms Fs W k ∨ W.heap.size ≤ k
  sane : Sane lo Ms Fs W'
/-- what a round that goes on keeps -/
def KpO (lo : Nat) (Ms Fs : List Nat) (W W' : World) : Prop := Sane lo Ms Fs W → Off lo Ms Fs W W'

theorem cell_of_heap {W W' : World} {k : Nat} (h : W'.heap[k]? = W.heap[k]?) (o : Nat) : W'.cell? ⟨k, o, none⟩ = W.cell? ⟨k, o, none⟩ := by simp only [World.cell?, h]

variable {lo : Nat} {Ms Fs : List Nat} {A B C : World}
theorem Off.refl (h : Sane lo Ms Fs A) : Off lo Ms Fs A A := ⟨rfl, rfl, rfl, Nat.le_refl _, fun _ _ _ => rfl, fun _ h => .inl h, h⟩
theorem Off.trans (h : Off lo Ms Fs A B) (k : Off lo Ms Fs B C) : Off lo Ms Fs A C := by
  refine ⟨k.os.trans h.os, k.tape.trans h.tape, k.output.trans h.output, Nat.le_trans h.size k.size, fun j hj hn => ?_, fun j hj => ?_, k.sane⟩
  · refine (k.block j (Nat.lt_of_lt_of_le hj h.size) fun hb => ?_).trans (h.block j hj hn)
    rcases h.bad j hb with h1 | h1
    · exact hn h1
    · omega
  · rcases k.bad j hj with h1 | h1
    · exact h.bad j h1
    · exact .inr (Nat.le_trans h.size h1)
theorem KpO.trans (h : KpO lo Ms Fs A B) (k : KpO lo Ms Fs B C) : KpO lo Ms Fs A C := fun hs => (h hs).trans (k (h hs).sane)
theorem Sane.F_lt (h : Sane lo Ms Fs A) {F : Nat} (hF : F ∈ Fs) : F < A.heap.size := (h.bad F (.inr (.inl hF))).2
/-- what keeps all that lay below n, the variables among it, turns no badness -/
theorem bad_below {n k : Nat} (hF : ∀ F ∈ Fs, F < n) (hb : Below n A B) : Bad Ms Fs B k ↔ Bad Ms Fs A k := by
  unfold Bad
  refine or_congr Iff.rfl (or_congr Iff.rfl ⟨?_, ?_⟩)
  · rintro ⟨F, hm, o, ad, m, c, hc, he⟩
    exact ⟨F, hm, o, ad, m, c, (hb.cell (p := ⟨F, o, none⟩) (hF F hm)).symm.trans hc, he⟩
  · rintro ⟨F, hm, o, ad, m, c, hc, he⟩
    exact ⟨F, hm, o, ad, m, c, (hb.cell (p := ⟨F, o, none⟩) (hF F hm)).trans hc, he⟩
theorem Off.of_below (hs : Sane lo Ms Fs A) (hb : Below A.heap.size A B) : Off lo Ms Fs A B := by
  have e : ∀ k, Bad Ms Fs B k ↔ Bad Ms Fs A k := fun k => bad_below (fun F hF => hs.F_lt hF) hb
  refine ⟨hb.os, hb.tape, hb.output, hb.size, fun k hk _ => hb.block k hk, fun k hk => .inl ((e k).1 hk), ⟨fun k hk => ?_, fun F hF o ad n c hc => ?_⟩⟩
  · have := hs.bad k ((e k).1 hk)
    exact ⟨this.1, Nat.lt_of_lt_of_le this.2 hb.size⟩
  · have hc' := (hb.cell (p := ⟨F, o, none⟩) (hs.F_lt hF)).symm.trans hc
    obtain ⟨ob, h1, h2⟩ := hs.row F hF o ad n c hc'
    exact ⟨ob, (hb.block _ (hs.bad _ (.inr (.inr ⟨F, hF, o, ad, n, c, hc', rfl⟩))).2).trans h1, h2⟩
theorem KpO.of_below (hb : Below A.heap.size A B) : KpO lo Ms Fs A B := fun hs => .of_below hs hb
theorem Off.below (h : Off lo Ms Fs A B) (hs : Sane lo Ms Fs A) (hl : lo ≤ A.heap.size) : Below lo A B :=
  ⟨h.os, h.tape, h.output, h.size, fun k hk => h.block k (by omega) fun hb => by have := (hs.bad k hb).1; omega⟩
/-- a block that no round turns -/
structure Good (lo : Nat) (Ms Fs : List Nat) (W : World) (k : Nat) : Prop where
  lt : k < W.heap.size
  not : ¬ Bad Ms Fs W k
theorem Good.off {k : Nat} (h : Good lo Ms Fs A k) (ho : Off lo Ms Fs A B) : Good lo Ms Fs B k := ⟨Nat.lt_of_lt_of_le h.lt ho.size, fun hb => (ho.bad k hb).elim h.not (fun h1 => by have := h.lt; omega)⟩
theorem Good.cell {k o : Nat} (h : Good lo Ms Fs A k) (ho : Off lo Ms Fs A B) : B.cell? ⟨k, o, none⟩ = A.cell? ⟨k, o, none⟩ := cell_of_heap (ho.block k h.lt h.not) o
theorem Good.new {k : Nat} (hs : Sane lo Ms Fs A) (hb : Below A.heap.size A B) (h1 : A.heap.size ≤ k) (h2 : k < B.heap.size) : Good lo Ms Fs B k :=
  ⟨h2, fun h => by have := hs.bad k ((bad_below (fun F hF => hs.F_lt hF) hb).1 h); omega⟩
theorem Good.low {k : Nat} (hs : Sane lo Ms Fs A) (h1 : k < lo) (h2 : k < A.heap.size) : Good lo Ms Fs A k := ⟨h2, fun h => by have := hs.bad k h; omega⟩
theorem Good.below {k n : Nat} (h : Good lo Ms Fs A k) (hF : ∀ F ∈ Fs, F < n) (hb : Below n A B) : Good lo Ms Fs B k := ⟨Nat.lt_of_lt_of_le h.lt hb.size, fun hbad => h.not ((bad_below hF hb).1 hbad)⟩
/-- one block more that may turn -/
theorem Bad.cons {l k : Nat} (h : Bad Ms Fs A k) : Bad (l :: Ms) Fs A k := h.elim (fun h => .inl (List.mem_cons_of_mem _ h)) .inr
theorem Bad.of_cons {l k : Nat} (h : Bad (l :: Ms) Fs A k) : k = l ∨ Bad Ms Fs A k := by
  rcases h with h | h
  · rcases List.mem_cons.1 h with h | h
    · exact .inl h
    · exact .inr (.inl h)
  · exact .inr (.inr h)
theorem Sane.cons {l : Nat} (hs : Sane lo Ms Fs A) (h1 : lo ≤ l) (h2 : l < A.heap.size) : Sane lo (l :: Ms) Fs A := ⟨fun k hk => by
  rcases hk.of_cons with rfl | hk
  · exact ⟨h1, h2⟩
  · exact hs.bad k hk, hs.row⟩
theorem Sane.of_cons {l : Nat} (hs : Sane lo (l :: Ms) Fs A) : Sane lo Ms Fs A := ⟨fun k hk => hs.bad k hk.cons, hs.row⟩
theorem Off.cons {l : Nat} (h : Off lo Ms Fs A B) (h1 : lo ≤ l) (h2 : l < A.heap.size) : Off lo (l :: Ms) Fs A B := by
  refine ⟨h.os, h.tape, h.output, h.size, fun k hk hn => h.block k hk fun hb => hn hb.cons, fun k hk => ?_, h.sane.cons h1 (Nat.lt_of_lt_of_le h2 h.size)⟩
  rcases hk.of_cons with rfl | hk
  · exact .inl (.inl (List.mem_cons_self ..))
  · exact (h.bad k hk).imp Bad.cons id
/-- a turn of a block among Ms that is no cells -/
theorem Off.put {l : Nat} (hs : Sane lo Ms Fs A) (hl : l ∈ Ms) {o o' : Obj} (ho : A.heap[l]? = some o) (hc : o.isCells = false) (hc' : o'.isCells = false) : Off lo Ms Fs A (A.putObj l o') := by
  have cl : ∀ F i, (A.putObj l o').cell? ⟨F, i, none⟩ = A.cell? ⟨F, i, none⟩ := fun F i => by
    by_cases hF : F = l
    · subst hF
      have h1 : (A.putObj F o').heap[F]? = some o' := World.putObj_heap_same (Array.getElem?_eq_some_iff.1 ho).1
      unfold World.cell?
      simp only [h1, ho]
      cases o <;> cases o' <;> first | rfl | (simp [Obj.isCells] at hc; done) | (simp [Obj.isCells] at hc'; done)
    · exact cell_of_heap (World.putObj_heap_other hF) i
  have e : ∀ k, Bad Ms Fs (A.putObj l o') k ↔ Bad Ms Fs A k := fun k => by
    unfold Bad
    simp only [cl]
  refine ⟨rfl, rfl, rfl, by simp, fun k hk hn => World.putObj_heap_other fun h => hn (.inl (by rw [h]; exact hl)), fun k hk => .inl ((e k).1 hk), ⟨fun k hk => ?_, fun F hF i ad n c hci => ?_⟩⟩
  · have := hs.bad k ((e k).1 hk)
    exact ⟨this.1, by simpa using this.2⟩
  · rw [cl] at hci
    obtain ⟨ob, h1, h2⟩ := hs.row F hF i ad n c hci
    refine ⟨ob, (World.putObj_heap_other fun h => ?_).trans h1, h2⟩
    rw [h, ho] at h1
    rw [← Option.some.inj h1, hc] at h2
    cases h2
/-- what is no cells, from block n on, stands -/
theorem Off.keeps {n : Nat} (h : Off lo Ms Fs A B) (hs : Sane lo Ms Fs A) (hM : ∀ k ∈ Ms, k < n) (hF : ∀ k ∈ Fs, k < n) : KeepsFrom n A B :=
  ⟨h.size, fun k o hn hk ho => (h.block k (Array.getElem?_eq_some_iff.1 hk).1 (by
    rintro (h1 | h1 | ⟨F, h1, i, ad, m, c, hc, rfl⟩)
    · have := hM k h1; omega
    · have := hF k h1; omega
    · obtain ⟨ob, h2, h3⟩ := hs.row F h1 i ad m c hc
      rw [hk] at h2
      rw [← Option.some.inj h2, ho] at h3
      cases h3)).trans hk⟩
/-- what is kept by whatever keeps all below n abides a loop's record -/
theorem ownFrom_below' {β : Type} {n : Nat} {I : β → World → Prop} (hn : ∀ s A, I s A → n ≤ A.heap.size) (h : ∀ s A B, Below n A B → I s A → I s B) : OwnFrom n I := fun s A B row hs hg hr =>
  h s A B ⟨hg.os, hg.tape, hg.output, hg.size, fun k hk => hg.block k (Nat.lt_of_lt_of_le hk (hn s A hs)) fun e => by have := (hr k e.symm).1; omega⟩ hs
theorem Sane.own {n : Nat} (hF : ∀ F ∈ Fs, F < n) {row : Option Nat} (hs : Sane lo Ms Fs A) (hg : A.grownBy B row) (hr : ∀ r, row = some r → n ≤ r ∧ ∃ o : Obj, A.heap[r]? = some o ∧ o.isCells = false) : Sane lo Ms Fs B := by
  have cl : ∀ F ∈ Fs, ∀ o, B.cell? ⟨F, o, none⟩ = A.cell? ⟨F, o, none⟩ := fun F h o => cell_of_heap (hg.block F (hs.F_lt h) fun e => by have := (hr F e.symm).1; have := hF F h; omega) o
  have e : ∀ k, Bad Ms Fs B k → Bad Ms Fs A k := by
    rintro k (h | h | ⟨F, h, o, ad, m, c, hc, he⟩)
    · exact .inl h
    · exact .inr (.inl h)
    · exact .inr (.inr ⟨F, h, o, ad, m, c, (cl F h o).symm.trans hc, he⟩)
  refine ⟨fun k hk => ?_, fun F h o ad m c hc => ?_⟩
  · have := hs.bad k (e k hk)
    exact ⟨this.1, Nat.lt_of_lt_of_le this.2 hg.size⟩
  · rw [cl F h o] at hc
    obtain ⟨ob, h1, h2⟩ := hs.row F h o ad m c hc
    refine ⟨ob, (hg.block _ (Array.getElem?_eq_some_iff.1 h1).1 fun e => ?_).trans h1, h2⟩
    obtain ⟨_, ob', h3, h4⟩ := hr _ e.symm
    rw [h1] at h3
    rw [← Option.some.inj h3, h2] at h4
    cases h4
theorem Off.own {W W' : World} {row : Option Nat} (hF : ∀ F ∈ Fs, F < A.heap.size) (h : Off lo Ms Fs A W) (hg : W.grownBy W' row) (hr : ∀ r, row = some r → A.heap.size ≤ r ∧ ∃ o : Obj, W.heap[r]? = some o ∧ o.isCells = false) : Off lo Ms Fs A W' := by
  have cl : ∀ F ∈ Fs, ∀ o, W'.cell? ⟨F, o, none⟩ = W.cell? ⟨F, o, none⟩ := fun F hm o => cell_of_heap (hg.block F (h.sane.F_lt hm) fun e => by have := (hr F e.symm).1; have := hF F hm; omega) o
  refine ⟨hg.os.trans h.os, hg.tape.trans h.tape, hg.output.trans h.output, Nat.le_trans h.size hg.size, fun k hk hn => (hg.block k (Nat.lt_of_lt_of_le hk h.size) fun e => by have := (hr k e.symm).1; omega).trans (h.block k hk hn), fun k hk => h.bad k ?_, h.sane.own hF hg hr⟩
  rcases hk with h1 | h1 | ⟨F, h1, o, ad, m, c, hc, he⟩
  · exact .inl h1
  · exact .inr (.inl h1)
  · exact .inr (.inr ⟨F, h1, o, ad, m, c, (cl F h1 o).symm.trans hc, he⟩)
theorem OwnFrom.mono {β : Type} {n n' : Nat} {I : β → World → Prop} (h : OwnFrom n I) (hn : n ≤ n') : OwnFrom n' I := fun s A B row hs hg hr => h s A B row hs hg fun r e => ⟨Nat.le_trans hn (hr r e).1, (hr r e).2⟩
theorem OwnFrom.comp {β γ : Type} {n : Nat} {I : β → World → Prop} (h : OwnFrom n I) (f : γ → β) : OwnFrom n (fun s W => I (f s) W) := fun s => h (f s)
end Go.Proofs.Ytoglgeaiiipchaa

namespace Go.Proofs.Ytoglgeaiiipchaa
open Go Go.RowKit

theorem box_cell0 {W : World} {F : Nat} {t : TypeId} {v u : Value} (h : Boxed W F t v) {o : Nat} (hc : W.cell? ⟨F, o, none⟩ = some u) : u = v := by
  simp only [World.cell?, show W.heap[F]? = _ from h] at hc
  cases o with
  | zero => simpa using hc.symm
  | succ o => simp at hc
theorem bad_box {Ms : List Nat} {W : World} {F k : Nat} {t : TypeId} {v : Value} (h : Boxed W F t v) : Bad Ms [F] W k ↔ k ∈ Ms ∨ k = F ∨ v.ownBlock = some k := by
  unfold Bad
  refine or_congr Iff.rfl (or_congr List.mem_singleton ⟨?_, fun hv => ?_⟩)
  · rintro ⟨F', hF, o, ad, n, c, hc, rfl⟩
    obtain rfl := List.mem_singleton.1 hF
    rw [← box_cell0 h hc]
    rfl
  · cases v <;> simp only [Value.ownBlock] at hv <;> try (cases hv; done)
    rename_i A n c
    cases A with
    | none => cases hv
    | some ad => exact ⟨F, List.mem_singleton.2 rfl, 0, ad, n, c, h.cell, by simpa [Value.ownBlock] using hv⟩
theorem own_cells {W : World} {base : Nat} {e : TypeId} {size n : Nat} {v : Value} {xs : List Value} (h : W.ownsRow base e size v n xs) {r : Nat} (hr : v.ownBlock = some r) : ∃ ob, W.heap[r]? = some ob ∧ ob.isCells = true := by
  rcases h.2 with ⟨rfl, _⟩ | ⟨g, cap, cur, rfl, _, hg, _⟩
  · cases hr
  · obtain rfl : g = r := by simpa [Value.ownBlock] using hr
    exact ⟨_, hg, rfl⟩
theorem sane_box {Ms : List Nat} {lo : Nat} {W : World} {F n size : Nat} {t e : TypeId} {v : Value} {xs : List Value} (h : Boxed W F t v) (hown : W.ownsRow lo e size v n xs) (hF : lo ≤ F) (hM : ∀ k ∈ Ms, lo ≤ k ∧ k < W.heap.size) : Sane lo Ms [F] W := by
  refine ⟨fun k hk => ?_, fun F' hF' o ad m c hc => ?_⟩
  · rcases (bad_box h).1 hk with h1 | rfl | h1
    · exact hM k h1
    · exact ⟨hF, h.lt⟩
    · exact hown.lt k h1
  · obtain rfl := List.mem_singleton.1 hF'
    exact own_cells hown (by rw [← box_cell0 h hc]; rfl)
/-- a variable with an own row, and some blocks, have been turned -/
theorem off_box {Ms : List Nat} {lo : Nat} {W W' : World} {F n' size : Nat} {t e : TypeId} {v v' : Value} {xs' : List Value} (h : Boxed W F t v) (h' : Boxed W' F t v') (hown' : W'.ownsRow lo e size v' n' xs') (hF : lo ≤ F) (hM : ∀ k ∈ Ms, lo ≤ k ∧ k < W.heap.size)
    (hos : W'.os = W.os) (htape : W'.tape = W.tape) (hout : W'.output = W.output) (hsz : W.heap.size ≤ W'.heap.size)
    (hb : ∀ k, k < W.heap.size → k ∉ Ms → k ≠ F → v.ownBlock ≠ some k → W'.heap[k]? = W.heap[k]?) (hat : v'.ownBlock = v.ownBlock ∨ ∀ r, v'.ownBlock = some r → W.heap.size ≤ r) : Off lo Ms [F] W W' := by
  refine ⟨hos, htape, hout, hsz, fun k hk hn => hb k hk (fun h1 => hn (.inl h1)) (fun h1 => hn (.inr (.inl (by rw [h1]; exact List.mem_singleton.2 rfl)))) (fun h1 => hn ((bad_box h).2 (.inr (.inr h1)))), fun k hk => ?_,
    sane_box h' hown' hF fun k hk => ⟨(hM k hk).1, Nat.lt_of_lt_of_le (hM k hk).2 hsz⟩⟩
  rcases (bad_box h').1 hk with h1 | h1 | h1
  · exact .inl (.inl h1)
  · exact .inl (.inr (.inl (by rw [h1]; exact List.mem_singleton.2 rfl)))
  · rcases hat with h2 | h2
    · exact .inl ((bad_box h).2 (.inr (.inr (by rw [← h2]; exact h1))))
    · exact .inr (h2 k h1)
end Go.Proofs.Ytoglgeaiiipchaa
