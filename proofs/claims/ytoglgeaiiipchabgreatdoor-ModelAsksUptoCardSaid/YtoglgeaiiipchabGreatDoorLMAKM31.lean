import Derived.Test.YtoglgeaiiipchabGreatDoorLMAKM3
set_option linter.unusedSimpArgs false
set_option linter.unusedVariables false
namespace Go.Proofs.YtoglgeaiiipchabGreatDoor
open Go Go.RowKit
section
variable {n : Nat} {P : Program}
theorem wp_range_ownN {α : Type} {g : Operand} {ps : Array Tmp} {assign body : Code} {Q : Exit → Act → World → Prop} {a : Act} {w : World} {l0 : Nat} {r0 : Loop} (hl0 : w.heap[l0]? = some (.loop r0)) (h1 : 1 ≤ n) {gf : Nat} {lb : Array Value}
    (hg : a.eval g = .func (.func gf) #[] lb) (eg : ∀ args w, (callFunc gf args).run P w = .ok (.enter gf args) w)
    {encs : α → Array Value} {Kp : World → World → Prop} {S : World → Prop} {xs : List α} {w0 : World} (hseq : SeqO (n - 1) P gf lb encs Kp S xs w0)
    (hKt : ∀ {A B C : World}, Kp A B → Kp B C → Kp A C) (hKb : ∀ (W : World) (r r' : Loop), W.heap[w.heap.size]? = some (.loop r) → Kp W (W.putObj w.heap.size (.loop r'))) (hS : ∀ r, S (w.alloc (.loop r)))
    (hb0 : Below w0.heap.size w0 w) (hps : ∀ x, (encs x).size = ps.size)
    (I : List α → World → Prop) (Ix : Code → List α → World → Prop) (hI : OwnFrom w.heap.size I) (hIx : ∀ c, OwnFrom w.heap.size (Ix c)) (h0 : I [] w)
    (Ax : α → Act → World → Prop) (hAx : ∀ x a', OwnFrom w.heap.size (fun (_ : Unit) W => Ax x a' W))
    (hassign : ∀ (l : Nat) (pre : List α) (x : α) (W : World) (K : Act → World → Prop), I pre W → (∀ a' W', KeepsFrom w.heap.size W W' → Kp W W' → I pre W' → Ax x a' W' → K a' W') →
      assign.wpIn (Fence.wide.inRound l) (n - 1 - 1) P (Exit.then K (fun _ _ _ => False)) { tmps := (ps.zip (encs x)).foldl (fun t (p, v) => t.setIfInBounds p v) a.tmps, defers := [] } W)
    (hbody : ∀ (l : Nat) (pre : List α) (x : α) (a' : Act) (W : World), w.heap.size ≤ l → (∃ r, W.heap[l]? = some (.loop r)) → I pre W → Ax x a' W → pre ++ [x] <+: xs →
      body.wpIn (Fence.wide.inRound l) (n - 1 - 1) P (ownPostO w.heap.size Kp I Ix (pre ++ [x]) W) a' W)
    (hdone : ∀ (W : World), I xs W → Q .normal a W)
    (hstop : ∀ (c : Code) (pre : List α) (W : World), pre <+: xs → Ix c pre W → c.wpIn (Fence.wide.inRound l0) n P Q a W) :
    (Code.rangeFunc g ps assign body).wpIn (Fence.wide.inRound l0) n P Q a w := by
  refine wpIn_rangeFunc fun fn hfn => ?_
  have hL := Nat.lt_succ_self w.heap.size
  generalize hrec : (fun st pe => ({ state := st, pending := pe, fn, tmps := a.tmps, params := ps, assign, body, defers := r0.defers } : Loop)) = rec
  have hrs : ∀ st pe, (rec st pe).state = st := by intro st pe; rw [← hrec]
  have hrp : ∀ st pe, (rec st pe).pending = pe := by intro st pe; rw [← hrec]
  obtain ⟨W1, hW1⟩ : ∃ W1, W1 = w.alloc (.loop (rec .ready none)) := ⟨_, rfl⟩
  have hs1 : W1.heap.size = w.heap.size + 1 := by rw [hW1]; simp
  have rL : W1.heap[w.heap.size]? = some (.loop (rec .ready none)) := by rw [hW1]; exact World.alloc_heap_new w _
  have i1 : I [] W1 := by rw [hW1]; exact hI.alloc _ h0
  have b1 : Below w0.heap.size w0 W1 := by
    have hb : Below w.heap.size w W1 := by rw [hW1]; exact (Below.refl _ w).alloc (Nat.le_refl _) _
    exact hb0.trans (hb.mono hb0.size)
  refine ⟨w.heap.size, [], W1, { target := .fn (.func gf) lb, args := #[.func (.yield w.heap.size) #[] #[]] }, W1, gf,
    #[.func (.yield w.heap.size) #[] #[]] ++ lb, W1, ?_, ?_, fun _ _ => trivial, ?_, fun _ => h1, ?_⟩
  · rw [hW1, ← hrec]
    exact run_enterLoop_inner hl0 _ _ _ _ _
  · simp only [resolve, hg]
    simp [go_sem]
  · simp [invoke, go_sem, eg]
  · have own2 : ∀ {A B : World} {row : Option Nat}, (∀ r, row = some r → W1.heap.size ≤ r ∧ ∃ o : Obj, A.heap[r]? = some o ∧ o.isCells = false) → (∀ r, row = some r → w.heap.size ≤ r ∧ ∃ o : Obj, A.heap[r]? = some o ∧ o.isCells = false) :=
      fun hr r e => ⟨by have := (hr r e).1; omega, (hr r e).2⟩
    refine (hseq w.heap.size
      (fun pre W => I pre W ∧ W.heap[w.heap.size]? = some (.loop (rec .ready none)))
      (fun pre W => ∃ c, Ix c pre W ∧ W.heap[w.heap.size]? = some (.loop (rec .done (some c))))
      W1 b1 (by rw [hW1]; exact hS _)
      (fun s A B row hs hg' hr => ⟨hI s A B row hs.1 hg' (own2 (B := B) hr), kept_far hg' (fun r e => (hr r e).1) (by omega) hs.2⟩)
      (fun s A B row ⟨c, hc, h2⟩ hg' hr => ⟨c, hIx c s A B row hc hg' (own2 (B := B) hr), kept_far hg' (fun r e => (hr r e).1) (by omega) h2⟩)
      ?_ ⟨i1, rL⟩).mono ?_
    · rintro pre x W ⟨hi, hl⟩ hpre
      have hlt : w.heap.size < W.heap.size := (Array.getElem?_eq_some_iff.1 hl).1
      have hy := run_yield (P := P) (args := encs x) hl (by rw [← hrec]; exact hps x)
      rw [← hrec] at hy
      refine ⟨fn, _, assign, body, hy, roundIn_of_wpIn hfn (hassign _ pre x W _ hi fun a' Wa ka kpa ia xa => ?_)⟩
      clear hy
      have hla := ka.same _ _ (by omega) hl rfl
      have hlta : w.heap.size < Wa.heap.size := (Array.getElem?_eq_some_iff.1 hla).1
      refine ⟨_, run_beginRound hla (hrs _ _), ?_⟩
      obtain ⟨W2, hW2⟩ : ∃ W2, W2 = Wa.putObj w.heap.size (.loop { rec .ready none with state := .busy }) := ⟨_, rfl⟩
      rw [← hW2]
      have hl2 : W2.heap[w.heap.size]? = some (.loop { rec .ready none with state := .busy }) := by rw [hW2]; exact World.putObj_heap_same hlta
      have kp2 : Kp Wa W2 := by rw [hW2]; exact hKb _ _ _ hla
      have i2 : I pre W2 := by rw [hW2]; exact hI.putObj _ ia (by omega) hla rfl
      have x2 : Ax x a' W2 := by rw [hW2]; exact (hAx x a').putObj (s := ()) _ xa (by omega) hla rfl
      clear hW2
      have fin : ∀ (jump : Option Code) (W3 : World), KeepsFrom w.heap.size W2 W3 → ∃ W4, (Instr.endRound w.heap.size jump).run P W3 = .ok (.bool jump.isNone) W4 ∧
          (W3.heap[w.heap.size]? = some (.loop { rec .ready none with state := .busy })) ∧ W4 = W3.putObj w.heap.size (.loop (rec (if jump.isNone then .ready else .done) jump)) ∧
          W4.heap[w.heap.size]? = some (.loop (rec (if jump.isNone then .ready else .done) jump)) := fun jump W3 k3 => by
        have h3 := k3.same _ _ (by omega) hl2 rfl
        refine ⟨_, ?_, h3, rfl, World.putObj_heap_same (Array.getElem?_eq_some_iff.1 h3).1⟩
        have := run_endRound (P := P) jump h3
        rw [← hrec] at this ⊢
        exact this
      refine wpIn_mono (hbody _ pre x a' W2 (by omega) ⟨_, hl2⟩ i2 x2 hpre) ?_
      rintro e a3 W3 hp
      have leave : ∀ c : Code, KeepsFrom w.heap.size W2 W3 ∧ Kp W2 W3 ∧ Ix c (pre ++ [x]) W3 → ∃ v W4, (Instr.endRound w.heap.size (some c)).run P W3 = .ok v W4 ∧
          ((Ending.returned v = .returned (.bool true) ∧ (I (pre ++ [x]) W4 ∧ W4.heap[w.heap.size]? = some (.loop (rec .ready none))) ∧ Kp W W4) ∨
          (Ending.returned v = .returned (.bool false) ∧ (∃ c, Ix c (pre ++ [x]) W4 ∧ W4.heap[w.heap.size]? = some (.loop (rec .done (some c)))) ∧ Kp W W4)) := fun c ⟨k3, kp3, i3⟩ => by
        obtain ⟨W4, hr, h3, hW4, h5⟩ := fin (some c) W3 k3
        exact ⟨_, W4, hr, .inr ⟨rfl, ⟨c, by rw [hW4]; exact (hIx c).putObj _ i3 (by omega) h3 rfl, h5⟩, hKt kpa (hKt kp2 (hKt kp3 (by rw [hW4]; exact hKb _ _ _ h3)))⟩⟩
      cases e with
      | normal =>
        obtain ⟨k3, kp3, i3⟩ := hp
        obtain ⟨W4, hr, h3, hW4, h5⟩ := fin none W3 k3
        refine ⟨_, W4, hr, .inl ⟨rfl, ⟨by rw [hW4]; exact hI.putObj _ i3 (by omega) h3 rfl, h5⟩, hKt kpa (hKt kp2 (hKt kp3 ?_))⟩⟩
        rw [hW4]
        exact hKb _ _ _ h3
      | ret => exact leave _ hp
      | exit id => exact leave _ hp
      | goto t => exact leave _ hp
      | panic ch => exact hp.elim
      | outgrown => exact hp.elim
    · rintro e W2 ⟨⟨v, rfl⟩, (⟨hi, hl⟩ | ⟨pre, hpre, c, hi, hl⟩)⟩
      · have he := run_endLoop (P := P) hl (by rw [hrs]; decide)
        rw [hrp] at he
        exact ⟨none, _, he, hdone _ (hI.putObj _ hi (by omega) hl rfl)⟩
      · have he := run_endLoop (P := P) hl (by rw [hrs]; decide)
        rw [hrp] at he
        exact ⟨some c, _, he, hstop c pre _ hpre ((hIx c).putObj _ hi (by omega) hl rfl)⟩
end
end Go.Proofs.YtoglgeaiiipchabGreatDoor
