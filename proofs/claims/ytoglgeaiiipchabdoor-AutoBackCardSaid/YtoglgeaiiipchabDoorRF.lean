/- Ranges over functions: a contract of an iterator whose rounds may be told what comes, and that may itself range over another one; the law of the statement over it; the marks that such loops leave at a return. -/
import Derived.RangeFuncNested
import Derived.RangeFuncLeaves
import Derived.Test.YtoglgeaiiipchabDoorMem
namespace Go.Proofs.YtoglgeaiiipchabDoor
open Go Go.RowKit

/-- An iterator value gives the list xs, one by one, to the rounds of whatever loop: a round that goes on carries J on, one that stops leaves Jx; both abide that blocks that are no cells and were laid since the call are turned. -/
def SeqO {α : Type} (n : Nat) (P : Program) (g : Nat) (lb : Array Value) (encs : α → Array Value) (Kp : World → World → Prop) (S : World → Prop) (xs : List α) (w : World) : Prop :=
  ∀ (l : Nat) (J Jx : List α → World → Prop) (W : World), Below w.heap.size w W → S W → OwnFrom W.heap.size J → OwnFrom W.heap.size Jx →
    (∀ pre x W1, J pre W1 → pre ++ [x] <+: xs → YieldAt Fence.wide (n - 1) P l (encs x) W1 fun e W' =>
      (e = .returned (.bool true) ∧ J (pre ++ [x]) W' ∧ Kp W1 W') ∨ (e = .returned (.bool false) ∧ Jx (pre ++ [x]) W' ∧ Kp W1 W')) →
    J [] W →
    CallsIn Fence.wide n P g (#[.func (.yield l) #[] #[]] ++ lb) W fun e W' => (∃ v, e = .returned v) ∧ (J xs W' ∨ ∃ pre, pre <+: xs ∧ Jx pre W')

/-- what a round leaves -/
def ownPostO {α : Type} (B : Nat) (Kp : World → World → Prop) (I : List α → World → Prop) (Ix : Code → List α → World → Prop) (xs : List α) (W : World) : Exit → Act → World → Prop
  | .normal, _, W' => KeepsFrom B W W' ∧ Kp W W' ∧ I xs W'
  | .ret, _, W' => KeepsFrom B W W' ∧ Kp W W' ∧ Ix .ret xs W'
  | .exit id, _, W' => KeepsFrom B W W' ∧ Kp W W' ∧ Ix (.exit id) xs W'
  | .goto t, _, W' => KeepsFrom B W W' ∧ Kp W W' ∧ Ix (.goto t) xs W'
  | .panic _, _, _ => False
  | .outgrown, _, _ => False
theorem kept_far {W W' : World} {row : Option Nat} {B k : Nat} {o : Obj} (hg : W.grownBy W' row) (hr : ∀ r, row = some r → B ≤ r) (hk : k < B) (h : W.heap[k]? = some o) : W'.heap[k]? = some o :=
  (hg.block k (Array.getElem?_eq_some_iff.1 h).1 (fun e => by have := hr k e.symm; omega)).trans h

section
variable {n : Nat} {P : Program}
/-- the statement 'for .. := range g { .. }', outside of every other such loop -/
theorem wp_range_own {α : Type} {g : Operand} {ps : Array Tmp} {assign body : Code} {Q : Exit → Act → World → Prop} {a : Act} {w : World} (h1 : 1 ≤ n) {gf : Nat} {lb : Array Value}
    (hg : a.eval g = .func (.func gf) #[] lb) (eg : ∀ args w, (callFunc gf args).run P w = .ok (.enter gf args) w)
    {encs : α → Array Value} {Kp : World → World → Prop} {S : World → Prop} {xs : List α} {w0 : World} (hseq : SeqO (n - 1) P gf lb encs Kp S xs w0)
    (hKt : ∀ {A B C : World}, Kp A B → Kp B C → Kp A C) (hKb : ∀ (W : World) (r r' : Loop), W.heap[w.heap.size + 1]? = some (.loop r) → Kp W (W.putObj (w.heap.size + 1) (.loop r'))) (hS : ∀ r, S ((w.alloc (.deferred (some []))).alloc (.loop r)))
    (hb0 : Below w0.heap.size w0 w) (hps : ∀ x, (encs x).size = ps.size)
    (I : List α → World → Prop) (Ix : Code → List α → World → Prop) (hI : OwnFrom w.heap.size I) (hIx : ∀ c, OwnFrom w.heap.size (Ix c)) (h0 : I [] w)
    (Ax : α → Act → World → Prop) (hAx : ∀ x a', OwnFrom w.heap.size (fun (_ : Unit) W => Ax x a' W))
    (hassign : ∀ (l : Nat) (pre : List α) (x : α) (W : World) (K : Act → World → Prop), I pre W → (∀ a' W', KeepsFrom w.heap.size W W' → Kp W W' → I pre W' → Ax x a' W' → K a' W') →
      assign.wpIn (Fence.wide.inRound l) (n - 1 - 1) P (Exit.then K (fun _ _ _ => False)) { tmps := (ps.zip (encs x)).foldl (fun t (p, v) => t.setIfInBounds p v) a.tmps, defers := [] } W)
    (hbody : ∀ (l : Nat) (pre : List α) (x : α) (a' : Act) (W : World), w.heap.size ≤ l → (∃ r, W.heap[l]? = some (.loop r)) → I pre W → Ax x a' W → pre ++ [x] <+: xs →
      body.wpIn (Fence.wide.inRound l) (n - 1 - 1) P (ownPostO w.heap.size Kp I Ix (pre ++ [x]) W) a' W)
    (hdone : ∀ (D : Nat) (W : World), w.heap.size ≤ D → I xs W → W.heap[D]? = some (.deferred (some [])) → Q .normal { a with defers := { target := .collected D, args := #[] } :: a.defers } W)
    (hstop : ∀ (D : Nat) (c : Code) (pre : List α) (W : World), w.heap.size ≤ D → pre <+: xs → Ix c pre W → W.heap[D]? = some (.deferred (some [])) → c.wpIn Fence.wide n P Q { a with defers := { target := .collected D, args := #[] } :: a.defers } W) :
    (Code.rangeFunc g ps assign body).wpIn Fence.wide n P Q a w := by
  refine wpIn_rangeFunc fun fn hfn => ?_
  have hL := Nat.lt_succ_self w.heap.size
  generalize hrec : (fun st pe => ({ state := st, pending := pe, fn, tmps := a.tmps, params := ps, assign, body, defers := w.heap.size } : Loop)) = rec
  have hrs : ∀ st pe, (rec st pe).state = st := by intro st pe; rw [← hrec]
  have hrp : ∀ st pe, (rec st pe).pending = pe := by intro st pe; rw [← hrec]
  obtain ⟨W1, hW1⟩ : ∃ W1, W1 = (w.alloc (.deferred (some []))).alloc (.loop (rec .ready none)) := ⟨_, rfl⟩
  have hs1 : W1.heap.size = w.heap.size + 1 + 1 := by rw [hW1]; simp
  have rL : W1.heap[w.heap.size + 1]? = some (.loop (rec .ready none)) := by
    have := World.alloc_heap_new (w.alloc (.deferred (some []))) (.loop (rec .ready none))
    rw [World.size_alloc] at this
    rw [hW1]; exact this
  have rD : W1.heap[w.heap.size]? = some (.deferred (some [])) := by
    rw [hW1, Below.heap_alloc _ _ _ (by simp)]
    exact World.alloc_heap_new w _
  have i1 : I [] W1 := by rw [hW1]; exact hI.alloc _ (hI.alloc _ h0)
  have b1 : Below w0.heap.size w0 W1 := by
    have hb : Below w.heap.size w W1 := by rw [hW1]; exact ((Below.refl _ w).alloc (Nat.le_refl _) _).alloc (by simp) _
    exact hb0.trans (hb.mono hb0.size)
  refine ⟨w.heap.size + 1, [{ target := .collected w.heap.size, args := #[] }], W1, { target := .fn (.func gf) lb, args := #[.func (.yield (w.heap.size + 1)) #[] #[]] }, W1, gf,
    #[.func (.yield (w.heap.size + 1)) #[] #[]] ++ lb, W1, ?_, ?_, fun _ _ => trivial, ?_, fun _ => h1, ?_⟩
  · rw [hW1, ← hrec]
    exact run_enterLoop_outer _ _ _ _ _
  · simp only [resolve, hg]
    simp [go_sem]
  · simp [invoke, go_sem, eg]
  · have own2 : ∀ {A B : World} {row : Option Nat}, (∀ r, row = some r → W1.heap.size ≤ r ∧ ∃ o : Obj, A.heap[r]? = some o ∧ o.isCells = false) → (∀ r, row = some r → w.heap.size ≤ r ∧ ∃ o : Obj, A.heap[r]? = some o ∧ o.isCells = false) :=
      fun hr r e => ⟨by have := (hr r e).1; omega, (hr r e).2⟩
    refine (hseq (w.heap.size + 1)
      (fun pre W => I pre W ∧ W.heap[w.heap.size + 1]? = some (.loop (rec .ready none)) ∧ W.heap[w.heap.size]? = some (.deferred (some [])))
      (fun pre W => ∃ c, Ix c pre W ∧ W.heap[w.heap.size + 1]? = some (.loop (rec .done (some c))) ∧ W.heap[w.heap.size]? = some (.deferred (some [])))
      W1 b1 (by rw [hW1]; exact hS _)
      (fun s A B row hs hg' hr => ⟨hI s A B row hs.1 hg' (own2 (B := B) hr), kept_far hg' (fun r e => (hr r e).1) (by omega) hs.2.1, kept_far hg' (fun r e => (hr r e).1) (by omega) hs.2.2⟩)
      (fun s A B row ⟨c, hc, h2, h3⟩ hg' hr => ⟨c, hIx c s A B row hc hg' (own2 (B := B) hr), kept_far hg' (fun r e => (hr r e).1) (by omega) h2, kept_far hg' (fun r e => (hr r e).1) (by omega) h3⟩)
      ?_ ⟨i1, rL, rD⟩).mono ?_
    · rintro pre x W ⟨hi, hl, hk⟩ hpre
      have hlt : w.heap.size + 1 < W.heap.size := (Array.getElem?_eq_some_iff.1 hl).1
      have hy := run_yield (P := P) (args := encs x) hl (by rw [← hrec]; exact hps x)
      rw [← hrec] at hy
      refine ⟨fn, _, assign, body, hy, roundIn_of_wpIn hfn (hassign _ pre x W _ hi fun a' Wa ka kpa ia xa => ?_)⟩
      clear hy
      have hla := ka.same _ _ (by omega) hl rfl
      have hka := ka.same _ _ (Nat.le_refl _) hk rfl
      have hlta : w.heap.size + 1 < Wa.heap.size := (Array.getElem?_eq_some_iff.1 hla).1
      refine ⟨_, run_beginRound hla (hrs _ _), ?_⟩
      obtain ⟨W2, hW2⟩ : ∃ W2, W2 = Wa.putObj (w.heap.size + 1) (.loop { rec .ready none with state := .busy }) := ⟨_, rfl⟩
      rw [← hW2]
      have hl2 : W2.heap[w.heap.size + 1]? = some (.loop { rec .ready none with state := .busy }) := by rw [hW2]; exact World.putObj_heap_same hlta
      have hk2 : W2.heap[w.heap.size]? = some (.deferred (some [])) := by rw [hW2]; exact (World.putObj_heap_other (by omega)).trans hka
      have kp2 : Kp Wa W2 := by rw [hW2]; exact hKb _ _ _ hla
      have i2 : I pre W2 := by rw [hW2]; exact hI.putObj _ ia (by omega) hla rfl
      have x2 : Ax x a' W2 := by rw [hW2]; exact (hAx x a').putObj (s := ()) _ xa (by omega) hla rfl
      clear hW2
      -- how the round's end leaves the record
      have fin : ∀ (jump : Option Code) (W3 : World), KeepsFrom w.heap.size W2 W3 → ∃ W4, (Instr.endRound (w.heap.size + 1) jump).run P W3 = .ok (.bool jump.isNone) W4 ∧
          (W3.heap[w.heap.size + 1]? = some (.loop { rec .ready none with state := .busy })) ∧ W4 = W3.putObj (w.heap.size + 1) (.loop (rec (if jump.isNone then .ready else .done) jump)) ∧
          W4.heap[w.heap.size + 1]? = some (.loop (rec (if jump.isNone then .ready else .done) jump)) ∧ W4.heap[w.heap.size]? = some (.deferred (some [])) := fun jump W3 k3 => by
        have h3 := k3.same _ _ (by omega) hl2 rfl
        have h4 := k3.same _ _ (Nat.le_refl _) hk2 rfl
        refine ⟨_, ?_, h3, rfl, World.putObj_heap_same (Array.getElem?_eq_some_iff.1 h3).1, (World.putObj_heap_other (by omega)).trans h4⟩
        have := run_endRound (P := P) jump h3
        rw [← hrec] at this ⊢
        exact this
      refine wpIn_mono (hbody _ pre x a' W2 (by omega) ⟨_, hl2⟩ i2 x2 hpre) ?_
      rintro e a3 W3 hp
      have leave : ∀ c : Code, KeepsFrom w.heap.size W2 W3 ∧ Kp W2 W3 ∧ Ix c (pre ++ [x]) W3 → ∃ v W4, (Instr.endRound (w.heap.size + 1) (some c)).run P W3 = .ok v W4 ∧
          ((Ending.returned v = .returned (.bool true) ∧ (I (pre ++ [x]) W4 ∧ W4.heap[w.heap.size + 1]? = some (.loop (rec .ready none)) ∧ W4.heap[w.heap.size]? = some (.deferred (some []))) ∧ Kp W W4) ∨
          (Ending.returned v = .returned (.bool false) ∧ (∃ c, Ix c (pre ++ [x]) W4 ∧ W4.heap[w.heap.size + 1]? = some (.loop (rec .done (some c))) ∧ W4.heap[w.heap.size]? = some (.deferred (some []))) ∧ Kp W W4)) := fun c ⟨k3, kp3, i3⟩ => by
        obtain ⟨W4, hr, h3, hW4, h5, h6⟩ := fin (some c) W3 k3
        exact ⟨_, W4, hr, .inr ⟨rfl, ⟨c, by rw [hW4]; exact (hIx c).putObj _ i3 (by omega) h3 rfl, h5, h6⟩, hKt kpa (hKt kp2 (hKt kp3 (by rw [hW4]; exact hKb _ _ _ h3)))⟩⟩
      cases e with
      | normal =>
        obtain ⟨k3, kp3, i3⟩ := hp
        obtain ⟨W4, hr, h3, hW4, h5, h6⟩ := fin none W3 k3
        refine ⟨_, W4, hr, .inl ⟨rfl, ⟨by rw [hW4]; exact hI.putObj _ i3 (by omega) h3 rfl, h5, h6⟩, hKt kpa (hKt kp2 (hKt kp3 ?_))⟩⟩
        rw [hW4]
        exact hKb _ _ _ h3
      | ret => exact leave _ hp
      | exit id => exact leave _ hp
      | goto t => exact leave _ hp
      | panic ch => exact hp.elim
      | outgrown => exact hp.elim
    · rintro e W2 ⟨⟨v, rfl⟩, (⟨hi, hl, hk⟩ | ⟨pre, hpre, c, hi, hl, hk⟩)⟩
      · have he := run_endLoop (P := P) hl (by rw [hrs]; decide)
        rw [hrp] at he
        exact ⟨none, _, he, hdone _ _ (Nat.le_refl _) (hI.putObj _ hi (by omega) hl rfl) ((World.putObj_heap_other (by omega)).trans hk)⟩
      · have he := run_endLoop (P := P) hl (by rw [hrs]; decide)
        rw [hrp] at he
        exact ⟨some c, _, he, hstop _ c pre _ (Nat.le_refl _) hpre ((hIx c).putObj _ hi (by omega) hl rfl) ((World.putObj_heap_other (by omega)).trans hk)⟩
end

/-- at the wide fence no depth is asked; a round within a round is one as it stands -/
theorem round_any {n n' k : Nat} {P : Program} {l l' : Nat} {f : FuncId} {tmps : Array Value} {assign body : Code} {w : World} {R R' : Ending → World → Prop} (h : RoundIn Fence.wide n P l f tmps assign body w R) (hr : ∀ e w, R e w → R' e w) :
    (Fence.wide.depth.isSome = true → 1 ≤ k) ∧ RoundIn (Fence.wide.inRound l') n' P l f tmps assign body w R' :=
  ⟨(fun h => (by cases h)), (show RoundIn Fence.wide n' P l f tmps assign body w R from ⟨h.1, fun c cs _ => h.2 c cs (room_wide _)⟩).mono hr⟩
/-- the deferred marks of an activation whose loops have ended -/
def Marks (B : Nat) (W : World) (ds : List Deferred) : Prop := ∃ Ds : List Nat, ds = Ds.map (fun D => { target := .collected D, args := #[] }) ∧ Ds.Nodup ∧ ∀ D ∈ Ds, B ≤ D ∧ W.heap[D]? = some (.deferred (some []))
theorem Marks.nil (B : Nat) (W : World) : Marks B W [] := ⟨[], rfl, .nil, fun D h => by cases h⟩
theorem Marks.cons {B : Nat} {W : World} {ds : List Deferred} {D : Nat} {w0 : World} (h : Marks B w0 ds) (hk : ∀ k o, W.heap.size ≤ W.heap.size → k < w0.heap.size → w0.heap[k]? = some o → o.isCells = false → W.heap[k]? = some o) (hD : w0.heap.size ≤ D) (hB : B ≤ D) (hd : W.heap[D]? = some (.deferred (some []))) :
    Marks B W ({ target := .collected D, args := #[] } :: ds) := by
  obtain ⟨Ds, rfl, hn, ha⟩ := h
  refine ⟨D :: Ds, rfl, List.nodup_cons.2 ⟨fun hm => ?_, hn⟩, fun D' hm => ?_⟩
  · have := (Array.getElem?_eq_some_iff.1 (ha D hm).2).1
    omega
  · rcases List.mem_cons.1 hm with rfl | hm
    · exact ⟨hB, hd⟩
    · have := (ha D' hm).2
      exact ⟨(ha D' hm).1, hk D' _ (Nat.le_refl _) (Array.getElem?_eq_some_iff.1 this).1 this rfl⟩
/-- a return past marks: what holds of the world and abides the turn of blocks that are no cells -/
theorem leaves_marks {P : Program} {n : Nat} {fn : Func} {tmps : Array Value} {R : Ending → World → Prop} {v : Value} {B : Nat} {I : Unit → World → Prop} (hI : OwnFrom B I) (hR : ∀ W, I () W → LeavesIn Fence.wide n P fn tmps R [] .returning W) :
    ∀ (ds : List Deferred) (W : World), Marks B W ds → I () W → LeavesInM Fence.wide n P fn tmps R ds .returning W := by
  intro ds
  induction ds with
  | nil => exact fun W _ hi => hR W hi
  | cons d ds ih =>
    rintro W ⟨Ds, he, hn, ha⟩ hi
    cases Ds with
    | nil => cases he
    | cons D Ds =>
      obtain ⟨rfl, rfl⟩ : d = _ ∧ ds = _ := by simpa using he
      obtain ⟨hn1, hn2⟩ := List.nodup_cons.1 hn
      have hd := (ha D (List.mem_cons_self ..)).2
      refine ⟨by simp, .inl ⟨D, _, rfl, run_takeDeferred hd, ih _ ⟨Ds, rfl, hn2, fun D' hm => ⟨(ha D' (List.mem_cons_of_mem _ hm)).1, ?_⟩⟩ (hI.putObj _ hi (ha D (List.mem_cons_self ..)).1 hd rfl)⟩⟩
      exact (World.putObj_heap_other (fun e => hn1 (by rw [← e]; exact hm))).trans (ha D' (List.mem_cons_of_mem _ hm)).2
end Go.Proofs.YtoglgeaiiipchabDoor
