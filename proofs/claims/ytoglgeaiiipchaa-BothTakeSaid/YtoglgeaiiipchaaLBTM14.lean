/- Walks: the steps from a state: slices.BinarySearchFunc over them, auto.From and what it hands back. -/
import Derived.Test.YtoglgeaiiipchaaLBTM7
import Derived.Test.YtoglgeaiiipchaaLBTM13
import Derived.Test.YtoglgeaiiipchaaLBTM4
import Derived.Test.YtoglgeaiiipchaaLBTM3
import Derived.Laws.EntriesVeiled
set_option linter.unusedSimpArgs false
set_option linter.unusedVariables false
namespace Go.Proofs.Ytoglgeaiiipchaa
open Go Go.RowKit Go.Sort

theorem own_slice {v : Value} {k : Nat} (h : v.ownBlock = some k) : ∃ ad n c, v = .slice (some ad) n c ∧ ad.block = k := by
  cases v <;> simp only [Value.ownBlock] at h <;> try (cases h; done)
  rename_i A n c
  cases A with
  | none => cases h
  | some ad => exact ⟨ad, n, c, rfl, by simpa [Value.ownBlock] using h⟩
theorem Good.own {lo n k : Nat} {Ms Fs : List Nat} {A B : World} (hF : ∀ F ∈ Fs, F < n) {row : Option Nat} (hs : Sane lo Ms Fs A) (h : Good lo Ms Fs A k) (hg : A.grownBy B row) (hr : ∀ r, row = some r → n ≤ r ∧ ∃ o : Obj, A.heap[r]? = some o ∧ o.isCells = false) : Good lo Ms Fs B k := by
  have cl : ∀ F ∈ Fs, ∀ o, B.cell? ⟨F, o, none⟩ = A.cell? ⟨F, o, none⟩ := fun F h o => cell_of_heap (hg.block F (hs.F_lt h) fun e => by have := (hr F e.symm).1; have := hF F h; omega) o
  have e : ∀ k, Bad Ms Fs B k → Bad Ms Fs A k := by
    rintro k (h | h | ⟨F, h, o, ad, m, c, hc, he⟩)
    · exact .inl h
    · exact .inr (.inl h)
    · exact .inr (.inr ⟨F, h, o, ad, m, c, (cl F h o).symm.trans hc, he⟩)
  exact ⟨Nat.lt_of_lt_of_le h.lt hg.size, fun hb => h.not (e k hb)⟩
/-- a cell that no round turns -/
def Kc (lo G : Nat) (W : World) (k o : Nat) (v : Value) : Prop := Good lo [] [G] W k ∧ W.cell? ⟨k, o, none⟩ = some v
theorem Kc.off {lo G k o : Nat} {W W' : World} {v : Value} (h : Kc lo G W k o v) (ho : Off lo [] [G] W W') : Kc lo G W' k o v := ⟨h.1.off ho, (h.1.cell ho).trans h.2⟩
section
variable {B G : Nat} {st le : Int} {fs : List Int} {gs : List Bool} {ss : List Stp} {fv gv sv : Value} {W W' : World}
theorem AuN.cell_ (h : AuN B G st le fs gs ss fv gv sv W) {o : Nat} {ad : Addr} {n c : Nat} (hc : W.cell? ⟨G, o, none⟩ = some (.slice (some ad) n c)) : fv.ownBlock = some ad.block ∨ gv.ownBlock = some ad.block ∨ sv.ownBlock = some ad.block := by
  simp only [World.cell?, h.obj] at hc
  match o, hc with
  | 0, hc => simp at hc
  | 1, hc => simp at hc
  | 2, hc => obtain rfl : fv = _ := by simpa using hc
             exact .inl rfl
  | 3, hc => obtain rfl : gv = _ := by simpa using hc
             exact .inr (.inl rfl)
  | 4, hc => obtain rfl : sv = _ := by simpa using hc
             exact .inr (.inr rfl)
  | o + 5, hc => simp at hc
theorem AuN.bad (h : AuN B G st le fs gs ss fv gv sv W) {Ms : List Nat} {k : Nat} : Bad Ms [G] W k ↔ k ∈ Ms ∨ k = G ∨ fv.ownBlock = some k ∨ gv.ownBlock = some k ∨ sv.ownBlock = some k := by
  obtain ⟨_, _, c2, c3, c4, _⟩ := obj5 h.obj
  unfold Bad
  refine or_congr Iff.rfl (or_congr List.mem_singleton ⟨?_, fun hv => ?_⟩)
  · rintro ⟨F', hF, o, ad, n, c, hc, rfl⟩
    obtain rfl := List.mem_singleton.1 hF
    exact h.cell_ hc
  · rcases hv with hv | hv | hv
    all_goals obtain ⟨ad, n, c, rfl, he⟩ := own_slice hv
    · exact ⟨G, List.mem_singleton.2 rfl, 2, ad, n, c, c2, he⟩
    · exact ⟨G, List.mem_singleton.2 rfl, 3, ad, n, c, c3, he⟩
    · exact ⟨G, List.mem_singleton.2 rfl, 4, ad, n, c, c4, he⟩
theorem AuN.sane {lo : Nat} (hlo : lo ≤ B) (h : AuN B G st le fs gs ss fv gv sv W) {Ms : List Nat} (hM : ∀ k ∈ Ms, lo ≤ k ∧ k < W.heap.size) : Sane lo Ms [G] W := by
  refine ⟨fun k hk => ?_, fun F' hF' o ad m c hc => ?_⟩
  · rcases h.bad.1 hk with h1 | rfl | h1 | h1 | h1
    · exact hM k h1
    · exact ⟨Nat.le_trans hlo h.lo, h.lt⟩
    · exact ⟨Nat.le_trans hlo (h.f.lt k h1).1, (h.f.lt k h1).2⟩
    · exact ⟨Nat.le_trans hlo (h.g.lt k h1).1, (h.g.lt k h1).2⟩
    · exact ⟨Nat.le_trans hlo (h.s.lt k h1).1, (h.s.lt k h1).2⟩
  · obtain rfl := List.mem_singleton.1 hF'
    rcases h.cell_ hc with h1 | h1 | h1
    · exact own_cells h.f h1
    · exact own_cells h.g h1
    · exact own_cells h.s h1
/-- rows have been turned -/
theorem AuN.off {st' le' : Int} {fs' : List Int} {gs' : List Bool} {ss' : List Stp} {fv' gv' sv' : Value} {lo : Nat} (hlo : lo ≤ B) (h : AuN B G st le fs gs ss fv gv sv W) (h' : AuN B G st' le' fs' gs' ss' fv' gv' sv' W') {Ms : List Nat} (hM : ∀ k ∈ Ms, lo ≤ k ∧ k < W.heap.size)
    (hos : W'.os = W.os) (htape : W'.tape = W.tape) (hout : W'.output = W.output) (hsz : W.heap.size ≤ W'.heap.size)
    (hb : ∀ k, k < W.heap.size → k ∉ Ms → k ≠ G → fv.ownBlock ≠ some k → gv.ownBlock ≠ some k → sv.ownBlock ≠ some k → W'.heap[k]? = W.heap[k]?)
    (hf : fv'.ownBlock = fv.ownBlock ∨ ∀ r, fv'.ownBlock = some r → W.heap.size ≤ r) (hg : gv'.ownBlock = gv.ownBlock ∨ ∀ r, gv'.ownBlock = some r → W.heap.size ≤ r) (hs : sv'.ownBlock = sv.ownBlock ∨ ∀ r, sv'.ownBlock = some r → W.heap.size ≤ r) : Off lo Ms [G] W W' := by
  refine ⟨hos, htape, hout, hsz, fun k hk hn => ?_, fun k hk => ?_, h'.sane hlo fun k hk => ⟨(hM k hk).1, Nat.lt_of_lt_of_le (hM k hk).2 hsz⟩⟩
  · rw [h.bad] at hn
    exact hb k hk (fun e => hn (.inl e)) (fun e => hn (.inr (.inl e))) (fun e => hn (.inr (.inr (.inl e)))) (fun e => hn (.inr (.inr (.inr (.inl e))))) (fun e => hn (.inr (.inr (.inr (.inr e)))))
  · rw [h.bad]
    rcases h'.bad.1 hk with h1 | h1 | h1 | h1 | h1
    · exact .inl (.inl h1)
    · exact .inl (.inr (.inl h1))
    · rcases hf with h2 | h2
      · exact .inl (.inr (.inr (.inl (by rw [← h2]; exact h1))))
      · exact .inr (h2 k h1)
    · rcases hg with h2 | h2
      · exact .inl (.inr (.inr (.inr (.inl (by rw [← h2]; exact h1)))))
      · exact .inr (h2 k h1)
    · rcases hs with h2 | h2
      · exact .inl (.inr (.inr (.inr (.inr (by rw [← h2]; exact h1)))))
      · exact .inr (h2 k h1)
theorem AuN.appSO (h : AuN B G st le fs gs ss fv gv sv W) (x : Stp) (hl : ss.length ≤ 1000000000) :
    AppTo G 4 sv 47 90 #[.int .i64 x.f, .int .i64 x.l, .int .i64 x.t] ss.length W (fun v' W' => AuN B G st le fs gs (ss ++ [x]) fv gv v' W' ∧ ∀ lo Ms, lo ≤ B → (∀ k ∈ Ms, lo ≤ k ∧ k < W.heap.size) → Off lo Ms [G] W W') := by
  obtain ⟨i0, hi0, hz0, hz1, hz2⟩ := info_parts infoSt
  have hlt := h.lt
  have hb : Below W.heap.size W (W.alloc (Obj.cells #[.int .i64 x.f, .int .i64 x.l, .int .i64 x.t] 90)) := (Below.refl _ _).alloc (Nat.le_refl _) _
  obtain ⟨A1, c1, e1, hc1, hc2, _⟩ := own_form h.s
  obtain ⟨v3, w3, hr, hown, hg, hat⟩ := run_app (P := Try.prog) (W.alloc (Obj.cells #[.int .i64 x.f, .int .i64 x.l, .int .i64 x.t] 90)) B 47 47 90 i0 _ 3 24 Try.underlying47 hi0 hz0 hz1 hz2 rfl (by decide) _ ss.length _ (own_below h.s hb) (some ⟨W.heap.size, 0, none⟩) 1 1 [.int .i64 x.f, .int .i64 x.l, .int .i64 x.t] rfl
    (Rd.new W #[.int .i64 x.f, .int .i64 x.l, .int .i64 x.t] 90) (by simp [Value.oneCell']) (by simp only [maxLen]; omega) (by omega) (by have := h.lo; simp; omega)
  obtain ⟨T3, c3, rfl, _, _, _⟩ := own_form hown
  have hG3 := obj_appN h.obj h.s (by decide) hb hg
  obtain ⟨_, _, _, _, q, _, _, _, _, fz⟩ := obj5 hG3
  have hown' := own_set_ty hown hG3 (by decide) 4 (.slice T3 (ss.length + 1) c3)
  have HN : AuN B G st le fs gs (ss ++ [x]) fv gv (.slice T3 (ss.length + 1) c3) (w3.setCell ⟨G, 4, none⟩ (.slice T3 (ss.length + 1) c3)) := ⟨h.lo, heap_set4 hG3 _, own_otherN h.f h.s (by decide) hb hg hG3 (by decide) 4 (.slice T3 (ss.length + 1) c3), own_otherN h.g h.s (by decide) hb hg hG3 (by decide) 4 (.slice T3 (ss.length + 1) c3), by
    rw [show (ss ++ [x]).length = ss.length + 1 by simp, show (ss ++ [x]).flatMap Stp.cells = ss.flatMap Stp.cells ++ [.int .i64 x.f, .int .i64 x.l, .int .i64 x.t] by simp [Stp.cells]]
    exact hown'⟩
  refine ⟨A1, c1, e1, hc1, hc2, T3, c3, w3, by rw [← e1]; exact hr, q, fz, hg, HN, fun lo Ms hlo hM => h.off hlo HN hM ?_ ?_ ?_ ?_ ?_ (.inl rfl) (.inl rfl) ?_⟩
  · exact hg.os.trans hb.os
  · exact hg.tape.trans hb.tape
  · exact hg.output.trans hb.output
  · refine Nat.le_trans (Nat.le_trans hb.size hg.size) (Nat.le_of_eq ?_)
    simp [World.setCell]
  · intro k hk _ h2 _ _ h5
    exact (Below.heap_setCell _ _ _ _ h2).trans ((hg.block k (Nat.lt_of_lt_of_le hk hb.size) (fun e => h5 e.symm)).trans (hb.block k hk))
  · rcases hat with h1 | h1
    · exact .inl h1
    · refine .inr fun r hr => ?_
      rw [h1] at hr
      obtain rfl := Option.some.inj hr
      simp
/-- a block below all that may turn -/
theorem AuN.good {lo k : Nat} {Ms : List Nat} (h : AuN B G st le fs gs ss fv gv sv W) (hk : k < B) (hM : k ∉ Ms) : Good lo Ms [G] W k := by
  refine ⟨Nat.lt_of_lt_of_le hk (Nat.le_trans h.lo (Nat.le_of_lt h.lt)), fun hb => ?_⟩
  have hl := h.lo
  rcases h.bad.1 hb with h1 | rfl | h1 | h1 | h1
  · exact hM h1
  · omega
  · have := (h.f.lt k h1).1; omega
  · have := (h.g.lt k h1).1; omega
  · have := (h.s.lt k h1).1; omega
theorem AuN.below_off {lo : Nat} {Ms : List Nat} (h : AuN B G st le fs gs ss fv gv sv W) (ho : Off lo Ms [G] W W') (hM : ∀ k ∈ Ms, B ≤ k) : Below B W W' :=
  ⟨ho.os, ho.tape, ho.output, ho.size, fun k hk => by
    have hg := h.good (lo := lo) (Ms := Ms) hk (fun hm => by have := hM k hm; omega)
    exact ho.block k hg.lt hg.not⟩
theorem AuN.good_obj {lo l : Nat} {o : Obj} (h : AuN B G st le fs gs ss fv gv sv W) (hl : W.heap[l]? = some o) (ho : o.isCells = false) : Good lo [] [G] W l := by
  refine ⟨(Array.getElem?_eq_some_iff.1 hl).1, fun hb => ?_⟩
  have no : ∀ {ob : Obj}, W.heap[l]? = some ob → ob.isCells = true → False := fun h1 h2 => by
    rw [hl] at h1
    rw [← Option.some.inj h1, ho] at h2
    cases h2
  rcases h.bad.1 hb with h1 | rfl | h1 | h1 | h1
  · cases h1
  · exact no h.obj rfl
  · obtain ⟨ob, a1, a2⟩ := own_cells h.f h1; exact no a1 a2
  · obtain ⟨ob, a1, a2⟩ := own_cells h.g h1; exact no a1 a2
  · obtain ⟨ob, a1, a2⟩ := own_cells h.s h1; exact no a1 a2
/-- what abides a loop's record -/
theorem AuN.own {row : Option Nat} (h : AuN B G st le fs gs ss fv gv sv W) (hg : W.grownBy W' row) (hr : ∀ r, row = some r → ∃ o : Obj, W.heap[r]? = some o ∧ o.isCells = false) : AuN B G st le fs gs ss fv gv sv W' := by
  have cl : ∀ {k : Nat} {o : Obj}, W.heap[k]? = some o → o.isCells = true → some k ≠ row := fun hk ho e => by
    obtain ⟨o', h1, h2⟩ := hr _ e.symm
    rw [hk] at h1
    rw [← Option.some.inj h1, ho] at h2
    cases h2
  have cv : ∀ {v : Value} {e : TypeId} {sz n : Nat} {xs : List Value}, W.ownsRow B e sz v n xs → W'.ownsRow B e sz v n xs := fun {v e sz n xs} ho => by
    refine World.ownsRow.kept ho hg ?_
    cases hv : v.ownBlock with
    | none => exact .inl rfl
    | some r =>
      obtain ⟨ob, h1, h2⟩ := own_cells ho hv
      exact .inr (cl h1 h2)
  exact ⟨h.lo, (hg.block G h.lt (cl h.obj rfl)).trans h.obj, cv h.f, cv h.g, cv h.s⟩
/-- the row of steps in another order -/
theorem AuN.reS {ss' : List Stp} (h : AuN B G st le fs gs ss fv gv sv W) (ho : W'.ownsRow B 90 3 sv ss'.length (ss'.flatMap Stp.cells)) (hg : W.grownBy W' sv.ownBlock) : AuN B G st le fs gs ss' fv gv sv W' :=
  ⟨h.lo, (hg.block G h.lt (fun e => own_ty h.s h.obj (by decide) e.symm)).trans h.obj, World.ownsRow.kept h.f hg (own_ty2 h.f h.s (by decide)), World.ownsRow.kept h.g hg (own_ty2 h.g h.s (by decide)), ho⟩
theorem AuN.putS {ss' : List Stp} {v' : Value} (h : AuN B G st le fs gs ss fv gv sv W) (ho : W.ownsRow B 90 3 v' ss'.length (ss'.flatMap Stp.cells)) : AuN B G st le fs gs ss' fv gv v' (W.setCell ⟨G, 4, none⟩ v') :=
  ⟨h.lo, heap_set4 h.obj _, own_set_ty h.f h.obj (by decide) 4 v', own_set_ty h.g h.obj (by decide) 4 v', own_set_ty ho h.obj (by decide) 4 v'⟩
theorem AuN.putS2 {ss' : List Stp} {v' : Value} (h : AuN B G st le fs gs ss fv gv sv W) (ho : W'.ownsRow B 90 3 v' ss'.length (ss'.flatMap Stp.cells)) (hg : W.grownBy W' sv.ownBlock) : AuN B G st le fs gs ss' fv gv v' (W'.setCell ⟨G, 4, none⟩ v') ∧ W'.heap[G]? = some (.cells #[.int .i64 st, .int .i64 le, fv, gv, sv] 49 (0, 0)) := by
  have ho' := (hg.block G h.lt (fun e => own_ty h.s h.obj (by decide) e.symm)).trans h.obj
  exact ⟨⟨h.lo, heap_set4 ho' _, own_set_ty (World.ownsRow.kept h.f hg (own_ty2 h.f h.s (by decide))) ho' (by decide) 4 v', own_set_ty (World.ownsRow.kept h.g hg (own_ty2 h.g h.s (by decide))) ho' (by decide) 4 v', own_set_ty ho ho' (by decide) 4 v'⟩, ho'⟩
end
theorem retA1 {fn : Func} {p : Tmp} (h : fn.results = #[.cell p 49]) (tmps : Array Value) (w : World) (V : Nat) {v0 v1 v2 v3 v4 : Value} (hp : tmps[p]? = some (.pointer (some ⟨V, 0, none⟩)))
    (ho : w.heap[V]? = some (.cells #[v0, v1, v2, v3, v4] 49 (0, 0))) : (results fn tmps).run Try.prog w = .ok (.agg #[v0, v1, v2, v3, v4]) w := by
  obtain ⟨r0, r1, r2, r3, r4, _⟩ := obj5 ho
  simp [results, h, go_sem, hp, r0, r1, r2, r3, r4]
end Go.Proofs.Ytoglgeaiiipchaa

namespace Go.Proofs.Ytoglgeaiiipchaa
open Go Go.RowKit

section
variable {n : Nat} {P : Program}
/-- the statement 'for .. := range g { .. }', within a round of loop l0 -/
theorem wp_range_ownN {α : Type} {g : Operand} {ps : Array Tmp} {assign body : Code} {Q : Exit → Act → World → Prop} {a : Act} {w : World} {l0 : Nat} {r0 : Loop} (hl0 : w.heap[l0]? = some (.loop r0)) (h1 : 1 ≤ n) {gf : Nat} {lb : Array Value}
    (hg : a.eval g = .func (.func gf) #[] lb) (eg : ∀ args w, (callFunc gf args).run P w = .ok (.enter gf args) w)
    {encs : α → Array Value} {Kp : World → World → Prop} {S : World → Prop} {xs : List α} {w0 : World} (hseq : SeqO (n - 1) P gf lb encs Kp S xs w0)
    (hKt : ∀ {A B C : World}, Kp A B → Kp B C → Kp A C) (hKb : ∀ (W : World) (r r' : Loop), W.heap[w.heap.size]? = some (.loop r) → Kp W (W.putObj w.heap.size (.loop r'))) (hS : ∀ r, S (w.alloc (.loop r)))
    (hb0 : Below w0.heap.size w0 w) (hps : ∀ x, (encs x).size = ps.size)
    (I : List α → World → Prop) (Ix : Code → List α → World → Prop) (hI : OwnFrom w.heap.size I) (hIx : ∀ c, OwnFrom w.heap.size (Ix c)) (h0 : I [] w)
    (Ax : α → Act → World → Prop) (hAx : ∀ x a', OwnFrom w.heap.size (fun (_ : Unit) W => Ax x a' W))
    (hassign : ∀ (l : Nat) (pre : List α) (x : α) (W : World) (K : Act → World → Prop), I pre W → (∀ a' W', KeepsFrom w.heap.size W W' → Kp W W' → I pre W' → Ax x a' W' → K a' W') →
      assign.wpIn (Fence.wide.inRound l) (n - 1 - 1) P (Exit.then K (fun _ _ _ => False)) { tmps := (ps.zip (encs x)).foldl (fun t (p, v) => t.setIfInBounds p v) a.tmps, defers := [] } W)
    (hbody : ∀ (l : Nat) (pre : List α) (x : α) (a' : Act) (W : World), w.heap.size ≤ l → (∃ r, W.heap[l]? = some (.loop r)) → I pre W → Ax x a' W → pre ++ [x] <+: xs →
      body.wpIn (Fence.wide.inRound l) (n - 1 - 1) P (ownPostO w.heap.size Kp I Ix (pre ++ [x]) W) a' W)
    (hdone : ∀ (W : World), I xs W → Q .normal a W)
    (hstop : ∀ (c : Code) (pre : List α) (W : World), pre <+: xs → Ix c pre W → c.wpIn (Fence.wide.inRound l0) n P Q a W) :
    (Code.rangeFunc g ps assign body).wpIn (Fence.wide.inRound l0) n P Q a w := by
  refine wpIn_rangeFunc fun fn hfn => ?_
  have hL := Nat.lt_succ_self w.heap.size
  generalize hrec : (fun st pe => ({ state := st, pending := pe, fn, tmps := a.tmps, params := ps, assign, body, defers := r0.defers } : Loop)) = rec
  have hrs : ∀ st pe, (rec st pe).state = st := by intro st pe; rw [← hrec]
  have hrp : ∀ st pe, (rec st pe).pending = pe := by intro st pe; rw [← hrec]
  obtain ⟨W1, hW1⟩ : ∃ W1, W1 = w.alloc (.loop (rec .ready none)) := ⟨_, rfl⟩
  have hs1 : W1.heap.size = w.heap.size + 1 := by rw [hW1]; simp
  have rL : W1.heap[w.heap.size]? = some (.loop (rec .ready none)) := by rw [hW1]; exact World.alloc_heap_new w _
  have i1 : I [] W1 := by rw [hW1]; exact hI.alloc _ h0
  have b1 : Below w0.heap.size w0 W1 := by
    have hb : Below w.heap.size w W1 := by rw [hW1]; exact (Below.refl _ w).alloc (Nat.le_refl _) _
    exact hb0.trans (hb.mono hb0.size)
  refine ⟨w.heap.size, [], W1, { target := .fn (.func gf) lb, args := #[.func (.yield w.heap.size) #[] #[]] }, W1, gf,
    #[.func (.yield w.heap.size) #[] #[]] ++ lb, W1, ?_, ?_, fun _ _ => trivial, ?_, fun _ => h1, ?_⟩
  · rw [hW1, ← hrec]
    exact run_enterLoop_inner hl0 _ _ _ _ _
  · simp only [resolve, hg]
    simp [go_sem]
  · simp [invoke, go_sem, eg]
  · have own2 : ∀ {A B : World} {row : Option Nat}, (∀ r, row = some r → W1.heap.size ≤ r ∧ ∃ o : Obj, A.heap[r]? = some o ∧ o.isCells = false) → (∀ r, row = some r → w.heap.size ≤ r ∧ ∃ o : Obj, A.heap[r]? = some o ∧ o.isCells = false) :=
      fun hr r e => ⟨by have := (hr r e).1; omega, (hr r e).2⟩
    refine (hseq w.heap.size
      (fun pre W => I pre W ∧ W.heap[w.heap.size]? = some (.loop (rec .ready none)))
      (fun pre W => ∃ c, Ix c pre W ∧ W.heap[w.heap.size]? = some (.loop (rec .done (some c))))
      W1 b1 (by rw [hW1]; exact hS _)
      (fun s A B row hs hg' hr => ⟨hI s A B row hs.1 hg' (own2 (B := B) hr), kept_far hg' (fun r e => (hr r e).1) (by omega) hs.2⟩)
      (fun s A B row ⟨c, hc, h2⟩ hg' hr => ⟨c, hIx c s A B row hc hg' (own2 (B := B) hr), kept_far hg' (fun r e => (hr r e).1) (by omega) h2⟩)
      ?_ ⟨i1, rL⟩).mono ?_
    · rintro pre x W ⟨hi, hl⟩ hpre
      have hlt : w.heap.size < W.heap.size := (Array.getElem?_eq_some_iff.1 hl).1
      have hy := run_yield (P := P) (args := encs x) hl (by rw [← hrec]; exact hps x)
      rw [← hrec] at hy
      refine ⟨fn, _, assign, body, hy, roundIn_of_wpIn hfn (hassign _ pre x W _ hi fun a' Wa ka kpa ia xa => ?_)⟩
      clear hy
      have hla := ka.same _ _ (by omega) hl rfl
      have hlta : w.heap.size < Wa.heap.size := (Array.getElem?_eq_some_iff.1 hla).1
      refine ⟨_, run_beginRound hla (hrs _ _), ?_⟩
      obtain ⟨W2, hW2⟩ : ∃ W2, W2 = Wa.putObj w.heap.size (.loop { rec .ready none with state := .busy }) := ⟨_, rfl⟩
      rw [← hW2]
      have hl2 : W2.heap[w.heap.size]? = some (.loop { rec .ready none with state := .busy }) := by rw [hW2]; exact World.putObj_heap_same hlta
      have kp2 : Kp Wa W2 := by rw [hW2]; exact hKb _ _ _ hla
      have i2 : I pre W2 := by rw [hW2]; exact hI.putObj _ ia (by omega) hla rfl
      have x2 : Ax x a' W2 := by rw [hW2]; exact (hAx x a').putObj (s := ()) _ xa (by omega) hla rfl
      clear hW2
      -- how the round's end leaves the record
      have fin : ∀ (jump : Option Code) (W3 : World), KeepsFrom w.heap.size W2 W3 → ∃ W4, (Instr.endRound w.heap.size jump).run P W3 = .ok (.bool jump.isNone) W4 ∧
          (W3.heap[w.heap.size]? = some (.loop { rec .ready none with state := .busy })) ∧ W4 = W3.putObj w.heap.size (.loop (rec (if jump.isNone then .ready else .done) jump)) ∧
          W4.heap[w.heap.size]? = some (.loop (rec (if jump.isNone then .ready else .done) jump)) := fun jump W3 k3 => by
        have h3 := k3.same _ _ (by omega) hl2 rfl
        refine ⟨_, ?_, h3, rfl, World.putObj_heap_same (Array.getElem?_eq_some_iff.1 h3).1⟩
        have := run_endRound (P := P) jump h3
        rw [← hrec] at this ⊢
        exact this
      refine wpIn_mono (hbody _ pre x a' W2 (by omega) ⟨_, hl2⟩ i2 x2 hpre) ?_
      rintro e a3 W3 hp
      have leave : ∀ c : Code, KeepsFrom w.heap.size W2 W3 ∧ Kp W2 W3 ∧ Ix c (pre ++ [x]) W3 → ∃ v W4, (Instr.endRound w.heap.size (some c)).run P W3 = .ok v W4 ∧
          ((Ending.returned v = .returned (.bool true) ∧ (I (pre ++ [x]) W4 ∧ W4.heap[w.heap.size]? = some (.loop (rec .ready none))) ∧ Kp W W4) ∨
          (Ending.returned v = .returned (.bool false) ∧ (∃ c, Ix c (pre ++ [x]) W4 ∧ W4.heap[w.heap.size]? = some (.loop (rec .done (some c)))) ∧ Kp W W4)) := fun c ⟨k3, kp3, i3⟩ => by
        obtain ⟨W4, hr, h3, hW4, h5⟩ := fin (some c) W3 k3
        exact ⟨_, W4, hr, .inr ⟨rfl, ⟨c, by rw [hW4]; exact (hIx c).putObj _ i3 (by omega) h3 rfl, h5⟩, hKt kpa (hKt kp2 (hKt kp3 (by rw [hW4]; exact hKb _ _ _ h3)))⟩⟩
      cases e with
      | normal =>
        obtain ⟨k3, kp3, i3⟩ := hp
        obtain ⟨W4, hr, h3, hW4, h5⟩ := fin none W3 k3
        refine ⟨_, W4, hr, .inl ⟨rfl, ⟨by rw [hW4]; exact hI.putObj _ i3 (by omega) h3 rfl, h5⟩, hKt kpa (hKt kp2 (hKt kp3 ?_))⟩⟩
        rw [hW4]
        exact hKb _ _ _ h3
      | ret => exact leave _ hp
      | exit id => exact leave _ hp
      | goto t => exact leave _ hp
      | panic ch => exact hp.elim
      | outgrown => exact hp.elim
    · rintro e W2 ⟨⟨v, rfl⟩, (⟨hi, hl⟩ | ⟨pre, hpre, c, hi, hl⟩)⟩
      · have he := run_endLoop (P := P) hl (by rw [hrs]; decide)
        rw [hrp] at he
        exact ⟨none, _, he, hdone _ (hI.putObj _ hi (by omega) hl rfl)⟩
      · have he := run_endLoop (P := P) hl (by rw [hrs]; decide)
        rw [hrp] at he
        exact ⟨some c, _, he, hstop c pre _ hpre ((hIx c).putObj _ hi (by omega) hl rfl)⟩

end
end Go.Proofs.Ytoglgeaiiipchaa

namespace Go.Proofs.Ytoglgeaiiipchaa
open Go Go.RowKit Go.Sort Go.Shelf

theorem fromEnters : Enters Try.prog 86 := enters_of Try.func86 (by kernel_rfl) rfl
theorem fromCmp_ (s : Stp) (n : Int) (w : World) : Calls Try.prog 86 #[.agg #[.int .i64 s.f, .int .i64 s.l, .int .i64 s.t], .int .i64 n] w fun e w' => e = .returned (.int .i64 (cmpI s.f n)) ∧ Below w.heap.size w w' := by
  go_enter Try.func86, Try.ntmps86
  go_wp2_with (go_at_call 87; refine (Compare_ _ _ _).mono ?_; rintro e w' ⟨rfl, rfl⟩)
  go_ret
  exact ⟨rfl, by go_grown⟩
theorem cmpI_lt (x y : Int) : cmpI x y < 0 ↔ x < y := by
  unfold cmpI
  split
  · simp [*]
  · split <;> simp [*]
/-- the first place from which the steps come from n on -/
structure LowB (ss : List Stp) (n : Int) (i : Nat) : Prop where
  le : i ≤ ss.length
  lo : ∀ j, (h : j < ss.length) → j < i → ss[j].f < n
  hi : ∀ j, (h : j < ss.length) → i ≤ j → n ≤ ss[j].f
def BsPost (w : World) (ss : List Stp) (n : Int) (e : Ending) (w' : World) : Prop := ∃ (i : Nat) (f : Bool), e = .returned (.tuple #[.int .i64 i, .bool f]) ∧ LowB ss n i ∧ Below w.heap.size w w'
set_option maxRecDepth 100000 in
set_option maxHeartbeats 1000000 in
theorem BinSearch_ (C : Option Addr) (cc : Nat) (ss : List Stp) (n : Int) (w : World) (hs : Stps w 0 C cc ss) (ho : ssSorted ss) (hl : ss.length ≤ 1000000) :
    Calls Try.prog 85 #[.slice C ss.length cc, .int .i64 n, .func (.func 86) #[] #[]] w (BsPost w ss n) := by
  have hgr : ∀ (args : Array Value) (w : World), (callFunc 86 args).run Try.prog w = .ok (.enter 86 args) w := fromEnters
  have HSS := Lib.hid hs
  have HMO : Hid (∀ i j, (hi : i < ss.length) → (hj : j < ss.length) → i ≤ j → ss[i].f ≤ ss[j].f) := by
    intro i j hi hj hij
    rcases Nat.eq_or_lt_of_le hij with rfl | h
    · exact Int.le_refl _
    · have := List.pairwise_iff_getElem.1 ho i j hi hj h
      rw [stpLt_iff] at this
      omega
  have hle := hs.le
  clear hs ho
  go_enter Try.func85, Try.ntmps85
  go_wp2_with fail
  go_loopw [9, 10, 11] (fun i j _ wr => ∃ a b : Nat, a ≤ b ∧ b ≤ ss.length ∧ i = .int .i64 a ∧ j = .int .i64 b ∧ Below w.heap.size w wr ∧ Hid ((∀ k, (h : k < ss.length) → k < a → ss[k].f < n) ∧ ∀ k, (h : k < ss.length) → b ≤ k → n ≤ ss[k].f)) (fun i j _ _ => (intOf j).toNat - (intOf i).toNat)
  case atStart => exact ⟨0, ss.length, Nat.zero_le _, Nat.le_refl _, rfl, rfl, Below.refl _ _, fun k _ h => absurd h (by omega), fun k h1 h2 => absurd h1 (by omega)⟩
  case round =>
    obtain ⟨a, b, hab, hb, rfl, rfl, hbw, HAB⟩ := hrel
    have HB := Lib.hid hbw
    by_cases hlt : a < b
    · have hm1 : (a + b) / 2 < ss.length := by omega
      have hm2 : a ≤ (a + b) / 2 := by omega
      have hm3 : (a + b) / 2 < b := by omega
      obtain ⟨bb, o, rfl, _, hbl, q1, q2, q3⟩ := Stps.at_ (HSS.out.below hbw) hm1
      obtain ⟨s, hs⟩ : ∃ s, s = ss[(a + b) / 2] := ⟨_, rfl⟩
      rw [← hs] at q1 q2 q3
      have HS := Lib.hid hs
      obtain ⟨cv, hcv⟩ : ∃ c, c = cmpI s.f n := ⟨_, rfl⟩
      have HC := Lib.hid (fun W => fromCmp_ s n W)
      rw [← hcv] at HC
      have HCV : Hid (cv < 0 ↔ s.f < n) := by show _ ↔ _; rw [hcv]; exact cmpI_lt _ _
      clear hs hcv hbw
      go_wp2_with fail
      refine (HC.out _).mono ?_
      rintro e w2 ⟨rfl, hb2⟩
      have HB2 : Hid (Below w.heap.size w w2) := Below_on HB.out hb2 HB.out.size
      clear hb2
      by_cases hc0 : cv < 0
      · have HNX : Hid ((∀ k, (h : k < ss.length) → k < (a + b) / 2 + 1 → ss[k].f < n) ∧ ∀ k, (h : k < ss.length) → b ≤ k → n ≤ ss[k].f) := by
          refine ⟨fun k h1 h2 => ?_, HAB.out.2⟩
          have h3 := HMO.out k _ h1 hm1 (by omega)
          have h4 := HCV.out.1 hc0
          rw [HS.out] at h4
          omega
        go_wp2_with fail
        go_roundw
        case rel => exact ⟨(a + b) / 2 + 1, b, by omega, hb, by go_num, rfl, HB2.out, HNX.out⟩
        case measure => simp [intOf]; omega
      · have HNX : Hid ((∀ k, (h : k < ss.length) → k < a → ss[k].f < n) ∧ ∀ k, (h : k < ss.length) → (a + b) / 2 ≤ k → n ≤ ss[k].f) := by
          refine ⟨HAB.out.1, fun k h1 h2 => ?_⟩
          have h3 := HMO.out _ k hm1 h1 h2
          have h4 : ¬ s.f < n := fun h => hc0 (HCV.out.2 h)
          rw [HS.out] at h4
          omega
        go_wp2_with fail
        go_roundw
        case rel => exact ⟨a, (a + b) / 2, hm2, by omega, rfl, by go_num, HB2.out, HNX.out⟩
        case measure => simp [intOf]; omega
    · obtain rfl : a = b := by omega
      have HLB : Hid (LowB ss n a) := ⟨hb, fun k h1 h2 => HAB.out.1 k h1 h2, fun k h1 h2 => HAB.out.2 k h1 h2⟩
      by_cases hal : a < ss.length
      · obtain ⟨bb, o, rfl, _, hbl, q1, q2, q3⟩ := Stps.at_ (HSS.out.below hbw) hal
        generalize ss[a] = s at *
        obtain ⟨cv, hcv⟩ : ∃ c, c = cmpI s.f n := ⟨_, rfl⟩
        have HC := Lib.hid (fun W => fromCmp_ s n W)
        rw [← hcv] at HC
        obtain ⟨fb, hfb⟩ : ∃ f, f = (cv == 0) := ⟨_, rfl⟩
        clear hcv hbw
        go_wp2_with fail
        refine (HC.out _).mono ?_
        rintro e w2 ⟨rfl, hb2⟩
        have HB2 : Hid (Below w.heap.size w w2) := Below_on HB.out hb2 HB.out.size
        have HP : Hid (BsPost w ss n (.returned (.tuple #[.int .i64 a, .bool (cv == 0)])) w2) := ⟨a, _, rfl, HLB.out, HB2.out⟩
        clear hb2
        rw [← hfb] at HP
        have HFB := Lib.hid hfb
        have hfb2 : (cv == 0) = fb := hfb.symm
        clear hfb
        go_wp2_with fail
        go_ret2
        exact HP.out
      · have HP : Hid (BsPost w ss n (.returned (.tuple #[.int .i64 a, .bool false])) wr) := ⟨a, _, rfl, HLB.out, HB.out⟩
        clear hbw
        go_wp2_with fail
        go_ret2
        exact HP.out
/-- the steps from a state -/
def stepsFrom (a : Au) (n : Int) : List Stp := a.ss.filter fun s => s.f == n
theorem run_of {n : Int} : ∀ (ds : List Stp), (∀ s ∈ ds, n ≤ s.f) → ds.Pairwise (fun s t => s.f ≤ t.f) → ∃ m, m ≤ ds.length ∧ ds.filter (fun s => s.f == n) = ds.take m ∧ (∀ j, (h : j < ds.length) → j < m → ds[j].f = n) ∧ ∀ (h : m < ds.length), ds[m].f ≠ n
  | [], _, _ => ⟨0, Nat.le_refl _, rfl, fun j h => absurd h (by simp), fun h => absurd h (by simp)⟩
  | x :: r, hge, hp => by
    have hp' := List.pairwise_cons.1 hp
    by_cases hx : x.f = n
    · obtain ⟨m, h1, h2, h3, h4⟩ := run_of r (fun s hs => hge s (List.mem_cons_of_mem _ hs)) hp'.2
      refine ⟨m + 1, by simpa using h1, ?_, fun j hj hjm => ?_, fun h => ?_⟩
      · rw [List.filter_cons, if_pos (by simp [hx]), h2]; rfl
      · cases j with
        | zero => exact hx
        | succ j => exact h3 j (by simpa using hj) (by omega)
      · exact h4 (by simpa using h)
    · refine ⟨0, Nat.zero_le _, ?_, fun j _ h => absurd h (by omega), fun _ => hx⟩
      rw [List.take_zero, List.filter_eq_nil_iff]
      intro s hs
      have hxn : n < x.f := by
        have := hge x (List.mem_cons_self ..)
        omega
      rcases List.mem_cons.1 hs with rfl | hs
      · simp; omega
      · have := hp'.1 s hs
        simp
        omega
theorem low_run {ss : List Stp} {n : Int} {i : Nat} (h : LowB ss n i) (ho : ssSorted ss) : ∃ m, i + m ≤ ss.length ∧ ss.filter (fun s => s.f == n) = (ss.drop i).take m ∧ (∀ j, (h : j < ss.length) → i ≤ j → j < i + m → ss[j].f = n) ∧ ∀ (h : i + m < ss.length), ss[i + m].f ≠ n := by
  obtain ⟨m, h1, h2, h3, h4⟩ := run_of (n := n) (ss.drop i) (fun s hs => by
    obtain ⟨j, hj, rfl⟩ := List.getElem_of_mem hs
    rw [List.getElem_drop]
    exact h.hi _ _ (by omega)) (by
    have := ho.sublist (List.drop_sublist i ss)
    exact this.imp (fun {s t} hst => by rw [stpLt_iff] at hst; omega))
  rw [List.length_drop] at h1
  refine ⟨m, by have := h.le; omega, ?_, fun j hj hij hjm => ?_, fun hlt => ?_⟩
  · rw [← h2]
    conv => lhs; rw [← List.take_append_drop i ss, List.filter_append]
    have : (ss.take i).filter (fun s => s.f == n) = [] := by
      rw [List.filter_eq_nil_iff]
      intro s hs
      obtain ⟨j, hj, rfl⟩ := List.getElem_of_mem hs
      rw [List.getElem_take]
      have hj' : j < i ∧ j < ss.length := by rw [List.length_take] at hj; omega
      have := h.lo j hj'.2 hj'.1
      simp
      omega
    rw [this, List.nil_append]
  · have := h3 (j - i) (by rw [List.length_drop]; omega) (by omega)
    rw [List.getElem_drop] at this
    simpa [show i + (j - i) = j by omega] using this
  · have := h4 (by rw [List.length_drop]; omega)
    rw [List.getElem_drop] at this
    exact this
/-- what From hands back: the automaton's variable -/
def FromPost (w : World) (a : Au) (A B C : Option Addr) (ca cb cc : Nat) (e : Ending) (w' : World) : Prop :=
  ∃ V, e = .returned (.func (.func 84) #[] #[.pointer (some ⟨V, 0, none⟩)]) ∧ w.heap.size ≤ V ∧ AuAt w' V a A B C ca cb cc ∧ Below w.heap.size w w'
theorem From_ (a : Au) (A B C : Option Addr) (ca cb cc : Nat) (w : World) :
    Calls Try.prog 49 #[.agg #[.int .i64 a.st, .int .i64 a.le, .slice A a.fs.length ca, .slice B a.gs.length cb, .slice C a.ss.length cc]] w (FromPost w a A B C ca cb cc) := by
  have HW := Lib.hid (auW_is w a A B C ca cb cc)
  go_enter Try.func49, Try.ntmps49
  go_wp2_with fail
  go_ret
  exact ⟨w.heap.size, rfl, Nat.le_refl _, HW.out.at, HW.out.below⟩
/-- the steps from a state as a value: where they begin, and the state, in variables -/
structure NextAt (W : World) (V X Y : Nat) (a : Au) (A B C : Option Addr) (ca cb cc : Nat) (n : Int) (i : Nat) : Prop where
  au : AuAt W V a A B C ca cb cc
  lx : X < W.heap.size
  ly : Y < W.heap.size
  x : W.cell? ⟨X, 0, none⟩ = some (.int .i64 i)
  y : W.cell? ⟨Y, 0, none⟩ = some (.int .i64 n)
theorem NextAt.below {W W' : World} {V X Y m i : Nat} {a : Au} {A B C : Option Addr} {ca cb cc : Nat} {n : Int} (h : NextAt W V X Y a A B C ca cb cc n i) (hb : Below m W W') (h1 : V < m) (h2 : X < m) (h3 : Y < m) : NextAt W' V X Y a A B C ca cb cc n i :=
  ⟨h.au.below hb h1, Nat.lt_of_lt_of_le h.lx hb.size, Nat.lt_of_lt_of_le h.ly hb.size, (cell_on3 hb h2).trans h.x, (cell_on3 hb h3).trans h.y⟩
def NextPost (w : World) (V : Nat) (a : Au) (A B C : Option Addr) (ca cb cc : Nat) (n : Int) (e : Ending) (w' : World) : Prop :=
  ∃ X Y i, e = .returned (.func (.func 88) #[] #[.pointer (some ⟨V, 0, none⟩), .pointer (some ⟨X, 0, none⟩), .pointer (some ⟨Y, 0, none⟩)]) ∧ w.heap.size ≤ X ∧ w.heap.size ≤ Y ∧ NextAt w' V X Y a A B C ca cb cc n i ∧ LowB a.ss n i ∧ Below w.heap.size w w'
set_option maxRecDepth 100000 in
set_option maxHeartbeats 1000000 in
theorem next_ (a : Au) (A B C : Option Addr) (ca cb cc V : Nat) (n : Int) (w : World) (hV : AuAt w V a A B C ca cb cc) (hs : Stps w 0 C cc a.ss) (ho : ssSorted a.ss) (hl : a.ss.length ≤ 1000000) :
    Calls Try.prog 84 #[.int .i64 n, .pointer (some ⟨V, 0, none⟩)] w (NextPost w V a A B C ca cb cc n) := by
  obtain ⟨hV0, c0, c1, c2, c3, c4⟩ := hV
  have HV : Hid (AuAt w V a A B C ca cb cc) := ⟨hV0, c0, c1, c2, c3, c4⟩
  have HBS := Lib.hid (fun W (hW : Below w.heap.size w W) => BinSearch_ C cc a.ss n W (hs.below hW) ho hl)
  clear hs ho c0 c1 c2 c3
  go_enter Try.func84, Try.ntmps84
  go_wp2_with fail
  refine (HBS.out _ ((Below.refl _ _).alloc (Nat.le_refl _) _)).mono ?_
  rintro e w2 ⟨i, f, rfl, hlb, hb2⟩
  have hbb : Below w.heap.size w w2 := ((Below.refl _ _).alloc (Nat.le_refl _) _).trans (hb2.mono (by simp))
  have hy : w2.cell? ⟨w.heap.size, 0, none⟩ = some (.int .i64 n) := (cell_on3 hb2 (b := w.heap.size) (o := 0) (by simp)).trans (by go_simp)
  have hlt : w.heap.size < w2.heap.size := by have := hb2.size; simp at this; omega
  have HP : Hid (NextPost w V a A B C ca cb cc n (.returned (.func (.func 88) #[] #[.pointer (some ⟨V, 0, none⟩), .pointer (some ⟨w2.heap.size, 0, none⟩), .pointer (some ⟨w.heap.size, 0, none⟩)])) (w2.alloc (Obj.cells #[.int .i64 i] 3))) := by
    have h3 : Below w2.heap.size w2 (w2.alloc (Obj.cells #[.int .i64 i] 3)) := (Below.refl _ _).alloc (Nat.le_refl _) _
    refine ⟨w2.heap.size, w.heap.size, i, rfl, by omega, Nat.le_refl _, ⟨(HV.out.below hbb hV0).below h3 (by omega), by simp, by simp; omega, by go_simp, (cell_on3 h3 hlt).trans hy⟩, hlb, Below_on hbb h3 hbb.size⟩
  have HLB := Lib.hid hlb
  clear hb2 hbb hlb
  go_wp2_with fail
  go_ret
  exact HP.out
end Go.Proofs.Ytoglgeaiiipchaa
