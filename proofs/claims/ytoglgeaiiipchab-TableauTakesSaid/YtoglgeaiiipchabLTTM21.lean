/- An automaton in the making among what rounds of ranges over functions may turn. -/
import Derived.Test.YtoglgeaiiipchabLTTM15
import Derived.Test.YtoglgeaiiipchabLTTM3
set_option linter.unusedSimpArgs false
set_option linter.unusedVariables false
namespace Go.Proofs.Ytoglgeaiiipchab
open Go Go.RowKit Go.Sort

theorem own_slice {v : Value} {k : Nat} (h : v.ownBlock = some k) : ∃ ad n c, v = .slice (some ad) n c ∧ ad.block = k := by
  cases v <;> simp only [Value.ownBlock] at h <;> try (cases h; done)
  rename_i A n c
  cases A with
  | none => cases h
  | some ad => exact ⟨ad, n, c, rfl, by simpa [Value.ownBlock] using h⟩
theorem Good.own {lo n k : Nat} {Ms Fs : List Nat} {A B : World} (hF : ∀ F ∈ Fs, F < n) {row : Option Nat} (hs : Sane lo Ms Fs A) (h : Good lo Ms Fs A k) (hg : A.grownBy B row) (hr : ∀ r, row = some r → n ≤ r ∧ ∃ o : Obj, A.heap[r]? = some o ∧ o.isCells = false) : Good lo Ms Fs B k := by
  have cl : ∀ F ∈ Fs, ∀ o, B.cell? ⟨F, o, none⟩ = A.cell? ⟨F, o, none⟩ := fun F h o => cell_of_heap (hg.block F (hs.F_lt h) fun e => by have := (hr F e.symm).1; have := hF F h; omega) o
  have e : ∀ k, Bad Ms Fs B k → Bad Ms Fs A k := by
    rintro k (h | h | ⟨F, h, o, ad, m, c, hc, he⟩)
    · exact .inl h
    · exact .inr (.inl h)
    · exact .inr (.inr ⟨F, h, o, ad, m, c, (cl F h o).symm.trans hc, he⟩)
  exact ⟨Nat.lt_of_lt_of_le h.lt hg.size, fun hb => h.not (e k hb)⟩
/-- a cell that no round turns -/
def Kc (lo G : Nat) (W : World) (k o : Nat) (v : Value) : Prop := Good lo [] [G] W k ∧ W.cell? ⟨k, o, none⟩ = some v
theorem Kc.off {lo G k o : Nat} {W W' : World} {v : Value} (h : Kc lo G W k o v) (ho : Off lo [] [G] W W') : Kc lo G W' k o v := ⟨h.1.off ho, (h.1.cell ho).trans h.2⟩
section
variable {B G : Nat} {st le : Int} {fs : List Int} {gs : List Bool} {ss : List Stp} {fv gv sv : Value} {W W' : World}
theorem AuN.cell_ (h : AuN B G st le fs gs ss fv gv sv W) {o : Nat} {ad : Addr} {n c : Nat} (hc : W.cell? ⟨G, o, none⟩ = some (.slice (some ad) n c)) : fv.ownBlock = some ad.block ∨ gv.ownBlock = some ad.block ∨ sv.ownBlock = some ad.block := by
  simp only [World.cell?, h.obj] at hc
  match o, hc with
  | 0, hc => simp at hc
  | 1, hc => simp at hc
  | 2, hc => obtain rfl : fv = _ := by simpa using hc
             exact .inl rfl
  | 3, hc => obtain rfl : gv = _ := by simpa using hc
             exact .inr (.inl rfl)
  | 4, hc => obtain rfl : sv = _ := by simpa using hc
             exact .inr (.inr rfl)
  | o + 5, hc => simp at hc
theorem AuN.bad (h : AuN B G st le fs gs ss fv gv sv W) {Ms : List Nat} {k : Nat} : Bad Ms [G] W k ↔ k ∈ Ms ∨ k = G ∨ fv.ownBlock = some k ∨ gv.ownBlock = some k ∨ sv.ownBlock = some k := by
  obtain ⟨_, _, c2, c3, c4, _⟩ := obj5 h.obj
  unfold Bad
  refine or_congr Iff.rfl (or_congr List.mem_singleton ⟨?_, fun hv => ?_⟩)
  · rintro ⟨F', hF, o, ad, n, c, hc, rfl⟩
    obtain rfl := List.mem_singleton.1 hF
    exact h.cell_ hc
  · rcases hv with hv | hv | hv
    all_goals obtain ⟨ad, n, c, rfl, he⟩ := own_slice hv
    · exact ⟨G, List.mem_singleton.2 rfl, 2, ad, n, c, c2, he⟩
    · exact ⟨G, List.mem_singleton.2 rfl, 3, ad, n, c, c3, he⟩
    · exact ⟨G, List.mem_singleton.2 rfl, 4, ad, n, c, c4, he⟩
theorem AuN.sane {lo : Nat} (hlo : lo ≤ B) (h : AuN B G st le fs gs ss fv gv sv W) {Ms : List Nat} (hM : ∀ k ∈ Ms, lo ≤ k ∧ k < W.heap.size) : Sane lo Ms [G] W := by
  refine ⟨fun k hk => ?_, fun F' hF' o ad m c hc => ?_⟩
  · rcases h.bad.1 hk with h1 | rfl | h1 | h1 | h1
    · exact hM k h1
    · exact ⟨Nat.le_trans hlo h.lo, h.lt⟩
    · exact ⟨Nat.le_trans hlo (h.f.lt k h1).1, (h.f.lt k h1).2⟩
    · exact ⟨Nat.le_trans hlo (h.g.lt k h1).1, (h.g.lt k h1).2⟩
    · exact ⟨Nat.le_trans hlo (h.s.lt k h1).1, (h.s.lt k h1).2⟩
  · obtain rfl := List.mem_singleton.1 hF'
    rcases h.cell_ hc with h1 | h1 | h1
    · exact own_cells h.f h1
    · exact own_cells h.g h1
    · exact own_cells h.s h1
/-- rows have been turned -/
theorem AuN.off {st' le' : Int} {fs' : List Int} {gs' : List Bool} {ss' : List Stp} {fv' gv' sv' : Value} {lo : Nat} (hlo : lo ≤ B) (h : AuN B G st le fs gs ss fv gv sv W) (h' : AuN B G st' le' fs' gs' ss' fv' gv' sv' W') {Ms : List Nat} (hM : ∀ k ∈ Ms, lo ≤ k ∧ k < W.heap.size)
    (hos : W'.os = W.os) (htape : W'.tape = W.tape) (hout : W'.output = W.output) (hsz : W.heap.size ≤ W'.heap.size)
    (hb : ∀ k, k < W.heap.size → k ∉ Ms → k ≠ G → fv.ownBlock ≠ some k → gv.ownBlock ≠ some k → sv.ownBlock ≠ some k → W'.heap[k]? = W.heap[k]?)
    (hf : fv'.ownBlock = fv.ownBlock ∨ ∀ r, fv'.ownBlock = some r → W.heap.size ≤ r) (hg : gv'.ownBlock = gv.ownBlock ∨ ∀ r, gv'.ownBlock = some r → W.heap.size ≤ r) (hs : sv'.ownBlock = sv.ownBlock ∨ ∀ r, sv'.ownBlock = some r → W.heap.size ≤ r) : Off lo Ms [G] W W' := by
  refine ⟨hos, htape, hout, hsz, fun k hk hn => ?_, fun k hk => ?_, h'.sane hlo fun k hk => ⟨(hM k hk).1, Nat.lt_of_lt_of_le (hM k hk).2 hsz⟩⟩
  · rw [h.bad] at hn
    exact hb k hk (fun e => hn (.inl e)) (fun e => hn (.inr (.inl e))) (fun e => hn (.inr (.inr (.inl e)))) (fun e => hn (.inr (.inr (.inr (.inl e))))) (fun e => hn (.inr (.inr (.inr (.inr e)))))
  · rw [h.bad]
    rcases h'.bad.1 hk with h1 | h1 | h1 | h1 | h1
    · exact .inl (.inl h1)
    · exact .inl (.inr (.inl h1))
    · rcases hf with h2 | h2
      · exact .inl (.inr (.inr (.inl (by rw [← h2]; exact h1))))
      · exact .inr (h2 k h1)
    · rcases hg with h2 | h2
      · exact .inl (.inr (.inr (.inr (.inl (by rw [← h2]; exact h1)))))
      · exact .inr (h2 k h1)
    · rcases hs with h2 | h2
      · exact .inl (.inr (.inr (.inr (.inr (by rw [← h2]; exact h1)))))
      · exact .inr (h2 k h1)
theorem AuN.appSO (h : AuN B G st le fs gs ss fv gv sv W) (x : Stp) (hl : ss.length ≤ 1000000000) :
    AppTo G 4 sv 24 49 #[.int .i64 x.f, .int .i64 x.l, .int .i64 x.t] ss.length W (fun v' W' => AuN B G st le fs gs (ss ++ [x]) fv gv v' W' ∧ ∀ lo Ms, lo ≤ B → (∀ k ∈ Ms, lo ≤ k ∧ k < W.heap.size) → Off lo Ms [G] W W') := by
  obtain ⟨i0, hi0, hz0, hz1, hz2⟩ := info_parts infoSt
  have hlt := h.lt
  have hb : Below W.heap.size W (W.alloc (Obj.cells #[.int .i64 x.f, .int .i64 x.l, .int .i64 x.t] 49)) := (Below.refl _ _).alloc (Nat.le_refl _) _
  obtain ⟨A1, c1, e1, hc1, hc2, _⟩ := own_form h.s
  obtain ⟨v3, w3, hr, hown, hg, hat⟩ := run_app (P := Try.prog) (W.alloc (Obj.cells #[.int .i64 x.f, .int .i64 x.l, .int .i64 x.t] 49)) B 24 24 49 i0 _ 3 24 Try.underlying24 hi0 hz0 hz1 hz2 rfl (by decide) _ ss.length _ (own_below h.s hb) (some ⟨W.heap.size, 0, none⟩) 1 1 [.int .i64 x.f, .int .i64 x.l, .int .i64 x.t] rfl
    (Rd.new W #[.int .i64 x.f, .int .i64 x.l, .int .i64 x.t] 49) (by simp [Value.oneCell']) (by simp only [maxLen]; omega) (by omega) (by have := h.lo; simp; omega)
  obtain ⟨T3, c3, rfl, _, _, _⟩ := own_form hown
  have hG3 := obj_appN h.obj h.s (by decide) hb hg
  obtain ⟨_, _, _, _, q, _, _, _, _, fz⟩ := obj5 hG3
  have hown' := own_set_ty hown hG3 (by decide) 4 (.slice T3 (ss.length + 1) c3)
  have HN : AuN B G st le fs gs (ss ++ [x]) fv gv (.slice T3 (ss.length + 1) c3) (w3.setCell ⟨G, 4, none⟩ (.slice T3 (ss.length + 1) c3)) := ⟨h.lo, heap_set4 hG3 _, own_otherN h.f h.s (by decide) hb hg hG3 (by decide) 4 (.slice T3 (ss.length + 1) c3), own_otherN h.g h.s (by decide) hb hg hG3 (by decide) 4 (.slice T3 (ss.length + 1) c3), by
    rw [show (ss ++ [x]).length = ss.length + 1 by simp, show (ss ++ [x]).flatMap Stp.cells = ss.flatMap Stp.cells ++ [.int .i64 x.f, .int .i64 x.l, .int .i64 x.t] by simp [Stp.cells]]
    exact hown'⟩
  refine ⟨A1, c1, e1, hc1, hc2, T3, c3, w3, by rw [← e1]; exact hr, q, fz, hg, HN, fun lo Ms hlo hM => h.off hlo HN hM ?_ ?_ ?_ ?_ ?_ (.inl rfl) (.inl rfl) ?_⟩
  · exact hg.os.trans hb.os
  · exact hg.tape.trans hb.tape
  · exact hg.output.trans hb.output
  · refine Nat.le_trans (Nat.le_trans hb.size hg.size) (Nat.le_of_eq ?_)
    simp [World.setCell]
  · intro k hk _ h2 _ _ h5
    exact (Below.heap_setCell _ _ _ _ h2).trans ((hg.block k (Nat.lt_of_lt_of_le hk hb.size) (fun e => h5 e.symm)).trans (hb.block k hk))
  · rcases hat with h1 | h1
    · exact .inl h1
    · refine .inr fun r hr => ?_
      rw [h1] at hr
      obtain rfl := Option.some.inj hr
      simp
/-- a block below all that may turn -/
theorem AuN.good {lo k : Nat} {Ms : List Nat} (h : AuN B G st le fs gs ss fv gv sv W) (hk : k < B) (hM : k ∉ Ms) : Good lo Ms [G] W k := by
  refine ⟨Nat.lt_of_lt_of_le hk (Nat.le_trans h.lo (Nat.le_of_lt h.lt)), fun hb => ?_⟩
  have hl := h.lo
  rcases h.bad.1 hb with h1 | rfl | h1 | h1 | h1
  · exact hM h1
  · omega
  · have := (h.f.lt k h1).1; omega
  · have := (h.g.lt k h1).1; omega
  · have := (h.s.lt k h1).1; omega
theorem AuN.below_off {lo : Nat} {Ms : List Nat} (h : AuN B G st le fs gs ss fv gv sv W) (ho : Off lo Ms [G] W W') (hM : ∀ k ∈ Ms, B ≤ k) : Below B W W' :=
  ⟨ho.os, ho.tape, ho.output, ho.size, fun k hk => by
    have hg := h.good (lo := lo) (Ms := Ms) hk (fun hm => by have := hM k hm; omega)
    exact ho.block k hg.lt hg.not⟩
theorem AuN.good_obj {lo l : Nat} {o : Obj} (h : AuN B G st le fs gs ss fv gv sv W) (hl : W.heap[l]? = some o) (ho : o.isCells = false) : Good lo [] [G] W l := by
  refine ⟨(Array.getElem?_eq_some_iff.1 hl).1, fun hb => ?_⟩
  have no : ∀ {ob : Obj}, W.heap[l]? = some ob → ob.isCells = true → False := fun h1 h2 => by
    rw [hl] at h1
    rw [← Option.some.inj h1, ho] at h2
    cases h2
  rcases h.bad.1 hb with h1 | rfl | h1 | h1 | h1
  · cases h1
  · exact no h.obj rfl
  · obtain ⟨ob, a1, a2⟩ := own_cells h.f h1; exact no a1 a2
  · obtain ⟨ob, a1, a2⟩ := own_cells h.g h1; exact no a1 a2
  · obtain ⟨ob, a1, a2⟩ := own_cells h.s h1; exact no a1 a2
/-- what abides a loop's record -/
theorem AuN.own {row : Option Nat} (h : AuN B G st le fs gs ss fv gv sv W) (hg : W.grownBy W' row) (hr : ∀ r, row = some r → ∃ o : Obj, W.heap[r]? = some o ∧ o.isCells = false) : AuN B G st le fs gs ss fv gv sv W' := by
  have cl : ∀ {k : Nat} {o : Obj}, W.heap[k]? = some o → o.isCells = true → some k ≠ row := fun hk ho e => by
    obtain ⟨o', h1, h2⟩ := hr _ e.symm
    rw [hk] at h1
    rw [← Option.some.inj h1, ho] at h2
    cases h2
  have cv : ∀ {v : Value} {e : TypeId} {sz n : Nat} {xs : List Value}, W.ownsRow B e sz v n xs → W'.ownsRow B e sz v n xs := fun {v e sz n xs} ho => by
    refine World.ownsRow.kept ho hg ?_
    cases hv : v.ownBlock with
    | none => exact .inl rfl
    | some r =>
      obtain ⟨ob, h1, h2⟩ := own_cells ho hv
      exact .inr (cl h1 h2)
  exact ⟨h.lo, (hg.block G h.lt (cl h.obj rfl)).trans h.obj, cv h.f, cv h.g, cv h.s⟩
/-- the row of steps in another order -/
theorem AuN.reS {ss' : List Stp} (h : AuN B G st le fs gs ss fv gv sv W) (ho : W'.ownsRow B 49 3 sv ss'.length (ss'.flatMap Stp.cells)) (hg : W.grownBy W' sv.ownBlock) : AuN B G st le fs gs ss' fv gv sv W' :=
  ⟨h.lo, (hg.block G h.lt (fun e => own_ty h.s h.obj (by decide) e.symm)).trans h.obj, World.ownsRow.kept h.f hg (own_ty2 h.f h.s (by decide)), World.ownsRow.kept h.g hg (own_ty2 h.g h.s (by decide)), ho⟩
theorem AuN.putS {ss' : List Stp} {v' : Value} (h : AuN B G st le fs gs ss fv gv sv W) (ho : W.ownsRow B 49 3 v' ss'.length (ss'.flatMap Stp.cells)) : AuN B G st le fs gs ss' fv gv v' (W.setCell ⟨G, 4, none⟩ v') :=
  ⟨h.lo, heap_set4 h.obj _, own_set_ty h.f h.obj (by decide) 4 v', own_set_ty h.g h.obj (by decide) 4 v', own_set_ty ho h.obj (by decide) 4 v'⟩
theorem AuN.putS2 {ss' : List Stp} {v' : Value} (h : AuN B G st le fs gs ss fv gv sv W) (ho : W'.ownsRow B 49 3 v' ss'.length (ss'.flatMap Stp.cells)) (hg : W.grownBy W' sv.ownBlock) : AuN B G st le fs gs ss' fv gv v' (W'.setCell ⟨G, 4, none⟩ v') ∧ W'.heap[G]? = some (.cells #[.int .i64 st, .int .i64 le, fv, gv, sv] 26 (0, 0)) := by
  have ho' := (hg.block G h.lt (fun e => own_ty h.s h.obj (by decide) e.symm)).trans h.obj
  exact ⟨⟨h.lo, heap_set4 ho' _, own_set_ty (World.ownsRow.kept h.f hg (own_ty2 h.f h.s (by decide))) ho' (by decide) 4 v', own_set_ty (World.ownsRow.kept h.g hg (own_ty2 h.g h.s (by decide))) ho' (by decide) 4 v', own_set_ty ho ho' (by decide) 4 v'⟩, ho'⟩
end
theorem retA1 {fn : Func} {p : Tmp} (h : fn.results = #[.cell p 26]) (tmps : Array Value) (w : World) (V : Nat) {v0 v1 v2 v3 v4 : Value} (hp : tmps[p]? = some (.pointer (some ⟨V, 0, none⟩)))
    (ho : w.heap[V]? = some (.cells #[v0, v1, v2, v3, v4] 26 (0, 0))) : (results fn tmps).run Try.prog w = .ok (.agg #[v0, v1, v2, v3, v4]) w := by
  obtain ⟨r0, r1, r2, r3, r4, _⟩ := obj5 ho
  simp [results, h, go_sem, hp, r0, r1, r2, r3, r4]
end Go.Proofs.Ytoglgeaiiipchab
