/- The statement IncludeSame: for every input the law returns true, and its input reads as it did. -/
import Derived.Test.YtoglgeaiiipchaaLISM35
import Derived.Test.YtoglgeaiiipchaaRows
set_option linter.unusedSimpArgs false
set_option linter.unusedVariables false
namespace Go.Proofs.Ytoglgeaiiipchaa.includeSame
open Go Go.ChangeShapes Go.WideShapes Go.ChangeAt Go.RowKit Go.Deep Go.Joins

theorem own : ownKnob Try.prog.godebug = none := by kernel_rfl
theorem laidOut : laidOutB Try.prog = true := by kernel_rfl
theorem all_le {l : List Nat} (h : l.all (· ≤ reachBytes) = true) : ∀ k ∈ l, k ≤ reachBytes := fun k hk => by simpa using List.all_eq_true.1 h k hk

set_option maxRecDepth 100000 in
set_option maxHeartbeats 2000000 in
theorem lifted (os : Os) (started : os.Started) (H : Type) (enc : TypeId × Value → H) :
    ReturnsInHanded {} Try.checked os 7 .any (Rows.includeSameSpec.pre6 enc Try.prog Try.f7 Rows.includeSameRow.domain false) (Rows.includeSameSpec.post enc Try.prog Try.f7 false true false false) := by
  refine returnsInHanded_of_change_sized (C := Try.checked) own started (by kernel_rfl) Try.func7
    (ChangeSpec.witness6 (enc := enc) (C := Try.checked) false ⟨#[], #[.agg #[.int .i64 0, .int .i64 0, .slice none 0 0, .slice none 0 0, .slice none 0 0], .agg #[.int .i64 0, .int .i64 0, .slice none 0 0, .slice none 0 0, .slice none 0 0], .agg #[.slice none 0 0, .slice none 0 0]], []⟩ 8 (by kernel_rfl) (by kernel_rfl) (by kernel_rfl) (by kernel_rfl)) ?_
  intro W base args ds gs before hval0 hW hcnd hwts _
  have hval : ∀ (j : Nat) t v, Try.f7.params[j]? = some t → args[j]? = some v → Value.okWide Try.prog W .any base t v := hval0
  have hW' := hW
  obtain ⟨p, q, hA0, hV, rfl, hfz, hnd⟩ := hW
  have hA : DataW.TrodAll enc Try.prog W 0 (fun _ => true) true Try.f7.params.toList args.toList ds p := hA0
  rw [Try.params7] at hA hval hwts
  obtain ⟨v0, vs0, d0, ds0, p0, q0, hargs, rfl, rfl, h0, r0⟩ := trodAll_cons hA
  obtain ⟨v1, vs1, d1, ds1, p1, q1, rfl, rfl, rfl, h1, r1⟩ := trodAll_cons r0
  obtain ⟨v2, vs2, d2, ds2, p2, q2, rfl, rfl, rfl, h2, r2⟩ := trodAll_cons r1
  obtain ⟨rfl, rfl, rfl⟩ := trodAll_nil r2
  obtain rfl : args = #[v0, v1, v2] := by cases args; simp_all
  obtain ⟨rfl, rfl⟩ := trodVars_none hV
  have k0 := h0
  have k1 := h1
  have k2 := h2
  have lt0 : ∀ x ∈ p0, x.block < W.heap.size := by obtain ⟨m, hm⟩ := k0; exact DataW.trod_lt m _ _ _ hm
  have lt1 : ∀ x ∈ p1, x.block < W.heap.size := by obtain ⟨m, hm⟩ := k1; exact DataW.trod_lt m _ _ _ hm
  have lt2 : ∀ x ∈ p2, x.block < W.heap.size := by obtain ⟨m, hm⟩ := k2; exact DataW.trod_lt m _ _ _ hm
  have hw : ∀ k ∈ d0.weights Try.prog 49 ++ (d1.weights Try.prog 49 ++ d2.weights Try.prog 26), k ≤ reachBytes := fun k hk => all_le hwts k (by
    simp only [List.mem_append] at hk
    change k ∈ DataW.weightsEach Try.prog [49, 49, 26] [d0, d1, d2]
    simp only [DataW.weightsEach, List.mem_append]
    rcases hk with hk | hk | hk
    · exact .inl hk
    · exact .inr (.inl hk)
    · exact .inr (.inr (.inl hk)))
  obtain ⟨a, A, B, C, ca, cb, cc, rfl, hau⟩ : ∃ a A B C ca cb cc, v0 = .agg #[.int .i64 a.st, .int .i64 a.le, .slice A a.fs.length ca, .slice B a.gs.length cb, .slice C a.ss.length cc] ∧ AuRd W 0 a A B C ca cb cc :=
    au_in Try.underlying49 (by kernel_rfl) (by kernel_rfl) Try.underlying3 (by kernel_rfl) (by kernel_rfl) Try.underlying4 (by kernel_rfl) (by kernel_rfl) Try.underlying90 (by kernel_rfl) (by kernel_rfl) rfl rfl rfl rfl rfl Try.underlying24 Try.underlying37 Try.underlying47 rfl rfl rfl rfl rfl rfl (hval 0 49 v0 rfl rfl) h0 (fun k hk => hw k (List.mem_append_left _ hk))
  obtain ⟨b, D, E, F, cd, ce, cf, rfl, hbu⟩ : ∃ a A B C ca cb cc, v1 = .agg #[.int .i64 a.st, .int .i64 a.le, .slice A a.fs.length ca, .slice B a.gs.length cb, .slice C a.ss.length cc] ∧ AuRd W 0 a A B C ca cb cc :=
    au_in Try.underlying49 (by kernel_rfl) (by kernel_rfl) Try.underlying3 (by kernel_rfl) (by kernel_rfl) Try.underlying4 (by kernel_rfl) (by kernel_rfl) Try.underlying90 (by kernel_rfl) (by kernel_rfl) rfl rfl rfl rfl rfl Try.underlying24 Try.underlying37 Try.underlying47 rfl rfl rfl rfl rfl rfl (hval 1 49 v1 rfl rfl) h1 (fun k hk => hw k (List.mem_append_right _ (List.mem_append_left _ hk)))
  obtain ⟨v0, v1, y0, y1, n, rfl, rfl, rfl, g0, g1⟩ := open_agg2 Try.underlying26 (by kernel_rfl) (by kernel_rfl) (hval 2 26 _ rfl rfl) h2
  have hw1 : ∀ k ∈ y0.1.weights Try.prog 24 ++ y1.1.weights Try.prog 24, k ≤ reachBytes := fun k hk => hw k (List.mem_append_right _ (List.mem_append_right _ (by
    simp only [DataW.weights, Try.underlying26]
    simpa [DataW.weightsEach] using hk)))
  obtain ⟨G, cg, xs, rfl, hh⟩ := ints_in Try.underlying24 Try.underlying3 (by kernel_rfl) (by kernel_rfl) g0 (fun k hk => hw1 k (List.mem_append_left _ hk))
  obtain ⟨K, ck, ys, rfl, hl⟩ := ints_in Try.underlying24 Try.underlying3 (by kernel_rfl) (by kernel_rfl) g1 (fun k hk => hw1 k (List.mem_append_right _ hk))
  clear hA0 hval0 hval hwts hw hw1
  refine (IncludeSame_ a b ⟨xs, ys⟩ A B C D E F G K ca cb cc cd ce cf cg ck W hau hbu hh hl).mono fun e W' ⟨he, bel⟩ => ?_
  subst he
  exact ⟨_, rfl, _, _, _, [], _, [], hW', trodAll_mk1 (shut_bool Try.underlying4 _), (trodAll_cons_mk (Below.trod laidOut (by kernel_rfl) (of_decide_eq_true (by kernel_rfl)) k0 bel lt0) (trodAll_cons_mk (Below.trod laidOut (by kernel_rfl) (of_decide_eq_true (by kernel_rfl)) k1 bel lt1) (trodAll_cons_mk (Below.trod laidOut (by kernel_rfl) (of_decide_eq_true (by kernel_rfl)) k2 bel lt2) trodAll_mk0))), rfl, bel.frame _, fun h => by cases h⟩

theorem over : Rows.includeSameRow.holds Try.pinned (OpenSpec.ofChange Rows.includeSameSpec) :=
  OpenClaim.holds_of_wide 7 Try.f7 rfl rfl rfl rfl rfl rfl rfl ⟨rfl, rfl, rfl, rfl, rfl⟩ rfl rfl rfl rfl rfl (by kernel_rfl) Try.func7 (by kernel_rfl)
    (of_decide_eq_true (by kernel_rfl)) (by unfold Func.isWrapper; first | (rw [if_pos (by decide +kernel)]; kernel_rfl) | (rw [if_neg (by decide +kernel)]; exact ⟨rfl, rfl⟩))
    (fun os started H enc _ => lifted os started H enc)

/-- the statement -/
theorem proved : Rows.IncludeSameSaid := over
#print axioms proved
end Go.Proofs.Ytoglgeaiiipchaa.includeSame
