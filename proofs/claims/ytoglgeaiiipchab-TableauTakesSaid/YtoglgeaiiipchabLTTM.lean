/- The statement TableauTakes: for every input the law returns true, and its input reads as it did. -/
import Derived.Test.YtoglgeaiiipchabLTTM37
import Derived.Test.YtoglgeaiiipchabRows
set_option linter.unusedSimpArgs false
set_option linter.unusedVariables false
namespace Go.Proofs.Ytoglgeaiiipchab.tableauTakes
open Go Go.ChangeShapes Go.WideShapes Go.ChangeAt Go.RowKit Go.Deep Go.Joins

theorem own : ownKnob Try.prog.godebug = none := by kernel_rfl
theorem laidOut : laidOutB Try.prog = true := by kernel_rfl
theorem all_le {l : List Nat} (h : l.all (· ≤ reachBytes) = true) : ∀ k ∈ l, k ≤ reachBytes := fun k hk => by simpa using List.all_eq_true.1 h k hk

set_option maxRecDepth 100000 in
set_option maxHeartbeats 2000000 in
theorem lifted (os : Os) (started : os.Started) (H : Type) (enc : TypeId × Value → H) :
    ReturnsInHanded {} Try.checked os 4 .any (Rows.tableauTakesSpec.pre6 enc Try.prog Try.f4 Rows.tableauTakesRow.domain false) (Rows.tableauTakesSpec.post enc Try.prog Try.f4 false true false false) := by
  refine returnsInHanded_of_change_sized (C := Try.checked) own started (by kernel_rfl) Try.func4
    (ChangeSpec.witness6 (enc := enc) (C := Try.checked) false ⟨#[], #[.slice none 0 0, .agg #[.slice none 0 0, .slice none 0 0]], []⟩ 8 (by kernel_rfl) (by kernel_rfl) (by kernel_rfl) (by kernel_rfl)) ?_
  intro W base args ds gs before hval0 hW hcnd hwts _
  have hval : ∀ (j : Nat) t v, Try.f4.params[j]? = some t → args[j]? = some v → Value.okWide Try.prog W .any base t v := hval0
  have hW' := hW
  obtain ⟨p, q, hA0, hV, rfl, hfz, hnd⟩ := hW
  have hA : DataW.TrodAll enc Try.prog W 0 (fun _ => true) true Try.f4.params.toList args.toList ds p := hA0
  rw [Try.params4] at hA hval hwts
  obtain ⟨v0, vs0, d0, ds0, p0, q0, hargs, rfl, rfl, h0, r0⟩ := trodAll_cons hA
  obtain ⟨v1, vs1, d1, ds1, p1, q1, rfl, rfl, rfl, h1, r1⟩ := trodAll_cons r0
  obtain ⟨rfl, rfl, rfl⟩ := trodAll_nil r1
  obtain rfl : args = #[v0, v1] := by cases args; simp_all
  obtain ⟨rfl, rfl⟩ := trodVars_none hV
  have k0 := h0
  have k1 := h1
  have lt0 : ∀ x ∈ p0, x.block < W.heap.size := by obtain ⟨m, hm⟩ := k0; exact DataW.trod_lt m _ _ _ hm
  have lt1 : ∀ x ∈ p1, x.block < W.heap.size := by obtain ⟨m, hm⟩ := k1; exact DataW.trod_lt m _ _ _ hm
  have hw : ∀ k ∈ d0.weights Try.prog 39 ++ d1.weights Try.prog 28, k ≤ reachBytes := fun k hk => all_le hwts k (by
    simp only [List.mem_append] at hk
    change k ∈ DataW.weightsEach Try.prog [39, 28] [d0, d1]
    simp only [DataW.weightsEach, List.mem_append]
    rcases hk with hk | hk
    · exact .inl hk
    · exact .inr (.inl hk))
  obtain ⟨a0, len0, cap0, rfl⟩ := okWide_slice Try.underlying39 (hval 0 39 v0 rfl rfl)
  obtain ⟨F, fc, f, hfv, hf⟩ : ∃ F fc f, Value.slice a0 len0 cap0 = .slice F f.length fc ∧ Nds W 0 F fc f := by
    obtain ⟨fuel, hh⟩ := h0
    exact nds_in Try.underlying39 Try.underlying74 (by kernel_rfl) (by kernel_rfl) Try.underlying3 (by kernel_rfl) rfl rfl rfl rfl rfl rfl rfl rfl hh (fun k hk => hw k (List.mem_append_left _ hk))
  obtain ⟨v0, v1, y0, y1, n, rfl, rfl, rfl, g0, g1⟩ := open_agg2 Try.underlying28 (by kernel_rfl) (by kernel_rfl) (hval 1 28 _ rfl rfl) h1
  have hw1 : ∀ k ∈ y0.1.weights Try.prog 22 ++ y1.1.weights Try.prog 22, k ≤ reachBytes := fun k hk => hw k (List.mem_append_right _ (by
    simp only [DataW.weights, Try.underlying28]
    simpa [DataW.weightsEach] using hk))
  obtain ⟨A, ca, xs, rfl, hh⟩ := ints_in Try.underlying22 Try.underlying3 (by kernel_rfl) (by kernel_rfl) g0 (fun k hk => hw1 k (List.mem_append_left _ hk))
  obtain ⟨B, cb, ys, rfl, hl⟩ := ints_in Try.underlying22 Try.underlying3 (by kernel_rfl) (by kernel_rfl) g1 (fun k hk => hw1 k (List.mem_append_right _ hk))
  obtain ⟨rfl, rfl, rfl⟩ := by simpa using hfv
  clear hA0 hval0 hval hwts hw hw1
  refine (TableauTakes_ f _ A B _ ca cb ⟨xs, ys⟩ W hf hh hl).mono fun e W' ⟨he, bel⟩ => ?_
  subst he
  exact ⟨_, rfl, _, _, _, [], _, [], hW', trodAll_mk1 (shut_bool Try.underlying4 _), (trodAll_cons_mk (Below.trod laidOut (by kernel_rfl) (of_decide_eq_true (by kernel_rfl)) k0 bel lt0) (trodAll_cons_mk (Below.trod laidOut (by kernel_rfl) (of_decide_eq_true (by kernel_rfl)) k1 bel lt1) trodAll_mk0)), rfl, bel.frame _, fun h => by cases h⟩

theorem over : Rows.tableauTakesRow.holds Try.pinned (OpenSpec.ofChange Rows.tableauTakesSpec) :=
  OpenClaim.holds_of_wide 4 Try.f4 rfl rfl rfl rfl rfl rfl rfl ⟨rfl, rfl, rfl, rfl, rfl⟩ rfl rfl rfl rfl rfl (by kernel_rfl) Try.func4 (by kernel_rfl)
    (of_decide_eq_true (by kernel_rfl)) (by unfold Func.isWrapper; first | (rw [if_pos (by decide +kernel)]; kernel_rfl) | (rw [if_neg (by decide +kernel)]; exact ⟨rfl, rfl⟩))
    (fun os started H enc _ => lifted os started H enc)

/-- the statement -/
theorem proved : Rows.TableauTakesSaid := over
#print axioms proved
end Go.Proofs.Ytoglgeaiiipchab.tableauTakes
