/- The statement WordSame, and its card: for every input the law returns true, and its input reads as it did. -/
import Derived.Test.YtoglgeaiiipchabGreatDoorWWS
import Derived.Test.YtoglgeaiiipchabGreatDoorLd
import Derived.Test.YtoglgeaiiipchabGreatDoorFr2
import Derived.ChangeMaps5
import Derived.Test.YtoglgeaiiipchabGreatDoorCards
import Derived.Test.YtoglgeaiiipchabGreatDoorTie
import Derived.LaidMore
import Derived.Lay
import Derived.LaidLaws
import Derived.Stop.Joined
import Derived.SevenTiedAt
namespace Go.Proofs.YtoglgeaiiipchabGreatDoor.wordSame
open Go Go.ChangeShapes Go.WideShapes Go.ChangeAt Go.RowKit Go.Deep Go.Joins Go.ChangeMaps

theorem own : ownKnob Tryz.prog.godebug = none := by kernel_rfl
theorem laidOut : laidOutB Tryz.prog = true := by kernel_rfl
theorem all_le {l : List Nat} (h : l.all (· ≤ reachBytes) = true) : ∀ k ∈ l, k ≤ reachBytes := fun k hk => by simpa using List.all_eq_true.1 h k hk
set_option maxRecDepth 100000 in
set_option maxHeartbeats 2000000 in
theorem lifted (os : Os) (started : os.Started) (H : Type) (enc : TypeId × Value → H) :
    ReturnsInHanded {} Tryz.checked os 3 .any (fun w args => (Rows.wordSameSpec.pre enc Tryz.prog Tryz.f3 [] false w args ∧ laidMetH Tryz.prog Rows.wordSameRow.laid w) ∧ sizedMet enc Tryz.prog Tryz.f3 (OpenSpec.ofChange Rows.wordSameSpec) false w args)
      (Rows.wordSameSpec.post enc Tryz.prog Tryz.f3 false true false false) := by
  refine handed_shaped (C := Tryz.checked) (X := fun w _ => laidMetH Tryz.prog Rows.wordSameRow.laid w) (fun _ _ _ hh h => h.of_heap hh) own started (by kernel_rfl) Tryz.func3
    (ChangeSpec.witness_shaped (enc := enc) (C := Tryz.checked) (os := os) (X := fun w _ => laidMetH Tryz.prog Rows.wordSameRow.laid w) false (World.laidAll Tryz.prog os Rows.wordSameRow.laid) #[.agg #[.int .i64 0, .int .i64 0, .slice none 0 0, .slice none 0 0, .slice none 0 0], .agg #[.slice none 0 0, .slice none 0 0], .int .i64 0] 8 (World.laidAll_os _ _ _) (World.shaped_of_ZipB (by kernel_rfl) (by kernel_rfl)) (by kernel_rfl) (by kernel_rfl) (by kernel_rfl) (by rw [MakeChecks.laidMetH_plain _ _ _ (by kernel_rfl)]; exact laidMet_laidAll _ (by kernel_rfl) (by kernel_rfl))) ?_
  intro W base args ds gs before hshape hval0 hW hwts hX
  have hval : ∀ (j : Nat) t v, Tryz.f3.params[j]? = some t → args[j]? = some v → Value.okWide Tryz.prog W .any base t v := hval0
  have HLD : LaidOK W := laid_ok hshape _ hX (by rfl) ⟨_, by rfl⟩ ⟨_, by rfl⟩
  have hW' := hW
  obtain ⟨p, q, hA0, hV, rfl, hfz, hnd⟩ := hW
  have hA : DataW.TrodAll enc Tryz.prog W 0 (fun _ => true) true Tryz.f3.params.toList args.toList ds p := hA0
  rw [Tryz.params3] at hA hval hwts
  obtain ⟨v0, vs0, d0, ds0, p0, q0, hargs, rfl, rfl, h0, r0⟩ := trodAll_cons hA
  obtain ⟨v1, vs1, d1, ds1, p1, q1, rfl, rfl, rfl, h1, r1⟩ := trodAll_cons r0
  obtain ⟨v2, vs2, d2, ds2, p2, q2, rfl, rfl, rfl, h2, r2⟩ := trodAll_cons r1
  obtain ⟨rfl, rfl, rfl⟩ := trodAll_nil r2
  obtain rfl : args = #[v0, v1, v2] := by cases args; simp_all
  obtain ⟨rfl, rfl⟩ := trodVars_none hV
  have k0 := h0
  have k1 := h1
  have k2 := h2
  have lt0 : ∀ x ∈ p0, x.block < W.heap.size := by obtain ⟨m, hm⟩ := k0; exact DataW.trod_lt m _ _ _ hm
  have lt1 : ∀ x ∈ p1, x.block < W.heap.size := by obtain ⟨m, hm⟩ := k1; exact DataW.trod_lt m _ _ _ hm
  have lt2 : ∀ x ∈ p2, x.block < W.heap.size := by obtain ⟨m, hm⟩ := k2; exact DataW.trod_lt m _ _ _ hm
  have hw : ∀ k ∈ d0.weights Tryz.prog 26 ++ d1.weights Tryz.prog 28, k ≤ reachBytes := fun k hk => all_le hwts k (by
    simp only [List.mem_append] at hk
    change k ∈ DataW.weightsEach Tryz.prog [26, 28, 3] [d0, d1, d2]
    simp only [DataW.weightsEach, List.mem_append]
    rcases hk with hk | hk
    · exact .inl hk
    · exact .inr (.inl hk))
  obtain ⟨a, A, B, C, ca, cb, cc, rfl, hr⟩ := au_in Tryz.underlying26 (by kernel_rfl) (by kernel_rfl) Tryz.underlying3 (by kernel_rfl) (by kernel_rfl) Tryz.underlying4 (by kernel_rfl) (by kernel_rfl) Tryz.underlying108 (by kernel_rfl) (by kernel_rfl)
    rfl rfl rfl rfl rfl Tryz.underlying22 Tryz.underlying23 Tryz.underlying24 rfl rfl rfl rfl rfl rfl (hval 0 26 v0 rfl rfl) h0 (fun k hk => hw k (List.mem_append_left _ hk))
  obtain ⟨v0, v1, y0, y1, n, rfl, rfl, rfl, g0, g1⟩ := open_agg2 Tryz.underlying28 (by kernel_rfl) (by kernel_rfl) (hval 1 28 _ rfl rfl) h1
  have hw1 : ∀ k ∈ y0.1.weights Tryz.prog 22 ++ y1.1.weights Tryz.prog 22, k ≤ reachBytes := fun k hk => hw k (List.mem_append_right _ (by
    simp only [DataW.weights, Tryz.underlying28]
    simpa [DataW.weightsEach] using hk))
  obtain ⟨D, cd, xs, rfl, hh⟩ := ints_in Tryz.underlying22 Tryz.underlying3 (by kernel_rfl) (by kernel_rfl) g0 (fun k hk => hw1 k (List.mem_append_left _ hk))
  obtain ⟨E, ce, ys, rfl, hl⟩ := ints_in Tryz.underlying22 Tryz.underlying3 (by kernel_rfl) (by kernel_rfl) g1 (fun k hk => hw1 k (List.mem_append_right _ hk))
  obtain ⟨z2, rfl⟩ := okWide_int Tryz.underlying3 (hval 2 3 _ rfl rfl)
  have hz : z2 ≤ 9223372036854775807 := by
    obtain ⟨m, hm⟩ := h2
    obtain ⟨z, hz, _, hwf⟩ := DataW.trod_int Tryz.underlying3 hm
    simp [Value.cells] at hz
    subst hz
    simp [Lit.wf] at hwf
    omega
  clear hA0 hval0 hval hwts hw hw1 hX hshape
  refine (WordSame_ a A B C D E ca cb cc cd ce ⟨xs, ys⟩ z2 W hr hh hl hz HLD).mono fun e W' ⟨he, bel⟩ => ?_
  subst he
  exact ⟨_, rfl, _, _, _, [], _, [], hW', trodAll_mk1 (shut_bool Tryz.underlying4 _), (trodAll_cons_mk (Below.trod laidOut (by kernel_rfl) (of_decide_eq_true (by kernel_rfl)) k0 bel lt0) (trodAll_cons_mk (Below.trod laidOut (by kernel_rfl) (of_decide_eq_true (by kernel_rfl)) k1 bel lt1) (trodAll_cons_mk (Below.trod laidOut (by kernel_rfl) (of_decide_eq_true (by kernel_rfl)) k2 bel lt2) trodAll_mk0))), rfl, bel.frame _, fun h => by cases h⟩

theorem over : Rows.WordSameSaid :=
  OpenClaim.holds_of_wide 3 Tryz.f3 rfl rfl rfl rfl rfl rfl rfl ⟨rfl, rfl, rfl, rfl, rfl⟩ rfl rfl rfl rfl rfl (by kernel_rfl) Tryz.func3 (by kernel_rfl)
    (of_decide_eq_true (by kernel_rfl)) (by unfold Func.isWrapper; first | (rw [if_pos (by decide +kernel)]; kernel_rfl) | (rw [if_neg (by decide +kernel)]; exact ⟨rfl, rfl⟩))
    (fun os started H enc _ => lifted os started H enc)

theorem plain (f : FuncId) (fn : Func) (hf : Tryz.pinned.checked.prog.funcNamed "lassowork/lassoworklaw.WordSame" = some f) (hfn : Tryz.pinned.checked.prog.funcs[f]? = some fn) :
    true = Tryz.pinned.checked.prog.looks [] ∧ ∀ (j : Nat) t, fn.params[j]? = some t → Tryz.pinned.checked.prog.wantsStandIn t = false := by
  obtain rfl : f = 3 := Option.some.inj ((show Tryz.prog.funcNamed "lassowork/lassoworklaw.WordSame" = some 3 by kernel_rfl).symm.trans hf) |>.symm
  obtain rfl : fn = Tryz.f3 := (Option.some.inj (Tryz.func3.symm.trans hfn)).symm
  refine ⟨by kernel_rfl, fun j t ht => ?_⟩
  rw [Tryz.params3] at ht
  have hm : t ∈ [26, 28, 3] := by simpa using Array.mem_of_getElem? ht
  have hall : ([26, 28, 3].all fun u => !Tryz.prog.wantsStandIn u) = true := by kernel_rfl
  exact (show Tryz.prog.wantsStandIn t = false by simpa using List.all_eq_true.1 hall t hm)

/-- the statement -/
theorem proved : Rows.WordSameCardSaid :=
  Claim7.holds_tied_plain_at .later [] _ _ _ _ over (fun _ h => by cases h) (by kernel_rfl) (fun _ h => by cases h) wordSame_row_tie rfl ⟨rfl, rfl⟩ (by kernel_rfl) rfl plain (by kernel_rfl)
#print axioms proved
end Go.Proofs.YtoglgeaiiipchabGreatDoor.wordSame
