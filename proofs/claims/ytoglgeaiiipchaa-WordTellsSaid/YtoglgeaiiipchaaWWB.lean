/- Walks: the law's one, zero and wordBegun. -/
import Derived.Test.YtoglgeaiiipchaaWTks
import Derived.Test.YtoglgeaiiipchaaWA
import Derived.Test.YtoglgeaiiipchaaWLe
namespace Go.Proofs.Ytoglgeaiiipchaa
open Go Go.RowKit Go.Shelf

def oneA : Au := ⟨1, 2, [0], [true], [⟨0, 0, 0⟩]⟩
def zeroL : La := ⟨[], [0]⟩
def oneL : La := ⟨[1], [0]⟩
def zerL : La := ⟨[0], [0, 0]⟩
theorem flat_ints (xs : List Int) : xs.flatMap (fun n : Int => [Value.int .i64 n]) = xs.map (Value.int .i64) := by
  induction xs with
  | nil => rfl
  | cons x r ih => rw [List.flatMap_cons, List.map_cons, ih]; rfl
theorem ints_lit {W : World} {b : Nat} {t : TypeId} {fz : Nat × Nat} (xs : List Int) (h : W.heap[b]? = some (.cells (xs.map (Value.int .i64)).toArray t fz)) (hl : xs.length ≤ 1000) : Ints W 0 (some ⟨b, 0, none⟩) xs.length xs := by
  refine ⟨Nat.le_refl _, by omega, by omega, fun _ => ⟨b, 0, rfl, Nat.zero_le _, (Array.getElem?_eq_some_iff.1 h).1, fun j u hu => ?_⟩⟩
  simp only [World.cell?, h, Nat.zero_add]
  rw [flat_ints] at hu
  simpa using hu
def AuPost (w : World) (a : Au) (e : Ending) (w' : World) : Prop := ∃ A B C ca cb cc, e = .returned (.agg #[.int .i64 a.st, .int .i64 a.le, .slice A a.fs.length ca, .slice B a.gs.length cb, .slice C a.ss.length cc]) ∧ AuRd w' w.heap.size a A B C ca cb cc ∧ Below w.heap.size w w'
def oneW (w : World) : World := (((w.alloc (Obj.cells #[.int .i64 1, .int .i64 2, .slice (some ⟨w.heap.size + 1, 0, none⟩) 1 1, .slice (some ⟨w.heap.size + 1 + 1, 0, none⟩) 1 1, .slice (some ⟨w.heap.size + 1 + 1 + 1, 0, none⟩) 1 1] 49)).alloc
  (Obj.cells #[.int .i64 0] 3)).alloc (Obj.cells #[.bool true] 4)).alloc (Obj.cells #[.int .i64 0, .int .i64 0, .int .i64 0] 90)
theorem oneW_is (w : World) : AuRd (oneW w) w.heap.size oneA (some ⟨w.heap.size + 1, 0, none⟩) (some ⟨w.heap.size + 1 + 1, 0, none⟩) (some ⟨w.heap.size + 1 + 1 + 1, 0, none⟩) 1 1 1 ∧ Below w.heap.size w (oneW w) := by
  refine ⟨⟨?_, ?_, ?_⟩, by unfold oneW; go_grown⟩
  · refine ⟨by decide, by omega, by decide, fun _ => ⟨_, 0, rfl, by omega, by unfold oneW; simp, fun j u hu => ?_⟩⟩
    match j, hu with
    | 0, hu => simp [oneA] at hu; subst hu; unfold oneW; go_simp
    | j + 1, hu => simp [oneA] at hu
  · refine ⟨by decide, by omega, by decide, fun _ => ⟨_, 0, rfl, by omega, by unfold oneW; simp, fun j u hu => ?_⟩⟩
    match j, hu with
    | 0, hu => simp [oneA] at hu; subst hu; unfold oneW; go_simp
    | j + 1, hu => simp [oneA] at hu
  · refine ⟨by decide, by omega, by decide, fun _ => ⟨_, 0, rfl, by omega, by unfold oneW; simp, fun j u hu => ?_⟩⟩
    match j, hu with
    | 0, hu => simp [oneA, Stp.cells] at hu; subst hu; unfold oneW; go_simp
    | 1, hu => simp [oneA, Stp.cells] at hu; subst hu; unfold oneW; go_simp
    | 2, hu => simp [oneA, Stp.cells] at hu; subst hu; unfold oneW; go_simp
    | j + 3, hu => simp [oneA, Stp.cells] at hu
set_option maxRecDepth 100000 in
theorem one_ (w : World) : Calls Try.prog 43 #[] w (AuPost w oneA) := by
  have HP : Hid (AuPost w oneA (.returned (.agg #[.int .i64 1, .int .i64 2, .slice (some ⟨w.heap.size + 1, 0, none⟩) 1 1, .slice (some ⟨w.heap.size + 1 + 1, 0, none⟩) 1 1, .slice (some ⟨w.heap.size + 1 + 1 + 1, 0, none⟩) 1 1])) (oneW w)) :=
    ⟨_, _, _, _, _, _, rfl, (oneW_is w).1, (oneW_is w).2⟩
  go_enter Try.func43, Try.ntmps43
  go_wp2_with fail
  exact bodyPost_ret (by simp [results, Try.results43, go_sem]) rfl HP.out
def zerW (w : World) : World := (w.alloc (Obj.cells #[.slice none 0 0, .slice (some ⟨w.heap.size + 1, 0, none⟩) 1 1] 26)).alloc (Obj.cells #[.int .i64 0] 3)
theorem zerW_is (w : World) : Ints (zerW w) w.heap.size (some ⟨w.heap.size + 1, 0, none⟩) 1 [0] ∧ Below w.heap.size w (zerW w) := by
  refine ⟨?_, by unfold zerW; go_grown⟩
  refine ⟨by decide, by omega, by decide, fun _ => ⟨_, 0, rfl, by omega, by unfold zerW; simp, fun j u hu => ?_⟩⟩
  match j, hu with
  | 0, hu => simp at hu; subst hu; unfold zerW; go_simp
  | j + 1, hu => simp at hu
theorem ints_nil (w : World) (lo : Nat) : Ints w lo none 0 [] := ⟨Nat.le_refl _, by omega, by decide, Rd.nil⟩
set_option maxRecDepth 100000 in
theorem zero_ (w : World) : Calls Try.prog 44 #[] w (LaPost w zeroL) := by
  have HP : Hid (LaPost w zeroL (.returned (.agg #[.slice none 0 0, .slice (some ⟨w.heap.size + 1, 0, none⟩) 1 1])) (zerW w)) :=
    ⟨none, some ⟨w.heap.size + 1, 0, none⟩, 0, 1, rfl, ints_nil _ _, (zerW_is w).1, (zerW_is w).2⟩
  go_enter Try.func44, Try.ntmps44
  go_wp2_with fail
  exact bodyPost_ret (by simp [results, Try.results44, go_sem]) rfl HP.out
/-- what the closed calls answer -/
theorem one_ck : ckA oneA = 0 := by decide +kernel
theorem zero_ck : ckL zeroL 2 = 0 := by decide +kernel
theorem one_zero : tkB oneA zeroL = true := by
  have h1 : taErr oneA zeroL = 0 := by unfold taErr; rw [if_pos one_ck]; exact zero_ck
  have h2 : takesB oneA zeroL.at = true := takesB_iff.2 ⟨fun _ => 0, by simp [oneA], fun i => by
    have : zeroL.at i = 0 := by unfold La.at zeroL; simp [Nat.mod_one]
    rw [this]
    simp [oneA], fun n => ⟨n, Nat.le_refl _, by unfold Au.good; simp [oneA]⟩⟩
  unfold tkB
  rw [h1, h2]
  rfl
theorem one_one : tkB oneA oneL = false := by
  have h2 : takesB oneA oneL.at = false := by
    cases h : takesB oneA oneL.at with
    | false => rfl
    | true =>
      obtain ⟨r, h0, h1, _⟩ := takesB_iff.1 h
      have := h1 0
      simp [oneA, La.at, oneL] at this
  unfold tkB
  rw [h2, Bool.and_false]
theorem one_ta : taErr oneA zeroL = 0 ∧ taErr oneA oneL = 0 := by
  unfold taErr
  rw [if_pos one_ck, if_pos one_ck]
  exact ⟨zero_ck, by decide +kernel⟩
theorem zer_least : lstL zerL 2 = zeroL ∧ ckL zerL 2 = 0 ∧ atL oneL 2 0 = 1 ∧ atE oneL 2 0 = 0 ∧ ckL zeroL 1 = 0 := by
  refine ⟨by decide +kernel, by decide +kernel, by decide +kernel, by decide +kernel, by decide +kernel⟩
end Go.Proofs.Ytoglgeaiiipchaa
