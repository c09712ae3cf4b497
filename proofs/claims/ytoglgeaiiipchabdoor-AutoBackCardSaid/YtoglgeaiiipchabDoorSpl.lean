/- Walks: strings.Split at one sign. -/
import Derived.Test.YtoglgeaiiipchabDoorWUd
namespace Go.Proofs.YtoglgeaiiipchabDoor
open Go Go.RowKit Go.Sort

theorem index_no {s : List UInt8} {c : UInt8} (h : ∀ x ∈ s, x ≠ c) : Lib.index s [c] = -1 := Lib.index_none fun j hj => by
  cases ho : Lib.occAt s [c] j with
  | false => rfl
  | true =>
    have := Lib.occAt_head (c := c) (t := []) rfl ho
    obtain ⟨h1, h2⟩ := List.getElem?_eq_some_iff.1 this
    exact absurd h2 (h _ (List.getElem_mem h1))
theorem count_no {s : List UInt8} {c : UInt8} (h : ∀ x ∈ s, x ≠ c) : s.count c = 0 := List.count_eq_zero.2 fun hm => h c hm rfl
theorem count_cut {p r : List UInt8} {c : UInt8} (h : ∀ x ∈ p, x ≠ c) : (p ++ c :: r).count c = r.count c + 1 := by
  rw [List.count_append, count_no h, List.count_cons_self]; omega
theorem countFrom_eq (c : UInt8) : ∀ (f : Nat) (s : List UInt8), s.length < f → Lib.countFrom [c] f s = s.count c
  | 0, s, h => absurd h (by omega)
  | f + 1, s, h => by
    unfold Lib.countFrom
    rcases split_cases c s with h1 | ⟨p, r, rfl, h1⟩
    · rw [index_no h1, count_no h1]; rfl
    · rw [index_at h1, count_cut h1]
      have : ¬ (((p.length : Nat) : Int) == -1) = true := by simp
      rw [if_neg this, Int.toNat_natCast]
      have e : (p ++ c :: r).drop (p.length + [c].length) = r := by simp
      rw [e, countFrom_eq c f r (by simp at h; omega)]
      omega
theorem splitK_eq (c : UInt8) : ∀ (k : Nat) (s : List UInt8), s.count c ≤ k → Lib.splitK [c] 0 k s = splitL c s
  | 0, s, h => by
    have : ∀ x ∈ s, x ≠ c := fun x hx he => by
      have := List.count_pos_iff.2 (he ▸ hx)
      omega
    rw [splitL_none this]; rfl
  | k + 1, s, h => by
    unfold Lib.splitK
    rcases split_cases c s with h1 | ⟨p, r, rfl, h1⟩
    · rw [index_no h1, splitL_none h1]; rfl
    · rw [index_at h1, splitL_pre r h1]
      have : ¬ (((p.length : Nat) : Int) == -1) = true := by simp
      rw [count_cut h1] at h
      rw [if_neg this, Int.toNat_natCast]
      have e : (p ++ c :: r).drop (p.length + [c].length) = r := by simp
      rw [e, splitK_eq c k r (by omega)]
      simp
theorem split_eq (c : UInt8) (s : List UInt8) : (Lib.splitB (sB [c]) 0 (Lib.countB (sB s) (sB [c])) (sB s)).map (fun b => b.data.toList) = splitL c s := by
  rw [Lib.splitB_data, sB_list, sB_list]
  refine splitK_eq c _ s ?_
  show _ ≤ Lib.count (sB s).data.toList (sB [c]).data.toList
  rw [sB_list, sB_list]
  unfold Lib.count
  rw [countFrom_eq c _ _ (by omega)]
  exact Nat.le_refl _
theorem SplitS_ (s : List UInt8) (c : UInt8) (w : World) (hL : LaidOK w) (hs : s.length ≤ 1000000) :
    Calls Tryd.prog 59 #[.string (sB s), .string (sB [c])] w fun e w' => e = .returned (.slice (some ⟨w.heap.size, 0, none⟩) (splitL c s).length (splitL c s).length) ∧ StrRd w' (some ⟨w.heap.size, 0, none⟩) (splitL c s).length (splitL c s) ∧ Below w.heap.size w w' := by
  obtain ⟨m, hm⟩ := hL.ml
  have hlen := splitL_len c s
  refine (Tryd.strings_Split (sB s) (sB [c]) m w (by rw [sB_size]; omega) hm (by rw [sB_size]; simp)).mono fun e w' ⟨he, hw⟩ => ?_
  have h1 := Lib.splitB_all (sB [c]) (by rw [sB_size]; simp) 0 _ (sB s) rfl
  have h2 := split_eq c s
  have h3 : Lib.countB (sB s) (sB [c]) + 1 = (splitL c s).length := by rw [← h2, List.length_map, h1]
  have h4 : (Lib.splitB (sB [c]) 0 (Lib.countB (sB s) (sB [c])) (sB s)).map Value.string = (splitL c s).flatMap fun x => [Value.string (sB x)] := by
    rw [flat_get, ← h2, List.map_map]
    exact List.map_congr_left fun b _ => congrArg Value.string (sB_eta b)
  rw [h3] at he
  rw [h4] at hw
  refine ⟨he, ⟨Nat.le_refl _, by omega, ?_⟩, by rw [hw]; exact (Below.refl _ _).alloc (Nat.le_refl _) _⟩
  have := Rd.new w ((splitL c s).flatMap fun x => [Value.string (sB x)]).toArray 9
  rw [hw]
  simpa using this
end Go.Proofs.YtoglgeaiiipchabDoor
