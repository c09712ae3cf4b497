/- Plain: which states can be come to, by going through the steps till nothing changes. -/
import Derived.Test.YtoglgeaiiipchabDoorPAA
namespace Go.Proofs.YtoglgeaiiipchabDoor

structure TrI (a : Au) (N : Nat) (xs : List Bool) : Prop where
  len : xs.length = N
  snd : ∀ q : Int, 0 ≤ q → kp xs q = true → Rch a q
  fst : ∀ q ∈ a.fs, kp xs q = true
theorem kp_rep (n : Nat) (q : Int) : kp (List.replicate n false) q = false := by
  unfold kp
  exact getD_replicate_false n q.toNat
theorem TrI.start {a : Au} (ho : AuOK a) {N : Nat} (hN : (N : Int) = a.st) : TrI a N (setAll a.fs (List.replicate N false)) := by
  have hk := setAll_kp a.fs (List.replicate N false) (fun q hq => by have := ho.fr q hq; simp; omega)
  refine ⟨by rw [setAll_len, List.length_replicate], fun q h0 hq => ?_, fun q hq => (hk q (ho.fr q hq).1).2 (.inr hq)⟩
  rcases (hk q h0).1 hq with h | h
  · rw [kp_rep] at h; cases h
  · exact .first h
theorem TrI.set {a : Au} (ho : AuOK a) {N : Nat} (hN : (N : Int) = a.st) {xs : List Bool} (h : TrI a N xs) {s : Stp} (hs : s ∈ a.ss) (hk : kp xs s.f = true) : TrI a N (xs.set s.t.toNat true) := by
  have r := ho.sr s hs
  have hl : s.t < (xs.length : Int) := by rw [h.len]; omega
  refine ⟨by rw [List.length_set]; exact h.len, fun q h0 hq => ?_, fun q hq => kp_keep (h.fst q hq)⟩
  rcases (kp_set r.2.1.1 h0 hl).1 hq with h1 | h1
  · exact h.snd q h0 h1
  · rw [h1]
    exact .step (h.snd s.f r.1.1 hk) hs
theorem TrI.done {a : Au} (ho : AuOK a) {N : Nat} (hN : (N : Int) = a.st) {xs : List Bool} (h : TrI a N xs) (hc : ∀ s ∈ a.ss, kp xs s.f = true → kp xs s.t = true) : RchS a xs := by
  refine ⟨by rw [h.len]; exact hN, fun q h0 h1 => ⟨h.snd q h0, fun hr => ?_⟩⟩
  clear h0 h1
  induction hr with
  | first hf => exact h.fst _ hf
  | step _ hs ih => exact hc _ hs ih
/-- where each state that is kept comes to, ahead of state k -/
def toKept (keep : List Bool) (n k : Nat) : List Int := (List.range n).map fun i => if i < k ∧ keep.getD i false = true then (pos keep i : Int) else 0
theorem toKept_len (keep : List Bool) (n k : Nat) : (toKept keep n k).length = n := by simp [toKept]
theorem toKept_zero (keep : List Bool) (n : Nat) : toKept keep n 0 = List.replicate n 0 := by
  refine List.ext_getElem (by simp [toKept]) fun i h1 h2 => by simp [toKept]
theorem toKept_hit (keep : List Bool) {n k : Nat} (hk : keep.getD k false = true) : (toKept keep n k).set k (pos keep k : Int) = toKept keep n (k + 1) := by
  refine List.ext_getElem (by simp [toKept]) fun i h1 h2 => ?_
  rw [List.getElem_set]
  simp only [toKept, List.getElem_map, List.getElem_range]
  split
  · rename_i e
    subst e
    rw [if_pos ⟨by omega, hk⟩]
  · split
    · rename_i h; rw [if_pos ⟨by omega, h.2⟩]
    · rename_i h; rw [if_neg (fun h2 => h ⟨by omega, h2.2⟩)]
theorem toKept_miss (keep : List Bool) {n k : Nat} (hk : keep.getD k false = false) : toKept keep n (k + 1) = toKept keep n k := by
  unfold toKept
  refine List.map_congr_left fun i _ => ?_
  by_cases e : i = k
  · subst e
    rw [if_neg (by rw [hk]; simp), if_neg (by rw [hk]; simp)]
  · by_cases h : i < k ∧ keep.getD i false = true
    · rw [if_pos h, if_pos ⟨by omega, h.2⟩]
    · rw [if_neg h, if_neg (fun h2 => h ⟨by omega, h2.2⟩)]
theorem toKept_get (keep : List Bool) {n i : Nat} (h : i < n) (hk : keep.getD i false = true) : (toKept keep n n).getD i 0 = (pos keep i : Int) := by
  unfold toKept
  rw [List.getD_eq_getElem?_getD, List.getElem?_map, List.getElem?_range h]
  show (if i < n ∧ keep.getD i false = true then (pos keep i : Int) else 0) = _
  rw [if_pos ⟨h, hk⟩]
end Go.Proofs.YtoglgeaiiipchabDoor
