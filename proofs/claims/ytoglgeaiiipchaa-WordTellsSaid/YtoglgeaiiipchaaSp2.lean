/- Spots as keys: what a key of such a map is. -/
import Derived.Test.YtoglgeaiiipchaaSp
import Derived.ChangeKeysEq
namespace Go.Proofs.Ytoglgeaiiipchaa
open Go Go.RowKit Go.Maps

set_option maxRecDepth 100000 in
theorem keyOf_spot_inv {key : Value} {kl : Lit} (h : keyOf Try.prog 85 key = some kl) : ∃ z : Int × Int, key = .agg #[.int .i64 z.1, .int .i64 z.2] ∧ kl = .string (keyBytes [.int .i64 z.1, .int .i64 z.2]) ∧ (Lit.int .i64 z.1).wf = true ∧ (Lit.int .i64 z.2).wf = true := by
  have hc : Try.prog.cellsOf 85 = 2 := by kernel_rfl
  have hc1 : Try.prog.cellsOf 3 = 1 := by kernel_rfl
  have ht : Try.prog.keyType 85 = true := by kernel_rfl
  unfold keyOf at h
  simp only [Try.underlying85, ht, Bool.true_and] at h
  split at h
  · rename_i hf
    cases key <;> simp only [Value.formed, Try.underlying85, Bool.false_eq_true] at hf
    rename_i cs
    rw [hc] at hf
    obtain ⟨cl⟩ := cs
    match cl, hf with
    | [c0, c1], _ =>
      simp only [Value.cells] at h
      obtain ⟨ls, hls, rfl⟩ := Option.map_eq_some_iff.1 h
      unfold Program.keyLits at hls
      simp only [Try.underlying85, hc] at hls
      simp [hc1] at hls
      obtain ⟨l0, h0, hls⟩ := Option.bind_eq_some_iff.1 hls
      obtain ⟨n0, e0, rfl⟩ := keyLits_int' Try.underlying3 h0
      obtain ⟨l1, hls, hl1⟩ := Option.map_eq_some_iff.1 hls
      obtain ⟨l2, hl2, hls⟩ := Option.bind_eq_some_iff.1 hls
      obtain ⟨l3, h3, hl3⟩ := Option.bind_eq_some_iff.1 hl2
      obtain ⟨n1, e1, rfl⟩ := keyLits_int' Try.underlying3 h3
      obtain rfl : c0 = .int .i64 n0 := by simpa using e0
      obtain rfl : c1 = .int .i64 n1 := by simpa using e1
      have w0 := keyLits_wf h0 _ (List.mem_singleton.2 rfl)
      have w1 := keyLits_wf h3 _ (List.mem_singleton.2 rfl)
      obtain rfl := Option.some.inj hl3
      obtain rfl := Option.some.inj hls
      subst hl1
      exact ⟨(n0, n1), rfl, rfl, w0, w1⟩
  · cases h
/-- a key that is a spot's is that spot -/
theorem spot_of_key {z : Int × Int} {y : Int × Nat} (hz : (Lit.int .i64 z.1).wf = true ∧ (Lit.int .i64 z.2).wf = true) (hy : SpW y) (h : (Lit.string (keyBytes [.int .i64 z.1, .int .i64 z.2])) = spKey y) : z = (y.1, (y.2 : Int)) := by
  unfold spKey at h
  have h := keyBytes_inj (l := [.int .i64 z.1, .int .i64 z.2]) (l' := [.int .i64 y.1, .int .i64 y.2]) ⟨rfl, rfl, trivial⟩ (fun a ha => by rcases List.mem_cons.1 ha with rfl | ha; exact hz.1; rw [List.mem_singleton.1 ha]; exact hz.2) (fun a ha => by rcases List.mem_cons.1 ha with rfl | ha; exact hy.1; rw [List.mem_singleton.1 ha]; exact hy.2) (by simpa using h)
  simp at h
  exact Prod.ext h.1 h.2
theorem has_key {L : List (Int × Nat)} {kl : Lit} (h : Maps.has (setOf oneU (L.map spKey)) kl = true) : ∃ y ∈ L, kl = spKey y := by
  rw [has_setOf oneU _ _ (fun x hx => by obtain ⟨z, _, rfl⟩ := List.mem_map.1 hx; exact trivial), List.any_eq_true] at h
  obtain ⟨x, hx, he⟩ := h
  obtain ⟨y, hy, rfl⟩ := List.mem_map.1 hx
  exact ⟨y, hy, (WideAt.sameKey_eq he).symm⟩
end Go.Proofs.Ytoglgeaiiipchaa
