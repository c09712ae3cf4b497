/- Walks: slices.IndexFunc, slices.ContainsFunc at []int over a known predicate. -/
import Derived.Maps.OwnIn
import Derived.Maps.Ext
import Derived.DeepKeys4
import Derived.Test.YtoglgeaiiipchaaLISM1
import Derived.Test.YtoglgeaiiipchaaProg
import Derived.ChangeKeysEq
import Derived.Maps.RangeWalk
import Derived.Shelf.Abstract
set_option linter.unusedSimpArgs false
set_option linter.unusedVariables false
namespace Go.Proofs.Ytoglgeaiiipchaa
open Go Go.RowKit Go.Maps

def spC (y : Int × Nat) : List Value := [.int .i64 y.1, .int .i64 y.2]
def spKey (y : Int × Nat) : Lit := .string (keyBytes [.int .i64 y.1, .int .i64 y.2])
/-- a spot whose numbers are of Go's ints -/
def SpW (y : Int × Nat) : Prop := (Lit.int .i64 y.1).wf = true ∧ (Lit.int .i64 (y.2 : Int)).wf = true
theorem spLaid : laidOutB Try.prog = true := by kernel_rfl
theorem spWide : (match Try.prog.underlying 85 with | some (.array _ _) | some (.struct _) => true | _ => false) = true := by kernel_rfl
theorem spRow : (85 : TypeId) < Try.prog.types.size := of_decide_eq_true (by kernel_rfl)
set_option maxRecDepth 100000 in
theorem spLaw : Keyed Try.prog 85 := Keyed.of_law (deep_law_laid spLaid (m := 2) (by decide) spRow (by kernel_rfl) spWide)
theorem ex_succ {n m : Nat} (h : m < n) : ∃ k, n = k + 1 := ⟨n - 1, by omega⟩
theorem spKeyOf {y : Int × Nat} (h : SpW y) : keyOf Try.prog 85 (.agg #[.int .i64 y.1, .int .i64 y.2]) = some (spKey y) := by
  obtain ⟨k, hk⟩ : ∃ k, Try.prog.types.size = k + 1 := ex_succ spRow
  have h1 : ∀ (a : Int), (Lit.int .i64 a).wf = true → Try.prog.keyLits (k + 1) 3 [.int .i64 a] = some [.int .i64 a] := fun a ha => by
    simp [Program.keyLits, Try.underlying3, ha]
  have hc : Try.prog.cellsOf 85 = 2 := by kernel_rfl
  have hc1 : Try.prog.cellsOf 3 = 1 := by kernel_rfl
  have ht : Try.prog.keyType 85 = true := by kernel_rfl
  have hf : (Value.agg #[.int .i64 y.1, .int .i64 (y.2 : Int)]).formed Try.prog 85 = true := by simp [Value.formed, Try.underlying85, hc]
  have hl : Try.prog.keyLits (Try.prog.types.size + 1) 85 [.int .i64 y.1, .int .i64 (y.2 : Int)] = some [.int .i64 y.1, .int .i64 (y.2 : Int)] := by
    rw [hk]
    unfold Program.keyLits
    simp only [Try.underlying85, hc]
    simp [hc1, h1 _ h.1, h1 _ h.2]
  unfold keyOf
  simp only [Try.underlying85, ht, hf, Bool.and_self, if_true]
  show (Option.map _ (Try.prog.keyLits (Try.prog.types.size + 1) 85 [.int .i64 y.1, .int .i64 (y.2 : Int)])) = _
  rw [hl]
  rfl
theorem spKey_inj {y z : Int × Nat} (hy : SpW y) (hz : SpW z) (h : spKey y = spKey z) : y = z := by
  unfold spKey at h
  have h := keyBytes_inj (l := [.int .i64 y.1, .int .i64 y.2]) (l' := [.int .i64 z.1, .int .i64 z.2]) ⟨rfl, rfl, trivial⟩ (fun a ha => by rcases List.mem_cons.1 ha with rfl | ha; exact hy.1; rw [List.mem_singleton.1 ha]; exact hy.2) (fun a ha => by rcases List.mem_cons.1 ha with rfl | ha; exact hz.1; rw [List.mem_singleton.1 ha]; exact hz.2) (by simpa using h)
  simp at h
  exact Prod.ext h.1 (by omega)
/-- the set of the spots of a list, as a map -/
def oneU : DataW Unit := .lit (.int .i64 1)
def MapAt (W : World) (M : Nat) (L : List (Int × Nat)) : Prop := W.ownsMap Try.prog 85 (plainElem (H := Unit) Try.prog 3) M L.length (setOf oneU (L.map spKey))
theorem isMap_setOf (u : DataW Unit) (acc : List Lit) : IsMap (setOf u acc) := by
  unfold setOf
  have : ∀ (acc : List Lit) (m : DataW Unit), IsMap m → IsMap (acc.foldl (fun m x => m.put x u) m) := by
    intro acc
    induction acc with
    | nil => exact fun m h => h
    | cons x r ih => exact fun m h => ih _ (h.put x u)
  exact this acc _ isMap_empty
theorem atKey_fold_not (u z : DataW Unit) {k : Lit} : ∀ (acc : List Lit) (m : DataW Unit), k ∉ acc → (acc.foldl (fun m x => m.put x u) m).atKey k z = m.atKey k z
  | [], m, _ => rfl
  | x :: r, m, h => by
    rw [List.foldl_cons, atKey_fold_not u z r (m.put x u) (fun h' => h (List.mem_cons_of_mem _ h')), atKey_put_other (fun e => h (by rw [e]; exact List.mem_cons_self ..))]
theorem atKey_fold_in (u z : DataW Unit) {k : Lit} (hk : WideAt.IsKeyLit k) : ∀ (acc : List Lit) (m : DataW Unit), IsMap m → k ∈ acc → (acc.foldl (fun m x => m.put x u) m).atKey k z = u
  | [], m, _, h => by cases h
  | x :: r, m, hm, h => by
    rw [List.foldl_cons]
    by_cases hr : k ∈ r
    · exact atKey_fold_in u z hk r (m.put x u) (hm.put x u) hr
    · obtain rfl : k = x := (List.mem_cons.1 h).resolve_right hr
      rw [atKey_fold_not u z r _ hr, atKey_put_same hm hk]
theorem spKey_mem {L : List (Int × Nat)} (hL : ∀ y ∈ L, SpW y) {y : Int × Nat} (hy : SpW y) : spKey y ∈ L.map spKey ↔ y ∈ L := by
  constructor
  · intro h
    obtain ⟨z, hz, he⟩ := List.mem_map.1 h
    rw [← spKey_inj (hL z hz) hy he]
    exact hz
  · exact fun h => List.mem_map_of_mem h
theorem MapAt.at_ {L : List (Int × Nat)} (hL : ∀ y ∈ L, SpW y) {y : Int × Nat} (hy : SpW y) : (setOf oneU (L.map spKey)).atKey (spKey y) (.lit (.int .i64 0)) = .lit (.int .i64 (if y ∈ L then 1 else 0)) := by
  unfold setOf
  by_cases h : y ∈ L
  · rw [atKey_fold_in oneU _ (show WideAt.IsKeyLit (spKey y) from trivial) _ _ isMap_empty ((spKey_mem hL hy).2 h), if_pos h]; rfl
  · rw [atKey_fold_not oneU _ _ _ (fun h' => h ((spKey_mem hL hy).1 h')), if_neg h]; rfl
theorem MapAt.has {L : List (Int × Nat)} (hL : ∀ y ∈ L, SpW y) {y : Int × Nat} (hy : SpW y) : Maps.has (setOf oneU (L.map spKey)) (spKey y) = true ↔ y ∈ L := by
  rw [has_setOf oneU _ _ (fun x hx => by obtain ⟨z, _, rfl⟩ := List.mem_map.1 hx; exact trivial), List.any_eq_true]
  constructor
  · rintro ⟨x, hx, he⟩
    rw [WideAt.sameKey_eq he] at hx
    exact (spKey_mem hL hy).1 hx
  · exact fun h => ⟨spKey y, List.mem_map_of_mem h, WideAt.sameKey_self trivial⟩
theorem MapAt.made (w : World) : MapAt (w.alloc (.map #[] 0)) w.heap.size [] := World.ownsMap_made _ _ _ _
theorem MapAt.below {W W' : World} {M : Nat} {L : List (Int × Nat)} (h : MapAt W M L) (hb : Below W.heap.size W W') : MapAt W' M L :=
  World.ownsMap.kept (row := none) h ⟨hb.os, hb.tape, hb.output, hb.size, fun k hk _ => hb.block k hk⟩ (by simp)
theorem MapAt.lt {W : World} {M : Nat} {L : List (Int × Nat)} (h : MapAt W M L) : M < W.heap.size := World.ownsMap.lt h
theorem MapAt.step {L : List (Int × Nat)} {y : Int × Nat} {W : World} {M : Nat} (h : W.ownsMap Try.prog 85 (plainElem (H := Unit) Try.prog 3) M (L.length + 1) ((setOf oneU (L.map spKey)).put (spKey y) oneU)) : MapAt W M (L ++ [y]) := by
  unfold MapAt
  rw [List.map_append, List.map_cons, List.map_nil, setOf_snoc, List.length_append]
  exact h

/-- a row that the call made, of spots -/
def FromIs (W : World) (lo : Nat) (v : Value) (fr : List (Int × Nat)) : Prop := W.ownsRow lo 85 2 v fr.length (fr.flatMap spC)
theorem infoSpot : (Try.prog.info? 85).map (fun i => (i.zero, i.size, i.bytes)) = some (some (.agg #[.int .i64 0, .int .i64 0]), 2, 16) := by kernel_rfl
theorem spC_len (y : Int × Nat) : (spC y).length = 2 := rfl
theorem FromIs.pop {W : World} {lo n c : Nat} {A : Option Addr} {fr : List (Int × Nat)} {y : Int × Nat} (h : FromIs W lo (.slice A n c) (fr ++ [y])) : FromIs W lo (.slice A fr.length c) fr := by
  obtain ⟨h1, h2⟩ := h
  refine ⟨flatMap_len spC_len fr, ?_⟩
  rcases h2 with ⟨_, h2⟩ | ⟨g, cap, cur, hv, hg, hh, hn, hc, hs, ht⟩
  · simp at h2
  · simp at hv
    obtain ⟨rfl, rfl, rfl⟩ := hv
    rw [List.length_append] at hn ht
    refine .inr ⟨g, c, cur, rfl, hg, hh, by simp at hn; omega, hc, hs, ?_⟩
    have h3 := congrArg (List.take (fr.length * 2)) ht
    rw [List.take_take, Nat.min_eq_left (by simp; omega), List.flatMap_append, ← flatMap_len spC_len fr, List.take_left] at h3
    rw [← flatMap_len spC_len fr]
    exact h3
/-- the first n elements of a row are spots of a set -/
def RowIn (W : World) (r n : Nat) (S : Int × Nat → Prop) : Prop :=
  ∃ cur, W.heap[r]? = some (.cells cur 85 (0, 0)) ∧ n * 2 ≤ cur.size ∧ ∀ j, j < n → ∃ y, S y ∧ cur.toList[j * 2]? = some (.int .i64 y.1) ∧ cur.toList[j * 2 + 1]? = some (.int .i64 (y.2 : Int))
theorem RowIn.mono {W : World} {r n : Nat} {S S' : Int × Nat → Prop} (h : RowIn W r n S) (hs : ∀ y, S y → S' y) : RowIn W r n S' := by
  obtain ⟨cur, h1, h2, h3⟩ := h
  exact ⟨cur, h1, h2, fun j hj => by obtain ⟨y, hy, h4⟩ := h3 j hj; exact ⟨y, hs y hy, h4⟩⟩
theorem RowIn.heap {W W' : World} {r n : Nat} {S : Int × Nat → Prop} (h : RowIn W r n S) (he : W'.heap[r]? = W.heap[r]?) : RowIn W' r n S := by
  obtain ⟨cur, h1, h2⟩ := h
  exact ⟨cur, he.trans h1, h2⟩
theorem RowIn.lt {W : World} {r n : Nat} {S : Int × Nat → Prop} (h : RowIn W r n S) : r < W.heap.size := by
  obtain ⟨cur, h1, _⟩ := h
  exact (Array.getElem?_eq_some_iff.1 h1).1
theorem RowIn.of_from {W : World} {lo n r c : Nat} {fr : List (Int × Nat)} (h : FromIs W lo (.slice (some ⟨r, 0, none⟩) n c) fr) : RowIn W r fr.length (· ∈ fr) := by
  obtain ⟨h1, h2⟩ := h
  rcases h2 with ⟨h2, _⟩ | ⟨g, cap, cur, hv, hg, hh, hn, hc, hs, ht⟩
  · simp at h2
  · simp at hv
    obtain ⟨rfl, rfl, rfl⟩ := hv
    have hle := Nat.mul_le_mul_right 2 hn
    refine ⟨cur, hh, by omega, fun j hj => ⟨fr[j], List.getElem_mem hj, ?_⟩⟩
    have e : ∀ i u, (spC fr[j])[i]? = some u → cur.toList[j * 2 + i]? = some u := fun i u hu => by
      have := flatMap_get spC_len fr j hj i u hu
      rw [← ht] at this
      rw [List.getElem?_take] at this
      split at this
      · exact this
      · cases this
    exact ⟨e 0 _ rfl, e 1 _ rfl⟩
set_option maxRecDepth 100000 in
theorem run_append_sp {W : World} {lo : Nat} {v : Value} {fr : List (Int × Nat)} {y : Int × Nat} {B : Nat} (ty : TypeId) (hown : FromIs W lo v fr) (hB : W.heap[B]? = some (.cells #[.int .i64 y.1, .int .i64 (y.2 : Int)] 85 (0, 0))) (hl : fr.length ≤ 10000000) (hlo : lo ≤ W.heap.size) :
    ∃ v' W', (Builtin.append_ #[83, 83] ty #[v, .slice (some ⟨B, 0, none⟩) 1 1]).run Try.prog W = .ok v' W' ∧ FromIs W' lo v' (fr ++ [y]) ∧ W.grownBy W' v.ownBlock ∧
      (v'.ownBlock = v.ownBlock ∨ v'.ownBlock = some W.heap.size) ∧ ∀ r n S, RowIn W r n S → S y → RowIn W' r n S := by
  obtain ⟨i0, hi0, hz0, hz1, hz2⟩ := info_parts infoSpot
  have hnews : ∀ j u, (spC y)[j]? = some u → W.cell? ((⟨B, 0, none⟩ : Addr).add j) = some u := fun j u hu => by
    rw [Addr_add_off]
    simp only [World.cell?, hB, Nat.zero_add]
    match j, hu with
    | 0, hu => simpa [spC] using hu
    | 1, hu => simpa [spC] using hu
  have h1 : ∀ u ∈ spC y, u.oneCell' = true := by
    intro u hu
    simp only [spC, List.mem_cons, List.not_mem_nil, or_false] at hu
    rcases hu with rfl | rfl <;> rfl
  obtain ⟨v', W', hrun, ho, hg, _, hat⟩ := run_append_own_at (P := Try.prog) W lo 83 ty 85 i0 _ 2 16 Try.underlying83 hi0 hz0 hz1 hz2 rfl (by decide) v fr.length _ hown ⟨B, 0, none⟩ 1 1 (spC y) rfl hnews h1 (by unfold maxLen; omega) (by omega) hlo
  refine ⟨v', W', hrun, ?_, hg, hat, fun r n S hr hy => ?_⟩
  · unfold FromIs
    rw [List.length_append, List.flatMap_append]
    simpa using ho
  · by_cases hrv : v.ownBlock = some r
    · rcases hown.2 with ⟨rfl, _⟩ | ⟨g, cap, cur, rfl, hgl, hh, hn, hc, hs, ht⟩
      · cases hrv
      · obtain rfl : g = r := by simpa [Value.ownBlock] using hrv
        obtain ⟨cur', hh', hn2, hall⟩ := hr
        obtain rfl : cur' = cur := by rw [hh] at hh'; injection hh' with e; injection e with e1; exact e1.symm
        by_cases hroom : fr.length + 1 ≤ cap
        · have hR := run_append_room (P := Try.prog) W 83 ty 85 i0 Try.underlying83 hi0 g fr.length cap cur' hh ⟨B, 0, none⟩ 1 1 (spC y) (by rw [hz1]; rfl) hnews h1 hroom (by rw [hz1, hs, spC_len]; omega)
          rw [hrun] at hR
          injection hR with _ hW
          rw [hz1] at hW
          subst hW
          refine ⟨_, setRow_heap W g cur' _ _ _ hh, ?_, fun j hj => ?_⟩
          · simp only [List.size_toArray, List.length_append, List.length_take, List.length_drop, Array.length_toList, spC_len]
            omega
          · have hL : (cur'.toList.take (fr.length * 2)).length = fr.length * 2 := by simp; omega
            rcases Nat.lt_trichotomy j fr.length with h2 | h2 | h2
            · obtain ⟨z, hz, z1, z2⟩ := hall j hj
              refine ⟨z, hz, ?_, ?_⟩
              · rw [List.append_assoc, List.getElem?_append_left (by omega), List.getElem?_take_of_lt (by omega)]; exact z1
              · rw [List.append_assoc, List.getElem?_append_left (by omega), List.getElem?_take_of_lt (by omega)]; exact z2
            · subst h2
              refine ⟨y, hy, ?_, ?_⟩
              · rw [List.append_assoc, List.getElem?_append_right (by omega), hL, Nat.sub_self]; rfl
              · rw [List.append_assoc, List.getElem?_append_right (by omega), hL, show fr.length * 2 + 1 - fr.length * 2 = 1 by omega]; rfl
            · obtain ⟨z, hz, z1, z2⟩ := hall j hj
              have hL2 : (cur'.toList.take (fr.length * 2) ++ spC y).length = fr.length * 2 + 2 := by rw [List.length_append, hL, spC_len]
              refine ⟨z, hz, ?_, ?_⟩
              · rw [List.getElem?_append_right (by omega), hL2, List.getElem?_drop, spC_len, show fr.length * 2 + 2 + (j * 2 - (fr.length * 2 + 2)) = j * 2 by omega]; exact z1
              · rw [List.getElem?_append_right (by omega), hL2, List.getElem?_drop, spC_len, show fr.length * 2 + 2 + (j * 2 + 1 - (fr.length * 2 + 2)) = j * 2 + 1 by omega]; exact z2
        · have holds : ∀ j u, (fr.flatMap spC)[j]? = some u → W.cell? ((⟨g, 0, none⟩ : Addr).add j) = some u := World.ownsRow.cells hown (g := g) rfl
          have hR := run_append_grow (P := Try.prog) W 83 ty 85 i0 _ Try.underlying83 hi0 hz0 ⟨g, 0, none⟩ fr.length cap (fr.flatMap spC) (by rw [hz1]; exact flatMap_len spC_len fr) holds ⟨B, 0, none⟩ 1 1 (spC y) (by rw [hz1]; rfl) hnews (by omega) (by omega) (growslice_fits (by omega) (by rw [hz2]; omega))
          rw [hrun] at hR
          injection hR with _ hW
          subst hW
          refine RowIn.heap ⟨cur', hh', hn2, hall⟩ ?_
          exact Below.heap_alloc W.drew _ _ (Array.getElem?_eq_some_iff.1 hh).1
    · exact hr.heap (hg.block r hr.lt fun e => hrv e.symm)
end Go.Proofs.Ytoglgeaiiipchaa

namespace Go.Proofs.Ytoglgeaiiipchaa
open Go Go.RowKit Go.Maps

set_option maxRecDepth 100000 in
theorem keyOf_spot_inv {key : Value} {kl : Lit} (h : keyOf Try.prog 85 key = some kl) : ∃ z : Int × Int, key = .agg #[.int .i64 z.1, .int .i64 z.2] ∧ kl = .string (keyBytes [.int .i64 z.1, .int .i64 z.2]) ∧ (Lit.int .i64 z.1).wf = true ∧ (Lit.int .i64 z.2).wf = true := by
  have hc : Try.prog.cellsOf 85 = 2 := by kernel_rfl
  have hc1 : Try.prog.cellsOf 3 = 1 := by kernel_rfl
  have ht : Try.prog.keyType 85 = true := by kernel_rfl
  unfold keyOf at h
  simp only [Try.underlying85, ht, Bool.true_and] at h
  split at h
  · rename_i hf
    cases key <;> simp only [Value.formed, Try.underlying85, Bool.false_eq_true] at hf
    rename_i cs
    rw [hc] at hf
    obtain ⟨cl⟩ := cs
    match cl, hf with
    | [c0, c1], _ =>
      simp only [Value.cells] at h
      obtain ⟨ls, hls, rfl⟩ := Option.map_eq_some_iff.1 h
      unfold Program.keyLits at hls
      simp only [Try.underlying85, hc] at hls
      simp [hc1] at hls
      obtain ⟨l0, h0, hls⟩ := Option.bind_eq_some_iff.1 hls
      obtain ⟨n0, e0, rfl⟩ := keyLits_int' Try.underlying3 h0
      obtain ⟨l1, hls, hl1⟩ := Option.map_eq_some_iff.1 hls
      obtain ⟨l2, hl2, hls⟩ := Option.bind_eq_some_iff.1 hls
      obtain ⟨l3, h3, hl3⟩ := Option.bind_eq_some_iff.1 hl2
      obtain ⟨n1, e1, rfl⟩ := keyLits_int' Try.underlying3 h3
      obtain rfl : c0 = .int .i64 n0 := by simpa using e0
      obtain rfl : c1 = .int .i64 n1 := by simpa using e1
      have w0 := keyLits_wf h0 _ (List.mem_singleton.2 rfl)
      have w1 := keyLits_wf h3 _ (List.mem_singleton.2 rfl)
      obtain rfl := Option.some.inj hl3
      obtain rfl := Option.some.inj hls
      subst hl1
      exact ⟨(n0, n1), rfl, rfl, w0, w1⟩
  · cases h
/-- a key that is a spot's is that spot -/
theorem spot_of_key {z : Int × Int} {y : Int × Nat} (hz : (Lit.int .i64 z.1).wf = true ∧ (Lit.int .i64 z.2).wf = true) (hy : SpW y) (h : (Lit.string (keyBytes [.int .i64 z.1, .int .i64 z.2])) = spKey y) : z = (y.1, (y.2 : Int)) := by
  unfold spKey at h
  have h := keyBytes_inj (l := [.int .i64 z.1, .int .i64 z.2]) (l' := [.int .i64 y.1, .int .i64 y.2]) ⟨rfl, rfl, trivial⟩ (fun a ha => by rcases List.mem_cons.1 ha with rfl | ha; exact hz.1; rw [List.mem_singleton.1 ha]; exact hz.2) (fun a ha => by rcases List.mem_cons.1 ha with rfl | ha; exact hy.1; rw [List.mem_singleton.1 ha]; exact hy.2) (by simpa using h)
  simp at h
  exact Prod.ext h.1 h.2
theorem has_key {L : List (Int × Nat)} {kl : Lit} (h : Maps.has (setOf oneU (L.map spKey)) kl = true) : ∃ y ∈ L, kl = spKey y := by
  rw [has_setOf oneU _ _ (fun x hx => by obtain ⟨z, _, rfl⟩ := List.mem_map.1 hx; exact trivial), List.any_eq_true] at h
  obtain ⟨x, hx, he⟩ := h
  obtain ⟨y, hy, rfl⟩ := List.mem_map.1 hx
  exact ⟨y, hy, (WideAt.sameKey_eq he).symm⟩
end Go.Proofs.Ytoglgeaiiipchaa

namespace Go.Proofs.Ytoglgeaiiipchaa
open Go Go.RowKit Go.Maps

/-- what a map's types and encodings must give -/
structure KM (kt et mt : TypeId) {K E : Type} (kV : K → Value) (kL : K → Lit) (kW : K → Prop) (eV : E → Value) (eR : Value → Option (DataW Unit × List MemPlace)) (eD : E → DataW Unit) (e0 : E) : Prop where
  keyed : Keyed Try.prog kt
  und : Try.prog.underlying mt = some (.map kt et)
  zero : ∀ w, (zeroValue et).run Try.prog w = .ok (eV e0) w
  key : ∀ k, kW k → keyOf Try.prog kt (kV k) = some (kL k)
  lit : ∀ k, WideAt.IsKeyLit (kL k)
  inj : ∀ a b, kW a → kW b → kL a = kL b → a = b
  enc : ∀ e, eR (eV e) = some (eD e, [])
  inv : ∀ v z, eR v = some z → ∃ e, v = eV e ∧ z = (eD e, [])
  dinj : ∀ a b, eD a = eD b → a = b
section
variable {kt et mt : TypeId} {K E : Type} {kV : K → Value} {kL : K → Lit} {kW : K → Prop} {eV : E → Value} {eR : Value → Option (DataW Unit × List MemPlace)} {eD : E → DataW Unit} {e0 : E}
def gD (kL : K → Lit) (eD : E → DataW Unit) (D : List (K × E)) : DataW Unit := D.foldl (fun m p => m.put (kL p.1) (eD p.2)) (.map [])
theorem gD_snoc (D : List (K × E)) (p : K × E) : gD kL eD (D ++ [p]) = (gD kL eD D).put (kL p.1) (eD p.2) := by unfold gD; rw [List.foldl_append]; rfl
theorem gD_not (z : DataW Unit) {k : Lit} : ∀ (D : List (K × E)) (m : DataW Unit), (∀ p ∈ D, kL p.1 ≠ k) → (D.foldl (fun m p => m.put (kL p.1) (eD p.2)) m).atKey k z = m.atKey k z
  | [], m, _ => rfl
  | p :: D, m, h => by
    rw [List.foldl_cons, gD_not z D _ (fun q hq => h q (List.mem_cons_of_mem _ hq)), atKey_put_other (fun e => h p (List.mem_cons_self ..) (by simpa using e.symm))]
variable (G : KM kt et mt kV kL kW eV eR eD e0)
include G
theorem KM.gD_in (z : DataW Unit) {k : K} {s : E} : ∀ (D : List (K × E)) (m : DataW Unit), IsMap m → (∀ p ∈ D, kW p.1) → (D.map Prod.fst).Nodup → (k, s) ∈ D → (D.foldl (fun m p => m.put (kL p.1) (eD p.2)) m).atKey (kL k) z = eD s
  | [], m, _, _, _, h => by cases h
  | p :: D, m, hm, hw, hn, h => by
    rw [List.map_cons, List.nodup_cons] at hn
    rw [List.foldl_cons]
    rcases List.mem_cons.1 h with h1 | h1
    · subst h1
      rw [gD_not z D _ (fun q hq he => hn.1 (List.mem_map.2 ⟨q, hq, G.inj _ _ (hw q (List.mem_cons_of_mem _ hq)) (hw (k, s) (List.mem_cons_self ..)) he⟩)), atKey_put_same hm (G.lit k)]
    · exact KM.gD_in z D _ (hm.put _ _) (fun q hq => hw q (List.mem_cons_of_mem _ hq)) hn.2 h1
theorem KM.not_ (z : DataW Unit) {k : K} {D : List (K × E)} (hw : ∀ p ∈ D, kW p.1) (hk : kW k) (h : k ∉ D.map Prod.fst) : (gD kL eD D).atKey (kL k) z = z := by
  unfold gD
  rw [gD_not z D _ (fun q hq he => h (List.mem_map.2 ⟨q, hq, G.inj _ _ (hw q hq) hk he⟩))]; rfl
theorem KM.in_ (z : DataW Unit) {k : K} {s : E} {D : List (K × E)} (hw : ∀ p ∈ D, kW p.1) (hn : (D.map Prod.fst).Nodup) (h : (k, s) ∈ D) : (gD kL eD D).atKey (kL k) z = eD s := G.gD_in z D _ isMap_empty hw hn h
end
/-- a map that the call made, entry by entry -/
def GAt (kt : TypeId) {K E : Type} (kL : K → Lit) (eR : Value → Option (DataW Unit × List MemPlace)) (eD : E → DataW Unit) (W : World) (M : Nat) (D : List (K × E)) : Prop := W.ownsMap Try.prog kt eR M D.length (gD kL eD D)
section
variable {kt et mt : TypeId} {K E : Type} {kV : K → Value} {kL : K → Lit} {kW : K → Prop} {eV : E → Value} {eR : Value → Option (DataW Unit × List MemPlace)} {eD : E → DataW Unit} {e0 : E}
variable {W W' : World} {M : Nat} {D : List (K × E)}
theorem GAt.made (w : World) : GAt kt kL eR eD (w.alloc (.map #[] 0)) w.heap.size ([] : List (K × E)) := World.ownsMap_made _ _ _ _
theorem GAt.kept {row : Option Nat} (h : GAt kt kL eR eD W M D) (hg : W.grownBy W' row) (hr : some M ≠ row) : GAt kt kL eR eD W' M D := World.ownsMap.kept h hg hr
theorem GAt.on (h : GAt kt kL eR eD W M D) (hb : Below W.heap.size W W') : GAt kt kL eR eD W' M D :=
  h.kept (row := none) ⟨hb.os, hb.tape, hb.output, hb.size, fun k hk _ => hb.block k hk⟩ (by simp)
theorem GAt.lt (h : GAt kt kL eR eD W M D) : M < W.heap.size := World.ownsMap.lt h
theorem GAt.heap (h : GAt kt kL eR eD W M D) (he : W'.heap[M]? = W.heap[M]?) : GAt kt kL eR eD W' M D := by
  obtain ⟨es, c, h1, h2⟩ := h
  exact ⟨es, c, he.trans h1, h2⟩
theorem GAt.block (h : GAt kt kL eR eD W M D) : ∃ es c, W.heap[M]? = some (.map es c) := by
  obtain ⟨es, c, h1, _⟩ := h
  exact ⟨es, c, h1⟩
variable (G : KM kt et mt kV kL kW eV eR eD e0)
include G
theorem KM.hit (h : GAt kt kL eR eD W M D) (hw : ∀ p ∈ D, kW p.1) (hn : (D.map Prod.fst).Nodup) {k : K} {s : E} (hk : kW k) (hs : (k, s) ∈ D) :
    (Instr.lookup mt (.map (some M)) (kV k) true).run Try.prog W = .ok (.tuple #[eV s, .bool true]) W := by
  obtain ⟨v, ps, hrun, hv⟩ := World.ownsMap.look_ok h G.keyed G.und (G.zero W) (G.enc e0) (G.key k hk)
  rw [G.in_ _ hw hn hs] at hv
  obtain ⟨e, rfl, hz⟩ := G.inv _ _ hv
  rw [hrun, has_true_of_atKey (D := gD kL eD D) (y := eD s) (fun z => G.in_ z hw hn hs), G.dinj _ _ (Prod.mk.inj hz).1]
theorem KM.miss (h : GAt kt kL eR eD W M D) (hw : ∀ p ∈ D, kW p.1) {k : K} (hk : kW k) (hm : k ∉ D.map Prod.fst) :
    (Instr.lookup mt (.map (some M)) (kV k) true).run Try.prog W = .ok (.tuple #[eV e0, .bool false]) W := by
  obtain ⟨v, ps, hrun, hv⟩ := World.ownsMap.look_ok h G.keyed G.und (G.zero W) (G.enc e0) (G.key k hk)
  rw [G.not_ _ hw hk hm] at hv
  obtain ⟨e, rfl, hz⟩ := G.inv _ _ hv
  rw [hrun, has_false_of_atKey (D := gD kL eD D) (fun z => G.not_ z hw hk hm), G.dinj _ _ (Prod.mk.inj hz).1]
theorem KM.get (h : GAt kt kL eR eD W M D) (hw : ∀ p ∈ D, kW p.1) (hn : (D.map Prod.fst).Nodup) {k : K} {s : E} (hk : kW k) (hs : (k, s) ∈ D) :
    (Instr.lookup mt (.map (some M)) (kV k) false).run Try.prog W = .ok (eV s) W := by
  obtain ⟨v, ps, hrun, hv⟩ := World.ownsMap.lookup h G.keyed G.und (G.zero W) (G.enc e0) (G.key k hk)
  rw [G.in_ _ hw hn hs] at hv
  obtain ⟨e, rfl, hz⟩ := G.inv _ _ hv
  rw [hrun, G.dinj _ _ (Prod.mk.inj hz).1]
theorem KM.none_ (h : GAt kt kL eR eD W M D) (hw : ∀ p ∈ D, kW p.1) {k : K} (hk : kW k) (hm : k ∉ D.map Prod.fst) :
    (Instr.lookup mt (.map (some M)) (kV k) false).run Try.prog W = .ok (eV e0) W := by
  obtain ⟨v, ps, hrun, hv⟩ := World.ownsMap.lookup h G.keyed G.und (G.zero W) (G.enc e0) (G.key k hk)
  rw [G.not_ _ hw hk hm] at hv
  obtain ⟨e, rfl, hz⟩ := G.inv _ _ hv
  rw [hrun, G.dinj _ _ (Prod.mk.inj hz).1]
theorem KM.put (h : GAt kt kL eR eD W M D) (hl : D.length ≤ 1000000000000) {k : K} {s : E} (hk : kW k) :
    ∃ W', (Instr.mapUpdate mt (.map (some M)) (kV k) (eV s)).run Try.prog W = .ok () W' ∧ GAt kt kL eR eD W' M (D ++ [(k, s)]) ∧ W.grownBy W' (some M) := by
  obtain ⟨W', h1, h2, h3⟩ := World.ownsMap.update h G.keyed G.und (by unfold maxLen; omega) (G.key k hk) (G.enc s)
  refine ⟨W', h1, ?_, h3⟩
  unfold GAt
  rw [gD_snoc, List.length_append]
  exact h2
/-- an entry that a range hands out stands in the map -/
theorem KM.entry (hw : ∀ p ∈ D, kW p.1) (hn : (D.map Prod.fst).Nodup) {k : K} (hk : kW k) {e : E} (hne : ∃ e', eD e' ≠ eD e) (h : ∀ z : DataW Unit, (gD kL eD D).atKey (kL k) z = eD e) : (k, e) ∈ D := by
  by_cases hm : k ∈ D.map Prod.fst
  · obtain ⟨⟨k', v'⟩, hp, rfl⟩ := List.mem_map.1 hm
    have h1 := h (eD e)
    rw [G.in_ _ hw hn hp] at h1
    rw [← G.dinj _ _ h1]
    exact hp
  · obtain ⟨e', he'⟩ := hne
    have h1 := h (eD e')
    rw [G.not_ _ hw hk hm] at h1
    exact absurd h1 he'
theorem KM.has (hw : ∀ p ∈ D, kW p.1) (hn : (D.map Prod.fst).Nodup) {k : K} {s : E} (hs : (k, s) ∈ D) : Maps.has (gD kL eD D) (kL k) = true := has_true_of_atKey (D := gD kL eD D) (y := eD s) (fun z => G.in_ z hw hn hs)
end
end Go.Proofs.Ytoglgeaiiipchaa

namespace Go.Proofs.Ytoglgeaiiipchaa
open Go Go.RowKit Go.Shelf

/-- a function value that answers a predicate of one number, whatever memory was made since -/
def PredV (P : Program) (g : FuncId) (caps : Array Value) (p : Int → Bool) (w : World) : Prop :=
  ∀ (n : Int) (W : World), Below w.heap.size w W → Calls P g (#[.int .i64 n] ++ caps) W fun e W' => e = .returned (.bool (p n)) ∧ Below W.heap.size W W'

theorem PredV.below {P : Program} {g : FuncId} {caps : Array Value} {p : Int → Bool} {w w' : World} (h : PredV P g caps p w) (hb : Below w.heap.size w w') : PredV P g caps p w' :=
  fun n W hW => h n W (hb.trans (hW.mono hb.size))

def anyB (p : Int → Bool) (xs : List Int) : Bool := xs.any p
def firstIx (p : Int → Bool) : List Int → Nat → Int
  | [], _ => -1
  | x :: r, i => if p x = true then i else firstIx p r (i + 1)
theorem firstIx_step {p : Int → Bool} {xs : List Int} {k : Nat} (hk : k < xs.length) : firstIx p (xs.drop k) k = if p xs[k] = true then (k : Int) else firstIx p (xs.drop (k + 1)) (k + 1) := by
  rw [List.drop_eq_getElem_cons hk]; rfl
theorem firstIx_end {p : Int → Bool} {xs : List Int} {k : Nat} (hk : xs.length ≤ k) : firstIx p (xs.drop k) k = -1 := by
  rw [List.drop_of_length_le hk]; rfl
theorem firstIx_any (p : Int → Bool) (xs : List Int) : ∀ i, decide (0 ≤ firstIx p xs i) = anyB p xs := by
  unfold anyB
  induction xs with
  | nil => intro i; rfl
  | cons x r ih =>
    intro i
    by_cases h : p x = true
    · simp [firstIx, h]
    · simp [firstIx, h, ih]

set_option maxRecDepth 100000 in
theorem IndexFuncI_ (A : Option Addr) (c : Nat) (xs : List Int) (g : FuncId) (caps : Array Value) (p : Int → Bool) (w : World) (hx : Ints w 0 A c xs) (hg : Enters Try.prog g) (hp : PredV Try.prog g caps p w) :
    Calls Try.prog 79 #[.slice A xs.length c, .func (.func g) #[] caps] w fun e w' => e = .returned (.int .i64 (firstIx p xs 0)) ∧ Below w.heap.size w w' := by
  have h1 := hx.le
  have h2 := hx.max
  have H := Lib.hid hp
  clear hp
  have hgr : ∀ (args : Array Value) (w : World), (callFunc g args).run Try.prog w = .ok (.enter g args) w := hg
  clear hg
  go_enter Try.func79, Try.ntmps79
  go_wp2
  go_loopw [8] (fun i wr => ∃ k : Nat, k ≤ xs.length ∧ i = .int .i64 k ∧ firstIx p xs 0 = firstIx p (xs.drop k) k ∧ Below w.heap.size w wr) (fun i _ => xs.length - (intOf i).toNat)
  case atStart => exact ⟨0, Nat.zero_le _, rfl, rfl, Below.refl _ _⟩
  case round =>
    obtain ⟨k, hk, rfl, hc, hb⟩ := hrel
    have HC := Lib.hid hc
    clear hc
    by_cases hlt : k < xs.length
    · obtain ⟨b, o, rfl, _, hbl, hc1⟩ := Ints.at_ (hx.below hb) hlt
      have hs := firstIx_step (p := p) hlt
      have HS := Lib.hid hs
      clear hs
      go_wp2_with fail
      refine (H.out _ _ hb).mono ?_; rintro e w1 ⟨rfl, hb1⟩
      go_wp2
      · have ht : p xs[k] = true := by assumption
        go_ret
        exact ⟨ret_int (by rw [HC.out, HS.out, if_pos ht]), Below_on hb hb1 hb.size⟩
      · have ht : p xs[k] = false := by assumption
        go_roundw
        case rel => exact ⟨k + 1, by omega, by go_num, by rw [HC.out, HS.out, if_neg (by simp [ht])], Below_on hb hb1 hb.size⟩
        case measure => simp [intOf]; omega
    · go_wp2
      go_ret
      exact ⟨ret_int (by rw [HC.out, firstIx_end (by omega)]), hb⟩

theorem ContainsFuncI_ (A : Option Addr) (c : Nat) (xs : List Int) (g : FuncId) (caps : Array Value) (p : Int → Bool) (w : World) (hx : Ints w 0 A c xs) (hg : Enters Try.prog g) (hp : PredV Try.prog g caps p w) :
    Calls Try.prog 46 #[.slice A xs.length c, .func (.func g) #[] caps] w fun e w' => e = .returned (.bool (anyB p xs)) ∧ Below w.heap.size w w' := by
  have H := Lib.hid (IndexFuncI_ A c xs g caps p w hx hg hp)
  have HF := Lib.hid (firstIx_any p xs 0)
  clear hx hp hg
  go_enter Try.func46, Try.ntmps46
  go_wp2_with fail
  refine H.out.mono ?_
  rintro e w1 ⟨rfl, hb1⟩
  go_wp2
  go_ret
  exact ⟨ret_bool HF.out, hb1⟩
end Go.Proofs.Ytoglgeaiiipchaa
