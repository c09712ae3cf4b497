import Derived.Test.YtoglgeaiiipchabGreatDoorLMAKM22
import Derived.Test.YtoglgeaiiipchabGreatDoorLMAKM24
import Derived.Test.YtoglgeaiiipchabGreatDoorLMAKM26
import Derived.Test.YtoglgeaiiipchabGreatDoorLMAKM5
import Derived.Deep.AppendSrc
import Derived.Test.YtoglgeaiiipchabGreatDoorLMAKM25
import Derived.Test.YtoglgeaiiipchabGreatDoorLMAKM17
set_option linter.unusedSimpArgs false
set_option linter.unusedVariables false
namespace Go.Proofs.YtoglgeaiiipchabGreatDoor
open Go Go.RowKit Go.Sort
theorem mo_few {m : Mo} (hm : MoOK m) : (moSs m).length ≤ 144 := by
  have hs := moA_sort m
  have hnd := sorted_nodup hs.so
  have hin : ∀ s ∈ moSs m, ∃ i, i < m.ls.length ∧ ∃ t ∈ m.ss.getD i [], s = ⟨(i : Int), m.ls.getD i 0, t⟩ := fun s h => moRaw_mem.1 ((hs.mem s).1 h)
  have hrg : ∀ s ∈ moSs m, (0 ≤ s.f ∧ s.f < 12) ∧ 0 ≤ s.t ∧ s.t < 12 := fun s h => by
    obtain ⟨i, hi, t, ht, rfl⟩ := hin s h
    have hi' : i < m.ss.length := by rw [hm.sl]; exact hi
    rw [getD_lt hi'] at ht
    have h1 := hm.rr _ (List.getElem_mem hi') t ht
    have h2 := hm.n12
    refine ⟨⟨?_, ?_⟩, ?_, ?_⟩ <;> (simp only; omega)
  have hk : ((moSs m).map fun s : Stp => (s.f * 12 + s.t).toNat).Nodup := by
    unfold List.Nodup at hnd ⊢
    rw [List.pairwise_map]
    refine List.Pairwise.imp_of_mem (fun {a b} ha hb hne he => hne ?_) hnd
    obtain ⟨⟨a1, a2⟩, a3, a4⟩ := hrg a ha
    obtain ⟨⟨b1, b2⟩, b3, b4⟩ := hrg b hb
    have h1 : a.f = b.f := by omega
    have h2 : a.t = b.t := by omega
    obtain ⟨i, hi, t, ht, rfl⟩ := hin a ha
    obtain ⟨j, hj, t', ht', rfl⟩ := hin b hb
    simp only at h1 h2
    obtain rfl : i = j := by omega
    subst h2
    rfl
  have := nodup_few 144 _ hk (fun x hx => by
    obtain ⟨s, h, rfl⟩ := List.mem_map.1 hx
    obtain ⟨⟨a1, a2⟩, a3, a4⟩ := hrg s h
    omega)
  rwa [List.length_map] at this
theorem moA_fit {m : Mo} (hm : MoOK m) : AuFit (moA m) := mo_fit hm (moA_sort m)
theorem moA_st {m : Mo} (hm : MoOK m) : (moA m).st ≤ 12 := by
  show ((m.ls.length : Nat) : Int) ≤ 12
  have := hm.n12
  omega
theorem moA_ck {m : Mo} (hm : MoOK m) : ckA (moA m) = 0 := (moA_fit hm).ok (Int.le_trans (moA_st hm) (by decide)) (Nat.le_trans (mo_few hm) (by decide))
theorem sum_le_mul (k : Nat) : ∀ l : List Nat, (∀ x ∈ l, x ≤ k) → l.sum ≤ l.length * k
  | [], _ => by simp
  | x :: l, h => by
    have h1 := sum_le_mul k l (fun y hy => h y (List.mem_cons_of_mem _ hy))
    have h2 := h x (List.mem_cons_self ..)
    rw [List.sum_cons, List.length_cons, Nat.succ_mul]
    omega
theorem ho_steps {m : Mo} (hm : MoOK m) {r : Au} (hr : r.ss.length ≤ 768) : stepsN (moA m) r ≤ 331776 := by
  unfold stepsN
  have h1 := sum_le_mul (3 * 768) ((moA m).ss.map fun s => 3 * cntL r.ss s.l) (fun x hx => by
    obtain ⟨s, _, rfl⟩ := List.mem_map.1 hx
    have := cntL_le r.ss s.l
    omega)
  rw [List.length_map] at h1
  have h2 : (moA m).ss.length ≤ 144 := mo_few hm
  have h3 : (moA m).ss.length * (3 * 768) ≤ 144 * (3 * 768) := Nat.mul_le_mul_right _ h2
  omega
noncomputable def hoP (m : Mo) (r : Au) : Au := pairOf (moA m) r (dd (sortS (rawP (moA m) r)))
theorem hoP_fit {m : Mo} (hm : MoOK m) {r : Au} (hr : ckA r = 0) : AuFit (hoP m r) := by
  obtain ⟨o, s⟩ := ckA_zero.1 hr
  exact pair_fit (moA_fit hm) (o.fit s) (raw_is (fun x h => ((moA_fit hm).sr x h).1) (fun x h => ((o.fit s).sr x h).1)) (dd_sort _)
theorem hoP_takes {m : Mo} (hm : MoOK m) {r : Au} (hr : ckA r = 0) (u : Nat → Int) : TakesU (hoP m r) u ↔ TakesU (moA m) u ∧ TakesU r u := by
  obtain ⟨o, s⟩ := ckA_zero.1 hr
  obtain ⟨o', s'⟩ := ckA_zero.1 (moA_ck hm)
  exact pair_takes o' o (pair_is o' o (raw_is (fun x h => ((o'.fit s').sr x h).1) (fun x h => ((o.fit s).sr x h).1)) (dd_sort _)) u
theorem hoP_st {m : Mo} (hm : MoOK m) {r : Au} (h : r.st ≤ 81) (h1 : 1 ≤ r.st) : (hoP m r).st ≤ 2916 := by
  show 3 * (moA m).st * r.st ≤ 2916
  have h2 := moA_st hm
  have h3 := (moA_fit hm).st1
  have h4 : 3 * (moA m).st * r.st ≤ 36 * 81 := Int.mul_le_mul (by omega) h (by omega) (by decide)
  omega
theorem hoP_ss {m : Mo} (hm : MoOK m) {r : Au} (h : r.ss.length ≤ 768) : (hoP m r).ss.length ≤ 1000000 := by
  show (dd (sortS (rawP (moA m) r))).length ≤ 1000000
  have h1 := ddTo_len (sortS (rawP (moA m) r)) (sortS (rawP (moA m) r)).length
  have h2 := raw_len (moA m) r
  have h3 := ho_steps hm h
  have h4 : (dd (sortS (rawP (moA m) r))).length ≤ (sortS (rawP (moA m) r)).length := h1
  rw [sortS_len] at h4
  omega
theorem neg_ck {f : List Nd} (hc : ckF f = 0) (he : negE f = 0) : ckF (negF f) = 0 := by
  have hz : ckL (⟨[], [0]⟩ : La) 8 = 0 := by decide +kernel
  have h : ckT f ⟨[], [0]⟩ = 0 := by unfold ckT; rw [if_pos hc]; exact hz
  exact (ckT_F (holds_neg h he).1).1
theorem neg_ok {f : List Nd} (he : negE f = 0) : ckF f = 0 := by
  unfold negE at he
  by_cases h : ckF f = 0
  · exact h
  · rw [if_neg h] at he; exact absurd he h
theorem ho_word {m : Mo} (hm : MoOK m) {f : List Nd} (he : negE f = 0) {r : Au} (hS : RawS (negF f) r) {l : La} (hl : ckL l 8 = 0) : TakesU (hoP m r) l.at ↔ MoGoes m l ∧ holdsV f l = false := by
  have hp : 0 < l.l.length := by have := (ckL_ne hl); omega
  have hcf := neg_ok he
  have hT : ckT f l = 0 := by unfold ckT; rw [if_pos hcf]; exact hl
  obtain ⟨h1, h2⟩ := holds_neg hT he
  obtain ⟨h3, h4⟩ := raw_holds hS (neg_ck hcf he) l
  have h5 : TakesU r l.at ↔ holdsV (negF f) l = true := by
    rw [← h3]
    unfold tkB
    rw [h4, h1]
    constructor
    · intro h; rw [takesB_iff.2 h]; rfl
    · intro h; exact takesB_iff.1 (Bool.and_eq_true_iff.1 h).2
  rw [hoP_takes hm hS.ok, h5, show TakesU (moA m) l.at ↔ MoGoes m l from mo_takes hm (moA_sort m) hp]
  constructor
  · rintro ⟨a, b⟩
    refine ⟨a, ?_⟩
    rw [b] at h2
    cases h : holdsV f l with
    | false => rfl
    | true => rw [h] at h2; cases h2
  · rintro ⟨a, b⟩
    refine ⟨a, ?_⟩
    rw [b] at h2
    cases h : holdsV (negF f) l with
    | true => rfl
    | false => rw [h] at h2; cases h2
theorem told_ckL {p : Au} (hf : AuFit p) (hst : p.st ≤ 4000) {x : La} (h : Told p x) : ckL x p.le = 0 := by
  obtain ⟨h1, h2, h3⟩ := h.fits hf
  have l1 := h.h
  have l2 := h.l
  have hb : ∀ xs : List Int, (∀ c ∈ xs, 0 ≤ c ∧ c < p.le) → anyB (badL p.le) xs = false := fun xs hx => by
    unfold anyB
    rw [List.any_eq_false]
    intro c hc h
    have := hx c hc
    unfold badL at h
    simp at h
    omega
  rw [ckL_x (by have := hf.le1; have := hf.le2; omega) (by omega) (by omega), hb _ h1, hb _ h2]
  rfl
def hoE (m : Mo) (f : List Nd) : Int := if ckM m = 0 then negE f else ckM m
def HoIs (m : Mo) (f : List Nd) (ok : Bool) (x : La) : Prop :=
  if hoE m f = 0 then (if ok = true then x = ⟨[], []⟩ ∧ ∀ l, ckL l 8 = 0 → MoGoes m l → holdsV f l = true else ckL x 8 = 0 ∧ MoGoes m x ∧ holdsV f x = false) else ok = false ∧ x = ⟨[], []⟩
theorem ho_is {m : Mo} {f : List Nd} (hc : ckM m = 0) (he : negE f = 0) {r : Au} (hS : RawS (negF f) r) {hl ll : List Int} {b : Bool} (h : if b = true then Told (hoP m r) ⟨hl, ll⟩ else hl = [] ∧ ll = [] ∧ ∀ u, ¬ TakesU (hoP m r) u) : HoIs m f (!b) ⟨hl, ll⟩ := by
  have hm := ckM_ok hc
  unfold HoIs hoE
  rw [if_pos hc, if_pos he]
  cases b with
  | true =>
    rw [if_pos rfl] at h
    rw [if_neg (by decide)]
    obtain ⟨o, s⟩ := ckA_zero.1 hS.ok
    have hx : ckL ⟨hl, ll⟩ 8 = 0 := told_ckL (p := hoP m r) (hoP_fit hm hS.ok) (Int.le_trans (hoP_st hm hS.few o.st1) (by decide)) h
    exact ⟨hx, (ho_word hm he hS hx).1 h.takes⟩
  | false =>
    rw [if_neg (by decide)] at h
    obtain ⟨rfl, rfl, hn⟩ := h
    rw [if_pos (by decide)]
    refine ⟨rfl, fun l hl hg => ?_⟩
    cases hh : holdsV f l with
    | true => rfl
    | false => exact absurd ((ho_word hm he hS hl).2 ⟨hg, hh⟩) (hn _)
end Go.Proofs.YtoglgeaiiipchabGreatDoor

namespace Go.Proofs.YtoglgeaiiipchabGreatDoor
open Go Go.RowKit Go.Shelf
def QOwn (W : World) (lo : Nat) (v : Value) (xs : List Int) : Prop :=
  (v = .slice none 0 0 ∧ xs = []) ∨ ∃ g off cap cur, v = .slice (some ⟨g, off, none⟩) xs.length cap ∧ lo ≤ g ∧ W.heap[g]? = some (.cells cur 3 (0, 0)) ∧ xs.length ≤ cap ∧ off + cap ≤ cur.size ∧ cap ≤ maxLen ∧
    ∀ j (h : j < xs.length), cur[off + j]? = some (.int .i64 xs[j])
section
variable {W W' : World} {lo : Nat} {v : Value} {xs : List Int}
theorem QOwn.lt (h : QOwn W lo v xs) : ∀ k, v.ownBlock = some k → lo ≤ k ∧ k < W.heap.size := by
  intro k hk
  rcases h with ⟨rfl, _⟩ | ⟨g, off, cap, cur, rfl, h1, h2, _⟩
  · cases hk
  · obtain rfl : g = k := by simpa [Value.ownBlock] using hk
    exact ⟨h1, (Array.getElem?_eq_some_iff.1 h2).1⟩
theorem QOwn.cells (h : QOwn W lo v xs) {r : Nat} (hr : v.ownBlock = some r) : ∃ cur, W.heap[r]? = some (.cells cur 3 (0, 0)) := by
  rcases h with ⟨rfl, _⟩ | ⟨g, off, cap, cur, rfl, _, h2, _⟩
  · cases hr
  · obtain rfl : g = r := by simpa [Value.ownBlock] using hr
    exact ⟨cur, h2⟩
theorem QOwn.heap (h : QOwn W lo v xs) (he : ∀ k, v.ownBlock = some k → W'.heap[k]? = W.heap[k]?) : QOwn W' lo v xs := by
  rcases h with ⟨rfl, h0⟩ | ⟨g, off, cap, cur, rfl, h1, h2, h3⟩
  · exact .inl ⟨rfl, h0⟩
  · exact .inr ⟨g, off, cap, cur, rfl, h1, (he g rfl).trans h2, h3⟩
theorem QOwn.low {lo' : Nat} (h : QOwn W lo v xs) (hl : lo' ≤ lo) : QOwn W lo' v xs := by
  rcases h with h | ⟨g, off, cap, cur, e, h1, h2⟩
  · exact .inl h
  · exact .inr ⟨g, off, cap, cur, e, Nat.le_trans hl h1, h2⟩
theorem QOwn.form (h : QOwn W lo v xs) : ∃ A c, v = .slice A xs.length c ∧ xs.length ≤ c ∧ c ≤ 9223372036854775807 := by
  rcases h with ⟨rfl, rfl⟩ | ⟨g, off, cap, cur, rfl, _, _, h3, _, h5, _⟩
  · exact ⟨none, 0, rfl, Nat.le_refl _, by omega⟩
  · exact ⟨_, _, rfl, h3, by unfold maxLen at h5; omega⟩
theorem QOwn.of (h : IntOwn W lo v xs) : QOwn W lo v xs := by
  obtain ⟨h1, h2⟩ := h
  rcases h2 with ⟨rfl, hn⟩ | ⟨g, cap, cur, rfl, hg, hh, hn, hc, hs, ht⟩
  · exact .inl ⟨rfl, List.eq_nil_of_length_eq_zero hn⟩
  · refine .inr ⟨g, 0, cap, cur, rfl, hg, hh, hn, by omega, hc, fun j hj => ?_⟩
    have hfm : ∀ l : List Int, (l.flatMap fun n : Int => [Value.int .i64 n]) = l.map (Value.int .i64) := by
      intro l
      induction l with
      | nil => rfl
      | cons x l ih => rw [List.flatMap_cons, ih]; rfl
    rw [hfm] at ht
    have h3 : cur.toList[j]? = some (.int .i64 xs[j]) := by
      have h4 : (cur.toList.take (xs.length * 1))[j]? = some (.int .i64 xs[j]) := by rw [ht, List.getElem?_map, List.getElem?_eq_getElem hj]; rfl
      rwa [List.getElem?_take, if_pos (by omega)] at h4
    rw [Nat.zero_add]
    simpa using h3
theorem QOwn.pop {x : Int} (h : QOwn W lo v (x :: xs)) : ∃ g off cap, v = .slice (some ⟨g, off, none⟩) (xs.length + 1) cap ∧ xs.length + 1 ≤ cap ∧ cap ≤ 9223372036854775807 ∧ W.cell? ⟨g, off, none⟩ = some (.int .i64 x) ∧
    QOwn W lo (.slice (if cap = 1 then some ⟨g, off, none⟩ else some ⟨g, off + 1, none⟩) xs.length (cap - 1)) xs := by
  rcases h with ⟨_, h⟩ | ⟨g, off, cap, cur, rfl, h1, h2, h3, h4, h5, h6⟩
  · cases h
  · rw [List.length_cons] at h3
    refine ⟨g, off, cap, rfl, h3, by unfold maxLen at h5; omega, ?_, ?_⟩
    · have := h6 0 (by simp)
      rw [Nat.add_zero] at this
      simp only [World.cell?, h2]
      simpa using this
    · by_cases hc : cap = 1
      · rw [if_pos hc]
        have hx : xs = [] := List.eq_nil_of_length_eq_zero (by omega)
        subst hx
        exact .inr ⟨g, off, cap - 1, cur, rfl, h1, h2, by simp, by omega, by omega, fun j hj => by simp at hj⟩
      · rw [if_neg hc]
        refine .inr ⟨g, off + 1, cap - 1, cur, rfl, h1, h2, by omega, by omega, by omega, fun j hj => ?_⟩
        have := h6 (j + 1) (by simpa using hj)
        rw [show off + (j + 1) = off + 1 + j by omega] at this
        simpa using this
theorem run_append_q {y : Int} {B : Nat} (ty : TypeId) (hown : QOwn W lo v xs) (hB : W.heap[B]? = some (.cells #[.int .i64 y] 3 (0, 0))) (hl : xs.length ≤ 10000000) (hlo : lo ≤ W.heap.size) :
    ∃ v' W', (Builtin.append_ #[22, 22] ty #[v, .slice (some ⟨B, 0, none⟩) 1 1]).run Tryz.prog W = .ok v' W' ∧ QOwn W' lo v' (xs ++ [y]) ∧ W.grownBy W' v.ownBlock ∧ (v'.ownBlock = v.ownBlock ∨ v'.ownBlock = some W.heap.size) := by
  rcases hown with ⟨rfl, rfl⟩ | ⟨g, off, cap, cur, rfl, h1, h2, h3, h4, h5, h6⟩
  · obtain ⟨v', W', a1, a2, a3, a4⟩ := run_append_int (W := W) (lo := lo) (v := .slice none 0 0) (xs := []) (y := y) (B := B) ty (World.ownsRow_nil _ _ _ _) hB (by simp) hlo
    exact ⟨v', W', a1, QOwn.of a2, a3, a4⟩
  · obtain ⟨i0, hi0, hz0, hz1, hz2⟩ := info_parts infoInt
    have hcell : W.cell? ⟨B, 0, none⟩ = some (.int .i64 y) := by simp [World.cell?, hB]
    have hnews : ∀ j u, [Value.int .i64 y][j]? = some u → W.cell? ((⟨B, 0, none⟩ : Addr).add j) = some u := fun j u hu => by
      cases j with
      | zero =>
        obtain rfl : Value.int .i64 y = u := by simpa using hu
        exact hcell
      | succ j => simp at hu
    by_cases hr : xs.length + 1 ≤ cap
    · have hsrc : Src Tryz.prog i0.size 22 (.slice (some ⟨B, 0, none⟩) 1 1) 1 [.int .i64 y] W := Src.ofSlice W Tryz.underlying22 ⟨B, 0, none⟩ 1 1 _ (by rw [hz1]; rfl) hnews (by simp [Value.oneCell'])
      have hrun := run_append_room_src (P := Tryz.prog) W 22 22 ty 3 i0 Tryz.underlying22 hi0 g off xs.length cap (.slice (some ⟨B, 0, none⟩) 1 1) 1 [.int .i64 y] hsrc hr
        (fun j hj => by
          have : j = 0 := by simpa using hj
          subst this
          rw [hz1]
          simp only [World.cell?, h2]
          have : off + xs.length * 1 + 0 < cur.size := by omega
          have h7 : off + xs.length < cur.size := by omega
          simp [Array.getElem?_eq_getElem this, h7])
        (fun j _ => by simp [World.frozen?, h2])
      refine ⟨_, _, hrun, ?_, ?_, .inl rfl⟩
      · rw [hz1]
        refine .inr ⟨g, off, cap, cur.setIfInBounds (off + xs.length) (.int .i64 y), by simp, h1, ?_, by simpa using hr, by simpa using h4, h5, fun j hj => ?_⟩
        · simp only [World.setCells, Nat.mul_one]
          simp [World.setCell, Array.getElem?_modify, h2]
        · rw [Array.getElem?_setIfInBounds]
          by_cases hjl : j = xs.length
          · subst hjl
            rw [if_pos rfl, if_pos (by omega)]
            simp
          · rw [List.length_append] at hj
            simp at hj
            rw [if_neg (by omega), h6 j (by omega), List.getElem_append_left (by omega)]
      · rw [hz1]
        simp only [World.setCells]
        exact ⟨rfl, rfl, rfl, by simp [World.setCell], fun k _ hk => Below.heap_setCell _ _ _ _ (fun e => hk (by simp [Value.ownBlock]; exact e))⟩
    · have holds : ∀ j u, (xs.map (Value.int .i64))[j]? = some u → W.cell? ((⟨g, off, none⟩ : Addr).add j) = some u := fun j u hu => by
        rw [List.getElem?_map] at hu
        obtain ⟨x, hx, rfl⟩ := Option.map_eq_some_iff.1 hu
        obtain ⟨hj, rfl⟩ := List.getElem?_eq_some_iff.1 hx
        rw [Addr_add_off]
        simp only [World.cell?, h2]
        exact h6 j hj
      have hcx : cap = xs.length := by omega
      have hfit : Builtin.nextslicecap (xs.length + 1) cap * i0.bytes ≤ 281474976710656 := by
        rw [hz2]
        exact growslice_fits (by omega) (by omega)
      have hrun := run_append_grow (P := Tryz.prog) W 22 ty 3 i0 _ Tryz.underlying22 hi0 hz0 ⟨g, off, none⟩ xs.length cap (xs.map (Value.int .i64)) (by rw [hz1]; simp) holds ⟨B, 0, none⟩ 1 1 [.int .i64 y] (by rw [hz1]; rfl) hnews (by omega) (by omega) hfit
      refine ⟨_, _, hrun, ?_, ⟨rfl, rfl, rfl, by simp, fun k hk _ => by
        rw [Below.heap_alloc _ _ _ (by simpa using hk)]
        rfl⟩, .inr (by simp [Value.ownBlock])⟩
      have hgc := grownCap_ge W (xs.length + 1) cap 3
      have hgm := grownCap_le_maxLen W (xs.length + 1) cap 3 (by unfold maxLen; omega)
      refine .inr ⟨W.heap.size, 0, _, _, by simp, hlo, World.alloc_heap_new W.drew _, by simpa using hgc, ?_, hgm, fun j hj => ?_⟩
      · simp [Value.cells, size_zeroCells]
        omega
      · rw [Nat.zero_add, Array.getElem?_append_left (by simpa using hj), List.append_toArray, List.getElem?_toArray]
        by_cases hjl : j = xs.length
        · subst hjl
          simp
        · rw [List.length_append] at hj
          simp at hj
          rw [List.getElem?_append_left (by simp; omega), List.getElem_append_left (by omega), List.getElem?_map, List.getElem?_eq_getElem (by omega)]
          rfl
end
end Go.Proofs.YtoglgeaiiipchabGreatDoor

namespace Go.Proofs.YtoglgeaiiipchabGreatDoor
open Go Go.RowKit Go.Maps Go.Shelf
structure FnC (lo Q M R : Nat) (D : List (Int × Stp)) (left : List Int) (v : Value) (W : World) : Prop where
  box : Boxed W Q 22 v
  q : QOwn W lo v left
  by_ : ByAt W M D
  res : ∃ r, Boxed W R 3 (.int .i64 r)
  lQ : lo ≤ Q
  lM : lo ≤ M
  lR : lo ≤ R
  qr : v.ownBlock ≠ some R
section
variable {lo Q M R : Nat} {D D' : List (Int × Stp)} {left left' : List Int} {v v' : Value} {W W' : World}
theorem FnC.QM (h : FnC lo Q M R D left v W) : Q ≠ M := by
  rintro rfl
  obtain ⟨es, c, h1⟩ := h.by_.block
  have h2 : W.heap[Q]? = _ := h.box
  rw [h1] at h2; cases h2
theorem FnC.RM (h : FnC lo Q M R D left v W) : R ≠ M := by
  rintro rfl
  obtain ⟨es, c, h1⟩ := h.by_.block
  obtain ⟨r, h3⟩ := h.res
  have h2 : W.heap[R]? = _ := h3
  rw [h1] at h2; cases h2
theorem FnC.QR (h : FnC lo Q M R D left v W) : Q ≠ R := by
  rintro rfl
  obtain ⟨r, h3⟩ := h.res
  have h2 : W.heap[Q]? = _ := h3
  have h1 : W.heap[Q]? = _ := h.box
  rw [h1] at h2; simp at h2
theorem FnC.nM (h : FnC lo Q M R D left v W) : v.ownBlock ≠ some M := fun e => by
  obtain ⟨cur, h1⟩ := h.q.cells e
  obtain ⟨es, c, h2⟩ := h.by_.block
  rw [h1] at h2; cases h2
theorem FnC.nQ (h : FnC lo Q M R D left v W) : v.ownBlock ≠ some Q := fun e => by
  obtain ⟨cur, h1⟩ := h.q.cells e
  have h2 : W.heap[Q]? = _ := h.box
  rw [h1] at h2; simp at h2
theorem FnC.bad (h : FnC lo Q M R D left v W) {k : Nat} : Bad [M, R] [Q] W k ↔ k = M ∨ k = R ∨ k = Q ∨ v.ownBlock = some k := by
  rw [bad_box h.box]
  simp only [List.mem_cons, List.not_mem_nil, or_false, or_assoc]
theorem FnC.sane (h : FnC lo Q M R D left v W) : Sane lo [M, R] [Q] W := by
  refine ⟨fun k hk => ?_, fun F' hF' o ad m c hc => ?_⟩
  · rcases h.bad.1 hk with rfl | rfl | rfl | h1
    · exact ⟨h.lM, h.by_.lt⟩
    · obtain ⟨r, h3⟩ := h.res; exact ⟨h.lR, h3.lt⟩
    · exact ⟨h.lQ, h.box.lt⟩
    · exact h.q.lt k h1
  · obtain rfl := List.mem_singleton.1 hF'
    obtain ⟨cur, h1⟩ := h.q.cells (r := ad.block) (by rw [← box_cell0 h.box hc]; rfl)
    exact ⟨_, h1, rfl⟩
theorem FnC.off (h : FnC lo Q M R D left v W) (h' : FnC lo Q M R D' left' v' W') (hos : W'.os = W.os) (htape : W'.tape = W.tape) (hout : W'.output = W.output) (hsz : W.heap.size ≤ W'.heap.size)
    (hb : ∀ k, k < W.heap.size → k ≠ M → k ≠ R → k ≠ Q → v.ownBlock ≠ some k → W'.heap[k]? = W.heap[k]?) (hat : v'.ownBlock = v.ownBlock ∨ ∀ r, v'.ownBlock = some r → W.heap.size ≤ r) : Off lo [M, R] [Q] W W' := by
  refine ⟨hos, htape, hout, hsz, fun k hk hn => ?_, fun k hk => ?_, h'.sane⟩
  · rw [h.bad] at hn
    exact hb k hk (fun e => hn (.inl e)) (fun e => hn (.inr (.inl e))) (fun e => hn (.inr (.inr (.inl e)))) (fun e => hn (.inr (.inr (.inr e))))
  · rw [h.bad]
    rcases h'.bad.1 hk with h1 | h1 | h1 | h1
    · exact .inl (.inl h1)
    · exact .inl (.inr (.inl h1))
    · exact .inl (.inr (.inr (.inl h1)))
    · rcases hat with h2 | h2
      · exact .inl (.inr (.inr (.inr (by rw [← h2]; exact h1))))
      · exact .inr (h2 k h1)
theorem FnC.heap (h : FnC lo Q M R D left v W) (hm : W'.heap[M]? = W.heap[M]?) (hr : W'.heap[R]? = W.heap[R]?) (hq : W'.heap[Q]? = W.heap[Q]?) (hv : ∀ k, v.ownBlock = some k → W'.heap[k]? = W.heap[k]?) : FnC lo Q M R D left v W' := by
  obtain ⟨r, h3⟩ := h.res
  refine ⟨hq.trans h.box, h.q.heap hv, ?_, ⟨r, hr.trans h3⟩, h.lQ, h.lM, h.lR, h.qr⟩
  obtain ⟨es, c, b1, b2⟩ := h.by_
  exact ⟨es, c, hm.trans b1, b2⟩
theorem FnC.on (h : FnC lo Q M R D left v W) (hb : Below W.heap.size W W') : FnC lo Q M R D left v W' := by
  obtain ⟨r, h3⟩ := h.res
  exact h.heap (hb.block _ h.by_.lt) (hb.block _ h3.lt) (hb.block _ h.box.lt) (fun k hk => hb.block k (h.q.lt k hk).2)
theorem FnC.own {row : Option Nat} (h : FnC lo Q M R D left v W) (hg : W.grownBy W' row) (hr : ∀ r, row = some r → M < r ∧ ∃ o : Obj, W.heap[r]? = some o ∧ o.isCells = false) : FnC lo Q M R D left v W' := by
  obtain ⟨r, h3⟩ := h.res
  have cl : ∀ {k : Nat} {o : Obj}, W.heap[k]? = some o → o.isCells = true → W'.heap[k]? = W.heap[k]? := fun {k o} hk ho => hg.block k (Array.getElem?_eq_some_iff.1 hk).1 (fun e => by
    obtain ⟨_, o', h1, h2⟩ := hr k e.symm
    rw [hk] at h1
    rw [← Option.some.inj h1, ho] at h2
    cases h2)
  refine h.heap (hg.block M h.by_.lt fun e => by have := (hr M e.symm).1; omega) (cl h3 rfl) (cl h.box rfl) (fun k hk => ?_)
  obtain ⟨cur, h1⟩ := h.q.cells hk
  exact cl h1 rfl
theorem FnC.set {u : Value} (h : FnC lo Q M R D left v W) (hu : QOwn W lo u left') (hb : u.ownBlock = v.ownBlock) : FnC lo Q M R D left' u (W.setCell ⟨Q, 0, none⟩ u) := by
  obtain ⟨r, h3⟩ := h.res
  have far : ∀ k, k ≠ Q → (W.setCell ⟨Q, 0, none⟩ u).heap[k]? = W.heap[k]? := fun k hk => Below.heap_setCell _ _ _ _ hk
  refine ⟨h.box.set u, hu.heap fun k hk => far k (fun e => h.nQ (by rw [← hb, hk, e])), ?_, ⟨r, (far R h.QR.symm).trans h3⟩, h.lQ, h.lM, h.lR, by rw [hb]; exact h.qr⟩
  obtain ⟨es, c, b1, b2⟩ := h.by_
  exact ⟨es, c, (far M h.QM.symm).trans b1, b2⟩
theorem FnC.put (h : FnC lo Q M R D left v W) (hm : ByAt W' M D') (hg : W.grownBy W' (some M)) : FnC lo Q M R D' left v W' := by
  obtain ⟨r, h3⟩ := h.res
  have far : ∀ k, k < W.heap.size → k ≠ M → W'.heap[k]? = W.heap[k]? := fun k hk hn => hg.block k hk (by simpa using hn)
  exact ⟨(far Q h.box.lt h.QM).trans h.box, h.q.heap fun k hk => far k (h.q.lt k hk).2 (fun e => h.nM (by rw [hk, e])), hm, ⟨r, (far R h3.lt h.RM).trans h3⟩, h.lQ, h.lM, h.lR, h.qr⟩
theorem FnC.app {v3 : Value} {W3 : World} {y : Int} (h : FnC lo Q M R D left v W) (hq : QOwn W3 lo v3 (left ++ [y])) (hg : W.grownBy W3 v.ownBlock) (hat : v3.ownBlock = v.ownBlock ∨ v3.ownBlock = some W.heap.size) :
    Boxed W3 Q 22 v ∧ FnC lo Q M R D (left ++ [y]) v3 (W3.setCell ⟨Q, 0, none⟩ v3) := by
  obtain ⟨r, h3⟩ := h.res
  have kp : ∀ k, k < W.heap.size → v.ownBlock ≠ some k → W3.heap[k]? = W.heap[k]? := fun k hk hn => hg.block k hk (fun e => hn e.symm)
  have hb3 : Boxed W3 Q 22 v := (kp Q h.box.lt h.nQ).trans h.box
  have far : ∀ k, k ≠ Q → (W3.setCell ⟨Q, 0, none⟩ v3).heap[k]? = W3.heap[k]? := fun k hk => Below.heap_setCell _ _ _ _ hk
  have hQl := h.box.lt
  have hRl := h3.lt
  have n3 : ∀ k, k < W.heap.size → v.ownBlock ≠ some k → v3.ownBlock ≠ some k := fun k hk hn e => by
    rcases hat with h4 | h4
    · exact hn (by rw [← h4]; exact e)
    · rw [h4] at e; have := Option.some.inj e; omega
  refine ⟨hb3, hb3.set v3, hq.heap fun k hk => far k (fun e => n3 Q hQl h.nQ (by rw [hk, e])), ?_, ⟨r, (far R h.QR.symm).trans ((kp R hRl h.qr).trans h3)⟩, h.lQ, h.lM, h.lR, n3 R hRl h.qr⟩
  obtain ⟨es, c, b1, b2⟩ := h.by_
  exact ⟨es, c, (far M h.QM.symm).trans ((kp M (Array.getElem?_eq_some_iff.1 b1).1 h.nM).trans b1), b2⟩
theorem FnC.setR (h : FnC lo Q M R D left v W) (r : Int) : FnC lo Q M R D left v (W.setCell ⟨R, 0, none⟩ (.int .i64 r)) ∧ Boxed (W.setCell ⟨R, 0, none⟩ (.int .i64 r)) R 3 (.int .i64 r) ∧ Off lo [M, R] [Q] W (W.setCell ⟨R, 0, none⟩ (.int .i64 r)) := by
  obtain ⟨r0, hr0⟩ := h.res
  have far : ∀ k, k ≠ R → (W.setCell ⟨R, 0, none⟩ (.int .i64 r)).heap[k]? = W.heap[k]? := fun k hk => Below.heap_setCell _ _ _ _ hk
  have hb2 : ByAt (W.setCell ⟨R, 0, none⟩ (.int .i64 r)) M D := by
    obtain ⟨es, c, x1, x2⟩ := h.by_
    exact ⟨es, c, (far _ h.RM.symm).trans x1, x2⟩
  have hC : FnC lo Q M R D left v (W.setCell ⟨R, 0, none⟩ (.int .i64 r)) := ⟨(far _ h.QR).trans h.box, h.q.heap fun k hk => far k (fun e => h.qr (by rw [hk, e])), hb2, ⟨r, hr0.set _⟩, h.lQ, h.lM, h.lR, h.qr⟩
  exact ⟨hC, hr0.set _, h.off hC rfl rfl rfl (by simp [World.setCell]) (fun k _ _ h2 _ _ => far k h2) (.inl rfl)⟩
theorem FnC.good_obj {l : Nat} {o : Obj} (h : FnC lo Q M R D left v W) (hl : W.heap[l]? = some o) (ho : o.isCells = false) (hm : l ≠ M) : Good lo [M, R] [Q] W l := by
  refine ⟨(Array.getElem?_eq_some_iff.1 hl).1, fun hb => ?_⟩
  obtain ⟨r, h3⟩ := h.res
  have no : ∀ {ob : Obj}, W.heap[l]? = some ob → ob.isCells = true → False := fun h1 h2 => by
    rw [hl] at h1
    rw [← Option.some.inj h1, ho] at h2
    cases h2
  rcases h.bad.1 hb with h1 | rfl | rfl | h1
  · exact hm h1
  · exact no h3 rfl
  · exact no h.box rfl
  · obtain ⟨cur, a1⟩ := h.q.cells h1; exact no a1 rfl
end
def MarksF (lo b : Nat) (Ms Fs : List Nat) (W : World) (ds : List Deferred) : Prop := ∃ Ds : List Nat, ds = Ds.map (fun D => { target := .collected D, args := #[] }) ∧ Ds.Nodup ∧ ∀ D ∈ Ds, b ≤ D ∧ Good lo Ms Fs W D ∧ W.heap[D]? = some (.deferred (some []))
theorem MarksF.nil (lo b : Nat) (Ms Fs : List Nat) (W : World) : MarksF lo b Ms Fs W [] := ⟨[], rfl, .nil, fun D h => by cases h⟩
theorem MarksF.off {lo b : Nat} {Ms Fs : List Nat} {W W' : World} {ds : List Deferred} (h : MarksF lo b Ms Fs W ds) (ho : Off lo Ms Fs W W') : MarksF lo b Ms Fs W' ds := by
  obtain ⟨Ds, h1, h2, h3⟩ := h
  exact ⟨Ds, h1, h2, fun D hD => by obtain ⟨a1, a2, a3⟩ := h3 D hD; exact ⟨a1, a2.off ho, (ho.block D a2.lt a2.not).trans a3⟩⟩
theorem MarksF.marks {lo b : Nat} {Ms Fs : List Nat} {W : World} {ds : List Deferred} (h : MarksF lo b Ms Fs W ds) : Marks b W ds := by
  obtain ⟨Ds, h1, h2, h3⟩ := h
  exact ⟨Ds, h1, h2, fun D hD => ⟨(h3 D hD).1, (h3 D hD).2.2⟩⟩
theorem MarksF.cons {lo b Dm : Nat} {Ms Fs : List Nat} {W W' : World} {ds : List Deferred} (h : MarksF lo b Ms Fs W ds) (ho : Off lo Ms Fs W W') (hD : W.heap.size ≤ Dm) (hb : b ≤ Dm) (hg : Good lo Ms Fs W' Dm) (hd : W'.heap[Dm]? = some (.deferred (some []))) :
    MarksF lo b Ms Fs W' ({ target := .collected Dm, args := #[] } :: ds) := by
  obtain ⟨Ds, rfl, h2, h3⟩ := h
  refine ⟨Dm :: Ds, rfl, List.nodup_cons.2 ⟨fun hm => ?_, h2⟩, fun D' hm => ?_⟩
  · have := (h3 Dm hm).2.1.lt
    omega
  · rcases List.mem_cons.1 hm with rfl | hm
    · exact ⟨hb, hg, hd⟩
    · obtain ⟨a1, a2, a3⟩ := h3 D' hm
      exact ⟨a1, a2.off ho, (ho.block D' a2.lt a2.not).trans a3⟩
end Go.Proofs.YtoglgeaiiipchabGreatDoor
