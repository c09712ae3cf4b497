/- Walks: slices.Compact of steps, whatever row. -/
import Derived.Test.YtoglgeaiiipchaaLBTM18
import Derived.Laws.StructEq
set_option linter.unusedSimpArgs false
set_option linter.unusedVariables false
namespace Go.Proofs.Ytoglgeaiiipchaa
open Go Go.RowKit Go.Sort

/-! ### each once: plain -/
def keepS (xs : List Stp) (j : Nat) : Bool := decide (j = 0) || !decide (xs.getD j nostp = xs.getD (j - 1) nostp)
def ddTo (xs : List Stp) : Nat → List Stp
  | 0 => []
  | k + 1 => ddTo xs k ++ if keepS xs k = true then [xs.getD k nostp] else []
def dd (xs : List Stp) : List Stp := ddTo xs xs.length
theorem ddTo_len (xs : List Stp) : ∀ k, (ddTo xs k).length ≤ k
  | 0 => Nat.le_refl _
  | k + 1 => by
    have := ddTo_len xs k
    unfold ddTo
    rw [List.length_append]
    split <;> simp <;> omega
theorem ddTo_all (xs : List Stp) : ∀ k, k ≤ xs.length → (∀ j, j < k → keepS xs j = true) → ddTo xs k = xs.take k
  | 0, _, _ => rfl
  | k + 1, hk, h => by
    unfold ddTo
    rw [ddTo_all xs k (by omega) fun j hj => h j (by omega), if_pos (h k (by omega)), List.take_succ_eq_append_getElem (by omega), getD_lt (by omega)]
theorem ddTo_lt (xs : List Stp) {k m : Nat} (h : keepS xs k = false) (hm : k < m) : (ddTo xs m).length < m := by
  induction m with
  | zero => omega
  | succ m ih =>
    unfold ddTo
    rw [List.length_append]
    by_cases e : k = m
    · subst e
      rw [if_neg (by rw [h]; decide)]
      have := ddTo_len xs k
      simp; omega
    · have := ih (by omega)
      split <;> simp <;> omega
theorem ddTo_mem (xs : List Stp) : ∀ k, k ≤ xs.length → ∀ s, s ∈ ddTo xs k ↔ s ∈ xs.take k
  | 0, _, s => by simp [ddTo]
  | k + 1, hk, s => by
    have hlt : k < xs.length := by omega
    rw [List.take_succ_eq_append_getElem hlt]
    unfold ddTo
    rw [List.mem_append, List.mem_append, ddTo_mem xs k (by omega)]
    split
    · rw [getD_lt hlt]
    · rename_i hn
      simp only [List.not_mem_nil, or_false, List.mem_singleton]
      refine ⟨.inl, fun h => h.elim id fun h => ?_⟩
      unfold keepS at hn
      simp only [Bool.or_eq_true, decide_eq_true_eq, Bool.not_eq_true', not_or, Bool.not_eq_false, decide_eq_false_iff_not, Decidable.not_not] at hn
      rw [getD_lt hlt, getD_lt (by omega)] at hn
      rw [h, hn.2]
      exact List.mem_take_iff_getElem.2 ⟨k - 1, by omega, rfl⟩
theorem dd_mem (xs : List Stp) (s : Stp) : s ∈ dd xs ↔ s ∈ xs := by
  unfold dd
  rw [ddTo_mem xs _ (Nat.le_refl _), List.take_length]
theorem ddTo_sorted (xs : List Stp) (h : xs.Pairwise fun x y => stpLt y x = false) : ∀ k, k ≤ xs.length → (ddTo xs k).Pairwise (fun s t => stpLt s t = true) ∧ ∀ s ∈ ddTo xs k, ∀ j, k ≤ j → (hj : j < xs.length) → s ≠ xs[j] → stpLt s xs[j] = true
  | 0, _ => ⟨.nil, fun s hs => by simp [ddTo] at hs⟩
  | k + 1, hk => by
    have hlt : k < xs.length := by omega
    obtain ⟨i1, i2⟩ := ddTo_sorted xs h k (by omega)
    have up : ∀ i j, (hi : i < xs.length) → (hj : j < xs.length) → i < j → stpLt xs[j] xs[i] = false := fun i j hi hj hij => List.pairwise_iff_getElem.1 h i j hi hj hij
    have lt : ∀ i j, (hi : i < xs.length) → (hj : j < xs.length) → i < j → xs[i] ≠ xs[j] → stpLt xs[i] xs[j] = true := fun i j hi hj hij hne => by
      cases e : stpLt xs[i] xs[j] with
      | true => rfl
      | false => exact absurd (stp_total e (up i j hi hj hij)) hne
    unfold ddTo
    split
    · rename_i hkeep
      rw [getD_lt hlt]
      refine ⟨?_, fun s hs j hj hjl hne => ?_⟩
      · rw [List.pairwise_append]
        refine ⟨i1, List.pairwise_singleton _ _, fun s hs t ht => ?_⟩
        rw [List.mem_singleton.1 ht]
        refine i2 s hs k (Nat.le_refl _) hlt fun e => ?_
        unfold keepS at hkeep
        simp only [Bool.or_eq_true, decide_eq_true_eq, Bool.not_eq_true', decide_eq_false_iff_not] at hkeep
        obtain ⟨i, hi, hik⟩ := List.mem_take_iff_getElem.1 ((ddTo_mem xs k (by omega) s).1 hs)
        rcases hkeep with h0 | h0
        · omega
        · rw [getD_lt hlt, getD_lt (by omega)] at h0
          by_cases e2 : i = k - 1
          · subst e2; exact h0 (e.symm.trans hik.symm)
          · have a1 := up i (k - 1) (by omega) (by omega) (by omega)
            have a2 := up (k - 1) k (by omega) hlt (by omega)
            have e3 : xs[i] = xs[k] := hik.trans e
            rw [e3] at a1
            exact h0 (stp_total a2 a1)
      · rcases List.mem_append.1 hs with hs | hs
        · exact i2 s hs j (by omega) hjl hne
        · rw [List.mem_singleton.1 hs] at hne ⊢
          exact lt k j hlt hjl (by omega) hne
    · rw [List.append_nil]
      exact ⟨i1, fun s hs j hj hjl hne => i2 s hs j (by omega) hjl hne⟩
theorem dd_sorted (xs : List Stp) (h : xs.Pairwise fun x y => stpLt y x = false) : ssSorted (dd xs) := (ddTo_sorted xs h xs.length (Nat.le_refl _)).1
theorem dd_sort (raw : List Stp) : SortOf raw (dd (sortS raw)) :=
  ⟨dd_sorted _ (sortS_sorted raw), fun s => by rw [dd_mem]; exact (sortS_perm raw).mem_iff, by have := ddTo_len (sortS raw) (sortS raw).length; rw [sortS_len] at this; unfold dd; rw [sortS_len]; exact this⟩
/-! ### the walk -/
theorem SRow.set1 {w : World} {g cap o : Nat} {ys : List Stp} (h : SRow w g cap ys) (ho : ys.length * 3 ≤ o) (v : Value) : SRow (w.setCell ⟨g, o, none⟩ v) g cap ys := by
  obtain ⟨cur, h1, h2, h3, h4, h5⟩ := h
  refine ⟨cur.setIfInBounds o v, by simp [World.setCell, Array.getElem?_modify, h1], h2, h3, by simpa using h4, ?_⟩
  rw [Array.toList_setIfInBounds, List.take_set_of_le ho]
  exact h5
theorem SRow.setCells {g cap : Nat} {ys : List Stp} : ∀ (vs : List Value) (w : World) (o : Nat), SRow w g cap ys → ys.length * 3 ≤ o → SRow (w.setCells g o vs) g cap ys ∧ w.grownBy (w.setCells g o vs) (some g)
  | [], w, _, h, _ => ⟨h, World.grownBy.refl _ _⟩
  | v :: r, w, o, h, ho => by
    obtain ⟨i1, i2⟩ := SRow.setCells r (w.setCell ⟨g, o, none⟩ v) (o + 1) (h.set1 ho v) (by omega)
    exact ⟨i1, grown_grown (grown_set w g o v) i2⟩
theorem SRow.put {w : World} {g cap k : Nat} {xs : List Stp} (h : SRow w g cap xs) (hk : k < xs.length) (s : Stp) : SRow (((w.setCell ⟨g, k * 3, none⟩ (.int .i64 s.f)).setCell ⟨g, k * 3 + 1, none⟩ (.int .i64 s.l)).setCell ⟨g, k * 3 + 2, none⟩ (.int .i64 s.t)) g cap (xs.set k s) := by
  obtain ⟨cur, h1, h2, h3, h4, h5⟩ := h
  refine ⟨((cur.setIfInBounds (k * 3) (.int .i64 s.f)).setIfInBounds (k * 3 + 1) (.int .i64 s.l)).setIfInBounds (k * 3 + 2) (.int .i64 s.t), by simp [World.setCell, Array.getElem?_modify, h1], by simpa using h2, h3, by simpa using h4, ?_⟩
  rw [List.length_set]
  have hl := flat_len xs
  refine List.ext_getElem? fun i => ?_
  by_cases hi : i < xs.length * 3
  · rw [List.getElem?_take_of_lt hi, Array.toList_setIfInBounds, Array.toList_setIfInBounds, Array.toList_setIfInBounds, List.getElem?_set, List.getElem?_set, List.getElem?_set]
    have hc : cur.toList.length = cap * 3 := by simpa using h4
    have e0 : cur.toList[i]? = (xs.flatMap Stp.cells)[i]? := by rw [← h5, List.getElem?_take_of_lt hi]
    have hq : i / 3 < xs.length := by omega
    have hm := flatMap_get (enc := Stp.cells) (sz := 3) (fun _ => rfl) (xs.set k s) (i / 3) (by simpa using hq) (i % 3)
    have hm0 := flatMap_get (enc := Stp.cells) (sz := 3) (fun _ => rfl) xs (i / 3) hq (i % 3)
    rw [show i / 3 * 3 + i % 3 = i by omega] at hm hm0
    by_cases hk2 : i / 3 = k
    · have e1 : (xs.set k s)[i / 3]'(by simpa using hq) = s := by simp [hk2]
      rw [e1] at hm
      have h03 : i % 3 = 0 ∨ i % 3 = 1 ∨ i % 3 = 2 := by omega
      rcases h03 with h0 | h0 | h0
      · rw [h0] at hm
        rw [hm _ rfl, if_neg (by omega), if_neg (by omega), if_pos (by omega), if_pos (by omega)]
      · rw [h0] at hm
        rw [hm _ rfl, if_neg (by omega), if_pos (by omega), if_pos (by simp; omega)]
      · rw [h0] at hm
        rw [hm _ rfl, if_pos (by omega), if_pos (by simp; omega)]
    · have e1 : (xs.set k s)[i / 3]'(by simpa using hq) = xs[i / 3] := by rw [List.getElem_set_ne (by omega)]
      rw [e1] at hm
      rw [if_neg (by omega), if_neg (by omega), if_neg (by omega), e0]
      have hmm : i % 3 < (Stp.cells xs[i / 3]).length := by simp [Stp.cells]; omega
      rw [hm _ (List.getElem?_eq_getElem hmm), hm0 _ (List.getElem?_eq_getElem hmm)]
  · rw [List.getElem?_eq_none (by rw [List.length_take]; omega), List.getElem?_eq_none (by rw [flat_len, List.length_set]; omega)]
theorem run_clearS {w : World} {g cap kk n : Nat} {mem : List Stp} (h : SRow w g cap mem) (hn : mem.length = n) (hk : kk < n) (ty : TypeId) :
    ∃ w', (Builtin.clear_ #[47] ty #[.slice (some ⟨g, kk * 3, none⟩) (n - kk) (cap - kk)]).run Try.prog w = .ok (.tuple #[]) w' ∧ SRow w' g cap (mem.take kk) ∧ w.grownBy w' (some g) := by
  have hv : ∀ w, (zeroValue 90).run Try.prog w = .ok (.agg #[.int .i64 0, .int .i64 0, .int .i64 0]) w := by intro w; kernel_rfl
  obtain ⟨m, hm⟩ : ∃ m, n - kk = m + 1 := ⟨n - kk - 1, by omega⟩
  obtain ⟨vs, hvs⟩ : ∃ vs, vs = (Builtin.zeroCells (Value.agg #[.int .i64 0, .int .i64 0, .int .i64 0]).cells (m + 1)).toList := ⟨_, rfl⟩
  have hlen : vs.length = (m + 1) * 3 := by rw [hvs]; simp [Builtin.zeroCells, Value.cells]
  have hall : ∀ v ∈ vs, v.oneCell' = true := by
    intro v hvm
    rw [hvs] at hvm
    simp only [Builtin.zeroCells, Value.cells, Array.toList_map, List.mem_map] at hvm
    obtain ⟨i, _, rfl⟩ := hvm
    have : i % 3 = 0 ∨ i % 3 = 1 ∨ i % 3 = 2 := by omega
    rcases this with e | e | e <;> simp [e, Value.oneCell']
  have hcell : ∀ j, j < vs.length → ∃ u, w.cell? ⟨g, kk * 3 + j, none⟩ = some u ∧ w.frozen? ⟨g, kk * 3 + j, none⟩ = false := fun j hj => by
    have h2 : kk * 3 + j < (mem.flatMap Stp.cells).length := by rw [flat_len, hn]; omega
    have := h.get (List.getElem?_eq_getElem h2)
    exact ⟨_, this⟩
  have hst := run_storeCells_cells (P := Try.prog) g (kk * 3) vs 0 w (fun j hj => by obtain ⟨u, h1, _⟩ := hcell j hj; simp only [Nat.add_zero]; rw [h1]; rfl) (fun j hj => by obtain ⟨u, _, h2⟩ := hcell j hj; simpa using h2) hall
  simp only [Nat.add_zero] at hst
  have hs := SRow.setCells vs w (kk * 3) (h.take (k := kk) (by omega)) (by rw [List.length_take]; omega)
  refine ⟨_, ?_, hs⟩
  rw [hm]
  simp [Builtin.clear_, run_underlying Try.underlying47, hv, ← hvs, hst]
set_option maxRecDepth 100000 in
theorem eqStp (s t : Stp) (w : World) : (Op.equalIn 10000 90 (.agg #[.int .i64 s.f, .int .i64 s.l, .int .i64 s.t]) (.agg #[.int .i64 t.f, .int .i64 t.l, .int .i64 t.t])).run Try.prog w = .ok (decide (s = t)) w := by
  have u3 := Try.underlying3
  have a3 := Try.isAgg3
  have z3 := Try.sizeOf3
  have hS : Try.prog.underlying 90 = some (.struct (Try.prog.fieldsOf 90)) := by kernel_rfl
  have hp : Try.prog.stoodInHeld 90 = false := by kernel_rfl
  rw [show (10000 : Nat) = 9999 + 1 from rfl, run_equalIn_agg w 9999 90 _ _ hS hp]
  simp only [Program.fieldsOf, Try.underlying90]
  go_simp
  obtain ⟨f, l, t'⟩ := s
  obtain ⟨f2, l2, t2⟩ := t
  simp only [Stp.mk.injEq]
  by_cases h1 : f = f2 <;> by_cases h2 : l = l2 <;> by_cases h3 : t' = t2 <;> simp [h1, h2, h3]
def CpPost (w : World) (B : Nat) (g : Option Nat) (xs : List Stp) (e : Ending) (w' : World) : Prop := ∃ v', e = .returned v' ∧ w'.ownsRow B 90 3 v' (dd xs).length ((dd xs).flatMap Stp.cells) ∧ w.grownBy w' g ∧ v'.ownBlock = g
theorem grown_drewN (w : World) (q : Nat) (r : Option Nat) : w.grownBy (w.drewN q) r := ⟨rfl, rfl, rfl, Nat.le_refl _, fun _ _ _ => rfl⟩
set_option maxRecDepth 100000 in
set_option maxHeartbeats 4000000 in
theorem Compact2_ (w : World) (B g cap : Nat) (xs : List Stp) (h : SRow w g cap xs) (hB : B ≤ g) (h2 : 2 ≤ xs.length) (hxl : xs.length ≤ 1000000000) :
    Calls Try.prog 99 #[.slice (some ⟨g, 0, none⟩) xs.length cap] w (CpPost w B (some g) xs) := by
  have HS0 := Lib.hid h
  have hcap : xs.length ≤ cap := by obtain ⟨_, _, hx, _⟩ := h; exact hx
  have hcap2 : cap ≤ 9223372036854775807 := by obtain ⟨_, _, _, hx, _⟩ := h; simpa [maxLen] using hx
  have HEND : Hid (∀ wr, SRow wr g cap (dd xs) → w.grownBy wr (some g) → CpPost w B (some g) xs (.returned (.slice (some ⟨g, 0, none⟩) (dd xs).length cap)) wr) := fun wr h1 h2 => ⟨_, rfl, h1.own hB, h2, rfl⟩
  clear h
  go_enter Try.func99, Try.ntmps99
  have q0 : ¬ (xs.length : Int) < 2 := by omega
  go_wp2_with fail
  clear q0
  go_loopw [3] (fun s3 wr => ∃ k : Nat, 1 ≤ k ∧ k ≤ xs.length ∧ s3 = .int .i64 (k : Int) ∧ Hid (SRow wr g cap xs) ∧ Hid (w.grownBy wr (some g)) ∧ Hid (∀ j, j < k → keepS xs j = true)) (fun s3 _ => xs.length - (intOf s3).toNat)
  case atStart => exact ⟨1, Nat.le_refl _, by omega, rfl, HS0.out, World.grownBy.refl _ _, fun j hj => by obtain rfl : j = 0 := (by omega); rfl⟩
  case round =>
    obtain ⟨k, hk1, hk2, rfl, HS, HG, HK⟩ := hrel
    by_cases hkn : k < xs.length
    · have q1 : (k : Int) < (xs.length : Int) := by omega
      obtain ⟨x0, x1, x2, -, -, -⟩ := HS.out.at_ hkn
      obtain ⟨y0, y1, y2, -, -, -⟩ := HS.out.at_ (k := k - 1) (by omega)
      have HKE : Hid (keepS xs k = !decide (xs[k] = xs[k - 1])) := by
        show _ = _
        unfold keepS
        rw [getD_lt hkn, getD_lt (by omega), decide_eq_false (by omega)]
        rfl
      obtain ⟨s, hs⟩ : ∃ s, s = xs[k] := ⟨_, rfl⟩
      obtain ⟨t, ht⟩ : ∃ t, t = xs[k - 1] := ⟨_, rfl⟩
      rw [← hs] at x0 x1 x2 HKE
      rw [← ht] at y0 y1 y2 HKE
      have qe := eqStp s t
      clear hs ht
      by_cases hst : s = t
      · have HKF : Hid (keepS xs k = false) := by show _ = _; rw [HKE.out, hst]; simp
        rw [decide_eq_true hst] at qe
        have HX := Lib.hid hkn
        clear HKE hst
        go_wp2_with fail
        go_quiet (fail)
        have HG2 := Lib.hid (grown_grown HG.out (grown_drewN wr nq (some g)))
        have HS2 : Hid (SRow (wr.drewN nq) g cap xs) := HS.out
        clear x0 x1 x2 y0 y1 y2 qe HS HG
        generalize wr.drewN nq = wq at *
        go_wp2_with fail
        go_loopw [3, 5] (fun s3 s5 wr => ∃ (kk k2 : Nat) (mem : List Stp), 1 ≤ k2 ∧ k + k2 ≤ xs.length ∧ kk < k + k2 ∧ s3 = .int .i64 (kk : Int) ∧ s5 = .int .i64 (k2 : Int) ∧ Hid (SRow wr g cap mem) ∧ Hid (w.grownBy wr (some g)) ∧ Hid (mem.length = xs.length) ∧ Hid (mem.take kk = ddTo xs (k + k2)) ∧ Hid ((ddTo xs (k + k2)).length = kk) ∧ Hid (∀ j, k + k2 - 1 ≤ j → j < xs.length → mem.getD j nostp = xs.getD j nostp)) (fun _ s5 _ => xs.length - k - (intOf s5).toNat)
        case atStart =>
          have hdd : ddTo xs (k + 1) = xs.take k := by
            unfold ddTo
            rw [ddTo_all xs k (by omega) HK.out, if_neg (by rw [HKF.out]; decide), List.append_nil]
          exact ⟨k, 1, xs, Nat.le_refl _, by have := HX.out; omega, by omega, rfl, rfl, HS2.out, HG2.out, rfl, hdd.symm, by show (ddTo xs (k + 1)).length = k; rw [hdd, List.length_take]; omega, fun _ _ _ => rfl⟩
        case round =>
          obtain ⟨kk, k2, mem, h21, hkk2, hkk, rfl, rfl, HM, HGM, HML, HT, HTL, HD⟩ := hrel
          by_cases hlt : k + k2 < xs.length
          · have q2 : (k2 : Int) < (xs.length : Int) - (k : Int) := by omega
            have hml := HML.out
            obtain ⟨x0, x1, x2, -, -, -⟩ := HM.out.at_ (k := k + k2) (by omega)
            obtain ⟨y0, y1, y2, -, -, -⟩ := HM.out.at_ (k := k + k2 - 1) (by omega)
            have e1 : mem[k + k2]'(by omega) = xs[k + k2] := by have := HD.out (k + k2) (by omega) hlt; rwa [getD_lt (by omega), getD_lt hlt] at this
            have e2 : mem[k + k2 - 1]'(by omega) = xs[k + k2 - 1] := by have := HD.out (k + k2 - 1) (by omega) (by omega); rwa [getD_lt (by omega), getD_lt (by omega)] at this
            have HKE2 : Hid (keepS xs (k + k2) = !decide (xs[k + k2] = xs[k + k2 - 1])) := by
              show _ = _
              unfold keepS
              rw [getD_lt hlt, getD_lt (by omega), decide_eq_false (by omega)]
              rfl
            have HKS : Hid (ddTo xs (k + (k2 + 1)) = ddTo xs (k + k2) ++ if keepS xs (k + k2) = true then [xs[k + k2]] else []) := by
              show _ = _
              rw [show k + (k2 + 1) = k + k2 + 1 by omega, ddTo, getD_lt hlt]
            rw [e1, show (k + k2) * 3 = k * 3 + k2 * 3 by omega] at x0 x1 x2
            rw [e2, show (k + k2 - 1) * 3 = k * 3 + (k2 - 1) * 3 by omega] at y0 y1 y2
            obtain ⟨s2, hs⟩ : ∃ s, s = xs[k + k2] := ⟨_, rfl⟩
            obtain ⟨t2, ht⟩ : ∃ t, t = xs[k + k2 - 1] := ⟨_, rfl⟩
            rw [← hs] at x0 x1 x2 HKE2 HKS
            rw [← ht] at y0 y1 y2 HKE2
            have qe := eqStp s2 t2
            have HSS := Lib.hid hs
            have HLT := Lib.hid hlt
            clear hs ht e1 e2 hml
            by_cases hst : s2 = t2
            · have HKN : Hid (ddTo xs (k + (k2 + 1)) = ddTo xs (k + k2)) := by show _ = _; rw [HKS.out, HKE2.out, hst]; simp
              rw [decide_eq_true hst] at qe
              clear HKS HKE2 hst
              go_wp2_with fail
              go_quiet (fail)
              have HG3 := Lib.hid (grown_grown HGM.out (grown_drewN wr nq (some g)))
              have HM3 : Hid (SRow (wr.drewN nq) g cap mem) := HM.out
              clear x0 x1 x2 y0 y1 y2 qe HM HGM
              generalize wr.drewN nq = wz at *
              go_wp2_with fail
              go_roundw
              case rel => exact ⟨kk, k2 + 1, mem, by omega, by have := HLT.out; omega, by omega, rfl, by go_num, HM3.out, HG3.out, HML.out, by show _ = _; rw [HKN.out]; exact HT.out, by show List.length _ = _; rw [HKN.out]; exact HTL.out, fun j h1 h2 => HD.out j (by omega) h2⟩
              case measure => simp [intOf]; have := HLT.out; omega
            · have HKN : Hid (ddTo xs (k + (k2 + 1)) = ddTo xs (k + k2) ++ [s2]) := by show _ = _; rw [HKS.out, HKE2.out, decide_eq_false hst]; rfl
              rw [decide_eq_false hst] at qe
              have hkm : kk < mem.length := by have := HML.out; omega
              clear HKS HKE2 hst
              go_wp2_with fail
              go_quiet (fail)
              have HG3 := Lib.hid (grown_grown HGM.out (grown_drewN wr nq (some g)))
              have HM3 : Hid (SRow (wr.drewN nq) g cap mem) := HM.out
              obtain ⟨-, -, -, z0, z1, z2⟩ := HM3.out.at_ hkm
              obtain ⟨c0, c1, c2, -, -, -⟩ := HM3.out.at_ hkm
              have HM4 := Lib.hid (HM3.out.put hkm s2)
              have HG4 := Lib.hid (grown_grown HG3.out (grown_grown (grown_grown (grown_set _ g (kk * 3) (.int .i64 s2.f)) (grown_set _ g (kk * 3 + 1) (.int .i64 s2.l))) (grown_set _ g (kk * 3 + 2) (.int .i64 s2.t))))
              have x0' : (wr.drewN nq).cell? ⟨g, k * 3 + k2 * 3, none⟩ = some (.int .i64 s2.f) := x0
              have x1' : (wr.drewN nq).cell? ⟨g, k * 3 + k2 * 3 + 1, none⟩ = some (.int .i64 s2.l) := x1
              have x2' : (wr.drewN nq).cell? ⟨g, k * 3 + k2 * 3 + 2, none⟩ = some (.int .i64 s2.t) := x2
              have hkx : (kk : Int) < (xs.length : Int) := by have := HLT.out; omega
              have HKM := Lib.hid hkm
              generalize mem[kk] = old at c0 c1 c2
              clear x0 x1 x2 y0 y1 y2 qe HM HGM hkm
              generalize wr.drewN nq = wz at *
              go_wp2_with fail
              go_roundw
              case rel =>
                refine ⟨kk + 1, k2 + 1, mem.set kk s2, by omega, by have := HLT.out; omega, by omega, by go_num, by go_num, HM4.out, HG4.out, by show List.length _ = _; rw [List.length_set]; exact HML.out, ?_, by show List.length _ = _; rw [HKN.out, List.length_append, HTL.out]; rfl, fun j h1 h2 => ?_⟩
                · show List.take _ _ = _
                  rw [HKN.out, ← HT.out, List.take_succ_eq_append_getElem (by rw [List.length_set]; exact HKM.out), List.getElem_set_self, List.take_set_of_le (Nat.le_refl _)]
                · have := HD.out j (by omega) h2
                  rw [← this, List.getD_eq_getElem?_getD, List.getD_eq_getElem?_getD, List.getElem?_set_ne (by omega)]
              case measure => simp [intOf]; have := HLT.out; omega
          · have hend : k + k2 = xs.length := by omega
            have q2 : ¬ (k2 : Int) < (xs.length : Int) - (k : Int) := by omega
            have HT2 : Hid (mem.take kk = dd xs) := by have := HT.out; rwa [hend] at this
            have HTL2 : Hid ((dd xs).length = kk) := by have := HTL.out; rwa [hend] at this
            have hkx : (kk : Int) < (xs.length : Int) := by omega
            have hkx2 : kk < xs.length := by omega
            obtain ⟨w9, hcl, hs9, hg9⟩ := run_clearS HM.out HML.out hkx2 0
            rw [HT2.out] at hs9
            have HP := Lib.hid (HEND.out _ hs9 (grown_grown HGM.out hg9))
            rw [HTL2.out] at HP
            clear hs9 hg9 HT HTL HD hend HK
            go_wp2_with fail
            go_ret
            exact HP.out
      · have HKT : Hid (keepS xs k = true) := by show _ = _; rw [HKE.out, decide_eq_false hst]; rfl
        rw [decide_eq_false hst] at qe
        have HX := Lib.hid hkn
        clear HKE hst
        go_wp2_with fail
        go_quiet (fail)
        have HG2 := Lib.hid (grown_grown HG.out (grown_drewN wr nq (some g)))
        have HS2 : Hid (SRow (wr.drewN nq) g cap xs) := HS.out
        clear x0 x1 x2 y0 y1 y2 qe HS HG
        generalize wr.drewN nq = wq at *
        go_wp2_with fail
        go_roundw
        case rel =>
          refine ⟨k + 1, by omega, HX.out, by go_num, HS2.out, HG2.out, fun j hj => ?_⟩
          rcases Nat.lt_or_ge j k with h1 | h1
          · exact HK.out j h1
          · obtain rfl : j = k := by omega
            exact HKT.out
        case measure => simp [intOf]; have := HX.out; omega
    · have q1 : ¬ (k : Int) < (xs.length : Int) := by omega
      obtain rfl : k = xs.length := by omega
      have hall : dd xs = xs := by unfold dd; rw [ddTo_all xs _ (Nat.le_refl _) HK.out, List.take_length]
      have HP : Hid (CpPost w B (some g) xs (.returned (.slice (some ⟨g, 0, none⟩) xs.length cap)) wr) := by
        have := HEND.out wr (by rw [hall]; exact HS.out) HG.out
        rwa [hall] at this
      clear hall
      go_wp2_with fail
      go_ret
      exact HP.out
end Go.Proofs.Ytoglgeaiiipchaa

namespace Go.Proofs.Ytoglgeaiiipchaa
open Go Go.RowKit Go.Sort

theorem dd_few (xs : List Stp) (h : xs.length < 2) : dd xs = xs := by
  unfold dd
  rw [ddTo_all xs xs.length (Nat.le_refl _) (fun j hj => by
    have : j = 0 := by omega
    subst this
    rfl), List.take_length]
set_option maxRecDepth 100000 in
set_option maxHeartbeats 4000000 in
theorem CompactS_ (w : World) (B : Nat) (v : Value) (xs : List Stp) (h : w.ownsRow B 90 3 v xs.length (xs.flatMap Stp.cells)) (hxl : xs.length ≤ 1000000000) :
    Calls Try.prog 99 #[v] w (CpPost w B v.ownBlock xs) := by
  by_cases h2 : xs.length < 2
  · obtain ⟨A, c, rfl, hc1, hc2, _⟩ := own_form h
    have HP : Hid (CpPost w B (Value.slice A xs.length c).ownBlock xs (.returned (.slice A xs.length c)) w) := ⟨_, rfl, by rw [dd_few xs h2]; exact h, World.grownBy.refl _ _, rfl⟩
    have q1 : (xs.length : Int) < 2 := by omega
    clear h
    go_enter Try.func99, Try.ntmps99
    go_wp2_with fail
    go_ret
    exact HP.out
  · rcases h.2 with ⟨_, hn⟩ | ⟨g, cap, cur, rfl, hg, hh, hr⟩
    · omega
    · obtain ⟨_, hB, hS⟩ := SRow.of h
      exact Compact2_ w B g cap xs hS hB (by omega) hxl
end Go.Proofs.Ytoglgeaiiipchaa
