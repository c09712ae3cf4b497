/- Plain: a loop that tells two small automata apart need not be long: tokens that go down at good states. -/
import Derived.Test.YtoglgeaiiipchaaLISM5
set_option linter.unusedSimpArgs false
set_option linter.unusedVariables false
namespace Go.Proofs.Ytoglgeaiiipchaa

/-- even, if it is odd -/
def drp (c : Nat) : Nat := if c % 2 = 1 then c - 1 else c
theorem drp_le (c : Nat) : drp c ≤ c := by unfold drp; split <;> omega
theorem drp_drp (c : Nat) : drp (drp c) = drp c := by
  unfold drp
  by_cases h : c % 2 = 1
  · rw [if_pos h, if_neg (by omega)]
  · rw [if_neg h, if_neg h]
theorem drp_mono {c d : Nat} (h : c ≤ d) : drp c ≤ drp d := by unfold drp; split <;> split <;> omega
/-- what is handed on along one step -/
def tk1 (b : Au) (c : Int) (τ : List Nat) (i k : Nat) : Nat := if (⟨i, c, k⟩ : Stp) ∈ b.ss then (if b.gs.getD k false = true then drp (τ.getD i 6) else τ.getD i 6) else 6
def tkS (b : Au) (c : Int) (τ : List Nat) : List Nat := (List.range 3).map fun k => min (min (tk1 b c τ 0 k) (tk1 b c τ 1 k)) (tk1 b c τ 2 k)
def tkW (b : Au) (τ : List Nat) (w : List Int) : List Nat := w.foldl (fun τ c => tkS b c τ) τ
def TkOK (τ : List Nat) : Prop := τ.length = 3 ∧ ∀ k, k < 3 → τ.getD k 6 ≤ 6
theorem tkS_get {b : Au} {c : Int} {τ : List Nat} {k : Nat} (hk : k < 3) : (tkS b c τ).getD k 6 = min (min (tk1 b c τ 0 k) (tk1 b c τ 1 k)) (tk1 b c τ 2 k) := by
  unfold tkS
  rw [List.getD_eq_getElem?_getD, List.getElem?_map, List.getElem?_range hk]; rfl
theorem tk1_le {b : Au} {c : Int} {τ : List Nat} (h : TkOK τ) {i k : Nat} (hi : i < 3) : tk1 b c τ i k ≤ 6 := by
  unfold tk1
  have := h.2 i hi
  have := drp_le (τ.getD i 6)
  split
  · split <;> omega
  · omega
theorem tkS_ok {b : Au} {c : Int} {τ : List Nat} (h : TkOK τ) : TkOK (tkS b c τ) := ⟨by simp [tkS], fun k hk => by
  rw [tkS_get hk]
  have := tk1_le (b := b) (c := c) h (i := 0) (k := k) (by omega)
  omega⟩
theorem tkW_snoc (b : Au) (τ : List Nat) (w : List Int) (c : Int) : tkW b τ (w ++ [c]) = tkS b c (tkW b τ w) := by simp [tkW]
theorem tkW_append (b : Au) (τ : List Nat) (v w : List Int) : tkW b τ (v ++ w) = tkW b (tkW b τ v) w := by simp [tkW]
theorem tkW_ok {b : Au} {τ : List Nat} (h : TkOK τ) : ∀ (n : Nat) (w : List Int), w.length = n → TkOK (tkW b τ w)
  | 0, w, hw => by
    obtain rfl := List.eq_nil_of_length_eq_zero hw
    exact h
  | n + 1, w, hw => by
    rcases snoc_cases w with rfl | ⟨w', c, rfl⟩
    · simp at hw
    · rw [tkW_snoc]
      exact tkS_ok (tkW_ok h n w' (by simpa using hw))
theorem good_nat {b : Au} {k : Nat} : b.good (k : Int) ↔ b.gs.getD k false = true := by
  unfold Au.good
  rw [Int.toNat_natCast]
  exact ⟨fun h => h.2, fun h => ⟨by omega, h⟩⟩
/-- along a path no more is handed on -/
theorem tk_upper {b : Au} (hf : AuFit b) (h3 : b.st ≤ 3) {τ : List Nat} {g : Bool} {i : Nat} {y : Int} {w : List Int} (hi : i < 3) (h : PathG b g i w y) : (tkW b τ w).getD y.toNat 6 ≤ if g = true then drp (τ.getD i 6) else τ.getD i 6 := by
  generalize hx : (i : Int) = x at h
  induction h with
  | nil x => subst hx; simp [tkW]
  | @go g x y z c w h hs ih =>
    have ih2 := ih hx
    clear ih
    subst hx
    obtain ⟨k, hk, rfl⟩ := small_state hf h3 h hi
    obtain ⟨j, hj, rfl⟩ := small_state hf h3 (PathG.go h hs) hi
    rw [tkW_snoc, Int.toNat_natCast, tkS_get hj]
    have h1 : min (min (tk1 b c (tkW b τ w) 0 j) (tk1 b c (tkW b τ w) 1 j)) (tk1 b c (tkW b τ w) 2 j) ≤ tk1 b c (tkW b τ w) k j := by
      have : k = 0 ∨ k = 1 ∨ k = 2 := by omega
      rcases this with rfl | rfl | rfl <;> omega
    have h2 : tk1 b c (tkW b τ w) k j ≤ (tkW b τ w).getD k 6 := by
      unfold tk1
      rw [if_pos hs]
      have := drp_le ((tkW b τ w).getD k 6)
      split <;> omega
    rw [Int.toNat_natCast] at ih2
    omega
  | @hit g x y z c w h hs hg ih =>
    have ih2 := ih hx
    clear ih
    subst hx
    obtain ⟨k, hk, rfl⟩ := small_state hf h3 h hi
    obtain ⟨j, hj, rfl⟩ := small_state hf h3 (PathG.go h hs) hi
    rw [tkW_snoc, Int.toNat_natCast, tkS_get hj, if_pos rfl]
    have h1 : min (min (tk1 b c (tkW b τ w) 0 j) (tk1 b c (tkW b τ w) 1 j)) (tk1 b c (tkW b τ w) 2 j) ≤ tk1 b c (tkW b τ w) k j := by
      have : k = 0 ∨ k = 1 ∨ k = 2 := by omega
      rcases this with rfl | rfl | rfl <;> omega
    have h2 : tk1 b c (tkW b τ w) k j = drp ((tkW b τ w).getD k 6) := by
      unfold tk1
      rw [if_pos hs, if_pos (good_nat.1 hg)]
    rw [Int.toNat_natCast] at ih2
    have h4 : drp ((tkW b τ w).getD k 6) ≤ drp (τ.getD i 6) := by
      have := drp_mono ih2
      split at this
      · rwa [drp_drp] at this
      · exact this
    omega
/-- what stands there came along a path -/
theorem tk_comes {b : Au} {τ : List Nat} (hτ : TkOK τ) : ∀ (n : Nat) (w : List Int), w.length = n → ∀ k : Nat, k < 3 → (tkW b τ w).getD k 6 = 6 ∨ ∃ (i : Nat) (g : Bool), i < 3 ∧ PathG b g i w k ∧ (tkW b τ w).getD k 6 = if g = true then drp (τ.getD i 6) else τ.getD i 6
  | 0, w, hw, k, hk => by
    obtain rfl := List.eq_nil_of_length_eq_zero hw
    exact .inr ⟨k, false, hk, .nil _, by simp [tkW]⟩
  | n + 1, w, hw, k, hk => by
    rcases snoc_cases w with rfl | ⟨w', c, rfl⟩
    · simp at hw
    · have hw' : w'.length = n := by simpa using hw
      have ok := tkW_ok (b := b) hτ n w' hw'
      rw [tkW_snoc, tkS_get hk]
      obtain ⟨j, hj, e⟩ : ∃ j, j < 3 ∧ min (min (tk1 b c (tkW b τ w') 0 k) (tk1 b c (tkW b τ w') 1 k)) (tk1 b c (tkW b τ w') 2 k) = tk1 b c (tkW b τ w') j k := by
        have : min (min (tk1 b c (tkW b τ w') 0 k) (tk1 b c (tkW b τ w') 1 k)) (tk1 b c (tkW b τ w') 2 k) = tk1 b c (tkW b τ w') 0 k ∨ min (min (tk1 b c (tkW b τ w') 0 k) (tk1 b c (tkW b τ w') 1 k)) (tk1 b c (tkW b τ w') 2 k) = tk1 b c (tkW b τ w') 1 k ∨ min (min (tk1 b c (tkW b τ w') 0 k) (tk1 b c (tkW b τ w') 1 k)) (tk1 b c (tkW b τ w') 2 k) = tk1 b c (tkW b τ w') 2 k := by omega
        rcases this with h | h | h
        · exact ⟨0, by omega, h⟩
        · exact ⟨1, by omega, h⟩
        · exact ⟨2, by omega, h⟩
      rw [e]
      unfold tk1
      by_cases hs : (⟨j, c, k⟩ : Stp) ∈ b.ss
      · rw [if_pos hs]
        rcases tk_comes hτ n w' hw' j hj with h6 | ⟨i, g, hi, hp, he⟩
        · left
          rw [h6]
          split <;> rfl
        · right
          by_cases hg : b.gs.getD k false = true
          · refine ⟨i, true, hi, .hit hp hs (good_nat.2 hg), ?_⟩
            rw [if_pos hg, if_pos rfl, he]
            split
            · exact drp_drp _
            · rfl
          · refine ⟨i, g, hi, .go hp hs, ?_⟩
            rw [if_neg hg, he]
      · left; rw [if_neg hs]
/-- tokens that do not go down over a loop: the loop does not live -/
structure Calm (b : Au) (τ : List Nat) (v : List Int) : Prop where
  ok : TkOK τ
  odd : ∀ k, k < 3 → τ.getD k 6 = 6 ∨ τ.getD k 6 % 2 = 1
  up : ∀ k, k < 3 → τ.getD k 6 ≤ (tkW b τ v).getD k 6
theorem calm_times {b : Au} (hf : AuFit b) (h3 : b.st ≤ 3) {τ : List Nat} {v : List Int} (hc : Calm b τ v) : ∀ (m : Nat) {g : Bool} {i k : Nat}, i < 3 → k < 3 → PathG b g i (times v m) k → τ.getD i 6 ≤ 5 → τ.getD k 6 ≤ τ.getD i 6 ∧ (g = true → τ.getD k 6 < τ.getD i 6)
  | 0, g, i, k, hi, hk, h, h5 => by
    generalize hn : times v 0 = n at h
    generalize hkk : (k : Int) = kk at h
    cases h with
    | nil => obtain rfl : k = i := by omega
             exact ⟨Nat.le_refl _, fun h => by cases h⟩
    | go => simp [times] at hn
    | hit => simp [times] at hn
  | m + 1, g, i, k, hi, hk, h, h5 => by
    rw [times] at h
    obtain ⟨g1, g2, y, p1, p2, hg⟩ := h.split
    obtain ⟨j, hj, rfl⟩ := small_state hf h3 p1 hi
    obtain ⟨e1, e2⟩ := calm_times hf h3 hc m hi hj p1 h5
    have e3 := tk_upper (τ := τ) hf h3 hj p2
    rw [Int.toNat_natCast] at e3
    have e4 := hc.up k hk
    have e5 := drp_le (τ.getD j 6)
    have e6 : g2 = true → τ.getD k 6 < τ.getD j 6 := fun h => by
      rw [if_pos h] at e3
      rcases hc.odd j hj with h6 | h6
      · omega
      · unfold drp at e3
        rw [if_pos h6] at e3
        omega
    have e7 : τ.getD k 6 ≤ τ.getD j 6 := by split at e3 <;> omega
    refine ⟨by omega, fun h => ?_⟩
    have := hg h
    rw [Bool.or_eq_true] at this
    rcases this with h | h
    · have := e2 h; omega
    · have := e6 h; omega
theorem calm_not {b : Au} (ho : AuOK b) (hs : ssSorted b.ss) (h3 : b.st ≤ 3) {τ : List Nat} {l : La} (hp : 0 < l.l.length) (hc : Calm b τ l.l) (hh : ∀ k : Nat, k < 3 → HeadAt b l.h k → τ.getD k 6 ≤ 5) : ¬ TakesU b l.at := by
  intro ht
  obtain ⟨f, hf, j, q, m, hm, h1, h2⟩ := (takes_paths ho hp).1 ht
  have fit := ho.fit hs
  have hfr := ho.fr f hf
  obtain ⟨g1, g2, y, p1, p2, _⟩ := h1.split
  obtain ⟨f', rfl⟩ : ∃ f' : Nat, (f' : Int) = f := ⟨f.toNat, by omega⟩
  obtain ⟨i, hi, rfl⟩ := small_state fit h3 p1 (by omega)
  obtain ⟨k, hk, rfl⟩ := small_state fit h3 p2 hi
  have e1 := hh i hi ⟨_, hf, p1.forget⟩
  have e2 := (calm_times fit h3 hc j hi hk p2 e1).1
  have e3 := (calm_times fit h3 hc m hk hk h2 (by omega)).2 rfl
  omega
/-- a run's part as a path -/
theorem run_path {a : Au} {u : Nat → Int} {r : Nat → Int} {n : Nat} (hs : ∀ k, k < n → (⟨r k, u k, r (k + 1)⟩ : Stp) ∈ a.ss) {s d : Nat} (hd : s + d ≤ n) : PathG a false (r s) (seg u s d) (r (s + d)) := by
  have := (Way.part (a := a) (u := u) (r := r) (i := s) (d := d) (fun k a1 a2 => hs k (by omega))).pathG
  rwa [show s + d - s = d by omega] at this
theorem run_hit {a : Au} {u : Nat → Int} {r : Nat → Int} {n : Nat} (hs : ∀ k, k < n → (⟨r k, u k, r (k + 1)⟩ : Stp) ∈ a.ss) {s d k : Nat} (hd : s + d ≤ n) (h1 : s < k) (h2 : k ≤ s + d) (hg : a.good (r k)) : PathG a true (r s) (seg u s d) (r (s + d)) := by
  have p1 := run_path hs (s := s) (d := k - s - 1) (by omega)
  rw [show s + (k - s - 1) = k - 1 by omega] at p1
  have hstep := hs (k - 1) (by omega)
  rw [show k - 1 + 1 = k by omega] at hstep
  have p2 := p1.hit hstep hg
  have p3 := run_path hs (s := k) (d := s + d - k) (by omega)
  rw [show k + (s + d - k) = s + d by omega] at p3
  have := p2.trans p3
  rw [show seg u s d = seg u s (k - s - 1) ++ [u (k - 1)] ++ seg u k (s + d - k) by
    have e1 := seg_add u s (k - s - 1 + 1) (s + d - k)
    rw [seg_succ, show k - s - 1 + 1 + (s + d - k) = d by omega, show s + (k - s - 1 + 1) = k by omega, show s + (k - s - 1) = k - 1 by omega] at e1
    exact e1]
  exact this
theorem seg_word (w : List Int) : seg (fun k => w.getD k 0) 0 w.length = w := ext_getD (seg_len _ _ _) fun k hk => by
  rw [seg_len] at hk
  rw [seg_getD hk, Nat.zero_add]
theorem seg_sub {w : List Int} {s d : Nat} (h : s + d ≤ w.length) : ∀ c ∈ seg (fun k => w.getD k 0) s d, c ∈ w := by
  intro c hc
  unfold seg at hc
  obtain ⟨k, hk, rfl⟩ := List.mem_map.1 hc
  have := List.mem_range.1 hk
  show w.getD (s + k) 0 ∈ w
  rw [getD_lt (by omega)]
  exact List.getElem_mem _
open Classical in
/-- equal places of a long loop are cut out -/
theorem shorten {a b : Au} (hf : AuFit a) (h3 : a.st ≤ 3) {τ : List Nat} (hτ : TkOK τ) {q : Nat} {q' : Int} (hq : q < 3) : ∀ (n : Nat) (v : List Int), v.length = n → PathG a true q v q' → ∃ v' : List Int, v'.length ≤ 2058 ∧ PathG a true q v' q' ∧ tkW b τ v' = tkW b τ v ∧ ∀ c ∈ v', c ∈ v := by
  intro n
  induction n using Nat.strongRecOn with
  | _ n ih =>
    intro v hn h
    by_cases hlen : v.length ≤ 2058
    · exact ⟨v, hlen, h, rfl, fun c hc => hc⟩
    obtain ⟨r, r0, rn, rs, rg⟩ := (h.way (u := fun k => v.getD k 0) (i := 0) (fun k _ => by rw [Nat.zero_add])).run
    obtain ⟨k0, k1, k2, kg⟩ := rg rfl
    rw [Nat.zero_add] at rn k2
    have rs' : ∀ k, k < v.length → (⟨r k, v.getD k 0, r (k + 1)⟩ : Stp) ∈ a.ss := fun k hk => rs k (Nat.zero_le _) (by omega)
    have rr : ∀ k, k ≤ v.length → 0 ≤ r k ∧ r k < 3 := by
      intro k hk
      cases k with
      | zero => rw [r0]; omega
      | succ k => have := (hf.sr _ (rs' k (by omega))).2.1; simp only at this; omega
    have ok : ∀ t, TkOK (tkW b τ (seg (fun k => v.getD k 0) 0 t)) := fun t => tkW_ok hτ _ _ rfl
    obtain ⟨s, t, hst, ht, he⟩ := pigeon 2058 (fun t => ((tkW b τ (seg (fun k => v.getD k 0) 0 t)).getD 0 6 + 7 * (tkW b τ (seg (fun k => v.getD k 0) 0 t)).getD 1 6 + 49 * (tkW b τ (seg (fun k => v.getD k 0) 0 t)).getD 2 6) + 343 * ((r t).toNat + 3 * (if k0 ≤ t then 1 else 0))) (fun t ht => by
      have o := ok t
      have o0 := o.2 0 (by omega)
      have o1 := o.2 1 (by omega)
      have o2 := o.2 2 (by omega)
      have := rr t (by omega)
      split <;> omega)
    have os := ok s
    have ot := ok t
    have rs1 := rr s (by omega)
    have rt1 := rr t (by omega)
    have e1 : tkW b τ (seg (fun k => v.getD k 0) 0 s) = tkW b τ (seg (fun k => v.getD k 0) 0 t) ∧ r s = r t ∧ (k0 ≤ s ↔ k0 ≤ t) := by
      generalize tkW b τ (seg (fun k => v.getD k 0) 0 s) = A at *
      generalize tkW b τ (seg (fun k => v.getD k 0) 0 t) = B at *
      have a0 := os.2 0 (by omega)
      have a1 := os.2 1 (by omega)
      have a2 := os.2 2 (by omega)
      have b0 := ot.2 0 (by omega)
      have b1 := ot.2 1 (by omega)
      have b2 := ot.2 2 (by omega)
      have hh : A.getD 0 6 = B.getD 0 6 ∧ A.getD 1 6 = B.getD 1 6 ∧ A.getD 2 6 = B.getD 2 6 ∧ (r s).toNat = (r t).toNat ∧ (k0 ≤ s ↔ k0 ≤ t) := by
        generalize A.getD 0 6 = x0 at *
        generalize A.getD 1 6 = x1 at *
        generalize A.getD 2 6 = x2 at *
        generalize B.getD 0 6 = y0 at *
        generalize B.getD 1 6 = y1 at *
        generalize B.getD 2 6 = y2 at *
        split at he <;> split at he <;> omega
      refine ⟨?_, by omega, hh.2.2.2.2⟩
      refine List.ext_getElem (by rw [os.1, ot.1]) fun i i1 i2 => ?_
      have i3 : i < 3 := by rw [os.1] at i1; exact i1
      have : A.getD i 6 = B.getD i 6 := by
        have : i = 0 ∨ i = 1 ∨ i = 2 := by omega
        rcases this with rfl | rfl | rfl
        · exact hh.1
        · exact hh.2.1
        · exact hh.2.2.1
      rwa [getD_lt i1, getD_lt i2] at this
    obtain ⟨e1, e2, e3⟩ := e1
    have hv : v = seg (fun k => v.getD k 0) 0 t ++ seg (fun k => v.getD k 0) t (v.length - t) := by
      have := seg_add (fun k => v.getD k 0) 0 t (v.length - t)
      rw [Nat.zero_add, show t + (v.length - t) = v.length by omega, seg_word] at this
      exact this
    have p1 := run_path rs' (s := 0) (d := s) (by omega)
    have p2 := run_path rs' (s := t) (d := v.length - t) (by omega)
    rw [show t + (v.length - t) = v.length by omega, rn] at p2
    rw [Nat.zero_add, r0, e2] at p1
    have hp : PathG a true q (seg (fun k => v.getD k 0) 0 s ++ seg (fun k => v.getD k 0) t (v.length - t)) q' := by
      by_cases hk : k0 ≤ s
      · have := run_hit rs' (s := 0) (d := s) (k := k0) (by omega) k1 (by omega) kg
        rw [Nat.zero_add, r0, e2] at this
        exact this.trans p2
      · have hk' : ¬ k0 ≤ t := fun h => hk (e3.2 h)
        have := run_hit rs' (s := t) (d := v.length - t) (k := k0) (by omega) (by omega) (by omega) kg
        rw [show t + (v.length - t) = v.length by omega, rn] at this
        have := p1.trans this
        simpa using this
    obtain ⟨v', c1, c2, c3, c4⟩ := ih (s + (v.length - t)) (by omega) _ (by rw [List.length_append, seg_len, seg_len]) hp
    refine ⟨v', c1, c2, ?_, fun c hc => ?_⟩
    · rw [c3, tkW_append, e1, ← tkW_append, ← hv]
    · rcases List.mem_append.1 (c4 c hc) with h | h
      · exact seg_sub (by omega) c h
      · exact seg_sub (by omega) c h
open Classical in
/-- **two small automata that a word tells apart are told apart by one with a short loop** -/
theorem short_apart {a b : Au} (oa : AuOK a) (sa : ssSorted a.ss) (ob : AuOK b) (sb : ssSorted b.ss) (a3 : a.st ≤ 3) (b3 : b.st ≤ 3) {l : La} (hp : 0 < l.l.length) (ha : TakesU a l.at) (hb : ¬ TakesU b l.at) :
    ∃ l' : La, 0 < l'.l.length ∧ l'.l.length ≤ 2058 ∧ TakesU a l'.at ∧ ¬ TakesU b l'.at ∧ (∀ c ∈ l'.h, c ∈ l.h ∨ c ∈ l.l) ∧ ∀ c ∈ l'.l, c ∈ l.l := by
  have fa := oa.fit sa
  have fb := ob.fit sb
  obtain ⟨f, hf, j, q, m, hm, h1, h2⟩ := (takes_paths oa hp).1 ha
  have hfr := oa.fr f hf
  obtain ⟨f', rfl⟩ : ∃ f' : Nat, (f' : Int) = f := ⟨f.toNat, by omega⟩
  obtain ⟨q, hq, rfl⟩ := small_state fa a3 h1 (by omega)
  -- b's states behind so many loops, and more
  obtain ⟨T, hT⟩ : ∃ T : Nat → Prop, ∀ i, T i ↔ ∃ j', j ≤ j' ∧ HeadAt b (l.h ++ times l.l j') i := ⟨fun i => ∃ j', j ≤ j' ∧ HeadAt b (l.h ++ times l.l j') i, fun i => Iff.rfl⟩
  obtain ⟨D, hD⟩ : ∃ D : Nat → Nat → Prop, ∀ i k, D i k ↔ ∃ y, 0 < y ∧ PathG b true (i : Nat) (times l.l y) (k : Nat) := ⟨fun i k => ∃ y, 0 < y ∧ PathG b true (i : Nat) (times l.l y) (k : Nat), fun i k => Iff.rfl⟩
  have irr : ∀ i, T i → ¬ D i i := by
    intro i ht hd
    obtain ⟨j', _, f2, hf2, p⟩ := (hT i).1 ht
    obtain ⟨y, hy, p2⟩ := (hD i i).1 hd
    exact hb ((takes_paths ob hp).2 ⟨f2, hf2, j', i, y, hy, p, p2⟩)
  obtain ⟨ρ, hρ⟩ : ∃ ρ : Nat → Nat, ∀ i, ρ i = (if D i 0 then 1 else 0) + (if D i 1 then 1 else 0) + (if D i 2 then 1 else 0) := ⟨fun i => (if D i 0 then 1 else 0) + (if D i 1 then 1 else 0) + (if D i 2 then 1 else 0), fun i => rfl⟩
  have b3' : ∀ i, i < 3 → i = 0 ∨ i = 1 ∨ i = 2 := fun i h => by omega
  have ρ2 : ∀ i, i < 3 → T i → ρ i ≤ 2 := by
    intro i hi ht
    have := irr i ht
    rw [hρ]
    rcases b3' i hi with rfl | rfl | rfl
    · rw [if_neg this]; split <;> split <;> omega
    · rw [if_neg this]; split <;> split <;> omega
    · rw [if_neg this]; split <;> split <;> omega
  have sub : ∀ i k, (∀ x, D k x → D i x) → ρ k ≤ ρ i := by
    intro i k h
    rw [hρ, hρ]
    have h0 := h 0; have h1 := h 1; have h2 := h 2
    by_cases c0 : D k 0 <;> by_cases c1 : D k 1 <;> by_cases c2 : D k 2 <;> simp only [c0, c1, c2, h0, h1, h2, if_true, if_false, forall_const] <;> (repeat' split) <;> omega
  have subs : ∀ i k, k < 3 → (∀ x, D k x → D i x) → D i k → ¬ D k k → ρ k < ρ i := by
    intro i k hk h hik hkk
    rw [hρ, hρ]
    have h0 := h 0; have h1 := h 1; have h2 := h 2
    rcases b3' k hk with rfl | rfl | rfl
    · rw [if_neg hkk, if_pos hik]
      by_cases c1 : D 0 1 <;> by_cases c2 : D 0 2 <;> simp only [c1, c2, h1, h2, if_true, if_false, forall_const] <;> (repeat' split) <;> omega
    · rw [if_neg hkk, if_pos hik]
      by_cases c1 : D 1 0 <;> by_cases c2 : D 1 2 <;> simp only [c1, c2, h0, h2, if_true, if_false, forall_const] <;> (repeat' split) <;> omega
    · rw [if_neg hkk, if_pos hik]
      by_cases c1 : D 2 0 <;> by_cases c2 : D 2 1 <;> simp only [c1, c2, h0, h1, if_true, if_false, forall_const] <;> (repeat' split) <;> omega
  obtain ⟨τ, hτ⟩ : ∃ τ : List Nat, τ = (List.range 3).map fun i => if T i then 2 * ρ i + 1 else 6 := ⟨_, rfl⟩
  have tg : ∀ i, i < 3 → τ.getD i 6 = if T i then 2 * ρ i + 1 else 6 := fun i hi => by
    rw [hτ, List.getD_eq_getElem?_getD, List.getElem?_map, List.getElem?_range hi]; rfl
  have τok : TkOK τ := ⟨by rw [hτ]; simp, fun k hk => by
    rw [tg k hk]
    split
    · rename_i h; have := ρ2 k hk h; omega
    · omega⟩
  have step : ∀ {g : Bool} {i k : Nat}, T i → PathG b g (i : Nat) (times l.l m) (k : Nat) → T k ∧ (∀ x, D k x → D i x) ∧ (g = true → D i k) := by
    intro g i k hi p
    refine ⟨?_, fun x hx => ?_, fun hg => ?_⟩
    · obtain ⟨j', hj', f2, hf2, p2⟩ := (hT i).1 hi
      refine (hT k).2 ⟨j' + m, by omega, f2, hf2, ?_⟩
      rw [times_add, ← List.append_assoc]
      exact p2.trans p.forget
    · obtain ⟨y, hy, p2⟩ := (hD k x).1 hx
      refine (hD i x).2 ⟨m + y, by omega, ?_⟩
      rw [times_add]
      have := p.forget.trans p2
      simpa using this
    · subst hg
      exact (hD i k).2 ⟨m, hm, p⟩
  have calm : Calm b τ (times l.l m) := by
    refine ⟨τok, fun k hk => ?_, fun k hk => ?_⟩
    · rw [tg k hk]
      split
      · right; omega
      · left; rfl
    · rcases tk_comes τok _ (times l.l m) rfl k hk with h6 | ⟨i, g, hi, p, he⟩
      · rw [h6]; exact τok.2 k hk
      · rw [he, tg i hi]
        by_cases hTi : T i
        · obtain ⟨s1, s2, s3⟩ := step hTi p
          rw [if_pos hTi, tg k hk, if_pos s1]
          cases g with
          | false => have := sub i k s2; simp only [Bool.false_eq_true, if_false]; omega
          | true =>
            have := subs i k hk s2 (s3 rfl) (irr k s1)
            rw [if_pos rfl]
            unfold drp
            rw [if_pos (by omega)]
            omega
        · rw [if_neg hTi]
          have := τok.2 k hk
          have e : drp 6 = 6 := by decide
          rw [e]
          split <;> omega
  obtain ⟨v', c1, c2, c3, c4⟩ := shorten (b := b) fa a3 τok hq _ (times l.l m) rfl h2
  have tsub : ∀ n, ∀ c ∈ times l.l n, c ∈ l.l := by
    intro n
    induction n with
    | zero => intro c hc; simp [times] at hc
    | succ n ih =>
      intro c hc
      rcases List.mem_append.1 hc with h | h
      · exact ih c h
      · exact h
  refine ⟨⟨l.h ++ times l.l j, v'⟩, c2.pos, c1, ?_, ?_, fun c hc => ?_, fun c hc => tsub m c (c4 c hc)⟩
  · exact (takes_paths oa (l := ⟨l.h ++ times l.l j, v'⟩) c2.pos).2 ⟨f', hf, 0, q, 1, by omega, by simpa [times] using h1, by simpa [times] using c2⟩
  · refine calm_not ob sb b3 (l := ⟨l.h ++ times l.l j, v'⟩) c2.pos (τ := τ) ⟨calm.ok, calm.odd, fun k hk => ?_⟩ (fun k hk hh => ?_)
    · have := calm.up k hk
      rw [show tkW b τ (⟨l.h ++ times l.l j, v'⟩ : La).l = tkW b τ (times l.l m) from c3]
      exact this
    · have ht : T k := (hT k).2 ⟨j, Nat.le_refl _, hh⟩
      have := ρ2 k hk ht
      rw [tg k hk, if_pos ht]; omega
  · rcases List.mem_append.1 hc with h | h
    · exact .inl h
    · exact .inr (tsub j c h)
end Go.Proofs.Ytoglgeaiiipchaa
