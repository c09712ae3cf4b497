/- Plain: one of both, both. -/
import Derived.Test.YtoglgeaiiipchaaLBTM2
set_option linter.unusedSimpArgs false
set_option linter.unusedVariables false
namespace Go.Proofs.Ytoglgeaiiipchaa

def Stp.up (d : Int) (s : Stp) : Stp := ⟨s.f + d, s.l, s.t + d⟩
/-- one of both -/
def eitherOf (a b : Au) : Au := ⟨a.st + b.st, a.le, a.fs ++ b.fs.map (· + a.st), a.gs ++ b.gs, a.ss ++ b.ss.map (Stp.up a.st)⟩
theorem good_either {a b : Au} (ha : AuOK a) (hb : AuOK b) {q : Int} : (eitherOf a b).good q ↔ (a.good q ∧ q < a.st) ∨ (b.good (q - a.st) ∧ a.st ≤ q) := by
  have h1 := ha.gl
  have h2 := ha.st1
  unfold Au.good eitherOf
  simp only [List.getD_eq_getElem?_getD]
  rcases Int.lt_or_le q a.st with h | h
  · constructor
    · rintro ⟨h3, h4⟩
      rw [List.getElem?_append_left (by omega)] at h4
      exact .inl ⟨⟨h3, h4⟩, h⟩
    · rintro (⟨⟨h3, h4⟩, _⟩ | ⟨_, h5⟩)
      · exact ⟨h3, by rw [List.getElem?_append_left (by omega)]; exact h4⟩
      · omega
  · constructor
    · rintro ⟨h3, h4⟩
      rw [List.getElem?_append_right (by omega), show q.toNat - a.gs.length = (q - a.st).toNat by omega] at h4
      exact .inr ⟨⟨by omega, h4⟩, h⟩
    · rintro (⟨_, h5⟩ | ⟨⟨h3, h4⟩, _⟩)
      · omega
      · exact ⟨by omega, by rw [List.getElem?_append_right (by omega), show q.toNat - a.gs.length = (q - a.st).toNat by omega]; exact h4⟩
theorem mem_either {a b : Au} {s : Stp} : s ∈ (eitherOf a b).ss ↔ s ∈ a.ss ∨ (⟨s.f - a.st, s.l, s.t - a.st⟩ : Stp) ∈ b.ss := by
  unfold eitherOf
  simp only [List.mem_append, List.mem_map]
  constructor
  · rintro (h | ⟨t, h, rfl⟩)
    · exact .inl h
    · refine .inr ?_
      have : (⟨t.f + a.st - a.st, t.l, t.t + a.st - a.st⟩ : Stp) = t := by cases t; simp
      simp only [Stp.up]
      rw [this]; exact h
  · rintro (h | h)
    · exact .inl h
    · exact .inr ⟨_, h, by cases s; simp [Stp.up]⟩
theorem either_takes {a b : Au} (ha : AuOK a) (hb : AuOK b) (u : Nat → Int) : TakesU (eitherOf a b) u ↔ TakesU a u ∨ TakesU b u := by
  have h1 := ha.st1
  constructor
  · rintro ⟨r, h0, hs, hg⟩
    rcases Int.lt_or_le (r 0) a.st with hr | hr
    · left
      have hlt : ∀ i, r i < a.st := by
        intro i
        induction i with
        | zero => exact hr
        | succ i ih =>
          rcases mem_either.1 (hs i) with h | h
          · exact (ha.sr _ h).2.1.2
          · have := (hb.sr _ h).1.1
            simp only at this
            omega
      refine ⟨r, ?_, fun i => ?_, fun n => ?_⟩
      · simp only [eitherOf, List.mem_append, List.mem_map] at h0
        rcases h0 with h0 | ⟨f, hf, he⟩
        · exact h0
        · have := hb.fr f hf
          omega
      · rcases mem_either.1 (hs i) with h | h
        · exact h
        · have := (hb.sr _ h).1.1
          simp only at this
          have := hlt i
          omega
      · obtain ⟨m, hm, hgm⟩ := hg n
        rcases (good_either ha hb).1 hgm with ⟨h, _⟩ | ⟨_, h⟩
        · exact ⟨m, hm, h⟩
        · have := hlt m
          omega
    · right
      have hge : ∀ i, a.st ≤ r i := by
        intro i
        induction i with
        | zero => exact hr
        | succ i ih =>
          rcases mem_either.1 (hs i) with h | h
          · have := (ha.sr _ h).1.2
            simp only at this
            omega
          · have := (hb.sr _ h).2.1.1
            simp only at this
            omega
      refine ⟨fun i => r i - a.st, ?_, fun i => ?_, fun n => ?_⟩
      · simp only [eitherOf, List.mem_append, List.mem_map] at h0
        rcases h0 with h0 | ⟨f, hf, he⟩
        · have := ha.fr _ h0
          omega
        · show r 0 - a.st ∈ b.fs
          rw [← he, show f + a.st - a.st = f by omega]
          exact hf
      · rcases mem_either.1 (hs i) with h | h
        · have := (ha.sr _ h).1.2
          simp only at this
          have := hge i
          omega
        · exact h
      · obtain ⟨m, hm, hgm⟩ := hg n
        rcases (good_either ha hb).1 hgm with ⟨_, h⟩ | ⟨h, _⟩
        · have := hge m
          omega
        · exact ⟨m, hm, h⟩
  · rintro (⟨r, h0, hs, hg⟩ | ⟨r, h0, hs, hg⟩)
    · refine ⟨r, ?_, fun i => mem_either.2 (.inl (hs i)), fun n => ?_⟩
      · exact List.mem_append.2 (.inl h0)
      · obtain ⟨m, hm, hgm⟩ := hg n
        have := (ha.sr _ (hs m)).1
        exact ⟨m, hm, (good_either ha hb).2 (.inl ⟨hgm, this.2⟩)⟩
    · have hge : ∀ i, 0 ≤ r i := fun i => (hb.sr _ (hs i)).1.1
      refine ⟨fun i => r i + a.st, ?_, fun i => ?_, fun n => ?_⟩
      · exact List.mem_append.2 (.inr (List.mem_map.2 ⟨r 0, h0, rfl⟩))
      · refine mem_either.2 (.inr ?_)
        simp only [show r i + a.st - a.st = r i by omega, show r (i + 1) + a.st - a.st = r (i + 1) by omega]
        exact hs i
      · obtain ⟨m, hm, hgm⟩ := hg n
        refine ⟨m, hm, (good_either ha hb).2 (.inr ?_)⟩
        show b.good (r m + a.st - a.st) ∧ a.st ≤ r m + a.st
        rw [show r m + a.st - a.st = r m by omega]
        exact ⟨hgm, by have := hge m; omega⟩
theorem either_ok {a b : Au} (ha : ckA a = 0) (hb : ckA b = 0) (hst : a.st + b.st ≤ 300) (hss : a.ss.length + b.ss.length ≤ 6000) (hle : a.le = b.le) : ckA (eitherOf a b) = 0 := by
  obtain ⟨oa, sa⟩ := ckA_zero.1 ha
  obtain ⟨ob, sb⟩ := ckA_zero.1 hb
  have a1 := oa.st1; have a2 := oa.gl; have b1 := ob.st1; have b2 := ob.gl
  refine ckA_zero.2 ⟨⟨?_, hst, oa.le1, oa.le2, ?_, ?_, ?_, ?_, ?_⟩, ?_⟩
  · show 1 ≤ a.st + b.st; omega
  · show ((a.gs ++ b.gs).length : Int) = a.st + b.st
    simp; omega
  · show (a.ss ++ b.ss.map _).length ≤ 6000
    simp; omega
  · intro f hf
    show 0 ≤ f ∧ f < a.st + b.st
    rcases List.mem_append.1 hf with h | h
    · have := oa.fr f h; omega
    · obtain ⟨g, hg, rfl⟩ := List.mem_map.1 h
      have := ob.fr g hg; omega
  · refine List.pairwise_append.2 ⟨oa.fo, ?_, ?_⟩
    · rw [List.pairwise_map]
      exact ob.fo.imp (fun h => by omega)
    · intro x hx y hy
      obtain ⟨g, hg, rfl⟩ := List.mem_map.1 hy
      have := oa.fr x hx
      have := ob.fr g hg
      omega
  · intro s hs
    show (0 ≤ s.f ∧ s.f < a.st + b.st) ∧ (0 ≤ s.t ∧ s.t < a.st + b.st) ∧ 0 ≤ s.l ∧ s.l < a.le
    rcases mem_either.1 hs with h | h
    · have := oa.sr s h; omega
    · have := ob.sr _ h
      simp only at this
      omega
  · refine List.pairwise_append.2 ⟨sa, ?_, ?_⟩
    · rw [List.pairwise_map]
      refine sb.imp (fun {s t} h => ?_)
      rw [stpLt_iff] at *
      simp only [Stp.up]
      omega
    · intro x hx y hy
      obtain ⟨g, hg, rfl⟩ := List.mem_map.1 hy
      have := oa.sr x hx
      have := ob.sr g hg
      rw [stpLt_iff]
      simp only [Stp.up]
      omega

/-- the number of a pair's state -/
def pnum (b : Au) (x y w : Int) : Int := (x * b.st + y) * 3 + w
open Classical in
/-- what is waited for behind a state -/
noncomputable def pwait (a b : Au) (x y w : Int) : Int :=
  let w0 := if w = 2 then 0 else w
  let w1 := if w0 = 0 ∧ a.good x then 1 else w0
  if w1 = 1 ∧ b.good y then 2 else w1
/-- an automaton that is the pair of two -/
structure PairOf (a b p : Au) : Prop where
  st : p.st = 3 * a.st * b.st
  fs : ∀ q, q ∈ p.fs ↔ ∃ x ∈ a.fs, ∃ y ∈ b.fs, q = pnum b x y 0
  gs : ∀ x y w : Int, 0 ≤ x → x < a.st → 0 ≤ y → y < b.st → 0 ≤ w → w < 3 → (p.good (pnum b x y w) ↔ w = 2)
  ss : ∀ s, s ∈ p.ss ↔ ∃ t ∈ a.ss, ∃ t' ∈ b.ss, t.l = t'.l ∧ ∃ w : Int, 0 ≤ w ∧ w < 3 ∧ s = ⟨pnum b t.f t'.f w, t.l, pnum b t.t t'.t (pwait a b t.f t'.f w)⟩
open Classical in
theorem pwait_lt (a b : Au) (x y w : Int) (h : 0 ≤ w ∧ w < 3) : 0 ≤ pwait a b x y w ∧ pwait a b x y w < 3 := by
  unfold pwait
  dsimp only
  have h0 : 0 ≤ (if w = 2 then 0 else w) ∧ (if w = 2 then 0 else w) < 3 := by split <;> omega
  generalize (if w = 2 then 0 else w) = w0 at *
  have h1 : 0 ≤ (if w0 = 0 ∧ a.good x then 1 else w0) ∧ (if w0 = 0 ∧ a.good x then 1 else w0) < 3 := by split <;> omega
  generalize (if w0 = 0 ∧ a.good x then 1 else w0) = w1 at *
  split <;> omega
theorem pnum_inj {b : Au} {x y w x' y' w' : Int} (h : pnum b x y w = pnum b x' y' w') (hy : 0 ≤ y ∧ y < b.st) (hy' : 0 ≤ y' ∧ y' < b.st) (hw : 0 ≤ w ∧ w < 3) (hw' : 0 ≤ w' ∧ w' < 3) : x = x' ∧ y = y' ∧ w = w' := by
  unfold pnum at h
  have e1 : x * b.st + y = x' * b.st + y' := by omega
  have e2 : w = w' := by omega
  have hb : 0 < b.st := by omega
  have d1 : (x * b.st + y) / b.st = x := by rw [Int.add_comm, Int.add_mul_ediv_right _ _ (by omega), Int.ediv_eq_zero_of_lt hy.1 hy.2]; omega
  have d2 : (x' * b.st + y') / b.st = x' := by rw [Int.add_comm, Int.add_mul_ediv_right _ _ (by omega), Int.ediv_eq_zero_of_lt hy'.1 hy'.2]; omega
  have e3 : x = x' := by rw [← d1, e1, d2]
  subst e3
  exact ⟨rfl, by omega, e2⟩
/-- the waiting along two runs -/
noncomputable def waits (a b : Au) (r r' : Nat → Int) : Nat → Int
  | 0 => 0
  | i + 1 => pwait a b (r i) (r' i) (waits a b r r' i)
theorem waits_lt (a b : Au) (r r' : Nat → Int) : ∀ i, 0 ≤ waits a b r r' i ∧ waits a b r r' i < 3
  | 0 => by simp [waits]
  | i + 1 => pwait_lt _ _ _ _ _ (waits_lt a b r r' i)
/-- waiting from now on for one that comes -/
theorem first_from {P : Nat → Prop} {n m : Nat} (hm : n ≤ m) (h : P m) : ∃ k, n ≤ k ∧ P k ∧ ∀ i, n ≤ i → i < k → ¬ P i := by
  have : ∀ d m, m = n + d → P m → ∃ k, n ≤ k ∧ P k ∧ ∀ i, n ≤ i → i < k → ¬ P i := by
    intro d
    induction d using Nat.strongRecOn with
    | _ d ih =>
      intro m hmd hP
      by_cases h : ∃ i, n ≤ i ∧ i < m ∧ P i
      · obtain ⟨i, h1, h2, h3⟩ := h
        exact ih (i - n) (by omega) i (by omega) h3
      · exact ⟨m, by omega, hP, fun i h1 h2 h3 => h ⟨i, h1, h2, h3⟩⟩
  exact this (m - n) m (by omega) h
section
variable {a b : Au} {r r' : Nat → Int} {W : Nat → Int}
/-- a row of waiting that comes to 2 again and again -/
theorem waits_two (hW : ∀ i, W (i + 1) = pwait a b (r i) (r' i) (W i)) (hlt : ∀ i, 0 ≤ W i ∧ W i < 3) (hg : ∀ n, ∃ m, n ≤ m ∧ a.good (r m)) (hg' : ∀ n, ∃ m, n ≤ m ∧ b.good (r' m)) (n : Nat) : ∃ m, n ≤ m ∧ W m = 2 := by
  -- from a place where 1 is waited for
  have one : ∀ n, W n = 1 → ∃ m, n ≤ m ∧ W m = 2 := by
    intro n hn
    obtain ⟨m0, h1, h2⟩ := hg' n
    obtain ⟨m, h1, h2, h3⟩ := first_from (P := fun i => b.good (r' i)) h1 h2
    have stay : ∀ d, n + d ≤ m → W (n + d) = 1 := by
      intro d
      induction d with
      | zero => intro _; exact hn
      | succ d ih =>
        intro hd
        have e := ih (by omega)
        rw [← Nat.add_assoc, hW, e]
        have := h3 (n + d) (by omega) (by omega)
        simp [pwait, this]
    have e := stay (m - n) (by omega)
    rw [show n + (m - n) = m by omega] at e
    exact ⟨m + 1, by omega, by rw [hW, e]; simp [pwait, h2]⟩
  have zero : ∀ n, W n = 0 → ∃ m, n ≤ m ∧ W m = 2 := by
    intro n hn
    obtain ⟨m0, h1, h2⟩ := hg n
    obtain ⟨m, h1, h2, h3⟩ := first_from (P := fun i => a.good (r i)) h1 h2
    have stay : ∀ d, n + d ≤ m → W (n + d) = 0 := by
      intro d
      induction d with
      | zero => intro _; exact hn
      | succ d ih =>
        intro hd
        have e := ih (by omega)
        rw [← Nat.add_assoc, hW, e]
        have := h3 (n + d) (by omega) (by omega)
        simp [pwait, this]
    have e := stay (m - n) (by omega)
    rw [show n + (m - n) = m by omega] at e
    by_cases hb : b.good (r' m)
    · exact ⟨m + 1, by omega, by rw [hW, e]; simp [pwait, h2, hb]⟩
    · obtain ⟨k, hk, hk2⟩ := one (m + 1) (by rw [hW, e]; simp [pwait, h2, hb])
      exact ⟨k, by omega, hk2⟩
  have := hlt n
  by_cases h2 : W n = 2
  · exact ⟨n, Nat.le_refl _, h2⟩
  · by_cases h1 : W n = 1
    · exact one n h1
    · exact zero n (by omega)
theorem waits_good (hW : ∀ i, W (i + 1) = pwait a b (r i) (r' i) (W i)) {n m : Nat} (hn : W n = 2) (hnm : n < m) (hm : W m = 2) : (∃ i, n ≤ i ∧ a.good (r i)) ∧ ∃ i, n ≤ i ∧ b.good (r' i) := by
  constructor
  · apply Classical.byContradiction
    intro hno
    have hno' : ∀ i, n ≤ i → ¬ a.good (r i) := fun i h1 h2 => hno ⟨i, h1, h2⟩
    have : ∀ d, W (n + d + 1) = 0 := by
      intro d
      induction d with
      | zero => rw [Nat.add_zero, hW, hn]; simp [pwait, hno' n (Nat.le_refl _)]
      | succ d ih =>
        rw [show n + (d + 1) + 1 = (n + d + 1) + 1 by omega, hW, ih]
        simp [pwait, hno' (n + d + 1) (by omega)]
    have := this (m - n - 1)
    rw [show n + (m - n - 1) + 1 = m by omega, hm] at this
    cases this
  · apply Classical.byContradiction
    intro hno
    have hno' : ∀ i, n ≤ i → ¬ b.good (r' i) := fun i h1 h2 => hno ⟨i, h1, h2⟩
    have : ∀ d, W (n + d + 1) = 0 ∨ W (n + d + 1) = 1 := by
      intro d
      induction d with
      | zero => rw [Nat.add_zero, hW, hn]; by_cases h : a.good (r n) <;> simp [pwait, hno' n (Nat.le_refl _), h]
      | succ d ih =>
        rw [show n + (d + 1) + 1 = (n + d + 1) + 1 by omega, hW]
        rcases ih with ih | ih
        · rw [ih]; by_cases h : a.good (r (n + d + 1)) <;> simp [pwait, hno' (n + d + 1) (by omega), h]
        · rw [ih]; simp [pwait, hno' (n + d + 1) (by omega)]
    have := this (m - n - 1)
    rw [show n + (m - n - 1) + 1 = m by omega, hm] at this
    rcases this with h | h <;> cases h
end
theorem pair_takes {a b p : Au} (ha : AuOK a) (hb : AuOK b) (hp : PairOf a b p) (u : Nat → Int) : TakesU p u ↔ TakesU a u ∧ TakesU b u := by
  constructor
  · rintro ⟨r, h0, hs, hg⟩
    have step : ∀ i, ∃ t ∈ a.ss, ∃ t' ∈ b.ss, t.l = u i ∧ t'.l = u i ∧ ∃ w : Int, (0 ≤ w ∧ w < 3) ∧ r i = pnum b t.f t'.f w ∧ r (i + 1) = pnum b t.t t'.t (pwait a b t.f t'.f w) := fun i => by
      obtain ⟨t, ht, t', ht', hl, w, w1, w2, he⟩ := (hp.ss _).1 (hs i)
      have e1 := congrArg Stp.f he
      have e2 := congrArg Stp.l he
      have e3 := congrArg Stp.t he
      exact ⟨t, ht, t', ht', e2.symm, by rw [← hl]; exact e2.symm, w, ⟨w1, w2⟩, e1, e3⟩
    -- the parts of each state
    have parts : ∃ X Y W : Nat → Int, ∀ i, r i = pnum b (X i) (Y i) (W i) ∧ (0 ≤ X i ∧ X i < a.st) ∧ (0 ≤ Y i ∧ Y i < b.st) ∧ (0 ≤ W i ∧ W i < 3) ∧ (⟨X i, u i, X (i + 1)⟩ : Stp) ∈ a.ss ∧ (⟨Y i, u i, Y (i + 1)⟩ : Stp) ∈ b.ss ∧ W (i + 1) = pwait a b (X i) (Y i) (W i) := by
      have ch : ∀ i, ∃ x y w : Int, r i = pnum b x y w ∧ (0 ≤ x ∧ x < a.st) ∧ (0 ≤ y ∧ y < b.st) ∧ (0 ≤ w ∧ w < 3) := fun i => by
        obtain ⟨t, ht, t', ht', _, _, w, hw, e1, _⟩ := step i
        exact ⟨t.f, t'.f, w, e1, (ha.sr _ ht).1, (hb.sr _ ht').1, hw⟩
      refine ⟨fun i => Classical.choose (ch i), fun i => Classical.choose (Classical.choose_spec (ch i)), fun i => Classical.choose (Classical.choose_spec (Classical.choose_spec (ch i))), fun i => ?_⟩
      dsimp only
      have s0 := Classical.choose_spec (Classical.choose_spec (Classical.choose_spec (ch i)))
      have s1 := Classical.choose_spec (Classical.choose_spec (Classical.choose_spec (ch (i + 1))))
      generalize Classical.choose (Classical.choose_spec (Classical.choose_spec (ch i))) = w at *
      generalize Classical.choose (Classical.choose_spec (Classical.choose_spec (ch (i + 1)))) = w' at *
      generalize Classical.choose (Classical.choose_spec (ch i)) = y at *
      generalize Classical.choose (Classical.choose_spec (ch (i + 1))) = y' at *
      generalize Classical.choose (ch i) = x at *
      generalize Classical.choose (ch (i + 1)) = x' at *
      obtain ⟨e0, x0, y0, w0⟩ := s0
      obtain ⟨e1, x1, y1, w1⟩ := s1
      refine ⟨e0, x0, y0, w0, ?_⟩
      obtain ⟨t, ht, t', ht', l1, l2, v, hv, f1, f2⟩ := step i
      have st := ha.sr _ ht
      have st' := hb.sr _ ht'
      obtain ⟨rfl, rfl, rfl⟩ := pnum_inj (e0.symm.trans f1) y0 st'.1 w0 hv
      obtain ⟨rfl, rfl, rfl⟩ := pnum_inj (e1.symm.trans f2) y1 st'.2.1 w1 (pwait_lt _ _ _ _ _ hv)
      refine ⟨?_, ?_, rfl⟩
      · rw [← l1]; exact ht
      · rw [← l2]; exact ht'
    obtain ⟨X, Y, W, h⟩ := parts
    have hf := (hp.fs _).1 h0
    obtain ⟨x, hx, y, hy, e⟩ := hf
    obtain ⟨rfl, rfl, hw0⟩ := pnum_inj ((h 0).1.symm.trans e) (h 0).2.2.1 (hb.fr _ hy) (h 0).2.2.2.1 (by decide)
    have two : ∀ n, ∃ m, n ≤ m ∧ W m = 2 := fun n => by
      obtain ⟨m, hm, hgm⟩ := hg n
      rw [(h m).1] at hgm
      exact ⟨m, hm, (hp.gs _ _ _ (h m).2.1.1 (h m).2.1.2 (h m).2.2.1.1 (h m).2.2.1.2 (h m).2.2.2.1.1 (h m).2.2.2.1.2).1 hgm⟩
    have both : ∀ n, (∃ i, n ≤ i ∧ a.good (X i)) ∧ ∃ i, n ≤ i ∧ b.good (Y i) := fun n => by
      obtain ⟨m, hm, h2⟩ := two n
      obtain ⟨m', hm', h2'⟩ := two (m + 1)
      have := waits_good (fun i => (h i).2.2.2.2.2.2) h2 hm' h2'
      obtain ⟨⟨i, hi, gi⟩, ⟨j, hj, gj⟩⟩ := this
      exact ⟨⟨i, by omega, gi⟩, ⟨j, by omega, gj⟩⟩
    exact ⟨⟨X, hx, fun i => (h i).2.2.2.2.1, fun n => (both n).1⟩, ⟨Y, hy, fun i => (h i).2.2.2.2.2.1, fun n => (both n).2⟩⟩
  · rintro ⟨⟨r, h0, hs, hg⟩, ⟨r', h0', hs', hg'⟩⟩
    refine ⟨fun i => pnum b (r i) (r' i) (waits a b r r' i), ?_, fun i => ?_, fun n => ?_⟩
    · exact (hp.fs _).2 ⟨r 0, h0, r' 0, h0', rfl⟩
    · have := waits_lt a b r r' i
      exact (hp.ss _).2 ⟨_, hs i, _, hs' i, rfl, waits a b r r' i, this.1, this.2, rfl⟩
    · obtain ⟨m, hm, h2⟩ := waits_two (fun i => rfl) (waits_lt a b r r') hg hg' n
      have w := waits_lt a b r r' m
      have s := (ha.sr _ (hs m)).1
      have s' := (hb.sr _ (hs' m)).1
      exact ⟨m, hm, (hp.gs _ _ _ s.1 s.2 s'.1 s'.2 w.1 w.2).2 h2⟩
end Go.Proofs.Ytoglgeaiiipchaa
