/- Plain: a word that an automaton takes: a good state that can be come to and leads to itself; ways found by looking back. -/
import Derived.Test.YtoglgeaiiipchabLTTM2
set_option linter.unusedSimpArgs false
set_option linter.unusedVariables false
namespace Go.Proofs.Ytoglgeaiiipchab

def Stp.up (d : Int) (s : Stp) : Stp := ⟨s.f + d, s.l, s.t + d⟩
/-- one of both -/
def eitherOf (a b : Au) : Au := ⟨a.st + b.st, a.le, a.fs ++ b.fs.map (· + a.st), a.gs ++ b.gs, a.ss ++ b.ss.map (Stp.up a.st)⟩
theorem good_either {a b : Au} (ha : AuOK a) (hb : AuOK b) {q : Int} : (eitherOf a b).good q ↔ (a.good q ∧ q < a.st) ∨ (b.good (q - a.st) ∧ a.st ≤ q) := by
  have h1 := ha.gl
  have h2 := ha.st1
  unfold Au.good eitherOf
  simp only [List.getD_eq_getElem?_getD]
  rcases Int.lt_or_le q a.st with h | h
  · constructor
    · rintro ⟨h3, h4⟩
      rw [List.getElem?_append_left (by omega)] at h4
      exact .inl ⟨⟨h3, h4⟩, h⟩
    · rintro (⟨⟨h3, h4⟩, _⟩ | ⟨_, h5⟩)
      · exact ⟨h3, by rw [List.getElem?_append_left (by omega)]; exact h4⟩
      · omega
  · constructor
    · rintro ⟨h3, h4⟩
      rw [List.getElem?_append_right (by omega), show q.toNat - a.gs.length = (q - a.st).toNat by omega] at h4
      exact .inr ⟨⟨by omega, h4⟩, h⟩
    · rintro (⟨_, h5⟩ | ⟨⟨h3, h4⟩, _⟩)
      · omega
      · exact ⟨by omega, by rw [List.getElem?_append_right (by omega), show q.toNat - a.gs.length = (q - a.st).toNat by omega]; exact h4⟩
theorem mem_either {a b : Au} {s : Stp} : s ∈ (eitherOf a b).ss ↔ s ∈ a.ss ∨ (⟨s.f - a.st, s.l, s.t - a.st⟩ : Stp) ∈ b.ss := by
  unfold eitherOf
  simp only [List.mem_append, List.mem_map]
  constructor
  · rintro (h | ⟨t, h, rfl⟩)
    · exact .inl h
    · refine .inr ?_
      have : (⟨t.f + a.st - a.st, t.l, t.t + a.st - a.st⟩ : Stp) = t := by cases t; simp
      simp only [Stp.up]
      rw [this]; exact h
  · rintro (h | h)
    · exact .inl h
    · exact .inr ⟨_, h, by cases s; simp [Stp.up]⟩
theorem either_takes {a b : Au} (ha : AuOK a) (hb : AuOK b) (u : Nat → Int) : TakesU (eitherOf a b) u ↔ TakesU a u ∨ TakesU b u := by
  have h1 := ha.st1
  constructor
  · rintro ⟨r, h0, hs, hg⟩
    rcases Int.lt_or_le (r 0) a.st with hr | hr
    · left
      have hlt : ∀ i, r i < a.st := by
        intro i
        induction i with
        | zero => exact hr
        | succ i ih =>
          rcases mem_either.1 (hs i) with h | h
          · exact (ha.sr _ h).2.1.2
          · have := (hb.sr _ h).1.1
            simp only at this
            omega
      refine ⟨r, ?_, fun i => ?_, fun n => ?_⟩
      · simp only [eitherOf, List.mem_append, List.mem_map] at h0
        rcases h0 with h0 | ⟨f, hf, he⟩
        · exact h0
        · have := hb.fr f hf
          omega
      · rcases mem_either.1 (hs i) with h | h
        · exact h
        · have := (hb.sr _ h).1.1
          simp only at this
          have := hlt i
          omega
      · obtain ⟨m, hm, hgm⟩ := hg n
        rcases (good_either ha hb).1 hgm with ⟨h, _⟩ | ⟨_, h⟩
        · exact ⟨m, hm, h⟩
        · have := hlt m
          omega
    · right
      have hge : ∀ i, a.st ≤ r i := by
        intro i
        induction i with
        | zero => exact hr
        | succ i ih =>
          rcases mem_either.1 (hs i) with h | h
          · have := (ha.sr _ h).1.2
            simp only at this
            omega
          · have := (hb.sr _ h).2.1.1
            simp only at this
            omega
      refine ⟨fun i => r i - a.st, ?_, fun i => ?_, fun n => ?_⟩
      · simp only [eitherOf, List.mem_append, List.mem_map] at h0
        rcases h0 with h0 | ⟨f, hf, he⟩
        · have := ha.fr _ h0
          omega
        · show r 0 - a.st ∈ b.fs
          rw [← he, show f + a.st - a.st = f by omega]
          exact hf
      · rcases mem_either.1 (hs i) with h | h
        · have := (ha.sr _ h).1.2
          simp only at this
          have := hge i
          omega
        · exact h
      · obtain ⟨m, hm, hgm⟩ := hg n
        rcases (good_either ha hb).1 hgm with ⟨_, h⟩ | ⟨h, _⟩
        · have := hge m
          omega
        · exact ⟨m, hm, h⟩
  · rintro (⟨r, h0, hs, hg⟩ | ⟨r, h0, hs, hg⟩)
    · refine ⟨r, ?_, fun i => mem_either.2 (.inl (hs i)), fun n => ?_⟩
      · exact List.mem_append.2 (.inl h0)
      · obtain ⟨m, hm, hgm⟩ := hg n
        have := (ha.sr _ (hs m)).1
        exact ⟨m, hm, (good_either ha hb).2 (.inl ⟨hgm, this.2⟩)⟩
    · have hge : ∀ i, 0 ≤ r i := fun i => (hb.sr _ (hs i)).1.1
      refine ⟨fun i => r i + a.st, ?_, fun i => ?_, fun n => ?_⟩
      · exact List.mem_append.2 (.inr (List.mem_map.2 ⟨r 0, h0, rfl⟩))
      · refine mem_either.2 (.inr ?_)
        simp only [show r i + a.st - a.st = r i by omega, show r (i + 1) + a.st - a.st = r (i + 1) by omega]
        exact hs i
      · obtain ⟨m, hm, hgm⟩ := hg n
        refine ⟨m, hm, (good_either ha hb).2 (.inr ?_)⟩
        show b.good (r m + a.st - a.st) ∧ a.st ≤ r m + a.st
        rw [show r m + a.st - a.st = r m by omega]
        exact ⟨hgm, by have := hge m; omega⟩
theorem either_ok {a b : Au} (ha : ckA a = 0) (hb : ckA b = 0) (hst : a.st + b.st ≤ 300) (hss : a.ss.length + b.ss.length ≤ 6000) (hle : a.le = b.le) : ckA (eitherOf a b) = 0 := by
  obtain ⟨oa, sa⟩ := ckA_zero.1 ha
  obtain ⟨ob, sb⟩ := ckA_zero.1 hb
  have a1 := oa.st1; have a2 := oa.gl; have b1 := ob.st1; have b2 := ob.gl
  refine ckA_zero.2 ⟨⟨?_, hst, oa.le1, oa.le2, ?_, ?_, ?_, ?_, ?_⟩, ?_⟩
  · show 1 ≤ a.st + b.st; omega
  · show ((a.gs ++ b.gs).length : Int) = a.st + b.st
    simp; omega
  · show (a.ss ++ b.ss.map _).length ≤ 6000
    simp; omega
  · intro f hf
    show 0 ≤ f ∧ f < a.st + b.st
    rcases List.mem_append.1 hf with h | h
    · have := oa.fr f h; omega
    · obtain ⟨g, hg, rfl⟩ := List.mem_map.1 h
      have := ob.fr g hg; omega
  · refine List.pairwise_append.2 ⟨oa.fo, ?_, ?_⟩
    · rw [List.pairwise_map]
      exact ob.fo.imp (fun h => by omega)
    · intro x hx y hy
      obtain ⟨g, hg, rfl⟩ := List.mem_map.1 hy
      have := oa.fr x hx
      have := ob.fr g hg
      omega
  · intro s hs
    show (0 ≤ s.f ∧ s.f < a.st + b.st) ∧ (0 ≤ s.t ∧ s.t < a.st + b.st) ∧ 0 ≤ s.l ∧ s.l < a.le
    rcases mem_either.1 hs with h | h
    · have := oa.sr s h; omega
    · have := ob.sr _ h
      simp only at this
      omega
  · refine List.pairwise_append.2 ⟨sa, ?_, ?_⟩
    · rw [List.pairwise_map]
      refine sb.imp (fun {s t} h => ?_)
      rw [stpLt_iff] at *
      simp only [Stp.up]
      omega
    · intro x hx y hy
      obtain ⟨g, hg, rfl⟩ := List.mem_map.1 hy
      have := oa.sr x hx
      have := ob.sr g hg
      rw [stpLt_iff]
      simp only [Stp.up]
      omega

/-- the number of a pair's state -/
def pnum (b : Au) (x y w : Int) : Int := (x * b.st + y) * 3 + w
open Classical in
/-- what is waited for behind a state -/
noncomputable def pwait (a b : Au) (x y w : Int) : Int :=
  let w0 := if w = 2 then 0 else w
  let w1 := if w0 = 0 ∧ a.good x then 1 else w0
  if w1 = 1 ∧ b.good y then 2 else w1
/-- an automaton that is the pair of two -/
structure PairOf (a b p : Au) : Prop where
  st : p.st = 3 * a.st * b.st
  fs : ∀ q, q ∈ p.fs ↔ ∃ x ∈ a.fs, ∃ y ∈ b.fs, q = pnum b x y 0
  gs : ∀ x y w : Int, 0 ≤ x → x < a.st → 0 ≤ y → y < b.st → 0 ≤ w → w < 3 → (p.good (pnum b x y w) ↔ w = 2)
  ss : ∀ s, s ∈ p.ss ↔ ∃ t ∈ a.ss, ∃ t' ∈ b.ss, t.l = t'.l ∧ ∃ w : Int, 0 ≤ w ∧ w < 3 ∧ s = ⟨pnum b t.f t'.f w, t.l, pnum b t.t t'.t (pwait a b t.f t'.f w)⟩
open Classical in
theorem pwait_lt (a b : Au) (x y w : Int) (h : 0 ≤ w ∧ w < 3) : 0 ≤ pwait a b x y w ∧ pwait a b x y w < 3 := by
  unfold pwait
  dsimp only
  have h0 : 0 ≤ (if w = 2 then 0 else w) ∧ (if w = 2 then 0 else w) < 3 := by split <;> omega
  generalize (if w = 2 then 0 else w) = w0 at *
  have h1 : 0 ≤ (if w0 = 0 ∧ a.good x then 1 else w0) ∧ (if w0 = 0 ∧ a.good x then 1 else w0) < 3 := by split <;> omega
  generalize (if w0 = 0 ∧ a.good x then 1 else w0) = w1 at *
  split <;> omega
theorem pnum_inj {b : Au} {x y w x' y' w' : Int} (h : pnum b x y w = pnum b x' y' w') (hy : 0 ≤ y ∧ y < b.st) (hy' : 0 ≤ y' ∧ y' < b.st) (hw : 0 ≤ w ∧ w < 3) (hw' : 0 ≤ w' ∧ w' < 3) : x = x' ∧ y = y' ∧ w = w' := by
  unfold pnum at h
  have e1 : x * b.st + y = x' * b.st + y' := by omega
  have e2 : w = w' := by omega
  have hb : 0 < b.st := by omega
  have d1 : (x * b.st + y) / b.st = x := by rw [Int.add_comm, Int.add_mul_ediv_right _ _ (by omega), Int.ediv_eq_zero_of_lt hy.1 hy.2]; omega
  have d2 : (x' * b.st + y') / b.st = x' := by rw [Int.add_comm, Int.add_mul_ediv_right _ _ (by omega), Int.ediv_eq_zero_of_lt hy'.1 hy'.2]; omega
  have e3 : x = x' := by rw [← d1, e1, d2]
  subst e3
  exact ⟨rfl, by omega, e2⟩
/-- the waiting along two runs -/
noncomputable def waits (a b : Au) (r r' : Nat → Int) : Nat → Int
  | 0 => 0
  | i + 1 => pwait a b (r i) (r' i) (waits a b r r' i)
theorem waits_lt (a b : Au) (r r' : Nat → Int) : ∀ i, 0 ≤ waits a b r r' i ∧ waits a b r r' i < 3
  | 0 => by simp [waits]
  | i + 1 => pwait_lt _ _ _ _ _ (waits_lt a b r r' i)
/-- waiting from now on for one that comes -/
theorem first_from {P : Nat → Prop} {n m : Nat} (hm : n ≤ m) (h : P m) : ∃ k, n ≤ k ∧ P k ∧ ∀ i, n ≤ i → i < k → ¬ P i := by
  have : ∀ d m, m = n + d → P m → ∃ k, n ≤ k ∧ P k ∧ ∀ i, n ≤ i → i < k → ¬ P i := by
    intro d
    induction d using Nat.strongRecOn with
    | _ d ih =>
      intro m hmd hP
      by_cases h : ∃ i, n ≤ i ∧ i < m ∧ P i
      · obtain ⟨i, h1, h2, h3⟩ := h
        exact ih (i - n) (by omega) i (by omega) h3
      · exact ⟨m, by omega, hP, fun i h1 h2 h3 => h ⟨i, h1, h2, h3⟩⟩
  exact this (m - n) m (by omega) h
section
variable {a b : Au} {r r' : Nat → Int} {W : Nat → Int}
/-- a row of waiting that comes to 2 again and again -/
theorem waits_two (hW : ∀ i, W (i + 1) = pwait a b (r i) (r' i) (W i)) (hlt : ∀ i, 0 ≤ W i ∧ W i < 3) (hg : ∀ n, ∃ m, n ≤ m ∧ a.good (r m)) (hg' : ∀ n, ∃ m, n ≤ m ∧ b.good (r' m)) (n : Nat) : ∃ m, n ≤ m ∧ W m = 2 := by
  -- from a place where 1 is waited for
  have one : ∀ n, W n = 1 → ∃ m, n ≤ m ∧ W m = 2 := by
    intro n hn
    obtain ⟨m0, h1, h2⟩ := hg' n
    obtain ⟨m, h1, h2, h3⟩ := first_from (P := fun i => b.good (r' i)) h1 h2
    have stay : ∀ d, n + d ≤ m → W (n + d) = 1 := by
      intro d
      induction d with
      | zero => intro _; exact hn
      | succ d ih =>
        intro hd
        have e := ih (by omega)
        rw [← Nat.add_assoc, hW, e]
        have := h3 (n + d) (by omega) (by omega)
        simp [pwait, this]
    have e := stay (m - n) (by omega)
    rw [show n + (m - n) = m by omega] at e
    exact ⟨m + 1, by omega, by rw [hW, e]; simp [pwait, h2]⟩
  have zero : ∀ n, W n = 0 → ∃ m, n ≤ m ∧ W m = 2 := by
    intro n hn
    obtain ⟨m0, h1, h2⟩ := hg n
    obtain ⟨m, h1, h2, h3⟩ := first_from (P := fun i => a.good (r i)) h1 h2
    have stay : ∀ d, n + d ≤ m → W (n + d) = 0 := by
      intro d
      induction d with
      | zero => intro _; exact hn
      | succ d ih =>
        intro hd
        have e := ih (by omega)
        rw [← Nat.add_assoc, hW, e]
        have := h3 (n + d) (by omega) (by omega)
        simp [pwait, this]
    have e := stay (m - n) (by omega)
    rw [show n + (m - n) = m by omega] at e
    by_cases hb : b.good (r' m)
    · exact ⟨m + 1, by omega, by rw [hW, e]; simp [pwait, h2, hb]⟩
    · obtain ⟨k, hk, hk2⟩ := one (m + 1) (by rw [hW, e]; simp [pwait, h2, hb])
      exact ⟨k, by omega, hk2⟩
  have := hlt n
  by_cases h2 : W n = 2
  · exact ⟨n, Nat.le_refl _, h2⟩
  · by_cases h1 : W n = 1
    · exact one n h1
    · exact zero n (by omega)
theorem waits_good (hW : ∀ i, W (i + 1) = pwait a b (r i) (r' i) (W i)) {n m : Nat} (hn : W n = 2) (hnm : n < m) (hm : W m = 2) : (∃ i, n ≤ i ∧ a.good (r i)) ∧ ∃ i, n ≤ i ∧ b.good (r' i) := by
  constructor
  · apply Classical.byContradiction
    intro hno
    have hno' : ∀ i, n ≤ i → ¬ a.good (r i) := fun i h1 h2 => hno ⟨i, h1, h2⟩
    have : ∀ d, W (n + d + 1) = 0 := by
      intro d
      induction d with
      | zero => rw [Nat.add_zero, hW, hn]; simp [pwait, hno' n (Nat.le_refl _)]
      | succ d ih =>
        rw [show n + (d + 1) + 1 = (n + d + 1) + 1 by omega, hW, ih]
        simp [pwait, hno' (n + d + 1) (by omega)]
    have := this (m - n - 1)
    rw [show n + (m - n - 1) + 1 = m by omega, hm] at this
    cases this
  · apply Classical.byContradiction
    intro hno
    have hno' : ∀ i, n ≤ i → ¬ b.good (r' i) := fun i h1 h2 => hno ⟨i, h1, h2⟩
    have : ∀ d, W (n + d + 1) = 0 ∨ W (n + d + 1) = 1 := by
      intro d
      induction d with
      | zero => rw [Nat.add_zero, hW, hn]; by_cases h : a.good (r n) <;> simp [pwait, hno' n (Nat.le_refl _), h]
      | succ d ih =>
        rw [show n + (d + 1) + 1 = (n + d + 1) + 1 by omega, hW]
        rcases ih with ih | ih
        · rw [ih]; by_cases h : a.good (r (n + d + 1)) <;> simp [pwait, hno' (n + d + 1) (by omega), h]
        · rw [ih]; simp [pwait, hno' (n + d + 1) (by omega)]
    have := this (m - n - 1)
    rw [show n + (m - n - 1) + 1 = m by omega, hm] at this
    rcases this with h | h <;> cases h
end
theorem pair_takes {a b p : Au} (ha : AuOK a) (hb : AuOK b) (hp : PairOf a b p) (u : Nat → Int) : TakesU p u ↔ TakesU a u ∧ TakesU b u := by
  constructor
  · rintro ⟨r, h0, hs, hg⟩
    have step : ∀ i, ∃ t ∈ a.ss, ∃ t' ∈ b.ss, t.l = u i ∧ t'.l = u i ∧ ∃ w : Int, (0 ≤ w ∧ w < 3) ∧ r i = pnum b t.f t'.f w ∧ r (i + 1) = pnum b t.t t'.t (pwait a b t.f t'.f w) := fun i => by
      obtain ⟨t, ht, t', ht', hl, w, w1, w2, he⟩ := (hp.ss _).1 (hs i)
      have e1 := congrArg Stp.f he
      have e2 := congrArg Stp.l he
      have e3 := congrArg Stp.t he
      exact ⟨t, ht, t', ht', e2.symm, by rw [← hl]; exact e2.symm, w, ⟨w1, w2⟩, e1, e3⟩
    -- the parts of each state
    have parts : ∃ X Y W : Nat → Int, ∀ i, r i = pnum b (X i) (Y i) (W i) ∧ (0 ≤ X i ∧ X i < a.st) ∧ (0 ≤ Y i ∧ Y i < b.st) ∧ (0 ≤ W i ∧ W i < 3) ∧ (⟨X i, u i, X (i + 1)⟩ : Stp) ∈ a.ss ∧ (⟨Y i, u i, Y (i + 1)⟩ : Stp) ∈ b.ss ∧ W (i + 1) = pwait a b (X i) (Y i) (W i) := by
      have ch : ∀ i, ∃ x y w : Int, r i = pnum b x y w ∧ (0 ≤ x ∧ x < a.st) ∧ (0 ≤ y ∧ y < b.st) ∧ (0 ≤ w ∧ w < 3) := fun i => by
        obtain ⟨t, ht, t', ht', _, _, w, hw, e1, _⟩ := step i
        exact ⟨t.f, t'.f, w, e1, (ha.sr _ ht).1, (hb.sr _ ht').1, hw⟩
      refine ⟨fun i => Classical.choose (ch i), fun i => Classical.choose (Classical.choose_spec (ch i)), fun i => Classical.choose (Classical.choose_spec (Classical.choose_spec (ch i))), fun i => ?_⟩
      dsimp only
      have s0 := Classical.choose_spec (Classical.choose_spec (Classical.choose_spec (ch i)))
      have s1 := Classical.choose_spec (Classical.choose_spec (Classical.choose_spec (ch (i + 1))))
      generalize Classical.choose (Classical.choose_spec (Classical.choose_spec (ch i))) = w at *
      generalize Classical.choose (Classical.choose_spec (Classical.choose_spec (ch (i + 1)))) = w' at *
      generalize Classical.choose (Classical.choose_spec (ch i)) = y at *
      generalize Classical.choose (Classical.choose_spec (ch (i + 1))) = y' at *
      generalize Classical.choose (ch i) = x at *
      generalize Classical.choose (ch (i + 1)) = x' at *
      obtain ⟨e0, x0, y0, w0⟩ := s0
      obtain ⟨e1, x1, y1, w1⟩ := s1
      refine ⟨e0, x0, y0, w0, ?_⟩
      obtain ⟨t, ht, t', ht', l1, l2, v, hv, f1, f2⟩ := step i
      have st := ha.sr _ ht
      have st' := hb.sr _ ht'
      obtain ⟨rfl, rfl, rfl⟩ := pnum_inj (e0.symm.trans f1) y0 st'.1 w0 hv
      obtain ⟨rfl, rfl, rfl⟩ := pnum_inj (e1.symm.trans f2) y1 st'.2.1 w1 (pwait_lt _ _ _ _ _ hv)
      refine ⟨?_, ?_, rfl⟩
      · rw [← l1]; exact ht
      · rw [← l2]; exact ht'
    obtain ⟨X, Y, W, h⟩ := parts
    have hf := (hp.fs _).1 h0
    obtain ⟨x, hx, y, hy, e⟩ := hf
    obtain ⟨rfl, rfl, hw0⟩ := pnum_inj ((h 0).1.symm.trans e) (h 0).2.2.1 (hb.fr _ hy) (h 0).2.2.2.1 (by decide)
    have two : ∀ n, ∃ m, n ≤ m ∧ W m = 2 := fun n => by
      obtain ⟨m, hm, hgm⟩ := hg n
      rw [(h m).1] at hgm
      exact ⟨m, hm, (hp.gs _ _ _ (h m).2.1.1 (h m).2.1.2 (h m).2.2.1.1 (h m).2.2.1.2 (h m).2.2.2.1.1 (h m).2.2.2.1.2).1 hgm⟩
    have both : ∀ n, (∃ i, n ≤ i ∧ a.good (X i)) ∧ ∃ i, n ≤ i ∧ b.good (Y i) := fun n => by
      obtain ⟨m, hm, h2⟩ := two n
      obtain ⟨m', hm', h2'⟩ := two (m + 1)
      have := waits_good (fun i => (h i).2.2.2.2.2.2) h2 hm' h2'
      obtain ⟨⟨i, hi, gi⟩, ⟨j, hj, gj⟩⟩ := this
      exact ⟨⟨i, by omega, gi⟩, ⟨j, by omega, gj⟩⟩
    exact ⟨⟨X, hx, fun i => (h i).2.2.2.2.1, fun n => (both n).1⟩, ⟨Y, hy, fun i => (h i).2.2.2.2.2.1, fun n => (both n).2⟩⟩
  · rintro ⟨⟨r, h0, hs, hg⟩, ⟨r', h0', hs', hg'⟩⟩
    refine ⟨fun i => pnum b (r i) (r' i) (waits a b r r' i), ?_, fun i => ?_, fun n => ?_⟩
    · exact (hp.fs _).2 ⟨r 0, h0, r' 0, h0', rfl⟩
    · have := waits_lt a b r r' i
      exact (hp.ss _).2 ⟨_, hs i, _, hs' i, rfl, waits a b r r' i, this.1, this.2, rfl⟩
    · obtain ⟨m, hm, h2⟩ := waits_two (fun i => rfl) (waits_lt a b r r') hg hg' n
      have w := waits_lt a b r r' m
      have s := (ha.sr _ (hs m)).1
      have s' := (hb.sr _ (hs' m)).1
      exact ⟨m, hm, (hp.gs _ _ _ s.1 s.2 s'.1 s'.2 w.1 w.2).2 h2⟩
end Go.Proofs.Ytoglgeaiiipchab

namespace Go.Proofs.Ytoglgeaiiipchab

/-- sorted, each once, and just these -/
structure SortOf (raw ss : List Stp) : Prop where
  so : ssSorted ss
  mem : ∀ s, s ∈ ss ↔ s ∈ raw
  len : ss.length ≤ raw.length
/-- a strictly sorted row has each once -/
theorem sorted_nodup {ss : List Stp} (h : ssSorted ss) : ss.Nodup := h.imp (fun {s t} hst he => by
  subst he
  rw [stpLt_irrefl] at hst; cases hst)
/-- what a pair's steps are made of -/
noncomputable def pairStp (a b : Au) (t t' : Stp) (w : Int) : Stp := ⟨pnum b t.f t'.f w, t.l, pnum b t.t t'.t (pwait a b t.f t'.f w)⟩
noncomputable def pairFs (a b : Au) : List Int := a.fs.flatMap fun x => b.fs.map fun y => pnum b x y 0
def pairGs (n : Nat) : List Bool := (List.range (3 * n)).map fun i => decide (i % 3 = 2)
/-- is a row of raw steps what both step? -/
def PairRaw (a b : Au) (raw : List Stp) : Prop := ∀ s, s ∈ raw ↔ ∃ t ∈ a.ss, ∃ t' ∈ b.ss, t.l = t'.l ∧ ∃ w : Int, 0 ≤ w ∧ w < 3 ∧ s = pairStp a b t t' w
noncomputable def pairOf (a b : Au) (ss : List Stp) : Au := ⟨3 * a.st * b.st, a.le, pairFs a b, pairGs (a.st.toNat * b.st.toNat), ss⟩
theorem pnum_range {a b : Au} {x y w : Int} (hx : 0 ≤ x ∧ x < a.st) (hy : 0 ≤ y ∧ y < b.st) (hw : 0 ≤ w ∧ w < 3) : 0 ≤ pnum b x y w ∧ pnum b x y w < 3 * a.st * b.st := by
  unfold pnum
  have h1 : x * b.st ≤ (a.st - 1) * b.st := Int.mul_le_mul_of_nonneg_right (by omega) (by omega)
  have h2 : 0 ≤ x * b.st := Int.mul_nonneg hx.1 (by omega)
  rw [Int.sub_mul, Int.one_mul] at h1
  rw [Int.mul_assoc]
  omega
theorem pair_is {a b : Au} (ha : AuOK a) (hb : AuOK b) {raw ss : List Stp} (hr : PairRaw a b raw) (hs : SortOf raw ss) : PairOf a b (pairOf a b ss) := by
  refine ⟨rfl, fun q => ?_, fun x y w x0 x1 y0 y1 w0 w1 => ?_, fun s => ?_⟩
  · simp only [pairOf, pairFs, List.mem_flatMap, List.mem_map]
    constructor
    · rintro ⟨x, hx, y, hy, rfl⟩; exact ⟨x, hx, y, hy, rfl⟩
    · rintro ⟨x, hx, y, hy, rfl⟩; exact ⟨x, hx, y, hy, rfl⟩
  · have hp := pnum_range (a := a) (b := b) ⟨x0, x1⟩ ⟨y0, y1⟩ ⟨w0, w1⟩
    unfold Au.good pairOf pairGs
    simp only
    have e : (3 * a.st * b.st).toNat = 3 * (a.st.toNat * b.st.toNat) := by
      have h1 := ha.st1; have h2 := hb.st1
      have : (3 * a.st * b.st) = ((3 * (a.st.toNat * b.st.toNat) : Nat) : Int) := by
        rw [Int.natCast_mul, Int.natCast_mul, Int.toNat_of_nonneg (by omega), Int.toNat_of_nonneg (by omega), Int.mul_assoc]; rfl
      omega
    have hlt : (pnum b x y w).toNat < 3 * (a.st.toNat * b.st.toNat) := by omega
    rw [List.getD_eq_getElem?_getD, List.getElem?_map, List.getElem?_range hlt]
    simp only [Option.map_some, Option.getD_some, decide_eq_true_eq]
    have hm : (pnum b x y w).toNat % 3 = w.toNat := by
      have : pnum b x y w % 3 = w := by
        unfold pnum
        rw [Int.add_comm, Int.add_mul_emod_self_right]
        exact Int.emod_eq_of_lt w0 w1
      omega
    rw [hm]
    constructor
    · rintro ⟨_, h⟩; omega
    · intro h; exact ⟨hp.1, by omega⟩
  · show s ∈ ss ↔ _
    rw [hs.mem, hr]
    constructor
    · rintro ⟨t, ht, t', ht', hl, w, w0, w1, rfl⟩; exact ⟨t, ht, t', ht', hl, w, w0, w1, rfl⟩
    · rintro ⟨t, ht, t', ht', hl, w, w0, w1, rfl⟩; exact ⟨t, ht, t', ht', hl, w, w0, w1, rfl⟩
theorem pairFs_up {b : Au} (hb : b.fs.Pairwise (· < ·)) (hfb : ∀ f ∈ b.fs, 0 ≤ f ∧ f < b.st) : ∀ {l : List Int}, l.Pairwise (· < ·) → (l.flatMap fun x => b.fs.map fun y => pnum b x y 0).Pairwise (· < ·)
  | [], _ => .nil
  | x :: l, h => by
    have h1 := List.pairwise_cons.1 h
    rw [List.flatMap_cons, List.pairwise_append]
    refine ⟨?_, pairFs_up hb hfb h1.2, ?_⟩
    · rw [List.pairwise_map]
      refine hb.imp (fun {p q} hpq => ?_)
      unfold pnum; omega
    · intro p hp q hq
      obtain ⟨y, hy, rfl⟩ := List.mem_map.1 hp
      obtain ⟨x', hx', hq⟩ := List.mem_flatMap.1 hq
      obtain ⟨y', hy', rfl⟩ := List.mem_map.1 hq
      have e := h1.1 x' hx'
      have a1 := hfb y hy
      have a2 := hfb y' hy'
      have h3 : (x + 1) * b.st ≤ x' * b.st := Int.mul_le_mul_of_nonneg_right (by omega) (by omega)
      rw [Int.add_mul, Int.one_mul] at h3
      unfold pnum; omega
/-- right, as far as order and range go, however great -/
structure AuFit (a : Au) : Prop where
  st1 : 1 ≤ a.st
  le1 : 1 ≤ a.le
  le2 : a.le ≤ 8
  gl : (a.gs.length : Int) = a.st
  fr : ∀ f ∈ a.fs, 0 ≤ f ∧ f < a.st
  fo : a.fs.Pairwise (· < ·)
  sr : ∀ s ∈ a.ss, (0 ≤ s.f ∧ s.f < a.st) ∧ (0 ≤ s.t ∧ s.t < a.st) ∧ 0 ≤ s.l ∧ s.l < a.le
  so : ssSorted a.ss
theorem AuOK.fit {a : Au} (h : AuOK a) (hs : ssSorted a.ss) : AuFit a := ⟨h.st1, h.le1, h.le2, h.gl, h.fr, h.fo, h.sr, hs⟩
theorem AuFit.ok {a : Au} (h : AuFit a) (h1 : a.st ≤ 300) (h2 : a.ss.length ≤ 6000) : ckA a = 0 := ckA_zero.2 ⟨⟨h.st1, h1, h.le1, h.le2, h.gl, h2, h.fr, h.fo, h.sr⟩, h.so⟩
theorem pair_fit {a b : Au} (ha : AuFit a) (hb : AuFit b) {raw ss : List Stp} (hr : PairRaw a b raw) (hs : SortOf raw ss) : AuFit (pairOf a b ss) := by
  have a1 := ha.st1; have b1 := hb.st1
  have pos : 1 ≤ a.st * b.st := Int.le_trans (show (1 : Int) ≤ 1 * 1 by decide) (Int.mul_le_mul a1 b1 (by decide) (by omega))
  refine ⟨?_, ha.le1, ha.le2, ?_, ?_, pairFs_up hb.fo hb.fr ha.fo, ?_, hs.so⟩
  · show 1 ≤ 3 * a.st * b.st
    rw [Int.mul_assoc]; omega
  · show ((pairGs (a.st.toNat * b.st.toNat)).length : Int) = 3 * a.st * b.st
    unfold pairGs
    rw [List.length_map, List.length_range, Int.natCast_mul, Int.natCast_mul, Int.toNat_of_nonneg (by omega), Int.toNat_of_nonneg (by omega), Int.mul_assoc]; rfl
  · intro f hf
    obtain ⟨x, hx, hf⟩ := List.mem_flatMap.1 hf
    obtain ⟨y, hy, rfl⟩ := List.mem_map.1 hf
    exact pnum_range (ha.fr x hx) (hb.fr y hy) (by decide)
  · intro s hs'
    obtain ⟨t, ht, t', ht', hl, w, w0, w1, rfl⟩ := (hr s).1 ((hs.mem s).1 hs')
    have s1 := ha.sr t ht
    have s2 := hb.sr t' ht'
    exact ⟨pnum_range s1.1 s2.1 ⟨w0, w1⟩, pnum_range s1.2.1 s2.2.1 (pwait_lt _ _ _ _ _ ⟨w0, w1⟩), s1.2.2⟩
end Go.Proofs.Ytoglgeaiiipchab

namespace Go.Proofs.Ytoglgeaiiipchab

/-- one step from a state to another one -/
def Edge (a : Au) (x y : Int) : Prop := ∃ s ∈ a.ss, s.f = x ∧ s.t = y
inductive Path (a : Au) : Int → List Int → Int → Prop
  | one {x c y : Int} : (⟨x, c, y⟩ : Stp) ∈ a.ss → Path a x [c] y
  | cons {x c y z : Int} {cs : List Int} : (⟨x, c, y⟩ : Stp) ∈ a.ss → Path a y cs z → Path a x (c :: cs) z
theorem Path.snoc {a : Au} {x y z c : Int} {cs : List Int} (h : Path a x cs y) (hs : (⟨y, c, z⟩ : Stp) ∈ a.ss) : Path a x (cs ++ [c]) z := by
  induction h with
  | one h => exact .cons h (.one hs)
  | cons h _ ih => exact .cons h (ih hs)
theorem Path.pos {a : Au} {x z : Int} {cs : List Int} (h : Path a x cs z) : 0 < cs.length := by cases h <;> simp
theorem Path.letters {a : Au} (hf : AuFit a) {x z : Int} {cs : List Int} (h : Path a x cs z) : ∀ c ∈ cs, 0 ≤ c ∧ c < a.le := by
  induction h with
  | one h => intro c hc; simp only [List.mem_singleton] at hc; subst hc; exact (hf.sr _ h).2.2
  | cons h _ ih =>
    intro c hc
    rcases List.mem_cons.1 hc with rfl | hc
    · exact (hf.sr _ h).2.2
    · exact ih c hc
/-- a path is a way, where the word reads so -/
theorem Path.way {a : Au} {u : Nat → Int} {x z : Int} {cs : List Int} (h : Path a x cs z) : ∀ i, (∀ k, k < cs.length → u (i + k) = cs.getD k 0) → Way a u false i x (i + cs.length) z := by
  induction h with
  | @one x c y h =>
    intro i hu
    have := hu 0 (by simp)
    refine .go (.refl i x) ?_
    rw [Nat.add_zero] at this
    rw [this]; exact h
  | @cons x c y z cs h _ ih =>
    intro i hu
    have h0 := hu 0 (by simp)
    rw [Nat.add_zero] at h0
    have w1 : Way a u false i x (i + 1) y := .go (.refl i x) (by rw [h0]; exact h)
    have := ih (i + 1) (fun k hk => by
      have := hu (k + 1) (by simp; omega)
      rw [show i + 1 + k = i + (k + 1) by omega, this]
      rfl)
    have := w1.trans this
    rwa [show i + 1 + cs.length = i + (c :: cs).length by simp; omega] at this
/-- what is told: a head to a good state, a loop from it to itself -/
structure Told (a : Au) (l : La) : Prop where
  is : ∃ n : Int, a.good n ∧ (l.h = [] ∧ n ∈ a.fs ∨ ∃ f ∈ a.fs, Path a f l.h n) ∧ Path a n l.l n
  h : (l.h.length : Int) ≤ a.st
  l : (l.l.length : Int) ≤ a.st
theorem La.at_head {l : La} {k : Nat} (h : k < l.h.length) : l.at k = l.h.getD k 0 := by unfold La.at; rw [if_pos h]
theorem La.at_loop {l : La} {k : Nat} (h : k < l.l.length) : l.at (l.h.length + k) = l.l.getD k 0 := by
  unfold La.at
  rw [if_neg (by omega), show l.h.length + k - l.h.length = k by omega, Nat.mod_eq_of_lt h]
theorem Told.takes {a : Au} {l : La} (h : Told a l) : TakesU a l.at := by
  obtain ⟨n, hg, hh, hl⟩ := h.is
  have w2 := (hl.way (u := l.at) l.h.length (fun k hk => La.at_loop hk)).hit_end (by have := hl.pos; omega) hg
  have per : ∀ i, l.h.length ≤ i → l.at (i + l.l.length) = l.at i := fun i hi => by have := La.at_add (m := 1) hi; rwa [Nat.mul_one] at this
  rcases hh with ⟨h0, hn⟩ | ⟨f, hf, hp⟩
  · rw [h0] at w2 per
    exact takes_of_circle (k := 0) hn (.refl 0 n) w2 per
  · have w1 := hp.way (u := l.at) 0 (fun k hk => by rw [Nat.zero_add]; exact La.at_head hk)
    rw [Nat.zero_add] at w1
    exact takes_of_circle hf w1 w2 per
theorem Told.fits {a : Au} (hf : AuFit a) {l : La} (h : Told a l) : (∀ c ∈ l.h, 0 ≤ c ∧ c < a.le) ∧ (∀ c ∈ l.l, 0 ≤ c ∧ c < a.le) ∧ 0 < l.l.length := by
  obtain ⟨n, hg, hh, hl⟩ := h.is
  refine ⟨?_, hl.letters hf, hl.pos⟩
  rcases hh with ⟨h0, _⟩ | ⟨f, _, hp⟩
  · rw [h0]; intro c hc; simp at hc
  · exact hp.letters hf
/-- taken at all: some state that is good, can be come to, leads to itself -/
theorem takes_some {a : Au} (hf : AuFit a) {u : Nat → Int} (h : TakesU a u) : ∃ q : Int, (0 ≤ q ∧ q < a.st) ∧ Rch a q ∧ a.good q ∧ Plus (Edge a) q q := by
  obtain ⟨r, h0, hs, hg⟩ := h
  have hr : ∀ i, 0 ≤ r i ∧ r i < a.st := fun i => (hf.sr _ (hs i)).1
  have rch : ∀ i, Rch a (r i) := by
    intro i
    induction i with
    | zero => exact .first h0
    | succ i ih => exact .step (s := ⟨r i, u i, r (i + 1)⟩) ih (hs i)
  obtain ⟨g, _, hgr⟩ := rise (P := fun _ m => a.good (r m)) (fun n => by obtain ⟨m, h1, h2⟩ := hg (n + 1); exact ⟨m, h1, h2⟩) 0
  obtain ⟨i, j, hij, _, he⟩ := pigeon a.st.toNat (fun k => (r (g (k + 1))).toNat) (fun k _ => by have := hr (g (k + 1)); omega)
  have he : (r (g (i + 1))).toNat = (r (g (j + 1))).toNat := he
  have e2 : r (g (i + 1)) = r (g (j + 1)) := by
    have h2 := hr (g (i + 1))
    have h3 := hr (g (j + 1))
    omega
  have hlt := rise_lt (fun k => (hgr k).1) (show i + 1 < j + 1 by omega)
  refine ⟨r (g (i + 1)), hr _, rch _, (hgr i).2, ?_⟩
  have pl : ∀ d k, Plus (Edge a) (r k) (r (k + d + 1)) := by
    intro d
    induction d with
    | zero => intro k; exact .one ⟨_, hs k, rfl, rfl⟩
    | succ d ih => intro k; exact (ih k).on ⟨_, hs (k + d + 1), rfl, rfl⟩
  have := pl (g (j + 1) - g (i + 1) - 1) (g (i + 1))
  rwa [show g (i + 1) + (g (j + 1) - g (i + 1) - 1) + 1 = g (j + 1) by omega, ← e2] at this

theorem nodup_few : ∀ (N : Nat) (xs : List Nat), xs.Nodup → (∀ x ∈ xs, x < N) → xs.length ≤ N
  | 0, xs, _, h => by
    cases xs with
    | nil => simp
    | cons x xs => exact absurd (h x (by simp)) (by omega)
  | N + 1, xs, hn, h => by
    have h1 := nodup_few N (xs.filter (· != N)) (hn.filter _) (fun x hx => by
      obtain ⟨a1, a2⟩ := List.mem_filter.1 hx
      have := h x a1
      simp only [bne_iff_ne, ne_eq] at a2
      omega)
    have h2 : xs.length ≤ (xs.filter (· != N)).length + xs.count N := by
      clear h1 hn h
      induction xs with
      | nil => simp
      | cons y ys ih =>
        by_cases hy : y = N
        · subst hy; simp; omega
        · simp [hy]; omega
    have h3 : xs.count N ≤ 1 := List.nodup_iff_count.1 hn N
    omega
/-- by which step each state was first come to, the first one first -/
structure ByOK (a : Au) (fr : List Int) (D : List (Int × Stp)) : Prop where
  nd : (D.map Prod.fst).Nodup
  by_ : ∀ (i : Nat) (h : i < D.length), D[i].2 ∈ a.ss ∧ D[i].2.t = D[i].1 ∧ (D[i].2.f ∈ fr ∨ ∃ j, j < i ∧ ∃ h' : j < D.length, D[j].1 = D[i].2.f)
theorem ByOK.nil (a : Au) (fr : List Int) : ByOK a fr [] := ⟨.nil, fun i h => absurd h (by simp)⟩
theorem ByOK.add {a : Au} {fr : List Int} {D : List (Int × Stp)} (h : ByOK a fr D) {s : Stp} (hs : s ∈ a.ss) (hn : s.t ∉ D.map Prod.fst) (hf : s.f ∈ fr ∨ s.f ∈ D.map Prod.fst) : ByOK a fr (D ++ [(s.t, s)]) := by
  refine ⟨?_, fun i hi => ?_⟩
  · rw [List.map_append, List.nodup_append]
    refine ⟨h.nd, by simp, fun x hx y hy => ?_⟩
    simp only [List.map_cons, List.map_nil, List.mem_singleton] at hy
    rintro rfl; subst hy; exact hn hx
  · rw [List.length_append] at hi
    simp only [List.length_cons, List.length_nil] at hi
    rcases Nat.lt_or_ge i D.length with h1 | h1
    · rw [List.getElem_append_left h1]
      obtain ⟨a1, a2, a3⟩ := h.by_ i h1
      refine ⟨a1, a2, a3.imp id fun ⟨j, j1, j2, j3⟩ => ⟨j, j1, by rw [List.length_append]; omega, by rw [List.getElem_append_left j2]; exact j3⟩⟩
    · obtain rfl : i = D.length := by omega
      have e : (D ++ [(s.t, s)])[D.length]'(by rw [List.length_append]; simp) = (s.t, s) := by simp
      rw [e]
      refine ⟨hs, rfl, hf.imp id fun hm => ?_⟩
      obtain ⟨j, j1, j2⟩ := List.getElem_of_mem hm
      rw [List.length_map] at j1
      rw [List.getElem_map] at j2
      exact ⟨j, j1, by rw [List.length_append]; omega, by rw [List.getElem_append_left j1]; exact j2⟩
theorem ByOK.len {a : Au} (hf : AuFit a) {fr : List Int} {D : List (Int × Stp)} (h : ByOK a fr D) : (D.length : Int) ≤ a.st := by
  have h1 := hf.st1
  have key : ∀ (xs : List Int), xs.Nodup → (∀ x ∈ xs, 0 ≤ x ∧ x < a.st) → (xs.length : Int) ≤ a.st := by
    intro xs hx hr
    have hnd : (xs.map Int.toNat).Nodup := by
      unfold List.Nodup at *
      rw [List.pairwise_map]
      exact hx.imp_of_mem (fun {x y} hx hy hne he => hne (by have := hr x hx; have := hr y hy; omega))
    have := nodup_few a.st.toNat (xs.map Int.toNat) hnd (fun x hx => by
      obtain ⟨y, hy, rfl⟩ := List.mem_map.1 hx
      have := hr y hy
      omega)
    rw [List.length_map] at this
    omega
  have := key (D.map Prod.fst) h.nd (fun x hx => by
    obtain ⟨i, h1, h2⟩ := List.getElem_of_mem hx
    rw [List.length_map] at h1
    rw [List.getElem_map] at h2
    obtain ⟨a1, a2, _⟩ := h.by_ i h1
    have := (hf.sr _ a1).2.1
    rw [a2, h2] at this
    exact this)
  rwa [List.length_map] at this
/-- one look back: where the way to a state comes from -/
theorem ByOK.back {a : Au} {fr : List Int} {D : List (Int × Stp)} (h : ByOK a fr D) {first : Int → Bool} (hfr : ∀ x ∈ fr, first x = true) {i : Nat} (hi : i < D.length) (hno : first D[i].2.f = false) : ∃ j, j < i ∧ ∃ h' : j < D.length, D[j].1 = D[i].2.f := by
  rcases (h.by_ i hi).2.2 with h1 | h1
  · rw [hfr _ h1] at hno; cases hno
  · exact h1
theorem ByOK.at {a : Au} {fr : List Int} {D : List (Int × Stp)} (h : ByOK a fr D) {i : Nat} (hi : i < D.length) : D.find? (fun p => p.1 == D[i].1) = some D[i] := by
  have : ∀ (D : List (Int × Stp)), (D.map Prod.fst).Nodup → ∀ i (hi : i < D.length), D.find? (fun p => p.1 == D[i].1) = some D[i] := by
    intro D
    induction D with
    | nil => intro _ i hi; simp at hi
    | cons p D ih =>
      intro hnd i hi
      rw [List.map_cons, List.nodup_cons] at hnd
      cases i with
      | zero => simp
      | succ i =>
        have hi' : i < D.length := by simpa using hi
        rw [List.getElem_cons_succ, List.find?_cons_of_neg]
        · exact ih hnd.2 i hi'
        · simp only [beq_iff_eq]
          intro he
          exact hnd.1 (by rw [he]; exact List.mem_map.2 ⟨D[i], List.getElem_mem hi', rfl⟩)
  exact this D h.nd i hi
end Go.Proofs.Ytoglgeaiiipchab
