import Derived.Test.YtoglgeaiiipchaaGreatDoorLMTKM7
import Derived.Test.YtoglgeaiiipchaaGreatDoorLMTKM8
set_option linter.unusedSimpArgs false
set_option linter.unusedVariables false
namespace Go.Proofs.YtoglgeaiiipchaaGreatDoor
def tix (f : List Nd) (i : Nat) : Nat := ((f.take i).filter fun x => isTmp x.k).length
def tn (f : List Nd) : Nat := tix f f.length
def isFair (k : Int) : Bool := (k == 7) || (k == 8)
def fairs (f : List Nd) (n : Nat) : List Nat := (List.range n).filter fun i => isFair (f.getD i nond).k
def fair (f : List Nd) : List Nat := fairs f f.length
def trAt (f : List Nd) (c : Int) (nx : Nat) (out : List Bool) (i : Nat) : Bool :=
  let x := f.getD i nond
  let later := isTmp x.k && nx.testBit (tix f i)
  if x.k = 1 then true
  else if x.k = 2 then bitOf c x.n.toNat
  else if x.k = 3 then !out.getD x.a.toNat false
  else if x.k = 4 then out.getD x.a.toNat false && out.getD x.b.toNat false
  else if x.k = 5 then out.getD x.a.toNat false || out.getD x.b.toNat false
  else if x.k = 6 then later
  else if x.k = 7 then out.getD x.b.toNat false || out.getD x.a.toNat false && later
  else out.getD x.b.toNat false && (out.getD x.a.toNat false || later)
def trs (f : List Nd) (c : Int) (nx : Nat) : Nat → List Bool
  | 0 => []
  | k + 1 => trs f c nx k ++ [trAt f c nx (trs f c nx k) k]
def truths (f : List Nd) (c : Int) (nx : Nat) : List Bool := trs f c nx f.length
def keptV (f : List Nd) (t : List Bool) (i : Nat) : Bool := let x := f.getD i nond; if x.k = 6 then t.getD x.a.toNat false else t.getD i false
structure KeptIs (f : List Nd) (t : List Bool) (p : Nat) : Prop where
  lt : p < 2 ^ tn f
  bit : ∀ i, i < f.length → isTmp (f.getD i nond).k = true → p.testBit (tix f i) = keptV f t i
def calmV (f : List Nd) (t : List Bool) (i : Nat) : Bool := let x := f.getD i nond; if x.k = 7 then !t.getD i false || t.getD x.b.toNat false else t.getD i false || !t.getD x.b.toNat false
def adv (f : List Nd) (t : List Bool) : Nat → Nat → Nat
  | 0, w => w
  | m + 1, w => if w < (fair f).length ∧ calmV f t ((fair f).getD w 0) = true then adv f t m (w + 1) else w
def onW (f : List Nd) (t : List Bool) (w : Nat) : Nat := adv f t (fair f).length (if w = (fair f).length then 0 else w)
def tnum (f : List Nd) (p w : Nat) : Int := 1 + (p : Int) * ((fair f).length + 1) + w
def TabRaw (f : List Nd) (raw : List Stp) : Prop := ∀ s, s ∈ raw ↔ ∃ (c nx p : Nat), c < 8 ∧ nx < 2 ^ tn f ∧ KeptIs f (truths f c nx) p ∧
  ((∃ w, w ≤ (fair f).length ∧ s = ⟨tnum f p w, c, tnum f nx (onW f (truths f c nx) w)⟩) ∨
    ((truths f c nx).getD (f.length - 1) false = true ∧ s = ⟨0, c, tnum f nx (onW f (truths f c nx) 0)⟩))
def tabGs (f : List Nd) : List Bool := (List.range (2 ^ tn f * ((fair f).length + 1) + 1)).map fun i => decide (i ≠ 0 ∧ (i - 1) % ((fair f).length + 1) = (fair f).length)
def tabOf (f : List Nd) (ss : List Stp) : Au := ⟨tnum f (2 ^ tn f) 0, 8, [0], tabGs f, ss⟩
theorem tix_succ {f : List Nd} {i : Nat} (h : i < f.length) : tix f (i + 1) = tix f i + if isTmp (f.getD i nond).k = true then 1 else 0 := by
  unfold tix
  rw [List.take_succ_eq_append_getElem h, List.filter_append, List.length_append, List.getD_eq_getElem?_getD, List.getElem?_eq_getElem h]
  by_cases hx : isTmp f[i].k = true <;> simp [hx]
theorem tix_mono {f : List Nd} {i j : Nat} (h : i ≤ j) (hj : j ≤ f.length) : tix f i ≤ tix f j := by
  obtain ⟨d, rfl⟩ : ∃ d, j = i + d := ⟨j - i, by omega⟩
  induction d with
  | zero => exact Nat.le_refl _
  | succ d ih =>
    have := ih (by omega) (by omega)
    have := tix_succ (f := f) (i := i + d) (by omega)
    rw [← Nat.add_assoc]; omega
theorem tix_lt {f : List Nd} {i j : Nat} (hi : isTmp (f.getD i nond).k = true) (h : i < j) (hj : j ≤ f.length) : tix f i < tix f j := by
  have h1 := tix_succ (f := f) (i := i) (by omega)
  rw [if_pos hi] at h1
  have := tix_mono (f := f) (show i + 1 ≤ j by omega) hj
  omega
theorem tix_inj {f : List Nd} {i j : Nat} (hi : isTmp (f.getD i nond).k = true) (hj : isTmp (f.getD j nond).k = true) (hil : i < f.length) (hjl : j < f.length) (h : tix f i = tix f j) : i = j := by
  rcases Nat.lt_trichotomy i j with h1 | h1 | h1
  · have := tix_lt hi h1 (by omega); omega
  · exact h1
  · have := tix_lt hj h1 (by omega); omega
theorem tix_tn {f : List Nd} {i : Nat} (hi : i < f.length) (ht : isTmp (f.getD i nond).k = true) : tix f i < tn f := tix_lt ht hi (Nat.le_refl _)
theorem tix_onto {f : List Nd} : ∀ (n : Nat), n ≤ f.length → ∀ k, k < tix f n → ∃ i, i < n ∧ isTmp (f.getD i nond).k = true ∧ tix f i = k
  | 0, _, k, h => absurd h (by simp [tix])
  | n + 1, hn, k, h => by
    rw [tix_succ (by omega)] at h
    by_cases hk : k < tix f n
    · obtain ⟨i, h1, h2, h3⟩ := tix_onto n (by omega) k hk
      exact ⟨i, by omega, h2, h3⟩
    · split at h
      · rename_i ht; exact ⟨n, by omega, ht, by omega⟩
      · omega
theorem kept_unique {f : List Nd} {t : List Bool} {p q : Nat} (hp : KeptIs f t p) (hq : KeptIs f t q) : p = q := by
  refine Nat.eq_of_testBit_eq fun k => ?_
  by_cases hk : k < tn f
  · obtain ⟨i, h1, h2, rfl⟩ := tix_onto f.length (Nat.le_refl _) k hk
    rw [hp.bit i h1 h2, hq.bit i h1 h2]
  · have : 2 ^ tn f ≤ 2 ^ k := Nat.pow_le_pow_right (by decide) (by omega)
    have := hp.lt; have := hq.lt
    rw [Nat.testBit_lt_two_pow (by omega), Nat.testBit_lt_two_pow (by omega)]
theorem bits_ex (n : Nat) (v : Nat → Bool) : ∃ p, p < 2 ^ n ∧ ∀ k, k < n → p.testBit k = v k := by
  induction n with
  | zero => exact ⟨0, by simp, fun k h => absurd h (by omega)⟩
  | succ n ih =>
    obtain ⟨p, h1, h2⟩ := ih
    cases hv : v n with
    | false =>
      refine ⟨p, by rw [Nat.pow_succ]; omega, fun k hk => ?_⟩
      rcases Nat.lt_or_ge k n with h | h
      · exact h2 k h
      · obtain rfl : k = n := by omega
        rw [hv, Nat.testBit_lt_two_pow h1]
    | true =>
      refine ⟨2 ^ n + p, by rw [Nat.pow_succ]; omega, fun k hk => ?_⟩
      rcases Nat.lt_or_ge k n with h | h
      · rw [Nat.testBit_two_pow_add_gt h]; exact h2 k h
      · obtain rfl : k = n := by omega
        rw [hv, Nat.testBit_two_pow_add_eq, Nat.testBit_lt_two_pow h1]; rfl
theorem kept_ex (f : List Nd) (t : List Bool) : ∃ p, KeptIs f t p := by
  obtain ⟨p, h1, h2⟩ := bits_ex (tn f) (fun k => decide (∃ i, i < f.length ∧ isTmp (f.getD i nond).k = true ∧ tix f i = k ∧ keptV f t i = true))
  refine ⟨p, h1, fun i hi ht => ?_⟩
  rw [h2 _ (tix_tn hi ht)]
  cases hv : keptV f t i with
  | true => simp only [decide_eq_true_eq]; exact ⟨i, hi, ht, rfl, hv⟩
  | false =>
    simp only [decide_eq_false_iff_not, not_exists, not_and]
    intro j hj htj he hvj
    obtain rfl := tix_inj htj ht hj hi he
    rw [hv] at hvj; cases hvj
theorem trs_len (f : List Nd) (c : Int) (nx : Nat) : ∀ k, (trs f c nx k).length = k
  | 0 => rfl
  | k + 1 => by rw [trs, List.length_append, trs_len f c nx k]; rfl
theorem trs_get (f : List Nd) (c : Int) (nx : Nat) : ∀ (k i : Nat), i < k → (trs f c nx k).getD i false = trAt f c nx (trs f c nx i) i
  | 0, i, h => absurd h (by omega)
  | k + 1, i, h => by
    rw [trs, List.getD_eq_getElem?_getD]
    rcases Nat.lt_or_ge i k with h1 | h1
    · rw [List.getElem?_append_left (by rw [trs_len]; exact h1), ← List.getD_eq_getElem?_getD]
      exact trs_get f c nx k i h1
    · obtain rfl : i = k := by omega
      rw [List.getElem?_append_right (by rw [trs_len]; exact Nat.le_refl _), trs_len]
      simp
theorem truth_at {f : List Nd} (hf : FmOK f) {c : Int} {nx i : Nat} (hi : i < f.length) : (truths f c nx).getD i false = trAt f c nx (truths f c nx) i := by
  have hx := ndErr_zero.1 (hf.nd i hi)
  have e : f.getD i nond = f[i] := by rw [List.getD_eq_getElem?_getD, List.getElem?_eq_getElem hi]; rfl
  have h1 : (truths f c nx).getD i false = trAt f c nx (trs f c nx i) i := trs_get f c nx f.length i hi
  rw [h1]
  have ge : ∀ j, j < i → (trs f c nx i).getD j false = (truths f c nx).getD j false := fun j hj => by
    unfold truths
    rw [trs_get f c nx i j hj, trs_get f c nx f.length j (by omega)]
  unfold trAt
  rw [e]
  have ha : 3 ≤ f[i].k → (trs f c nx i).getD f[i].a.toNat false = (truths f c nx).getD f[i].a.toNat false := fun h => by
    have := hx.a h
    exact ge _ (by omega)
  have hb : (f[i].k = 4 ∨ f[i].k = 5 ∨ f[i].k = 7 ∨ f[i].k = 8) → (trs f c nx i).getD f[i].b.toNat false = (truths f c nx).getD f[i].b.toNat false := fun h => by
    have := hx.b h
    exact ge _ (by omega)
  have hk := hx.k
  simp only
  split
  · rfl
  · split
    · rfl
    · split
      · rw [ha (by omega)]
      · split
        · rw [ha (by omega), hb (by omega)]
        · split
          · rw [ha (by omega), hb (by omega)]
          · split
            · rfl
            · split
              · rw [ha (by omega), hb (by omega)]
              · rw [ha (by omega), hb (by omega)]
theorem sem_at {f : List Nd} (hf : FmOK f) {u : Nat → Int} {i m : Nat} (hi : i < f.length) : ((treeAt f i).sem u m ↔
    let x := f.getD i nond
    if x.k = 1 then True
    else if x.k = 2 then bitOf (u m) x.n.toNat = true
    else if x.k = 3 then ¬ (treeAt f x.a.toNat).sem u m
    else if x.k = 4 then (treeAt f x.a.toNat).sem u m ∧ (treeAt f x.b.toNat).sem u m
    else if x.k = 5 then (treeAt f x.a.toNat).sem u m ∨ (treeAt f x.b.toNat).sem u m
    else if x.k = 6 then (treeAt f x.a.toNat).sem u (m + 1)
    else if x.k = 7 then ∃ j, m ≤ j ∧ (treeAt f x.b.toNat).sem u j ∧ ∀ q, m ≤ q → q < j → (treeAt f x.a.toNat).sem u q
    else ∀ j, m ≤ j → (treeAt f x.b.toNat).sem u j ∨ ∃ q, m ≤ q ∧ q < j ∧ (treeAt f x.a.toNat).sem u q) := by
  have hx := ndErr_zero.1 (hf.nd i hi)
  have e : f.getD i nond = f[i] := by rw [List.getD_eq_getElem?_getD, List.getElem?_eq_getElem hi]; rfl
  rw [show treeAt f i = treeN (treesOf f i) (f.getD i nond) from rfl]
  unfold treeN
  rw [e]
  have ha : 3 ≤ f[i].k → (treesOf f i).getD f[i].a.toNat .tt = treeAt f f[i].a.toNat := fun h => by
    have := hx.a h
    exact treesOf_get _ _ _ (by omega)
  have hb : (f[i].k = 4 ∨ f[i].k = 5 ∨ f[i].k = 7 ∨ f[i].k = 8) → (treesOf f i).getD f[i].b.toNat .tt = treeAt f f[i].b.toNat := fun h => by
    have := hx.b h
    exact treesOf_get _ _ _ (by omega)
  have hk := hx.k
  generalize f[i] = x at *
  by_cases h1 : x.k = 1
  · simp only [h1, if_true, Fm.sem]
  by_cases h2 : x.k = 2
  · simp only [h2, show ¬ (2 : Int) = 1 by decide, if_true, if_false, Fm.sem]
  by_cases h3 : x.k = 3
  · simp only [h3, show ¬ (3 : Int) = 1 by decide, show ¬ (3 : Int) = 2 by decide, if_true, if_false, Fm.sem, ha (by omega)]
  by_cases h6 : x.k = 6
  · simp only [h6, show ¬ (6 : Int) = 1 by decide, show ¬ (6 : Int) = 2 by decide, show ¬ (6 : Int) = 3 by decide, show ¬ (6 : Int) = 4 by decide, show ¬ (6 : Int) = 5 by decide, if_true, if_false, Fm.sem, ha (by omega)]
  have hb := hb (by omega)
  have ha := ha (by omega)
  simp only [h1, h2, h3, h6, if_false, ha, hb, Fm.sem]
structure Reads (f : List Nd) (u : Nat → Int) (T : Nat → List Bool) (P : Nat → Nat) : Prop where
  tr : ∀ m, T m = truths f (u m) (P (m + 1))
  kp : ∀ m, KeptIs f (T (m + 1)) (P (m + 1))
  fa : ∀ w, w < (fair f).length → ∀ n, ∃ m, n ≤ m ∧ calmV f (T m) ((fair f).getD w 0) = true
theorem fair_mem {f : List Nd} {i : Nat} (hi : i < f.length) (hk : (f.getD i nond).k = 7 ∨ (f.getD i nond).k = 8) : ∃ w, w < (fair f).length ∧ (fair f).getD w 0 = i := by
  have : i ∈ fair f := by
    unfold fair fairs isFair
    rw [List.mem_filter]
    exact ⟨List.mem_range.2 hi, by simpa using hk⟩
  obtain ⟨w, h1, h2⟩ := List.getElem_of_mem this
  exact ⟨w, h1, by rw [getD_lt h1]; exact h2⟩
theorem isTmp_iff {k : Int} : isTmp k = true ↔ 6 ≤ k ∧ k ≤ 8 := btw_iff k 6 8
theorem reads_sem {f : List Nd} (hf : FmOK f) {u : Nat → Int} {T : Nat → List Bool} {P : Nat → Nat} (h : Reads f u T P) : ∀ i, i < f.length → ∀ m, ((T m).getD i false = true ↔ (treeAt f i).sem u m) := by
  intro i
  induction i using Nat.strongRecOn with
  | _ i ih =>
    intro hi
    have hx := ndErr_zero.1 (hf.nd i hi)
    have e : f.getD i nond = f[i] := by rw [List.getD_eq_getElem?_getD, List.getElem?_eq_getElem hi]; rfl
    have step : ∀ m, (T m).getD i false = trAt f (u m) (P (m + 1)) (T m) i := fun m => by
      have := truth_at (c := u m) (nx := P (m + 1)) hf hi
      rwa [← h.tr m] at this
    have hfa := fair_mem hi
    have hkp := fun m => (h.kp m).bit i hi
    simp only [sem_at hf hi]
    unfold trAt at step
    unfold keptV at hkp
    rw [e] at step hkp hfa ⊢
    have ha : 3 ≤ f[i].k → ∀ m, (T m).getD f[i].a.toNat false = true ↔ (treeAt f f[i].a.toNat).sem u m := fun h => by
      have := hx.a h
      exact ih _ (by omega) (by omega)
    have hb : (f[i].k = 4 ∨ f[i].k = 5 ∨ f[i].k = 7 ∨ f[i].k = 8) → ∀ m, (T m).getD f[i].b.toNat false = true ↔ (treeAt f f[i].b.toNat).sem u m := fun h => by
      have := hx.b h
      exact ih _ (by omega) (by omega)
    have calm : ∀ w, (fair f).getD w 0 = i → ∀ m, calmV f (T m) ((fair f).getD w 0) = if f[i].k = 7 then !(T m).getD i false || (T m).getD f[i].b.toNat false else (T m).getD i false || !(T m).getD f[i].b.toNat false := fun w hw m => by
      unfold calmV
      rw [hw, e]
    have hk := hx.k
    generalize f[i] = x at *
    simp only at step
    by_cases h1 : x.k = 1
    · intro m; rw [step]; simp [h1]
    by_cases h2 : x.k = 2
    · intro m; rw [step]; simp [h2]
    by_cases h3 : x.k = 3
    · intro m; rw [step]
      simp only [h3, show ¬ (3 : Int) = 1 by decide, show ¬ (3 : Int) = 2 by decide, if_true, if_false]
      rw [Bool.not_eq_true', ← ha (by omega)]
      exact Bool.not_eq_true _ ▸ Iff.rfl
    have ha := ha (by omega)
    by_cases h6 : x.k = 6
    · intro m; rw [step]
      have ht : isTmp x.k = true := isTmp_iff.2 (by omega)
      have := hkp m ht
      simp only [h6, if_true] at this
      simp only [h6, show ¬ (6 : Int) = 1 by decide, show ¬ (6 : Int) = 2 by decide, show ¬ (6 : Int) = 3 by decide, show ¬ (6 : Int) = 4 by decide, show ¬ (6 : Int) = 5 by decide, if_true, if_false]
      rw [this, show isTmp 6 = true from rfl, Bool.true_and]
      exact ha (m + 1)
    have hb := hb (by omega)
    by_cases h4 : x.k = 4
    · intro m; rw [step]
      simp only [h4, show ¬ (4 : Int) = 1 by decide, show ¬ (4 : Int) = 2 by decide, show ¬ (4 : Int) = 3 by decide, if_true, if_false, Bool.and_eq_true, ha, hb]
    by_cases h5 : x.k = 5
    · intro m; rw [step]
      simp only [h5, show ¬ (5 : Int) = 1 by decide, show ¬ (5 : Int) = 2 by decide, show ¬ (5 : Int) = 3 by decide, show ¬ (5 : Int) = 4 by decide, if_true, if_false, Bool.or_eq_true, ha, hb]
    have ht : isTmp x.k = true := isTmp_iff.2 (by omega)
    have hkp := fun m => hkp m ht
    simp only [h6, if_false] at hkp
    obtain ⟨w, hw, hwi⟩ := hfa (by omega)
    have hfair := h.fa w hw
    simp only [calm w hwi] at hfair
    simp only [h1, h2, h3, h4, h5, h6, if_false] at step ⊢
    by_cases h7 : x.k = 7
    · simp only [h7, if_true, if_false, show isTmp 7 = true from rfl, Bool.true_and] at step hfair ⊢
      have step : ∀ m, ((T m).getD i false = true ↔ (treeAt f x.b.toNat).sem u m ∨ (treeAt f x.a.toNat).sem u m ∧ (T (m + 1)).getD i false = true) := fun m => by
        rw [step m, hkp m, Bool.or_eq_true, Bool.and_eq_true, ha, hb]
      have hfair : ∀ n, ∃ m, n ≤ m ∧ ((T m).getD i false = true → (treeAt f x.b.toNat).sem u m) := fun n => by
        obtain ⟨m, h1, h2⟩ := hfair n
        refine ⟨m, h1, fun h => ?_⟩
        rw [h] at h2
        exact (hb m).1 (by simpa using h2)
      generalize (treeAt f x.a.toNat).sem u = A at *
      generalize (treeAt f x.b.toNat).sem u = B at *
      intro m
      constructor
      · intro hm
        obtain ⟨n, hn, hc⟩ := hfair m
        apply Classical.byContradiction
        intro hno
        have all : ∀ d, (T (m + d)).getD i false = true ∧ ∀ q, m ≤ q → q < m + d → A q := by
          intro d
          induction d with
          | zero => exact ⟨hm, fun q h1 h2 => absurd h2 (by omega)⟩
          | succ d ihd =>
            rcases (step _).1 ihd.1 with hB | ⟨hA, hT⟩
            · exact absurd ⟨m + d, by omega, hB, ihd.2⟩ hno
            · refine ⟨hT, fun q h1 h2 => ?_⟩
              rcases Nat.lt_or_ge q (m + d) with h3 | h3
              · exact ihd.2 q h1 h3
              · obtain rfl : q = m + d := by omega
                exact hA
        have := all (n - m)
        rw [show m + (n - m) = n by omega] at this
        exact hno ⟨n, hn, hc this.1, this.2⟩
      · rintro ⟨j, hj, hB, hA⟩
        have : ∀ d, d ≤ j - m → (T (j - d)).getD i false = true := by
          intro d
          induction d with
          | zero => intro _; exact (step _).2 (.inl hB)
          | succ d ihd =>
            intro hd
            refine (step _).2 (.inr ⟨hA _ (by omega) (by omega), ?_⟩)
            have := ihd (by omega)
            rwa [show j - (d + 1) + 1 = j - d by omega]
        have := this (j - m) (Nat.le_refl _)
        rwa [show j - (j - m) = m by omega] at this
    · simp only [h7, if_false, ht, Bool.true_and] at step hfair ⊢
      have step : ∀ m, ((T m).getD i false = true ↔ (treeAt f x.b.toNat).sem u m ∧ ((treeAt f x.a.toNat).sem u m ∨ (T (m + 1)).getD i false = true)) := fun m => by
        rw [step m, hkp m, Bool.and_eq_true, Bool.or_eq_true, ha, hb]
      have hfair : ∀ n, ∃ m, n ≤ m ∧ ((treeAt f x.b.toNat).sem u m → (T m).getD i false = true) := fun n => by
        obtain ⟨m, h1, h2⟩ := hfair n
        refine ⟨m, h1, fun h => ?_⟩
        rw [(hb m).2 h] at h2
        simpa using h2
      generalize (treeAt f x.a.toNat).sem u = A at *
      generalize (treeAt f x.b.toNat).sem u = B at *
      intro m
      constructor
      · intro hm j hj
        apply Classical.byContradiction
        intro hno
        simp only [not_or, not_exists, not_and] at hno
        have all : ∀ d, d ≤ j - m → (T (m + d)).getD i false = true := by
          intro d
          induction d with
          | zero => intro _; exact hm
          | succ d ihd =>
            intro hd
            rcases ((step _).1 (ihd (by omega))).2 with hA | hT
            · exact absurd hA (hno.2 _ (by omega) (by omega))
            · exact hT
        have := all (j - m) (Nat.le_refl _)
        rw [show m + (j - m) = j by omega] at this
        exact hno.1 ((step _).1 this).1
      · intro hs
        apply Classical.byContradiction
        intro hm
        have all : ∀ d, (T (m + d)).getD i false ≠ true ∧ ∀ q, m ≤ q → q < m + d → ¬ A q := by
          intro d
          induction d with
          | zero => exact ⟨hm, fun q h1 h2 => absurd h2 (by omega)⟩
          | succ d ihd =>
            have hB : B (m + d) := (hs (m + d) (by omega)).resolve_right (fun ⟨q, h1, h2, h3⟩ => ihd.2 q h1 h2 h3)
            have hnA : ¬ A (m + d) := fun hA => ihd.1 ((step _).2 ⟨hB, .inl hA⟩)
            refine ⟨fun hT => ihd.1 ((step _).2 ⟨hB, .inr hT⟩), fun q h1 h2 => ?_⟩
            rcases Nat.lt_or_ge q (m + d) with h3 | h3
            · exact ihd.2 q h1 h3
            · obtain rfl : q = m + d := by omega
              exact hnA
        obtain ⟨n, hn, hc⟩ := hfair m
        have := all (n - m)
        rw [show m + (n - m) = n by omega] at this
        have hB : B n := (hs n hn).resolve_right (fun ⟨q, h1, h2, h3⟩ => this.2 q h1 h2 h3)
        exact this.1 (hc hB)
end Go.Proofs.YtoglgeaiiipchaaGreatDoor

namespace Go.Proofs.YtoglgeaiiipchaaGreatDoor
theorem tnum_inj {f : List Nd} {p w p' w' : Nat} (hw : w ≤ (fair f).length) (hw' : w' ≤ (fair f).length) (h : tnum f p w = tnum f p' w') : p = p' ∧ w = w' := by
  unfold tnum at h
  have h : p * ((fair f).length + 1) + w = p' * ((fair f).length + 1) + w' := by
    have : ((p * ((fair f).length + 1) + w : Nat) : Int) = ((p' * ((fair f).length + 1) + w' : Nat) : Int) := by
      rw [Int.natCast_add, Int.natCast_add, Int.natCast_mul, Int.natCast_mul, Int.natCast_add]; simp only [Int.natCast_one]; omega
    exact Int.ofNat.inj this
  have hw1 : w < (fair f).length + 1 := by omega
  have hw1' : w' < (fair f).length + 1 := by omega
  generalize (fair f).length + 1 = n at *
  have d : ∀ q v : Nat, v < n → (q * n + v) / n = q := fun q v hv => by
    rw [Nat.add_comm, Nat.add_mul_div_right _ _ (by omega), Nat.div_eq_of_lt hv]; omega
  have e : p = p' := by rw [← d p w hw1, h, d p' w' hw1']
  subst e
  exact ⟨rfl, by omega⟩
theorem tnum_pos (f : List Nd) (p w : Nat) : 1 ≤ tnum f p w := by
  unfold tnum
  have : (0 : Int) ≤ (p : Int) * ((fair f).length + 1) := Int.mul_nonneg (by omega) (by omega)
  omega
theorem adv_le {f : List Nd} {t : List Bool} : ∀ (m w : Nat), w ≤ (fair f).length → adv f t m w ≤ (fair f).length
  | 0, w, h => h
  | m + 1, w, h => by
    unfold adv
    split
    · rename_i h1; exact adv_le m (w + 1) (by omega)
    · exact h
theorem adv_ge {f : List Nd} {t : List Bool} : ∀ (m w : Nat), w ≤ adv f t m w
  | 0, w => Nat.le_refl _
  | m + 1, w => by
    unfold adv
    split
    · have := adv_ge (f := f) (t := t) m (w + 1); omega
    · exact Nat.le_refl _
theorem adv_stop {f : List Nd} {t : List Bool} {w : Nat} (hc : calmV f t ((fair f).getD w 0) = false) : ∀ (m v : Nat), v ≤ w → adv f t m v ≤ w
  | 0, v, h => h
  | m + 1, v, h => by
    unfold adv
    split
    · rename_i h1
      rcases Nat.eq_or_lt_of_le h with rfl | h2
      · rw [hc] at h1; exact absurd h1.2 (by simp)
      · exact adv_stop hc m (v + 1) h2
    · exact h
theorem onW_le {f : List Nd} {t : List Bool} {w : Nat} (h : w ≤ (fair f).length) : onW f t w ≤ (fair f).length := by
  unfold onW
  refine adv_le _ _ ?_
  split <;> omega
theorem waits_fair {f : List Nd} {T : Nat → List Bool} {W : Nat → Nat} (hW : ∀ m, W (m + 1) = onW f (T m) (W m)) (hg : ∀ n, ∃ m, n ≤ m ∧ W m = (fair f).length) {w : Nat} (hw : w < (fair f).length) (n : Nat) : ∃ m, n ≤ m ∧ calmV f (T m) ((fair f).getD w 0) = true := by
  apply Classical.byContradiction
  intro hno
  have hno : ∀ m, n ≤ m → calmV f (T m) ((fair f).getD w 0) = false := fun m hm => by
    cases h : calmV f (T m) ((fair f).getD w 0) with
    | false => rfl
    | true => exact absurd ⟨m, hm, h⟩ hno
  obtain ⟨m1, h1, h2⟩ := hg n
  have all : ∀ d, W (m1 + 1 + d) ≤ w := by
    intro d
    induction d with
    | zero =>
      rw [Nat.add_zero, hW, h2]
      unfold onW
      rw [if_pos rfl]
      exact adv_stop (hno m1 h1) _ _ (Nat.zero_le _)
    | succ d ih =>
      rw [← Nat.add_assoc, hW]
      unfold onW
      rw [if_neg (by omega)]
      exact adv_stop (hno _ (by omega)) _ _ ih
  obtain ⟨m2, h3, h4⟩ := hg (m1 + 1)
  have := all (m2 - (m1 + 1))
  rw [show m1 + 1 + (m2 - (m1 + 1)) = m2 by omega, h4] at this
  omega
theorem waits_come {f : List Nd} {T : Nat → List Bool} {W : Nat → Nat} (hW : ∀ m, W (m + 1) = onW f (T m) (W m)) (hle : ∀ m, W m ≤ (fair f).length) (hf : ∀ w, w < (fair f).length → ∀ n, ∃ m, n ≤ m ∧ calmV f (T m) ((fair f).getD w 0) = true) (n : Nat) : ∃ m, n ≤ m ∧ W m = (fair f).length := by
  have : ∀ d n, (fair f).length - W n = d → ∃ m, n ≤ m ∧ W m = (fair f).length := by
    intro d
    induction d using Nat.strongRecOn with
    | _ d ih =>
      intro n hd
      have hn := hle n
      by_cases hw : W n = (fair f).length
      · exact ⟨n, Nat.le_refl _, hw⟩
      obtain ⟨m0, a1, a2⟩ := hf (W n) (by omega) n
      obtain ⟨m, b1, b2, b3⟩ := first_from (P := fun i => calmV f (T i) ((fair f).getD (W n) 0) = true) a1 a2
      have stay : ∀ k, n + k ≤ m → W (n + k) = W n := by
        intro k
        induction k with
        | zero => intro _; rfl
        | succ k ihk =>
          intro hk
          have e := ihk (by omega)
          rw [← Nat.add_assoc, hW, e]
          unfold onW
          rw [if_neg hw]
          have hc : calmV f (T (n + k)) ((fair f).getD (W n) 0) = false := by
            cases h : calmV f (T (n + k)) ((fair f).getD (W n) 0) with
            | false => rfl
            | true => exact absurd h (b3 _ (by omega) (by omega))
          have h1 := adv_stop hc (fair f).length (W n) (Nat.le_refl _)
          have h2 := adv_ge (f := f) (t := T (n + k)) (fair f).length (W n)
          omega
      have e := stay (m - n) (by omega)
      rw [show n + (m - n) = m by omega] at e
      have hgt : W n + 1 ≤ W (m + 1) := by
        rw [hW, e]
        unfold onW
        rw [if_neg hw]
        obtain ⟨q, hq⟩ : ∃ q, (fair f).length = q + 1 := ⟨(fair f).length - 1, by omega⟩
        rw [hq]
        unfold adv
        rw [if_pos ⟨by omega, b2⟩]
        exact adv_ge _ _
      have := hle (m + 1)
      obtain ⟨m', c1, c2⟩ := ih ((fair f).length - W (m + 1)) (by omega) (m + 1) rfl
      exact ⟨m', by omega, c2⟩
  exact this _ n rfl
theorem tab_good {f : List Nd} {ss : List Stp} {p w : Nat} (hp : p < 2 ^ tn f) (hw : w ≤ (fair f).length) : (tabOf f ss).good (tnum f p w) ↔ w = (fair f).length := by
  have h1 : (tnum f p w).toNat = p * ((fair f).length + 1) + w + 1 := by
    have : tnum f p w = ((p * ((fair f).length + 1) + w + 1 : Nat) : Int) := by
      unfold tnum
      rw [Int.natCast_add, Int.natCast_add, Int.natCast_mul, Int.natCast_add]; simp only [Int.natCast_one]; omega
    omega
  have h2 : (p + 1) * ((fair f).length + 1) ≤ 2 ^ tn f * ((fair f).length + 1) := Nat.mul_le_mul_right _ hp
  rw [Nat.succ_mul] at h2
  unfold Au.good tabOf tabGs
  simp only
  rw [h1, List.getD_eq_getElem?_getD, List.getElem?_map, List.getElem?_range (by omega)]
  simp only [Option.map_some, Option.getD_some, decide_eq_true_eq]
  have h3 : (p * ((fair f).length + 1) + w + 1 - 1) % ((fair f).length + 1) = w := by
    rw [Nat.add_sub_cancel, Nat.add_comm, Nat.add_mul_mod_self_right]
    exact Nat.mod_eq_of_lt (by omega)
  rw [h3]
  have := tnum_pos f p w
  constructor
  · rintro ⟨_, _, h⟩; exact h
  · intro h; exact ⟨by omega, by omega, h⟩
open Classical in
noncomputable def semT (f : List Nd) (u : Nat → Int) (m : Nat) : List Bool := (List.range f.length).map fun i => decide ((treeAt f i).sem u m)
theorem semT_len (f : List Nd) (u : Nat → Int) (m : Nat) : (semT f u m).length = f.length := by simp [semT]
theorem semT_get {f : List Nd} {u : Nat → Int} {m i : Nat} (hi : i < f.length) : (semT f u m).getD i false = true ↔ (treeAt f i).sem u m := by
  unfold semT
  rw [List.getD_eq_getElem?_getD, List.getElem?_map, List.getElem?_range hi]
  simp
theorem bool_iff {a b : Bool} (h : a = true ↔ b = true) : a = b := by cases a <;> cases b <;> simp_all
theorem semT_reads {f : List Nd} (hf : FmOK f) {u : Nat → Int} {P : Nat → Nat} (hP : ∀ m, KeptIs f (semT f u m) (P m)) (m : Nat) : semT f u m = truths f (u m) (P (m + 1)) := by
  have hl : (truths f (u m) (P (m + 1))).length = f.length := trs_len _ _ _ _
  have key : ∀ i, i < f.length → (semT f u m).getD i false = (truths f (u m) (P (m + 1))).getD i false := by
    intro i
    induction i using Nat.strongRecOn with
    | _ i ih =>
      intro hi
      refine bool_iff ?_
      rw [semT_get hi, truth_at hf hi, sem_at hf hi]
      have hkp := (hP (m + 1)).bit i hi
      have hself : (semT f u (m + 1)).getD i false = true ↔ (treeAt f i).sem u (m + 1) := semT_get hi
      have hsem := fun k => sem_at hf (u := u) (m := k) hi
      unfold trAt
      unfold keptV at hkp
      have hx := ndErr_zero.1 (hf.nd i hi)
      have e : f.getD i nond = f[i] := by rw [List.getD_eq_getElem?_getD, List.getElem?_eq_getElem hi]; rfl
      rw [e] at hkp hsem ⊢
      have ha : 3 ≤ f[i].k → ((truths f (u m) (P (m + 1))).getD f[i].a.toNat false = true ↔ (treeAt f f[i].a.toNat).sem u m) := fun h => by
        have := hx.a h
        rw [← ih _ (by omega) (by omega)]
        exact semT_get (by omega)
      have hb : (f[i].k = 4 ∨ f[i].k = 5 ∨ f[i].k = 7 ∨ f[i].k = 8) → ((truths f (u m) (P (m + 1))).getD f[i].b.toNat false = true ↔ (treeAt f f[i].b.toNat).sem u m) := fun h => by
        have := hx.b h
        rw [← ih _ (by omega) (by omega)]
        exact semT_get (by omega)
      have ha' : 3 ≤ f[i].k → ((semT f u (m + 1)).getD f[i].a.toNat false = true ↔ (treeAt f f[i].a.toNat).sem u (m + 1)) := fun h => by
        have := hx.a h
        exact semT_get (by omega)
      have hk := hx.k
      generalize f[i] = x at *
      simp only
      by_cases h1 : x.k = 1
      · simp [h1]
      by_cases h2 : x.k = 2
      · simp [h2]
      by_cases h3 : x.k = 3
      · simp only [h3, show ¬ (3 : Int) = 1 by decide, show ¬ (3 : Int) = 2 by decide, if_true, if_false]
        rw [Bool.not_eq_true', ← ha (by omega)]
        exact Bool.not_eq_true _ ▸ Iff.rfl
      have ha := ha (by omega)
      by_cases h6 : x.k = 6
      · have := hkp (isTmp_iff.2 (by omega))
        simp only [h6, if_true] at this
        simp only [h6, show ¬ (6 : Int) = 1 by decide, show ¬ (6 : Int) = 2 by decide, show ¬ (6 : Int) = 3 by decide, show ¬ (6 : Int) = 4 by decide, show ¬ (6 : Int) = 5 by decide, if_true, if_false]
        rw [this, show isTmp 6 = true from rfl, Bool.true_and]
        exact (ha' (by omega)).symm
      have hb := hb (by omega)
      by_cases h4 : x.k = 4
      · simp only [h4, show ¬ (4 : Int) = 1 by decide, show ¬ (4 : Int) = 2 by decide, show ¬ (4 : Int) = 3 by decide, if_true, if_false, Bool.and_eq_true, ha, hb]
      by_cases h5 : x.k = 5
      · simp only [h5, show ¬ (5 : Int) = 1 by decide, show ¬ (5 : Int) = 2 by decide, show ¬ (5 : Int) = 3 by decide, show ¬ (5 : Int) = 4 by decide, if_true, if_false, Bool.or_eq_true, ha, hb]
      have ht : isTmp x.k = true := isTmp_iff.2 (by omega)
      have hkp := hkp ht
      simp only [h6, if_false] at hkp
      simp only [h1, h2, h3, h4, h5, h6, if_false, hkp, ht, Bool.true_and] at hsem ⊢
      by_cases h7 : x.k = 7
      · simp only [h7, if_true, Bool.or_eq_true, Bool.and_eq_true, ha, hb, hself] at hsem ⊢
        rw [hsem (m + 1)]
        constructor
        · rintro ⟨j, a1, a2, a3⟩
          rcases Nat.eq_or_lt_of_le a1 with rfl | a4
          · exact .inl a2
          · exact .inr ⟨a3 m (Nat.le_refl _) a4, j, a4, a2, fun q q1 q2 => a3 q (by omega) q2⟩
        · rintro (a | ⟨a, j, a1, a2, a3⟩)
          · exact ⟨m, Nat.le_refl _, a, fun q q1 q2 => absurd q2 (by omega)⟩
          · refine ⟨j, by omega, a2, fun q q1 q2 => ?_⟩
            rcases Nat.eq_or_lt_of_le q1 with rfl | q3
            · exact a
            · exact a3 q q3 q2
      · simp only [h7, if_false, Bool.or_eq_true, Bool.and_eq_true, ha, hb, hself] at hsem ⊢
        rw [hsem (m + 1)]
        constructor
        · intro hx
          refine ⟨(hx m (Nat.le_refl _)).resolve_right (fun ⟨q, q1, q2, _⟩ => by omega), ?_⟩
          by_cases hA : (treeAt f x.a.toNat).sem u m
          · exact .inl hA
          · refine .inr fun j hj => (hx j (by omega)).imp id fun ⟨q, q1, q2, q3⟩ => ⟨q, ?_, q2, q3⟩
            rcases Nat.eq_or_lt_of_le q1 with rfl | q4
            · exact absurd q3 hA
            · exact q4
        · rintro ⟨hB, hor⟩ j hj
          rcases Nat.eq_or_lt_of_le hj with rfl | h4
          · exact .inl hB
          · rcases hor with hA | hR
            · exact .inr ⟨m, Nat.le_refl _, h4, hA⟩
            · exact (hR j h4).imp id fun ⟨q, q1, q2, q3⟩ => ⟨q, by omega, q2, q3⟩
  refine List.ext_getElem (by rw [semT_len, hl]) fun i h1 h2 => ?_
  have := key i (by rw [semT_len] at h1; exact h1)
  rwa [getD_lt h1, getD_lt h2] at this
theorem fair_at {f : List Nd} {w : Nat} (hw : w < (fair f).length) : (fair f).getD w 0 < f.length ∧ ((f.getD ((fair f).getD w 0) nond).k = 7 ∨ (f.getD ((fair f).getD w 0) nond).k = 8) := by
  have := List.getElem_mem hw
  rw [← getD_lt (d := 0) hw] at this
  unfold fair fairs at this
  rw [List.mem_filter] at this
  have h2 := this.2
  simp only [isFair, Bool.or_eq_true, beq_iff_eq] at h2
  exact ⟨List.mem_range.1 this.1, h2⟩
theorem semT_calm {f : List Nd} (hf : FmOK f) {u : Nat → Int} {w : Nat} (hw : w < (fair f).length) (n : Nat) : ∃ m, n ≤ m ∧ calmV f (semT f u m) ((fair f).getD w 0) = true := by
  obtain ⟨hi, hk⟩ := fair_at hw
  generalize (fair f).getD w 0 = i at *
  have hx := ndErr_zero.1 (hf.nd i hi)
  have e : f.getD i nond = f[i] := by rw [List.getD_eq_getElem?_getD, List.getElem?_eq_getElem hi]; rfl
  have hself := fun m => semT_get (u := u) (m := m) hi
  have hsem := fun m => sem_at hf (u := u) (m := m) hi
  unfold calmV
  rw [e] at hk hsem ⊢
  have hb : ∀ m, (semT f u m).getD f[i].b.toNat false = true ↔ (treeAt f f[i].b.toNat).sem u m := fun m => by
    have := hx.b (by omega)
    exact semT_get (by omega)
  generalize f[i] = x at *
  simp only
  rcases hk with h7 | h8
  · simp only [h7, if_true, show ¬ (7 : Int) = 1 by decide, show ¬ (7 : Int) = 2 by decide, show ¬ (7 : Int) = 3 by decide, show ¬ (7 : Int) = 4 by decide, show ¬ (7 : Int) = 5 by decide, show ¬ (7 : Int) = 6 by decide, if_false] at hsem ⊢
    by_cases hs : (treeAt f i).sem u n
    · obtain ⟨j, a1, a2, _⟩ := (hsem n).1 hs
      exact ⟨j, a1, by rw [(hb j).2 a2]; simp⟩
    · refine ⟨n, Nat.le_refl _, ?_⟩
      have : (semT f u n).getD i false = false := by
        cases h : (semT f u n).getD i false with
        | false => rfl
        | true => exact absurd ((hself n).1 h) hs
      rw [this]; simp
  · simp only [h8, show ¬ (8 : Int) = 1 by decide, show ¬ (8 : Int) = 2 by decide, show ¬ (8 : Int) = 3 by decide, show ¬ (8 : Int) = 4 by decide, show ¬ (8 : Int) = 5 by decide, show ¬ (8 : Int) = 6 by decide, show ¬ (8 : Int) = 7 by decide, if_false] at hsem ⊢
    by_cases hs : (treeAt f i).sem u n
    · exact ⟨n, Nat.le_refl _, by rw [(hself n).2 hs]; simp⟩
    · rw [hsem n] at hs
      obtain ⟨j, hj⟩ := Classical.not_forall.1 hs
      obtain ⟨h1, h2⟩ := Classical.not_imp.1 hj
      refine ⟨j, h1, ?_⟩
      have : (semT f u j).getD x.b.toNat false = false := by
        cases h : (semT f u j).getD x.b.toNat false with
        | false => rfl
        | true => exact absurd (.inl ((hb j).1 h)) h2
      rw [this]; simp
theorem tab_takes {f : List Nd} (hf : FmOK f) {raw ss : List Stp} (hr : TabRaw f raw) (hs : SortOf raw ss) {u : Nat → Int} (hu : ∀ m, 0 ≤ u m ∧ u m < 8) : TakesU (tabOf f ss) u ↔ (treeAt f (f.length - 1)).sem u 0 := by
  have hpos := hf.pos
  constructor
  · rintro ⟨r, h0, hst, hg⟩
    have r0 : r 0 = 0 := by simpa [tabOf] using h0
    have st : ∀ m, ∃ nx w' : Nat, nx < 2 ^ tn f ∧ w' ≤ (fair f).length ∧ r (m + 1) = tnum f nx (onW f (truths f (u m) nx) w') ∧
        ((∃ p, KeptIs f (truths f (u m) nx) p ∧ r m = tnum f p w') ∨ (r m = 0 ∧ w' = 0 ∧ (truths f (u m) nx).getD (f.length - 1) false = true)) := fun m => by
      obtain ⟨c, nx, p, hc, hnx, hkp, hor⟩ := (hr _).1 ((hs.mem _).1 (hst m))
      rcases hor with ⟨w, hw, he⟩ | ⟨hl, he⟩
      · have e1 := congrArg Stp.f he
        have e2 := congrArg Stp.l he
        have e3 := congrArg Stp.t he
        simp only at e1 e2 e3
        rw [← e2] at e3 hkp
        exact ⟨nx, w, hnx, hw, e3, .inl ⟨p, hkp, e1⟩⟩
      · have e1 := congrArg Stp.f he
        have e2 := congrArg Stp.l he
        have e3 := congrArg Stp.t he
        simp only at e1 e2 e3
        rw [← e2] at e3 hl
        exact ⟨nx, 0, hnx, Nat.zero_le _, e3, .inr ⟨e1, rfl, hl⟩⟩
    obtain ⟨NX, hNX⟩ : ∃ NX : Nat → Nat, ∀ m, ∃ w' : Nat, NX m < 2 ^ tn f ∧ w' ≤ (fair f).length ∧ r (m + 1) = tnum f (NX m) (onW f (truths f (u m) (NX m)) w') ∧
        ((∃ p, KeptIs f (truths f (u m) (NX m)) p ∧ r m = tnum f p w') ∨ (r m = 0 ∧ w' = 0 ∧ (truths f (u m) (NX m)).getD (f.length - 1) false = true)) :=
      ⟨fun m => Classical.choose (st m), fun m => Classical.choose_spec (st m)⟩
    obtain ⟨W', hW'⟩ : ∃ W' : Nat → Nat, ∀ m, NX m < 2 ^ tn f ∧ W' m ≤ (fair f).length ∧ r (m + 1) = tnum f (NX m) (onW f (truths f (u m) (NX m)) (W' m)) ∧
        ((∃ p, KeptIs f (truths f (u m) (NX m)) p ∧ r m = tnum f p (W' m)) ∨ (r m = 0 ∧ W' m = 0 ∧ (truths f (u m) (NX m)).getD (f.length - 1) false = true)) :=
      ⟨fun m => Classical.choose (hNX m), fun m => Classical.choose_spec (hNX m)⟩
    have later : ∀ m, ∃ p, KeptIs f (truths f (u (m + 1)) (NX (m + 1))) p ∧ r (m + 1) = tnum f p (W' (m + 1)) := fun m => by
      rcases (hW' (m + 1)).2.2.2 with h | ⟨h, _⟩
      · exact h
      · rw [(hW' m).2.2.1] at h
        have := tnum_pos f (NX m) (onW f (truths f (u m) (NX m)) (W' m))
        omega
    have link : ∀ m, KeptIs f (truths f (u (m + 1)) (NX (m + 1))) (NX m) ∧ W' (m + 1) = onW f (truths f (u m) (NX m)) (W' m) := fun m => by
      obtain ⟨p, hp, he⟩ := later m
      rw [(hW' m).2.2.1] at he
      obtain ⟨e1, e2⟩ := tnum_inj (onW_le (hW' m).2.1) (hW' (m + 1)).2.1 he
      rw [← e1] at hp
      exact ⟨hp, e2.symm⟩
    have first : W' 0 = 0 ∧ (truths f (u 0) (NX 0)).getD (f.length - 1) false = true := by
      rcases (hW' 0).2.2.2 with ⟨p, _, h⟩ | ⟨_, h⟩
      · rw [r0] at h
        have := tnum_pos f p (W' 0)
        omega
      · exact h
    have hreads : Reads f u (fun m => truths f (u m) (NX m)) (fun m => match m with | 0 => 0 | m + 1 => NX m) :=
      ⟨fun m => rfl, fun m => (link m).1, fun w hw n => waits_fair (W := W') (fun m => (link m).2) (fun n => by
        obtain ⟨m, hm, hgm⟩ := hg (n + 1)
        obtain ⟨k, rfl⟩ : ∃ k, m = k + 1 := ⟨m - 1, by omega⟩
        rw [(hW' k).2.2.1, ← (link k).2, tab_good (hW' k).1 (hW' (k + 1)).2.1] at hgm
        exact ⟨k + 1, by omega, hgm⟩) hw n⟩
    exact (reads_sem hf hreads (f.length - 1) (by omega) 0).1 first.2
  · intro hsem
    obtain ⟨P, hP⟩ : ∃ P : Nat → Nat, ∀ m, KeptIs f (semT f u m) (P m) := ⟨fun m => Classical.choose (kept_ex f (semT f u m)), fun m => Classical.choose_spec (kept_ex f (semT f u m))⟩
    have hT := semT_reads hf hP
    obtain ⟨W, hW0, hW⟩ : ∃ W : Nat → Nat, W 0 = 0 ∧ ∀ m, W (m + 1) = onW f (semT f u m) (W m) := ⟨fun m => Nat.rec 0 (fun m w => onW f (semT f u m) w) m, rfl, fun m => rfl⟩
    have hle : ∀ m, W m ≤ (fair f).length := by
      intro m
      cases m with
      | zero => rw [hW0]; exact Nat.zero_le _
      | succ m =>
        rw [hW]
        have : ∀ m, W m ≤ (fair f).length := by
          intro m
          induction m with
          | zero => rw [hW0]; exact Nat.zero_le _
          | succ m ih => rw [hW]; exact onW_le ih
        exact onW_le (this m)
    refine ⟨fun m => match m with | 0 => 0 | m + 1 => tnum f (P (m + 1)) (W (m + 1)), by simp [tabOf], fun m => ?_, fun n => ?_⟩
    · refine (hs.mem _).2 ((hr _).2 ?_)
      have hc : ((u m).toNat : Int) = u m := by have := hu m; omega
      refine ⟨(u m).toNat, P (m + 1), P m, by have := hu m; omega, (hP (m + 1)).lt, by rw [hc, ← hT m]; exact hP m, ?_⟩
      rw [hc, ← hT m]
      cases m with
      | zero =>
        right
        exact ⟨(semT_get (by omega)).2 hsem, by simp only [hW, hW0]⟩
      | succ m =>
        left
        exact ⟨W (m + 1), hle _, by simp only [hW]⟩
    · obtain ⟨m, h1, h2⟩ := waits_come hW hle (fun w hw n => semT_calm hf hw n) (n + 1)
      obtain ⟨k, rfl⟩ : ∃ k, m = k + 1 := ⟨m - 1, by omega⟩
      exact ⟨k + 1, by omega, (tab_good (hP (k + 1)).lt (hle _)).2 h2⟩
theorem tn_le {f : List Nd} (hf : FmOK f) : tn f ≤ 4 ∧ (fair f).length ≤ tn f := by
  have h1 := hf.few
  unfold tooMany cntT at h1
  rw [Bool.or_eq_false_iff] at h1
  have h2 := of_decide_eq_false h1.2
  refine ⟨by unfold tn tix; rw [List.take_length]; omega, ?_⟩
  have : ∀ n, n ≤ f.length → (fairs f n).length ≤ tix f n := by
    intro n
    induction n with
    | zero => intro _; simp [fairs]
    | succ n ih =>
      intro hn
      have := ih (by omega)
      rw [tix_succ (by omega)]
      unfold fairs at *
      rw [List.range_succ, List.filter_append, List.length_append]
      by_cases hk : isFair (f.getD n nond).k = true
      · have : isTmp (f.getD n nond).k = true := isTmp_iff.2 (by simp only [isFair, Bool.or_eq_true, beq_iff_eq] at hk; omega)
        rw [if_pos this]
        rw [List.filter_cons, if_pos hk]
        simp only [List.filter_nil, List.length_cons, List.length_nil]; omega
      · rw [List.filter_cons, if_neg hk]
        simp only [List.filter_nil, List.length_nil]; omega
  exact this f.length (Nat.le_refl _)
end Go.Proofs.YtoglgeaiiipchaaGreatDoor
