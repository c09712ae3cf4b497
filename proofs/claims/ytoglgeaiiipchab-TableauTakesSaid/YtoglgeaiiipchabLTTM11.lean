/- Plain: the automaton of a formula takes just the words of which it holds. -/
import Derived.Test.YtoglgeaiiipchabLTTM9
import Derived.Test.YtoglgeaiiipchabLTTM10
set_option linter.unusedSimpArgs false
set_option linter.unusedVariables false
namespace Go.Proofs.Ytoglgeaiiipchab

/-- how many nodes of the three kinds stand ahead of one -/
def tix (f : List Nd) (i : Nat) : Nat := ((f.take i).filter fun x => isTmp x.k).length
def tn (f : List Nd) : Nat := tix f f.length
def isFair (k : Int) : Bool := (k == 7) || (k == 8)
/-- nodes of Until and Release -/
def fairs (f : List Nd) (n : Nat) : List Nat := (List.range n).filter fun i => isFair (f.getD i nond).k
def fair (f : List Nd) : List Nat := fairs f f.length
/-- the truth of one node, out of those ahead -/
def trAt (f : List Nd) (c : Int) (nx : Nat) (out : List Bool) (i : Nat) : Bool :=
  let x := f.getD i nond
  let later := isTmp x.k && nx.testBit (tix f i)
  if x.k = 1 then true
  else if x.k = 2 then bitOf c x.n.toNat
  else if x.k = 3 then !out.getD x.a.toNat false
  else if x.k = 4 then out.getD x.a.toNat false && out.getD x.b.toNat false
  else if x.k = 5 then out.getD x.a.toNat false || out.getD x.b.toNat false
  else if x.k = 6 then later
  else if x.k = 7 then out.getD x.b.toNat false || out.getD x.a.toNat false && later
  else out.getD x.b.toNat false && (out.getD x.a.toNat false || later)
def trs (f : List Nd) (c : Int) (nx : Nat) : Nat → List Bool
  | 0 => []
  | k + 1 => trs f c nx k ++ [trAt f c nx (trs f c nx k) k]
def truths (f : List Nd) (c : Int) (nx : Nat) : List Bool := trs f c nx f.length
/-- what is promised of a node of the three kinds -/
def keptV (f : List Nd) (t : List Bool) (i : Nat) : Bool := let x := f.getD i nond; if x.k = 6 then t.getD x.a.toNat false else t.getD i false
/-- is a number what must have been promised? -/
structure KeptIs (f : List Nd) (t : List Bool) (p : Nat) : Prop where
  lt : p < 2 ^ tn f
  bit : ∀ i, i < f.length → isTmp (f.getD i nond).k = true → p.testBit (tix f i) = keptV f t i
def calmV (f : List Nd) (t : List Bool) (i : Nat) : Bool := let x := f.getD i nond; if x.k = 7 then !t.getD i false || t.getD x.b.toNat false else t.getD i false || !t.getD x.b.toNat false
def adv (f : List Nd) (t : List Bool) : Nat → Nat → Nat
  | 0, w => w
  | m + 1, w => if w < (fair f).length ∧ calmV f t ((fair f).getD w 0) = true then adv f t m (w + 1) else w
def onW (f : List Nd) (t : List Bool) (w : Nat) : Nat := adv f t (fair f).length (if w = (fair f).length then 0 else w)
def tnum (f : List Nd) (p w : Nat) : Int := 1 + (p : Int) * ((fair f).length + 1) + w
/-- the edges: just these -/
def TabRaw (f : List Nd) (raw : List Stp) : Prop := ∀ s, s ∈ raw ↔ ∃ (c nx p : Nat), c < 8 ∧ nx < 2 ^ tn f ∧ KeptIs f (truths f c nx) p ∧
  ((∃ w, w ≤ (fair f).length ∧ s = ⟨tnum f p w, c, tnum f nx (onW f (truths f c nx) w)⟩) ∨
    ((truths f c nx).getD (f.length - 1) false = true ∧ s = ⟨0, c, tnum f nx (onW f (truths f c nx) 0)⟩))
def tabGs (f : List Nd) : List Bool := (List.range (2 ^ tn f * ((fair f).length + 1) + 1)).map fun i => decide (i ≠ 0 ∧ (i - 1) % ((fair f).length + 1) = (fair f).length)
def tabOf (f : List Nd) (ss : List Stp) : Au := ⟨tnum f (2 ^ tn f) 0, 8, [0], tabGs f, ss⟩

theorem tix_succ {f : List Nd} {i : Nat} (h : i < f.length) : tix f (i + 1) = tix f i + if isTmp (f.getD i nond).k = true then 1 else 0 := by
  unfold tix
  rw [List.take_succ_eq_append_getElem h, List.filter_append, List.length_append, List.getD_eq_getElem?_getD, List.getElem?_eq_getElem h]
  by_cases hx : isTmp f[i].k = true <;> simp [hx]
theorem tix_mono {f : List Nd} {i j : Nat} (h : i ≤ j) (hj : j ≤ f.length) : tix f i ≤ tix f j := by
  obtain ⟨d, rfl⟩ : ∃ d, j = i + d := ⟨j - i, by omega⟩
  induction d with
  | zero => exact Nat.le_refl _
  | succ d ih =>
    have := ih (by omega) (by omega)
    have := tix_succ (f := f) (i := i + d) (by omega)
    rw [← Nat.add_assoc]; omega
theorem tix_lt {f : List Nd} {i j : Nat} (hi : isTmp (f.getD i nond).k = true) (h : i < j) (hj : j ≤ f.length) : tix f i < tix f j := by
  have h1 := tix_succ (f := f) (i := i) (by omega)
  rw [if_pos hi] at h1
  have := tix_mono (f := f) (show i + 1 ≤ j by omega) hj
  omega
theorem tix_inj {f : List Nd} {i j : Nat} (hi : isTmp (f.getD i nond).k = true) (hj : isTmp (f.getD j nond).k = true) (hil : i < f.length) (hjl : j < f.length) (h : tix f i = tix f j) : i = j := by
  rcases Nat.lt_trichotomy i j with h1 | h1 | h1
  · have := tix_lt hi h1 (by omega); omega
  · exact h1
  · have := tix_lt hj h1 (by omega); omega
theorem tix_tn {f : List Nd} {i : Nat} (hi : i < f.length) (ht : isTmp (f.getD i nond).k = true) : tix f i < tn f := tix_lt ht hi (Nat.le_refl _)
/-- to each number of the three kinds its node -/
theorem tix_onto {f : List Nd} : ∀ (n : Nat), n ≤ f.length → ∀ k, k < tix f n → ∃ i, i < n ∧ isTmp (f.getD i nond).k = true ∧ tix f i = k
  | 0, _, k, h => absurd h (by simp [tix])
  | n + 1, hn, k, h => by
    rw [tix_succ (by omega)] at h
    by_cases hk : k < tix f n
    · obtain ⟨i, h1, h2, h3⟩ := tix_onto n (by omega) k hk
      exact ⟨i, by omega, h2, h3⟩
    · split at h
      · rename_i ht; exact ⟨n, by omega, ht, by omega⟩
      · omega
theorem kept_unique {f : List Nd} {t : List Bool} {p q : Nat} (hp : KeptIs f t p) (hq : KeptIs f t q) : p = q := by
  refine Nat.eq_of_testBit_eq fun k => ?_
  by_cases hk : k < tn f
  · obtain ⟨i, h1, h2, rfl⟩ := tix_onto f.length (Nat.le_refl _) k hk
    rw [hp.bit i h1 h2, hq.bit i h1 h2]
  · have : 2 ^ tn f ≤ 2 ^ k := Nat.pow_le_pow_right (by decide) (by omega)
    have := hp.lt; have := hq.lt
    rw [Nat.testBit_lt_two_pow (by omega), Nat.testBit_lt_two_pow (by omega)]
/-- a number with given bits -/
theorem bits_ex (n : Nat) (v : Nat → Bool) : ∃ p, p < 2 ^ n ∧ ∀ k, k < n → p.testBit k = v k := by
  induction n with
  | zero => exact ⟨0, by simp, fun k h => absurd h (by omega)⟩
  | succ n ih =>
    obtain ⟨p, h1, h2⟩ := ih
    cases hv : v n with
    | false =>
      refine ⟨p, by rw [Nat.pow_succ]; omega, fun k hk => ?_⟩
      rcases Nat.lt_or_ge k n with h | h
      · exact h2 k h
      · obtain rfl : k = n := by omega
        rw [hv, Nat.testBit_lt_two_pow h1]
    | true =>
      refine ⟨2 ^ n + p, by rw [Nat.pow_succ]; omega, fun k hk => ?_⟩
      rcases Nat.lt_or_ge k n with h | h
      · rw [Nat.testBit_two_pow_add_gt h]; exact h2 k h
      · obtain rfl : k = n := by omega
        rw [hv, Nat.testBit_two_pow_add_eq, Nat.testBit_lt_two_pow h1]; rfl
theorem kept_ex (f : List Nd) (t : List Bool) : ∃ p, KeptIs f t p := by
  obtain ⟨p, h1, h2⟩ := bits_ex (tn f) (fun k => decide (∃ i, i < f.length ∧ isTmp (f.getD i nond).k = true ∧ tix f i = k ∧ keptV f t i = true))
  refine ⟨p, h1, fun i hi ht => ?_⟩
  rw [h2 _ (tix_tn hi ht)]
  cases hv : keptV f t i with
  | true => simp only [decide_eq_true_eq]; exact ⟨i, hi, ht, rfl, hv⟩
  | false =>
    simp only [decide_eq_false_iff_not, not_exists, not_and]
    intro j hj htj he hvj
    obtain rfl := tix_inj htj ht hj hi he
    rw [hv] at hvj; cases hvj
theorem trs_len (f : List Nd) (c : Int) (nx : Nat) : ∀ k, (trs f c nx k).length = k
  | 0 => rfl
  | k + 1 => by rw [trs, List.length_append, trs_len f c nx k]; rfl
theorem trs_get (f : List Nd) (c : Int) (nx : Nat) : ∀ (k i : Nat), i < k → (trs f c nx k).getD i false = trAt f c nx (trs f c nx i) i
  | 0, i, h => absurd h (by omega)
  | k + 1, i, h => by
    rw [trs, List.getD_eq_getElem?_getD]
    rcases Nat.lt_or_ge i k with h1 | h1
    · rw [List.getElem?_append_left (by rw [trs_len]; exact h1), ← List.getD_eq_getElem?_getD]
      exact trs_get f c nx k i h1
    · obtain rfl : i = k := by omega
      rw [List.getElem?_append_right (by rw [trs_len]; exact Nat.le_refl _), trs_len]
      simp
/-- the truth of a node, out of the truths of all -/
theorem truth_at {f : List Nd} (hf : FmOK f) {c : Int} {nx i : Nat} (hi : i < f.length) : (truths f c nx).getD i false = trAt f c nx (truths f c nx) i := by
  have hx := ndErr_zero.1 (hf.nd i hi)
  have e : f.getD i nond = f[i] := by rw [List.getD_eq_getElem?_getD, List.getElem?_eq_getElem hi]; rfl
  have h1 : (truths f c nx).getD i false = trAt f c nx (trs f c nx i) i := trs_get f c nx f.length i hi
  rw [h1]
  have ge : ∀ j, j < i → (trs f c nx i).getD j false = (truths f c nx).getD j false := fun j hj => by
    unfold truths
    rw [trs_get f c nx i j hj, trs_get f c nx f.length j (by omega)]
  unfold trAt
  rw [e]
  have ha : 3 ≤ f[i].k → (trs f c nx i).getD f[i].a.toNat false = (truths f c nx).getD f[i].a.toNat false := fun h => by
    have := hx.a h
    exact ge _ (by omega)
  have hb : (f[i].k = 4 ∨ f[i].k = 5 ∨ f[i].k = 7 ∨ f[i].k = 8) → (trs f c nx i).getD f[i].b.toNat false = (truths f c nx).getD f[i].b.toNat false := fun h => by
    have := hx.b h
    exact ge _ (by omega)
  have hk := hx.k
  simp only
  split
  · rfl
  · split
    · rfl
    · split
      · rw [ha (by omega)]
      · split
        · rw [ha (by omega), hb (by omega)]
        · split
          · rw [ha (by omega), hb (by omega)]
          · split
            · rfl
            · split
              · rw [ha (by omega), hb (by omega)]
              · rw [ha (by omega), hb (by omega)]
/-- what a node says, by what it is made of -/
theorem sem_at {f : List Nd} (hf : FmOK f) {u : Nat → Int} {i m : Nat} (hi : i < f.length) : ((treeAt f i).sem u m ↔
    let x := f.getD i nond
    if x.k = 1 then True
    else if x.k = 2 then bitOf (u m) x.n.toNat = true
    else if x.k = 3 then ¬ (treeAt f x.a.toNat).sem u m
    else if x.k = 4 then (treeAt f x.a.toNat).sem u m ∧ (treeAt f x.b.toNat).sem u m
    else if x.k = 5 then (treeAt f x.a.toNat).sem u m ∨ (treeAt f x.b.toNat).sem u m
    else if x.k = 6 then (treeAt f x.a.toNat).sem u (m + 1)
    else if x.k = 7 then ∃ j, m ≤ j ∧ (treeAt f x.b.toNat).sem u j ∧ ∀ q, m ≤ q → q < j → (treeAt f x.a.toNat).sem u q
    else ∀ j, m ≤ j → (treeAt f x.b.toNat).sem u j ∨ ∃ q, m ≤ q ∧ q < j ∧ (treeAt f x.a.toNat).sem u q) := by
  have hx := ndErr_zero.1 (hf.nd i hi)
  have e : f.getD i nond = f[i] := by rw [List.getD_eq_getElem?_getD, List.getElem?_eq_getElem hi]; rfl
  rw [show treeAt f i = treeN (treesOf f i) (f.getD i nond) from rfl]
  unfold treeN
  rw [e]
  have ha : 3 ≤ f[i].k → (treesOf f i).getD f[i].a.toNat .tt = treeAt f f[i].a.toNat := fun h => by
    have := hx.a h
    exact treesOf_get _ _ _ (by omega)
  have hb : (f[i].k = 4 ∨ f[i].k = 5 ∨ f[i].k = 7 ∨ f[i].k = 8) → (treesOf f i).getD f[i].b.toNat .tt = treeAt f f[i].b.toNat := fun h => by
    have := hx.b h
    exact treesOf_get _ _ _ (by omega)
  have hk := hx.k
  generalize f[i] = x at *
  by_cases h1 : x.k = 1
  · simp only [h1, if_true, Fm.sem]
  by_cases h2 : x.k = 2
  · simp only [h2, show ¬ (2 : Int) = 1 by decide, if_true, if_false, Fm.sem]
  by_cases h3 : x.k = 3
  · simp only [h3, show ¬ (3 : Int) = 1 by decide, show ¬ (3 : Int) = 2 by decide, if_true, if_false, Fm.sem, ha (by omega)]
  by_cases h6 : x.k = 6
  · simp only [h6, show ¬ (6 : Int) = 1 by decide, show ¬ (6 : Int) = 2 by decide, show ¬ (6 : Int) = 3 by decide, show ¬ (6 : Int) = 4 by decide, show ¬ (6 : Int) = 5 by decide, if_true, if_false, Fm.sem, ha (by omega)]
  have hb := hb (by omega)
  have ha := ha (by omega)
  simp only [h1, h2, h3, h6, if_false, ha, hb, Fm.sem]
/-- the word is read with promises: what is true now, and what was promised -/
structure Reads (f : List Nd) (u : Nat → Int) (T : Nat → List Bool) (P : Nat → Nat) : Prop where
  tr : ∀ m, T m = truths f (u m) (P (m + 1))
  kp : ∀ m, KeptIs f (T (m + 1)) (P (m + 1))
  fa : ∀ w, w < (fair f).length → ∀ n, ∃ m, n ≤ m ∧ calmV f (T m) ((fair f).getD w 0) = true
theorem fair_mem {f : List Nd} {i : Nat} (hi : i < f.length) (hk : (f.getD i nond).k = 7 ∨ (f.getD i nond).k = 8) : ∃ w, w < (fair f).length ∧ (fair f).getD w 0 = i := by
  have : i ∈ fair f := by
    unfold fair fairs isFair
    rw [List.mem_filter]
    exact ⟨List.mem_range.2 hi, by simpa using hk⟩
  obtain ⟨w, h1, h2⟩ := List.getElem_of_mem this
  exact ⟨w, h1, by rw [getD_lt h1]; exact h2⟩
theorem isTmp_iff {k : Int} : isTmp k = true ↔ 6 ≤ k ∧ k ≤ 8 := btw_iff k 6 8
/-- **what is read is what the formula says** -/
theorem reads_sem {f : List Nd} (hf : FmOK f) {u : Nat → Int} {T : Nat → List Bool} {P : Nat → Nat} (h : Reads f u T P) : ∀ i, i < f.length → ∀ m, ((T m).getD i false = true ↔ (treeAt f i).sem u m) := by
  intro i
  induction i using Nat.strongRecOn with
  | _ i ih =>
    intro hi
    have hx := ndErr_zero.1 (hf.nd i hi)
    have e : f.getD i nond = f[i] := by rw [List.getD_eq_getElem?_getD, List.getElem?_eq_getElem hi]; rfl
    have step : ∀ m, (T m).getD i false = trAt f (u m) (P (m + 1)) (T m) i := fun m => by
      have := truth_at (c := u m) (nx := P (m + 1)) hf hi
      rwa [← h.tr m] at this
    have hfa := fair_mem hi
    have hkp := fun m => (h.kp m).bit i hi
    simp only [sem_at hf hi]
    unfold trAt at step
    unfold keptV at hkp
    rw [e] at step hkp hfa ⊢
    have ha : 3 ≤ f[i].k → ∀ m, (T m).getD f[i].a.toNat false = true ↔ (treeAt f f[i].a.toNat).sem u m := fun h => by
      have := hx.a h
      exact ih _ (by omega) (by omega)
    have hb : (f[i].k = 4 ∨ f[i].k = 5 ∨ f[i].k = 7 ∨ f[i].k = 8) → ∀ m, (T m).getD f[i].b.toNat false = true ↔ (treeAt f f[i].b.toNat).sem u m := fun h => by
      have := hx.b h
      exact ih _ (by omega) (by omega)
    have calm : ∀ w, (fair f).getD w 0 = i → ∀ m, calmV f (T m) ((fair f).getD w 0) = if f[i].k = 7 then !(T m).getD i false || (T m).getD f[i].b.toNat false else (T m).getD i false || !(T m).getD f[i].b.toNat false := fun w hw m => by
      unfold calmV
      rw [hw, e]
    have hk := hx.k
    generalize f[i] = x at *
    simp only at step
    by_cases h1 : x.k = 1
    · intro m; rw [step]; simp [h1]
    by_cases h2 : x.k = 2
    · intro m; rw [step]; simp [h2]
    by_cases h3 : x.k = 3
    · intro m; rw [step]
      simp only [h3, show ¬ (3 : Int) = 1 by decide, show ¬ (3 : Int) = 2 by decide, if_true, if_false]
      rw [Bool.not_eq_true', ← ha (by omega)]
      exact Bool.not_eq_true _ ▸ Iff.rfl
    have ha := ha (by omega)
    by_cases h6 : x.k = 6
    · intro m; rw [step]
      have ht : isTmp x.k = true := isTmp_iff.2 (by omega)
      have := hkp m ht
      simp only [h6, if_true] at this
      simp only [h6, show ¬ (6 : Int) = 1 by decide, show ¬ (6 : Int) = 2 by decide, show ¬ (6 : Int) = 3 by decide, show ¬ (6 : Int) = 4 by decide, show ¬ (6 : Int) = 5 by decide, if_true, if_false]
      rw [this, show isTmp 6 = true from rfl, Bool.true_and]
      exact ha (m + 1)
    have hb := hb (by omega)
    by_cases h4 : x.k = 4
    · intro m; rw [step]
      simp only [h4, show ¬ (4 : Int) = 1 by decide, show ¬ (4 : Int) = 2 by decide, show ¬ (4 : Int) = 3 by decide, if_true, if_false, Bool.and_eq_true, ha, hb]
    by_cases h5 : x.k = 5
    · intro m; rw [step]
      simp only [h5, show ¬ (5 : Int) = 1 by decide, show ¬ (5 : Int) = 2 by decide, show ¬ (5 : Int) = 3 by decide, show ¬ (5 : Int) = 4 by decide, if_true, if_false, Bool.or_eq_true, ha, hb]
    have ht : isTmp x.k = true := isTmp_iff.2 (by omega)
    have hkp := fun m => hkp m ht
    simp only [h6, if_false] at hkp
    obtain ⟨w, hw, hwi⟩ := hfa (by omega)
    have hfair := h.fa w hw
    simp only [calm w hwi] at hfair
    simp only [h1, h2, h3, h4, h5, h6, if_false] at step ⊢
    by_cases h7 : x.k = 7
    · simp only [h7, if_true, if_false, show isTmp 7 = true from rfl, Bool.true_and] at step hfair ⊢
      have step : ∀ m, ((T m).getD i false = true ↔ (treeAt f x.b.toNat).sem u m ∨ (treeAt f x.a.toNat).sem u m ∧ (T (m + 1)).getD i false = true) := fun m => by
        rw [step m, hkp m, Bool.or_eq_true, Bool.and_eq_true, ha, hb]
      have hfair : ∀ n, ∃ m, n ≤ m ∧ ((T m).getD i false = true → (treeAt f x.b.toNat).sem u m) := fun n => by
        obtain ⟨m, h1, h2⟩ := hfair n
        refine ⟨m, h1, fun h => ?_⟩
        rw [h] at h2
        exact (hb m).1 (by simpa using h2)
      generalize (treeAt f x.a.toNat).sem u = A at *
      generalize (treeAt f x.b.toNat).sem u = B at *
      intro m
      constructor
      · intro hm
        obtain ⟨n, hn, hc⟩ := hfair m
        apply Classical.byContradiction
        intro hno
        have all : ∀ d, (T (m + d)).getD i false = true ∧ ∀ q, m ≤ q → q < m + d → A q := by
          intro d
          induction d with
          | zero => exact ⟨hm, fun q h1 h2 => absurd h2 (by omega)⟩
          | succ d ihd =>
            rcases (step _).1 ihd.1 with hB | ⟨hA, hT⟩
            · exact absurd ⟨m + d, by omega, hB, ihd.2⟩ hno
            · refine ⟨hT, fun q h1 h2 => ?_⟩
              rcases Nat.lt_or_ge q (m + d) with h3 | h3
              · exact ihd.2 q h1 h3
              · obtain rfl : q = m + d := by omega
                exact hA
        have := all (n - m)
        rw [show m + (n - m) = n by omega] at this
        exact hno ⟨n, hn, hc this.1, this.2⟩
      · rintro ⟨j, hj, hB, hA⟩
        have : ∀ d, d ≤ j - m → (T (j - d)).getD i false = true := by
          intro d
          induction d with
          | zero => intro _; exact (step _).2 (.inl hB)
          | succ d ihd =>
            intro hd
            refine (step _).2 (.inr ⟨hA _ (by omega) (by omega), ?_⟩)
            have := ihd (by omega)
            rwa [show j - (d + 1) + 1 = j - d by omega]
        have := this (j - m) (Nat.le_refl _)
        rwa [show j - (j - m) = m by omega] at this
    · simp only [h7, if_false, ht, Bool.true_and] at step hfair ⊢
      have step : ∀ m, ((T m).getD i false = true ↔ (treeAt f x.b.toNat).sem u m ∧ ((treeAt f x.a.toNat).sem u m ∨ (T (m + 1)).getD i false = true)) := fun m => by
        rw [step m, hkp m, Bool.and_eq_true, Bool.or_eq_true, ha, hb]
      have hfair : ∀ n, ∃ m, n ≤ m ∧ ((treeAt f x.b.toNat).sem u m → (T m).getD i false = true) := fun n => by
        obtain ⟨m, h1, h2⟩ := hfair n
        refine ⟨m, h1, fun h => ?_⟩
        rw [(hb m).2 h] at h2
        simpa using h2
      generalize (treeAt f x.a.toNat).sem u = A at *
      generalize (treeAt f x.b.toNat).sem u = B at *
      intro m
      constructor
      · intro hm j hj
        apply Classical.byContradiction
        intro hno
        simp only [not_or, not_exists, not_and] at hno
        have all : ∀ d, d ≤ j - m → (T (m + d)).getD i false = true := by
          intro d
          induction d with
          | zero => intro _; exact hm
          | succ d ihd =>
            intro hd
            rcases ((step _).1 (ihd (by omega))).2 with hA | hT
            · exact absurd hA (hno.2 _ (by omega) (by omega))
            · exact hT
        have := all (j - m) (Nat.le_refl _)
        rw [show m + (j - m) = j by omega] at this
        exact hno.1 ((step _).1 this).1
      · intro hs
        apply Classical.byContradiction
        intro hm
        have all : ∀ d, (T (m + d)).getD i false ≠ true ∧ ∀ q, m ≤ q → q < m + d → ¬ A q := by
          intro d
          induction d with
          | zero => exact ⟨hm, fun q h1 h2 => absurd h2 (by omega)⟩
          | succ d ihd =>
            have hB : B (m + d) := (hs (m + d) (by omega)).resolve_right (fun ⟨q, h1, h2, h3⟩ => ihd.2 q h1 h2 h3)
            have hnA : ¬ A (m + d) := fun hA => ihd.1 ((step _).2 ⟨hB, .inl hA⟩)
            refine ⟨fun hT => ihd.1 ((step _).2 ⟨hB, .inr hT⟩), fun q h1 h2 => ?_⟩
            rcases Nat.lt_or_ge q (m + d) with h3 | h3
            · exact ihd.2 q h1 h3
            · obtain rfl : q = m + d := by omega
              exact hnA
        obtain ⟨n, hn, hc⟩ := hfair m
        have := all (n - m)
        rw [show m + (n - m) = n by omega] at this
        have hB : B n := (hs n hn).resolve_right (fun ⟨q, h1, h2, h3⟩ => this.2 q h1 h2 h3)
        exact this.1 (hc hB)
end Go.Proofs.Ytoglgeaiiipchab
