/- Plain: where nothing changes any more, until and release hold as they should; one loop is enough to look on. -/
import Derived.Test.YtoglgeaiiipchaaDoorPH
namespace Go.Proofs.YtoglgeaiiipchaaDoor

def itn (n h : Nat) : Nat → Nat → Nat
  | 0, p => p
  | k + 1, p => itn n h k (nx n h p)
theorem itn_add (n h : Nat) : ∀ (i j p : Nat), itn n h (i + j) p = itn n h j (itn n h i p) := by
  intro i
  induction i with
  | zero => intro j p; simp [itn]
  | succ i ih => intro j p; rw [Nat.succ_add]; simp only [itn]; exact ih j _
theorem itn_lt {n h : Nat} (hh : h < n) : ∀ (k p : Nat), p < n → itn n h k p < n := by
  intro k
  induction k with
  | zero => intro p hp; exact hp
  | succ k ih => intro p hp; exact ih _ (nx_lt hp hh)
theorem itn_short {n h : Nat} : ∀ (i p : Nat), p + i < n → itn n h i p = p + i := by
  intro i
  induction i with
  | zero => intro p _; rfl
  | succ i ih =>
    intro p hp
    have e : nx n h p = p + 1 := by unfold nx; rw [if_neg (by omega)]
    simp only [itn, e]
    rw [ih (p + 1) (by omega)]
    omega
theorem itn_end {n h p : Nat} (hp : p < n) : itn n h (n - p) p = h := by
  obtain ⟨k, hk⟩ : ∃ k, n - p = k + 1 := ⟨n - p - 1, by omega⟩
  rw [hk, itn_add, itn_short k p (by omega)]
  simp only [itn]
  unfold nx
  rw [if_pos (by omega)]
theorem itn_round {n h p : Nat} (hh : h < n) (hp : p < n) : itn n h n p = itn n h h p := by
  have e1 : itn n h n p = itn n h p h := by
    have : n = (n - p) + p := by omega
    rw [this, itn_add, ← this, itn_end hp]
  rw [e1]
  rcases Nat.lt_or_ge (p + h) n with hl | hl
  · rw [itn_short _ _ (by omega), itn_short _ _ (by omega)]; omega
  · have a1 : itn n h h p = itn n h (h + p - n) h := by
      have : h = (n - p) + (h + p - n) := by omega
      conv => lhs; rw [this]
      rw [itn_add]
      rw [← this, itn_end hp]
    have a2 : itn n h p h = itn n h (h + p - n) h := by
      have : p = (n - h) + (h + p - n) := by omega
      conv => lhs; rw [this]
      rw [itn_add]
      rw [itn_end hh]
    rw [a1, a2]

theorem unt_iff {n h : Nat} {a b : Nat → Bool} : ∀ (k p : Nat), unt n h a b k p = true ↔ ∃ j, j < k ∧ b (itn n h j p) = true ∧ ∀ i, i < j → a (itn n h i p) = true := by
  intro k
  induction k with
  | zero => intro p; simp [unt]
  | succ k ih =>
    intro p
    simp only [unt, Bool.or_eq_true, Bool.and_eq_true, ih]
    constructor
    · rintro (hb | ⟨ha, j, hj, hb, hi⟩)
      · exact ⟨0, by omega, hb, fun i hi => absurd hi (by omega)⟩
      · refine ⟨j + 1, by omega, hb, fun i hij => ?_⟩
        cases i with
        | zero => exact ha
        | succ i => exact hi i (by omega)
    · rintro ⟨j, hj, hb, hi⟩
      cases j with
      | zero => exact .inl hb
      | succ j => exact .inr ⟨hi 0 (by omega), j, by omega, hb, fun i h2 => hi (i + 1) (by omega)⟩

/-- one time round is enough -/
theorem unt_enough {n h : Nat} {a b : Nat → Bool} (hh : h < n) {k p : Nat} (hp : p < n) (hu : unt n h a b k p = true) : unt n h a b n p = true := by
  rw [unt_iff] at hu ⊢
  obtain ⟨j, _, hb, ha⟩ := hu
  -- the least such j
  have key : ∀ j, b (itn n h j p) = true → (∀ i, i < j → a (itn n h i p) = true) → ∃ j, j < n ∧ b (itn n h j p) = true ∧ ∀ i, i < j → a (itn n h i p) = true := by
    intro j
    induction j using Nat.strongRecOn with
    | _ j ih =>
      intro hb ha
      rcases Nat.lt_or_ge j n with hl | hl
      · exact ⟨j, hl, hb, ha⟩
      · have e : itn n h j p = itn n h (j - n + h) p := by
          have e1 : j = n + (j - n) := by omega
          have e2 : j - n + h = h + (j - n) := by omega
          rw [e2, itn_add, ← itn_round hh hp, ← itn_add, ← e1]
        exact ih (j - n + h) (by omega) (by rw [← e]; exact hb) (fun i hi => ha i (by omega))
  exact key j hb ha
theorem unt_succ {n h : Nat} {a b : Nat → Bool} (hh : h < n) {p : Nat} (hp : p < n) : unt n h a b n p = (b p || a p && unt n h a b n (nx n h p)) := by
  rw [Bool.eq_iff_iff]
  constructor
  · intro hu
    have : unt n h a b (n + 1) p = true := by
      rw [unt_iff] at hu ⊢
      obtain ⟨j, hj, r⟩ := hu
      exact ⟨j, by omega, r⟩
    simpa [unt] using this
  · intro hu
    exact unt_enough hh (k := n + 1) hp (by simpa [unt] using hu)
theorem rls_unt {n h : Nat} {a b : Nat → Bool} : ∀ (k p : Nat), rls n h a b k p = !unt n h (fun i => !a i) (fun i => !b i) k p := by
  intro k
  induction k with
  | zero => intro p; rfl
  | succ k ih => intro p; simp only [rls, unt, ih]; cases a p <;> cases b p <;> simp

theorem row_until {n h : Nat} {a b : Nat → Bool} {out : List Bool} (hh : h < n) (hg : FillGood n h (fun i nb => b i || a i && nb) false out) (hf : Fixed n h (fun i nb => b i || a i && nb) false out) :
    ∀ i, i < n → out.getD i false = unt n h a b n i := by
  intro i hi
  rw [Bool.eq_iff_iff]
  constructor
  · intro ho
    have := hg.inv (fun i v => v = true → i < n → ∃ k, unt n h a b k i = true) (by simp) (fun j hj v hv h1 _ => by
      simp only [Bool.or_eq_true, Bool.and_eq_true] at h1
      rcases h1 with h1 | ⟨h1, h2⟩
      · exact ⟨1, by simp [unt, h1]⟩
      · obtain ⟨k, hk⟩ := hv h2 (nx_lt hj hh)
        exact ⟨k + 1, by simp [unt, h1, hk]⟩) i hi ho hi
    obtain ⟨k, hk⟩ := this
    exact unt_enough hh hi hk
  · intro hu
    have key : ∀ k p, p < n → unt n h a b k p = true → out.getD p false = true := by
      intro k
      induction k with
      | zero => intro p _ h0; simp [unt] at h0
      | succ k ih =>
        intro p hp hk
        rw [← hf p hp]
        simp only [unt, Bool.or_eq_true, Bool.and_eq_true] at hk
        rcases hk with hk | ⟨h1, h2⟩
        · simp [hk]
        · simp only [h1, ih _ (nx_lt hp hh) h2, Bool.and_true, Bool.or_true]
    exact key n i hi hu
theorem row_release {n h : Nat} {a b : Nat → Bool} {out : List Bool} (hh : h < n) (hg : FillGood n h (fun i nb => b i && (a i || nb)) true out) (hf : Fixed n h (fun i nb => b i && (a i || nb)) true out) :
    ∀ i, i < n → out.getD i true = rls n h a b n i := by
  intro i hi
  have e : ∀ (x y : Bool), (x = false ↔ y = false) → x = y := by decide
  apply e
  constructor
  · intro ho
    have := hg.inv (fun i v => v = false → i < n → ∃ k, rls n h a b k i = false) (by simp) (fun j hj v hv h1 _ => by
      simp only [Bool.and_eq_false_iff, Bool.or_eq_false_iff] at h1
      rcases h1 with h1 | ⟨h1, h2⟩
      · exact ⟨1, by simp [rls, h1]⟩
      · obtain ⟨k, hk⟩ := hv h2 (nx_lt hj hh)
        exact ⟨k + 1, by simp [rls, h1, hk]⟩) i hi ho hi
    obtain ⟨k, hk⟩ := this
    rw [rls_unt] at hk ⊢
    simp only [Bool.not_eq_false'] at hk ⊢
    exact unt_enough hh hi hk
  · intro hu
    have key : ∀ k p, p < n → rls n h a b k p = false → out.getD p true = false := by
      intro k
      induction k with
      | zero => intro p _ h0; simp [rls] at h0
      | succ k ih =>
        intro p hp hk
        rw [← hf p hp]
        simp only [rls, Bool.and_eq_false_iff, Bool.or_eq_false_iff] at hk
        rcases hk with hk | ⟨h1, h2⟩
        · simp [hk]
        · simp only [h1, ih _ (nx_lt hp hh) h2, Bool.or_false, Bool.and_false]
    exact key n i hi hu
theorem row_plain {n h : Nat} {V : Nat → Bool} {s : Bool} {out : List Bool} (hf : Fixed n h (fun i _ => V i) s out) : ∀ i, i < n → out.getD i s = V i := fun i hi => (hf i hi).symm
/-- a row told place by place -/
theorem row_eq {n : Nat} {s : Bool} {out : List Bool} {V : Nat → Bool} (hl : out.length = n) (h : ∀ i, i < n → out.getD i s = V i) : out = (List.range n).map V := by
  apply List.ext_getElem
  · simp [hl]
  · intro i h1 h2
    have := h i (by omega)
    rw [List.getD_eq_getElem?_getD, List.getElem?_eq_getElem h1] at this
    simpa using this
end Go.Proofs.YtoglgeaiiipchaaDoor
