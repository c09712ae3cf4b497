/- Plain: the reference's sets of states: moved by a letter, by loops, in circles. -/
import Derived.Test.YtoglgeaiiipchaaLBTM1
set_option linter.unusedSimpArgs false
set_option linter.unusedVariables false
namespace Go.Proofs.Ytoglgeaiiipchaa

def btw (n a b : Int) : Bool := decide (a ≤ n) && decide (n ≤ b)
theorem btw_iff (n a b : Int) : btw n a b = true ↔ (a ≤ n ∧ n ≤ b) := by simp [btw]
def nmA (k : Int) : Bool := btw k 3 8
def nmB (k : Int) : Bool := (k == 4) || (k == 5) || (k == 7) || (k == 8)
def nmN (k : Int) : Bool := k == 2
def isTmp (k : Int) : Bool := btw k 6 8
def cntT (f : List Nd) : Nat := (f.filter fun x => isTmp x.k).length
def tooMany (f : List Nd) : Bool := decide (12 < (f.length : Int)) || decide (4 < (cntT f : Int))
def ndErr (x : Nd) (i : Int) : Int :=
  if btw x.k 1 8 = false then 7
  else if (nmA x.k && !btw x.a 0 (i - 1) || nmB x.k && !btw x.b 0 (i - 1)) = true then 5
  else if (nmN x.k && !btw x.n 0 2) = true then 3
  else if (!nmA x.k && (x.a != 0) || (!nmB x.k && (x.b != 0) || !nmN x.k && (x.n != 0))) = true then 1
  else 0
def ckNds : List Nd → Nat → Int
  | [], _ => 0
  | x :: r, i => if ndErr x i = 0 then ckNds r (i + 1) else ndErr x i
def ckF (f : List Nd) : Int := if f.length = 0 then 1 else if tooMany f = true then 2 else ckNds f 0

theorem ckNds_step {f : List Nd} {k : Nat} (hk : k < f.length) : ckNds (f.drop k) k = if ndErr f[k] k = 0 then ckNds (f.drop (k + 1)) (k + 1) else ndErr f[k] k := by
  rw [List.drop_eq_getElem_cons hk]
  rfl
theorem ckNds_end {f : List Nd} {k : Nat} (hk : f.length ≤ k) : ckNds (f.drop k) k = 0 := by
  rw [List.drop_of_length_le hk]
  rfl
theorem cntT_take {f : List Nd} {k : Nat} (hk : k < f.length) : cntT (f.take (k + 1)) = cntT (f.take k) + if isTmp f[k].k = true then 1 else 0 := by
  unfold cntT
  rw [List.take_succ_eq_append_getElem hk, List.filter_append, List.length_append]
  by_cases h : isTmp f[k].k = true <;> simp [h]
theorem cntT_le (f : List Nd) (k : Nat) : cntT (f.take k) ≤ k := by
  unfold cntT
  exact Nat.le_trans (List.length_filter_le _ _) (List.length_take_le _ _)
end Go.Proofs.Ytoglgeaiiipchaa

namespace Go.Proofs.Ytoglgeaiiipchaa

/-- the place behind place i, of n places, the last of which goes on at h -/
def nx (n h i : Nat) : Nat := if i + 1 = n then h else i + 1
theorem nx_lt {n h i : Nat} (hi : i < n) (hh : h < n) : nx n h i < n := by unfold nx; split <;> omega
/-- until: b comes within so many places from p on, and a till then -/
def unt (n h : Nat) (a b : Nat → Bool) : Nat → Nat → Bool
  | 0, _ => false
  | k + 1, p => b p || a p && unt n h a b k (nx n h p)
/-- release, looked for on through so many places -/
def rls (n h : Nat) (a b : Nat → Bool) : Nat → Nat → Bool
  | 0, _ => true
  | k + 1, p => b p && (a p || rls n h a b k (nx n h p))
def La.n (l : La) : Nat := l.h.length + l.l.length
/-- letter i of the endless word -/
def La.at (l : La) (i : Nat) : Int := if i < l.h.length then l.h.getD i 0 else l.l.getD ((i - l.h.length) % l.l.length) 0
/-- bit b of a letter -/
def bitOf (m : Int) (b : Nat) : Bool := m / (2 : Int) ^ b % 2 == 1
def gB (rows : List (List Bool)) (i p : Nat) : Bool := (rows.getD i []).getD p false
/-- what a node says at a place, the rows of those ahead of it being known -/
def nodeVal (l : La) (rows : List (List Bool)) (x : Nd) (p : Nat) : Bool :=
  if x.k = 1 then true
  else if x.k = 2 then bitOf (l.at p) x.n.toNat
  else if x.k = 3 then !gB rows x.a.toNat p
  else if x.k = 4 then gB rows x.a.toNat p && gB rows x.b.toNat p
  else if x.k = 5 then gB rows x.a.toNat p || gB rows x.b.toNat p
  else if x.k = 6 then gB rows x.a.toNat (nx l.n l.h.length p)
  else if x.k = 7 then unt l.n l.h.length (gB rows x.a.toNat) (gB rows x.b.toNat) l.n p
  else rls l.n l.h.length (gB rows x.a.toNat) (gB rows x.b.toNat) l.n p
def rowOf (l : La) (rows : List (List Bool)) (x : Nd) : List Bool := (List.range l.n).map (nodeVal l rows x)
/-- the rows of the first k nodes -/
def rowsOf (l : La) (f : List Nd) : Nat → List (List Bool)
  | 0 => []
  | k + 1 => rowsOf l f k ++ [rowOf l (rowsOf l f k) (f.getD k ⟨0, 0, 0, 0⟩)]
def tableOf (l : La) (f : List Nd) : List (List Bool) := rowsOf l f f.length
theorem length_rowsOf (l : La) (f : List Nd) (k : Nat) : (rowsOf l f k).length = k := by
  induction k with
  | zero => rfl
  | succ k ih => simp [rowsOf, ih]
theorem length_rowOf (l : La) (rows : List (List Bool)) (x : Nd) : (rowOf l rows x).length = l.n := by simp [rowOf]
theorem mem_rowsOf (l : La) (f : List Nd) (k : Nat) : ∀ r ∈ rowsOf l f k, r.length = l.n := by
  induction k with
  | zero => simp [rowsOf]
  | succ k ih =>
    intro r hr
    simp only [rowsOf, List.mem_append, List.mem_singleton] at hr
    rcases hr with hr | rfl
    · exact ih r hr
    · exact length_rowOf _ _ _

/-- a row on its way to where nothing changes any more: what has turned from s stays turned -/
structure FillGood (n h : Nat) (D : Nat → Bool → Bool) (s : Bool) (out : List Bool) : Prop where
  len : out.length = n
  keep : ∀ i, i < n → out.getD i s = !s → D i (out.getD (nx n h i) s) = !s
  inv : ∀ Inv : Nat → Bool → Prop, (∀ i, i < n → Inv i s) → (∀ i, i < n → ∀ b, Inv (nx n h i) b → Inv i (D i b)) → ∀ i, i < n → Inv i (out.getD i s)

theorem FillGood.start (n h : Nat) (D : Nat → Bool → Bool) (s : Bool) (hh : h < n) : FillGood n h D s (List.replicate n s) := by
  have e : ∀ i, (List.replicate n s).getD i s = s := fun i => by
    rw [List.getD_eq_getElem?_getD, List.getElem?_replicate]
    split <;> rfl
  refine ⟨by simp, fun i hi hk => ?_, fun Inv h0 _ i hi => by rw [e]; exact h0 i hi⟩
  rw [e] at hk
  cases s <;> simp at hk

theorem getD_set {out : List Bool} {i j : Nat} {v s : Bool} (hi : i < out.length) : (out.set i v).getD j s = if j = i then v else out.getD j s := by
  rw [List.getD_eq_getElem?_getD, List.getElem?_set]
  by_cases h : i = j
  · subst h; simp [hi]
  · rw [if_neg h, if_neg (fun e => h e.symm), List.getD_eq_getElem?_getD]

theorem bool_step {d o s : Bool} (hk : o = !s → d = !s) (hne : d ≠ o) : d = (!s) ∧ o = s := by
  revert hk hne
  cases d <;> cases o <;> cases s <;> decide
theorem FillGood.step {n h : Nat} {D : Nat → Bool → Bool} {s : Bool} {out : List Bool} (hg : FillGood n h D s out) (hh : h < n) (hm : ∀ i, i < n → D i s = !s → D i (!s) = !s)
    {i : Nat} (hi : i < n) (hne : D i (out.getD (nx n h i) s) ≠ out.getD i s) : FillGood n h D s (out.set i (D i (out.getD (nx n h i) s))) ∧ D i (out.getD (nx n h i) s) = (!s) ∧ out.getD i s = s := by
  have hil : i < out.length := by rw [hg.len]; exact hi
  obtain ⟨hv, ho⟩ := bool_step (hg.keep i hi) hne
  have up : ∀ j, j < n → D j (out.getD (nx n h j) s) = (!s) → D j ((out.set i (!s)).getD (nx n h j) s) = (!s) := by
    intro j hj hd
    rw [getD_set hil]
    split
    · rename_i he
      rw [he, ho] at hd
      exact hm j hj hd
    · exact hd
  refine ⟨⟨by rw [List.length_set]; exact hg.len, fun j hj hk => ?_, fun Inv h0 h1 j hj => ?_⟩, hv, ho⟩
  · rw [hv] at hk ⊢
    apply up j hj
    rw [getD_set hil] at hk
    split at hk
    · rename_i he; subst he; exact hv
    · exact hg.keep j hj hk
  · rw [getD_set hil]
    split
    · rename_i he; subst he
      exact h1 j hj _ (hg.inv Inv h0 h1 _ (nx_lt hj hh))
    · exact hg.inv Inv h0 h1 j hj

/-- how many are still as at the start -/
def cntS (s : Bool) (out : List Bool) : Nat := out.count s
theorem cntS_set {s : Bool} : ∀ {out : List Bool} {i : Nat}, i < out.length → out.getD i s = s → cntS s (out.set i (!s)) + 1 = cntS s out := by
  intro out
  induction out with
  | nil => intro i hi; simp at hi
  | cons x r ih =>
    intro i hi h
    cases i with
    | zero =>
      simp only [List.getD_cons_zero] at h
      subst h
      unfold cntS
      rw [List.set_cons_zero, List.count_cons, List.count_cons]
      cases x <;> simp
    | succ i =>
      simp only [List.getD_cons_succ] at h
      have := ih (by simpa using hi) h
      unfold cntS at this ⊢
      rw [List.set_cons_succ, List.count_cons, List.count_cons]
      omega
/-- nothing changes any more -/
def Fixed (n h : Nat) (D : Nat → Bool → Bool) (s : Bool) (out : List Bool) : Prop := ∀ i, i < n → D i (out.getD (nx n h i) s) = out.getD i s
end Go.Proofs.Ytoglgeaiiipchaa

namespace Go.Proofs.Ytoglgeaiiipchaa

def itn (n h : Nat) : Nat → Nat → Nat
  | 0, p => p
  | k + 1, p => itn n h k (nx n h p)
theorem itn_add (n h : Nat) : ∀ (i j p : Nat), itn n h (i + j) p = itn n h j (itn n h i p) := by
  intro i
  induction i with
  | zero => intro j p; simp [itn]
  | succ i ih => intro j p; rw [Nat.succ_add]; simp only [itn]; exact ih j _
theorem itn_lt {n h : Nat} (hh : h < n) : ∀ (k p : Nat), p < n → itn n h k p < n := by
  intro k
  induction k with
  | zero => intro p hp; exact hp
  | succ k ih => intro p hp; exact ih _ (nx_lt hp hh)
theorem itn_short {n h : Nat} : ∀ (i p : Nat), p + i < n → itn n h i p = p + i := by
  intro i
  induction i with
  | zero => intro p _; rfl
  | succ i ih =>
    intro p hp
    have e : nx n h p = p + 1 := by unfold nx; rw [if_neg (by omega)]
    simp only [itn, e]
    rw [ih (p + 1) (by omega)]
    omega
theorem itn_end {n h p : Nat} (hp : p < n) : itn n h (n - p) p = h := by
  obtain ⟨k, hk⟩ : ∃ k, n - p = k + 1 := ⟨n - p - 1, by omega⟩
  rw [hk, itn_add, itn_short k p (by omega)]
  simp only [itn]
  unfold nx
  rw [if_pos (by omega)]
theorem itn_round {n h p : Nat} (hh : h < n) (hp : p < n) : itn n h n p = itn n h h p := by
  have e1 : itn n h n p = itn n h p h := by
    have : n = (n - p) + p := by omega
    rw [this, itn_add, ← this, itn_end hp]
  rw [e1]
  rcases Nat.lt_or_ge (p + h) n with hl | hl
  · rw [itn_short _ _ (by omega), itn_short _ _ (by omega)]; omega
  · have a1 : itn n h h p = itn n h (h + p - n) h := by
      have : h = (n - p) + (h + p - n) := by omega
      conv => lhs; rw [this]
      rw [itn_add]
      rw [← this, itn_end hp]
    have a2 : itn n h p h = itn n h (h + p - n) h := by
      have : p = (n - h) + (h + p - n) := by omega
      conv => lhs; rw [this]
      rw [itn_add]
      rw [itn_end hh]
    rw [a1, a2]

theorem unt_iff {n h : Nat} {a b : Nat → Bool} : ∀ (k p : Nat), unt n h a b k p = true ↔ ∃ j, j < k ∧ b (itn n h j p) = true ∧ ∀ i, i < j → a (itn n h i p) = true := by
  intro k
  induction k with
  | zero => intro p; simp [unt]
  | succ k ih =>
    intro p
    simp only [unt, Bool.or_eq_true, Bool.and_eq_true, ih]
    constructor
    · rintro (hb | ⟨ha, j, hj, hb, hi⟩)
      · exact ⟨0, by omega, hb, fun i hi => absurd hi (by omega)⟩
      · refine ⟨j + 1, by omega, hb, fun i hij => ?_⟩
        cases i with
        | zero => exact ha
        | succ i => exact hi i (by omega)
    · rintro ⟨j, hj, hb, hi⟩
      cases j with
      | zero => exact .inl hb
      | succ j => exact .inr ⟨hi 0 (by omega), j, by omega, hb, fun i h2 => hi (i + 1) (by omega)⟩

/-- one time round is enough -/
theorem unt_enough {n h : Nat} {a b : Nat → Bool} (hh : h < n) {k p : Nat} (hp : p < n) (hu : unt n h a b k p = true) : unt n h a b n p = true := by
  rw [unt_iff] at hu ⊢
  obtain ⟨j, _, hb, ha⟩ := hu
  -- the least such j
  have key : ∀ j, b (itn n h j p) = true → (∀ i, i < j → a (itn n h i p) = true) → ∃ j, j < n ∧ b (itn n h j p) = true ∧ ∀ i, i < j → a (itn n h i p) = true := by
    intro j
    induction j using Nat.strongRecOn with
    | _ j ih =>
      intro hb ha
      rcases Nat.lt_or_ge j n with hl | hl
      · exact ⟨j, hl, hb, ha⟩
      · have e : itn n h j p = itn n h (j - n + h) p := by
          have e1 : j = n + (j - n) := by omega
          have e2 : j - n + h = h + (j - n) := by omega
          rw [e2, itn_add, ← itn_round hh hp, ← itn_add, ← e1]
        exact ih (j - n + h) (by omega) (by rw [← e]; exact hb) (fun i hi => ha i (by omega))
  exact key j hb ha
theorem unt_succ {n h : Nat} {a b : Nat → Bool} (hh : h < n) {p : Nat} (hp : p < n) : unt n h a b n p = (b p || a p && unt n h a b n (nx n h p)) := by
  rw [Bool.eq_iff_iff]
  constructor
  · intro hu
    have : unt n h a b (n + 1) p = true := by
      rw [unt_iff] at hu ⊢
      obtain ⟨j, hj, r⟩ := hu
      exact ⟨j, by omega, r⟩
    simpa [unt] using this
  · intro hu
    exact unt_enough hh (k := n + 1) hp (by simpa [unt] using hu)
theorem rls_unt {n h : Nat} {a b : Nat → Bool} : ∀ (k p : Nat), rls n h a b k p = !unt n h (fun i => !a i) (fun i => !b i) k p := by
  intro k
  induction k with
  | zero => intro p; rfl
  | succ k ih => intro p; simp only [rls, unt, ih]; cases a p <;> cases b p <;> simp

theorem row_until {n h : Nat} {a b : Nat → Bool} {out : List Bool} (hh : h < n) (hg : FillGood n h (fun i nb => b i || a i && nb) false out) (hf : Fixed n h (fun i nb => b i || a i && nb) false out) :
    ∀ i, i < n → out.getD i false = unt n h a b n i := by
  intro i hi
  rw [Bool.eq_iff_iff]
  constructor
  · intro ho
    have := hg.inv (fun i v => v = true → i < n → ∃ k, unt n h a b k i = true) (by simp) (fun j hj v hv h1 _ => by
      simp only [Bool.or_eq_true, Bool.and_eq_true] at h1
      rcases h1 with h1 | ⟨h1, h2⟩
      · exact ⟨1, by simp [unt, h1]⟩
      · obtain ⟨k, hk⟩ := hv h2 (nx_lt hj hh)
        exact ⟨k + 1, by simp [unt, h1, hk]⟩) i hi ho hi
    obtain ⟨k, hk⟩ := this
    exact unt_enough hh hi hk
  · intro hu
    have key : ∀ k p, p < n → unt n h a b k p = true → out.getD p false = true := by
      intro k
      induction k with
      | zero => intro p _ h0; simp [unt] at h0
      | succ k ih =>
        intro p hp hk
        rw [← hf p hp]
        simp only [unt, Bool.or_eq_true, Bool.and_eq_true] at hk
        rcases hk with hk | ⟨h1, h2⟩
        · simp [hk]
        · simp only [h1, ih _ (nx_lt hp hh) h2, Bool.and_true, Bool.or_true]
    exact key n i hi hu
theorem row_release {n h : Nat} {a b : Nat → Bool} {out : List Bool} (hh : h < n) (hg : FillGood n h (fun i nb => b i && (a i || nb)) true out) (hf : Fixed n h (fun i nb => b i && (a i || nb)) true out) :
    ∀ i, i < n → out.getD i true = rls n h a b n i := by
  intro i hi
  have e : ∀ (x y : Bool), (x = false ↔ y = false) → x = y := by decide
  apply e
  constructor
  · intro ho
    have := hg.inv (fun i v => v = false → i < n → ∃ k, rls n h a b k i = false) (by simp) (fun j hj v hv h1 _ => by
      simp only [Bool.and_eq_false_iff, Bool.or_eq_false_iff] at h1
      rcases h1 with h1 | ⟨h1, h2⟩
      · exact ⟨1, by simp [rls, h1]⟩
      · obtain ⟨k, hk⟩ := hv h2 (nx_lt hj hh)
        exact ⟨k + 1, by simp [rls, h1, hk]⟩) i hi ho hi
    obtain ⟨k, hk⟩ := this
    rw [rls_unt] at hk ⊢
    simp only [Bool.not_eq_false'] at hk ⊢
    exact unt_enough hh hi hk
  · intro hu
    have key : ∀ k p, p < n → rls n h a b k p = false → out.getD p true = false := by
      intro k
      induction k with
      | zero => intro p _ h0; simp [rls] at h0
      | succ k ih =>
        intro p hp hk
        rw [← hf p hp]
        simp only [rls, Bool.and_eq_false_iff, Bool.or_eq_false_iff] at hk
        rcases hk with hk | ⟨h1, h2⟩
        · simp [hk]
        · simp only [h1, ih _ (nx_lt hp hh) h2, Bool.or_false, Bool.and_false]
    exact key n i hi hu
theorem row_plain {n h : Nat} {V : Nat → Bool} {s : Bool} {out : List Bool} (hf : Fixed n h (fun i _ => V i) s out) : ∀ i, i < n → out.getD i s = V i := fun i hi => (hf i hi).symm
/-- a row told place by place -/
theorem row_eq {n : Nat} {s : Bool} {out : List Bool} {V : Nat → Bool} (hl : out.length = n) (h : ∀ i, i < n → out.getD i s = V i) : out = (List.range n).map V := by
  apply List.ext_getElem
  · simp [hl]
  · intro i h1 h2
    have := h i (by omega)
    rw [List.getD_eq_getElem?_getD, List.getElem?_eq_getElem h1] at this
    simpa using this
end Go.Proofs.Ytoglgeaiiipchaa

namespace Go.Proofs.Ytoglgeaiiipchaa

/-- where place k lies, k running on behind the end of n places -/
def plc (n h k : Nat) : Nat := if k < n then k else h + (k - h) % (n - h)
theorem plc_back {n h k : Nat} (hh : h < n) (hk : n ≤ k) : plc n h k = plc n h (k - (n - h)) := by
  unfold plc
  rw [if_neg (by omega)]
  have e : k - h = (k - (n - h) - h) + (n - h) := by omega
  split
  · rename_i h1
    rw [e, Nat.add_mod_right, Nat.mod_eq_of_lt (by omega)]
    omega
  · rw [e, Nat.add_mod_right]
theorem plc_lt {n h k : Nat} (hh : h < n) : plc n h k < n := by
  unfold plc
  split
  · assumption
  · have := Nat.mod_lt (k - h) (show 0 < n - h by omega)
    omega
theorem plc_succ {n h k : Nat} (hh : h < n) : nx n h (plc n h k) = plc n h (k + 1) := by
  unfold plc nx
  by_cases h1 : k < n
  · rw [if_pos h1]
    by_cases h2 : k + 1 = n
    · rw [if_pos h2, if_neg (by omega)]
      have : k + 1 - h = n - h := by omega
      rw [this, Nat.mod_self]
      omega
    · rw [if_neg h2, if_pos (by omega)]
  · have h1' : ¬ k + 1 < n := by omega
    simp only [if_neg h1, if_neg h1']
    have hm := Nat.mod_lt (k - h) (show 0 < n - h by omega)
    have e : k + 1 - h = (k - h) + 1 := by omega
    rw [e, Nat.add_mod]
    generalize (k - h) % (n - h) = r at *
    by_cases h2 : h + r + 1 = n
    · rw [if_pos h2]
      have hr : r = n - h - 1 := by omega
      rcases Nat.lt_or_ge (n - h) 2 with h3 | h3
      · have : n - h = 1 := by omega
        rw [this]
        simp [Nat.mod_one]
      · rw [hr, Nat.mod_eq_of_lt (show 1 < n - h by omega), show n - h - 1 + 1 = n - h by omega, Nat.mod_self]
        omega
    · rw [if_neg h2]
      rcases Nat.lt_or_ge (n - h) 2 with h3 | h3
      · omega
      · rw [Nat.mod_eq_of_lt (show 1 < n - h by omega), Nat.mod_eq_of_lt (by omega)]
        omega
/-- until, told by places that run on -/
theorem unt_plc {n h : Nat} {a b : Nat → Bool} (hh : h < n) (m k : Nat) : unt n h a b (m + 1) (plc n h k) = (b (plc n h k) || a (plc n h k) && unt n h a b m (plc n h (k + 1))) := by
  simp only [unt, plc_succ hh]
theorem rls_plc {n h : Nat} {a b : Nat → Bool} (hh : h < n) (m k : Nat) : rls n h a b (m + 1) (plc n h k) = (b (plc n h k) && (a (plc n h k) || rls n h a b m (plc n h (k + 1)))) := by
  simp only [rls, plc_succ hh]
theorem plc_self {n h p : Nat} (hp : p < n) : plc n h p = p := by unfold plc; rw [if_pos hp]
theorem bit_half (m : Int) (b : Nat) : bitOf m (b + 1) = bitOf (m / 2) b := by
  unfold bitOf
  rw [Int.pow_succ, Int.mul_comm, ← Int.ediv_ediv_of_nonneg (by omega)]
end Go.Proofs.Ytoglgeaiiipchaa

namespace Go.Proofs.Ytoglgeaiiipchaa

def Au.good (a : Au) (q : Int) : Prop := 0 ≤ q ∧ a.gs.getD q.toNat false = true
/-- does an automaton take an endless word? -/
def TakesU (a : Au) (u : Nat → Int) : Prop := ∃ r : Nat → Int, r 0 ∈ a.fs ∧ (∀ i, (⟨r i, u i, r (i + 1)⟩ : Stp) ∈ a.ss) ∧ ∀ n, ∃ m, n ≤ m ∧ a.good (r m)
noncomputable def takesB (a : Au) (u : Nat → Int) : Bool := @decide (TakesU a u) (Classical.propDecidable _)
theorem takesB_iff {a : Au} {u : Nat → Int} : takesB a u = true ↔ TakesU a u := by
  unfold takesB
  exact @decide_eq_true_iff _ (Classical.propDecidable _)

/-- a way by the letters from i to j; with g: that comes to a good state behind its beginning -/
inductive Way (a : Au) (u : Nat → Int) : Bool → Nat → Int → Nat → Int → Prop
  | refl (i : Nat) (q : Int) : Way a u false i q i q
  | go {g : Bool} {i j : Nat} {q p p' : Int} : Way a u g i q j p → (⟨p, u j, p'⟩ : Stp) ∈ a.ss → Way a u g i q (j + 1) p'
  | hit {g : Bool} {i j : Nat} {q p p' : Int} : Way a u g i q j p → (⟨p, u j, p'⟩ : Stp) ∈ a.ss → a.good p' → Way a u true i q (j + 1) p'

theorem Way.le {a : Au} {u : Nat → Int} {g : Bool} {i j : Nat} {q p : Int} (h : Way a u g i q j p) : i ≤ j := by
  induction h with
  | refl => exact Nat.le_refl _
  | go _ _ ih => omega
  | hit _ _ _ ih => omega
theorem Way.lt {a : Au} {u : Nat → Int} {g : Bool} {i j : Nat} {q p : Int} (h : Way a u g i q j p) (hg : g = true) : i < j := by
  cases h with
  | refl => cases hg
  | go h _ => have := h.le; omega
  | hit h _ _ => have := h.le; omega
theorem Way.trans {a : Au} {u : Nat → Int} {g g' : Bool} {i j k : Nat} {q p s : Int} (h : Way a u g i q j p) (h' : Way a u g' j p k s) : Way a u (g || g') i q k s := by
  induction h' with
  | refl => rw [Bool.or_false]; exact h
  | go _ hs ih => exact .go (ih h) hs
  | hit _ hs hg ih => rw [Bool.or_true]; exact .hit (ih h) hs hg
theorem Way.forget {a : Au} {u : Nat → Int} {g : Bool} {i j : Nat} {q p : Int} (h : Way a u g i q j p) : Way a u false i q j p := by
  induction h with
  | refl => exact .refl _ _
  | go _ hs ih => exact .go ih hs
  | hit _ hs _ ih => exact .go ih hs
/-- shifting by what the word repeats -/
theorem Way.shift {a : Au} {u : Nat → Int} {g : Bool} {i j : Nat} {q p : Int} (h : Way a u g i q j p) {b c : Nat} (hi : b ≤ i) (hu : ∀ k, b ≤ k → u (k + c) = u k) : Way a u g (i + c) q (j + c) p := by
  induction h with
  | refl => exact .refl _ _
  | @go g i j q p p' h hs ih =>
    rw [Nat.add_right_comm]
    refine .go (ih hi) ?_
    rw [hu _ (Nat.le_trans hi h.le)]; exact hs
  | @hit g i j q p p' h hs hg ih =>
    rw [Nat.add_right_comm]
    refine .hit (ih hi) ?_ hg
    rw [hu _ (Nat.le_trans hi h.le)]; exact hs
theorem Way.unshift {a : Au} {u : Nat → Int} {g : Bool} {i' j' : Nat} {q p : Int} (h : Way a u g i' q j' p) {b c : Nat} (hu : ∀ k, b ≤ k → u (k + c) = u k) : ∀ i, i' = i + c → b ≤ i → ∃ j, j' = j + c ∧ Way a u g i q j p := by
  induction h with
  | refl => intro i h1 _; exact ⟨i, h1, .refl _ _⟩
  | @go g i' j' q p p' h hs ih =>
    intro i h1 h2
    obtain ⟨j, rfl, hw⟩ := ih i h1 h2
    refine ⟨j + 1, by omega, .go hw ?_⟩
    rw [← hu _ (Nat.le_trans h2 hw.le)]; exact hs
  | @hit g i' j' q p p' h hs hg ih =>
    intro i h1 h2
    obtain ⟨j, rfl, hw⟩ := ih i h1 h2
    refine ⟨j + 1, by omega, .hit hw ?_ hg⟩
    rw [← hu _ (Nat.le_trans h2 hw.le)]; exact hs
/-- a way as a row of states -/
theorem Way.run {a : Au} {u : Nat → Int} {g : Bool} {i j : Nat} {q p : Int} (h : Way a u g i q j p) : ∃ r : Nat → Int, r i = q ∧ r j = p ∧ (∀ k, i ≤ k → k < j → (⟨r k, u k, r (k + 1)⟩ : Stp) ∈ a.ss) ∧ (g = true → ∃ k, i < k ∧ k ≤ j ∧ a.good (r k)) := by
  induction h with
  | refl i q => exact ⟨fun _ => q, rfl, rfl, fun k h1 h2 => absurd h2 (by omega), fun h => by cases h⟩
  | @go g i j q p p' h hs ih =>
    obtain ⟨r, h1, h2, h3, h4⟩ := ih
    have hle := h.le
    refine ⟨fun k => if k ≤ j then r k else p', by simp [hle, h1], by simp [show ¬ j + 1 ≤ j by omega], fun k hk1 hk2 => ?_, fun hg => ?_⟩
    · rcases Nat.lt_or_ge k j with hk | hk
      · simp only [show k ≤ j by omega, show k + 1 ≤ j by omega, if_true]
        exact h3 k hk1 hk
      · obtain rfl : k = j := by omega
        simp only [Nat.le_refl, if_true, show ¬ k + 1 ≤ k by omega, if_false, h2]
        exact hs
    · obtain ⟨k, k1, k2, k3⟩ := h4 hg
      exact ⟨k, k1, by omega, by simp only [k2, if_true]; exact k3⟩
  | @hit g i j q p p' h hs hg ih =>
    obtain ⟨r, h1, h2, h3, h4⟩ := ih
    have hle := h.le
    refine ⟨fun k => if k ≤ j then r k else p', by simp [hle, h1], by simp [show ¬ j + 1 ≤ j by omega], fun k hk1 hk2 => ?_, fun _ => ?_⟩
    · rcases Nat.lt_or_ge k j with hk | hk
      · simp only [show k ≤ j by omega, show k + 1 ≤ j by omega, if_true]
        exact h3 k hk1 hk
      · obtain rfl : k = j := by omega
        simp only [Nat.le_refl, if_true, show ¬ k + 1 ≤ k by omega, if_false, h2]
        exact hs
    · exact ⟨j + 1, by omega, Nat.le_refl _, by simpa [show ¬ j + 1 ≤ j by omega] using hg⟩
/-- a part of a run is a way -/
theorem Way.of_run {a : Au} {u : Nat → Int} {r : Nat → Int} (hs : ∀ i, (⟨r i, u i, r (i + 1)⟩ : Stp) ∈ a.ss) (i d : Nat) : Way a u false i (r i) (i + d) (r (i + d)) := by
  induction d with
  | zero => exact .refl _ _
  | succ d ih => exact .go ih (hs _)
theorem Way.of_run_hit {a : Au} {u : Nat → Int} {r : Nat → Int} (hs : ∀ i, (⟨r i, u i, r (i + 1)⟩ : Stp) ∈ a.ss) {i m j : Nat} (h1 : i < m) (h2 : m ≤ j) (hg : a.good (r m)) : Way a u true i (r i) j (r j) := by
  obtain ⟨d, rfl⟩ : ∃ d, m = i + d + 1 := ⟨m - i - 1, by omega⟩
  obtain ⟨e, rfl⟩ : ∃ e, j = i + d + 1 + e := ⟨j - (i + d + 1), by omega⟩
  have hw := (Way.of_run (a := a) hs i d).hit (hs _) hg
  exact hw.trans (Way.of_run hs _ e)

/-- **a way to a circle with a good state: the word is taken** -/
theorem takes_of_circle {a : Au} {u : Nat → Int} {f q : Int} {k c : Nat} (hf : f ∈ a.fs) (h0 : Way a u false 0 f k q) (h1 : Way a u true k q (k + c) q) (hu : ∀ i, k ≤ i → u (i + c) = u i) : TakesU a u := by
  obtain ⟨r1, a1, a2, a3, _⟩ := h0.run
  obtain ⟨r2, b1, b2, b3, b4⟩ := h1.run
  obtain ⟨g0, g1, g2, g3⟩ := b4 rfl
  have hc : 0 < c := by have := h1.lt rfl; omega
  have per : ∀ n i, k ≤ i → u (i + c * n) = u i := by
    intro n
    induction n with
    | zero => intro i _; rfl
    | succ n ih => intro i hi; rw [Nat.mul_succ, ← Nat.add_assoc, hu _ (by omega), ih i hi]
  refine ⟨fun t => if t < k then r1 t else r2 (k + (t - k) % c), ?_, fun t => ?_, fun n => ?_⟩
  · show (if 0 < k then r1 0 else r2 (k + (0 - k) % c)) ∈ a.fs
    by_cases hk : 0 < k
    · rw [if_pos hk, a1]; exact hf
    · obtain rfl : k = 0 := by omega
      simp only [Nat.lt_irrefl, if_false, Nat.sub_zero, Nat.zero_mod, Nat.add_zero]
      rw [b1, ← a2, a1]; exact hf
  · show (⟨if t < k then r1 t else r2 (k + (t - k) % c), u t, if t + 1 < k then r1 (t + 1) else r2 (k + (t + 1 - k) % c)⟩ : Stp) ∈ a.ss
    by_cases ht : t < k
    · rw [if_pos ht]
      by_cases ht1 : t + 1 < k
      · rw [if_pos ht1]; exact a3 t (Nat.zero_le _) ht
      · rw [if_neg ht1]
        have e : t + 1 = k := by omega
        have := a3 t (Nat.zero_le _) ht
        rw [e, a2] at this
        rw [show t + 1 - k = 0 by omega, Nat.zero_mod, Nat.add_zero, b1]
        exact this
    · rw [if_neg ht, if_neg (by omega)]
      have hm := Nat.mod_lt (t - k) hc
      have hdm := Nat.mod_add_div (t - k) c
      have hut : u t = u (k + (t - k) % c) := by
        rw [← per ((t - k) / c) (k + (t - k) % c) (by omega)]
        congr 1
        omega
      have hst := b3 (k + (t - k) % c) (by omega) (by omega)
      rw [hut]
      have e : (t + 1 - k) % c = if (t - k) % c + 1 = c then 0 else (t - k) % c + 1 := by
        have e1 : t + 1 - k = (t - k) % c + 1 + c * ((t - k) / c) := by omega
        rw [e1, Nat.add_mul_mod_self_left]
        split
        · rename_i h; rw [h, Nat.mod_self]
        · exact Nat.mod_eq_of_lt (by omega)
      rw [e]
      split
      · rename_i h
        have e2 : k + (t - k) % c + 1 = k + c := by omega
        rw [e2, b2] at hst
        rw [Nat.add_zero, b1]
        exact hst
      · exact hst
  · refine ⟨g0 + c * (n + 1), ?_, ?_⟩
    · have := Nat.le_mul_of_pos_left (n + 1) hc; omega
    · show a.good (if g0 + c * (n + 1) < k then r1 (g0 + c * (n + 1)) else r2 (k + (g0 + c * (n + 1) - k) % c))
      rw [if_neg (by omega)]
      have e : g0 + c * (n + 1) - k = (g0 - k) + c * (n + 1) := by omega
      rw [e, Nat.add_mul_mod_self_left]
      by_cases hg : g0 = k + c
      · have : g0 - k = c := by omega
        rw [this, Nat.mod_self, Nat.add_zero, b1, ← b2, ← hg]
        exact g3
      · rw [Nat.mod_eq_of_lt (by omega), show k + (g0 - k) = g0 by omega]
        exact g3
end Go.Proofs.Ytoglgeaiiipchaa

namespace Go.Proofs.Ytoglgeaiiipchaa

structure AuOK (a : Au) : Prop where
  st1 : 1 ≤ a.st
  st2 : a.st ≤ 300
  le1 : 1 ≤ a.le
  le2 : a.le ≤ 8
  gl : (a.gs.length : Int) = a.st
  sl : a.ss.length ≤ 6000
  fr : ∀ f ∈ a.fs, 0 ≤ f ∧ f < a.st
  fo : a.fs.Pairwise (· < ·)
  sr : ∀ s ∈ a.ss, (0 ≤ s.f ∧ s.f < a.st) ∧ (0 ≤ s.t ∧ s.t < a.st) ∧ 0 ≤ s.l ∧ s.l < a.le

theorem pigeon : ∀ (N : Nat) (f : Nat → Nat), (∀ i, i ≤ N → f i < N) → ∃ i j, i < j ∧ j ≤ N ∧ f i = f j
  | 0, f, h => absurd (h 0 (Nat.le_refl _)) (by omega)
  | M + 1, f, h => by
    by_cases he : ∃ i, i ≤ M ∧ f i = f (M + 1)
    · obtain ⟨i, hi, he⟩ := he
      exact ⟨i, M + 1, by omega, Nat.le_refl _, he⟩
    · have hne : ∀ i, i ≤ M → f i ≠ f (M + 1) := fun i hi e => he ⟨i, hi, e⟩
      obtain ⟨i, j, h1, h2, h3⟩ := pigeon M (fun i => if f i = M then f (M + 1) else f i) (fun i hi => by
        have := h i (by omega)
        have := h (M + 1) (by omega)
        have := hne i hi
        show (if f i = M then f (M + 1) else f i) < M
        split <;> omega)
      refine ⟨i, j, h1, by omega, ?_⟩
      have a1 := hne i (by omega)
      have a2 := hne j (by omega)
      have h3 : (if f i = M then f (M + 1) else f i) = (if f j = M then f (M + 1) else f j) := h3
      split at h3 <;> split at h3 <;> omega

/-- again and again: a row of later and later places -/
theorem rise {P : Nat → Nat → Prop} (h : ∀ n, ∃ m, n < m ∧ P n m) (b : Nat) : ∃ g : Nat → Nat, g 0 = b ∧ ∀ k, g k < g (k + 1) ∧ P (g k) (g (k + 1)) := by
  refine ⟨fun k => Nat.rec b (fun _ x => Classical.choose (h x)) k, rfl, fun k => ?_⟩
  exact Classical.choose_spec (h _)
theorem rise_lt {g : Nat → Nat} (h : ∀ k, g k < g (k + 1)) {i j : Nat} (hij : i < j) : g i < g j := by
  obtain ⟨d, rfl⟩ : ∃ d, j = i + 1 + d := ⟨j - i - 1, by omega⟩
  clear hij
  induction d with
  | zero => exact h i
  | succ d ih => exact Nat.lt_trans ih (h _)

/-- letters by place -/
def La.row (l : La) : List Int := l.h ++ l.l
theorem La.row_len (l : La) : l.row.length = l.n := by simp [La.row, La.n]
theorem getD_append {xs ys : List Int} {k : Nat} : (xs ++ ys).getD k 0 = if k < xs.length then xs.getD k 0 else ys.getD (k - xs.length) 0 := by
  simp only [List.getD_eq_getElem?_getD]
  split
  · rename_i h; rw [List.getElem?_append_left h]
  · rename_i h; rw [List.getElem?_append_right (by omega)]
theorem La.row_plc {l : La} (hp : 0 < l.l.length) (k : Nat) : l.row.getD (plc l.n l.h.length k) 0 = l.at k := by
  unfold La.row La.at plc La.n
  rw [getD_append]
  have e : l.h.length + l.l.length - l.h.length = l.l.length := by omega
  by_cases h1 : k < l.h.length
  · rw [if_pos (show k < l.h.length + l.l.length by omega), if_pos h1, if_pos h1]
  · rw [if_neg h1]
    split
    · rw [Nat.mod_eq_of_lt (by omega)]
    · rw [e, if_neg (by omega), show l.h.length + (k - l.h.length) % l.l.length - l.h.length = (k - l.h.length) % l.l.length by omega]
theorem La.at_add {l : La} {k m : Nat} (hk : l.h.length ≤ k) : l.at (k + l.l.length * m) = l.at k := by
  unfold La.at
  rw [if_neg (by omega), if_neg (by omega), show k + l.l.length * m - l.h.length = k - l.h.length + l.l.length * m by omega, Nat.add_mul_mod_self_left]

/-- more than one step on -/
inductive Plus {α : Type} (E : α → α → Prop) : α → α → Prop
  | one {x y : α} : E x y → Plus E x y
  | on {x y z : α} : Plus E x y → E y z → Plus E x z
def SE (a : Au) (l : La) (x y : Int × Nat) : Prop := (⟨x.1, l.row.getD x.2 0, y.1⟩ : Stp) ∈ a.ss ∧ y.2 = nx l.n l.h.length x.2

/-- **the program's way of asking** -/
def SpotTakes (a : Au) (l : La) : Prop := ∃ f ∈ a.fs, ∃ x : Int × Nat, ((f, 0) = x ∨ Plus (SE a l) (f, 0) x) ∧ l.h.length ≤ x.2 ∧ a.good x.1 ∧ Plus (SE a l) x x

theorem Plus.way {a : Au} {l : La} (hp : 0 < l.l.length) {x y : Int × Nat} (h : Plus (SE a l) x y) : ∀ k, plc l.n l.h.length k = x.2 → ∃ j, k < j ∧ plc l.n l.h.length j = y.2 ∧ Way a l.at false k x.1 j y.1 := by
  have hh : l.h.length < l.n := by unfold La.n; omega
  induction h with
  | @one y h =>
    intro k hk
    refine ⟨k + 1, by omega, by rw [← plc_succ hh, hk]; exact h.2.symm, .go (.refl _ _) ?_⟩
    rw [← La.row_plc hp, hk]; exact h.1
  | @on y z _ h ih =>
    intro k hk
    obtain ⟨j, h1, h2, h3⟩ := ih k hk
    refine ⟨j + 1, by omega, by rw [← plc_succ hh, h2]; exact h.2.symm, .go h3 ?_⟩
    rw [← La.row_plc hp, h2]; exact h.1
theorem Plus.of_run {a : Au} {l : La} (hp : 0 < l.l.length) {r : Nat → Int} (hs : ∀ i, (⟨r i, l.at i, r (i + 1)⟩ : Stp) ∈ a.ss) (k d : Nat) : Plus (SE a l) (r k, plc l.n l.h.length k) (r (k + d + 1), plc l.n l.h.length (k + d + 1)) := by
  have hh : l.h.length < l.n := by unfold La.n; omega
  have he : ∀ i, SE a l (r i, plc l.n l.h.length i) (r (i + 1), plc l.n l.h.length (i + 1)) := fun i => ⟨by
    show (⟨r i, l.row.getD (plc l.n l.h.length i) 0, r (i + 1)⟩ : Stp) ∈ a.ss
    rw [La.row_plc hp]; exact hs i, (plc_succ hh).symm⟩
  induction d with
  | zero => exact .one (he k)
  | succ d ih => exact .on ih (he _)
theorem Way.hit_end {a : Au} {u : Nat → Int} {i j : Nat} {q p : Int} (h : Way a u false i q j p) (hij : i < j) (hg : a.good p) : Way a u true i q j p := by
  cases h with
  | refl => omega
  | go h hs => exact .hit h hs hg
theorem plc_cong {n h k j : Nat} (hh : h < n) (hk : h ≤ plc n h k) (he : plc n h k = plc n h j) (hkj : k < j) : ∃ m, j = k + (n - h) * m ∧ h ≤ k := by
  have hk2 : h ≤ k := by
    rcases Nat.lt_or_ge k n with h1 | h1
    · unfold plc at hk; rw [if_pos h1] at hk; exact hk
    · omega
  have hj2 : h ≤ j := by omega
  have f : ∀ i, h ≤ i → (plc n h i) = h + (i - h) % (n - h) := by
    intro i hi
    unfold plc
    split
    · rw [Nat.mod_eq_of_lt (by omega)]; omega
    · rfl
  rw [f k hk2, f j hj2] at he
  have he' : (k - h) % (n - h) = (j - h) % (n - h) := by omega
  have h1 := Nat.mod_add_div (k - h) (n - h)
  have h2 := Nat.mod_add_div (j - h) (n - h)
  have hle : (k - h) / (n - h) ≤ (j - h) / (n - h) := Nat.div_le_div_right (by omega)
  refine ⟨(j - h) / (n - h) - (k - h) / (n - h), ?_, hk2⟩
  rw [Nat.mul_sub]
  have := Nat.mul_le_mul_left (n - h) hle
  omega

theorem takes_spot {a : Au} {l : La} (ho : AuOK a) (hp : 0 < l.l.length) : TakesU a l.at ↔ SpotTakes a l := by
  have hh : l.h.length < l.n := by unfold La.n; omega
  have hL : l.n - l.h.length = l.l.length := by unfold La.n; omega
  constructor
  · rintro ⟨r, h0, hs, hg⟩
    have hr : ∀ i, 0 ≤ r i ∧ r i < a.st := fun i => (ho.sr _ (hs i)).1
    obtain ⟨g, g0, hgr⟩ := rise (P := fun _ m => a.good (r m)) (fun n => by obtain ⟨m, h1, h2⟩ := hg (n + 1); exact ⟨m, h1, h2⟩) l.h.length
    obtain ⟨i, j, hij, _, he⟩ := pigeon (l.n * a.st.toNat) (fun k => plc l.n l.h.length (g (k + 1)) + l.n * (r (g (k + 1))).toNat) (fun k _ => by
      have h1 := plc_lt (k := g (k + 1)) hh
      have h2 := hr (g (k + 1))
      have h3 : (r (g (k + 1))).toNat + 1 ≤ a.st.toNat := by omega
      have h4 := Nat.mul_le_mul_left l.n h3
      rw [Nat.mul_succ] at h4
      omega)
    have he : plc l.n l.h.length (g (i + 1)) + l.n * (r (g (i + 1))).toNat = plc l.n l.h.length (g (j + 1)) + l.n * (r (g (j + 1))).toNat := he
    have e1 : plc l.n l.h.length (g (i + 1)) = plc l.n l.h.length (g (j + 1)) := by
      have := congrArg (· % l.n) he
      simp only [Nat.add_mul_mod_self_left] at this
      rwa [Nat.mod_eq_of_lt (plc_lt hh), Nat.mod_eq_of_lt (plc_lt hh)] at this
    have e2 : r (g (i + 1)) = r (g (j + 1)) := by
      rw [e1] at he
      have h2 := hr (g (i + 1))
      have h3 := hr (g (j + 1))
      have : (r (g (i + 1))).toNat = (r (g (j + 1))).toNat := Nat.eq_of_mul_eq_mul_left (show 0 < l.n by omega) (by omega)
      omega
    have hlt := rise_lt (fun k => (hgr k).1) (show i + 1 < j + 1 by omega)
    have hge : l.h.length < g (i + 1) := by rw [← g0]; exact rise_lt (fun k => (hgr k).1) (Nat.succ_pos i)
    refine ⟨r 0, h0, (r (g (i + 1)), plc l.n l.h.length (g (i + 1))), .inr ?_, ?_, (hgr i).2, ?_⟩
    · obtain ⟨d, hd⟩ : ∃ d, g (i + 1) = 0 + d + 1 := ⟨g (i + 1) - 1, by omega⟩
      have := Plus.of_run hp hs 0 d
      rw [← hd] at this
      rwa [show plc l.n l.h.length 0 = 0 from plc_self (by omega)] at this
    · show l.h.length ≤ plc l.n l.h.length (g (i + 1))
      unfold plc
      split <;> omega
    · obtain ⟨d, hd⟩ : ∃ d, g (j + 1) = g (i + 1) + d + 1 := ⟨g (j + 1) - g (i + 1) - 1, by omega⟩
      have := Plus.of_run hp hs (g (i + 1)) d
      rw [← hd, ← e1, ← e2] at this
      exact this
  · rintro ⟨f, hf, x, hx, hb, hg, hc⟩
    obtain ⟨k, hk, hw⟩ : ∃ k, plc l.n l.h.length k = x.2 ∧ Way a l.at false 0 f k x.1 := by
      rcases hx with rfl | hx
      · exact ⟨0, plc_self (by omega), .refl _ _⟩
      · obtain ⟨j, _, h2, h3⟩ := hx.way hp 0 (plc_self (by omega))
        exact ⟨j, h2, h3⟩
    obtain ⟨j, hkj, hj, hw2⟩ := hc.way hp k hk
    obtain ⟨m, rfl, hhk⟩ := plc_cong hh (by rw [hk]; exact hb) (hk.trans hj.symm) hkj
    rw [hL] at *
    exact takes_of_circle hf hw (hw2.hit_end hkj hg) (fun i hi => La.at_add (by omega))

/-- **the reference's way of asking** -/
def LoopTakes (a : Au) (l : La) : Prop := ∃ q : Int, (∃ f ∈ a.fs, ∃ j, Way a l.at false 0 f (l.h.length + l.l.length * j) q) ∧ ∃ m, 0 < m ∧ m ≤ 2 * a.st.toNat ∧ Way a l.at true l.h.length q (l.h.length + l.l.length * m) q

theorem Way.state {a : Au} (ho : AuOK a) {u : Nat → Int} {g : Bool} {i j : Nat} {q p : Int} (h : Way a u g i q j p) (hq : 0 ≤ q ∧ q < a.st) : 0 ≤ p ∧ p < a.st := by
  cases h with
  | refl => exact hq
  | go _ hs => exact (ho.sr _ hs).2.1
  | hit _ hs _ => exact (ho.sr _ hs).2.1
theorem Way.part {a : Au} {u : Nat → Int} {r : Nat → Int} {i : Nat} : ∀ {d : Nat}, (∀ k, i ≤ k → k < i + d → (⟨r k, u k, r (k + 1)⟩ : Stp) ∈ a.ss) → Way a u false i (r i) (i + d) (r (i + d))
  | 0, _ => .refl _ _
  | d + 1, h => .go (Way.part fun k h1 h2 => h k h1 (by omega)) (h _ (by omega) (by omega))
theorem Way.cut {a : Au} (ho : AuOK a) {l : La} (hp : 0 < l.l.length) : ∀ (t : Nat) {q s : Int}, 0 ≤ q ∧ q < a.st → Way a l.at false l.h.length q (l.h.length + l.l.length * t) s → ∃ t', t' < a.st.toNat ∧ Way a l.at false l.h.length q (l.h.length + l.l.length * t') s := by
  intro t
  induction t using Nat.strongRecOn with
  | _ t ih =>
    intro q s hq h
    have hst := ho.st1
    by_cases ht : t < a.st.toNat
    · exact ⟨t, ht, h⟩
    · obtain ⟨r, h1, h2, h3, _⟩ := h.run
      have hrange : ∀ k, k ≤ t → 0 ≤ r (l.h.length + l.l.length * k) ∧ r (l.h.length + l.l.length * k) < a.st := fun k hk => by
        have hle := Nat.mul_le_mul_left l.l.length hk
        have := Way.part (a := a) (u := l.at) (r := r) (i := l.h.length) (d := l.l.length * k) (fun k' a1 a2 => h3 k' a1 (by omega))
        exact this.state ho (by rw [h1]; exact hq)
      obtain ⟨i, j, hij, hj, he⟩ := pigeon a.st.toNat (fun k => (r (l.h.length + l.l.length * k)).toNat) (fun k hk => by have := hrange k (by omega); omega)
      have he : (r (l.h.length + l.l.length * i)).toNat = (r (l.h.length + l.l.length * j)).toNat := he
      have e : r (l.h.length + l.l.length * i) = r (l.h.length + l.l.length * j) := by
        have := hrange i (by omega)
        have := hrange j (by omega)
        omega
      have hi' := Nat.mul_le_mul_left l.l.length (show i ≤ t by omega)
      have hj' := Nat.mul_le_mul_left l.l.length (show j ≤ t by omega)
      have hij' := Nat.mul_le_mul_left l.l.length (show i ≤ j by omega)
      have w1 := Way.part (a := a) (u := l.at) (r := r) (i := l.h.length) (d := l.l.length * i) (fun k' a1 a2 => h3 k' a1 (by omega))
      have w2 := Way.part (a := a) (u := l.at) (r := r) (i := l.h.length + l.l.length * j) (d := l.l.length * (t - j)) (fun k' a1 a2 => h3 k' (by omega) (by rw [Nat.mul_sub] at a2; omega))
      rw [Nat.mul_sub, show l.h.length + l.l.length * j + (l.l.length * t - l.l.length * j) = l.h.length + l.l.length * t by omega, h2, ← e] at w2
      rw [h1] at w1
      -- the second part, so much earlier
      have w3 : Way a l.at false (l.h.length + l.l.length * i) (r (l.h.length + l.l.length * i)) (l.h.length + l.l.length * (t - (j - i))) s := by
        obtain ⟨k, hk, hw⟩ := w2.unshift (b := l.h.length) (c := l.l.length * (j - i)) (fun k hk => La.at_add hk) (l.h.length + l.l.length * i) (by rw [Nat.mul_sub]; omega) (by omega)
        have : k = l.h.length + l.l.length * (t - (j - i)) := by
          rw [Nat.mul_sub, Nat.mul_sub] at *
          omega
        rwa [this] at hw
      exact ih (t - (j - i)) (by omega) hq (w1.trans w3)

theorem takes_loop {a : Au} {l : La} (ho : AuOK a) (hp : 0 < l.l.length) : TakesU a l.at ↔ LoopTakes a l := by
  constructor
  · rintro ⟨r, h0, hs, hg⟩
    have hr : ∀ i, 0 ≤ r i ∧ r i < a.st := fun i => (ho.sr _ (hs i)).1
    obtain ⟨g, g0, hgr⟩ := rise (P := fun i j => ∃ m, l.h.length + l.l.length * i < m ∧ m ≤ l.h.length + l.l.length * j ∧ a.good (r m)) (fun n => by
      obtain ⟨m, h1, h2⟩ := hg (l.h.length + l.l.length * n + 1)
      have hd := Nat.mod_add_div (m - l.h.length) l.l.length
      have hm := Nat.mod_lt (m - l.h.length) hp
      have hle : l.l.length * n < l.l.length * ((m - l.h.length) / l.l.length + 1) := by rw [Nat.mul_succ]; omega
      exact ⟨(m - l.h.length) / l.l.length + 1, Nat.lt_of_mul_lt_mul_left hle, m, by omega, by rw [Nat.mul_succ]; omega, h2⟩) 0
    obtain ⟨i, j, hij, _, he⟩ := pigeon a.st.toNat (fun k => (r (l.h.length + l.l.length * g k)).toNat) (fun k _ => by have := hr (l.h.length + l.l.length * g k); omega)
    have he : (r (l.h.length + l.l.length * g i)).toNat = (r (l.h.length + l.l.length * g j)).toNat := he
    have e : r (l.h.length + l.l.length * g i) = r (l.h.length + l.l.length * g j) := by
      have := hr (l.h.length + l.l.length * g i)
      have := hr (l.h.length + l.l.length * g j)
      omega
    have hlt := rise_lt (fun k => (hgr k).1) hij
    have hle : g (i + 1) ≤ g j := by
      rcases Nat.eq_or_lt_of_le (show i + 1 ≤ j by omega) with h | h
      · rw [h]; exact Nat.le_refl _
      · exact Nat.le_of_lt (rise_lt (fun k => (hgr k).1) h)
    obtain ⟨m, m1, m2, m3⟩ := (hgr i).2
    have hle' := Nat.mul_le_mul_left l.l.length hle
    -- in which loop, and from where to where
    obtain ⟨t, ht⟩ : ∃ t, t = (m - l.h.length - 1) / l.l.length := ⟨_, rfl⟩
    have hd := Nat.mod_add_div (m - l.h.length - 1) l.l.length
    have hm := Nat.mod_lt (m - l.h.length - 1) hp
    rw [← ht] at hd
    have ht1 : g i ≤ t := by
      have : l.l.length * g i < l.l.length * (t + 1) := by rw [Nat.mul_succ]; omega
      have := Nat.lt_of_mul_lt_mul_left this
      omega
    have ht2 : t + 1 ≤ g j := by
      have : l.l.length * t < l.l.length * g j := by omega
      have := Nat.lt_of_mul_lt_mul_left this
      omega
    have ht1' := Nat.mul_le_mul_left l.l.length ht1
    have ht2' := Nat.mul_le_mul_left l.l.length ht2
    have way : ∀ x y, x ≤ y → ∀ g, Way a l.at g (l.h.length + l.l.length * x) (r (l.h.length + l.l.length * x)) (l.h.length + l.l.length * y) (r (l.h.length + l.l.length * y)) →
        Way a l.at g l.h.length (r (l.h.length + l.l.length * x)) (l.h.length + l.l.length * (y - x)) (r (l.h.length + l.l.length * y)) := by
      intro x y hxy g hw
      obtain ⟨k, hk, hw'⟩ := hw.unshift (b := l.h.length) (c := l.l.length * x) (fun k hk => La.at_add hk) l.h.length rfl (Nat.le_refl _)
      have := Nat.mul_le_mul_left l.l.length hxy
      have : k = l.h.length + l.l.length * (y - x) := by rw [Nat.mul_sub]; omega
      rwa [this] at hw'
    have wr : ∀ x y, x ≤ y → Way a l.at false (l.h.length + l.l.length * x) (r (l.h.length + l.l.length * x)) (l.h.length + l.l.length * y) (r (l.h.length + l.l.length * y)) := by
      intro x y hxy
      have := Nat.mul_le_mul_left l.l.length hxy
      have hw := Way.of_run (a := a) hs (l.h.length + l.l.length * x) (l.l.length * (y - x))
      rwa [Nat.mul_sub, show l.h.length + l.l.length * x + (l.l.length * y - l.l.length * x) = l.h.length + l.l.length * y by omega] at hw
    have w1 := way _ _ ht1 _ (wr _ _ ht1)
    have w3 := way _ _ ht2 _ (wr _ _ ht2)
    have w2 : Way a l.at true l.h.length (r (l.h.length + l.l.length * t)) (l.h.length + l.l.length * 1) (r (l.h.length + l.l.length * (t + 1))) := by
      have := way t (t + 1) (by omega) true (Way.of_run_hit hs (m := m) (by omega) (by rw [Nat.mul_succ]; omega) m3)
      rwa [show t + 1 - t = 1 by omega] at this
    obtain ⟨t1, b1, v1⟩ := w1.cut ho hp _ (hr _)
    obtain ⟨t3, b3, v3⟩ := w3.cut ho hp _ (hr _)
    have sh : ∀ {g : Bool} {x y : Nat} {q p : Int}, Way a l.at g l.h.length q (l.h.length + l.l.length * x) p → Way a l.at g (l.h.length + l.l.length * y) q (l.h.length + l.l.length * (y + x)) p := by
      intro g x y q p hw
      have := hw.shift (b := l.h.length) (c := l.l.length * y) (Nat.le_refl _) (fun k hk => La.at_add hk)
      rwa [show l.h.length + l.l.length * x + l.l.length * y = l.h.length + l.l.length * (y + x) by rw [Nat.mul_add]; omega] at this
    refine ⟨r (l.h.length + l.l.length * g i), ⟨r 0, h0, g i, ?_⟩, t1 + 1 + t3, by omega, by omega, ?_⟩
    · have := Way.of_run (a := a) hs 0 (l.h.length + l.l.length * g i)
      rwa [Nat.zero_add] at this
    · have := v1.trans ((sh (y := t1) w2).trans (sh (y := t1 + 1) v3))
      rw [← e] at this
      simpa using this
  · rintro ⟨q, ⟨f, hf, j, hj⟩, m, h0, _, hw⟩
    have := hw.shift (b := l.h.length) (c := l.l.length * j) (Nat.le_refl _) (fun k hk => La.at_add hk)
    refine takes_of_circle (c := l.l.length * m) hf hj ?_ (fun i hi => La.at_add (by omega))
    rwa [show l.h.length + l.l.length * m + l.l.length * j = l.h.length + l.l.length * j + l.l.length * m by omega] at this
end Go.Proofs.Ytoglgeaiiipchaa

namespace Go.Proofs.Ytoglgeaiiipchaa

/-- does one step stand ahead of another one? -/
def stpLt (s t : Stp) : Bool := if s.f = t.f then (if s.l = t.l then decide (s.t < t.t) else decide (s.l < t.l)) else decide (s.f < t.f)
def fsBad (st : Int) (fs : List Int) : Bool := fs.any fun n => !btw n 0 (st - 1)
def fsErr (fs : List Int) (i : Nat) : Bool := decide (fs.getD i 0 ≤ fs.getD (i - 1) 0)
/-- the first numbers that do not rise, from place i on -/
def fsDown (fs : List Int) : Nat → Nat → Bool
  | 0, _ => false
  | m + 1, i => fsErr fs i || fsDown fs m (i + 1)
def stpBad (a : Au) (s : Stp) : Bool := !btw s.f 0 (a.st - 1) || !btw s.t 0 (a.st - 1) || !btw s.l 0 (a.le - 1)
def nostp : Stp := ⟨0, 0, 0⟩
/-- what is wrong with step number i -/
def stpErr (a : Au) (i : Nat) : Int :=
  if stpBad a (a.ss.getD i nostp) = true then 5
  else if (decide (0 < i) && !stpLt (a.ss.getD (i - 1) nostp) (a.ss.getD i nostp)) = true then 4
  else 0
def ckS (a : Au) : Nat → Nat → Int
  | 0, _ => 0
  | m + 1, i => if stpErr a i = 0 then ckS a m (i + 1) else stpErr a i
def ckA (a : Au) : Int :=
  if (!btw a.st 1 300 || !btw a.le 1 8) = true then 3
  else if (a.gs.length : Int) ≠ a.st then 1
  else if 6000 < (a.ss.length : Int) then 2
  else if fsBad a.st a.fs = true then 5
  else if fsDown a.fs (a.fs.length - 1) 1 = true then 4
  else ckS a a.ss.length 0

theorem ckS_zero {a : Au} : ∀ (m i : Nat), ckS a m i = 0 ↔ ∀ k, i ≤ k → k < i + m → stpErr a k = 0
  | 0, i => ⟨fun _ k h1 h2 => absurd h2 (by omega), fun _ => rfl⟩
  | m + 1, i => by
    unfold ckS
    by_cases h : stpErr a i = 0
    · rw [if_pos h, ckS_zero m (i + 1)]
      constructor
      · intro hk k h1 h2
        rcases Nat.eq_or_lt_of_le h1 with rfl | h3
        · exact h
        · exact hk k h3 (by omega)
      · intro hk k h1 h2
        exact hk k (by omega) (by omega)
    · rw [if_neg h]
      exact ⟨fun h' => absurd h' h, fun hk => absurd (hk i (Nat.le_refl _) (by omega)) h⟩
theorem ckS_at {a : Au} : ∀ (m i k : Nat), i ≤ k → k < i + m → (∀ j, i ≤ j → j < k → stpErr a j = 0) → stpErr a k ≠ 0 → ckS a m i = stpErr a k
  | 0, i, k, h1, h2, _, _ => absurd h2 (by omega)
  | m + 1, i, k, h1, h2, h3, h4 => by
    unfold ckS
    rcases Nat.eq_or_lt_of_le h1 with rfl | h5
    · rw [if_neg h4]
    · rw [if_pos (h3 i (Nat.le_refl _) h5)]
      exact ckS_at m (i + 1) k h5 (by omega) (fun j a1 a2 => h3 j (by omega) a2) h4
theorem fsDown_false {fs : List Int} : ∀ (m i : Nat), fsDown fs m i = false ↔ ∀ k, i ≤ k → k < i + m → fsErr fs k = false
  | 0, i => ⟨fun _ k h1 h2 => absurd h2 (by omega), fun _ => rfl⟩
  | m + 1, i => by
    unfold fsDown
    rw [Bool.or_eq_false_iff, fsDown_false m (i + 1)]
    constructor
    · rintro ⟨h, hk⟩ k h1 h2
      rcases Nat.eq_or_lt_of_le h1 with rfl | h3
      · exact h
      · exact hk k h3 (by omega)
    · intro hk
      exact ⟨hk i (Nat.le_refl _) (by omega), fun k h1 h2 => hk k (by omega) (by omega)⟩
theorem fsDown_at {fs : List Int} {m i k : Nat} (h1 : i ≤ k) (h2 : k < i + m) (h3 : fsErr fs k = true) : fsDown fs m i = true := by
  cases h : fsDown fs m i with
  | true => rfl
  | false => rw [(fsDown_false m i).1 h k h1 h2] at h3; cases h3
theorem stpLt_iff {s t : Stp} : stpLt s t = true ↔ s.f < t.f ∨ s.f = t.f ∧ (s.l < t.l ∨ s.l = t.l ∧ s.t < t.t) := by
  unfold stpLt
  split
  · rename_i h
    split
    · rename_i h2; simp [h, h2]
    · rename_i h2
      simp only [decide_eq_true_eq]
      constructor
      · intro h3; exact .inr ⟨h, .inl h3⟩
      · rintro (h3 | ⟨_, h3 | ⟨h3, _⟩⟩)
        · omega
        · exact h3
        · exact absurd h3 h2
  · rename_i h
    simp only [decide_eq_true_eq]
    constructor
    · exact .inl
    · rintro (h3 | ⟨h3, _⟩)
      · exact h3
      · exact absurd h3 h
theorem stpLt_trans {s t u : Stp} (h : stpLt s t = true) (h' : stpLt t u = true) : stpLt s u = true := by
  rw [stpLt_iff] at *
  omega
theorem stpLt_irrefl (s : Stp) : stpLt s s = false := by
  cases h : stpLt s s with
  | false => rfl
  | true => rw [stpLt_iff] at h; omega
theorem pairwise_of_next {α : Type} {R : α → α → Prop} (ht : ∀ x y z : α, R x y → R y z → R x z) : ∀ (xs : List α), (∀ i, (h : i + 1 < xs.length) → R xs[i] xs[i + 1]) → xs.Pairwise R
  | [], _ => .nil
  | [x], _ => by simp
  | x :: y :: r, h => by
    have ih := pairwise_of_next ht (y :: r) (fun i hi => h (i + 1) (Nat.succ_lt_succ hi))
    refine List.Pairwise.cons ?_ ih
    intro z hz
    have h0 : R x y := h 0 (by simp)
    rcases List.mem_cons.1 hz with rfl | hz
    · exact h0
    · exact ht _ _ _ h0 (List.rel_of_pairwise_cons ih hz)
theorem next_of_pairwise {α : Type} {R : α → α → Prop} {xs : List α} (hp : xs.Pairwise R) (i : Nat) (h : i + 1 < xs.length) : R xs[i] xs[i + 1] :=
  List.pairwise_iff_getElem.1 hp i (i + 1) (by omega) h (by omega)
/-- the steps stand in order -/
def ssSorted (ss : List Stp) : Prop := ss.Pairwise fun s t => stpLt s t = true
theorem btw_false {n a b : Int} : btw n a b = false ↔ ¬ (a ≤ n ∧ n ≤ b) := by
  rw [← btw_iff]; simp
theorem getD_lt {α : Type} {xs : List α} {i : Nat} {d : α} (h : i < xs.length) : xs.getD i d = xs[i] := by rw [List.getD_eq_getElem?_getD, List.getElem?_eq_getElem h]; rfl
/-- **Check finds nothing just of what is right** -/
theorem ckA_zero {a : Au} : ckA a = 0 ↔ AuOK a ∧ ssSorted a.ss := by
  unfold ckA
  constructor
  · intro h
    split at h
    · cases h
    · rename_i h1
      split at h
      · cases h
      · rename_i h2
        split at h
        · cases h
        · rename_i h3
          split at h
          · cases h
          · rename_i h4
            split at h
            · cases h
            · rename_i h5
              simp only [Bool.or_eq_true, Bool.not_eq_true', not_or, Bool.not_eq_false, btw_iff] at h1
              have h6 : ∀ i, (hi : i < a.ss.length) → stpBad a a.ss[i] = false ∧ (0 < i → stpLt (a.ss.getD (i - 1) nostp) a.ss[i] = true) := by
                intro i hi
                have := (ckS_zero _ _).1 h i (Nat.zero_le _) (by omega)
                unfold stpErr at this
                rw [getD_lt hi] at this
                split at this
                · cases this
                · rename_i h7
                  split at this
                  · cases this
                  · rename_i h8
                    refine ⟨by simpa using h7, fun h0 => ?_⟩
                    simp only [Bool.and_eq_true, decide_eq_true_eq, Bool.not_eq_true', not_and, Bool.not_eq_false] at h8
                    exact h8 h0
              refine ⟨⟨h1.1.1, h1.1.2, h1.2.1, h1.2.2, by simpa using h2, by omega, ?_, ?_, ?_⟩, ?_⟩
              · intro f hf
                simp only [fsBad, List.any_eq_true, not_exists, not_and, Bool.not_eq_true', Bool.not_eq_false, btw_iff] at h4
                have := h4 f hf
                omega
              · refine pairwise_of_next (R := fun x y : Int => x < y) (fun _ _ _ h h' => Int.lt_trans h h') _ fun i hi => ?_
                have h5' : fsDown a.fs (a.fs.length - 1) 1 = false := by simpa using h5
                have := (fsDown_false _ _).1 h5' (i + 1) (by omega) (by omega)
                unfold fsErr at this
                rw [getD_lt hi, Nat.add_sub_cancel, getD_lt (by omega)] at this
                simpa using this
              · intro s hs
                obtain ⟨i, hi, rfl⟩ := List.getElem_of_mem hs
                have := (h6 i hi).1
                simp only [stpBad, Bool.or_eq_false_iff, Bool.not_eq_false', btw_iff] at this
                omega
              · refine pairwise_of_next (R := fun s t => stpLt s t = true) (fun _ _ _ h h' => stpLt_trans h h') _ fun i hi => ?_
                have := (h6 (i + 1) hi).2 (by omega)
                rwa [Nat.add_sub_cancel, getD_lt (by omega)] at this
  · rintro ⟨ho, hs⟩
    rw [if_neg, if_neg, if_neg, if_neg, if_neg, ckS_zero]
    · intro k _ hk
      have hk' : k < a.ss.length := by omega
      unfold stpErr
      rw [getD_lt hk', if_neg, if_neg]
      · simp only [Bool.and_eq_true, decide_eq_true_eq, Bool.not_eq_true', not_and, Bool.not_eq_false]
        intro h0
        rw [getD_lt (by omega)]
        have := next_of_pairwise hs (k - 1) (by omega)
        simpa [show k - 1 + 1 = k by omega] using this
      · have := ho.sr _ (List.getElem_mem hk')
        simp only [stpBad, Bool.or_eq_true, Bool.not_eq_true', btw_false]
        omega
    · have : fsDown a.fs (a.fs.length - 1) 1 = false := by
        rw [fsDown_false]
        intro k h1 h2
        unfold fsErr
        rw [getD_lt (by omega), getD_lt (by omega)]
        have := next_of_pairwise ho.fo (k - 1) (by omega)
        simpa [show k - 1 + 1 = k by omega] using this
      simp [this]
    · simp only [fsBad, List.any_eq_true, not_exists, not_and, Bool.not_eq_true', Bool.not_eq_false, btw_iff]
      intro f hf
      have := ho.fr f hf
      omega
    · have := ho.sl; omega
    · have := ho.gl; omega
    · simp only [Bool.or_eq_true, Bool.not_eq_true', btw_false]
      have := ho.st1; have := ho.st2; have := ho.le1; have := ho.le2
      omega
end Go.Proofs.Ytoglgeaiiipchaa

namespace Go.Proofs.Ytoglgeaiiipchaa

def kp (keep : List Bool) (q : Int) : Bool := keep.getD q.toNat false
/-- how many are kept ahead of one -/
def pos (keep : List Bool) (i : Nat) : Nat := (keep.take i).count true
theorem pos_succ {keep : List Bool} {i : Nat} (h : i < keep.length) : pos keep (i + 1) = pos keep i + if keep.getD i false = true then 1 else 0 := by
  unfold pos
  rw [List.take_succ_eq_append_getElem h, List.count_append, List.getD_eq_getElem?_getD, List.getElem?_eq_getElem h]
  cases keep[i] <;> simp
theorem pos_mono {keep : List Bool} {i j : Nat} (h : i ≤ j) : pos keep i ≤ pos keep j := by
  unfold pos
  rw [← List.take_append_drop i (keep.take j), List.take_take, Nat.min_eq_left h, List.count_append]
  omega
theorem kept_lt {keep : List Bool} {i : Nat} (h : keep.getD i false = true) : i < keep.length := by
  rcases Nat.lt_or_ge i keep.length with h1 | h1
  · exact h1
  · rw [List.getD_eq_getElem?_getD, List.getElem?_eq_none h1] at h; cases h
theorem pos_lt {keep : List Bool} {i j : Nat} (hi : keep.getD i false = true) (h : i < j) : pos keep i < pos keep j := by
  have h1 := pos_succ (kept_lt hi)
  rw [if_pos hi] at h1
  have := pos_mono (keep := keep) (show i + 1 ≤ j by omega)
  omega
theorem pos_inj {keep : List Bool} {i j : Nat} (hi : keep.getD i false = true) (hj : keep.getD j false = true) (h : pos keep i = pos keep j) : i = j := by
  rcases Nat.lt_trichotomy i j with h1 | h1 | h1
  · have := pos_lt hi h1; omega
  · exact h1
  · have := pos_lt hj h1; omega
def newQ (keep : List Bool) (q : Int) : Int := (pos keep q.toNat : Nat)
def newS (keep : List Bool) (s : Stp) : Stp := ⟨newQ keep s.f, s.l, newQ keep s.t⟩
/-- the good marks of the states that are kept, ahead of number k -/
def keptG (gs : List Bool) (keep : List Bool) (k : Nat) : List Bool := ((List.range k).filter fun i => keep.getD i false).map fun i => gs.getD i false
def keptF (a : Au) (keep : List Bool) (k : Nat) : List Int := ((a.fs.take k).filter (kp keep)).map (newQ keep)
def keptS (a : Au) (keep : List Bool) (k : Nat) : List Stp := ((a.ss.take k).filter fun s => kp keep s.f && kp keep s.t).map (newS keep)
def madeOf (a : Au) (keep : List Bool) : Au :=
  if pos keep a.st.toNat = 0 then ⟨1, a.le, [], [false], []⟩
  else ⟨(pos keep a.st.toNat : Nat), a.le, keptF a keep a.fs.length, keptG a.gs keep a.st.toNat, keptS a keep a.ss.length⟩
theorem keptG_succ (gs keep : List Bool) (k : Nat) : keptG gs keep (k + 1) = keptG gs keep k ++ if keep.getD k false = true then [gs.getD k false] else [] := by
  unfold keptG
  rw [List.range_succ, List.filter_append, List.map_append]
  congr 1
  by_cases h : keep.getD k false = true
  · rw [List.filter_cons, if_pos h, if_pos h]; rfl
  · rw [List.filter_cons, if_neg h, if_neg h]; rfl
theorem keptG_len {gs keep : List Bool} {k : Nat} (h : k ≤ keep.length) : (keptG gs keep k).length = pos keep k := by
  induction k with
  | zero => rfl
  | succ k ih =>
    rw [keptG_succ, List.length_append, ih (by omega), pos_succ (by omega)]
    split <;> simp
theorem keptG_get {gs keep : List Bool} : ∀ {k i : Nat}, k ≤ keep.length → i < k → keep.getD i false = true → (keptG gs keep k).getD (pos keep i) false = gs.getD i false
  | 0, i, _, h, _ => absurd h (by omega)
  | k + 1, i, hk, h, hi => by
    rw [keptG_succ, List.getD_eq_getElem?_getD]
    have hl := keptG_len (gs := gs) (show k ≤ keep.length by omega)
    rcases Nat.lt_or_ge i k with h1 | h1
    · have := pos_lt hi h1
      rw [List.getElem?_append_left (by omega), ← List.getD_eq_getElem?_getD]
      exact keptG_get (by omega) h1 hi
    · obtain rfl : i = k := by omega
      rw [List.getElem?_append_right (by omega), hl, if_pos hi]
      simp
theorem keptF_succ (a : Au) (keep : List Bool) {k : Nat} (h : k < a.fs.length) : keptF a keep (k + 1) = keptF a keep k ++ if kp keep a.fs[k] = true then [newQ keep a.fs[k]] else [] := by
  unfold keptF
  rw [List.take_succ_eq_append_getElem h, List.filter_append, List.map_append]
  congr 1
  by_cases h : kp keep a.fs[k] = true
  · simp [List.filter_cons, h]
  · simp [List.filter_cons, h]
theorem keptS_succ (a : Au) (keep : List Bool) {k : Nat} (h : k < a.ss.length) : keptS a keep (k + 1) = keptS a keep k ++ if (kp keep a.ss[k].f && kp keep a.ss[k].t) = true then [newS keep a.ss[k]] else [] := by
  unfold keptS
  rw [List.take_succ_eq_append_getElem h, List.filter_append, List.map_append]
  congr 1
  by_cases h : (kp keep a.ss[k].f && kp keep a.ss[k].t) = true
  · rw [List.filter_cons, if_pos h, if_pos h]; rfl
  · rw [List.filter_cons, if_neg h, if_neg h]; rfl
/-- nothing leads out of what is kept -/
structure KeepOK (a : Au) (keep : List Bool) : Prop where
  len : (keep.length : Int) = a.st
  fs : ∀ f ∈ a.fs, kp keep f = true
  ss : ∀ s ∈ a.ss, kp keep s.f = true → kp keep s.t = true
theorem newQ_inj {keep : List Bool} {p q : Int} (hp : 0 ≤ p) (hq : 0 ≤ q) (h1 : kp keep p = true) (h2 : kp keep q = true) (h : newQ keep p = newQ keep q) : p = q := by
  unfold newQ at h
  have := pos_inj h1 h2 (by omega)
  omega
theorem made_takes {a : Au} {keep : List Bool} (ha : AuOK a) (hk : KeepOK a keep) (u : Nat → Int) : TakesU (madeOf a keep) u ↔ TakesU a u := by
  have hl := hk.len
  have hst := ha.st1
  unfold madeOf
  by_cases h0 : pos keep a.st.toNat = 0
  · rw [if_pos h0]
    constructor
    · rintro ⟨r, h, _⟩
      simp at h
    · rintro ⟨r, h, _⟩
      have h1 := ha.fr _ h
      have h2 := hk.fs _ h
      have := pos_lt h2 (show (r 0).toNat < a.st.toNat by omega)
      omega
  · rw [if_neg h0]
    have memS : ∀ s, s ∈ keptS a keep a.ss.length ↔ ∃ t ∈ a.ss, kp keep t.f = true ∧ kp keep t.t = true ∧ newS keep t = s := by
      intro s
      simp only [keptS, List.take_length, List.mem_map, List.mem_filter, Bool.and_eq_true, and_assoc]
    have goodQ : ∀ q : Int, 0 ≤ q → q < a.st → kp keep q = true → ((⟨(pos keep a.st.toNat : Nat), a.le, keptF a keep a.fs.length, keptG a.gs keep a.st.toNat, keptS a keep a.ss.length⟩ : Au).good (newQ keep q) ↔ a.good q) := by
      intro q h1 h2 h3
      unfold Au.good newQ
      simp only [Int.toNat_natCast]
      rw [keptG_get (by omega) (show q.toNat < a.st.toNat by omega) h3]
      constructor
      · rintro ⟨_, h⟩; exact ⟨h1, h⟩
      · rintro ⟨_, h⟩; exact ⟨by omega, h⟩
    constructor
    · rintro ⟨r, hr0, hs, hg⟩
      have st : ∀ i, ∃ t ∈ a.ss, kp keep t.f = true ∧ kp keep t.t = true ∧ newS keep t = ⟨r i, u i, r (i + 1)⟩ := fun i => (memS _).1 (hs i)
      have pr : ∀ i, 0 ≤ (Classical.choose (st i)).f ∧ (Classical.choose (st i)).f < a.st ∧ kp keep (Classical.choose (st i)).f = true ∧ newQ keep (Classical.choose (st i)).f = r i := fun i => by
        have h := Classical.choose_spec (st i)
        have h1 := (ha.sr _ h.1).1
        have h2 := congrArg Stp.f h.2.2.2
        exact ⟨h1.1, h1.2, h.2.1, h2⟩
      refine ⟨fun i => (Classical.choose (st i)).f, ?_, fun i => ?_, fun n => ?_⟩
      · simp only [keptF, List.take_length, List.mem_map, List.mem_filter] at hr0
        obtain ⟨f, ⟨hf, hkf⟩, he⟩ := hr0
        have p0 := pr 0
        have := newQ_inj p0.1 (ha.fr f hf).1 p0.2.2.1 hkf (by rw [p0.2.2.2, he])
        show (Classical.choose (st 0)).f ∈ a.fs
        rw [this]; exact hf
      · have h := Classical.choose_spec (st i)
        have p1 := pr (i + 1)
        have h3 := congrArg Stp.t h.2.2.2
        have h2 := congrArg Stp.l h.2.2.2
        have := newQ_inj (ha.sr _ h.1).2.1.1 p1.1 h.2.2.1 p1.2.2.1 (by rw [p1.2.2.2]; exact h3)
        show (⟨(Classical.choose (st i)).f, u i, (Classical.choose (st (i + 1))).f⟩ : Stp) ∈ a.ss
        have hx : ∀ (t : Stp) (x : Int), t ∈ a.ss → t.l = u i → t.t = x → (⟨t.f, u i, x⟩ : Stp) ∈ a.ss := fun t x ht e1 e2 => by rw [← e1, ← e2]; exact ht
        exact hx _ _ h.1 h2 this
      · obtain ⟨m, hm, hgm⟩ := hg n
        have p := pr m
        rw [← p.2.2.2] at hgm
        exact ⟨m, hm, (goodQ _ p.1 p.2.1 p.2.2.1).1 hgm⟩
    · rintro ⟨r, hr0, hs, hg⟩
      have hr : ∀ i, 0 ≤ r i ∧ r i < a.st := fun i => (ha.sr _ (hs i)).1
      have hkp : ∀ i, kp keep (r i) = true := by
        intro i
        induction i with
        | zero => exact hk.fs _ hr0
        | succ i ih => exact hk.ss _ (hs i) ih
      refine ⟨fun i => newQ keep (r i), ?_, fun i => ?_, fun n => ?_⟩
      · simp only [keptF, List.take_length, List.mem_map, List.mem_filter]
        exact ⟨r 0, ⟨hr0, hkp 0⟩, rfl⟩
      · exact (memS _).2 ⟨_, hs i, hkp i, hkp (i + 1), rfl⟩
      · obtain ⟨m, hm, hgm⟩ := hg n
        exact ⟨m, hm, (goodQ _ (hr m).1 (hr m).2 (hkp m)).2 hgm⟩
theorem newQ_lt {keep : List Bool} {p q : Int} (hp : 0 ≤ p) (h1 : kp keep p = true) (h : p < q) : newQ keep p < newQ keep q := by
  unfold newQ
  have := pos_lt h1 (show p.toNat < q.toNat by omega)
  omega
/-- what is made is right -/
theorem made_ok {a : Au} {keep : List Bool} (ha : ckA a = 0) (hl : (keep.length : Int) = a.st) : ckA (madeOf a keep) = 0 := by
  obtain ⟨ho, hso⟩ := ckA_zero.1 ha
  have h1 := ho.st1; have h2 := ho.st2
  have hpl : pos keep a.st.toNat ≤ a.st.toNat := by
    unfold pos
    exact Nat.le_trans (List.count_le_length) (List.length_take_le _ _)
  unfold madeOf
  by_cases h0 : pos keep a.st.toNat = 0
  · rw [if_pos h0]
    exact ckA_zero.2 ⟨⟨Int.le_refl 1, show (1 : Int) ≤ 300 by decide, ho.le1, ho.le2, rfl, by simp, by simp, .nil, by simp⟩, .nil⟩
  · rw [if_neg h0]
    have hrange : ∀ q : Int, 0 ≤ q → q < a.st → kp keep q = true → 0 ≤ newQ keep q ∧ newQ keep q < (pos keep a.st.toNat : Nat) := fun q a1 a2 a3 => by
      unfold newQ
      have := pos_lt a3 (show q.toNat < a.st.toNat by omega)
      omega
    refine ckA_zero.2 ⟨⟨by show 1 ≤ ((pos keep a.st.toNat : Nat) : Int); omega, by show ((pos keep a.st.toNat : Nat) : Int) ≤ 300; omega, ho.le1, ho.le2, ?_, ?_, ?_, ?_, ?_⟩, ?_⟩
    · show ((keptG a.gs keep a.st.toNat).length : Int) = (pos keep a.st.toNat : Nat)
      rw [keptG_len (by omega)]
    · show (keptS a keep a.ss.length).length ≤ 6000
      unfold keptS
      rw [List.length_map]
      have := List.length_filter_le (fun s : Stp => kp keep s.f && kp keep s.t) (a.ss.take a.ss.length)
      have := List.length_take_le a.ss.length a.ss
      have := ho.sl
      omega
    · intro f hf
      simp only [keptF, List.take_length, List.mem_map, List.mem_filter] at hf
      obtain ⟨q, ⟨hq, hk⟩, rfl⟩ := hf
      have := ho.fr q hq
      exact hrange q this.1 this.2 hk
    · show (keptF a keep a.fs.length).Pairwise (· < ·)
      unfold keptF
      rw [List.take_length, List.pairwise_map, List.pairwise_filter]
      refine ho.fo.imp_of_mem (fun {p q} hp hq hpq k1 k2 => ?_)
      exact newQ_lt (ho.fr p hp).1 k1 hpq
    · intro s hs
      simp only [keptS, List.take_length, List.mem_map, List.mem_filter, Bool.and_eq_true] at hs
      obtain ⟨t, ⟨ht, k1, k2⟩, rfl⟩ := hs
      have := ho.sr t ht
      exact ⟨hrange t.f this.1.1 this.1.2 k1, hrange t.t this.2.1.1 this.2.1.2 k2, this.2.2⟩
    · show ssSorted (keptS a keep a.ss.length)
      unfold ssSorted keptS
      rw [List.take_length, List.pairwise_map, List.pairwise_filter]
      refine hso.imp_of_mem (fun {s t} hs ht hst k1 k2 => ?_)
      simp only [Bool.and_eq_true] at k1 k2
      have rs := ho.sr s hs
      have rt := ho.sr t ht
      rw [stpLt_iff] at *
      show newQ keep s.f < newQ keep t.f ∨ newQ keep s.f = newQ keep t.f ∧ (s.l < t.l ∨ s.l = t.l ∧ newQ keep s.t < newQ keep t.t)
      rcases hst with h | ⟨h, h'⟩
      · exact .inl (newQ_lt rs.1.1 k1.1 h)
      · rw [h]
        refine .inr ⟨rfl, ?_⟩
        rcases h' with h' | ⟨h', h''⟩
        · exact .inl h'
        · exact .inr ⟨h', newQ_lt rs.2.1.1 k1.2 h''⟩

/-- can a state be come to? -/
inductive Rch (a : Au) : Int → Prop
  | first {f : Int} : f ∈ a.fs → Rch a f
  | step {s : Stp} : Rch a s.f → s ∈ a.ss → Rch a s.t
/-- a set of just those that can be come to -/
structure RchS (a : Au) (keep : List Bool) : Prop where
  len : (keep.length : Int) = a.st
  iff : ∀ q : Int, 0 ≤ q → q < a.st → (kp keep q = true ↔ Rch a q)
theorem RchS.ok {a : Au} {keep : List Bool} (ho : AuOK a) (h : RchS a keep) : KeepOK a keep :=
  ⟨h.len, fun f hf => (h.iff f (ho.fr f hf).1 (ho.fr f hf).2).2 (.first hf), fun s hs hk => by
    have r := ho.sr s hs
    exact (h.iff s.t r.2.1.1 r.2.1.2).2 (.step ((h.iff s.f r.1.1 r.1.2).1 hk) hs)⟩
theorem RchS.unique {a : Au} {k k' : List Bool} (h : RchS a k) (h' : RchS a k') : k = k' := by
  have l1 := h.len
  have l2 := h'.len
  refine List.ext_getElem (by omega) fun i h1 h2 => ?_
  have e1 := h.iff (i : Int) (by omega) (by omega)
  have e2 := h'.iff (i : Int) (by omega) (by omega)
  unfold kp at e1 e2
  rw [Int.toNat_natCast, getD_lt h1] at e1
  rw [Int.toNat_natCast, getD_lt h2] at e2
  rw [Bool.eq_iff_iff, e1, e2]
end Go.Proofs.Ytoglgeaiiipchaa

namespace Go.Proofs.Ytoglgeaiiipchaa
open Go

theorem kp_set {out : List Bool} {p q : Int} (hp : 0 ≤ p) (hq : 0 ≤ q) (hl : p < out.length) : kp (out.set p.toNat true) q = true ↔ kp out q = true ∨ q = p := by
  unfold kp
  rw [List.getD_eq_getElem?_getD, List.getD_eq_getElem?_getD, List.getElem?_set]
  by_cases h : p.toNat = q.toNat
  · have : q = p := by omega
    subst this
    rw [if_pos rfl, if_pos (by omega)]
    simp
  · rw [if_neg h]
    constructor
    · exact .inl
    · rintro (h1 | h1)
      · exact h1
      · exact absurd (by rw [h1]) h
theorem kp_keep {out : List Bool} {i : Nat} {q : Int} (h : kp out q = true) : kp (out.set i true) q = true := by
  have hl := kept_lt h
  unfold kp at h ⊢
  rw [List.getD_eq_getElem?_getD] at h ⊢
  rw [List.getElem?_set]
  split
  · rename_i he
    rw [if_pos (by omega)]; rfl
  · exact h
theorem kp_hit {out : List Bool} {i : Nat} {q : Int} (h : q.toNat = i) (hl : i < out.length) : kp (out.set i true) q = true := by
  unfold kp
  rw [h, List.getD_eq_getElem?_getD, List.getElem?_set_self hl]
  rfl
/-- all of a list marked -/
def setAll (l : List Int) (out : List Bool) : List Bool := l.foldl (fun o q => o.set q.toNat true) out
theorem setAll_len : ∀ (l : List Int) (out : List Bool), (setAll l out).length = out.length
  | [], _ => rfl
  | q :: l, out => by
    show (setAll l (out.set q.toNat true)).length = _
    rw [setAll_len l, List.length_set]
theorem setAll_snoc (l : List Int) (q : Int) (out : List Bool) : setAll (l ++ [q]) out = (setAll l out).set q.toNat true := by
  unfold setAll
  rw [List.foldl_append]
  rfl
theorem setAll_kp : ∀ (l : List Int) (out : List Bool), (∀ q ∈ l, 0 ≤ q ∧ q < out.length) → ∀ q : Int, 0 ≤ q → (kp (setAll l out) q = true ↔ kp out q = true ∨ q ∈ l)
  | [], _, _, q, _ => by simp [setAll]
  | p :: l, out, h, q, hq => by
    show kp (setAll l (out.set p.toNat true)) q = true ↔ _
    have hp := h p (List.mem_cons_self ..)
    rw [setAll_kp l _ (fun x hx => by rw [List.length_set]; exact h x (List.mem_cons_of_mem _ hx)) q hq, kp_set hp.1 hq hp.2, List.mem_cons, or_assoc]
theorem count_set {out : List Bool} {i : Nat} (hi : i < out.length) (h : out.getD i false = false) : (out.set i true).count false + 1 = out.count false := by
  induction out generalizing i with
  | nil => simp at hi
  | cons x out ih =>
    cases i with
    | zero =>
      have : x = false := h
      subst this
      simp [List.count_cons]
    | succ i =>
      rw [List.set_cons_succ, List.count_cons, List.count_cons]
      have := ih (i := i) (by simpa using hi) (by simpa using h)
      omega
theorem up_few {N : Int} : ∀ (l : List Int) (lo : Int), l.Pairwise (· < ·) → (∀ x ∈ l, lo ≤ x ∧ x < N) → lo ≤ N → (l.length : Int) ≤ N - lo
  | [], lo, _, _, h => by simp; omega
  | x :: l, lo, hp, h, hN => by
    have hx := h x (List.mem_cons_self ..)
    have h2 := List.pairwise_cons.1 hp
    have := up_few l (x + 1) h2.2 (fun y hy => ⟨h2.1 y hy, (h y (List.mem_cons_of_mem _ hy)).2⟩) (by omega)
    rw [List.length_cons]
    omega
theorem AuOK.fs_le {a : Au} (ho : AuOK a) : (a.fs.length : Int) ≤ a.st := by
  have := up_few a.fs 0 ho.fo ho.fr (by have := ho.st1; omega)
  omega
/-- right in its ranges, however great -/
structure AuR (a : Au) : Prop where
  st1 : 1 ≤ a.st
  fr : ∀ f ∈ a.fs, 0 ≤ f ∧ f < a.st
  fo : a.fs.Pairwise (· < ·)
  sr : ∀ s ∈ a.ss, (0 ≤ s.f ∧ s.f < a.st) ∧ (0 ≤ s.t ∧ s.t < a.st) ∧ 0 ≤ s.l ∧ s.l < a.le
theorem AuOK.rng {a : Au} (ho : AuOK a) : AuR a := ⟨ho.st1, ho.fr, ho.fo, ho.sr⟩
theorem AuR.fs_le {a : Au} (ho : AuR a) : (a.fs.length : Int) ≤ a.st := by
  have := up_few a.fs 0 ho.fo ho.fr (by have := ho.st1; omega)
  omega
/-- what has been marked, and what is left -/
structure RcM (a : Au) (out : List Bool) (left : List Int) (n : Nat) (op : Option Int) : Prop where
  len : (out.length : Int) = a.st
  lok : ∀ q ∈ left, 0 ≤ q ∧ q < a.st ∧ kp out q = true
  sound : ∀ q : Int, 0 ≤ q → kp out q = true → Rch a q
  first : ∀ f ∈ a.fs, kp out f = true
  closed : ∀ s ∈ a.ss, kp out s.f = true → s.f ∈ left ∨ some s.f = op ∨ kp out s.t = true
  opk : ∀ x, op = some x → kp out x = true ∧ 0 ≤ x
  meas : out.count false + left.length ≤ n
  few : (out.count false : Int) + left.length ≤ a.st + a.fs.length
theorem RcM.start {a : Au} (ho : AuR a) (n : Nat) (hn : (n : Int) = a.st) : RcM a (setAll a.fs (List.replicate n false)) a.fs (n + a.fs.length) none := by
  have hk := setAll_kp a.fs (List.replicate n false) (fun q hq => by have := ho.fr q hq; simp; omega)
  have h0 : ∀ q, kp (List.replicate n false) q = true ↔ False := fun q => by
    unfold kp
    rw [List.getD_eq_getElem?_getD]
    by_cases h : q.toNat < n <;> simp [List.getElem?_replicate, h]
  have hl : (setAll a.fs (List.replicate n false)).length = n := by rw [setAll_len, List.length_replicate]
  refine ⟨by rw [hl]; exact hn, fun q hq => ?_, fun q hq h => ?_, fun f hf => ?_, fun s hs h => ?_, fun x h => (by cases h), ?_, ?_⟩
  · have := ho.fr q hq
    exact ⟨this.1, this.2, (hk q this.1).2 (.inr hq)⟩
  · rcases (hk q hq).1 h with h1 | h1
    · exact ((h0 q).1 h1).elim
    · exact .first h1
  · exact (hk f (ho.fr f hf).1).2 (.inr hf)
  · rcases (hk s.f (ho.sr s hs).1.1).1 h with h1 | h1
    · exact ((h0 _).1 h1).elim
    · exact .inl h1
  · have := List.count_le_length (a := false) (l := setAll a.fs (List.replicate n false))
    omega
  · have := List.count_le_length (a := false) (l := setAll a.fs (List.replicate n false))
    omega
theorem RcM.pop {a : Au} {out : List Bool} {left : List Int} {x : Int} {n : Nat} (h : RcM a out (left ++ [x]) n none) : RcM a out left (n - 1) (some x) ∧ 0 < n ∧ 0 ≤ x ∧ x < a.st := by
  have h1 := h.meas
  rw [List.length_append, List.length_cons, List.length_nil] at h1
  have hx := h.lok x (by simp)
  refine ⟨⟨h.len, fun q hq => h.lok q (List.mem_append_left _ hq), h.sound, h.first, fun s hs hk => ?_, fun y hy => ?_, by omega, by have := h.few; rw [List.length_append, List.length_cons, List.length_nil] at this; omega⟩, by omega, hx.1, hx.2.1⟩
  · rcases h.closed s hs hk with h3 | h3 | h3
    · rcases List.mem_append.1 h3 with h4 | h4
      · exact .inl h4
      · exact .inr (.inl (by rw [List.mem_singleton.1 h4]))
    · cases h3
    · exact .inr (.inr h3)
  · obtain rfl : x = y := by simpa using hy
    exact ⟨hx.2.2, hx.1⟩
theorem RcM.add {a : Au} (ho : AuR a) {out : List Bool} {left : List Int} {x : Int} {n : Nat} (h : RcM a out left n (some x)) {s : Stp} (hs : s ∈ a.ss) (hsx : s.f = x) (hk : kp out s.t = false) : RcM a (out.set s.t.toNat true) (left ++ [s.t]) n (some x) := by
  have hr := (ho.sr s hs).2.1
  have hl := h.len
  have hks : ∀ q : Int, 0 ≤ q → (kp (out.set s.t.toNat true) q = true ↔ kp out q = true ∨ q = s.t) := fun q hq => kp_set hr.1 hq (by omega)
  refine ⟨by rw [List.length_set]; exact hl, fun q hq => ?_, fun q hq hkq => ?_, fun f hf => ?_, fun t ht hkt => ?_, fun y hy => ?_, ?_, ?_⟩
  · rcases List.mem_append.1 hq with h1 | h1
    · have := h.lok q h1
      exact ⟨this.1, this.2.1, (hks q this.1).2 (.inl this.2.2)⟩
    · rw [List.mem_singleton.1 h1]
      exact ⟨hr.1, hr.2, (hks _ hr.1).2 (.inr rfl)⟩
  · rcases (hks q hq).1 hkq with h1 | rfl
    · exact h.sound q hq h1
    · exact .step (h.sound s.f (ho.sr s hs).1.1 (by rw [hsx]; exact (h.opk x rfl).1)) hs
  · exact (hks f (ho.fr f hf).1).2 (.inl (h.first f hf))
  · have ht2 := ho.sr t ht
    rcases (hks t.f ht2.1.1).1 hkt with h1 | h1
    · rcases h.closed t ht h1 with h3 | h3 | h3
      · exact .inl (List.mem_append_left _ h3)
      · exact .inr (.inl h3)
      · exact .inr (.inr ((hks _ ht2.2.1.1).2 (.inl h3)))
    · exact .inl (List.mem_append_right _ (by rw [h1]; exact List.mem_singleton.2 rfl))
  · have := h.opk y hy
    exact ⟨(hks y this.2).2 (.inl this.1), this.2⟩
  · have := count_set (out := out) (i := s.t.toNat) (by omega) hk
    have := h.meas
    rw [List.length_append, List.length_cons, List.length_nil]
    omega
  · have := count_set (out := out) (i := s.t.toNat) (by omega) hk
    have := h.few
    rw [List.length_append, List.length_cons, List.length_nil]
    omega
theorem RcM.shut {a : Au} {out : List Bool} {left : List Int} {x : Int} {n : Nat} (h : RcM a out left n (some x)) (hc : ∀ s ∈ a.ss, s.f = x → kp out s.t = true) : RcM a out left n none := by
  refine ⟨h.len, h.lok, h.sound, h.first, fun s hs hk => ?_, fun y hy => (by cases hy), h.meas, h.few⟩
  rcases h.closed s hs hk with h1 | h1 | h1
  · exact .inl h1
  · exact .inr (.inr (hc s hs (Option.some.inj h1)))
  · exact .inr (.inr h1)
theorem RcM.done {a : Au} (ho : AuR a) {out : List Bool} {n : Nat} (h : RcM a out [] n none) : RchS a out := by
  refine ⟨h.len, fun q h0 h1 => ⟨h.sound q h0, fun hr => ?_⟩⟩
  clear h0 h1
  induction hr with
  | first hf => exact h.first _ hf
  | step _ hs ih =>
    rcases h.closed _ hs ih with h1 | h1 | h1
    · cases h1
    · cases h1
    · exact h1
end Go.Proofs.Ytoglgeaiiipchaa

namespace Go.Proofs.Ytoglgeaiiipchaa

/-- is a state in a set? -/
def InS (xs : List Bool) (q : Int) : Prop := 0 ≤ q ∧ xs.getD q.toNat false = true
theorem getD_set_b {xs : List Bool} {i j : Nat} : (xs.set i true).getD j false = if j = i ∧ i < xs.length then true else xs.getD j false := by
  rw [List.getD_eq_getElem?_getD, List.getElem?_set]
  by_cases h : i = j
  · subst h
    by_cases h2 : i < xs.length
    · simp [h2]
    · rw [if_pos rfl, if_neg h2, if_neg (by simp [h2]), List.getD_eq_getElem?_getD, List.getElem?_eq_none (by omega)]
  · rw [if_neg h, if_neg (fun e => h e.1.symm), List.getD_eq_getElem?_getD]
theorem InS_set {xs : List Bool} {p q : Int} (hp : 0 ≤ p ∧ p < xs.length) : InS (xs.set p.toNat true) q ↔ InS xs q ∨ q = p := by
  unfold InS
  rw [getD_set_b]
  constructor
  · rintro ⟨h0, h⟩
    split at h
    · exact .inr (by omega)
    · exact .inl ⟨h0, h⟩
  · rintro (⟨h0, h⟩ | rfl)
    · refine ⟨h0, ?_⟩
      split
      · rfl
      · exact h
    · exact ⟨hp.1, by rw [if_pos (by omega)]⟩
theorem InS_rep {n : Nat} {q : Int} : ¬ InS (List.replicate n false) q := by
  rintro ⟨_, h⟩
  rw [List.getD_eq_getElem?_getD, List.getElem?_replicate] at h
  split at h <;> simp at h
theorem InS_lt {xs : List Bool} {q : Int} (h : InS xs q) : q.toNat < xs.length := by
  rcases Nat.lt_or_ge q.toNat xs.length with h1 | h1
  · exact h1
  · have := h.2
    rw [List.getD_eq_getElem?_getD, List.getElem?_eq_none h1] at this
    cases this
/-- what the steps ahead of number k lead to by a letter; and by a good state -/
structure MovedTo (a : Au) (now good : List Bool) (c : Int) (k : Nat) (x y : List Bool) : Prop where
  lx : (x.length : Int) = a.st
  ly : (y.length : Int) = a.st
  sx : ∀ p, InS x p ↔ ∃ s ∈ a.ss.take k, s.l = c ∧ InS now s.f ∧ s.t = p
  sy : ∀ p, InS y p ↔ ∃ s ∈ a.ss.take k, s.l = c ∧ InS now s.f ∧ s.t = p ∧ (InS good s.f ∨ a.good p)
theorem MovedTo.start {a : Au} {now good : List Bool} {c : Int} (h : 0 ≤ a.st) : MovedTo a now good c 0 (List.replicate a.st.toNat false) (List.replicate a.st.toNat false) :=
  ⟨by simp; omega, by simp; omega, fun p => ⟨fun h => absurd h InS_rep, fun ⟨s, h, _⟩ => by simp at h⟩, fun p => ⟨fun h => absurd h InS_rep, fun ⟨s, h, _⟩ => by simp at h⟩⟩
theorem mem_take_succ {α : Type} {xs : List α} {k : Nat} (hk : k < xs.length) {s : α} : s ∈ xs.take (k + 1) ↔ s ∈ xs.take k ∨ s = xs[k] := by
  rw [List.take_succ_eq_append_getElem hk, List.mem_append, List.mem_singleton]
section
variable {a : Au} {now good : List Bool} {c : Int} {k : Nat} {x y : List Bool}
theorem MovedTo.skip (h : MovedTo a now good c k x y) (hk : k < a.ss.length) (hn : a.ss[k].l ≠ c ∨ ¬ InS now a.ss[k].f) : MovedTo a now good c (k + 1) x y := by
  refine ⟨h.lx, h.ly, fun p => ?_, fun p => ?_⟩
  · rw [h.sx p]
    constructor
    · rintro ⟨s, hs, h1⟩; exact ⟨s, (mem_take_succ hk).2 (.inl hs), h1⟩
    · rintro ⟨s, hs, h1, h2, h3⟩
      rcases (mem_take_succ hk).1 hs with hs | rfl
      · exact ⟨s, hs, h1, h2, h3⟩
      · rcases hn with hn | hn
        · exact absurd h1 hn
        · exact absurd h2 hn
  · rw [h.sy p]
    constructor
    · rintro ⟨s, hs, h1⟩; exact ⟨s, (mem_take_succ hk).2 (.inl hs), h1⟩
    · rintro ⟨s, hs, h1, h2, h3⟩
      rcases (mem_take_succ hk).1 hs with hs | rfl
      · exact ⟨s, hs, h1, h2, h3⟩
      · rcases hn with hn | hn
        · exact absurd h1 hn
        · exact absurd h2 hn
theorem MovedTo.go (h : MovedTo a now good c k x y) (hk : k < a.ss.length) (h1 : a.ss[k].l = c) (h2 : InS now a.ss[k].f) (ht : 0 ≤ a.ss[k].t ∧ a.ss[k].t < a.st) (hn : ¬ InS good a.ss[k].f) (hn2 : ¬ a.good a.ss[k].t) :
    MovedTo a now good c (k + 1) (x.set a.ss[k].t.toNat true) y := by
  have hx := h.lx
  refine ⟨by rw [List.length_set]; exact hx, h.ly, fun p => ?_, fun p => ?_⟩
  · rw [InS_set (by omega), h.sx p]
    constructor
    · rintro (⟨s, hs, h1⟩ | rfl)
      · exact ⟨s, (mem_take_succ hk).2 (.inl hs), h1⟩
      · exact ⟨_, (mem_take_succ hk).2 (.inr rfl), h1, h2, rfl⟩
    · rintro ⟨s, hs, h3, h4, h5⟩
      rcases (mem_take_succ hk).1 hs with hs | rfl
      · exact .inl ⟨s, hs, h3, h4, h5⟩
      · exact .inr h5.symm
  · rw [h.sy p]
    constructor
    · rintro ⟨s, hs, h1⟩; exact ⟨s, (mem_take_succ hk).2 (.inl hs), h1⟩
    · rintro ⟨s, hs, h3, h4, h5, h6⟩
      rcases (mem_take_succ hk).1 hs with hs | rfl
      · exact ⟨s, hs, h3, h4, h5, h6⟩
      · rcases h6 with h6 | h6
        · exact absurd h6 hn
        · rw [← h5] at h6; exact absurd h6 hn2
theorem MovedTo.hit (h : MovedTo a now good c k x y) (hk : k < a.ss.length) (h1 : a.ss[k].l = c) (h2 : InS now a.ss[k].f) (ht : 0 ≤ a.ss[k].t ∧ a.ss[k].t < a.st) (hg : InS good a.ss[k].f ∨ a.good a.ss[k].t) :
    MovedTo a now good c (k + 1) (x.set a.ss[k].t.toNat true) (y.set a.ss[k].t.toNat true) := by
  have hx := h.lx
  have hy := h.ly
  refine ⟨by rw [List.length_set]; exact hx, by rw [List.length_set]; exact hy, fun p => ?_, fun p => ?_⟩
  · rw [InS_set (by omega), h.sx p]
    constructor
    · rintro (⟨s, hs, h1⟩ | rfl)
      · exact ⟨s, (mem_take_succ hk).2 (.inl hs), h1⟩
      · exact ⟨_, (mem_take_succ hk).2 (.inr rfl), h1, h2, rfl⟩
    · rintro ⟨s, hs, h3, h4, h5⟩
      rcases (mem_take_succ hk).1 hs with hs | rfl
      · exact .inl ⟨s, hs, h3, h4, h5⟩
      · exact .inr h5.symm
  · rw [InS_set (by omega), h.sy p]
    constructor
    · rintro (⟨s, hs, h1⟩ | rfl)
      · exact ⟨s, (mem_take_succ hk).2 (.inl hs), h1⟩
      · exact ⟨_, (mem_take_succ hk).2 (.inr rfl), h1, h2, rfl, hg⟩
    · rintro ⟨s, hs, h3, h4, h5, h6⟩
      rcases (mem_take_succ hk).1 hs with hs | rfl
      · exact .inl ⟨s, hs, h3, h4, h5, h6⟩
      · exact .inr h5.symm
end
/-- all steps -/
structure Moved (a : Au) (now good : List Bool) (c : Int) (x y : List Bool) : Prop where
  lx : (x.length : Int) = a.st
  ly : (y.length : Int) = a.st
  sx : ∀ p, InS x p ↔ ∃ q, InS now q ∧ (⟨q, c, p⟩ : Stp) ∈ a.ss
  sy : ∀ p, InS y p ↔ ∃ q, InS now q ∧ (⟨q, c, p⟩ : Stp) ∈ a.ss ∧ (InS good q ∨ a.good p)
theorem MovedTo.all {a : Au} {now good : List Bool} {c : Int} {k : Nat} {x y : List Bool} (h : MovedTo a now good c k x y) (hk : a.ss.length ≤ k) : Moved a now good c x y := by
  have hs := h.sx
  have hy := h.sy
  rw [List.take_of_length_le hk] at hs hy
  refine ⟨h.lx, h.ly, fun p => ?_, fun p => ?_⟩
  · rw [hs p]
    constructor
    · rintro ⟨s, h1, rfl, h2, rfl⟩; exact ⟨s.f, h2, h1⟩
    · rintro ⟨q, h1, h2⟩; exact ⟨_, h2, rfl, h1, rfl⟩
  · rw [hy p]
    constructor
    · rintro ⟨s, h1, rfl, h2, rfl, h3⟩; exact ⟨s.f, h2, h1, h3⟩
    · rintro ⟨q, h1, h2, h3⟩; exact ⟨_, h2, rfl, h1, rfl, h3⟩

/-- the states that come of one at a place; and by a good one -/
structure FromTo (a : Au) (u : Nat → Int) (i : Nat) (at_ : Int) (j : Nat) (x y : List Bool) : Prop where
  lx : (x.length : Int) = a.st
  ly : (y.length : Int) = a.st
  sx : ∀ p, InS x p ↔ Way a u false i at_ j p
  sy : ∀ p, InS y p ↔ Way a u true i at_ j p
theorem FromTo.start {a : Au} {u : Nat → Int} {i : Nat} {q : Int} (hq : 0 ≤ q ∧ q < a.st) : FromTo a u i q i ((List.replicate a.st.toNat false).set q.toNat true) (List.replicate a.st.toNat false) := by
  refine ⟨by simp; omega, by simp; omega, fun p => ?_, fun p => ⟨fun h => absurd h InS_rep, fun h => ?_⟩⟩
  · rw [InS_set (by simp; omega)]
    constructor
    · rintro (h | rfl)
      · exact absurd h InS_rep
      · exact .refl _ _
    · intro h
      cases h with
      | refl => exact .inr rfl
      | go h _ => have := h.le; omega
  · have := h.lt rfl
    omega
theorem FromTo.step {a : Au} {u : Nat → Int} {i : Nat} {q : Int} {j : Nat} {x y x' y' : List Bool} (h : FromTo a u i q j x y) (hij : i ≤ j) (hm : Moved a x y (u j) x' y') : FromTo a u i q (j + 1) x' y' := by
  refine ⟨hm.lx, hm.ly, fun p => ?_, fun p => ?_⟩
  · rw [hm.sx p]
    constructor
    · rintro ⟨s, h1, h2⟩; exact .go ((h.sx s).1 h1) h2
    · intro hw
      cases hw with
      | refl => omega
      | go hw hs => exact ⟨_, (h.sx _).2 hw, hs⟩
  · rw [hm.sy p]
    constructor
    · rintro ⟨s, h1, h2, h3 | h3⟩
      · exact .go ((h.sy s).1 h3) h2
      · exact .hit ((h.sx s).1 h1) h2 h3
    · intro hw
      cases hw with
      | go hw hs => exact ⟨_, (h.sx _).2 hw.forget, hs, .inl ((h.sy _).2 hw)⟩
      | hit hw hs hg => exact ⟨_, (h.sx _).2 hw.forget, hs, .inr hg⟩
/-- the states that come of the first ones -/
structure NowAt (a : Au) (u : Nat → Int) (j : Nat) (x : List Bool) : Prop where
  lx : (x.length : Int) = a.st
  sx : ∀ p, InS x p ↔ ∃ f ∈ a.fs, Way a u false 0 f j p
theorem NowAt.step {a : Au} {u : Nat → Int} {j : Nat} {x g x' y' : List Bool} (h : NowAt a u j x) (hm : Moved a x g (u j) x' y') : NowAt a u (j + 1) x' := by
  refine ⟨hm.lx, fun p => ?_⟩
  rw [hm.sx p]
  constructor
  · rintro ⟨s, h1, h2⟩
    obtain ⟨f, hf, hw⟩ := (h.sx s).1 h1
    exact ⟨f, hf, .go hw h2⟩
  · rintro ⟨f, hf, hw⟩
    cases hw with
    | go hw hs => exact ⟨_, (h.sx _).2 ⟨f, hf, hw⟩, hs⟩
/-- the first states ahead of number k, as a set -/
structure FirstS (a : Au) (k : Nat) (x : List Bool) : Prop where
  lx : (x.length : Int) = a.st
  sx : ∀ p, InS x p ↔ p ∈ a.fs.take k
theorem FirstS.start {a : Au} (h : 0 ≤ a.st) : FirstS a 0 (List.replicate a.st.toNat false) := ⟨by simp; omega, fun p => ⟨fun h => absurd h InS_rep, fun h => by simp at h⟩⟩
theorem FirstS.step {a : Au} {k : Nat} {x : List Bool} (h : FirstS a k x) (ho : AuOK a) (hk : k < a.fs.length) : FirstS a (k + 1) (x.set a.fs[k].toNat true) := by
  have hx := h.lx
  have hr := ho.fr _ (List.getElem_mem hk)
  refine ⟨by rw [List.length_set]; exact hx, fun p => ?_⟩
  rw [InS_set (by omega), h.sx p, mem_take_succ hk]
theorem FirstS.now {a : Au} {u : Nat → Int} {k : Nat} {x : List Bool} (h : FirstS a k x) (hk : a.fs.length ≤ k) : NowAt a u 0 x := by
  have hs := h.sx
  rw [List.take_of_length_le hk] at hs
  refine ⟨h.lx, fun p => ?_⟩
  rw [hs p]
  constructor
  · intro hp; exact ⟨p, hp, .refl _ _⟩
  · rintro ⟨f, hf, hw⟩
    cases hw with
    | refl => exact hf

/-- at the beginnings of the first k loops -/
def LoopAt (a : Au) (l : La) (k : Nat) (q : Int) : Prop := ∃ i, i < k ∧ ∃ f ∈ a.fs, Way a l.at false 0 f (l.h.length + l.l.length * i) q
/-- nothing new behind a loop: nothing new at all -/
theorem loopAt_all {a : Au} {l : La} (hp : 0 < l.l.length) {k : Nat} (h : ∀ q, (∃ f ∈ a.fs, Way a l.at false 0 f (l.h.length + l.l.length * k) q) → LoopAt a l k q) : ∀ j q, (∃ f ∈ a.fs, Way a l.at false 0 f (l.h.length + l.l.length * j) q) → LoopAt a l k q := by
  intro j
  induction j using Nat.strongRecOn with
  | _ j ih =>
    rintro q ⟨f, hf, hw⟩
    rcases Nat.lt_or_ge j k with hjk | hjk
    · exact ⟨j, hjk, f, hf, hw⟩
    · rcases Nat.eq_or_lt_of_le hjk with rfl | hjk
      · exact h q ⟨f, hf, hw⟩
      · -- the part up to the beginning of loop k, and on
        obtain ⟨r, h1, h2, h3, _⟩ := hw.run
        have hle := Nat.mul_le_mul_left l.l.length (Nat.le_of_lt hjk)
        have w1 := Way.part (a := a) (u := l.at) (r := r) (i := 0) (d := l.h.length + l.l.length * k) (fun k' a1 a2 => h3 k' a1 (by omega))
        have w2 := Way.part (a := a) (u := l.at) (r := r) (i := l.h.length + l.l.length * k) (d := l.l.length * (j - k)) (fun k' a1 a2 => h3 k' (by omega) (by rw [Nat.mul_sub] at a2; omega))
        rw [h1, Nat.zero_add] at w1
        rw [Nat.mul_sub, show l.h.length + l.l.length * k + (l.l.length * j - l.l.length * k) = l.h.length + l.l.length * j by omega, h2] at w2
        obtain ⟨i, hi, f', hf', hw'⟩ := h _ ⟨f, hf, w1⟩
        have hle2 := Nat.mul_le_mul_left l.l.length (Nat.le_of_lt hi)
        obtain ⟨k', hk', hw2⟩ := w2.unshift (b := l.h.length) (c := l.l.length * (k - i)) (fun k hk => La.at_add hk) (l.h.length + l.l.length * i) (by rw [Nat.mul_sub]; omega) (by omega)
        have e : k' = l.h.length + l.l.length * (j - (k - i)) := by
          rw [Nat.mul_sub, Nat.mul_sub] at *
          omega
        rw [e] at hw2
        exact ih (j - (k - i)) (by omega) q ⟨f', hf', by simpa using hw'.trans hw2⟩
/-- more states are in than were -/
theorem cntS_more {s : Bool} (xs : List Bool) (i : Nat) (h : i < xs.length) (hs : xs.getD i false = false) : (xs.set i true).count false + 1 = xs.count false := by
  have := cntS_set (s := false) h hs
  simpa [cntS] using this
end Go.Proofs.Ytoglgeaiiipchaa
