/- Plain: the table of what holds, as lists of bools. -/
import Derived.Test.YtoglgeaiiipchaaDoorPF
namespace Go.Proofs.YtoglgeaiiipchaaDoor

/-- the place behind place i, of n places, the last of which goes on at h -/
def nx (n h i : Nat) : Nat := if i + 1 = n then h else i + 1
theorem nx_lt {n h i : Nat} (hi : i < n) (hh : h < n) : nx n h i < n := by unfold nx; split <;> omega
/-- until: b comes within so many places from p on, and a till then -/
def unt (n h : Nat) (a b : Nat → Bool) : Nat → Nat → Bool
  | 0, _ => false
  | k + 1, p => b p || a p && unt n h a b k (nx n h p)
/-- release, looked for on through so many places -/
def rls (n h : Nat) (a b : Nat → Bool) : Nat → Nat → Bool
  | 0, _ => true
  | k + 1, p => b p && (a p || rls n h a b k (nx n h p))
def La.n (l : La) : Nat := l.h.length + l.l.length
/-- letter i of the endless word -/
def La.at (l : La) (i : Nat) : Int := if i < l.h.length then l.h.getD i 0 else l.l.getD ((i - l.h.length) % l.l.length) 0
/-- bit b of a letter -/
def bitOf (m : Int) (b : Nat) : Bool := m / (2 : Int) ^ b % 2 == 1
def gB (rows : List (List Bool)) (i p : Nat) : Bool := (rows.getD i []).getD p false
/-- what a node says at a place, the rows of those ahead of it being known -/
def nodeVal (l : La) (rows : List (List Bool)) (x : Nd) (p : Nat) : Bool :=
  if x.k = 1 then true
  else if x.k = 2 then bitOf (l.at p) x.n.toNat
  else if x.k = 3 then !gB rows x.a.toNat p
  else if x.k = 4 then gB rows x.a.toNat p && gB rows x.b.toNat p
  else if x.k = 5 then gB rows x.a.toNat p || gB rows x.b.toNat p
  else if x.k = 6 then gB rows x.a.toNat (nx l.n l.h.length p)
  else if x.k = 7 then unt l.n l.h.length (gB rows x.a.toNat) (gB rows x.b.toNat) l.n p
  else rls l.n l.h.length (gB rows x.a.toNat) (gB rows x.b.toNat) l.n p
def rowOf (l : La) (rows : List (List Bool)) (x : Nd) : List Bool := (List.range l.n).map (nodeVal l rows x)
/-- the rows of the first k nodes -/
def rowsOf (l : La) (f : List Nd) : Nat → List (List Bool)
  | 0 => []
  | k + 1 => rowsOf l f k ++ [rowOf l (rowsOf l f k) (f.getD k ⟨0, 0, 0, 0⟩)]
def tableOf (l : La) (f : List Nd) : List (List Bool) := rowsOf l f f.length
theorem length_rowsOf (l : La) (f : List Nd) (k : Nat) : (rowsOf l f k).length = k := by
  induction k with
  | zero => rfl
  | succ k ih => simp [rowsOf, ih]
theorem length_rowOf (l : La) (rows : List (List Bool)) (x : Nd) : (rowOf l rows x).length = l.n := by simp [rowOf]
theorem mem_rowsOf (l : La) (f : List Nd) (k : Nat) : ∀ r ∈ rowsOf l f k, r.length = l.n := by
  induction k with
  | zero => simp [rowsOf]
  | succ k ih =>
    intro r hr
    simp only [rowsOf, List.mem_append, List.mem_singleton] at hr
    rcases hr with hr | rfl
    · exact ih r hr
    · exact length_rowOf _ _ _

/-- a row on its way to where nothing changes any more: what has turned from s stays turned -/
structure FillGood (n h : Nat) (D : Nat → Bool → Bool) (s : Bool) (out : List Bool) : Prop where
  len : out.length = n
  keep : ∀ i, i < n → out.getD i s = !s → D i (out.getD (nx n h i) s) = !s
  inv : ∀ Inv : Nat → Bool → Prop, (∀ i, i < n → Inv i s) → (∀ i, i < n → ∀ b, Inv (nx n h i) b → Inv i (D i b)) → ∀ i, i < n → Inv i (out.getD i s)

theorem FillGood.start (n h : Nat) (D : Nat → Bool → Bool) (s : Bool) (hh : h < n) : FillGood n h D s (List.replicate n s) := by
  have e : ∀ i, (List.replicate n s).getD i s = s := fun i => by
    rw [List.getD_eq_getElem?_getD, List.getElem?_replicate]
    split <;> rfl
  refine ⟨by simp, fun i hi hk => ?_, fun Inv h0 _ i hi => by rw [e]; exact h0 i hi⟩
  rw [e] at hk
  cases s <;> simp at hk

theorem getD_set {out : List Bool} {i j : Nat} {v s : Bool} (hi : i < out.length) : (out.set i v).getD j s = if j = i then v else out.getD j s := by
  rw [List.getD_eq_getElem?_getD, List.getElem?_set]
  by_cases h : i = j
  · subst h; simp [hi]
  · rw [if_neg h, if_neg (fun e => h e.symm), List.getD_eq_getElem?_getD]

theorem bool_step {d o s : Bool} (hk : o = !s → d = !s) (hne : d ≠ o) : d = (!s) ∧ o = s := by
  revert hk hne
  cases d <;> cases o <;> cases s <;> decide
theorem FillGood.step {n h : Nat} {D : Nat → Bool → Bool} {s : Bool} {out : List Bool} (hg : FillGood n h D s out) (hh : h < n) (hm : ∀ i, i < n → D i s = !s → D i (!s) = !s)
    {i : Nat} (hi : i < n) (hne : D i (out.getD (nx n h i) s) ≠ out.getD i s) : FillGood n h D s (out.set i (D i (out.getD (nx n h i) s))) ∧ D i (out.getD (nx n h i) s) = (!s) ∧ out.getD i s = s := by
  have hil : i < out.length := by rw [hg.len]; exact hi
  obtain ⟨hv, ho⟩ := bool_step (hg.keep i hi) hne
  have up : ∀ j, j < n → D j (out.getD (nx n h j) s) = (!s) → D j ((out.set i (!s)).getD (nx n h j) s) = (!s) := by
    intro j hj hd
    rw [getD_set hil]
    split
    · rename_i he
      rw [he, ho] at hd
      exact hm j hj hd
    · exact hd
  refine ⟨⟨by rw [List.length_set]; exact hg.len, fun j hj hk => ?_, fun Inv h0 h1 j hj => ?_⟩, hv, ho⟩
  · rw [hv] at hk ⊢
    apply up j hj
    rw [getD_set hil] at hk
    split at hk
    · rename_i he; subst he; exact hv
    · exact hg.keep j hj hk
  · rw [getD_set hil]
    split
    · rename_i he; subst he
      exact h1 j hj _ (hg.inv Inv h0 h1 _ (nx_lt hj hh))
    · exact hg.inv Inv h0 h1 j hj

/-- how many are still as at the start -/
def cntS (s : Bool) (out : List Bool) : Nat := out.count s
theorem cntS_set {s : Bool} : ∀ {out : List Bool} {i : Nat}, i < out.length → out.getD i s = s → cntS s (out.set i (!s)) + 1 = cntS s out := by
  intro out
  induction out with
  | nil => intro i hi; simp at hi
  | cons x r ih =>
    intro i hi h
    cases i with
    | zero =>
      simp only [List.getD_cons_zero] at h
      subst h
      unfold cntS
      rw [List.set_cons_zero, List.count_cons, List.count_cons]
      cases x <;> simp
    | succ i =>
      simp only [List.getD_cons_succ] at h
      have := ih (by simpa using hi) h
      unfold cntS at this ⊢
      rw [List.set_cons_succ, List.count_cons, List.count_cons]
      omega
/-- nothing changes any more -/
def Fixed (n h : Nat) (D : Nat → Bool → Bool) (s : Bool) (out : List Bool) : Prop := ∀ i, i < n → D i (out.getD (nx n h i) s) = out.getD i s
end Go.Proofs.YtoglgeaiiipchaaDoor
