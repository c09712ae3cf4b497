/- Plain: formulas as trees; their texts; the nodes of a tree, each behind those that it is made of; reading of a text. -/
import Derived.Test.YtoglgeaiiipchaaDoorPF
namespace Go.Proofs.YtoglgeaiiipchaaDoor

inductive Fm where
  | tt : Fm
  | pr : Int → Fm
  | no : Fm → Fm
  | nx : Fm → Fm
  | bi : Int → Fm → Fm → Fm
  deriving DecidableEq
/-- the sign of a kind between two -/
def sgn (k : Int) : UInt8 := if k = 4 then 38 else if k = 5 then 124 else if k = 7 then 85 else 82
def Fm.show : Fm → List UInt8
  | .tt => [116, 114, 117, 101]
  | .pr n => [112, UInt8.ofNat (48 + n.toNat)]
  | .no a => 33 :: a.show
  | .nx a => 88 :: a.show
  | .bi k a b => 40 :: (a.show ++ [32, sgn k, 32] ++ b.show ++ [41])
/-- nodes, behind those that there are -/
def Fm.flat : Fm → List Nd → List Nd
  | .tt, o => o ++ [⟨1, 0, 0, 0⟩]
  | .pr n, o => o ++ [⟨2, 0, 0, n⟩]
  | .no a, o => a.flat o ++ [⟨3, ((a.flat o).length : Int) - 1, 0, 0⟩]
  | .nx a, o => a.flat o ++ [⟨6, ((a.flat o).length : Int) - 1, 0, 0⟩]
  | .bi k a b, o => b.flat (a.flat o) ++ [⟨k, ((a.flat o).length : Int) - 1, ((b.flat (a.flat o)).length : Int) - 1, 0⟩]
def Fm.size : Fm → Nat
  | .tt => 1
  | .pr _ => 1
  | .no a => a.size + 1
  | .nx a => a.size + 1
  | .bi _ a b => a.size + b.size + 1
theorem Fm.size_pos (t : Fm) : 0 < t.size := by cases t <;> simp [Fm.size]
theorem Fm.flat_len (t : Fm) : ∀ o, (t.flat o).length = o.length + t.size := by
  induction t with
  | tt => intro o; simp [Fm.flat, Fm.size]
  | pr n => intro o; simp [Fm.flat, Fm.size]
  | no a ih => intro o; simp [Fm.flat, Fm.size, ih]; omega
  | nx a ih => intro o; simp [Fm.flat, Fm.size, ih]; omega
  | bi k a b iha ihb => intro o; simp [Fm.flat, Fm.size, iha, ihb]; omega
theorem Fm.flat_pre (t : Fm) : ∀ o, ∃ r, t.flat o = o ++ r := by
  induction t with
  | tt => intro o; exact ⟨_, rfl⟩
  | pr n => intro o; exact ⟨_, rfl⟩
  | no a ih => intro o; obtain ⟨r, h⟩ := ih o; exact ⟨r ++ [⟨3, ((a.flat o).length : Int) - 1, 0, 0⟩], by rw [Fm.flat]; rw [← List.append_assoc, ← h]⟩
  | nx a ih => intro o; obtain ⟨r, h⟩ := ih o; exact ⟨r ++ [⟨6, ((a.flat o).length : Int) - 1, 0, 0⟩], by rw [Fm.flat]; rw [← List.append_assoc, ← h]⟩
  | bi k a b iha ihb =>
    intro o
    obtain ⟨r, h⟩ := iha o
    obtain ⟨r', h'⟩ := ihb (a.flat o)
    exact ⟨r ++ r' ++ [⟨k, ((a.flat o).length : Int) - 1, ((b.flat (a.flat o)).length : Int) - 1, 0⟩], by rw [Fm.flat, h', h]; simp⟩
/-- the tree of a node, those of the nodes ahead being known -/
def treeN (ts : List Fm) (x : Nd) : Fm :=
  if x.k = 1 then .tt
  else if x.k = 2 then .pr x.n
  else if x.k = 3 then .no (ts.getD x.a.toNat .tt)
  else if x.k = 6 then .nx (ts.getD x.a.toNat .tt)
  else .bi x.k (ts.getD x.a.toNat .tt) (ts.getD x.b.toNat .tt)
def nond : Nd := ⟨0, 0, 0, 0⟩
def treesOf (f : List Nd) : Nat → List Fm
  | 0 => []
  | k + 1 => treesOf f k ++ [treeN (treesOf f k) (f.getD k nond)]
def treeAt (f : List Nd) (i : Nat) : Fm := treeN (treesOf f i) (f.getD i nond)
theorem treesOf_len (f : List Nd) (k : Nat) : (treesOf f k).length = k := by
  induction k with
  | zero => rfl
  | succ k ih => simp [treesOf, ih]
theorem treesOf_get (f : List Nd) : ∀ (k i : Nat), i < k → (treesOf f k).getD i .tt = treeAt f i
  | 0, i, h => absurd h (by omega)
  | k + 1, i, h => by
    unfold treesOf
    rw [List.getD_eq_getElem?_getD]
    rcases Nat.lt_or_ge i k with h1 | h1
    · rw [List.getElem?_append_left (by rw [treesOf_len]; exact h1), ← List.getD_eq_getElem?_getD]
      exact treesOf_get f k i h1
    · obtain rfl : i = k := by omega
      rw [List.getElem?_append_right (by rw [treesOf_len]; exact Nat.le_refl _), treesOf_len]
      simp [treeAt]
/-- the trees hang on the nodes up to there alone -/
theorem treeAt_take {f g : List Nd} : ∀ (i : Nat), (∀ j, j ≤ i → f.getD j nond = g.getD j nond) → treeAt f i = treeAt g i := by
  have key : ∀ (k : Nat), (∀ j, j < k → f.getD j nond = g.getD j nond) → treesOf f k = treesOf g k := by
    intro k
    induction k with
    | zero => intro _; rfl
    | succ k ih =>
      intro h
      unfold treesOf
      rw [ih (fun j hj => h j (by omega)), h k (by omega)]
  intro i h
  unfold treeAt
  rw [key i (fun j hj => h j (by omega)), h i (Nat.le_refl _)]
/-- is a tree one that the kinds allow? -/
def Fm.ok : Fm → Prop
  | .tt => True
  | .pr n => 0 ≤ n ∧ n ≤ 9
  | .no a => a.ok
  | .nx a => a.ok
  | .bi k a b => (k = 4 ∨ k = 5 ∨ k = 7 ∨ k = 8) ∧ a.ok ∧ b.ok
theorem getD_pre {xs ys : List Nd} {i : Nat} {d : Nd} (h : i < xs.length) : (xs ++ ys).getD i d = xs.getD i d := by
  rw [List.getD_eq_getElem?_getD, List.getElem?_append_left h, ← List.getD_eq_getElem?_getD]
theorem getD_last {xs : List Nd} {x d : Nd} : (xs ++ [x]).getD xs.length d = x := by
  rw [List.getD_eq_getElem?_getD, List.getElem?_append_right (Nat.le_refl _)]
  simp
theorem treeAt_flat (t : Fm) (ht : t.ok) : ∀ o, treeAt (t.flat o) (o.length + t.size - 1) = t := by
  induction t with
  | tt =>
    intro o
    have e : o.length + Fm.tt.size - 1 = o.length := by simp [Fm.size]
    rw [e]
    have hg : (Fm.flat .tt o).getD o.length nond = ⟨1, 0, 0, 0⟩ := getD_last
    unfold treeAt
    rw [hg]
    simp [treeN]
  | pr n =>
    intro o
    have e : o.length + (Fm.pr n).size - 1 = o.length := by simp [Fm.size]
    rw [e]
    have hg : (Fm.flat (.pr n) o).getD o.length nond = ⟨2, 0, 0, n⟩ := getD_last
    unfold treeAt
    rw [hg]
    simp [treeN]
  | no a ih =>
    intro o
    have hl := a.flat_len o
    have hp := a.size_pos
    have e : o.length + (Fm.no a).size - 1 = (a.flat o).length := by simp [Fm.size]; omega
    rw [e]
    have h1 : treeAt (Fm.flat (.no a) o) (o.length + a.size - 1) = a := by
      rw [treeAt_take (g := a.flat o) _ (fun j hj => by rw [Fm.flat, getD_pre (by omega)])]
      exact ih ht o
    have hg : (Fm.flat (.no a) o).getD (a.flat o).length nond = ⟨3, ((a.flat o).length : Int) - 1, 0, 0⟩ := getD_last
    unfold treeAt
    rw [hg]
    simp only [treeN, show ¬ (3 : Int) = 1 by decide, show ¬ (3 : Int) = 2 by decide, if_false, if_true]
    rw [show (((a.flat o).length : Int) - 1).toNat = o.length + a.size - 1 by omega, treesOf_get _ _ _ (by omega), h1]
  | nx a ih =>
    intro o
    have hl := a.flat_len o
    have hp := a.size_pos
    have e : o.length + (Fm.nx a).size - 1 = (a.flat o).length := by simp [Fm.size]; omega
    rw [e]
    have h1 : treeAt (Fm.flat (.nx a) o) (o.length + a.size - 1) = a := by
      rw [treeAt_take (g := a.flat o) _ (fun j hj => by rw [Fm.flat, getD_pre (by omega)])]
      exact ih ht o
    have hg : (Fm.flat (.nx a) o).getD (a.flat o).length nond = ⟨6, ((a.flat o).length : Int) - 1, 0, 0⟩ := getD_last
    unfold treeAt
    rw [hg]
    simp only [treeN, show ¬ (6 : Int) = 1 by decide, show ¬ (6 : Int) = 2 by decide, show ¬ (6 : Int) = 3 by decide, if_false, if_true]
    rw [show (((a.flat o).length : Int) - 1).toNat = o.length + a.size - 1 by omega, treesOf_get _ _ _ (by omega), h1]
  | bi k a b iha ihb =>
    intro o
    have hla := a.flat_len o
    have hlb := b.flat_len (a.flat o)
    have hpa := a.size_pos
    have hpb := b.size_pos
    obtain ⟨hk, hta, htb⟩ := ht
    have e : o.length + (Fm.bi k a b).size - 1 = (b.flat (a.flat o)).length := by simp [Fm.size]; omega
    rw [e]
    have h1 : treeAt (Fm.flat (.bi k a b) o) (o.length + a.size - 1) = a := by
      obtain ⟨r, hr⟩ := b.flat_pre (a.flat o)
      rw [treeAt_take (g := a.flat o) _ (fun j hj => by rw [Fm.flat, getD_pre (by omega), hr, getD_pre (by omega)])]
      exact iha hta o
    have h2 : treeAt (Fm.flat (.bi k a b) o) ((a.flat o).length + b.size - 1) = b := by
      rw [treeAt_take (g := b.flat (a.flat o)) _ (fun j hj => by rw [Fm.flat, getD_pre (by omega)])]
      exact ihb htb _
    have hg : (Fm.flat (.bi k a b) o).getD (b.flat (a.flat o)).length nond = ⟨k, ((a.flat o).length : Int) - 1, ((b.flat (a.flat o)).length : Int) - 1, 0⟩ := getD_last
    unfold treeAt
    rw [hg]
    simp only [treeN, show ¬ k = 1 by omega, show ¬ k = 2 by omega, show ¬ k = 3 by omega, show ¬ k = 6 by omega, if_false]
    rw [show (((a.flat o).length : Int) - 1).toNat = o.length + a.size - 1 by omega, treesOf_get _ _ _ (by omega), h1,
      show (((b.flat (a.flat o)).length : Int) - 1).toNat = (a.flat o).length + b.size - 1 by omega, treesOf_get _ _ _ (by omega), h2]

/-- reading -/
def chr (s : List UInt8) (i : Nat) : UInt8 := s.getD i 0
def needs (s : List UInt8) : List UInt8 → Nat → Except Nat Nat
  | [], i => .ok i
  | c :: r, i => if i < s.length ∧ chr s i = c then needs s r (i + 1) else .error i
def kndAt (c : UInt8) : Int := if c = 38 then 4 else if c = 124 then 5 else if c = 85 then 7 else if c = 82 then 8 else 0
def prs (s : List UInt8) : Nat → Nat → Except Nat (Fm × Nat)
  | 0, i => .error i
  | m + 1, i =>
    if s.length ≤ i then .error s.length
    else if chr s i = 116 then (match needs s [116, 114, 117, 101] i with | .error e => .error e | .ok j => .ok (.tt, j))
    else if chr s i = 112 then (if i + 1 < s.length ∧ 48 ≤ chr s (i + 1) ∧ chr s (i + 1) ≤ 57 then .ok (.pr ((chr s (i + 1)).toNat - 48), i + 2) else .error (i + 1))
    else if chr s i = 33 then (match prs s m (i + 1) with | .error e => .error e | .ok (a, j) => .ok (.no a, j))
    else if chr s i = 88 then (match prs s m (i + 1) with | .error e => .error e | .ok (a, j) => .ok (.nx a, j))
    else if chr s i = 40 then
      (match prs s m (i + 1) with
      | .error e => .error e
      | .ok (a, j) =>
        match needs s [32] j with
        | .error e => .error e
        | .ok j =>
          if j < s.length ∧ kndAt (chr s j) ≠ 0 then
            (match needs s [32] (j + 1) with
            | .error e => .error e
            | .ok j2 =>
              match prs s m j2 with
              | .error e => .error e
              | .ok (b, j3) =>
                match needs s [41] j3 with
                | .error e => .error e
                | .ok j4 => .ok (.bi (kndAt (chr s j)) a b, j4))
          else .error j)
    else .error i
end Go.Proofs.YtoglgeaiiipchaaDoor
