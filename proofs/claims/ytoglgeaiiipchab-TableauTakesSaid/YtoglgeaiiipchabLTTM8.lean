/- Plain: formulas as trees; their texts; the nodes of a tree, each behind those that it is made of; reading of a text. -/
import Derived.Test.YtoglgeaiiipchabLTTM7
import Derived.Maps.RangeWalk
import Derived.Test.YtoglgeaiiipchabLTTM2
set_option linter.unusedSimpArgs false
set_option linter.unusedVariables false
namespace Go.Proofs.Ytoglgeaiiipchab
open Go Go.RowKit Go.Maps Go.Shelf

def itL (v : Int) : DataW Unit := .lit (.int .i64 v)
theorem itE_mk {v : Int} (h : (Lit.int .i64 v).wf = true) : plainElem (H := Unit) Try.prog 3 (.int .i64 v) = some (itL v, []) := plainElem_int Try.underlying3 h
theorem itE_some {v : Value} {z : DataW Unit × List MemPlace} (h : plainElem (H := Unit) Try.prog 3 v = some z) : ∃ s : Int, v = .int .i64 s ∧ z = (itL s, []) := by
  obtain ⟨s, h1, h2, _⟩ := plainElem_int_inv Try.underlying3 h
  exact ⟨s, h1, h2⟩
theorem itL_inj {a b : Int} (h : itL a = itL b) : a = b := by simpa [itL] using h
theorem itE_inv {v : Value} {s : Int} {ps : List MemPlace} (h : plainElem (H := Unit) Try.prog 3 v = some (itL s, ps)) : v = .int .i64 s := by
  obtain ⟨s', rfl, hz⟩ := itE_some h
  simp only [Prod.mk.injEq] at hz
  rw [itL_inj hz.1]
def itD (D : List (Int × Int)) : DataW Unit := D.foldl (fun m p => m.put (.int .i64 p.1) (itL p.2)) (.map [])
theorem itD_snoc (D : List (Int × Int)) (p : Int × Int) : itD (D ++ [p]) = (itD D).put (.int .i64 p.1) (itL p.2) := by unfold itD; rw [List.foldl_append]; rfl
theorem itD_not (z : DataW Unit) {k : Int} : ∀ (D : List (Int × Int)) (m : DataW Unit), k ∉ D.map Prod.fst → (D.foldl (fun m p => m.put (.int .i64 p.1) (itL p.2)) m).atKey (.int .i64 k) z = m.atKey (.int .i64 k) z
  | [], m, _ => rfl
  | p :: D, m, h => by
    rw [List.map_cons, List.mem_cons] at h
    rw [List.foldl_cons, itD_not z D _ (fun h' => h (.inr h')), atKey_put_other (fun e => h (.inl (by simpa using e)))]
theorem itD_in (z : DataW Unit) {k : Int} {s : Int} : ∀ (D : List (Int × Int)) (m : DataW Unit), IsMap m → (D.map Prod.fst).Nodup → (k, s) ∈ D → (D.foldl (fun m p => m.put (.int .i64 p.1) (itL p.2)) m).atKey (.int .i64 k) z = itL s
  | [], m, _, _, h => by cases h
  | p :: D, m, hm, hn, h => by
    rw [List.map_cons, List.nodup_cons] at hn
    rw [List.foldl_cons]
    rcases List.mem_cons.1 h with h1 | h1
    · subst h1
      rw [itD_not z D _ hn.1, atKey_put_same hm (show WideAt.IsKeyLit (.int .i64 k) from trivial)]
    · exact itD_in z D _ (hm.put _ _) hn.2 h1
def AtI (W : World) (M : Nat) (D : List (Int × Int)) : Prop := W.ownsMap Try.prog 3 (plainElem Try.prog 3) M D.length (itD D)
theorem AtI.made (w : World) : AtI (w.alloc (.map #[] 0)) w.heap.size [] := World.ownsMap_made _ _ _ _
theorem AtI.kept {W W' : World} {M : Nat} {D : List (Int × Int)} {row : Option Nat} (h : AtI W M D) (hg : W.grownBy W' row) (hr : some M ≠ row) : AtI W' M D := World.ownsMap.kept h hg hr
theorem AtI.on {W W' : World} {M : Nat} {D : List (Int × Int)} (h : AtI W M D) (hb : Below W.heap.size W W') : AtI W' M D :=
  h.kept (row := none) ⟨hb.os, hb.tape, hb.output, hb.size, fun k hk _ => hb.block k hk⟩ (by simp)
theorem AtI.lt {W : World} {M : Nat} {D : List (Int × Int)} (h : AtI W M D) : M < W.heap.size := World.ownsMap.lt h
theorem AtI.heap {W W' : World} {M : Nat} {D : List (Int × Int)} (h : AtI W M D) (he : W'.heap[M]? = W.heap[M]?) : AtI W' M D := by
  obtain ⟨es, c, h1, h2⟩ := h
  exact ⟨es, c, he.trans h1, h2⟩
theorem AtI.step {W : World} {M : Nat} {D : List (Int × Int)} {k v : Int} (h : W.ownsMap Try.prog 3 (plainElem Try.prog 3) M (D.length + 1) ((itD D).put (.int .i64 k) (itL v))) : AtI W M (D ++ [(k, v)]) := by
  unfold AtI
  rw [itD_snoc, List.length_append]
  exact h
theorem zeroIt (w : World) : (zeroValue 3).run Try.prog w = .ok (.int .i64 0) w := by kernel_rfl
theorem keyedIt : Keyed Try.prog 3 := int_keyed Try.underlying3
theorem keyIt {k : Int} (h : (Lit.int .i64 k).wf = true) : keyOf Try.prog 3 (.int .i64 k) = some (.int .i64 k) := keyOf_int_mk Try.underlying3 h
/-- m[k], ok -/
theorem AtI.hit {W : World} {M : Nat} {D : List (Int × Int)} (h : AtI W M D) (hn : (D.map Prod.fst).Nodup) {k s : Int} (hk : (Lit.int .i64 k).wf = true) (hs : (k, s) ∈ D) :
    (Instr.lookup 109 (.map (some M)) (.int .i64 k) true).run Try.prog W = .ok (.tuple #[.int .i64 s, .bool true]) W := by
  obtain ⟨v, ps, hrun, hv⟩ := World.ownsMap.look_ok h keyedIt Try.underlying109 (zeroIt W) (itE_mk (v := 0) (by decide)) (keyIt hk)
  rw [show (itD D).atKey (.int .i64 k) (itL 0) = itL s from itD_in _ D _ isMap_empty hn hs] at hv
  rw [hrun, itE_inv hv, has_true_of_atKey (D := itD D) (y := itL s) (fun z => itD_in z D _ isMap_empty hn hs)]
theorem AtI.miss {W : World} {M : Nat} {D : List (Int × Int)} (h : AtI W M D) {k : Int} (hk : (Lit.int .i64 k).wf = true) (hm : k ∉ D.map Prod.fst) :
    (Instr.lookup 109 (.map (some M)) (.int .i64 k) true).run Try.prog W = .ok (.tuple #[.int .i64 0, .bool false]) W := by
  obtain ⟨v, ps, hrun, hv⟩ := World.ownsMap.look_ok h keyedIt Try.underlying109 (zeroIt W) (itE_mk (v := 0) (by decide)) (keyIt hk)
  rw [show (itD D).atKey (.int .i64 k) (itL 0) = itL 0 from itD_not _ D _ hm] at hv
  rw [hrun, itE_inv hv, has_false_of_atKey (D := itD D) (fun z => itD_not z D _ hm)]
/-- m[k] = v -/
theorem AtI.put {W : World} {M : Nat} {D : List (Int × Int)} (h : AtI W M D) (hl : D.length ≤ 1000000) {k v : Int} (hk : (Lit.int .i64 k).wf = true) (hv : (Lit.int .i64 v).wf = true) :
    ∃ W', (Instr.mapUpdate 109 (.map (some M)) (.int .i64 k) (.int .i64 v)).run Try.prog W = .ok () W' ∧ AtI W' M (D ++ [(k, v)]) ∧ W.grownBy W' (some M) := by
  obtain ⟨W', h1, h2, h3⟩ := World.ownsMap.update h keyedIt Try.underlying109 (by unfold maxLen; omega) (keyIt hk) (itE_mk hv)
  exact ⟨W', h1, AtI.step h2, h3⟩
/-- an entry that a range hands out stands in the map -/
theorem itD_entry {D : List (Int × Int)} {k v : Int} (h : ∀ z : DataW Unit, (itD D).atKey (.int .i64 k) z = itL v) : (k, v) ∈ D ∨ ∃ v', (k, v') ∈ D ∧ ¬ (D.map Prod.fst).Nodup := by
  by_cases hm : k ∈ D.map Prod.fst
  · obtain ⟨⟨k', v'⟩, hp, rfl⟩ := List.mem_map.1 hm
    by_cases hn : (D.map Prod.fst).Nodup
    · have h1 := h (itL 0)
      rw [show (itD D).atKey (.int .i64 k') (itL 0) = itL v' from itD_in _ D _ isMap_empty hn hp] at h1
      rw [← itL_inj h1]
      exact .inl hp
    · exact .inr ⟨v', hp, hn⟩
  · have h1 := h (itL (v + 1))
    rw [show (itD D).atKey (.int .i64 k) (itL (v + 1)) = itL (v + 1) from itD_not _ D _ hm] at h1
    have := itL_inj h1
    omega
theorem itD_has {D : List (Int × Int)} (hn : (D.map Prod.fst).Nodup) {k v : Int} (h : (k, v) ∈ D) : Maps.has (itD D) (.int .i64 k) = true := has_true_of_atKey (D := itD D) (y := itL v) (fun z => itD_in z D _ isMap_empty hn h)
end Go.Proofs.Ytoglgeaiiipchab

namespace Go.Proofs.Ytoglgeaiiipchab

inductive Fm where
  | tt : Fm
  | pr : Int → Fm
  | no : Fm → Fm
  | nx : Fm → Fm
  | bi : Int → Fm → Fm → Fm
  deriving DecidableEq
/-- the sign of a kind between two -/
def sgn (k : Int) : UInt8 := if k = 4 then 38 else if k = 5 then 124 else if k = 7 then 85 else 82
def Fm.show : Fm → List UInt8
  | .tt => [116, 114, 117, 101]
  | .pr n => [112, UInt8.ofNat (48 + n.toNat)]
  | .no a => 33 :: a.show
  | .nx a => 88 :: a.show
  | .bi k a b => 40 :: (a.show ++ [32, sgn k, 32] ++ b.show ++ [41])
/-- nodes, behind those that there are -/
def Fm.flat : Fm → List Nd → List Nd
  | .tt, o => o ++ [⟨1, 0, 0, 0⟩]
  | .pr n, o => o ++ [⟨2, 0, 0, n⟩]
  | .no a, o => a.flat o ++ [⟨3, ((a.flat o).length : Int) - 1, 0, 0⟩]
  | .nx a, o => a.flat o ++ [⟨6, ((a.flat o).length : Int) - 1, 0, 0⟩]
  | .bi k a b, o => b.flat (a.flat o) ++ [⟨k, ((a.flat o).length : Int) - 1, ((b.flat (a.flat o)).length : Int) - 1, 0⟩]
def Fm.size : Fm → Nat
  | .tt => 1
  | .pr _ => 1
  | .no a => a.size + 1
  | .nx a => a.size + 1
  | .bi _ a b => a.size + b.size + 1
theorem Fm.size_pos (t : Fm) : 0 < t.size := by cases t <;> simp [Fm.size]
theorem Fm.flat_len (t : Fm) : ∀ o, (t.flat o).length = o.length + t.size := by
  induction t with
  | tt => intro o; simp [Fm.flat, Fm.size]
  | pr n => intro o; simp [Fm.flat, Fm.size]
  | no a ih => intro o; simp [Fm.flat, Fm.size, ih]; omega
  | nx a ih => intro o; simp [Fm.flat, Fm.size, ih]; omega
  | bi k a b iha ihb => intro o; simp [Fm.flat, Fm.size, iha, ihb]; omega
theorem Fm.flat_pre (t : Fm) : ∀ o, ∃ r, t.flat o = o ++ r := by
  induction t with
  | tt => intro o; exact ⟨_, rfl⟩
  | pr n => intro o; exact ⟨_, rfl⟩
  | no a ih => intro o; obtain ⟨r, h⟩ := ih o; exact ⟨r ++ [⟨3, ((a.flat o).length : Int) - 1, 0, 0⟩], by rw [Fm.flat]; rw [← List.append_assoc, ← h]⟩
  | nx a ih => intro o; obtain ⟨r, h⟩ := ih o; exact ⟨r ++ [⟨6, ((a.flat o).length : Int) - 1, 0, 0⟩], by rw [Fm.flat]; rw [← List.append_assoc, ← h]⟩
  | bi k a b iha ihb =>
    intro o
    obtain ⟨r, h⟩ := iha o
    obtain ⟨r', h'⟩ := ihb (a.flat o)
    exact ⟨r ++ r' ++ [⟨k, ((a.flat o).length : Int) - 1, ((b.flat (a.flat o)).length : Int) - 1, 0⟩], by rw [Fm.flat, h', h]; simp⟩
/-- the tree of a node, those of the nodes ahead being known -/
def treeN (ts : List Fm) (x : Nd) : Fm :=
  if x.k = 1 then .tt
  else if x.k = 2 then .pr x.n
  else if x.k = 3 then .no (ts.getD x.a.toNat .tt)
  else if x.k = 6 then .nx (ts.getD x.a.toNat .tt)
  else .bi x.k (ts.getD x.a.toNat .tt) (ts.getD x.b.toNat .tt)
def nond : Nd := ⟨0, 0, 0, 0⟩
def treesOf (f : List Nd) : Nat → List Fm
  | 0 => []
  | k + 1 => treesOf f k ++ [treeN (treesOf f k) (f.getD k nond)]
def treeAt (f : List Nd) (i : Nat) : Fm := treeN (treesOf f i) (f.getD i nond)
theorem treesOf_len (f : List Nd) (k : Nat) : (treesOf f k).length = k := by
  induction k with
  | zero => rfl
  | succ k ih => simp [treesOf, ih]
theorem treesOf_get (f : List Nd) : ∀ (k i : Nat), i < k → (treesOf f k).getD i .tt = treeAt f i
  | 0, i, h => absurd h (by omega)
  | k + 1, i, h => by
    unfold treesOf
    rw [List.getD_eq_getElem?_getD]
    rcases Nat.lt_or_ge i k with h1 | h1
    · rw [List.getElem?_append_left (by rw [treesOf_len]; exact h1), ← List.getD_eq_getElem?_getD]
      exact treesOf_get f k i h1
    · obtain rfl : i = k := by omega
      rw [List.getElem?_append_right (by rw [treesOf_len]; exact Nat.le_refl _), treesOf_len]
      simp [treeAt]
/-- the trees hang on the nodes up to there alone -/
theorem treeAt_take {f g : List Nd} : ∀ (i : Nat), (∀ j, j ≤ i → f.getD j nond = g.getD j nond) → treeAt f i = treeAt g i := by
  have key : ∀ (k : Nat), (∀ j, j < k → f.getD j nond = g.getD j nond) → treesOf f k = treesOf g k := by
    intro k
    induction k with
    | zero => intro _; rfl
    | succ k ih =>
      intro h
      unfold treesOf
      rw [ih (fun j hj => h j (by omega)), h k (by omega)]
  intro i h
  unfold treeAt
  rw [key i (fun j hj => h j (by omega)), h i (Nat.le_refl _)]
/-- is a tree one that the kinds allow? -/
def Fm.ok : Fm → Prop
  | .tt => True
  | .pr n => 0 ≤ n ∧ n ≤ 9
  | .no a => a.ok
  | .nx a => a.ok
  | .bi k a b => (k = 4 ∨ k = 5 ∨ k = 7 ∨ k = 8) ∧ a.ok ∧ b.ok
theorem getD_pre {xs ys : List Nd} {i : Nat} {d : Nd} (h : i < xs.length) : (xs ++ ys).getD i d = xs.getD i d := by
  rw [List.getD_eq_getElem?_getD, List.getElem?_append_left h, ← List.getD_eq_getElem?_getD]
theorem getD_last {xs : List Nd} {x d : Nd} : (xs ++ [x]).getD xs.length d = x := by
  rw [List.getD_eq_getElem?_getD, List.getElem?_append_right (Nat.le_refl _)]
  simp
theorem treeAt_flat (t : Fm) (ht : t.ok) : ∀ o, treeAt (t.flat o) (o.length + t.size - 1) = t := by
  induction t with
  | tt =>
    intro o
    have e : o.length + Fm.tt.size - 1 = o.length := by simp [Fm.size]
    rw [e]
    have hg : (Fm.flat .tt o).getD o.length nond = ⟨1, 0, 0, 0⟩ := getD_last
    unfold treeAt
    rw [hg]
    simp [treeN]
  | pr n =>
    intro o
    have e : o.length + (Fm.pr n).size - 1 = o.length := by simp [Fm.size]
    rw [e]
    have hg : (Fm.flat (.pr n) o).getD o.length nond = ⟨2, 0, 0, n⟩ := getD_last
    unfold treeAt
    rw [hg]
    simp [treeN]
  | no a ih =>
    intro o
    have hl := a.flat_len o
    have hp := a.size_pos
    have e : o.length + (Fm.no a).size - 1 = (a.flat o).length := by simp [Fm.size]; omega
    rw [e]
    have h1 : treeAt (Fm.flat (.no a) o) (o.length + a.size - 1) = a := by
      rw [treeAt_take (g := a.flat o) _ (fun j hj => by rw [Fm.flat, getD_pre (by omega)])]
      exact ih ht o
    have hg : (Fm.flat (.no a) o).getD (a.flat o).length nond = ⟨3, ((a.flat o).length : Int) - 1, 0, 0⟩ := getD_last
    unfold treeAt
    rw [hg]
    simp only [treeN, show ¬ (3 : Int) = 1 by decide, show ¬ (3 : Int) = 2 by decide, if_false, if_true]
    rw [show (((a.flat o).length : Int) - 1).toNat = o.length + a.size - 1 by omega, treesOf_get _ _ _ (by omega), h1]
  | nx a ih =>
    intro o
    have hl := a.flat_len o
    have hp := a.size_pos
    have e : o.length + (Fm.nx a).size - 1 = (a.flat o).length := by simp [Fm.size]; omega
    rw [e]
    have h1 : treeAt (Fm.flat (.nx a) o) (o.length + a.size - 1) = a := by
      rw [treeAt_take (g := a.flat o) _ (fun j hj => by rw [Fm.flat, getD_pre (by omega)])]
      exact ih ht o
    have hg : (Fm.flat (.nx a) o).getD (a.flat o).length nond = ⟨6, ((a.flat o).length : Int) - 1, 0, 0⟩ := getD_last
    unfold treeAt
    rw [hg]
    simp only [treeN, show ¬ (6 : Int) = 1 by decide, show ¬ (6 : Int) = 2 by decide, show ¬ (6 : Int) = 3 by decide, if_false, if_true]
    rw [show (((a.flat o).length : Int) - 1).toNat = o.length + a.size - 1 by omega, treesOf_get _ _ _ (by omega), h1]
  | bi k a b iha ihb =>
    intro o
    have hla := a.flat_len o
    have hlb := b.flat_len (a.flat o)
    have hpa := a.size_pos
    have hpb := b.size_pos
    obtain ⟨hk, hta, htb⟩ := ht
    have e : o.length + (Fm.bi k a b).size - 1 = (b.flat (a.flat o)).length := by simp [Fm.size]; omega
    rw [e]
    have h1 : treeAt (Fm.flat (.bi k a b) o) (o.length + a.size - 1) = a := by
      obtain ⟨r, hr⟩ := b.flat_pre (a.flat o)
      rw [treeAt_take (g := a.flat o) _ (fun j hj => by rw [Fm.flat, getD_pre (by omega), hr, getD_pre (by omega)])]
      exact iha hta o
    have h2 : treeAt (Fm.flat (.bi k a b) o) ((a.flat o).length + b.size - 1) = b := by
      rw [treeAt_take (g := b.flat (a.flat o)) _ (fun j hj => by rw [Fm.flat, getD_pre (by omega)])]
      exact ihb htb _
    have hg : (Fm.flat (.bi k a b) o).getD (b.flat (a.flat o)).length nond = ⟨k, ((a.flat o).length : Int) - 1, ((b.flat (a.flat o)).length : Int) - 1, 0⟩ := getD_last
    unfold treeAt
    rw [hg]
    simp only [treeN, show ¬ k = 1 by omega, show ¬ k = 2 by omega, show ¬ k = 3 by omega, show ¬ k = 6 by omega, if_false]
    rw [show (((a.flat o).length : Int) - 1).toNat = o.length + a.size - 1 by omega, treesOf_get _ _ _ (by omega), h1,
      show (((b.flat (a.flat o)).length : Int) - 1).toNat = (a.flat o).length + b.size - 1 by omega, treesOf_get _ _ _ (by omega), h2]

/-- reading -/
def chr (s : List UInt8) (i : Nat) : UInt8 := s.getD i 0
def needs (s : List UInt8) : List UInt8 → Nat → Except Nat Nat
  | [], i => .ok i
  | c :: r, i => if i < s.length ∧ chr s i = c then needs s r (i + 1) else .error i
def kndAt (c : UInt8) : Int := if c = 38 then 4 else if c = 124 then 5 else if c = 85 then 7 else if c = 82 then 8 else 0
def prs (s : List UInt8) : Nat → Nat → Except Nat (Fm × Nat)
  | 0, i => .error i
  | m + 1, i =>
    if s.length ≤ i then .error s.length
    else if chr s i = 116 then (match needs s [116, 114, 117, 101] i with | .error e => .error e | .ok j => .ok (.tt, j))
    else if chr s i = 112 then (if i + 1 < s.length ∧ 48 ≤ chr s (i + 1) ∧ chr s (i + 1) ≤ 57 then .ok (.pr ((chr s (i + 1)).toNat - 48), i + 2) else .error (i + 1))
    else if chr s i = 33 then (match prs s m (i + 1) with | .error e => .error e | .ok (a, j) => .ok (.no a, j))
    else if chr s i = 88 then (match prs s m (i + 1) with | .error e => .error e | .ok (a, j) => .ok (.nx a, j))
    else if chr s i = 40 then
      (match prs s m (i + 1) with
      | .error e => .error e
      | .ok (a, j) =>
        match needs s [32] j with
        | .error e => .error e
        | .ok j =>
          if j < s.length ∧ kndAt (chr s j) ≠ 0 then
            (match needs s [32] (j + 1) with
            | .error e => .error e
            | .ok j2 =>
              match prs s m j2 with
              | .error e => .error e
              | .ok (b, j3) =>
                match needs s [41] j3 with
                | .error e => .error e
                | .ok j4 => .ok (.bi (kndAt (chr s j)) a b, j4))
          else .error j)
    else .error i
end Go.Proofs.Ytoglgeaiiipchab
