import Derived.Test.YtoglgeaiiipchabGreatDoorLMAKM5
import Derived.Maps.RangeWalk
import Derived.Test.YtoglgeaiiipchabGreatDoorLMAKM2
set_option linter.unusedSimpArgs false
set_option linter.unusedVariables false
namespace Go.Proofs.YtoglgeaiiipchabGreatDoor
open Go Go.RowKit Go.Maps Go.Shelf
def itL (v : Int) : DataW Unit := .lit (.int .i64 v)
theorem itE_mk {v : Int} (h : (Lit.int .i64 v).wf = true) : plainElem (H := Unit) Tryz.prog 3 (.int .i64 v) = some (itL v, []) := plainElem_int Tryz.underlying3 h
theorem itE_some {v : Value} {z : DataW Unit × List MemPlace} (h : plainElem (H := Unit) Tryz.prog 3 v = some z) : ∃ s : Int, v = .int .i64 s ∧ z = (itL s, []) := by
  obtain ⟨s, h1, h2, _⟩ := plainElem_int_inv Tryz.underlying3 h
  exact ⟨s, h1, h2⟩
theorem itL_inj {a b : Int} (h : itL a = itL b) : a = b := by simpa [itL] using h
theorem itE_inv {v : Value} {s : Int} {ps : List MemPlace} (h : plainElem (H := Unit) Tryz.prog 3 v = some (itL s, ps)) : v = .int .i64 s := by
  obtain ⟨s', rfl, hz⟩ := itE_some h
  simp only [Prod.mk.injEq] at hz
  rw [itL_inj hz.1]
def itD (D : List (Int × Int)) : DataW Unit := D.foldl (fun m p => m.put (.int .i64 p.1) (itL p.2)) (.map [])
theorem itD_snoc (D : List (Int × Int)) (p : Int × Int) : itD (D ++ [p]) = (itD D).put (.int .i64 p.1) (itL p.2) := by unfold itD; rw [List.foldl_append]; rfl
theorem itD_not (z : DataW Unit) {k : Int} : ∀ (D : List (Int × Int)) (m : DataW Unit), k ∉ D.map Prod.fst → (D.foldl (fun m p => m.put (.int .i64 p.1) (itL p.2)) m).atKey (.int .i64 k) z = m.atKey (.int .i64 k) z
  | [], m, _ => rfl
  | p :: D, m, h => by
    rw [List.map_cons, List.mem_cons] at h
    rw [List.foldl_cons, itD_not z D _ (fun h' => h (.inr h')), atKey_put_other (fun e => h (.inl (by simpa using e)))]
theorem itD_in (z : DataW Unit) {k : Int} {s : Int} : ∀ (D : List (Int × Int)) (m : DataW Unit), IsMap m → (D.map Prod.fst).Nodup → (k, s) ∈ D → (D.foldl (fun m p => m.put (.int .i64 p.1) (itL p.2)) m).atKey (.int .i64 k) z = itL s
  | [], m, _, _, h => by cases h
  | p :: D, m, hm, hn, h => by
    rw [List.map_cons, List.nodup_cons] at hn
    rw [List.foldl_cons]
    rcases List.mem_cons.1 h with h1 | h1
    · subst h1
      rw [itD_not z D _ hn.1, atKey_put_same hm (show WideAt.IsKeyLit (.int .i64 k) from trivial)]
    · exact itD_in z D _ (hm.put _ _) hn.2 h1
def AtI (W : World) (M : Nat) (D : List (Int × Int)) : Prop := W.ownsMap Tryz.prog 3 (plainElem Tryz.prog 3) M D.length (itD D)
theorem AtI.made (w : World) : AtI (w.alloc (.map #[] 0)) w.heap.size [] := World.ownsMap_made _ _ _ _
theorem AtI.kept {W W' : World} {M : Nat} {D : List (Int × Int)} {row : Option Nat} (h : AtI W M D) (hg : W.grownBy W' row) (hr : some M ≠ row) : AtI W' M D := World.ownsMap.kept h hg hr
theorem AtI.on {W W' : World} {M : Nat} {D : List (Int × Int)} (h : AtI W M D) (hb : Below W.heap.size W W') : AtI W' M D :=
  h.kept (row := none) ⟨hb.os, hb.tape, hb.output, hb.size, fun k hk _ => hb.block k hk⟩ (by simp)
theorem AtI.lt {W : World} {M : Nat} {D : List (Int × Int)} (h : AtI W M D) : M < W.heap.size := World.ownsMap.lt h
theorem AtI.heap {W W' : World} {M : Nat} {D : List (Int × Int)} (h : AtI W M D) (he : W'.heap[M]? = W.heap[M]?) : AtI W' M D := by
  obtain ⟨es, c, h1, h2⟩ := h
  exact ⟨es, c, he.trans h1, h2⟩
theorem AtI.step {W : World} {M : Nat} {D : List (Int × Int)} {k v : Int} (h : W.ownsMap Tryz.prog 3 (plainElem Tryz.prog 3) M (D.length + 1) ((itD D).put (.int .i64 k) (itL v))) : AtI W M (D ++ [(k, v)]) := by
  unfold AtI
  rw [itD_snoc, List.length_append]
  exact h
theorem zeroIt (w : World) : (zeroValue 3).run Tryz.prog w = .ok (.int .i64 0) w := by kernel_rfl
theorem keyedIt : Keyed Tryz.prog 3 := int_keyed Tryz.underlying3
theorem keyIt {k : Int} (h : (Lit.int .i64 k).wf = true) : keyOf Tryz.prog 3 (.int .i64 k) = some (.int .i64 k) := keyOf_int_mk Tryz.underlying3 h
theorem AtI.hit {W : World} {M : Nat} {D : List (Int × Int)} (h : AtI W M D) (hn : (D.map Prod.fst).Nodup) {k s : Int} (hk : (Lit.int .i64 k).wf = true) (hs : (k, s) ∈ D) :
    (Instr.lookup 148 (.map (some M)) (.int .i64 k) true).run Tryz.prog W = .ok (.tuple #[.int .i64 s, .bool true]) W := by
  obtain ⟨v, ps, hrun, hv⟩ := World.ownsMap.look_ok h keyedIt Tryz.underlying148 (zeroIt W) (itE_mk (v := 0) (by decide)) (keyIt hk)
  rw [show (itD D).atKey (.int .i64 k) (itL 0) = itL s from itD_in _ D _ isMap_empty hn hs] at hv
  rw [hrun, itE_inv hv, has_true_of_atKey (D := itD D) (y := itL s) (fun z => itD_in z D _ isMap_empty hn hs)]
theorem AtI.miss {W : World} {M : Nat} {D : List (Int × Int)} (h : AtI W M D) {k : Int} (hk : (Lit.int .i64 k).wf = true) (hm : k ∉ D.map Prod.fst) :
    (Instr.lookup 148 (.map (some M)) (.int .i64 k) true).run Tryz.prog W = .ok (.tuple #[.int .i64 0, .bool false]) W := by
  obtain ⟨v, ps, hrun, hv⟩ := World.ownsMap.look_ok h keyedIt Tryz.underlying148 (zeroIt W) (itE_mk (v := 0) (by decide)) (keyIt hk)
  rw [show (itD D).atKey (.int .i64 k) (itL 0) = itL 0 from itD_not _ D _ hm] at hv
  rw [hrun, itE_inv hv, has_false_of_atKey (D := itD D) (fun z => itD_not z D _ hm)]
theorem AtI.put {W : World} {M : Nat} {D : List (Int × Int)} (h : AtI W M D) (hl : D.length ≤ 1000000) {k v : Int} (hk : (Lit.int .i64 k).wf = true) (hv : (Lit.int .i64 v).wf = true) :
    ∃ W', (Instr.mapUpdate 148 (.map (some M)) (.int .i64 k) (.int .i64 v)).run Tryz.prog W = .ok () W' ∧ AtI W' M (D ++ [(k, v)]) ∧ W.grownBy W' (some M) := by
  obtain ⟨W', h1, h2, h3⟩ := World.ownsMap.update h keyedIt Tryz.underlying148 (by unfold maxLen; omega) (keyIt hk) (itE_mk hv)
  exact ⟨W', h1, AtI.step h2, h3⟩
theorem itD_entry {D : List (Int × Int)} {k v : Int} (h : ∀ z : DataW Unit, (itD D).atKey (.int .i64 k) z = itL v) : (k, v) ∈ D ∨ ∃ v', (k, v') ∈ D ∧ ¬ (D.map Prod.fst).Nodup := by
  by_cases hm : k ∈ D.map Prod.fst
  · obtain ⟨⟨k', v'⟩, hp, rfl⟩ := List.mem_map.1 hm
    by_cases hn : (D.map Prod.fst).Nodup
    · have h1 := h (itL 0)
      rw [show (itD D).atKey (.int .i64 k') (itL 0) = itL v' from itD_in _ D _ isMap_empty hn hp] at h1
      rw [← itL_inj h1]
      exact .inl hp
    · exact .inr ⟨v', hp, hn⟩
  · have h1 := h (itL (v + 1))
    rw [show (itD D).atKey (.int .i64 k) (itL (v + 1)) = itL (v + 1) from itD_not _ D _ hm] at h1
    have := itL_inj h1
    omega
theorem itD_has {D : List (Int × Int)} (hn : (D.map Prod.fst).Nodup) {k v : Int} (h : (k, v) ∈ D) : Maps.has (itD D) (.int .i64 k) = true := has_true_of_atKey (D := itD D) (y := itL v) (fun z => itD_in z D _ isMap_empty hn h)
end Go.Proofs.YtoglgeaiiipchabGreatDoor

namespace Go.Proofs.YtoglgeaiiipchabGreatDoor
inductive Fm where
  | tt : Fm
  | pr : Int → Fm
  | no : Fm → Fm
  | nx : Fm → Fm
  | bi : Int → Fm → Fm → Fm
  deriving DecidableEq
def sgn (k : Int) : UInt8 := if k = 4 then 38 else if k = 5 then 124 else if k = 7 then 85 else 82
def Fm.show : Fm → List UInt8
  | .tt => [116, 114, 117, 101]
  | .pr n => [112, UInt8.ofNat (48 + n.toNat)]
  | .no a => 33 :: a.show
  | .nx a => 88 :: a.show
  | .bi k a b => 40 :: (a.show ++ [32, sgn k, 32] ++ b.show ++ [41])
def Fm.flat : Fm → List Nd → List Nd
  | .tt, o => o ++ [⟨1, 0, 0, 0⟩]
  | .pr n, o => o ++ [⟨2, 0, 0, n⟩]
  | .no a, o => a.flat o ++ [⟨3, ((a.flat o).length : Int) - 1, 0, 0⟩]
  | .nx a, o => a.flat o ++ [⟨6, ((a.flat o).length : Int) - 1, 0, 0⟩]
  | .bi k a b, o => b.flat (a.flat o) ++ [⟨k, ((a.flat o).length : Int) - 1, ((b.flat (a.flat o)).length : Int) - 1, 0⟩]
def Fm.size : Fm → Nat
  | .tt => 1
  | .pr _ => 1
  | .no a => a.size + 1
  | .nx a => a.size + 1
  | .bi _ a b => a.size + b.size + 1
theorem Fm.size_pos (t : Fm) : 0 < t.size := by cases t <;> simp [Fm.size]
theorem Fm.flat_len (t : Fm) : ∀ o, (t.flat o).length = o.length + t.size := by
  induction t with
  | tt => intro o; simp [Fm.flat, Fm.size]
  | pr n => intro o; simp [Fm.flat, Fm.size]
  | no a ih => intro o; simp [Fm.flat, Fm.size, ih]; omega
  | nx a ih => intro o; simp [Fm.flat, Fm.size, ih]; omega
  | bi k a b iha ihb => intro o; simp [Fm.flat, Fm.size, iha, ihb]; omega
theorem Fm.flat_pre (t : Fm) : ∀ o, ∃ r, t.flat o = o ++ r := by
  induction t with
  | tt => intro o; exact ⟨_, rfl⟩
  | pr n => intro o; exact ⟨_, rfl⟩
  | no a ih => intro o; obtain ⟨r, h⟩ := ih o; exact ⟨r ++ [⟨3, ((a.flat o).length : Int) - 1, 0, 0⟩], by rw [Fm.flat]; rw [← List.append_assoc, ← h]⟩
  | nx a ih => intro o; obtain ⟨r, h⟩ := ih o; exact ⟨r ++ [⟨6, ((a.flat o).length : Int) - 1, 0, 0⟩], by rw [Fm.flat]; rw [← List.append_assoc, ← h]⟩
  | bi k a b iha ihb =>
    intro o
    obtain ⟨r, h⟩ := iha o
    obtain ⟨r', h'⟩ := ihb (a.flat o)
    exact ⟨r ++ r' ++ [⟨k, ((a.flat o).length : Int) - 1, ((b.flat (a.flat o)).length : Int) - 1, 0⟩], by rw [Fm.flat, h', h]; simp⟩
def treeN (ts : List Fm) (x : Nd) : Fm :=
  if x.k = 1 then .tt
  else if x.k = 2 then .pr x.n
  else if x.k = 3 then .no (ts.getD x.a.toNat .tt)
  else if x.k = 6 then .nx (ts.getD x.a.toNat .tt)
  else .bi x.k (ts.getD x.a.toNat .tt) (ts.getD x.b.toNat .tt)
def nond : Nd := ⟨0, 0, 0, 0⟩
def treesOf (f : List Nd) : Nat → List Fm
  | 0 => []
  | k + 1 => treesOf f k ++ [treeN (treesOf f k) (f.getD k nond)]
def treeAt (f : List Nd) (i : Nat) : Fm := treeN (treesOf f i) (f.getD i nond)
theorem treesOf_len (f : List Nd) (k : Nat) : (treesOf f k).length = k := by
  induction k with
  | zero => rfl
  | succ k ih => simp [treesOf, ih]
theorem treesOf_get (f : List Nd) : ∀ (k i : Nat), i < k → (treesOf f k).getD i .tt = treeAt f i
  | 0, i, h => absurd h (by omega)
  | k + 1, i, h => by
    unfold treesOf
    rw [List.getD_eq_getElem?_getD]
    rcases Nat.lt_or_ge i k with h1 | h1
    · rw [List.getElem?_append_left (by rw [treesOf_len]; exact h1), ← List.getD_eq_getElem?_getD]
      exact treesOf_get f k i h1
    · obtain rfl : i = k := by omega
      rw [List.getElem?_append_right (by rw [treesOf_len]; exact Nat.le_refl _), treesOf_len]
      simp [treeAt]
theorem treeAt_take {f g : List Nd} : ∀ (i : Nat), (∀ j, j ≤ i → f.getD j nond = g.getD j nond) → treeAt f i = treeAt g i := by
  have key : ∀ (k : Nat), (∀ j, j < k → f.getD j nond = g.getD j nond) → treesOf f k = treesOf g k := by
    intro k
    induction k with
    | zero => intro _; rfl
    | succ k ih =>
      intro h
      unfold treesOf
      rw [ih (fun j hj => h j (by omega)), h k (by omega)]
  intro i h
  unfold treeAt
  rw [key i (fun j hj => h j (by omega)), h i (Nat.le_refl _)]
def Fm.ok : Fm → Prop
  | .tt => True
  | .pr n => 0 ≤ n ∧ n ≤ 9
  | .no a => a.ok
  | .nx a => a.ok
  | .bi k a b => (k = 4 ∨ k = 5 ∨ k = 7 ∨ k = 8) ∧ a.ok ∧ b.ok
theorem getD_pre {xs ys : List Nd} {i : Nat} {d : Nd} (h : i < xs.length) : (xs ++ ys).getD i d = xs.getD i d := by
  rw [List.getD_eq_getElem?_getD, List.getElem?_append_left h, ← List.getD_eq_getElem?_getD]
theorem getD_last {xs : List Nd} {x d : Nd} : (xs ++ [x]).getD xs.length d = x := by
  rw [List.getD_eq_getElem?_getD, List.getElem?_append_right (Nat.le_refl _)]
  simp
theorem treeAt_flat (t : Fm) (ht : t.ok) : ∀ o, treeAt (t.flat o) (o.length + t.size - 1) = t := by
  induction t with
  | tt =>
    intro o
    have e : o.length + Fm.tt.size - 1 = o.length := by simp [Fm.size]
    rw [e]
    have hg : (Fm.flat .tt o).getD o.length nond = ⟨1, 0, 0, 0⟩ := getD_last
    unfold treeAt
    rw [hg]
    simp [treeN]
  | pr n =>
    intro o
    have e : o.length + (Fm.pr n).size - 1 = o.length := by simp [Fm.size]
    rw [e]
    have hg : (Fm.flat (.pr n) o).getD o.length nond = ⟨2, 0, 0, n⟩ := getD_last
    unfold treeAt
    rw [hg]
    simp [treeN]
  | no a ih =>
    intro o
    have hl := a.flat_len o
    have hp := a.size_pos
    have e : o.length + (Fm.no a).size - 1 = (a.flat o).length := by simp [Fm.size]; omega
    rw [e]
    have h1 : treeAt (Fm.flat (.no a) o) (o.length + a.size - 1) = a := by
      rw [treeAt_take (g := a.flat o) _ (fun j hj => by rw [Fm.flat, getD_pre (by omega)])]
      exact ih ht o
    have hg : (Fm.flat (.no a) o).getD (a.flat o).length nond = ⟨3, ((a.flat o).length : Int) - 1, 0, 0⟩ := getD_last
    unfold treeAt
    rw [hg]
    simp only [treeN, show ¬ (3 : Int) = 1 by decide, show ¬ (3 : Int) = 2 by decide, if_false, if_true]
    rw [show (((a.flat o).length : Int) - 1).toNat = o.length + a.size - 1 by omega, treesOf_get _ _ _ (by omega), h1]
  | nx a ih =>
    intro o
    have hl := a.flat_len o
    have hp := a.size_pos
    have e : o.length + (Fm.nx a).size - 1 = (a.flat o).length := by simp [Fm.size]; omega
    rw [e]
    have h1 : treeAt (Fm.flat (.nx a) o) (o.length + a.size - 1) = a := by
      rw [treeAt_take (g := a.flat o) _ (fun j hj => by rw [Fm.flat, getD_pre (by omega)])]
      exact ih ht o
    have hg : (Fm.flat (.nx a) o).getD (a.flat o).length nond = ⟨6, ((a.flat o).length : Int) - 1, 0, 0⟩ := getD_last
    unfold treeAt
    rw [hg]
    simp only [treeN, show ¬ (6 : Int) = 1 by decide, show ¬ (6 : Int) = 2 by decide, show ¬ (6 : Int) = 3 by decide, if_false, if_true]
    rw [show (((a.flat o).length : Int) - 1).toNat = o.length + a.size - 1 by omega, treesOf_get _ _ _ (by omega), h1]
  | bi k a b iha ihb =>
    intro o
    have hla := a.flat_len o
    have hlb := b.flat_len (a.flat o)
    have hpa := a.size_pos
    have hpb := b.size_pos
    obtain ⟨hk, hta, htb⟩ := ht
    have e : o.length + (Fm.bi k a b).size - 1 = (b.flat (a.flat o)).length := by simp [Fm.size]; omega
    rw [e]
    have h1 : treeAt (Fm.flat (.bi k a b) o) (o.length + a.size - 1) = a := by
      obtain ⟨r, hr⟩ := b.flat_pre (a.flat o)
      rw [treeAt_take (g := a.flat o) _ (fun j hj => by rw [Fm.flat, getD_pre (by omega), hr, getD_pre (by omega)])]
      exact iha hta o
    have h2 : treeAt (Fm.flat (.bi k a b) o) ((a.flat o).length + b.size - 1) = b := by
      rw [treeAt_take (g := b.flat (a.flat o)) _ (fun j hj => by rw [Fm.flat, getD_pre (by omega)])]
      exact ihb htb _
    have hg : (Fm.flat (.bi k a b) o).getD (b.flat (a.flat o)).length nond = ⟨k, ((a.flat o).length : Int) - 1, ((b.flat (a.flat o)).length : Int) - 1, 0⟩ := getD_last
    unfold treeAt
    rw [hg]
    simp only [treeN, show ¬ k = 1 by omega, show ¬ k = 2 by omega, show ¬ k = 3 by omega, show ¬ k = 6 by omega, if_false]
    rw [show (((a.flat o).length : Int) - 1).toNat = o.length + a.size - 1 by omega, treesOf_get _ _ _ (by omega), h1,
      show (((b.flat (a.flat o)).length : Int) - 1).toNat = (a.flat o).length + b.size - 1 by omega, treesOf_get _ _ _ (by omega), h2]
def chr (s : List UInt8) (i : Nat) : UInt8 := s.getD i 0
def needs (s : List UInt8) : List UInt8 → Nat → Except Nat Nat
  | [], i => .ok i
  | c :: r, i => if i < s.length ∧ chr s i = c then needs s r (i + 1) else .error i
def kndAt (c : UInt8) : Int := if c = 38 then 4 else if c = 124 then 5 else if c = 85 then 7 else if c = 82 then 8 else 0
def prs (s : List UInt8) : Nat → Nat → Except Nat (Fm × Nat)
  | 0, i => .error i
  | m + 1, i =>
    if s.length ≤ i then .error s.length
    else if chr s i = 116 then (match needs s [116, 114, 117, 101] i with | .error e => .error e | .ok j => .ok (.tt, j))
    else if chr s i = 112 then (if i + 1 < s.length ∧ 48 ≤ chr s (i + 1) ∧ chr s (i + 1) ≤ 57 then .ok (.pr ((chr s (i + 1)).toNat - 48), i + 2) else .error (i + 1))
    else if chr s i = 33 then (match prs s m (i + 1) with | .error e => .error e | .ok (a, j) => .ok (.no a, j))
    else if chr s i = 88 then (match prs s m (i + 1) with | .error e => .error e | .ok (a, j) => .ok (.nx a, j))
    else if chr s i = 40 then
      (match prs s m (i + 1) with
      | .error e => .error e
      | .ok (a, j) =>
        match needs s [32] j with
        | .error e => .error e
        | .ok j =>
          if j < s.length ∧ kndAt (chr s j) ≠ 0 then
            (match needs s [32] (j + 1) with
            | .error e => .error e
            | .ok j2 =>
              match prs s m j2 with
              | .error e => .error e
              | .ok (b, j3) =>
                match needs s [41] j3 with
                | .error e => .error e
                | .ok j4 => .ok (.bi (kndAt (chr s j)) a b, j4))
          else .error j)
    else .error i
end Go.Proofs.YtoglgeaiiipchabGreatDoor

namespace Go.Proofs.YtoglgeaiiipchabGreatDoor
def Stands (s : List UInt8) (i : Nat) (w : List UInt8) : Prop := ∃ r, s.drop i = w ++ r
theorem Stands.app {s : List UInt8} {i : Nat} {v w : List UInt8} : Stands s i (v ++ w) ↔ Stands s i v ∧ Stands s (i + v.length) w := by
  constructor
  · rintro ⟨r, h⟩
    refine ⟨⟨w ++ r, by rw [h, List.append_assoc]⟩, ⟨r, ?_⟩⟩
    rw [← List.drop_drop, h, List.append_assoc, List.drop_left]
  · rintro ⟨⟨r, h⟩, ⟨r', h'⟩⟩
    refine ⟨r', ?_⟩
    rw [← List.drop_drop, h, List.drop_left] at h'
    rw [h, h', List.append_assoc]
theorem Stands.one {s : List UInt8} {i : Nat} {c : UInt8} : Stands s i [c] ↔ i < s.length ∧ chr s i = c := by
  unfold Stands chr
  constructor
  · rintro ⟨r, h⟩
    have hi : i < s.length := by
      rcases Nat.lt_or_ge i s.length with h1 | h1
      · exact h1
      · rw [List.drop_of_length_le h1] at h; simp at h
    refine ⟨hi, ?_⟩
    rw [List.drop_eq_getElem_cons hi] at h
    rw [List.getD_eq_getElem?_getD, List.getElem?_eq_getElem hi]
    exact (List.cons.inj h).1
  · rintro ⟨hi, h⟩
    rw [List.getD_eq_getElem?_getD, List.getElem?_eq_getElem hi] at h
    have h : s[i] = c := h
    exact ⟨s.drop (i + 1), by rw [List.drop_eq_getElem_cons hi, h]; rfl⟩
theorem Stands.cons {s : List UInt8} {i : Nat} {c : UInt8} {w : List UInt8} : Stands s i (c :: w) ↔ i < s.length ∧ chr s i = c ∧ Stands s (i + 1) w := by
  rw [show c :: w = [c] ++ w from rfl, Stands.app, Stands.one, and_assoc]
  rfl
theorem Stands.nil {s : List UInt8} {i : Nat} : Stands s i [] := ⟨s.drop i, rfl⟩
theorem Stands.le {s : List UInt8} {i : Nat} {w : List UInt8} (h : Stands s i w) (hi : i ≤ s.length) : i + w.length ≤ s.length := by
  obtain ⟨r, h⟩ := h
  have := congrArg List.length h
  simp at this
  omega
theorem needs_ok {s : List UInt8} : ∀ {w : List UInt8} {i j : Nat}, needs s w i = .ok j ↔ j = i + w.length ∧ Stands s i w
  | [], i, j => by
    simp only [needs, Except.ok.injEq, List.length_nil, Nat.add_zero]
    exact ⟨fun h => ⟨h.symm, Stands.nil⟩, fun h => h.1.symm⟩
  | c :: w, i, j => by
    unfold needs
    rw [Stands.cons]
    by_cases h : i < s.length ∧ chr s i = c
    · rw [if_pos h, needs_ok]
      simp only [h, List.length_cons, true_and]
      constructor
      · rintro ⟨rfl, h2⟩; exact ⟨by omega, h2⟩
      · rintro ⟨rfl, h2⟩; exact ⟨by omega, h2⟩
    · rw [if_neg h]
      constructor
      · intro h'; cases h'
      · rintro ⟨_, h1, h2, _⟩; exact absurd ⟨h1, h2⟩ h
theorem digit_ofNat {n : Nat} (h : n ≤ 9) : (UInt8.ofNat (48 + n)).toNat = 48 + n := by
  simp
  omega
theorem digit_back {c : UInt8} (h1 : 48 ≤ c) (h2 : c ≤ 57) : UInt8.ofNat (48 + ((c.toNat : Int) - 48).toNat) = c := by
  have h1 : 48 ≤ c.toNat := h1
  have h2 : c.toNat ≤ 57 := h2
  apply UInt8.toNat_inj.1
  simp
  omega
theorem sgn_knd {c : UInt8} (h : kndAt c ≠ 0) : sgn (kndAt c) = c ∧ (kndAt c = 4 ∨ kndAt c = 5 ∨ kndAt c = 7 ∨ kndAt c = 8) := by
  unfold kndAt at *
  by_cases h1 : c = 38
  · subst h1; exact ⟨rfl, by decide⟩
  · by_cases h2 : c = 124
    · subst h2; exact ⟨rfl, by decide⟩
    · by_cases h3 : c = 85
      · subst h3; exact ⟨rfl, by decide⟩
      · by_cases h4 : c = 82
        · subst h4; exact ⟨rfl, by decide⟩
        · simp [h1, h2, h3, h4] at h
theorem knd_sgn {k : Int} (h : k = 4 ∨ k = 5 ∨ k = 7 ∨ k = 8) : kndAt (sgn k) = k := by
  rcases h with rfl | rfl | rfl | rfl <;> decide
theorem prs_ok {s : List UInt8} : ∀ (m i : Nat) {t : Fm} {j : Nat}, prs s m i = .ok (t, j) → j = i + t.show.length ∧ Stands s i t.show ∧ t.ok ∧ j ≤ s.length
  | 0, i, t, j, h => by cases h
  | m + 1, i, t, j, h => by
    unfold prs at h
    split at h
    · cases h
    · rename_i hi
      split at h
      · split at h
        · cases h
        · rename_i j' hn
          obtain ⟨rfl, rfl⟩ : Fm.tt = t ∧ j' = j := by simpa using h
          obtain ⟨h1, h2⟩ := needs_ok.1 hn
          exact ⟨h1, h2, trivial, by have := h2.le (by omega); rw [h1]; exact this⟩
      · split at h
        · rename_i hc
          split at h
          · rename_i hd
            obtain ⟨rfl, rfl⟩ : _ = t ∧ _ = j := by simpa using h
            obtain ⟨d1, d2, d3⟩ := hd
            have d2' : 48 ≤ (chr s (i + 1)).toNat := d2
            have d3' : (chr s (i + 1)).toNat ≤ 57 := d3
            refine ⟨rfl, ?_, ⟨by omega, by omega⟩, by omega⟩
            rw [Fm.show, Stands.cons]
            refine ⟨by omega, hc, ?_⟩
            rw [Stands.one]
            exact ⟨d1, (digit_back d2 d3).symm⟩
          · cases h
        · split at h
          · rename_i hc
            split at h
            · cases h
            · rename_i a j' hp
              obtain ⟨rfl, rfl⟩ : _ = t ∧ j' = j := by simpa using h
              obtain ⟨h1, h2, h3, h4⟩ := prs_ok m _ hp
              refine ⟨by rw [h1, Fm.show, List.length_cons]; omega, ?_, h3, h4⟩
              rw [Fm.show, Stands.cons]
              exact ⟨by omega, hc, h2⟩
          · split at h
            · rename_i hc
              split at h
              · cases h
              · rename_i a j' hp
                obtain ⟨rfl, rfl⟩ : _ = t ∧ j' = j := by simpa using h
                obtain ⟨h1, h2, h3, h4⟩ := prs_ok m _ hp
                refine ⟨by rw [h1, Fm.show, List.length_cons]; omega, ?_, h3, h4⟩
                rw [Fm.show, Stands.cons]
                exact ⟨by omega, hc, h2⟩
            · split at h
              · rename_i hc
                split at h
                · cases h
                · rename_i a j1 hp1
                  split at h
                  · cases h
                  · rename_i j2 hn1
                    split at h
                    · rename_i hk
                      split at h
                      · cases h
                      · rename_i j3 hn2
                        split at h
                        · cases h
                        · rename_i b j4 hp2
                          split at h
                          · cases h
                          · rename_i j5 hn3
                            obtain ⟨rfl, rfl⟩ : _ = t ∧ j5 = j := by simpa using h
                            obtain ⟨a1, a2, a3, a4⟩ := prs_ok m _ hp1
                            obtain ⟨b1, b2, b3, b4⟩ := prs_ok m _ hp2
                            obtain ⟨n1, m1⟩ := needs_ok.1 hn1
                            obtain ⟨n2, m2⟩ := needs_ok.1 hn2
                            obtain ⟨n3, m3⟩ := needs_ok.1 hn3
                            obtain ⟨k1, k2⟩ := sgn_knd hk.2
                            have hle := m3.le b4
                            simp only [List.length_cons, List.length_nil, Nat.zero_add] at n1 n2 n3 hle
                            refine ⟨?_, ?_, ⟨k2, a3, b3⟩, by omega⟩
                            · rw [Fm.show, List.length_cons]
                              simp only [List.length_append, List.length_cons, List.length_nil]
                              omega
                            · rw [Fm.show, Stands.cons]
                              refine ⟨by omega, hc, ?_⟩
                              rw [Stands.app, Stands.app, Stands.app, Stands.cons, Stands.cons]
                              simp only [List.length_append, List.length_cons, List.length_nil]
                              rw [← a1]
                              refine ⟨⟨⟨a2, (Stands.one.1 m1).1, (Stands.one.1 m1).2, by omega, by rw [k1, ← n1], ?_⟩, ?_⟩, ?_⟩
                              · rw [← n1]; exact m2
                              · rw [show i + 1 + (a.show.length + (0 + 1 + 1 + 1)) = j3 by omega]
                                exact b2
                              · rw [show i + 1 + (a.show.length + (0 + 1 + 1 + 1) + b.show.length) = j4 by omega]
                                exact m3
                    · cases h
              · cases h
theorem prs_show {s : List UInt8} (t : Fm) (ht : t.ok) : ∀ (m i : Nat), s.length - i < m → i ≤ s.length → Stands s i t.show → prs s m i = .ok (t, i + t.show.length) := by
  induction t with
  | tt =>
    intro m i hm hi hs
    obtain ⟨m, rfl⟩ : ∃ k, m = k + 1 := ⟨m - 1, by omega⟩
    have h0 := (Stands.cons.1 hs)
    unfold prs
    have hn : needs s [116, 114, 117, 101] i = .ok (i + 4) := needs_ok.2 ⟨rfl, hs⟩
    rw [if_neg (by omega), if_pos h0.2.1, hn]
    rfl
  | pr n =>
    intro m i hm hi hs
    obtain ⟨m, rfl⟩ : ∃ k, m = k + 1 := ⟨m - 1, by omega⟩
    have h0 := (Stands.cons.1 hs)
    have h1 := Stands.one.1 h0.2.2
    have hn : n.toNat ≤ 9 := by have := ht.2; omega
    have hd := digit_ofNat hn
    unfold prs
    rw [if_neg (by omega), if_neg (by rw [h0.2.1]; decide), if_pos h0.2.1, h1.2]
    have e1 : (48 : UInt8) ≤ UInt8.ofNat (48 + n.toNat) := by rw [UInt8.le_iff_toNat_le, hd]; show 48 ≤ _; omega
    have e2 : UInt8.ofNat (48 + n.toNat) ≤ (57 : UInt8) := by rw [UInt8.le_iff_toNat_le, hd]; show _ ≤ 57; omega
    rw [if_pos ⟨h1.1, e1, e2⟩, hd]
    have := ht.1
    simp [Fm.show]
    omega
  | no a ih =>
    intro m i hm hi hs
    obtain ⟨m, rfl⟩ : ∃ k, m = k + 1 := ⟨m - 1, by omega⟩
    have h0 := (Stands.cons.1 hs)
    unfold prs
    rw [if_neg (by omega), if_neg (by rw [h0.2.1]; decide), if_neg (by rw [h0.2.1]; decide), if_pos h0.2.1, ih ht m (i + 1) (by omega) (by omega) h0.2.2]
    simp [Fm.show]
    omega
  | nx a ih =>
    intro m i hm hi hs
    obtain ⟨m, rfl⟩ : ∃ k, m = k + 1 := ⟨m - 1, by omega⟩
    have h0 := (Stands.cons.1 hs)
    unfold prs
    rw [if_neg (by omega), if_neg (by rw [h0.2.1]; decide), if_neg (by rw [h0.2.1]; decide), if_neg (by rw [h0.2.1]; decide), if_pos h0.2.1, ih ht m (i + 1) (by omega) (by omega) h0.2.2]
    simp [Fm.show]
    omega
  | bi k a b iha ihb =>
    intro m i hm hi hs
    obtain ⟨m, rfl⟩ : ∃ k, m = k + 1 := ⟨m - 1, by omega⟩
    obtain ⟨h0, h1, h2⟩ := (Stands.cons.1 hs)
    rw [Stands.app, Stands.app, Stands.app, Stands.cons, Stands.cons, Stands.one] at h2
    obtain ⟨⟨⟨ha, hsp, hsp2, hk1, hk2, hsp3, hsp4⟩, hb⟩, hc⟩ := h2
    simp only [List.length_append, List.length_cons, List.length_nil] at hb hc
    have hle := hc.le (by have := hb.le (by omega); omega)
    simp only [List.length_cons, List.length_nil] at hle
    unfold prs
    rw [if_neg (by omega), if_neg (by rw [h1]; decide), if_neg (by rw [h1]; decide), if_neg (by rw [h1]; decide), if_neg (by rw [h1]; decide), if_pos h1, iha ht.2.1 m (i + 1) (by omega) (by omega) ha]
    have n1 : needs s [32] (i + 1 + a.show.length) = .ok (i + 1 + a.show.length + 1) := needs_ok.2 ⟨rfl, Stands.one.2 ⟨hsp, hsp2⟩⟩
    have n2 : needs s [32] (i + 1 + a.show.length + 1 + 1) = .ok (i + 1 + a.show.length + 1 + 1 + 1) := needs_ok.2 ⟨rfl, Stands.one.2 ⟨hsp3, hsp4⟩⟩
    have e1 : i + 1 + a.show.length + 1 + 1 + 1 = i + 1 + (a.show.length + (0 + 1 + 1 + 1)) := by omega
    have kk : kndAt (chr s (i + 1 + a.show.length + 1)) = k := by rw [hk2]; exact knd_sgn ht.1
    have pb := ihb ht.2.2 m (i + 1 + a.show.length + 1 + 1 + 1) (by omega) (by omega) (by rw [e1]; exact hb)
    have n3 : needs s [41] (i + 1 + a.show.length + 1 + 1 + 1 + b.show.length) = .ok (i + 1 + a.show.length + 1 + 1 + 1 + b.show.length + 1) := needs_ok.2 ⟨rfl, by rw [e1]; rw [show i + 1 + (a.show.length + (0 + 1 + 1 + 1)) + b.show.length = i + 1 + (a.show.length + (0 + 1 + 1 + 1) + b.show.length) by omega]; exact hc⟩
    have hk0 : k ≠ 0 := by have := ht.1; omega
    simp only [n1, kk, hk1, n2, pb, n3, ne_eq, hk0, not_false_eq_true, and_self, if_true]
    simp [Fm.show]
    omega
def opp (k : Int) : Int := if k = 4 then 5 else if k = 5 then 4 else if k = 7 then 8 else if k = 8 then 7 else k
def Fm.neg : Fm → Bool → Fm
  | .tt, b => if b then .no .tt else .tt
  | .pr n, b => if b then .no (.pr n) else .pr n
  | .no a, b => a.neg (!b)
  | .nx a, b => .nx (a.neg b)
  | .bi k x y, b => .bi (if b then opp k else k) (x.neg b) (y.neg b)
def Fm.negV : Fm → Bool → List Nd → List Nd
  | .tt, b, o => if tooMany o = true then o else if b then o ++ [⟨1, 0, 0, 0⟩] ++ [⟨3, ((o ++ [(⟨1, 0, 0, 0⟩ : Nd)]).length : Int) - 1, 0, 0⟩] else o ++ [⟨1, 0, 0, 0⟩]
  | .pr n, b, o => if tooMany o = true then o else if b then o ++ [⟨2, 0, 0, n⟩] ++ [⟨3, ((o ++ [(⟨2, 0, 0, n⟩ : Nd)]).length : Int) - 1, 0, 0⟩] else o ++ [⟨2, 0, 0, n⟩]
  | .no a, b, o => if tooMany o = true then o else a.negV (!b) o
  | .nx a, b, o => if tooMany o = true then o else a.negV b o ++ [⟨6, ((a.negV b o).length : Int) - 1, 0, 0⟩]
  | .bi k x y, b, o => if tooMany o = true then o else y.negV b (x.negV b o) ++ [⟨if b then opp k else k, ((x.negV b o).length : Int) - 1, ((y.negV b (x.negV b o)).length : Int) - 1, 0⟩]
theorem cntT_app (f g : List Nd) : cntT (f ++ g) = cntT f + cntT g := by simp [cntT]
theorem tooMany_app {f : List Nd} (g : List Nd) (h : tooMany f = true) : tooMany (f ++ g) = true := by
  unfold tooMany at *
  rw [cntT_app, List.length_append]
  simp only [Bool.or_eq_true, decide_eq_true_eq] at *
  omega
theorem tooMany_of_pre {f : List Nd} (g : List Nd) (h : tooMany (f ++ g) = false) : tooMany f = false := by
  cases e : tooMany f with
  | false => rfl
  | true => rw [tooMany_app g e] at h; cases h
theorem Fm.negV_pre (t : Fm) : ∀ b o, ∃ r, t.negV b o = o ++ r := by
  induction t with
  | tt => intro b o; unfold Fm.negV; split; exact ⟨[], by simp⟩; split; exact ⟨_, List.append_assoc _ _ _⟩; exact ⟨_, rfl⟩
  | pr n => intro b o; unfold Fm.negV; split; exact ⟨[], by simp⟩; split; exact ⟨_, List.append_assoc _ _ _⟩; exact ⟨_, rfl⟩
  | no a ih => intro b o; unfold Fm.negV; split; exact ⟨[], by simp⟩; exact ih _ _
  | nx a ih =>
    intro b o
    unfold Fm.negV
    split
    · exact ⟨[], by simp⟩
    · obtain ⟨r, h⟩ := ih b o
      exact ⟨r ++ [⟨6, ((a.negV b o).length : Int) - 1, 0, 0⟩], by rw [← List.append_assoc, ← h]⟩
  | bi k x y ihx ihy =>
    intro b o
    unfold Fm.negV
    split
    · exact ⟨[], by simp⟩
    · obtain ⟨r, h⟩ := ihx b o
      obtain ⟨r', h'⟩ := ihy b (x.negV b o)
      exact ⟨r ++ (r' ++ [⟨if b then opp k else k, ((x.negV b o).length : Int) - 1, ((y.negV b (x.negV b o)).length : Int) - 1, 0⟩]), by rw [← List.append_assoc, ← h, ← List.append_assoc, ← h']⟩
theorem Fm.negV_few (t : Fm) : ∀ b o, tooMany (t.negV b o) = false → t.negV b o = (t.neg b).flat o := by
  induction t with
  | tt =>
    intro b o h
    have h0 : tooMany o = false := by obtain ⟨r, hr⟩ := Fm.negV_pre .tt b o; rw [hr] at h; exact tooMany_of_pre _ h
    unfold Fm.negV
    rw [if_neg (by simp [h0])]
    cases b <;> rfl
  | pr n =>
    intro b o h
    have h0 : tooMany o = false := by obtain ⟨r, hr⟩ := Fm.negV_pre (.pr n) b o; rw [hr] at h; exact tooMany_of_pre _ h
    unfold Fm.negV
    rw [if_neg (by simp [h0])]
    cases b <;> rfl
  | no a ih =>
    intro b o h
    have h0 : tooMany o = false := by obtain ⟨r, hr⟩ := Fm.negV_pre (.no a) b o; rw [hr] at h; exact tooMany_of_pre _ h
    unfold Fm.negV at h ⊢
    rw [if_neg (by simp [h0])] at h ⊢
    exact ih _ _ h
  | nx a ih =>
    intro b o h
    have h0 : tooMany o = false := by obtain ⟨r, hr⟩ := Fm.negV_pre (.nx a) b o; rw [hr] at h; exact tooMany_of_pre _ h
    unfold Fm.negV at h ⊢
    rw [if_neg (by simp [h0])] at h ⊢
    have := ih b o (tooMany_of_pre _ h)
    rw [this]
    rfl
  | bi k x y ihx ihy =>
    intro b o h
    have h0 : tooMany o = false := by obtain ⟨r, hr⟩ := Fm.negV_pre (.bi k x y) b o; rw [hr] at h; exact tooMany_of_pre _ h
    unfold Fm.negV at h ⊢
    rw [if_neg (by simp [h0])] at h ⊢
    have hy := tooMany_of_pre _ h
    have hx : tooMany (x.negV b o) = false := by
      obtain ⟨r, hr⟩ := Fm.negV_pre y b (x.negV b o)
      rw [hr] at hy
      exact tooMany_of_pre _ hy
    have e2 := ihy b _ hy
    have e1 := ihx b o hx
    rw [e2, e1]
    rfl
end Go.Proofs.YtoglgeaiiipchabGreatDoor
