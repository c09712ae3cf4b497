/- Plain: what a formula says of an endless word; the table says so of a lasso; opposites. -/
import Derived.Test.YtoglgeaiiipchaaDoorPT2
import Derived.Test.YtoglgeaiiipchaaDoorPG2
namespace Go.Proofs.YtoglgeaiiipchaaDoor

def Fm.sem (u : Nat → Int) : Fm → Nat → Prop
  | .tt, _ => True
  | .pr n, i => bitOf (u i) n.toNat = true
  | .no a, i => ¬ a.sem u i
  | .nx a, i => a.sem u (i + 1)
  | .bi k a b, i =>
    if k = 4 then a.sem u i ∧ b.sem u i
    else if k = 5 then a.sem u i ∨ b.sem u i
    else if k = 7 then ∃ j, i ≤ j ∧ b.sem u j ∧ ∀ m, i ≤ m → m < j → a.sem u m
    else ∀ j, i ≤ j → b.sem u j ∨ ∃ m, i ≤ m ∧ m < j ∧ a.sem u m
theorem Fm.sem_neg {u : Nat → Int} (t : Fm) (ht : t.ok) : ∀ b i, (t.neg b).sem u i ↔ (if b = true then ¬ t.sem u i else t.sem u i) := by
  induction t with
  | tt => intro b i; cases b <;> simp [Fm.neg, Fm.sem]
  | pr n => intro b i; cases b <;> simp [Fm.neg, Fm.sem]
  | no a ih => intro b i; rw [Fm.neg, ih ht]; cases b <;> simp [Fm.sem]
  | nx a ih => intro b i; simp only [Fm.neg, Fm.sem]; exact ih ht b (i + 1)
  | bi k x y ihx ihy =>
    intro b i
    obtain ⟨hk, hx, hy⟩ := ht
    have ihx := ihx hx b
    have ihy := ihy hy b
    simp only [Fm.neg]
    cases b with
    | false =>
      simp only [Bool.false_eq_true, if_false] at ihx ihy ⊢
      simp only [Fm.sem, ihx, ihy]
    | true =>
      simp only [if_true] at ihx ihy ⊢
      rcases hk with rfl | rfl | rfl | rfl
      · simp only [Fm.sem, opp, ihx, ihy, show ¬ (5 : Int) = 4 by decide, if_true, if_false]
        by_cases h1 : x.sem u i <;> by_cases h2 : y.sem u i <;> simp [h1, h2]
      · simp only [Fm.sem, opp, ihx, ihy, show ¬ (5 : Int) = 4 by decide, if_true, if_false]
        by_cases h1 : x.sem u i <;> by_cases h2 : y.sem u i <;> simp [h1, h2]
      · simp only [Fm.sem, opp, ihx, ihy, show ¬ (7 : Int) = 4 by decide, show ¬ (7 : Int) = 5 by decide, show ¬ (8 : Int) = 4 by decide, show ¬ (8 : Int) = 5 by decide, show ¬ (8 : Int) = 7 by decide, if_true, if_false]
        constructor
        · rintro h ⟨j, h1, h2, h3⟩
          rcases h j h1 with h4 | ⟨m, m1, m2, m3⟩
          · exact h4 h2
          · exact m3 (h3 m m1 m2)
        · intro h j hj
          apply Classical.byContradiction
          intro hn
          simp only [not_or, Classical.not_not, not_exists, not_and] at hn
          exact h ⟨j, hj, hn.1, hn.2⟩
      · simp only [Fm.sem, opp, ihx, ihy, show ¬ (8 : Int) = 4 by decide, show ¬ (8 : Int) = 5 by decide, show ¬ (8 : Int) = 7 by decide, show ¬ (7 : Int) = 4 by decide, show ¬ (7 : Int) = 5 by decide, if_true, if_false]
        constructor
        · rintro ⟨j, h1, h2, h3⟩ h
          rcases h j h1 with h4 | ⟨m, m1, m2, m3⟩
          · exact h2 h4
          · exact h3 m m1 m2 m3
        · intro h
          apply Classical.byContradiction
          intro hn
          apply h
          intro j hj
          apply Classical.byContradiction
          intro hn2
          simp only [not_or, not_exists, not_and] at hn2
          exact hn ⟨j, hj, hn2.1, fun m m1 m2 => hn2.2 m m1 m2⟩

theorem btw_false' {n a b : Int} : btw n a b = false ↔ ¬ (a ≤ n ∧ n ≤ b) := by
  rw [← btw_iff]; simp
/-- a formula that Check lets by -/
structure FmOK (f : List Nd) : Prop where
  pos : 0 < f.length
  few : tooMany f = false
  nd : ∀ i, (h : i < f.length) → ndErr f[i] i = 0
theorem ckNds_zero {f : List Nd} : ∀ (m k : Nat), f.length ≤ k + m → ckNds (f.drop k) k = 0 → ∀ i, k ≤ i → (h : i < f.length) → ndErr f[i] i = 0
  | 0, k, hm, _, i, h1, h2 => absurd h2 (by omega)
  | m + 1, k, hm, h, i, h1, h2 => by
    have hk : k < f.length := by omega
    rw [ckNds_step hk] at h
    split at h
    · rename_i h0
      rcases Nat.eq_or_lt_of_le h1 with rfl | h3
      · exact h0
      · exact ckNds_zero m (k + 1) (by omega) h i h3 h2
    · rename_i h0; exact absurd h h0
theorem ckNds_of {f : List Nd} (h : ∀ i, (h : i < f.length) → ndErr f[i] i = 0) : ∀ (m k : Nat), f.length ≤ k + m → ckNds (f.drop k) k = 0
  | 0, k, hm => ckNds_end (by omega)
  | m + 1, k, hm => by
    rcases Nat.lt_or_ge k f.length with hk | hk
    · rw [ckNds_step hk, if_pos (h k hk)]
      exact ckNds_of h m (k + 1) (by omega)
    · exact ckNds_end hk
theorem ckF_zero {f : List Nd} : ckF f = 0 ↔ FmOK f := by
  unfold ckF
  constructor
  · intro h
    split at h
    · cases h
    · rename_i h0
      split at h
      · cases h
      · rename_i h1
        exact ⟨by omega, by simpa using h1, fun i hi => ckNds_zero f.length 0 (by omega) (by simpa using h) i (Nat.zero_le _) hi⟩
  · rintro ⟨h0, h1, h2⟩
    rw [if_neg (by omega), if_neg (by simp [h1])]
    exact ckNds_of h2 f.length 0 (by omega)
/-- what is right with a node -/
structure NdOK (x : Nd) (i : Int) : Prop where
  k : 1 ≤ x.k ∧ x.k ≤ 8
  a : 3 ≤ x.k → 0 ≤ x.a ∧ x.a < i
  b : (x.k = 4 ∨ x.k = 5 ∨ x.k = 7 ∨ x.k = 8) → 0 ≤ x.b ∧ x.b < i
  n : x.k = 2 → 0 ≤ x.n ∧ x.n ≤ 2
  a0 : x.k < 3 → x.a = 0
  b0 : ¬ (x.k = 4 ∨ x.k = 5 ∨ x.k = 7 ∨ x.k = 8) → x.b = 0
  n0 : x.k ≠ 2 → x.n = 0
theorem ndErr_zero {x : Nd} {i : Int} : ndErr x i = 0 ↔ NdOK x i := by
  unfold ndErr
  constructor
  · intro h
    split at h
    · cases h
    · rename_i h1
      split at h
      · cases h
      · rename_i h2
        split at h
        · cases h
        · rename_i h3
          split at h
          · cases h
          · rename_i h4
            simp only [Bool.not_eq_false, btw_iff, nmA, nmB, nmN, Bool.or_eq_true, Bool.and_eq_true, Bool.not_eq_true', btw_false', beq_iff_eq, bne_iff_ne, ne_eq, beq_eq_false_iff_ne, Bool.or_eq_false_iff] at h1 h2 h3 h4
            refine ⟨Classical.not_not.1 h1, ?_, ?_, ?_, ?_, ?_, ?_⟩ <;> intros <;> omega
  · rintro ⟨h1, h2, h3, h4, h5, h6, h7⟩
    rw [if_neg, if_neg, if_neg, if_neg]
    all_goals
      simp only [Bool.not_eq_false, btw_iff, nmA, nmB, nmN, Bool.or_eq_true, Bool.and_eq_true, Bool.not_eq_true', btw_false', beq_iff_eq, bne_iff_ne, ne_eq, beq_eq_false_iff_ne, Bool.or_eq_false_iff]
      omega
theorem treeAt_ok {f : List Nd} (hf : FmOK f) : ∀ i, i < f.length → (treeAt f i).ok := by
  intro i
  induction i using Nat.strongRecOn with
  | _ i ih =>
    intro hi
    have hx := ndErr_zero.1 (hf.nd i hi)
    have e : f.getD i nond = f[i] := by rw [List.getD_eq_getElem?_getD, List.getElem?_eq_getElem hi]; rfl
    unfold treeAt treeN
    rw [e]
    generalize f[i] = x at hx
    have ha : 3 ≤ x.k → ((treesOf f i).getD x.a.toNat .tt).ok := fun h => by
      have := hx.a h
      rw [treesOf_get _ _ _ (by omega)]
      exact ih _ (by omega) (by omega)
    have hk := hx.k
    split
    · trivial
    · split
      · rename_i h2
        have := hx.n h2
        exact ⟨this.1, by omega⟩
      · split
        · exact ha (by omega)
        · split
          · exact ha (by omega)
          · have h4 : x.k = 4 ∨ x.k = 5 ∨ x.k = 7 ∨ x.k = 8 := by omega
            have := hx.b h4
            refine ⟨h4, ha (by omega), ?_⟩
            rw [treesOf_get _ _ _ (by omega)]
            exact ih _ (by omega) (by omega)
end Go.Proofs.YtoglgeaiiipchaaDoor
