/- Plain: what is printed is parsed to what prints so, if it is not too great; what is parsed prints as it was read. -/
import Derived.Test.YtoglgeaiiipchaaDoorFT
namespace Go.Proofs.YtoglgeaiiipchaaDoor

/-- a tree whose propositions are numbered as they may be -/
def Fm.okS : Fm → Prop
  | .tt => True
  | .pr n => 0 ≤ n ∧ n ≤ 2
  | .no a => a.okS
  | .nx a => a.okS
  | .bi k a b => (k = 4 ∨ k = 5 ∨ k = 7 ∨ k = 8) ∧ a.okS ∧ b.okS
theorem Fm.okS_ok {t : Fm} (h : t.okS) : t.ok := by
  induction t with
  | tt => trivial
  | pr n => exact ⟨h.1, by have := h.2; omega⟩
  | no a ih => exact ih h
  | nx a ih => exact ih h
  | bi k a b iha ihb => exact ⟨h.1, iha h.2.1, ihb h.2.2⟩
theorem treeAt_okS {f : List Nd} (ho : FmOK f) : ∀ (i : Nat), i < f.length → (treeAt f i).okS := by
  intro i
  induction i using Nat.strongRecOn with
  | _ i ih =>
    intro hi
    have hok := nd_ok (ho.nd i hi)
    rw [treeAt_eq hi _ rfl]
    generalize f[i] = x at *
    obtain ⟨h1, h8, ha, hb, hn⟩ := hok
    unfold treeN
    split
    · trivial
    · split
      · rename_i hk
        exact hn hk
      · split
        · rename_i hk
          have hA := ha (by rw [hk]; decide)
          rw [kid hA]
          exact ih x.a.toNat (by omega) (by omega)
        · split
          · rename_i hk
            have hA := ha (by rw [hk]; decide)
            rw [kid hA]
            exact ih x.a.toNat (by omega) (by omega)
          · have hk : x.k = 4 ∨ x.k = 5 ∨ x.k = 7 ∨ x.k = 8 := by omega
            have hA := ha (by rcases hk with h | h | h | h <;> rw [h] <;> decide)
            have hB := hb (by rcases hk with h | h | h | h <;> rw [h] <;> decide)
            rw [kid hA, kid hB]
            exact ⟨hk, ih x.a.toNat (by omega) (by omega), ih x.b.toNat (by omega) (by omega)⟩
/-- every node is as it must be -/
def AllOk (o : List Nd) : Prop := ∀ i, (h : i < o.length) → ndErr o[i] i = 0
theorem AllOk.snoc {o : List Nd} {x : Nd} (h : AllOk o) (hx : ndErr x o.length = 0) : AllOk (o ++ [x]) := by
  intro i hi
  simp at hi
  rcases Nat.lt_or_ge i o.length with h1 | h1
  · rw [List.getElem_append_left h1]
    exact h i h1
  · obtain rfl : i = o.length := by omega
    simpa using hx
theorem btw_t {n a b : Int} (h1 : a ≤ n) (h2 : n ≤ b) : btw n a b = true := (btw_iff _ _ _).2 ⟨h1, h2⟩
theorem flat_ok {t : Fm} (ht : t.okS) : ∀ o, AllOk o → AllOk (t.flat o) := by
  induction t with
  | tt => intro o h; exact h.snoc (by simp [ndErr, btw, nmA, nmB, nmN])
  | pr n =>
    intro o h
    refine h.snoc ?_
    have h1 := ht.1
    have h2 := ht.2
    simp [ndErr, btw, nmA, nmB, nmN, h1, h2]
  | no a ih =>
    intro o h
    have h1 := a.flat_len o
    have h2 := a.size_pos
    refine (ih ht o h).snoc ?_
    have h3 : (0 : Int) ≤ ((a.flat o).length : Int) - 1 := by omega
    simp [ndErr, btw, nmA, nmB, nmN, h3]
    omega
  | nx a ih =>
    intro o h
    have h1 := a.flat_len o
    have h2 := a.size_pos
    refine (ih ht o h).snoc ?_
    have h3 : (0 : Int) ≤ ((a.flat o).length : Int) - 1 := by omega
    simp [ndErr, btw, nmA, nmB, nmN, h3]
    omega
  | bi k x y ihx ihy =>
    intro o h
    have h1 := x.flat_len o
    have h2 := x.size_pos
    have h3 := y.flat_len (x.flat o)
    have h4 := y.size_pos
    refine (ihy ht.2.2 _ (ihx ht.2.1 o h)).snoc ?_
    have h5 : (0 : Int) ≤ ((x.flat o).length : Int) - 1 := by omega
    have h6 : (0 : Int) ≤ ((y.flat (x.flat o)).length : Int) - 1 := by omega
    have h7 : ((x.flat o).length : Int) - 1 ≤ ((y.flat (x.flat o)).length : Int) - 1 := by omega
    rcases ht.1 with rfl | rfl | rfl | rfl <;> simp [ndErr, btw, nmA, nmB, nmN, h5, h6, h7] <;> omega
/-- nodes of a good tree are good, or too many -/
theorem ckF_flat {t : Fm} (ht : t.okS) : ckF (t.flat []) = 0 ∨ ckF (t.flat []) = 2 := by
  have h1 := t.flat_len []
  have h2 := t.size_pos
  have ha := flat_ok ht [] (fun i h => absurd h (by simp))
  by_cases hm : tooMany (t.flat []) = true
  · refine .inr ?_
    unfold ckF
    rw [if_neg (by simp at h1; omega), if_pos hm]
  · refine .inl (ckF_zero.2 ⟨by simp at h1; omega, by simpa using hm, ha⟩)
theorem print_flat {t : Fm} (ht : t.ok) (hc : ckF (t.flat []) = 0) : printV (t.flat []) = t.show := by
  have h1 := t.flat_len []
  have h2 := t.size_pos
  unfold printV
  rw [if_pos hc]
  have := treeAt_flat t ht []
  rw [show ([] : List Nd).length + t.size - 1 = (t.flat []).length - 1 by rw [h1]] at this
  rw [this]
theorem parseV_show {t : Fm} (ht : t.ok) : parseV t.show = (t.flat [], 0, 0) := by
  unfold parseV
  have := prs_show t ht (t.show.length + 1) 0 (s := t.show) (by omega) (by omega) ⟨[], by simp⟩
  rw [this]
  simp
/-- what is printed is parsed to what prints so, or is too great -/
theorem back_print {f : List Nd} (hc : ckF f = 0) : (readV (printV f)).2.2 = 0 ∧ ckF (readV (printV f)).1 = 0 ∧ printV (readV (printV f)).1 = printV f ∨ (readV (printV f)).2.2 = 2 := by
  have ho := ckF_zero.1 hc
  have hlt : f.length - 1 < f.length := by have := ho.pos; omega
  have hs := treeAt_okS ho _ hlt
  have hp : printV f = (treeAt f (f.length - 1)).show := by unfold printV; rw [if_pos hc]
  rw [hp]
  generalize treeAt f (f.length - 1) = t at *
  have hok := Fm.okS_ok hs
  unfold readV
  rw [parseV_show hok]
  split
  · exact .inr rfl
  · simp only [if_true]
    rcases ckF_flat hs with h | h
    · rw [if_pos h]
      exact .inl ⟨rfl, h, print_flat hok h⟩
    · rw [if_neg (by rw [h]; decide)]
      exact .inr h
/-- what is parsed prints as it was read; else nothing comes -/
theorem back_parse (s : List UInt8) : (readV s).2.2 = 0 ∧ ckF (readV s).1 = 0 ∧ printV (readV s).1 = s ∨ (readV s).2.2 ≠ 0 ∧ (readV s).1 = [] := by
  unfold readV
  split
  · exact .inr ⟨by decide, rfl⟩
  · split
    · split
      · rename_i h0 hc
        refine .inl ⟨rfl, hc, ?_⟩
        unfold parseV at hc h0 ⊢
        cases hr : prs s (s.length + 1) 0 with
        | error j => rw [hr] at h0; simp at h0
        | ok q =>
          obtain ⟨t, j⟩ := q
          rw [hr] at hc h0
          simp only at hc h0 ⊢
          split at h0
          · simp at h0
          · rename_i hj
            rw [if_neg hj] at hc ⊢
            obtain ⟨h1, ⟨r, h2⟩, h3, h4⟩ := prs_ok _ _ hr
            show printV (t.flat []) = s
            rw [print_flat h3 hc]
            have hlen := congrArg List.length h2
            simp at hlen h2
            have : r = [] := List.eq_nil_of_length_eq_zero (by omega)
            rw [h2, this]
            simp
      · rename_i h0 hc
        exact .inr ⟨hc, rfl⟩
    · exact .inr ⟨by simp, rfl⟩
end Go.Proofs.YtoglgeaiiipchaaDoor
