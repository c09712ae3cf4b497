/- Plain: the table of a lasso says what the formula says of its word. -/
import Derived.Test.YtoglgeaiiipchabLTTM8
import Derived.Test.YtoglgeaiiipchabLTTM2
set_option linter.unusedSimpArgs false
set_option linter.unusedVariables false
namespace Go.Proofs.Ytoglgeaiiipchab

/-- a word stands in a text at a place -/
def Stands (s : List UInt8) (i : Nat) (w : List UInt8) : Prop := ∃ r, s.drop i = w ++ r
theorem Stands.app {s : List UInt8} {i : Nat} {v w : List UInt8} : Stands s i (v ++ w) ↔ Stands s i v ∧ Stands s (i + v.length) w := by
  constructor
  · rintro ⟨r, h⟩
    refine ⟨⟨w ++ r, by rw [h, List.append_assoc]⟩, ⟨r, ?_⟩⟩
    rw [← List.drop_drop, h, List.append_assoc, List.drop_left]
  · rintro ⟨⟨r, h⟩, ⟨r', h'⟩⟩
    refine ⟨r', ?_⟩
    rw [← List.drop_drop, h, List.drop_left] at h'
    rw [h, h', List.append_assoc]
theorem Stands.one {s : List UInt8} {i : Nat} {c : UInt8} : Stands s i [c] ↔ i < s.length ∧ chr s i = c := by
  unfold Stands chr
  constructor
  · rintro ⟨r, h⟩
    have hi : i < s.length := by
      rcases Nat.lt_or_ge i s.length with h1 | h1
      · exact h1
      · rw [List.drop_of_length_le h1] at h; simp at h
    refine ⟨hi, ?_⟩
    rw [List.drop_eq_getElem_cons hi] at h
    rw [List.getD_eq_getElem?_getD, List.getElem?_eq_getElem hi]
    exact (List.cons.inj h).1
  · rintro ⟨hi, h⟩
    rw [List.getD_eq_getElem?_getD, List.getElem?_eq_getElem hi] at h
    have h : s[i] = c := h
    exact ⟨s.drop (i + 1), by rw [List.drop_eq_getElem_cons hi, h]; rfl⟩
theorem Stands.cons {s : List UInt8} {i : Nat} {c : UInt8} {w : List UInt8} : Stands s i (c :: w) ↔ i < s.length ∧ chr s i = c ∧ Stands s (i + 1) w := by
  rw [show c :: w = [c] ++ w from rfl, Stands.app, Stands.one, and_assoc]
  rfl
theorem Stands.nil {s : List UInt8} {i : Nat} : Stands s i [] := ⟨s.drop i, rfl⟩
theorem Stands.le {s : List UInt8} {i : Nat} {w : List UInt8} (h : Stands s i w) (hi : i ≤ s.length) : i + w.length ≤ s.length := by
  obtain ⟨r, h⟩ := h
  have := congrArg List.length h
  simp at this
  omega
theorem needs_ok {s : List UInt8} : ∀ {w : List UInt8} {i j : Nat}, needs s w i = .ok j ↔ j = i + w.length ∧ Stands s i w
  | [], i, j => by
    simp only [needs, Except.ok.injEq, List.length_nil, Nat.add_zero]
    exact ⟨fun h => ⟨h.symm, Stands.nil⟩, fun h => h.1.symm⟩
  | c :: w, i, j => by
    unfold needs
    rw [Stands.cons]
    by_cases h : i < s.length ∧ chr s i = c
    · rw [if_pos h, needs_ok]
      simp only [h, List.length_cons, true_and]
      constructor
      · rintro ⟨rfl, h2⟩; exact ⟨by omega, h2⟩
      · rintro ⟨rfl, h2⟩; exact ⟨by omega, h2⟩
    · rw [if_neg h]
      constructor
      · intro h'; cases h'
      · rintro ⟨_, h1, h2, _⟩; exact absurd ⟨h1, h2⟩ h
theorem digit_ofNat {n : Nat} (h : n ≤ 9) : (UInt8.ofNat (48 + n)).toNat = 48 + n := by
  simp
  omega
theorem digit_back {c : UInt8} (h1 : 48 ≤ c) (h2 : c ≤ 57) : UInt8.ofNat (48 + ((c.toNat : Int) - 48).toNat) = c := by
  have h1 : 48 ≤ c.toNat := h1
  have h2 : c.toNat ≤ 57 := h2
  apply UInt8.toNat_inj.1
  simp
  omega
theorem sgn_knd {c : UInt8} (h : kndAt c ≠ 0) : sgn (kndAt c) = c ∧ (kndAt c = 4 ∨ kndAt c = 5 ∨ kndAt c = 7 ∨ kndAt c = 8) := by
  unfold kndAt at *
  by_cases h1 : c = 38
  · subst h1; exact ⟨rfl, by decide⟩
  · by_cases h2 : c = 124
    · subst h2; exact ⟨rfl, by decide⟩
    · by_cases h3 : c = 85
      · subst h3; exact ⟨rfl, by decide⟩
      · by_cases h4 : c = 82
        · subst h4; exact ⟨rfl, by decide⟩
        · simp [h1, h2, h3, h4] at h
theorem knd_sgn {k : Int} (h : k = 4 ∨ k = 5 ∨ k = 7 ∨ k = 8) : kndAt (sgn k) = k := by
  rcases h with rfl | rfl | rfl | rfl <;> decide
theorem chr_show (t : Fm) : ∃ c r, t.show = c :: r := by cases t <;> exact ⟨_, _, rfl⟩

/-- **what is read shows so** -/
theorem prs_ok {s : List UInt8} : ∀ (m i : Nat) {t : Fm} {j : Nat}, prs s m i = .ok (t, j) → j = i + t.show.length ∧ Stands s i t.show ∧ t.ok ∧ j ≤ s.length
  | 0, i, t, j, h => by cases h
  | m + 1, i, t, j, h => by
    unfold prs at h
    split at h
    · cases h
    · rename_i hi
      split at h
      · split at h
        · cases h
        · rename_i j' hn
          obtain ⟨rfl, rfl⟩ : Fm.tt = t ∧ j' = j := by simpa using h
          obtain ⟨h1, h2⟩ := needs_ok.1 hn
          exact ⟨h1, h2, trivial, by have := h2.le (by omega); rw [h1]; exact this⟩
      · split at h
        · rename_i hc
          split at h
          · rename_i hd
            obtain ⟨rfl, rfl⟩ : _ = t ∧ _ = j := by simpa using h
            obtain ⟨d1, d2, d3⟩ := hd
            have d2' : 48 ≤ (chr s (i + 1)).toNat := d2
            have d3' : (chr s (i + 1)).toNat ≤ 57 := d3
            refine ⟨rfl, ?_, ⟨by omega, by omega⟩, by omega⟩
            rw [Fm.show, Stands.cons]
            refine ⟨by omega, hc, ?_⟩
            rw [Stands.one]
            exact ⟨d1, (digit_back d2 d3).symm⟩
          · cases h
        · split at h
          · rename_i hc
            split at h
            · cases h
            · rename_i a j' hp
              obtain ⟨rfl, rfl⟩ : _ = t ∧ j' = j := by simpa using h
              obtain ⟨h1, h2, h3, h4⟩ := prs_ok m _ hp
              refine ⟨by rw [h1, Fm.show, List.length_cons]; omega, ?_, h3, h4⟩
              rw [Fm.show, Stands.cons]
              exact ⟨by omega, hc, h2⟩
          · split at h
            · rename_i hc
              split at h
              · cases h
              · rename_i a j' hp
                obtain ⟨rfl, rfl⟩ : _ = t ∧ j' = j := by simpa using h
                obtain ⟨h1, h2, h3, h4⟩ := prs_ok m _ hp
                refine ⟨by rw [h1, Fm.show, List.length_cons]; omega, ?_, h3, h4⟩
                rw [Fm.show, Stands.cons]
                exact ⟨by omega, hc, h2⟩
            · split at h
              · rename_i hc
                split at h
                · cases h
                · rename_i a j1 hp1
                  split at h
                  · cases h
                  · rename_i j2 hn1
                    split at h
                    · rename_i hk
                      split at h
                      · cases h
                      · rename_i j3 hn2
                        split at h
                        · cases h
                        · rename_i b j4 hp2
                          split at h
                          · cases h
                          · rename_i j5 hn3
                            obtain ⟨rfl, rfl⟩ : _ = t ∧ j5 = j := by simpa using h
                            obtain ⟨a1, a2, a3, a4⟩ := prs_ok m _ hp1
                            obtain ⟨b1, b2, b3, b4⟩ := prs_ok m _ hp2
                            obtain ⟨n1, m1⟩ := needs_ok.1 hn1
                            obtain ⟨n2, m2⟩ := needs_ok.1 hn2
                            obtain ⟨n3, m3⟩ := needs_ok.1 hn3
                            obtain ⟨k1, k2⟩ := sgn_knd hk.2
                            have hle := m3.le b4
                            simp only [List.length_cons, List.length_nil, Nat.zero_add] at n1 n2 n3 hle
                            refine ⟨?_, ?_, ⟨k2, a3, b3⟩, by omega⟩
                            · rw [Fm.show, List.length_cons]
                              simp only [List.length_append, List.length_cons, List.length_nil]
                              omega
                            · rw [Fm.show, Stands.cons]
                              refine ⟨by omega, hc, ?_⟩
                              rw [Stands.app, Stands.app, Stands.app, Stands.cons, Stands.cons]
                              simp only [List.length_append, List.length_cons, List.length_nil]
                              rw [← a1]
                              refine ⟨⟨⟨a2, (Stands.one.1 m1).1, (Stands.one.1 m1).2, by omega, by rw [k1, ← n1], ?_⟩, ?_⟩, ?_⟩
                              · rw [← n1]; exact m2
                              · rw [show i + 1 + (a.show.length + (0 + 1 + 1 + 1)) = j3 by omega]
                                exact b2
                              · rw [show i + 1 + (a.show.length + (0 + 1 + 1 + 1) + b.show.length) = j4 by omega]
                                exact m3
                    · cases h
              · cases h

/-- **what is shown is read** -/
theorem prs_show {s : List UInt8} (t : Fm) (ht : t.ok) : ∀ (m i : Nat), s.length - i < m → i ≤ s.length → Stands s i t.show → prs s m i = .ok (t, i + t.show.length) := by
  induction t with
  | tt =>
    intro m i hm hi hs
    obtain ⟨m, rfl⟩ : ∃ k, m = k + 1 := ⟨m - 1, by omega⟩
    have h0 := (Stands.cons.1 hs)
    unfold prs
    have hn : needs s [116, 114, 117, 101] i = .ok (i + 4) := needs_ok.2 ⟨rfl, hs⟩
    rw [if_neg (by omega), if_pos h0.2.1, hn]
    rfl
  | pr n =>
    intro m i hm hi hs
    obtain ⟨m, rfl⟩ : ∃ k, m = k + 1 := ⟨m - 1, by omega⟩
    have h0 := (Stands.cons.1 hs)
    have h1 := Stands.one.1 h0.2.2
    have hn : n.toNat ≤ 9 := by have := ht.2; omega
    have hd := digit_ofNat hn
    unfold prs
    rw [if_neg (by omega), if_neg (by rw [h0.2.1]; decide), if_pos h0.2.1, h1.2]
    have e1 : (48 : UInt8) ≤ UInt8.ofNat (48 + n.toNat) := by rw [UInt8.le_iff_toNat_le, hd]; show 48 ≤ _; omega
    have e2 : UInt8.ofNat (48 + n.toNat) ≤ (57 : UInt8) := by rw [UInt8.le_iff_toNat_le, hd]; show _ ≤ 57; omega
    rw [if_pos ⟨h1.1, e1, e2⟩, hd]
    have := ht.1
    simp [Fm.show]
    omega
  | no a ih =>
    intro m i hm hi hs
    obtain ⟨m, rfl⟩ : ∃ k, m = k + 1 := ⟨m - 1, by omega⟩
    have h0 := (Stands.cons.1 hs)
    unfold prs
    rw [if_neg (by omega), if_neg (by rw [h0.2.1]; decide), if_neg (by rw [h0.2.1]; decide), if_pos h0.2.1, ih ht m (i + 1) (by omega) (by omega) h0.2.2]
    simp [Fm.show]
    omega
  | nx a ih =>
    intro m i hm hi hs
    obtain ⟨m, rfl⟩ : ∃ k, m = k + 1 := ⟨m - 1, by omega⟩
    have h0 := (Stands.cons.1 hs)
    unfold prs
    rw [if_neg (by omega), if_neg (by rw [h0.2.1]; decide), if_neg (by rw [h0.2.1]; decide), if_neg (by rw [h0.2.1]; decide), if_pos h0.2.1, ih ht m (i + 1) (by omega) (by omega) h0.2.2]
    simp [Fm.show]
    omega
  | bi k a b iha ihb =>
    intro m i hm hi hs
    obtain ⟨m, rfl⟩ : ∃ k, m = k + 1 := ⟨m - 1, by omega⟩
    obtain ⟨h0, h1, h2⟩ := (Stands.cons.1 hs)
    rw [Stands.app, Stands.app, Stands.app, Stands.cons, Stands.cons, Stands.one] at h2
    obtain ⟨⟨⟨ha, hsp, hsp2, hk1, hk2, hsp3, hsp4⟩, hb⟩, hc⟩ := h2
    simp only [List.length_append, List.length_cons, List.length_nil] at hb hc
    have hle := hc.le (by have := hb.le (by omega); omega)
    simp only [List.length_cons, List.length_nil] at hle
    unfold prs
    rw [if_neg (by omega), if_neg (by rw [h1]; decide), if_neg (by rw [h1]; decide), if_neg (by rw [h1]; decide), if_neg (by rw [h1]; decide), if_pos h1, iha ht.2.1 m (i + 1) (by omega) (by omega) ha]
    have n1 : needs s [32] (i + 1 + a.show.length) = .ok (i + 1 + a.show.length + 1) := needs_ok.2 ⟨rfl, Stands.one.2 ⟨hsp, hsp2⟩⟩
    have n2 : needs s [32] (i + 1 + a.show.length + 1 + 1) = .ok (i + 1 + a.show.length + 1 + 1 + 1) := needs_ok.2 ⟨rfl, Stands.one.2 ⟨hsp3, hsp4⟩⟩
    have e1 : i + 1 + a.show.length + 1 + 1 + 1 = i + 1 + (a.show.length + (0 + 1 + 1 + 1)) := by omega
    have kk : kndAt (chr s (i + 1 + a.show.length + 1)) = k := by rw [hk2]; exact knd_sgn ht.1
    have pb := ihb ht.2.2 m (i + 1 + a.show.length + 1 + 1 + 1) (by omega) (by omega) (by rw [e1]; exact hb)
    have n3 : needs s [41] (i + 1 + a.show.length + 1 + 1 + 1 + b.show.length) = .ok (i + 1 + a.show.length + 1 + 1 + 1 + b.show.length + 1) := needs_ok.2 ⟨rfl, by rw [e1]; rw [show i + 1 + (a.show.length + (0 + 1 + 1 + 1)) + b.show.length = i + 1 + (a.show.length + (0 + 1 + 1 + 1) + b.show.length) by omega]; exact hc⟩
    have hk0 : k ≠ 0 := by have := ht.1; omega
    simp only [n1, kk, hk1, n2, pb, n3, ne_eq, hk0, not_false_eq_true, and_self, if_true]
    simp [Fm.show]
    omega

/-- the opposite of a kind -/
def opp (k : Int) : Int := if k = 4 then 5 else if k = 5 then 4 else if k = 7 then 8 else if k = 8 then 7 else k
/-- without Nots but at the leaves; turned: the opposite -/
def Fm.neg : Fm → Bool → Fm
  | .tt, b => if b then .no .tt else .tt
  | .pr n, b => if b then .no (.pr n) else .pr n
  | .no a, b => a.neg (!b)
  | .nx a, b => .nx (a.neg b)
  | .bi k x y, b => .bi (if b then opp k else k) (x.neg b) (y.neg b)
theorem Fm.neg_ok {t : Fm} (h : t.ok) : ∀ b, (t.neg b).ok := by
  induction t with
  | tt => intro b; cases b <;> trivial
  | pr n => intro b; cases b <;> exact h
  | no a ih => intro b; exact ih h _
  | nx a ih => intro b; exact ih h _
  | bi k x y ihx ihy =>
    intro b
    refine ⟨?_, ihx h.2.1 b, ihy h.2.2 b⟩
    cases b
    · exact h.1
    · rcases h.1 with rfl | rfl | rfl | rfl <;> decide
/-- as the program makes it: it stops where there is too much -/
def Fm.negV : Fm → Bool → List Nd → List Nd
  | .tt, b, o => if tooMany o = true then o else if b then o ++ [⟨1, 0, 0, 0⟩] ++ [⟨3, ((o ++ [(⟨1, 0, 0, 0⟩ : Nd)]).length : Int) - 1, 0, 0⟩] else o ++ [⟨1, 0, 0, 0⟩]
  | .pr n, b, o => if tooMany o = true then o else if b then o ++ [⟨2, 0, 0, n⟩] ++ [⟨3, ((o ++ [(⟨2, 0, 0, n⟩ : Nd)]).length : Int) - 1, 0, 0⟩] else o ++ [⟨2, 0, 0, n⟩]
  | .no a, b, o => if tooMany o = true then o else a.negV (!b) o
  | .nx a, b, o => if tooMany o = true then o else a.negV b o ++ [⟨6, ((a.negV b o).length : Int) - 1, 0, 0⟩]
  | .bi k x y, b, o => if tooMany o = true then o else y.negV b (x.negV b o) ++ [⟨if b then opp k else k, ((x.negV b o).length : Int) - 1, ((y.negV b (x.negV b o)).length : Int) - 1, 0⟩]
theorem cntT_app (f g : List Nd) : cntT (f ++ g) = cntT f + cntT g := by simp [cntT]
theorem tooMany_app {f : List Nd} (g : List Nd) (h : tooMany f = true) : tooMany (f ++ g) = true := by
  unfold tooMany at *
  rw [cntT_app, List.length_append]
  simp only [Bool.or_eq_true, decide_eq_true_eq] at *
  omega
theorem tooMany_of_pre {f : List Nd} (g : List Nd) (h : tooMany (f ++ g) = false) : tooMany f = false := by
  cases e : tooMany f with
  | false => rfl
  | true => rw [tooMany_app g e] at h; cases h
theorem Fm.negV_pre (t : Fm) : ∀ b o, ∃ r, t.negV b o = o ++ r := by
  induction t with
  | tt => intro b o; unfold Fm.negV; split; exact ⟨[], by simp⟩; split; exact ⟨_, List.append_assoc _ _ _⟩; exact ⟨_, rfl⟩
  | pr n => intro b o; unfold Fm.negV; split; exact ⟨[], by simp⟩; split; exact ⟨_, List.append_assoc _ _ _⟩; exact ⟨_, rfl⟩
  | no a ih => intro b o; unfold Fm.negV; split; exact ⟨[], by simp⟩; exact ih _ _
  | nx a ih =>
    intro b o
    unfold Fm.negV
    split
    · exact ⟨[], by simp⟩
    · obtain ⟨r, h⟩ := ih b o
      exact ⟨r ++ [⟨6, ((a.negV b o).length : Int) - 1, 0, 0⟩], by rw [← List.append_assoc, ← h]⟩
  | bi k x y ihx ihy =>
    intro b o
    unfold Fm.negV
    split
    · exact ⟨[], by simp⟩
    · obtain ⟨r, h⟩ := ihx b o
      obtain ⟨r', h'⟩ := ihy b (x.negV b o)
      exact ⟨r ++ (r' ++ [⟨if b then opp k else k, ((x.negV b o).length : Int) - 1, ((y.negV b (x.negV b o)).length : Int) - 1, 0⟩]), by rw [← List.append_assoc, ← h, ← List.append_assoc, ← h']⟩
/-- where it is not too much in the end, it never was -/
theorem Fm.negV_few (t : Fm) : ∀ b o, tooMany (t.negV b o) = false → t.negV b o = (t.neg b).flat o := by
  induction t with
  | tt =>
    intro b o h
    have h0 : tooMany o = false := by obtain ⟨r, hr⟩ := Fm.negV_pre .tt b o; rw [hr] at h; exact tooMany_of_pre _ h
    unfold Fm.negV
    rw [if_neg (by simp [h0])]
    cases b <;> rfl
  | pr n =>
    intro b o h
    have h0 : tooMany o = false := by obtain ⟨r, hr⟩ := Fm.negV_pre (.pr n) b o; rw [hr] at h; exact tooMany_of_pre _ h
    unfold Fm.negV
    rw [if_neg (by simp [h0])]
    cases b <;> rfl
  | no a ih =>
    intro b o h
    have h0 : tooMany o = false := by obtain ⟨r, hr⟩ := Fm.negV_pre (.no a) b o; rw [hr] at h; exact tooMany_of_pre _ h
    unfold Fm.negV at h ⊢
    rw [if_neg (by simp [h0])] at h ⊢
    exact ih _ _ h
  | nx a ih =>
    intro b o h
    have h0 : tooMany o = false := by obtain ⟨r, hr⟩ := Fm.negV_pre (.nx a) b o; rw [hr] at h; exact tooMany_of_pre _ h
    unfold Fm.negV at h ⊢
    rw [if_neg (by simp [h0])] at h ⊢
    have := ih b o (tooMany_of_pre _ h)
    rw [this]
    rfl
  | bi k x y ihx ihy =>
    intro b o h
    have h0 : tooMany o = false := by obtain ⟨r, hr⟩ := Fm.negV_pre (.bi k x y) b o; rw [hr] at h; exact tooMany_of_pre _ h
    unfold Fm.negV at h ⊢
    rw [if_neg (by simp [h0])] at h ⊢
    have hy := tooMany_of_pre _ h
    have hx : tooMany (x.negV b o) = false := by
      obtain ⟨r, hr⟩ := Fm.negV_pre y b (x.negV b o)
      rw [hr] at hy
      exact tooMany_of_pre _ hy
    have e2 := ihy b _ hy
    have e1 := ihx b o hx
    rw [e2, e1]
    rfl
/-- and where it is few, so it is as made by the program -/
theorem Fm.flat_few (t : Fm) : ∀ b o, tooMany ((t.neg b).flat o) = false → t.negV b o = (t.neg b).flat o := by
  induction t with
  | tt =>
    intro b o h
    have h0 : tooMany o = false := by obtain ⟨r, hr⟩ := Fm.flat_pre (Fm.neg .tt b) o; rw [hr] at h; exact tooMany_of_pre _ h
    unfold Fm.negV
    rw [if_neg (by simp [h0])]
    cases b <;> rfl
  | pr n =>
    intro b o h
    have h0 : tooMany o = false := by obtain ⟨r, hr⟩ := Fm.flat_pre (Fm.neg (.pr n) b) o; rw [hr] at h; exact tooMany_of_pre _ h
    unfold Fm.negV
    rw [if_neg (by simp [h0])]
    cases b <;> rfl
  | no a ih =>
    intro b o h
    have h0 : tooMany o = false := by obtain ⟨r, hr⟩ := Fm.flat_pre (Fm.neg (.no a) b) o; rw [hr] at h; exact tooMany_of_pre _ h
    unfold Fm.negV
    rw [if_neg (by simp [h0])]
    exact ih _ _ h
  | nx a ih =>
    intro b o h
    have h0 : tooMany o = false := by obtain ⟨r, hr⟩ := Fm.flat_pre (Fm.neg (.nx a) b) o; rw [hr] at h; exact tooMany_of_pre _ h
    unfold Fm.negV
    rw [if_neg (by simp [h0])]
    have h' : tooMany ((a.neg b).flat o ++ [⟨6, (((a.neg b).flat o).length : Int) - 1, 0, 0⟩]) = false := h
    rw [ih b o (tooMany_of_pre _ h')]
    rfl
  | bi k x y ihx ihy =>
    intro b o h
    have h0 : tooMany o = false := by obtain ⟨r, hr⟩ := Fm.flat_pre (Fm.neg (.bi k x y) b) o; rw [hr] at h; exact tooMany_of_pre _ h
    unfold Fm.negV
    rw [if_neg (by simp [h0])]
    have h' : tooMany ((y.neg b).flat ((x.neg b).flat o) ++ [⟨if b then opp k else k, (((x.neg b).flat o).length : Int) - 1, (((y.neg b).flat ((x.neg b).flat o)).length : Int) - 1, 0⟩]) = false := h
    have hy := tooMany_of_pre _ h'
    have hx : tooMany ((x.neg b).flat o) = false := by
      obtain ⟨r, hr⟩ := Fm.flat_pre (y.neg b) ((x.neg b).flat o)
      rw [hr] at hy
      exact tooMany_of_pre _ hy
    rw [ihx b o hx, ihy b _ hy]
    rfl
theorem Fm.negV_many (t : Fm) (b : Bool) (o : List Nd) : tooMany (t.negV b o) = tooMany ((t.neg b).flat o) := by
  cases h : tooMany (t.negV b o) with
  | false => rw [← Fm.negV_few t b o h, h]
  | true =>
    cases h' : tooMany ((t.neg b).flat o) with
    | true => rfl
    | false => rw [Fm.flat_few t b o h'] at h; rw [h] at h'; cases h'
end Go.Proofs.Ytoglgeaiiipchab

namespace Go.Proofs.Ytoglgeaiiipchab

def Fm.sem (u : Nat → Int) : Fm → Nat → Prop
  | .tt, _ => True
  | .pr n, i => bitOf (u i) n.toNat = true
  | .no a, i => ¬ a.sem u i
  | .nx a, i => a.sem u (i + 1)
  | .bi k a b, i =>
    if k = 4 then a.sem u i ∧ b.sem u i
    else if k = 5 then a.sem u i ∨ b.sem u i
    else if k = 7 then ∃ j, i ≤ j ∧ b.sem u j ∧ ∀ m, i ≤ m → m < j → a.sem u m
    else ∀ j, i ≤ j → b.sem u j ∨ ∃ m, i ≤ m ∧ m < j ∧ a.sem u m
theorem Fm.sem_neg {u : Nat → Int} (t : Fm) (ht : t.ok) : ∀ b i, (t.neg b).sem u i ↔ (if b = true then ¬ t.sem u i else t.sem u i) := by
  induction t with
  | tt => intro b i; cases b <;> simp [Fm.neg, Fm.sem]
  | pr n => intro b i; cases b <;> simp [Fm.neg, Fm.sem]
  | no a ih => intro b i; rw [Fm.neg, ih ht]; cases b <;> simp [Fm.sem]
  | nx a ih => intro b i; simp only [Fm.neg, Fm.sem]; exact ih ht b (i + 1)
  | bi k x y ihx ihy =>
    intro b i
    obtain ⟨hk, hx, hy⟩ := ht
    have ihx := ihx hx b
    have ihy := ihy hy b
    simp only [Fm.neg]
    cases b with
    | false =>
      simp only [Bool.false_eq_true, if_false] at ihx ihy ⊢
      simp only [Fm.sem, ihx, ihy]
    | true =>
      simp only [if_true] at ihx ihy ⊢
      rcases hk with rfl | rfl | rfl | rfl
      · simp only [Fm.sem, opp, ihx, ihy, show ¬ (5 : Int) = 4 by decide, if_true, if_false]
        by_cases h1 : x.sem u i <;> by_cases h2 : y.sem u i <;> simp [h1, h2]
      · simp only [Fm.sem, opp, ihx, ihy, show ¬ (5 : Int) = 4 by decide, if_true, if_false]
        by_cases h1 : x.sem u i <;> by_cases h2 : y.sem u i <;> simp [h1, h2]
      · simp only [Fm.sem, opp, ihx, ihy, show ¬ (7 : Int) = 4 by decide, show ¬ (7 : Int) = 5 by decide, show ¬ (8 : Int) = 4 by decide, show ¬ (8 : Int) = 5 by decide, show ¬ (8 : Int) = 7 by decide, if_true, if_false]
        constructor
        · rintro h ⟨j, h1, h2, h3⟩
          rcases h j h1 with h4 | ⟨m, m1, m2, m3⟩
          · exact h4 h2
          · exact m3 (h3 m m1 m2)
        · intro h j hj
          apply Classical.byContradiction
          intro hn
          simp only [not_or, Classical.not_not, not_exists, not_and] at hn
          exact h ⟨j, hj, hn.1, hn.2⟩
      · simp only [Fm.sem, opp, ihx, ihy, show ¬ (8 : Int) = 4 by decide, show ¬ (8 : Int) = 5 by decide, show ¬ (8 : Int) = 7 by decide, show ¬ (7 : Int) = 4 by decide, show ¬ (7 : Int) = 5 by decide, if_true, if_false]
        constructor
        · rintro ⟨j, h1, h2, h3⟩ h
          rcases h j h1 with h4 | ⟨m, m1, m2, m3⟩
          · exact h2 h4
          · exact h3 m m1 m2 m3
        · intro h
          apply Classical.byContradiction
          intro hn
          apply h
          intro j hj
          apply Classical.byContradiction
          intro hn2
          simp only [not_or, not_exists, not_and] at hn2
          exact hn ⟨j, hj, hn2.1, fun m m1 m2 => hn2.2 m m1 m2⟩

theorem btw_false' {n a b : Int} : btw n a b = false ↔ ¬ (a ≤ n ∧ n ≤ b) := by
  rw [← btw_iff]; simp
/-- a formula that Check lets by -/
structure FmOK (f : List Nd) : Prop where
  pos : 0 < f.length
  few : tooMany f = false
  nd : ∀ i, (h : i < f.length) → ndErr f[i] i = 0
theorem ckNds_zero {f : List Nd} : ∀ (m k : Nat), f.length ≤ k + m → ckNds (f.drop k) k = 0 → ∀ i, k ≤ i → (h : i < f.length) → ndErr f[i] i = 0
  | 0, k, hm, _, i, h1, h2 => absurd h2 (by omega)
  | m + 1, k, hm, h, i, h1, h2 => by
    have hk : k < f.length := by omega
    rw [ckNds_step hk] at h
    split at h
    · rename_i h0
      rcases Nat.eq_or_lt_of_le h1 with rfl | h3
      · exact h0
      · exact ckNds_zero m (k + 1) (by omega) h i h3 h2
    · rename_i h0; exact absurd h h0
theorem ckNds_of {f : List Nd} (h : ∀ i, (h : i < f.length) → ndErr f[i] i = 0) : ∀ (m k : Nat), f.length ≤ k + m → ckNds (f.drop k) k = 0
  | 0, k, hm => ckNds_end (by omega)
  | m + 1, k, hm => by
    rcases Nat.lt_or_ge k f.length with hk | hk
    · rw [ckNds_step hk, if_pos (h k hk)]
      exact ckNds_of h m (k + 1) (by omega)
    · exact ckNds_end hk
theorem ckF_zero {f : List Nd} : ckF f = 0 ↔ FmOK f := by
  unfold ckF
  constructor
  · intro h
    split at h
    · cases h
    · rename_i h0
      split at h
      · cases h
      · rename_i h1
        exact ⟨by omega, by simpa using h1, fun i hi => ckNds_zero f.length 0 (by omega) (by simpa using h) i (Nat.zero_le _) hi⟩
  · rintro ⟨h0, h1, h2⟩
    rw [if_neg (by omega), if_neg (by simp [h1])]
    exact ckNds_of h2 f.length 0 (by omega)
/-- what is right with a node -/
structure NdOK (x : Nd) (i : Int) : Prop where
  k : 1 ≤ x.k ∧ x.k ≤ 8
  a : 3 ≤ x.k → 0 ≤ x.a ∧ x.a < i
  b : (x.k = 4 ∨ x.k = 5 ∨ x.k = 7 ∨ x.k = 8) → 0 ≤ x.b ∧ x.b < i
  n : x.k = 2 → 0 ≤ x.n ∧ x.n ≤ 2
  a0 : x.k < 3 → x.a = 0
  b0 : ¬ (x.k = 4 ∨ x.k = 5 ∨ x.k = 7 ∨ x.k = 8) → x.b = 0
  n0 : x.k ≠ 2 → x.n = 0
theorem ndErr_zero {x : Nd} {i : Int} : ndErr x i = 0 ↔ NdOK x i := by
  unfold ndErr
  constructor
  · intro h
    split at h
    · cases h
    · rename_i h1
      split at h
      · cases h
      · rename_i h2
        split at h
        · cases h
        · rename_i h3
          split at h
          · cases h
          · rename_i h4
            simp only [Bool.not_eq_false, btw_iff, nmA, nmB, nmN, Bool.or_eq_true, Bool.and_eq_true, Bool.not_eq_true', btw_false', beq_iff_eq, bne_iff_ne, ne_eq, beq_eq_false_iff_ne, Bool.or_eq_false_iff] at h1 h2 h3 h4
            refine ⟨Classical.not_not.1 h1, ?_, ?_, ?_, ?_, ?_, ?_⟩ <;> intros <;> omega
  · rintro ⟨h1, h2, h3, h4, h5, h6, h7⟩
    rw [if_neg, if_neg, if_neg, if_neg]
    all_goals
      simp only [Bool.not_eq_false, btw_iff, nmA, nmB, nmN, Bool.or_eq_true, Bool.and_eq_true, Bool.not_eq_true', btw_false', beq_iff_eq, bne_iff_ne, ne_eq, beq_eq_false_iff_ne, Bool.or_eq_false_iff]
      omega
theorem treeAt_ok {f : List Nd} (hf : FmOK f) : ∀ i, i < f.length → (treeAt f i).ok := by
  intro i
  induction i using Nat.strongRecOn with
  | _ i ih =>
    intro hi
    have hx := ndErr_zero.1 (hf.nd i hi)
    have e : f.getD i nond = f[i] := by rw [List.getD_eq_getElem?_getD, List.getElem?_eq_getElem hi]; rfl
    unfold treeAt treeN
    rw [e]
    generalize f[i] = x at hx
    have ha : 3 ≤ x.k → ((treesOf f i).getD x.a.toNat .tt).ok := fun h => by
      have := hx.a h
      rw [treesOf_get _ _ _ (by omega)]
      exact ih _ (by omega) (by omega)
    have hk := hx.k
    split
    · trivial
    · split
      · rename_i h2
        have := hx.n h2
        exact ⟨this.1, by omega⟩
      · split
        · exact ha (by omega)
        · split
          · exact ha (by omega)
          · have h4 : x.k = 4 ∨ x.k = 5 ∨ x.k = 7 ∨ x.k = 8 := by omega
            have := hx.b h4
            refine ⟨h4, ha (by omega), ?_⟩
            rw [treesOf_get _ _ _ (by omega)]
            exact ih _ (by omega) (by omega)
end Go.Proofs.Ytoglgeaiiipchab

namespace Go.Proofs.Ytoglgeaiiipchab

theorem rowsOf_get (l : La) (f : List Nd) : ∀ (k i : Nat), i < k → (rowsOf l f k).getD i [] = rowOf l (rowsOf l f i) (f.getD i ⟨0, 0, 0, 0⟩)
  | 0, i, h => absurd h (by omega)
  | k + 1, i, h => by
    rw [show rowsOf l f (k + 1) = rowsOf l f k ++ [rowOf l (rowsOf l f k) (f.getD k ⟨0, 0, 0, 0⟩)] from rfl, List.getD_eq_getElem?_getD]
    rcases Nat.lt_or_ge i k with h1 | h1
    · rw [List.getElem?_append_left (by rw [length_rowsOf]; exact h1), ← List.getD_eq_getElem?_getD]
      exact rowsOf_get l f k i h1
    · obtain rfl : i = k := by omega
      rw [List.getElem?_append_right (by rw [length_rowsOf]; exact Nat.le_refl _), length_rowsOf]
      simp
theorem gB_rows {l : La} {f : List Nd} {k i p : Nat} (hi : i < k) (hp : p < l.n) : gB (rowsOf l f k) i p = nodeVal l (rowsOf l f i) (f.getD i ⟨0, 0, 0, 0⟩) p := by
  unfold gB
  rw [rowsOf_get l f k i hi]
  unfold rowOf
  rw [List.getD_eq_getElem?_getD, List.getElem?_map, List.getElem?_range hp]
  rfl
theorem unt_iffP {n h : Nat} {a b : Nat → Bool} (hh : h < n) : ∀ (m k : Nat), unt n h a b m (plc n h k) = true ↔ ∃ j, k ≤ j ∧ j < k + m ∧ b (plc n h j) = true ∧ ∀ i, k ≤ i → i < j → a (plc n h i) = true
  | 0, k => by
    simp only [unt, Bool.false_eq_true, Nat.add_zero, false_iff, not_exists, not_and]
    intro j h1 h2
    omega
  | m + 1, k => by
    rw [unt_plc hh, Bool.or_eq_true, Bool.and_eq_true, unt_iffP hh m (k + 1)]
    constructor
    · rintro (h1 | ⟨h1, j, h2, h3, h4, h5⟩)
      · exact ⟨k, Nat.le_refl _, by omega, h1, fun i a1 a2 => absurd a2 (by omega)⟩
      · refine ⟨j, by omega, by omega, h4, fun i a1 a2 => ?_⟩
        rcases Nat.eq_or_lt_of_le a1 with rfl | a3
        · exact h1
        · exact h5 i a3 a2
    · rintro ⟨j, h1, h2, h3, h4⟩
      rcases Nat.eq_or_lt_of_le h1 with rfl | h5
      · exact .inl h3
      · exact .inr ⟨h4 k (Nat.le_refl _) h5, j, h5, by omega, h3, fun i a1 a2 => h4 i (by omega) a2⟩
theorem rls_iffP {n h : Nat} {a b : Nat → Bool} (hh : h < n) : ∀ (m k : Nat), rls n h a b m (plc n h k) = true ↔ ∀ j, k ≤ j → j < k + m → b (plc n h j) = true ∨ ∃ i, k ≤ i ∧ i < j ∧ a (plc n h i) = true
  | 0, k => by
    simp only [rls, true_iff, Nat.add_zero]
    intro j h1 h2
    omega
  | m + 1, k => by
    rw [rls_plc hh, Bool.and_eq_true, Bool.or_eq_true, rls_iffP hh m (k + 1)]
    constructor
    · rintro ⟨h1, h2⟩ j a1 a2
      rcases Nat.eq_or_lt_of_le a1 with rfl | a3
      · exact .inl h1
      · rcases h2 with h2 | h2
        · exact .inr ⟨k, Nat.le_refl _, a3, h2⟩
        · rcases h2 j a3 (by omega) with h4 | ⟨i, i1, i2, i3⟩
          · exact .inl h4
          · exact .inr ⟨i, by omega, i2, i3⟩
    · intro hx
      refine ⟨?_, ?_⟩
      · rcases hx k (Nat.le_refl _) (by omega) with h1 | ⟨i, i1, i2, _⟩
        · exact h1
        · omega
      · cases ha : a (plc n h k) with
        | true => exact .inl rfl
        | false =>
          refine .inr fun j a1 a2 => ?_
          rcases hx j (by omega) (by omega) with h1 | ⟨i, i1, i2, i3⟩
          · exact .inl h1
          · refine .inr ⟨i, ?_, i2, i3⟩
            rcases Nat.eq_or_lt_of_le i1 with rfl | i4
            · rw [ha] at i3; cases i3
            · exact i4
/-- all places are met within so many -/
theorem unt_all {n h : Nat} {a b : Nat → Bool} (hh : h < n) (k : Nat) : unt n h a b n (plc n h k) = true ↔ ∃ j, k ≤ j ∧ b (plc n h j) = true ∧ ∀ i, k ≤ i → i < j → a (plc n h i) = true := by
  rw [unt_iffP hh]
  constructor
  · rintro ⟨j, h1, _, h3, h4⟩; exact ⟨j, h1, h3, h4⟩
  · rintro ⟨j, h1, h3, h4⟩
    have : ∀ d j, j = k + d → b (plc n h j) = true → (∀ i, k ≤ i → i < j → a (plc n h i) = true) → ∃ j, k ≤ j ∧ j < k + n ∧ b (plc n h j) = true ∧ ∀ i, k ≤ i → i < j → a (plc n h i) = true := by
      intro d
      induction d using Nat.strongRecOn with
      | _ d ih =>
        intro j hj hb ha
        by_cases hd : d < n
        · exact ⟨j, by omega, by omega, hb, ha⟩
        · refine ih (d - (n - h)) (by omega) (j - (n - h)) (by omega) ?_ (fun i i1 i2 => ha i i1 (by omega))
          rw [← plc_back hh (by omega)]; exact hb
    exact this (j - k) j (by omega) h3 h4
theorem rls_all {n h : Nat} {a b : Nat → Bool} (hh : h < n) (k : Nat) : rls n h a b n (plc n h k) = true ↔ ∀ j, k ≤ j → b (plc n h j) = true ∨ ∃ i, k ≤ i ∧ i < j ∧ a (plc n h i) = true := by
  rw [rls_iffP hh]
  constructor
  · intro h1
    have : ∀ d j, j = k + d → b (plc n h j) = true ∨ ∃ i, k ≤ i ∧ i < j ∧ a (plc n h i) = true := by
      intro d
      induction d using Nat.strongRecOn with
      | _ d ih =>
        intro j hj
        by_cases hd : d < n
        · exact h1 j (by omega) (by omega)
        · rcases ih (d - (n - h)) (by omega) (j - (n - h)) (by omega) with h2 | ⟨i, i1, i2, i3⟩
          · rw [plc_back hh (by omega)]; exact .inl h2
          · exact .inr ⟨i, i1, by omega, i3⟩
    intro j hj
    exact this (j - k) j (by omega)
  · intro h1 j hj _
    exact h1 j hj
/-- letter at a place that runs on -/
theorem La.at_plc {l : La} (hp : 0 < l.l.length) (k : Nat) : l.at (plc l.n l.h.length k) = l.at k := by
  have hh : l.h.length < l.n := by unfold La.n; omega
  rw [← La.row_plc hp k, ← La.row_plc hp (plc l.n l.h.length k), plc_self (plc_lt hh)]
/-- **the table says what the formula says** -/
theorem table_sem {l : La} (hp : 0 < l.l.length) {f : List Nd} (hf : FmOK f) : ∀ (i : Nat), i < f.length → ∀ (k m : Nat), i < m → (gB (rowsOf l f m) i (plc l.n l.h.length k) = true ↔ (treeAt f i).sem l.at k) := by
  have hh : l.h.length < l.n := by unfold La.n; omega
  intro i
  induction i using Nat.strongRecOn with
  | _ i ih =>
    intro hi k m hm
    rw [gB_rows hm (plc_lt hh)]
    have hx := ndErr_zero.1 (hf.nd i hi)
    have e : f.getD i nond = f[i] := by rw [List.getD_eq_getElem?_getD, List.getElem?_eq_getElem hi]; rfl
    unfold treeAt treeN
    rw [show (⟨0, 0, 0, 0⟩ : Nd) = nond from rfl, e]
    generalize f[i] = x at hx
    unfold nodeVal
    have hk := hx.k
    have ha : 3 ≤ x.k → ∀ j, gB (rowsOf l f i) x.a.toNat (plc l.n l.h.length j) = true ↔ ((treesOf f i).getD x.a.toNat .tt).sem l.at j := fun h j => by
      have := hx.a h
      rw [treesOf_get _ _ _ (by omega)]
      exact ih _ (by omega) (by omega) j i (by omega)
    have hb : (x.k = 4 ∨ x.k = 5 ∨ x.k = 7 ∨ x.k = 8) → ∀ j, gB (rowsOf l f i) x.b.toNat (plc l.n l.h.length j) = true ↔ ((treesOf f i).getD x.b.toNat .tt).sem l.at j := fun h j => by
      have := hx.b h
      rw [treesOf_get _ _ _ (by omega)]
      exact ih _ (by omega) (by omega) j i (by omega)
    by_cases h1 : x.k = 1
    · simp only [h1, if_true, Fm.sem]
    by_cases h2 : x.k = 2
    · simp only [h2, show ¬ (2 : Int) = 1 by decide, if_true, if_false, Fm.sem]
      rw [La.at_plc hp]
    by_cases h3 : x.k = 3
    · simp only [h3, show ¬ (3 : Int) = 1 by decide, show ¬ (3 : Int) = 2 by decide, if_true, if_false, Fm.sem, Bool.not_eq_true', ← ha (by omega) k]
      exact Bool.not_eq_true _ ▸ Iff.rfl
    by_cases h6 : x.k = 6
    · simp only [h6, show ¬ (6 : Int) = 1 by decide, show ¬ (6 : Int) = 2 by decide, show ¬ (6 : Int) = 3 by decide, show ¬ (6 : Int) = 4 by decide, show ¬ (6 : Int) = 5 by decide, if_true, if_false, Fm.sem]
      rw [plc_succ hh]
      exact ha (by omega) (k + 1)
    have hb := hb (by omega)
    have ha := ha (by omega)
    by_cases h4 : x.k = 4
    · simp only [h4, show ¬ (4 : Int) = 1 by decide, show ¬ (4 : Int) = 2 by decide, show ¬ (4 : Int) = 3 by decide, show ¬ (4 : Int) = 6 by decide, if_true, if_false, Fm.sem, Bool.and_eq_true, ha, hb]
    by_cases h5 : x.k = 5
    · simp only [h5, show ¬ (5 : Int) = 1 by decide, show ¬ (5 : Int) = 2 by decide, show ¬ (5 : Int) = 3 by decide, show ¬ (5 : Int) = 4 by decide, show ¬ (5 : Int) = 6 by decide, if_true, if_false, Fm.sem, Bool.or_eq_true, ha, hb]
    by_cases h7 : x.k = 7
    · simp only [h7, show ¬ (7 : Int) = 1 by decide, show ¬ (7 : Int) = 2 by decide, show ¬ (7 : Int) = 3 by decide, show ¬ (7 : Int) = 4 by decide, show ¬ (7 : Int) = 5 by decide, show ¬ (7 : Int) = 6 by decide, if_true, if_false, Fm.sem]
      rw [unt_all hh]
      simp only [ha, hb]
    · simp only [h1, h2, h3, h4, h5, h6, h7, if_false, Fm.sem]
      rw [rls_all hh]
      simp only [ha, hb]
end Go.Proofs.Ytoglgeaiiipchab
