/- Plain: a model's words, by an automaton and by sets of states. -/
import Derived.Test.YtoglgeaiiipchabLTTM11
set_option linter.unusedSimpArgs false
set_option linter.unusedVariables false
namespace Go.Proofs.Ytoglgeaiiipchab

theorem tnum_inj {f : List Nd} {p w p' w' : Nat} (hw : w ≤ (fair f).length) (hw' : w' ≤ (fair f).length) (h : tnum f p w = tnum f p' w') : p = p' ∧ w = w' := by
  unfold tnum at h
  have h : p * ((fair f).length + 1) + w = p' * ((fair f).length + 1) + w' := by
    have : ((p * ((fair f).length + 1) + w : Nat) : Int) = ((p' * ((fair f).length + 1) + w' : Nat) : Int) := by
      rw [Int.natCast_add, Int.natCast_add, Int.natCast_mul, Int.natCast_mul, Int.natCast_add]; simp only [Int.natCast_one]; omega
    exact Int.ofNat.inj this
  have hw1 : w < (fair f).length + 1 := by omega
  have hw1' : w' < (fair f).length + 1 := by omega
  generalize (fair f).length + 1 = n at *
  have d : ∀ q v : Nat, v < n → (q * n + v) / n = q := fun q v hv => by
    rw [Nat.add_comm, Nat.add_mul_div_right _ _ (by omega), Nat.div_eq_of_lt hv]; omega
  have e : p = p' := by rw [← d p w hw1, h, d p' w' hw1']
  subst e
  exact ⟨rfl, by omega⟩
theorem tnum_pos (f : List Nd) (p w : Nat) : 1 ≤ tnum f p w := by
  unfold tnum
  have : (0 : Int) ≤ (p : Int) * ((fair f).length + 1) := Int.mul_nonneg (by omega) (by omega)
  omega
theorem adv_le {f : List Nd} {t : List Bool} : ∀ (m w : Nat), w ≤ (fair f).length → adv f t m w ≤ (fair f).length
  | 0, w, h => h
  | m + 1, w, h => by
    unfold adv
    split
    · rename_i h1; exact adv_le m (w + 1) (by omega)
    · exact h
theorem adv_ge {f : List Nd} {t : List Bool} : ∀ (m w : Nat), w ≤ adv f t m w
  | 0, w => Nat.le_refl _
  | m + 1, w => by
    unfold adv
    split
    · have := adv_ge (f := f) (t := t) m (w + 1); omega
    · exact Nat.le_refl _
theorem adv_stop {f : List Nd} {t : List Bool} {w : Nat} (hc : calmV f t ((fair f).getD w 0) = false) : ∀ (m v : Nat), v ≤ w → adv f t m v ≤ w
  | 0, v, h => h
  | m + 1, v, h => by
    unfold adv
    split
    · rename_i h1
      rcases Nat.eq_or_lt_of_le h with rfl | h2
      · rw [hc] at h1; exact absurd h1.2 (by simp)
      · exact adv_stop hc m (v + 1) h2
    · exact h
theorem onW_le {f : List Nd} {t : List Bool} {w : Nat} (h : w ≤ (fair f).length) : onW f t w ≤ (fair f).length := by
  unfold onW
  refine adv_le _ _ ?_
  split <;> omega
/-- what is waited for comes again and again, if the good states do -/
theorem waits_fair {f : List Nd} {T : Nat → List Bool} {W : Nat → Nat} (hW : ∀ m, W (m + 1) = onW f (T m) (W m)) (hg : ∀ n, ∃ m, n ≤ m ∧ W m = (fair f).length) {w : Nat} (hw : w < (fair f).length) (n : Nat) : ∃ m, n ≤ m ∧ calmV f (T m) ((fair f).getD w 0) = true := by
  apply Classical.byContradiction
  intro hno
  have hno : ∀ m, n ≤ m → calmV f (T m) ((fair f).getD w 0) = false := fun m hm => by
    cases h : calmV f (T m) ((fair f).getD w 0) with
    | false => rfl
    | true => exact absurd ⟨m, hm, h⟩ hno
  obtain ⟨m1, h1, h2⟩ := hg n
  have all : ∀ d, W (m1 + 1 + d) ≤ w := by
    intro d
    induction d with
    | zero =>
      rw [Nat.add_zero, hW, h2]
      unfold onW
      rw [if_pos rfl]
      exact adv_stop (hno m1 h1) _ _ (Nat.zero_le _)
    | succ d ih =>
      rw [← Nat.add_assoc, hW]
      unfold onW
      rw [if_neg (by omega)]
      exact adv_stop (hno _ (by omega)) _ _ ih
  obtain ⟨m2, h3, h4⟩ := hg (m1 + 1)
  have := all (m2 - (m1 + 1))
  rw [show m1 + 1 + (m2 - (m1 + 1)) = m2 by omega, h4] at this
  omega
/-- and the other way round -/
theorem waits_come {f : List Nd} {T : Nat → List Bool} {W : Nat → Nat} (hW : ∀ m, W (m + 1) = onW f (T m) (W m)) (hle : ∀ m, W m ≤ (fair f).length) (hf : ∀ w, w < (fair f).length → ∀ n, ∃ m, n ≤ m ∧ calmV f (T m) ((fair f).getD w 0) = true) (n : Nat) : ∃ m, n ≤ m ∧ W m = (fair f).length := by
  have : ∀ d n, (fair f).length - W n = d → ∃ m, n ≤ m ∧ W m = (fair f).length := by
    intro d
    induction d using Nat.strongRecOn with
    | _ d ih =>
      intro n hd
      have hn := hle n
      by_cases hw : W n = (fair f).length
      · exact ⟨n, Nat.le_refl _, hw⟩
      obtain ⟨m0, a1, a2⟩ := hf (W n) (by omega) n
      obtain ⟨m, b1, b2, b3⟩ := first_from (P := fun i => calmV f (T i) ((fair f).getD (W n) 0) = true) a1 a2
      have stay : ∀ k, n + k ≤ m → W (n + k) = W n := by
        intro k
        induction k with
        | zero => intro _; rfl
        | succ k ihk =>
          intro hk
          have e := ihk (by omega)
          rw [← Nat.add_assoc, hW, e]
          unfold onW
          rw [if_neg hw]
          have hc : calmV f (T (n + k)) ((fair f).getD (W n) 0) = false := by
            cases h : calmV f (T (n + k)) ((fair f).getD (W n) 0) with
            | false => rfl
            | true => exact absurd h (b3 _ (by omega) (by omega))
          have h1 := adv_stop hc (fair f).length (W n) (Nat.le_refl _)
          have h2 := adv_ge (f := f) (t := T (n + k)) (fair f).length (W n)
          omega
      have e := stay (m - n) (by omega)
      rw [show n + (m - n) = m by omega] at e
      have hgt : W n + 1 ≤ W (m + 1) := by
        rw [hW, e]
        unfold onW
        rw [if_neg hw]
        obtain ⟨q, hq⟩ : ∃ q, (fair f).length = q + 1 := ⟨(fair f).length - 1, by omega⟩
        rw [hq]
        unfold adv
        rw [if_pos ⟨by omega, b2⟩]
        exact adv_ge _ _
      have := hle (m + 1)
      obtain ⟨m', c1, c2⟩ := ih ((fair f).length - W (m + 1)) (by omega) (m + 1) rfl
      exact ⟨m', by omega, c2⟩
  exact this _ n rfl
theorem tab_good {f : List Nd} {ss : List Stp} {p w : Nat} (hp : p < 2 ^ tn f) (hw : w ≤ (fair f).length) : (tabOf f ss).good (tnum f p w) ↔ w = (fair f).length := by
  have h1 : (tnum f p w).toNat = p * ((fair f).length + 1) + w + 1 := by
    have : tnum f p w = ((p * ((fair f).length + 1) + w + 1 : Nat) : Int) := by
      unfold tnum
      rw [Int.natCast_add, Int.natCast_add, Int.natCast_mul, Int.natCast_add]; simp only [Int.natCast_one]; omega
    omega
  have h2 : (p + 1) * ((fair f).length + 1) ≤ 2 ^ tn f * ((fair f).length + 1) := Nat.mul_le_mul_right _ hp
  rw [Nat.succ_mul] at h2
  unfold Au.good tabOf tabGs
  simp only
  rw [h1, List.getD_eq_getElem?_getD, List.getElem?_map, List.getElem?_range (by omega)]
  simp only [Option.map_some, Option.getD_some, decide_eq_true_eq]
  have h3 : (p * ((fair f).length + 1) + w + 1 - 1) % ((fair f).length + 1) = w := by
    rw [Nat.add_sub_cancel, Nat.add_comm, Nat.add_mul_mod_self_right]
    exact Nat.mod_eq_of_lt (by omega)
  rw [h3]
  have := tnum_pos f p w
  constructor
  · rintro ⟨_, _, h⟩; exact h
  · intro h; exact ⟨by omega, by omega, h⟩
open Classical in
/-- the truths of a word -/
noncomputable def semT (f : List Nd) (u : Nat → Int) (m : Nat) : List Bool := (List.range f.length).map fun i => decide ((treeAt f i).sem u m)
theorem semT_len (f : List Nd) (u : Nat → Int) (m : Nat) : (semT f u m).length = f.length := by simp [semT]
theorem semT_get {f : List Nd} {u : Nat → Int} {m i : Nat} (hi : i < f.length) : (semT f u m).getD i false = true ↔ (treeAt f i).sem u m := by
  unfold semT
  rw [List.getD_eq_getElem?_getD, List.getElem?_map, List.getElem?_range hi]
  simp
theorem bool_iff {a b : Bool} (h : a = true ↔ b = true) : a = b := by cases a <;> cases b <;> simp_all
/-- they are what is read with the promises kept -/
theorem semT_reads {f : List Nd} (hf : FmOK f) {u : Nat → Int} {P : Nat → Nat} (hP : ∀ m, KeptIs f (semT f u m) (P m)) (m : Nat) : semT f u m = truths f (u m) (P (m + 1)) := by
  have hl : (truths f (u m) (P (m + 1))).length = f.length := trs_len _ _ _ _
  have key : ∀ i, i < f.length → (semT f u m).getD i false = (truths f (u m) (P (m + 1))).getD i false := by
    intro i
    induction i using Nat.strongRecOn with
    | _ i ih =>
      intro hi
      refine bool_iff ?_
      rw [semT_get hi, truth_at hf hi, sem_at hf hi]
      have hkp := (hP (m + 1)).bit i hi
      have hself : (semT f u (m + 1)).getD i false = true ↔ (treeAt f i).sem u (m + 1) := semT_get hi
      have hsem := fun k => sem_at hf (u := u) (m := k) hi
      unfold trAt
      unfold keptV at hkp
      have hx := ndErr_zero.1 (hf.nd i hi)
      have e : f.getD i nond = f[i] := by rw [List.getD_eq_getElem?_getD, List.getElem?_eq_getElem hi]; rfl
      rw [e] at hkp hsem ⊢
      have ha : 3 ≤ f[i].k → ((truths f (u m) (P (m + 1))).getD f[i].a.toNat false = true ↔ (treeAt f f[i].a.toNat).sem u m) := fun h => by
        have := hx.a h
        rw [← ih _ (by omega) (by omega)]
        exact semT_get (by omega)
      have hb : (f[i].k = 4 ∨ f[i].k = 5 ∨ f[i].k = 7 ∨ f[i].k = 8) → ((truths f (u m) (P (m + 1))).getD f[i].b.toNat false = true ↔ (treeAt f f[i].b.toNat).sem u m) := fun h => by
        have := hx.b h
        rw [← ih _ (by omega) (by omega)]
        exact semT_get (by omega)
      have ha' : 3 ≤ f[i].k → ((semT f u (m + 1)).getD f[i].a.toNat false = true ↔ (treeAt f f[i].a.toNat).sem u (m + 1)) := fun h => by
        have := hx.a h
        exact semT_get (by omega)
      have hk := hx.k
      generalize f[i] = x at *
      simp only
      by_cases h1 : x.k = 1
      · simp [h1]
      by_cases h2 : x.k = 2
      · simp [h2]
      by_cases h3 : x.k = 3
      · simp only [h3, show ¬ (3 : Int) = 1 by decide, show ¬ (3 : Int) = 2 by decide, if_true, if_false]
        rw [Bool.not_eq_true', ← ha (by omega)]
        exact Bool.not_eq_true _ ▸ Iff.rfl
      have ha := ha (by omega)
      by_cases h6 : x.k = 6
      · have := hkp (isTmp_iff.2 (by omega))
        simp only [h6, if_true] at this
        simp only [h6, show ¬ (6 : Int) = 1 by decide, show ¬ (6 : Int) = 2 by decide, show ¬ (6 : Int) = 3 by decide, show ¬ (6 : Int) = 4 by decide, show ¬ (6 : Int) = 5 by decide, if_true, if_false]
        rw [this, show isTmp 6 = true from rfl, Bool.true_and]
        exact (ha' (by omega)).symm
      have hb := hb (by omega)
      by_cases h4 : x.k = 4
      · simp only [h4, show ¬ (4 : Int) = 1 by decide, show ¬ (4 : Int) = 2 by decide, show ¬ (4 : Int) = 3 by decide, if_true, if_false, Bool.and_eq_true, ha, hb]
      by_cases h5 : x.k = 5
      · simp only [h5, show ¬ (5 : Int) = 1 by decide, show ¬ (5 : Int) = 2 by decide, show ¬ (5 : Int) = 3 by decide, show ¬ (5 : Int) = 4 by decide, if_true, if_false, Bool.or_eq_true, ha, hb]
      have ht : isTmp x.k = true := isTmp_iff.2 (by omega)
      have hkp := hkp ht
      simp only [h6, if_false] at hkp
      simp only [h1, h2, h3, h4, h5, h6, if_false, hkp, ht, Bool.true_and] at hsem ⊢
      by_cases h7 : x.k = 7
      · simp only [h7, if_true, Bool.or_eq_true, Bool.and_eq_true, ha, hb, hself] at hsem ⊢
        rw [hsem (m + 1)]
        constructor
        · rintro ⟨j, a1, a2, a3⟩
          rcases Nat.eq_or_lt_of_le a1 with rfl | a4
          · exact .inl a2
          · exact .inr ⟨a3 m (Nat.le_refl _) a4, j, a4, a2, fun q q1 q2 => a3 q (by omega) q2⟩
        · rintro (a | ⟨a, j, a1, a2, a3⟩)
          · exact ⟨m, Nat.le_refl _, a, fun q q1 q2 => absurd q2 (by omega)⟩
          · refine ⟨j, by omega, a2, fun q q1 q2 => ?_⟩
            rcases Nat.eq_or_lt_of_le q1 with rfl | q3
            · exact a
            · exact a3 q q3 q2
      · simp only [h7, if_false, Bool.or_eq_true, Bool.and_eq_true, ha, hb, hself] at hsem ⊢
        rw [hsem (m + 1)]
        constructor
        · intro hx
          refine ⟨(hx m (Nat.le_refl _)).resolve_right (fun ⟨q, q1, q2, _⟩ => by omega), ?_⟩
          by_cases hA : (treeAt f x.a.toNat).sem u m
          · exact .inl hA
          · refine .inr fun j hj => (hx j (by omega)).imp id fun ⟨q, q1, q2, q3⟩ => ⟨q, ?_, q2, q3⟩
            rcases Nat.eq_or_lt_of_le q1 with rfl | q4
            · exact absurd q3 hA
            · exact q4
        · rintro ⟨hB, hor⟩ j hj
          rcases Nat.eq_or_lt_of_le hj with rfl | h4
          · exact .inl hB
          · rcases hor with hA | hR
            · exact .inr ⟨m, Nat.le_refl _, h4, hA⟩
            · exact (hR j h4).imp id fun ⟨q, q1, q2, q3⟩ => ⟨q, by omega, q2, q3⟩
  refine List.ext_getElem (by rw [semT_len, hl]) fun i h1 h2 => ?_
  have := key i (by rw [semT_len] at h1; exact h1)
  rwa [getD_lt h1, getD_lt h2] at this
theorem fair_at {f : List Nd} {w : Nat} (hw : w < (fair f).length) : (fair f).getD w 0 < f.length ∧ ((f.getD ((fair f).getD w 0) nond).k = 7 ∨ (f.getD ((fair f).getD w 0) nond).k = 8) := by
  have := List.getElem_mem hw
  rw [← getD_lt (d := 0) hw] at this
  unfold fair fairs at this
  rw [List.mem_filter] at this
  have h2 := this.2
  simp only [isFair, Bool.or_eq_true, beq_iff_eq] at h2
  exact ⟨List.mem_range.1 this.1, h2⟩
theorem semT_calm {f : List Nd} (hf : FmOK f) {u : Nat → Int} {w : Nat} (hw : w < (fair f).length) (n : Nat) : ∃ m, n ≤ m ∧ calmV f (semT f u m) ((fair f).getD w 0) = true := by
  obtain ⟨hi, hk⟩ := fair_at hw
  generalize (fair f).getD w 0 = i at *
  have hx := ndErr_zero.1 (hf.nd i hi)
  have e : f.getD i nond = f[i] := by rw [List.getD_eq_getElem?_getD, List.getElem?_eq_getElem hi]; rfl
  have hself := fun m => semT_get (u := u) (m := m) hi
  have hsem := fun m => sem_at hf (u := u) (m := m) hi
  unfold calmV
  rw [e] at hk hsem ⊢
  have hb : ∀ m, (semT f u m).getD f[i].b.toNat false = true ↔ (treeAt f f[i].b.toNat).sem u m := fun m => by
    have := hx.b (by omega)
    exact semT_get (by omega)
  generalize f[i] = x at *
  simp only
  rcases hk with h7 | h8
  · simp only [h7, if_true, show ¬ (7 : Int) = 1 by decide, show ¬ (7 : Int) = 2 by decide, show ¬ (7 : Int) = 3 by decide, show ¬ (7 : Int) = 4 by decide, show ¬ (7 : Int) = 5 by decide, show ¬ (7 : Int) = 6 by decide, if_false] at hsem ⊢
    by_cases hs : (treeAt f i).sem u n
    · obtain ⟨j, a1, a2, _⟩ := (hsem n).1 hs
      exact ⟨j, a1, by rw [(hb j).2 a2]; simp⟩
    · refine ⟨n, Nat.le_refl _, ?_⟩
      have : (semT f u n).getD i false = false := by
        cases h : (semT f u n).getD i false with
        | false => rfl
        | true => exact absurd ((hself n).1 h) hs
      rw [this]; simp
  · simp only [h8, show ¬ (8 : Int) = 1 by decide, show ¬ (8 : Int) = 2 by decide, show ¬ (8 : Int) = 3 by decide, show ¬ (8 : Int) = 4 by decide, show ¬ (8 : Int) = 5 by decide, show ¬ (8 : Int) = 6 by decide, show ¬ (8 : Int) = 7 by decide, if_false] at hsem ⊢
    by_cases hs : (treeAt f i).sem u n
    · exact ⟨n, Nat.le_refl _, by rw [(hself n).2 hs]; simp⟩
    · rw [hsem n] at hs
      obtain ⟨j, hj⟩ := Classical.not_forall.1 hs
      obtain ⟨h1, h2⟩ := Classical.not_imp.1 hj
      refine ⟨j, h1, ?_⟩
      have : (semT f u j).getD x.b.toNat false = false := by
        cases h : (semT f u j).getD x.b.toNat false with
        | false => rfl
        | true => exact absurd (.inl ((hb j).1 h)) h2
      rw [this]; simp
/-- **the automaton takes just the words of which the formula holds** -/
theorem tab_takes {f : List Nd} (hf : FmOK f) {raw ss : List Stp} (hr : TabRaw f raw) (hs : SortOf raw ss) {u : Nat → Int} (hu : ∀ m, 0 ≤ u m ∧ u m < 8) : TakesU (tabOf f ss) u ↔ (treeAt f (f.length - 1)).sem u 0 := by
  have hpos := hf.pos
  constructor
  · rintro ⟨r, h0, hst, hg⟩
    have r0 : r 0 = 0 := by simpa [tabOf] using h0
    have st : ∀ m, ∃ nx w' : Nat, nx < 2 ^ tn f ∧ w' ≤ (fair f).length ∧ r (m + 1) = tnum f nx (onW f (truths f (u m) nx) w') ∧
        ((∃ p, KeptIs f (truths f (u m) nx) p ∧ r m = tnum f p w') ∨ (r m = 0 ∧ w' = 0 ∧ (truths f (u m) nx).getD (f.length - 1) false = true)) := fun m => by
      obtain ⟨c, nx, p, hc, hnx, hkp, hor⟩ := (hr _).1 ((hs.mem _).1 (hst m))
      rcases hor with ⟨w, hw, he⟩ | ⟨hl, he⟩
      · have e1 := congrArg Stp.f he
        have e2 := congrArg Stp.l he
        have e3 := congrArg Stp.t he
        simp only at e1 e2 e3
        rw [← e2] at e3 hkp
        exact ⟨nx, w, hnx, hw, e3, .inl ⟨p, hkp, e1⟩⟩
      · have e1 := congrArg Stp.f he
        have e2 := congrArg Stp.l he
        have e3 := congrArg Stp.t he
        simp only at e1 e2 e3
        rw [← e2] at e3 hl
        exact ⟨nx, 0, hnx, Nat.zero_le _, e3, .inr ⟨e1, rfl, hl⟩⟩
    obtain ⟨NX, hNX⟩ : ∃ NX : Nat → Nat, ∀ m, ∃ w' : Nat, NX m < 2 ^ tn f ∧ w' ≤ (fair f).length ∧ r (m + 1) = tnum f (NX m) (onW f (truths f (u m) (NX m)) w') ∧
        ((∃ p, KeptIs f (truths f (u m) (NX m)) p ∧ r m = tnum f p w') ∨ (r m = 0 ∧ w' = 0 ∧ (truths f (u m) (NX m)).getD (f.length - 1) false = true)) :=
      ⟨fun m => Classical.choose (st m), fun m => Classical.choose_spec (st m)⟩
    obtain ⟨W', hW'⟩ : ∃ W' : Nat → Nat, ∀ m, NX m < 2 ^ tn f ∧ W' m ≤ (fair f).length ∧ r (m + 1) = tnum f (NX m) (onW f (truths f (u m) (NX m)) (W' m)) ∧
        ((∃ p, KeptIs f (truths f (u m) (NX m)) p ∧ r m = tnum f p (W' m)) ∨ (r m = 0 ∧ W' m = 0 ∧ (truths f (u m) (NX m)).getD (f.length - 1) false = true)) :=
      ⟨fun m => Classical.choose (hNX m), fun m => Classical.choose_spec (hNX m)⟩
    have later : ∀ m, ∃ p, KeptIs f (truths f (u (m + 1)) (NX (m + 1))) p ∧ r (m + 1) = tnum f p (W' (m + 1)) := fun m => by
      rcases (hW' (m + 1)).2.2.2 with h | ⟨h, _⟩
      · exact h
      · rw [(hW' m).2.2.1] at h
        have := tnum_pos f (NX m) (onW f (truths f (u m) (NX m)) (W' m))
        omega
    have link : ∀ m, KeptIs f (truths f (u (m + 1)) (NX (m + 1))) (NX m) ∧ W' (m + 1) = onW f (truths f (u m) (NX m)) (W' m) := fun m => by
      obtain ⟨p, hp, he⟩ := later m
      rw [(hW' m).2.2.1] at he
      obtain ⟨e1, e2⟩ := tnum_inj (onW_le (hW' m).2.1) (hW' (m + 1)).2.1 he
      rw [← e1] at hp
      exact ⟨hp, e2.symm⟩
    have first : W' 0 = 0 ∧ (truths f (u 0) (NX 0)).getD (f.length - 1) false = true := by
      rcases (hW' 0).2.2.2 with ⟨p, _, h⟩ | ⟨_, h⟩
      · rw [r0] at h
        have := tnum_pos f p (W' 0)
        omega
      · exact h
    have hreads : Reads f u (fun m => truths f (u m) (NX m)) (fun m => match m with | 0 => 0 | m + 1 => NX m) :=
      ⟨fun m => rfl, fun m => (link m).1, fun w hw n => waits_fair (W := W') (fun m => (link m).2) (fun n => by
        obtain ⟨m, hm, hgm⟩ := hg (n + 1)
        obtain ⟨k, rfl⟩ : ∃ k, m = k + 1 := ⟨m - 1, by omega⟩
        rw [(hW' k).2.2.1, ← (link k).2, tab_good (hW' k).1 (hW' (k + 1)).2.1] at hgm
        exact ⟨k + 1, by omega, hgm⟩) hw n⟩
    exact (reads_sem hf hreads (f.length - 1) (by omega) 0).1 first.2
  · intro hsem
    obtain ⟨P, hP⟩ : ∃ P : Nat → Nat, ∀ m, KeptIs f (semT f u m) (P m) := ⟨fun m => Classical.choose (kept_ex f (semT f u m)), fun m => Classical.choose_spec (kept_ex f (semT f u m))⟩
    have hT := semT_reads hf hP
    obtain ⟨W, hW0, hW⟩ : ∃ W : Nat → Nat, W 0 = 0 ∧ ∀ m, W (m + 1) = onW f (semT f u m) (W m) := ⟨fun m => Nat.rec 0 (fun m w => onW f (semT f u m) w) m, rfl, fun m => rfl⟩
    have hle : ∀ m, W m ≤ (fair f).length := by
      intro m
      cases m with
      | zero => rw [hW0]; exact Nat.zero_le _
      | succ m => 
        rw [hW]
        have : ∀ m, W m ≤ (fair f).length := by
          intro m
          induction m with
          | zero => rw [hW0]; exact Nat.zero_le _
          | succ m ih => rw [hW]; exact onW_le ih
        exact onW_le (this m)
    refine ⟨fun m => match m with | 0 => 0 | m + 1 => tnum f (P (m + 1)) (W (m + 1)), by simp [tabOf], fun m => ?_, fun n => ?_⟩
    · refine (hs.mem _).2 ((hr _).2 ?_)
      have hc : ((u m).toNat : Int) = u m := by have := hu m; omega
      refine ⟨(u m).toNat, P (m + 1), P m, by have := hu m; omega, (hP (m + 1)).lt, by rw [hc, ← hT m]; exact hP m, ?_⟩
      rw [hc, ← hT m]
      cases m with
      | zero =>
        right
        exact ⟨(semT_get (by omega)).2 hsem, by simp only [hW, hW0]⟩
      | succ m =>
        left
        exact ⟨W (m + 1), hle _, by simp only [hW]⟩
    · obtain ⟨m, h1, h2⟩ := waits_come hW hle (fun w hw n => semT_calm hf hw n) (n + 1)
      obtain ⟨k, rfl⟩ : ∃ k, m = k + 1 := ⟨m - 1, by omega⟩
      exact ⟨k + 1, by omega, (tab_good (hP (k + 1)).lt (hle _)).2 h2⟩
theorem tn_le {f : List Nd} (hf : FmOK f) : tn f ≤ 4 ∧ (fair f).length ≤ tn f := by
  have h1 := hf.few
  unfold tooMany cntT at h1
  rw [Bool.or_eq_false_iff] at h1
  have h2 := of_decide_eq_false h1.2
  refine ⟨by unfold tn tix; rw [List.take_length]; omega, ?_⟩
  have : ∀ n, n ≤ f.length → (fairs f n).length ≤ tix f n := by
    intro n
    induction n with
    | zero => intro _; simp [fairs]
    | succ n ih =>
      intro hn
      have := ih (by omega)
      rw [tix_succ (by omega)]
      unfold fairs at *
      rw [List.range_succ, List.filter_append, List.length_append]
      by_cases hk : isFair (f.getD n nond).k = true
      · have : isTmp (f.getD n nond).k = true := isTmp_iff.2 (by simp only [isFair, Bool.or_eq_true, beq_iff_eq] at hk; omega)
        rw [if_pos this]
        rw [List.filter_cons, if_pos hk]
        simp only [List.filter_nil, List.length_cons, List.length_nil]; omega
      · rw [List.filter_cons, if_neg hk]
        simp only [List.filter_nil, List.length_nil]; omega
  exact this f.length (Nat.le_refl _)
end Go.Proofs.Ytoglgeaiiipchab

namespace Go.Proofs.Ytoglgeaiiipchab

theorem tab_ok {f : List Nd} (hf : FmOK f) {raw ss : List Stp} (hr : TabRaw f raw) (hs : SortOf raw ss) (hl : raw.length ≤ 6000) : ckA (tabOf f ss) = 0 := by
  have ht := tn_le hf
  have h16 : 2 ^ tn f ≤ 16 := Nat.pow_le_pow_right (n := 2) (by decide) ht.1
  have h1 : 1 ≤ 2 ^ tn f := Nat.one_le_two_pow
  have hm : 2 ^ tn f * ((fair f).length + 1) ≤ 16 * 5 := Nat.mul_le_mul h16 (by omega)
  have hst : tnum f (2 ^ tn f) 0 = ((2 ^ tn f * ((fair f).length + 1) + 1 : Nat) : Int) := by
    unfold tnum
    rw [Int.natCast_add, Int.natCast_mul, Int.natCast_add]; simp only [Int.natCast_one]; omega
  have hlen := hs.len
  have range : ∀ p w : Nat, p < 2 ^ tn f → w ≤ (fair f).length → 0 ≤ tnum f p w ∧ tnum f p w < tnum f (2 ^ tn f) 0 := fun p w hp hw => by
    have h2 : (p + 1) * ((fair f).length + 1) ≤ 2 ^ tn f * ((fair f).length + 1) := Nat.mul_le_mul_right _ hp
    rw [Nat.succ_mul] at h2
    have : tnum f p w = ((p * ((fair f).length + 1) + w + 1 : Nat) : Int) := by
      unfold tnum
      rw [Int.natCast_add, Int.natCast_add, Int.natCast_mul, Int.natCast_add]; simp only [Int.natCast_one]; omega
    rw [hst, this]
    omega
  refine ckA_zero.2 ⟨⟨?_, ?_, show (1 : Int) ≤ 8 by decide, show (8 : Int) ≤ 8 by decide, ?_, ?_, ?_, ?_, ?_⟩, hs.so⟩
  · show 1 ≤ tnum f (2 ^ tn f) 0
    omega
  · show tnum f (2 ^ tn f) 0 ≤ 300
    omega
  · show ((tabGs f).length : Int) = tnum f (2 ^ tn f) 0
    rw [hst]; simp [tabGs]
  · show ss.length ≤ 6000
    omega
  · intro q hq
    obtain rfl : q = 0 := by simpa [tabOf] using hq
    show (0 : Int) ≤ 0 ∧ 0 < tnum f (2 ^ tn f) 0
    omega
  · show [(0 : Int)].Pairwise (· < ·)
    simp
  · intro s hs'
    obtain ⟨c, nx, p, hc, hnx, hkp, hor⟩ := (hr _).1 ((hs.mem _).1 hs')
    show (0 ≤ s.f ∧ s.f < tnum f (2 ^ tn f) 0) ∧ (0 ≤ s.t ∧ s.t < tnum f (2 ^ tn f) 0) ∧ 0 ≤ s.l ∧ s.l < 8
    rcases hor with ⟨w, hw, rfl⟩ | ⟨_, rfl⟩
    · exact ⟨range p w hkp.lt hw, range nx _ hnx (onW_le hw), by simp only; omega, by simp only; omega⟩
    · exact ⟨⟨Int.le_refl 0, by simp only; omega⟩, range nx _ hnx (onW_le (Nat.zero_le _)), by simp only; omega, by simp only; omega⟩

structure Mo where
  pr : Int
  ls : List Int
  fs : List Int
  ss : List (List Int)
def ckMRow (n : Int) (r : List Int) : Int := if r.length = 0 then 4 else if (r.any fun q => !btw q 0 (n - 1)) = true then 5 else 0
/-- the first row that is wrong, from row i on -/
def ckMRows (n : Int) : List (List Int) → Int
  | [] => 0
  | r :: rs => if ckMRow n r = 0 then ckMRows n rs else ckMRow n r
def ckM (m : Mo) : Int :=
  if (!btw m.pr 0 3) = true then 3
  else if 12 < (m.ls.length : Int) then 2
  else if m.ls.length = 0 ∨ m.ss.length ≠ m.ls.length then 1
  else if (m.ls.any fun q => !btw q 0 ((2 : Int) ^ m.pr.toNat - 1)) = true then 3
  else if (m.fs.any fun q => !btw q 0 ((m.ls.length : Int) - 1)) = true then 5
  else ckMRows m.ls.length m.ss
structure MoOK (m : Mo) : Prop where
  pr0 : 0 ≤ m.pr
  pr3 : m.pr ≤ 3
  n12 : m.ls.length ≤ 12
  n0 : 0 < m.ls.length
  sl : m.ss.length = m.ls.length
  lr : ∀ q ∈ m.ls, 0 ≤ q ∧ q < 8
  fr : ∀ q ∈ m.fs, 0 ≤ q ∧ q < (m.ls.length : Int)
  rr : ∀ r ∈ m.ss, ∀ q ∈ r, 0 ≤ q ∧ q < (m.ls.length : Int)
theorem ckMRows_zero {n : Int} : ∀ {rs : List (List Int)}, ckMRows n rs = 0 → ∀ r ∈ rs, ckMRow n r = 0
  | [], _, r, h => by simp at h
  | r :: rs, h, q, hq => by
    unfold ckMRows at h
    split at h
    · rename_i h0
      rcases List.mem_cons.1 hq with rfl | hq
      · exact h0
      · exact ckMRows_zero h q hq
    · rename_i h0; exact absurd h h0
theorem any_btw {xs : List Int} {n : Int} (h : ¬ (xs.any fun q => !btw q 0 (n - 1)) = true) : ∀ q ∈ xs, 0 ≤ q ∧ q < n := by
  intro q hq
  simp only [List.any_eq_true, not_exists, not_and, Bool.not_eq_true', Bool.not_eq_false, btw_iff] at h
  have := h q hq
  omega
theorem ckM_ok {m : Mo} (h : ckM m = 0) : MoOK m := by
  unfold ckM at h
  split at h
  · cases h
  rename_i h1
  split at h
  · cases h
  rename_i h2
  split at h
  · cases h
  rename_i h3
  split at h
  · cases h
  rename_i h4
  split at h
  · cases h
  rename_i h5
  simp only [Bool.not_eq_true', Bool.not_eq_false, btw_iff] at h1
  have hp : (2 : Int) ^ m.pr.toNat ≤ 8 := by
    have : m.pr.toNat = 0 ∨ m.pr.toNat = 1 ∨ m.pr.toNat = 2 ∨ m.pr.toNat = 3 := by omega
    rcases this with h | h | h | h <;> rw [h] <;> decide
  refine ⟨h1.1, h1.2, by omega, by omega, by omega, fun q hq => ?_, any_btw h5, fun r hr q hq => ?_⟩
  · have := any_btw h4 q hq
    omega
  · have := ckMRows_zero h r hr
    unfold ckMRow at this
    split at this
    · cases this
    split at this
    · cases this
    rename_i h6
    exact any_btw h6 q hq
def Mo.lab (m : Mo) (q : Int) : Int := m.ls.getD q.toNat 0
def Mo.nxt (m : Mo) (q : Int) : List Int := m.ss.getD q.toNat []
def moRaw (m : Mo) (n : Nat) : List Stp := (List.range n).flatMap fun i => (m.ss.getD i []).map fun t => ⟨(i : Int), m.ls.getD i 0, t⟩
def moFs (m : Mo) (n : Nat) : List Int := ((List.range n).filter fun i : Nat => m.fs.contains (i : Int)).map fun i : Nat => (i : Int)
def moAu (m : Mo) (ss : List Stp) : Au := ⟨(m.ls.length : Nat), 8, moFs m m.ls.length, List.replicate m.ls.length true, ss⟩
theorem moRaw_mem {m : Mo} {n : Nat} {s : Stp} : s ∈ moRaw m n ↔ ∃ i, i < n ∧ ∃ t ∈ m.ss.getD i [], s = ⟨(i : Int), m.ls.getD i 0, t⟩ := by
  unfold moRaw
  simp only [List.mem_flatMap, List.mem_range, List.mem_map]
  constructor
  · rintro ⟨i, hi, t, ht, rfl⟩; exact ⟨i, hi, t, ht, rfl⟩
  · rintro ⟨i, hi, t, ht, rfl⟩; exact ⟨i, hi, t, ht, rfl⟩
theorem mo_fit {m : Mo} (hm : MoOK m) {ss : List Stp} (hs : SortOf (moRaw m m.ls.length) ss) : AuFit (moAu m ss) := by
  have h0 := hm.n0
  refine ⟨by show (1 : Int) ≤ (m.ls.length : Nat); omega, show (1 : Int) ≤ 8 by decide, show (8 : Int) ≤ 8 by decide, by simp [moAu], ?_, ?_, ?_, hs.so⟩
  · intro f hf
    simp only [moAu, moFs, List.mem_map, List.mem_filter, List.mem_range] at hf
    obtain ⟨i, ⟨hi, _⟩, rfl⟩ := hf
    show 0 ≤ (i : Int) ∧ (i : Int) < (m.ls.length : Nat)
    omega
  · show (moFs m m.ls.length).Pairwise (· < ·)
    unfold moFs
    rw [List.pairwise_map, List.pairwise_filter]
    exact List.pairwise_lt_range.imp (fun {a b} h _ _ => by omega)
  · intro s hs'
    obtain ⟨i, hi, t, ht, rfl⟩ := moRaw_mem.1 ((hs.mem s).1 hs')
    show (0 ≤ (i : Int) ∧ (i : Int) < (m.ls.length : Nat)) ∧ (0 ≤ t ∧ t < (m.ls.length : Nat)) ∧ 0 ≤ m.ls.getD i 0 ∧ m.ls.getD i 0 < 8
    have hi' : i < m.ss.length := by rw [hm.sl]; exact hi
    rw [getD_lt hi'] at ht
    refine ⟨by omega, hm.rr _ (List.getElem_mem hi') t ht, ?_⟩
    rw [getD_lt hi]
    exact hm.lr _ (List.getElem_mem hi)
/-- the states that the model may be in, at a place -/
def MoIn (m : Mo) (u : Nat → Int) : Nat → Int → Prop
  | 0, q => q ∈ m.fs
  | k + 1, q => ∃ p, MoIn m u k p ∧ m.lab p = u k ∧ q ∈ m.nxt p
/-- the reference's way of asking -/
def MoGoes (m : Mo) (l : La) : Prop := ∀ k, k < l.h.length + (m.ls.length + 1) * l.l.length → ∃ q, MoIn m l.at k q ∧ m.lab q = l.at k
theorem moIn_range {m : Mo} (hm : MoOK m) {u : Nat → Int} : ∀ {k : Nat} {q : Int}, MoIn m u k q → 0 ≤ q ∧ q < (m.ls.length : Int)
  | 0, q, h => hm.fr q h
  | k + 1, q, h => by
    obtain ⟨p, hp, _, hq⟩ := h
    have := moIn_range hm hp
    have hp' : p.toNat < m.ss.length := by rw [hm.sl]; omega
    unfold Mo.nxt at hq
    rw [getD_lt hp'] at hq
    exact hm.rr _ (List.getElem_mem hp') q hq
theorem mo_edge {m : Mo} {ss : List Stp} (hs : SortOf (moRaw m m.ls.length) ss) {p c q : Int} : (⟨p, c, q⟩ : Stp) ∈ (moAu m ss).ss ↔ (0 ≤ p ∧ p < (m.ls.length : Int)) ∧ m.lab p = c ∧ q ∈ m.nxt p := by
  show _ ∈ ss ↔ _
  rw [hs.mem, moRaw_mem]
  constructor
  · rintro ⟨i, hi, t, ht, he⟩
    have e1 := congrArg Stp.f he
    have e2 := congrArg Stp.l he
    have e3 := congrArg Stp.t he
    simp only at e1 e2 e3
    subst e1 e2 e3
    exact ⟨by omega, by unfold Mo.lab; rw [Int.toNat_natCast], by unfold Mo.nxt; rw [Int.toNat_natCast]; exact ht⟩
  · rintro ⟨h1, rfl, h2⟩
    exact ⟨p.toNat, by omega, q, h2, by unfold Mo.lab; rw [Int.toNat_of_nonneg h1.1]⟩
theorem mo_first {m : Mo} (hm : MoOK m) {ss : List Stp} {q : Int} : q ∈ (moAu m ss).fs ↔ q ∈ m.fs := by
  show q ∈ moFs m m.ls.length ↔ _
  unfold moFs
  simp only [List.mem_map, List.mem_filter, List.mem_range, List.contains_iff_mem]
  constructor
  · rintro ⟨i, ⟨_, h⟩, rfl⟩; exact h
  · intro h
    have := hm.fr q h
    exact ⟨q.toNat, ⟨by omega, by rw [Int.toNat_of_nonneg this.1]; exact h⟩, by omega⟩
theorem mo_good {m : Mo} {ss : List Stp} {q : Int} (h : 0 ≤ q ∧ q < (m.ls.length : Int)) : (moAu m ss).good q := by
  unfold Au.good moAu
  simp only
  refine ⟨h.1, ?_⟩
  rw [List.getD_eq_getElem?_getD, List.getElem?_replicate, if_pos (by omega)]
  rfl
/-- **the automaton takes just what the model goes by** -/
theorem mo_takes {m : Mo} (hm : MoOK m) {ss : List Stp} (hs : SortOf (moRaw m m.ls.length) ss) {l : La} (hp : 0 < l.l.length) : TakesU (moAu m ss) l.at ↔ MoGoes m l := by
  have hfit := mo_fit hm hs
  constructor
  · rintro ⟨r, h0, hst, _⟩ k _
    have hin : ∀ k, MoIn m l.at k (r k) := by
      intro k
      induction k with
      | zero => exact (mo_first hm).1 h0
      | succ k ih =>
        have := (mo_edge hs).1 (hst k)
        exact ⟨r k, ih, this.2.1, this.2.2⟩
    exact ⟨r k, hin k, ((mo_edge hs).1 (hst k)).2.1⟩
  · intro hg
    have way : ∀ k q, MoIn m l.at k q → ∃ f ∈ (moAu m ss).fs, Way (moAu m ss) l.at false 0 f k q := by
      intro k
      induction k with
      | zero => intro q hq; exact ⟨q, (mo_first hm).2 hq, .refl _ _⟩
      | succ k ih =>
        rintro q ⟨p, hpp, hl, hq⟩
        obtain ⟨f, hf, hw⟩ := ih p hpp
        exact ⟨f, hf, .go hw ((mo_edge hs).2 ⟨moIn_range hm hpp, hl, hq⟩)⟩
    have hmul : (m.ls.length + 1) * l.l.length = l.l.length * m.ls.length + l.l.length := by rw [Nat.succ_mul, Nat.mul_comm]
    obtain ⟨q, hq, _⟩ := hg (l.h.length + l.l.length * m.ls.length) (by omega)
    obtain ⟨f, hf, hw⟩ := way _ _ hq
    obtain ⟨r, r0, rq, rs, _⟩ := hw.run
    have hrange : ∀ k, k ≤ l.h.length + l.l.length * m.ls.length → 0 ≤ r k ∧ r k < (m.ls.length : Int) := by
      intro k hk
      cases k with
      | zero => rw [r0]; exact hm.fr f ((mo_first hm).1 hf)
      | succ k =>
        have := (hfit.sr _ (rs k (Nat.zero_le _) (by omega))).2.1
        exact this
    obtain ⟨i, j, hij, hj, he⟩ := pigeon m.ls.length (fun k => (r (l.h.length + l.l.length * k)).toNat) (fun k hk => by
      have hk' := Nat.mul_le_mul_left l.l.length hk
      have := hrange (l.h.length + l.l.length * k) (by omega)
      omega)
    have he : (r (l.h.length + l.l.length * i)).toNat = (r (l.h.length + l.l.length * j)).toNat := he
    have hj' := Nat.mul_le_mul_left l.l.length hj
    have hij' := Nat.mul_le_mul_left l.l.length (show i + 1 ≤ j by omega)
    rw [Nat.mul_succ] at hij'
    have e : r (l.h.length + l.l.length * i) = r (l.h.length + l.l.length * j) := by
      have := hrange (l.h.length + l.l.length * i) (by omega)
      have := hrange (l.h.length + l.l.length * j) (by omega)
      omega
    have w1 := Way.part (a := moAu m ss) (u := l.at) (r := r) (i := 0) (d := l.h.length + l.l.length * i) (fun k a1 a2 => rs k a1 (by omega))
    have w2 := Way.part (a := moAu m ss) (u := l.at) (r := r) (i := l.h.length + l.l.length * i) (d := l.l.length * (j - i)) (fun k a1 a2 => rs k (by omega) (by rw [Nat.mul_sub] at a2; omega))
    have hd : l.h.length + l.l.length * i + l.l.length * (j - i) = l.h.length + l.l.length * j := by rw [Nat.mul_sub]; omega
    rw [Nat.zero_add, r0] at w1
    rw [hd, ← e, ← hd] at w2
    exact takes_of_circle (c := l.l.length * (j - i)) hf w1 (w2.hit_end (by omega) (mo_good (hrange _ (by omega)))) (fun k hk => La.at_add (by omega))
end Go.Proofs.Ytoglgeaiiipchab
