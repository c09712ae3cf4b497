import Derived.Test.YtoglgeaiiipchabGreatDoorLMAKM2
import Derived.Test.YtoglgeaiiipchabGreatDoorLMAKM7
set_option linter.unusedSimpArgs false
set_option linter.unusedVariables false
namespace Go.Proofs.YtoglgeaiiipchabGreatDoor
def Edge (a : Au) (x y : Int) : Prop := ∃ s ∈ a.ss, s.f = x ∧ s.t = y
inductive Path (a : Au) : Int → List Int → Int → Prop
  | one {x c y : Int} : (⟨x, c, y⟩ : Stp) ∈ a.ss → Path a x [c] y
  | cons {x c y z : Int} {cs : List Int} : (⟨x, c, y⟩ : Stp) ∈ a.ss → Path a y cs z → Path a x (c :: cs) z
theorem Path.pos {a : Au} {x z : Int} {cs : List Int} (h : Path a x cs z) : 0 < cs.length := by cases h <;> simp
theorem Path.letters {a : Au} (hf : AuFit a) {x z : Int} {cs : List Int} (h : Path a x cs z) : ∀ c ∈ cs, 0 ≤ c ∧ c < a.le := by
  induction h with
  | one h => intro c hc; simp only [List.mem_singleton] at hc; subst hc; exact (hf.sr _ h).2.2
  | cons h _ ih =>
    intro c hc
    rcases List.mem_cons.1 hc with rfl | hc
    · exact (hf.sr _ h).2.2
    · exact ih c hc
theorem Path.way {a : Au} {u : Nat → Int} {x z : Int} {cs : List Int} (h : Path a x cs z) : ∀ i, (∀ k, k < cs.length → u (i + k) = cs.getD k 0) → Way a u false i x (i + cs.length) z := by
  induction h with
  | @one x c y h =>
    intro i hu
    have := hu 0 (by simp)
    refine .go (.refl i x) ?_
    rw [Nat.add_zero] at this
    rw [this]; exact h
  | @cons x c y z cs h _ ih =>
    intro i hu
    have h0 := hu 0 (by simp)
    rw [Nat.add_zero] at h0
    have w1 : Way a u false i x (i + 1) y := .go (.refl i x) (by rw [h0]; exact h)
    have := ih (i + 1) (fun k hk => by
      have := hu (k + 1) (by simp; omega)
      rw [show i + 1 + k = i + (k + 1) by omega, this]
      rfl)
    have := w1.trans this
    rwa [show i + 1 + cs.length = i + (c :: cs).length by simp; omega] at this
structure Told (a : Au) (l : La) : Prop where
  is : ∃ n : Int, a.good n ∧ (l.h = [] ∧ n ∈ a.fs ∨ ∃ f ∈ a.fs, Path a f l.h n) ∧ Path a n l.l n
  h : (l.h.length : Int) ≤ a.st
  l : (l.l.length : Int) ≤ a.st
theorem La.at_head {l : La} {k : Nat} (h : k < l.h.length) : l.at k = l.h.getD k 0 := by unfold La.at; rw [if_pos h]
theorem La.at_loop {l : La} {k : Nat} (h : k < l.l.length) : l.at (l.h.length + k) = l.l.getD k 0 := by
  unfold La.at
  rw [if_neg (by omega), show l.h.length + k - l.h.length = k by omega, Nat.mod_eq_of_lt h]
theorem Told.takes {a : Au} {l : La} (h : Told a l) : TakesU a l.at := by
  obtain ⟨n, hg, hh, hl⟩ := h.is
  have w2 := (hl.way (u := l.at) l.h.length (fun k hk => La.at_loop hk)).hit_end (by have := hl.pos; omega) hg
  have per : ∀ i, l.h.length ≤ i → l.at (i + l.l.length) = l.at i := fun i hi => by have := La.at_add (m := 1) hi; rwa [Nat.mul_one] at this
  rcases hh with ⟨h0, hn⟩ | ⟨f, hf, hp⟩
  · rw [h0] at w2 per
    exact takes_of_circle (k := 0) hn (.refl 0 n) w2 per
  · have w1 := hp.way (u := l.at) 0 (fun k hk => by rw [Nat.zero_add]; exact La.at_head hk)
    rw [Nat.zero_add] at w1
    exact takes_of_circle hf w1 w2 per
theorem Told.fits {a : Au} (hf : AuFit a) {l : La} (h : Told a l) : (∀ c ∈ l.h, 0 ≤ c ∧ c < a.le) ∧ (∀ c ∈ l.l, 0 ≤ c ∧ c < a.le) ∧ 0 < l.l.length := by
  obtain ⟨n, hg, hh, hl⟩ := h.is
  refine ⟨?_, hl.letters hf, hl.pos⟩
  rcases hh with ⟨h0, _⟩ | ⟨f, _, hp⟩
  · rw [h0]; intro c hc; simp at hc
  · exact hp.letters hf
theorem takes_some {a : Au} (hf : AuFit a) {u : Nat → Int} (h : TakesU a u) : ∃ q : Int, (0 ≤ q ∧ q < a.st) ∧ Rch a q ∧ a.good q ∧ Plus (Edge a) q q := by
  obtain ⟨r, h0, hs, hg⟩ := h
  have hr : ∀ i, 0 ≤ r i ∧ r i < a.st := fun i => (hf.sr _ (hs i)).1
  have rch : ∀ i, Rch a (r i) := by
    intro i
    induction i with
    | zero => exact .first h0
    | succ i ih => exact .step (s := ⟨r i, u i, r (i + 1)⟩) ih (hs i)
  obtain ⟨g, _, hgr⟩ := rise (P := fun _ m => a.good (r m)) (fun n => by obtain ⟨m, h1, h2⟩ := hg (n + 1); exact ⟨m, h1, h2⟩) 0
  obtain ⟨i, j, hij, _, he⟩ := pigeon a.st.toNat (fun k => (r (g (k + 1))).toNat) (fun k _ => by have := hr (g (k + 1)); omega)
  have he : (r (g (i + 1))).toNat = (r (g (j + 1))).toNat := he
  have e2 : r (g (i + 1)) = r (g (j + 1)) := by
    have h2 := hr (g (i + 1))
    have h3 := hr (g (j + 1))
    omega
  have hlt := rise_lt (fun k => (hgr k).1) (show i + 1 < j + 1 by omega)
  refine ⟨r (g (i + 1)), hr _, rch _, (hgr i).2, ?_⟩
  have pl : ∀ d k, Plus (Edge a) (r k) (r (k + d + 1)) := by
    intro d
    induction d with
    | zero => intro k; exact .one ⟨_, hs k, rfl, rfl⟩
    | succ d ih => intro k; exact (ih k).on ⟨_, hs (k + d + 1), rfl, rfl⟩
  have := pl (g (j + 1) - g (i + 1) - 1) (g (i + 1))
  rwa [show g (i + 1) + (g (j + 1) - g (i + 1) - 1) + 1 = g (j + 1) by omega, ← e2] at this
theorem nodup_few : ∀ (N : Nat) (xs : List Nat), xs.Nodup → (∀ x ∈ xs, x < N) → xs.length ≤ N
  | 0, xs, _, h => by
    cases xs with
    | nil => simp
    | cons x xs => exact absurd (h x (by simp)) (by omega)
  | N + 1, xs, hn, h => by
    have h1 := nodup_few N (xs.filter (· != N)) (hn.filter _) (fun x hx => by
      obtain ⟨a1, a2⟩ := List.mem_filter.1 hx
      have := h x a1
      simp only [bne_iff_ne, ne_eq] at a2
      omega)
    have h2 : xs.length ≤ (xs.filter (· != N)).length + xs.count N := by
      clear h1 hn h
      induction xs with
      | nil => simp
      | cons y ys ih =>
        by_cases hy : y = N
        · subst hy; simp; omega
        · simp [hy]; omega
    have h3 : xs.count N ≤ 1 := List.nodup_iff_count.1 hn N
    omega
structure ByOK (a : Au) (fr : List Int) (D : List (Int × Stp)) : Prop where
  nd : (D.map Prod.fst).Nodup
  by_ : ∀ (i : Nat) (h : i < D.length), D[i].2 ∈ a.ss ∧ D[i].2.t = D[i].1 ∧ (D[i].2.f ∈ fr ∨ ∃ j, j < i ∧ ∃ h' : j < D.length, D[j].1 = D[i].2.f)
theorem ByOK.nil (a : Au) (fr : List Int) : ByOK a fr [] := ⟨.nil, fun i h => absurd h (by simp)⟩
theorem ByOK.add {a : Au} {fr : List Int} {D : List (Int × Stp)} (h : ByOK a fr D) {s : Stp} (hs : s ∈ a.ss) (hn : s.t ∉ D.map Prod.fst) (hf : s.f ∈ fr ∨ s.f ∈ D.map Prod.fst) : ByOK a fr (D ++ [(s.t, s)]) := by
  refine ⟨?_, fun i hi => ?_⟩
  · rw [List.map_append, List.nodup_append]
    refine ⟨h.nd, by simp, fun x hx y hy => ?_⟩
    simp only [List.map_cons, List.map_nil, List.mem_singleton] at hy
    rintro rfl; subst hy; exact hn hx
  · rw [List.length_append] at hi
    simp only [List.length_cons, List.length_nil] at hi
    rcases Nat.lt_or_ge i D.length with h1 | h1
    · rw [List.getElem_append_left h1]
      obtain ⟨a1, a2, a3⟩ := h.by_ i h1
      refine ⟨a1, a2, a3.imp id fun ⟨j, j1, j2, j3⟩ => ⟨j, j1, by rw [List.length_append]; omega, by rw [List.getElem_append_left j2]; exact j3⟩⟩
    · obtain rfl : i = D.length := by omega
      have e : (D ++ [(s.t, s)])[D.length]'(by rw [List.length_append]; simp) = (s.t, s) := by simp
      rw [e]
      refine ⟨hs, rfl, hf.imp id fun hm => ?_⟩
      obtain ⟨j, j1, j2⟩ := List.getElem_of_mem hm
      rw [List.length_map] at j1
      rw [List.getElem_map] at j2
      exact ⟨j, j1, by rw [List.length_append]; omega, by rw [List.getElem_append_left j1]; exact j2⟩
theorem ByOK.len {a : Au} (hf : AuFit a) {fr : List Int} {D : List (Int × Stp)} (h : ByOK a fr D) : (D.length : Int) ≤ a.st := by
  have h1 := hf.st1
  have key : ∀ (xs : List Int), xs.Nodup → (∀ x ∈ xs, 0 ≤ x ∧ x < a.st) → (xs.length : Int) ≤ a.st := by
    intro xs hx hr
    have hnd : (xs.map Int.toNat).Nodup := by
      unfold List.Nodup at *
      rw [List.pairwise_map]
      exact hx.imp_of_mem (fun {x y} hx hy hne he => hne (by have := hr x hx; have := hr y hy; omega))
    have := nodup_few a.st.toNat (xs.map Int.toNat) hnd (fun x hx => by
      obtain ⟨y, hy, rfl⟩ := List.mem_map.1 hx
      have := hr y hy
      omega)
    rw [List.length_map] at this
    omega
  have := key (D.map Prod.fst) h.nd (fun x hx => by
    obtain ⟨i, h1, h2⟩ := List.getElem_of_mem hx
    rw [List.length_map] at h1
    rw [List.getElem_map] at h2
    obtain ⟨a1, a2, _⟩ := h.by_ i h1
    have := (hf.sr _ a1).2.1
    rw [a2, h2] at this
    exact this)
  rwa [List.length_map] at this
theorem ByOK.back {a : Au} {fr : List Int} {D : List (Int × Stp)} (h : ByOK a fr D) {first : Int → Bool} (hfr : ∀ x ∈ fr, first x = true) {i : Nat} (hi : i < D.length) (hno : first D[i].2.f = false) : ∃ j, j < i ∧ ∃ h' : j < D.length, D[j].1 = D[i].2.f := by
  rcases (h.by_ i hi).2.2 with h1 | h1
  · rw [hfr _ h1] at hno; cases hno
  · exact h1
end Go.Proofs.YtoglgeaiiipchabGreatDoor

namespace Go.Proofs.YtoglgeaiiipchabGreatDoor
def tix (f : List Nd) (i : Nat) : Nat := ((f.take i).filter fun x => isTmp x.k).length
def tn (f : List Nd) : Nat := tix f f.length
def isFair (k : Int) : Bool := (k == 7) || (k == 8)
def fairs (f : List Nd) (n : Nat) : List Nat := (List.range n).filter fun i => isFair (f.getD i nond).k
def fair (f : List Nd) : List Nat := fairs f f.length
def trAt (f : List Nd) (c : Int) (nx : Nat) (out : List Bool) (i : Nat) : Bool :=
  let x := f.getD i nond
  let later := isTmp x.k && nx.testBit (tix f i)
  if x.k = 1 then true
  else if x.k = 2 then bitOf c x.n.toNat
  else if x.k = 3 then !out.getD x.a.toNat false
  else if x.k = 4 then out.getD x.a.toNat false && out.getD x.b.toNat false
  else if x.k = 5 then out.getD x.a.toNat false || out.getD x.b.toNat false
  else if x.k = 6 then later
  else if x.k = 7 then out.getD x.b.toNat false || out.getD x.a.toNat false && later
  else out.getD x.b.toNat false && (out.getD x.a.toNat false || later)
def trs (f : List Nd) (c : Int) (nx : Nat) : Nat → List Bool
  | 0 => []
  | k + 1 => trs f c nx k ++ [trAt f c nx (trs f c nx k) k]
def truths (f : List Nd) (c : Int) (nx : Nat) : List Bool := trs f c nx f.length
def keptV (f : List Nd) (t : List Bool) (i : Nat) : Bool := let x := f.getD i nond; if x.k = 6 then t.getD x.a.toNat false else t.getD i false
structure KeptIs (f : List Nd) (t : List Bool) (p : Nat) : Prop where
  lt : p < 2 ^ tn f
  bit : ∀ i, i < f.length → isTmp (f.getD i nond).k = true → p.testBit (tix f i) = keptV f t i
def calmV (f : List Nd) (t : List Bool) (i : Nat) : Bool := let x := f.getD i nond; if x.k = 7 then !t.getD i false || t.getD x.b.toNat false else t.getD i false || !t.getD x.b.toNat false
def adv (f : List Nd) (t : List Bool) : Nat → Nat → Nat
  | 0, w => w
  | m + 1, w => if w < (fair f).length ∧ calmV f t ((fair f).getD w 0) = true then adv f t m (w + 1) else w
def onW (f : List Nd) (t : List Bool) (w : Nat) : Nat := adv f t (fair f).length (if w = (fair f).length then 0 else w)
def tnum (f : List Nd) (p w : Nat) : Int := 1 + (p : Int) * ((fair f).length + 1) + w
def TabRaw (f : List Nd) (raw : List Stp) : Prop := ∀ s, s ∈ raw ↔ ∃ (c nx p : Nat), c < 8 ∧ nx < 2 ^ tn f ∧ KeptIs f (truths f c nx) p ∧
  ((∃ w, w ≤ (fair f).length ∧ s = ⟨tnum f p w, c, tnum f nx (onW f (truths f c nx) w)⟩) ∨
    ((truths f c nx).getD (f.length - 1) false = true ∧ s = ⟨0, c, tnum f nx (onW f (truths f c nx) 0)⟩))
def tabGs (f : List Nd) : List Bool := (List.range (2 ^ tn f * ((fair f).length + 1) + 1)).map fun i => decide (i ≠ 0 ∧ (i - 1) % ((fair f).length + 1) = (fair f).length)
def tabOf (f : List Nd) (ss : List Stp) : Au := ⟨tnum f (2 ^ tn f) 0, 8, [0], tabGs f, ss⟩
theorem tix_succ {f : List Nd} {i : Nat} (h : i < f.length) : tix f (i + 1) = tix f i + if isTmp (f.getD i nond).k = true then 1 else 0 := by
  unfold tix
  rw [List.take_succ_eq_append_getElem h, List.filter_append, List.length_append, List.getD_eq_getElem?_getD, List.getElem?_eq_getElem h]
  by_cases hx : isTmp f[i].k = true <;> simp [hx]
theorem tix_mono {f : List Nd} {i j : Nat} (h : i ≤ j) (hj : j ≤ f.length) : tix f i ≤ tix f j := by
  obtain ⟨d, rfl⟩ : ∃ d, j = i + d := ⟨j - i, by omega⟩
  induction d with
  | zero => exact Nat.le_refl _
  | succ d ih =>
    have := ih (by omega) (by omega)
    have := tix_succ (f := f) (i := i + d) (by omega)
    rw [← Nat.add_assoc]; omega
theorem tix_lt {f : List Nd} {i j : Nat} (hi : isTmp (f.getD i nond).k = true) (h : i < j) (hj : j ≤ f.length) : tix f i < tix f j := by
  have h1 := tix_succ (f := f) (i := i) (by omega)
  rw [if_pos hi] at h1
  have := tix_mono (f := f) (show i + 1 ≤ j by omega) hj
  omega
theorem tix_inj {f : List Nd} {i j : Nat} (hi : isTmp (f.getD i nond).k = true) (hj : isTmp (f.getD j nond).k = true) (hil : i < f.length) (hjl : j < f.length) (h : tix f i = tix f j) : i = j := by
  rcases Nat.lt_trichotomy i j with h1 | h1 | h1
  · have := tix_lt hi h1 (by omega); omega
  · exact h1
  · have := tix_lt hj h1 (by omega); omega
theorem tix_tn {f : List Nd} {i : Nat} (hi : i < f.length) (ht : isTmp (f.getD i nond).k = true) : tix f i < tn f := tix_lt ht hi (Nat.le_refl _)
theorem tix_onto {f : List Nd} : ∀ (n : Nat), n ≤ f.length → ∀ k, k < tix f n → ∃ i, i < n ∧ isTmp (f.getD i nond).k = true ∧ tix f i = k
  | 0, _, k, h => absurd h (by simp [tix])
  | n + 1, hn, k, h => by
    rw [tix_succ (by omega)] at h
    by_cases hk : k < tix f n
    · obtain ⟨i, h1, h2, h3⟩ := tix_onto n (by omega) k hk
      exact ⟨i, by omega, h2, h3⟩
    · split at h
      · rename_i ht; exact ⟨n, by omega, ht, by omega⟩
      · omega
theorem kept_unique {f : List Nd} {t : List Bool} {p q : Nat} (hp : KeptIs f t p) (hq : KeptIs f t q) : p = q := by
  refine Nat.eq_of_testBit_eq fun k => ?_
  by_cases hk : k < tn f
  · obtain ⟨i, h1, h2, rfl⟩ := tix_onto f.length (Nat.le_refl _) k hk
    rw [hp.bit i h1 h2, hq.bit i h1 h2]
  · have : 2 ^ tn f ≤ 2 ^ k := Nat.pow_le_pow_right (by decide) (by omega)
    have := hp.lt; have := hq.lt
    rw [Nat.testBit_lt_two_pow (by omega), Nat.testBit_lt_two_pow (by omega)]
theorem bits_ex (n : Nat) (v : Nat → Bool) : ∃ p, p < 2 ^ n ∧ ∀ k, k < n → p.testBit k = v k := by
  induction n with
  | zero => exact ⟨0, by simp, fun k h => absurd h (by omega)⟩
  | succ n ih =>
    obtain ⟨p, h1, h2⟩ := ih
    cases hv : v n with
    | false =>
      refine ⟨p, by rw [Nat.pow_succ]; omega, fun k hk => ?_⟩
      rcases Nat.lt_or_ge k n with h | h
      · exact h2 k h
      · obtain rfl : k = n := by omega
        rw [hv, Nat.testBit_lt_two_pow h1]
    | true =>
      refine ⟨2 ^ n + p, by rw [Nat.pow_succ]; omega, fun k hk => ?_⟩
      rcases Nat.lt_or_ge k n with h | h
      · rw [Nat.testBit_two_pow_add_gt h]; exact h2 k h
      · obtain rfl : k = n := by omega
        rw [hv, Nat.testBit_two_pow_add_eq, Nat.testBit_lt_two_pow h1]; rfl
theorem kept_ex (f : List Nd) (t : List Bool) : ∃ p, KeptIs f t p := by
  obtain ⟨p, h1, h2⟩ := bits_ex (tn f) (fun k => decide (∃ i, i < f.length ∧ isTmp (f.getD i nond).k = true ∧ tix f i = k ∧ keptV f t i = true))
  refine ⟨p, h1, fun i hi ht => ?_⟩
  rw [h2 _ (tix_tn hi ht)]
  cases hv : keptV f t i with
  | true => simp only [decide_eq_true_eq]; exact ⟨i, hi, ht, rfl, hv⟩
  | false =>
    simp only [decide_eq_false_iff_not, not_exists, not_and]
    intro j hj htj he hvj
    obtain rfl := tix_inj htj ht hj hi he
    rw [hv] at hvj; cases hvj
theorem trs_len (f : List Nd) (c : Int) (nx : Nat) : ∀ k, (trs f c nx k).length = k
  | 0 => rfl
  | k + 1 => by rw [trs, List.length_append, trs_len f c nx k]; rfl
theorem trs_get (f : List Nd) (c : Int) (nx : Nat) : ∀ (k i : Nat), i < k → (trs f c nx k).getD i false = trAt f c nx (trs f c nx i) i
  | 0, i, h => absurd h (by omega)
  | k + 1, i, h => by
    rw [trs, List.getD_eq_getElem?_getD]
    rcases Nat.lt_or_ge i k with h1 | h1
    · rw [List.getElem?_append_left (by rw [trs_len]; exact h1), ← List.getD_eq_getElem?_getD]
      exact trs_get f c nx k i h1
    · obtain rfl : i = k := by omega
      rw [List.getElem?_append_right (by rw [trs_len]; exact Nat.le_refl _), trs_len]
      simp
theorem truth_at {f : List Nd} (hf : FmOK f) {c : Int} {nx i : Nat} (hi : i < f.length) : (truths f c nx).getD i false = trAt f c nx (truths f c nx) i := by
  have hx := ndErr_zero.1 (hf.nd i hi)
  have e : f.getD i nond = f[i] := by rw [List.getD_eq_getElem?_getD, List.getElem?_eq_getElem hi]; rfl
  have h1 : (truths f c nx).getD i false = trAt f c nx (trs f c nx i) i := trs_get f c nx f.length i hi
  rw [h1]
  have ge : ∀ j, j < i → (trs f c nx i).getD j false = (truths f c nx).getD j false := fun j hj => by
    unfold truths
    rw [trs_get f c nx i j hj, trs_get f c nx f.length j (by omega)]
  unfold trAt
  rw [e]
  have ha : 3 ≤ f[i].k → (trs f c nx i).getD f[i].a.toNat false = (truths f c nx).getD f[i].a.toNat false := fun h => by
    have := hx.a h
    exact ge _ (by omega)
  have hb : (f[i].k = 4 ∨ f[i].k = 5 ∨ f[i].k = 7 ∨ f[i].k = 8) → (trs f c nx i).getD f[i].b.toNat false = (truths f c nx).getD f[i].b.toNat false := fun h => by
    have := hx.b h
    exact ge _ (by omega)
  have hk := hx.k
  simp only
  split
  · rfl
  · split
    · rfl
    · split
      · rw [ha (by omega)]
      · split
        · rw [ha (by omega), hb (by omega)]
        · split
          · rw [ha (by omega), hb (by omega)]
          · split
            · rfl
            · split
              · rw [ha (by omega), hb (by omega)]
              · rw [ha (by omega), hb (by omega)]
theorem sem_at {f : List Nd} (hf : FmOK f) {u : Nat → Int} {i m : Nat} (hi : i < f.length) : ((treeAt f i).sem u m ↔
    let x := f.getD i nond
    if x.k = 1 then True
    else if x.k = 2 then bitOf (u m) x.n.toNat = true
    else if x.k = 3 then ¬ (treeAt f x.a.toNat).sem u m
    else if x.k = 4 then (treeAt f x.a.toNat).sem u m ∧ (treeAt f x.b.toNat).sem u m
    else if x.k = 5 then (treeAt f x.a.toNat).sem u m ∨ (treeAt f x.b.toNat).sem u m
    else if x.k = 6 then (treeAt f x.a.toNat).sem u (m + 1)
    else if x.k = 7 then ∃ j, m ≤ j ∧ (treeAt f x.b.toNat).sem u j ∧ ∀ q, m ≤ q → q < j → (treeAt f x.a.toNat).sem u q
    else ∀ j, m ≤ j → (treeAt f x.b.toNat).sem u j ∨ ∃ q, m ≤ q ∧ q < j ∧ (treeAt f x.a.toNat).sem u q) := by
  have hx := ndErr_zero.1 (hf.nd i hi)
  have e : f.getD i nond = f[i] := by rw [List.getD_eq_getElem?_getD, List.getElem?_eq_getElem hi]; rfl
  rw [show treeAt f i = treeN (treesOf f i) (f.getD i nond) from rfl]
  unfold treeN
  rw [e]
  have ha : 3 ≤ f[i].k → (treesOf f i).getD f[i].a.toNat .tt = treeAt f f[i].a.toNat := fun h => by
    have := hx.a h
    exact treesOf_get _ _ _ (by omega)
  have hb : (f[i].k = 4 ∨ f[i].k = 5 ∨ f[i].k = 7 ∨ f[i].k = 8) → (treesOf f i).getD f[i].b.toNat .tt = treeAt f f[i].b.toNat := fun h => by
    have := hx.b h
    exact treesOf_get _ _ _ (by omega)
  have hk := hx.k
  generalize f[i] = x at *
  by_cases h1 : x.k = 1
  · simp only [h1, if_true, Fm.sem]
  by_cases h2 : x.k = 2
  · simp only [h2, show ¬ (2 : Int) = 1 by decide, if_true, if_false, Fm.sem]
  by_cases h3 : x.k = 3
  · simp only [h3, show ¬ (3 : Int) = 1 by decide, show ¬ (3 : Int) = 2 by decide, if_true, if_false, Fm.sem, ha (by omega)]
  by_cases h6 : x.k = 6
  · simp only [h6, show ¬ (6 : Int) = 1 by decide, show ¬ (6 : Int) = 2 by decide, show ¬ (6 : Int) = 3 by decide, show ¬ (6 : Int) = 4 by decide, show ¬ (6 : Int) = 5 by decide, if_true, if_false, Fm.sem, ha (by omega)]
  have hb := hb (by omega)
  have ha := ha (by omega)
  simp only [h1, h2, h3, h6, if_false, ha, hb, Fm.sem]
structure Reads (f : List Nd) (u : Nat → Int) (T : Nat → List Bool) (P : Nat → Nat) : Prop where
  tr : ∀ m, T m = truths f (u m) (P (m + 1))
  kp : ∀ m, KeptIs f (T (m + 1)) (P (m + 1))
  fa : ∀ w, w < (fair f).length → ∀ n, ∃ m, n ≤ m ∧ calmV f (T m) ((fair f).getD w 0) = true
theorem fair_mem {f : List Nd} {i : Nat} (hi : i < f.length) (hk : (f.getD i nond).k = 7 ∨ (f.getD i nond).k = 8) : ∃ w, w < (fair f).length ∧ (fair f).getD w 0 = i := by
  have : i ∈ fair f := by
    unfold fair fairs isFair
    rw [List.mem_filter]
    exact ⟨List.mem_range.2 hi, by simpa using hk⟩
  obtain ⟨w, h1, h2⟩ := List.getElem_of_mem this
  exact ⟨w, h1, by rw [getD_lt h1]; exact h2⟩
theorem isTmp_iff {k : Int} : isTmp k = true ↔ 6 ≤ k ∧ k ≤ 8 := btw_iff k 6 8
theorem reads_sem {f : List Nd} (hf : FmOK f) {u : Nat → Int} {T : Nat → List Bool} {P : Nat → Nat} (h : Reads f u T P) : ∀ i, i < f.length → ∀ m, ((T m).getD i false = true ↔ (treeAt f i).sem u m) := by
  intro i
  induction i using Nat.strongRecOn with
  | _ i ih =>
    intro hi
    have hx := ndErr_zero.1 (hf.nd i hi)
    have e : f.getD i nond = f[i] := by rw [List.getD_eq_getElem?_getD, List.getElem?_eq_getElem hi]; rfl
    have step : ∀ m, (T m).getD i false = trAt f (u m) (P (m + 1)) (T m) i := fun m => by
      have := truth_at (c := u m) (nx := P (m + 1)) hf hi
      rwa [← h.tr m] at this
    have hfa := fair_mem hi
    have hkp := fun m => (h.kp m).bit i hi
    simp only [sem_at hf hi]
    unfold trAt at step
    unfold keptV at hkp
    rw [e] at step hkp hfa ⊢
    have ha : 3 ≤ f[i].k → ∀ m, (T m).getD f[i].a.toNat false = true ↔ (treeAt f f[i].a.toNat).sem u m := fun h => by
      have := hx.a h
      exact ih _ (by omega) (by omega)
    have hb : (f[i].k = 4 ∨ f[i].k = 5 ∨ f[i].k = 7 ∨ f[i].k = 8) → ∀ m, (T m).getD f[i].b.toNat false = true ↔ (treeAt f f[i].b.toNat).sem u m := fun h => by
      have := hx.b h
      exact ih _ (by omega) (by omega)
    have calm : ∀ w, (fair f).getD w 0 = i → ∀ m, calmV f (T m) ((fair f).getD w 0) = if f[i].k = 7 then !(T m).getD i false || (T m).getD f[i].b.toNat false else (T m).getD i false || !(T m).getD f[i].b.toNat false := fun w hw m => by
      unfold calmV
      rw [hw, e]
    have hk := hx.k
    generalize f[i] = x at *
    simp only at step
    by_cases h1 : x.k = 1
    · intro m; rw [step]; simp [h1]
    by_cases h2 : x.k = 2
    · intro m; rw [step]; simp [h2]
    by_cases h3 : x.k = 3
    · intro m; rw [step]
      simp only [h3, show ¬ (3 : Int) = 1 by decide, show ¬ (3 : Int) = 2 by decide, if_true, if_false]
      rw [Bool.not_eq_true', ← ha (by omega)]
      exact Bool.not_eq_true _ ▸ Iff.rfl
    have ha := ha (by omega)
    by_cases h6 : x.k = 6
    · intro m; rw [step]
      have ht : isTmp x.k = true := isTmp_iff.2 (by omega)
      have := hkp m ht
      simp only [h6, if_true] at this
      simp only [h6, show ¬ (6 : Int) = 1 by decide, show ¬ (6 : Int) = 2 by decide, show ¬ (6 : Int) = 3 by decide, show ¬ (6 : Int) = 4 by decide, show ¬ (6 : Int) = 5 by decide, if_true, if_false]
      rw [this, show isTmp 6 = true from rfl, Bool.true_and]
      exact ha (m + 1)
    have hb := hb (by omega)
    by_cases h4 : x.k = 4
    · intro m; rw [step]
      simp only [h4, show ¬ (4 : Int) = 1 by decide, show ¬ (4 : Int) = 2 by decide, show ¬ (4 : Int) = 3 by decide, if_true, if_false, Bool.and_eq_true, ha, hb]
    by_cases h5 : x.k = 5
    · intro m; rw [step]
      simp only [h5, show ¬ (5 : Int) = 1 by decide, show ¬ (5 : Int) = 2 by decide, show ¬ (5 : Int) = 3 by decide, show ¬ (5 : Int) = 4 by decide, if_true, if_false, Bool.or_eq_true, ha, hb]
    have ht : isTmp x.k = true := isTmp_iff.2 (by omega)
    have hkp := fun m => hkp m ht
    simp only [h6, if_false] at hkp
    obtain ⟨w, hw, hwi⟩ := hfa (by omega)
    have hfair := h.fa w hw
    simp only [calm w hwi] at hfair
    simp only [h1, h2, h3, h4, h5, h6, if_false] at step ⊢
    by_cases h7 : x.k = 7
    · simp only [h7, if_true, if_false, show isTmp 7 = true from rfl, Bool.true_and] at step hfair ⊢
      have step : ∀ m, ((T m).getD i false = true ↔ (treeAt f x.b.toNat).sem u m ∨ (treeAt f x.a.toNat).sem u m ∧ (T (m + 1)).getD i false = true) := fun m => by
        rw [step m, hkp m, Bool.or_eq_true, Bool.and_eq_true, ha, hb]
      have hfair : ∀ n, ∃ m, n ≤ m ∧ ((T m).getD i false = true → (treeAt f x.b.toNat).sem u m) := fun n => by
        obtain ⟨m, h1, h2⟩ := hfair n
        refine ⟨m, h1, fun h => ?_⟩
        rw [h] at h2
        exact (hb m).1 (by simpa using h2)
      generalize (treeAt f x.a.toNat).sem u = A at *
      generalize (treeAt f x.b.toNat).sem u = B at *
      intro m
      constructor
      · intro hm
        obtain ⟨n, hn, hc⟩ := hfair m
        apply Classical.byContradiction
        intro hno
        have all : ∀ d, (T (m + d)).getD i false = true ∧ ∀ q, m ≤ q → q < m + d → A q := by
          intro d
          induction d with
          | zero => exact ⟨hm, fun q h1 h2 => absurd h2 (by omega)⟩
          | succ d ihd =>
            rcases (step _).1 ihd.1 with hB | ⟨hA, hT⟩
            · exact absurd ⟨m + d, by omega, hB, ihd.2⟩ hno
            · refine ⟨hT, fun q h1 h2 => ?_⟩
              rcases Nat.lt_or_ge q (m + d) with h3 | h3
              · exact ihd.2 q h1 h3
              · obtain rfl : q = m + d := by omega
                exact hA
        have := all (n - m)
        rw [show m + (n - m) = n by omega] at this
        exact hno ⟨n, hn, hc this.1, this.2⟩
      · rintro ⟨j, hj, hB, hA⟩
        have : ∀ d, d ≤ j - m → (T (j - d)).getD i false = true := by
          intro d
          induction d with
          | zero => intro _; exact (step _).2 (.inl hB)
          | succ d ihd =>
            intro hd
            refine (step _).2 (.inr ⟨hA _ (by omega) (by omega), ?_⟩)
            have := ihd (by omega)
            rwa [show j - (d + 1) + 1 = j - d by omega]
        have := this (j - m) (Nat.le_refl _)
        rwa [show j - (j - m) = m by omega] at this
    · simp only [h7, if_false, ht, Bool.true_and] at step hfair ⊢
      have step : ∀ m, ((T m).getD i false = true ↔ (treeAt f x.b.toNat).sem u m ∧ ((treeAt f x.a.toNat).sem u m ∨ (T (m + 1)).getD i false = true)) := fun m => by
        rw [step m, hkp m, Bool.and_eq_true, Bool.or_eq_true, ha, hb]
      have hfair : ∀ n, ∃ m, n ≤ m ∧ ((treeAt f x.b.toNat).sem u m → (T m).getD i false = true) := fun n => by
        obtain ⟨m, h1, h2⟩ := hfair n
        refine ⟨m, h1, fun h => ?_⟩
        rw [(hb m).2 h] at h2
        simpa using h2
      generalize (treeAt f x.a.toNat).sem u = A at *
      generalize (treeAt f x.b.toNat).sem u = B at *
      intro m
      constructor
      · intro hm j hj
        apply Classical.byContradiction
        intro hno
        simp only [not_or, not_exists, not_and] at hno
        have all : ∀ d, d ≤ j - m → (T (m + d)).getD i false = true := by
          intro d
          induction d with
          | zero => intro _; exact hm
          | succ d ihd =>
            intro hd
            rcases ((step _).1 (ihd (by omega))).2 with hA | hT
            · exact absurd hA (hno.2 _ (by omega) (by omega))
            · exact hT
        have := all (j - m) (Nat.le_refl _)
        rw [show m + (j - m) = j by omega] at this
        exact hno.1 ((step _).1 this).1
      · intro hs
        apply Classical.byContradiction
        intro hm
        have all : ∀ d, (T (m + d)).getD i false ≠ true ∧ ∀ q, m ≤ q → q < m + d → ¬ A q := by
          intro d
          induction d with
          | zero => exact ⟨hm, fun q h1 h2 => absurd h2 (by omega)⟩
          | succ d ihd =>
            have hB : B (m + d) := (hs (m + d) (by omega)).resolve_right (fun ⟨q, h1, h2, h3⟩ => ihd.2 q h1 h2 h3)
            have hnA : ¬ A (m + d) := fun hA => ihd.1 ((step _).2 ⟨hB, .inl hA⟩)
            refine ⟨fun hT => ihd.1 ((step _).2 ⟨hB, .inr hT⟩), fun q h1 h2 => ?_⟩
            rcases Nat.lt_or_ge q (m + d) with h3 | h3
            · exact ihd.2 q h1 h3
            · obtain rfl : q = m + d := by omega
              exact hnA
        obtain ⟨n, hn, hc⟩ := hfair m
        have := all (n - m)
        rw [show m + (n - m) = n by omega] at this
        have hB : B n := (hs n hn).resolve_right (fun ⟨q, h1, h2, h3⟩ => this.2 q h1 h2 h3)
        exact this.1 (hc hB)
end Go.Proofs.YtoglgeaiiipchabGreatDoor
