/- Plain: taking a lasso: by spots (a state and a place) and by loops. -/
import Derived.Test.YtoglgeaiiipchaaDoorPT
namespace Go.Proofs.YtoglgeaiiipchaaDoor

structure AuOK (a : Au) : Prop where
  st1 : 1 ≤ a.st
  st2 : a.st ≤ 300
  le1 : 1 ≤ a.le
  le2 : a.le ≤ 8
  gl : (a.gs.length : Int) = a.st
  sl : a.ss.length ≤ 6000
  fr : ∀ f ∈ a.fs, 0 ≤ f ∧ f < a.st
  fo : a.fs.Pairwise (· < ·)
  sr : ∀ s ∈ a.ss, (0 ≤ s.f ∧ s.f < a.st) ∧ (0 ≤ s.t ∧ s.t < a.st) ∧ 0 ≤ s.l ∧ s.l < a.le

theorem pigeon : ∀ (N : Nat) (f : Nat → Nat), (∀ i, i ≤ N → f i < N) → ∃ i j, i < j ∧ j ≤ N ∧ f i = f j
  | 0, f, h => absurd (h 0 (Nat.le_refl _)) (by omega)
  | M + 1, f, h => by
    by_cases he : ∃ i, i ≤ M ∧ f i = f (M + 1)
    · obtain ⟨i, hi, he⟩ := he
      exact ⟨i, M + 1, by omega, Nat.le_refl _, he⟩
    · have hne : ∀ i, i ≤ M → f i ≠ f (M + 1) := fun i hi e => he ⟨i, hi, e⟩
      obtain ⟨i, j, h1, h2, h3⟩ := pigeon M (fun i => if f i = M then f (M + 1) else f i) (fun i hi => by
        have := h i (by omega)
        have := h (M + 1) (by omega)
        have := hne i hi
        show (if f i = M then f (M + 1) else f i) < M
        split <;> omega)
      refine ⟨i, j, h1, by omega, ?_⟩
      have a1 := hne i (by omega)
      have a2 := hne j (by omega)
      have h3 : (if f i = M then f (M + 1) else f i) = (if f j = M then f (M + 1) else f j) := h3
      split at h3 <;> split at h3 <;> omega

/-- again and again: a row of later and later places -/
theorem rise {P : Nat → Nat → Prop} (h : ∀ n, ∃ m, n < m ∧ P n m) (b : Nat) : ∃ g : Nat → Nat, g 0 = b ∧ ∀ k, g k < g (k + 1) ∧ P (g k) (g (k + 1)) := by
  refine ⟨fun k => Nat.rec b (fun _ x => Classical.choose (h x)) k, rfl, fun k => ?_⟩
  exact Classical.choose_spec (h _)
theorem rise_lt {g : Nat → Nat} (h : ∀ k, g k < g (k + 1)) {i j : Nat} (hij : i < j) : g i < g j := by
  obtain ⟨d, rfl⟩ : ∃ d, j = i + 1 + d := ⟨j - i - 1, by omega⟩
  clear hij
  induction d with
  | zero => exact h i
  | succ d ih => exact Nat.lt_trans ih (h _)

/-- letters by place -/
def La.row (l : La) : List Int := l.h ++ l.l
theorem La.row_len (l : La) : l.row.length = l.n := by simp [La.row, La.n]
theorem getD_append {xs ys : List Int} {k : Nat} : (xs ++ ys).getD k 0 = if k < xs.length then xs.getD k 0 else ys.getD (k - xs.length) 0 := by
  simp only [List.getD_eq_getElem?_getD]
  split
  · rename_i h; rw [List.getElem?_append_left h]
  · rename_i h; rw [List.getElem?_append_right (by omega)]
theorem La.row_plc {l : La} (hp : 0 < l.l.length) (k : Nat) : l.row.getD (plc l.n l.h.length k) 0 = l.at k := by
  unfold La.row La.at plc La.n
  rw [getD_append]
  have e : l.h.length + l.l.length - l.h.length = l.l.length := by omega
  by_cases h1 : k < l.h.length
  · rw [if_pos (show k < l.h.length + l.l.length by omega), if_pos h1, if_pos h1]
  · rw [if_neg h1]
    split
    · rw [Nat.mod_eq_of_lt (by omega)]
    · rw [e, if_neg (by omega), show l.h.length + (k - l.h.length) % l.l.length - l.h.length = (k - l.h.length) % l.l.length by omega]
theorem La.at_add {l : La} {k m : Nat} (hk : l.h.length ≤ k) : l.at (k + l.l.length * m) = l.at k := by
  unfold La.at
  rw [if_neg (by omega), if_neg (by omega), show k + l.l.length * m - l.h.length = k - l.h.length + l.l.length * m by omega, Nat.add_mul_mod_self_left]

/-- more than one step on -/
inductive Plus {α : Type} (E : α → α → Prop) : α → α → Prop
  | one {x y : α} : E x y → Plus E x y
  | on {x y z : α} : Plus E x y → E y z → Plus E x z
def SE (a : Au) (l : La) (x y : Int × Nat) : Prop := (⟨x.1, l.row.getD x.2 0, y.1⟩ : Stp) ∈ a.ss ∧ y.2 = nx l.n l.h.length x.2

/-- **the program's way of asking** -/
def SpotTakes (a : Au) (l : La) : Prop := ∃ f ∈ a.fs, ∃ x : Int × Nat, ((f, 0) = x ∨ Plus (SE a l) (f, 0) x) ∧ l.h.length ≤ x.2 ∧ a.good x.1 ∧ Plus (SE a l) x x

theorem Plus.way {a : Au} {l : La} (hp : 0 < l.l.length) {x y : Int × Nat} (h : Plus (SE a l) x y) : ∀ k, plc l.n l.h.length k = x.2 → ∃ j, k < j ∧ plc l.n l.h.length j = y.2 ∧ Way a l.at false k x.1 j y.1 := by
  have hh : l.h.length < l.n := by unfold La.n; omega
  induction h with
  | @one y h =>
    intro k hk
    refine ⟨k + 1, by omega, by rw [← plc_succ hh, hk]; exact h.2.symm, .go (.refl _ _) ?_⟩
    rw [← La.row_plc hp, hk]; exact h.1
  | @on y z _ h ih =>
    intro k hk
    obtain ⟨j, h1, h2, h3⟩ := ih k hk
    refine ⟨j + 1, by omega, by rw [← plc_succ hh, h2]; exact h.2.symm, .go h3 ?_⟩
    rw [← La.row_plc hp, h2]; exact h.1
theorem Plus.of_run {a : Au} {l : La} (hp : 0 < l.l.length) {r : Nat → Int} (hs : ∀ i, (⟨r i, l.at i, r (i + 1)⟩ : Stp) ∈ a.ss) (k d : Nat) : Plus (SE a l) (r k, plc l.n l.h.length k) (r (k + d + 1), plc l.n l.h.length (k + d + 1)) := by
  have hh : l.h.length < l.n := by unfold La.n; omega
  have he : ∀ i, SE a l (r i, plc l.n l.h.length i) (r (i + 1), plc l.n l.h.length (i + 1)) := fun i => ⟨by
    show (⟨r i, l.row.getD (plc l.n l.h.length i) 0, r (i + 1)⟩ : Stp) ∈ a.ss
    rw [La.row_plc hp]; exact hs i, (plc_succ hh).symm⟩
  induction d with
  | zero => exact .one (he k)
  | succ d ih => exact .on ih (he _)
theorem Way.hit_end {a : Au} {u : Nat → Int} {i j : Nat} {q p : Int} (h : Way a u false i q j p) (hij : i < j) (hg : a.good p) : Way a u true i q j p := by
  cases h with
  | refl => omega
  | go h hs => exact .hit h hs hg
theorem plc_cong {n h k j : Nat} (hh : h < n) (hk : h ≤ plc n h k) (he : plc n h k = plc n h j) (hkj : k < j) : ∃ m, j = k + (n - h) * m ∧ h ≤ k := by
  have hk2 : h ≤ k := by
    rcases Nat.lt_or_ge k n with h1 | h1
    · unfold plc at hk; rw [if_pos h1] at hk; exact hk
    · omega
  have hj2 : h ≤ j := by omega
  have f : ∀ i, h ≤ i → (plc n h i) = h + (i - h) % (n - h) := by
    intro i hi
    unfold plc
    split
    · rw [Nat.mod_eq_of_lt (by omega)]; omega
    · rfl
  rw [f k hk2, f j hj2] at he
  have he' : (k - h) % (n - h) = (j - h) % (n - h) := by omega
  have h1 := Nat.mod_add_div (k - h) (n - h)
  have h2 := Nat.mod_add_div (j - h) (n - h)
  have hle : (k - h) / (n - h) ≤ (j - h) / (n - h) := Nat.div_le_div_right (by omega)
  refine ⟨(j - h) / (n - h) - (k - h) / (n - h), ?_, hk2⟩
  rw [Nat.mul_sub]
  have := Nat.mul_le_mul_left (n - h) hle
  omega

theorem takes_spot {a : Au} {l : La} (ho : AuOK a) (hp : 0 < l.l.length) : TakesU a l.at ↔ SpotTakes a l := by
  have hh : l.h.length < l.n := by unfold La.n; omega
  have hL : l.n - l.h.length = l.l.length := by unfold La.n; omega
  constructor
  · rintro ⟨r, h0, hs, hg⟩
    have hr : ∀ i, 0 ≤ r i ∧ r i < a.st := fun i => (ho.sr _ (hs i)).1
    obtain ⟨g, g0, hgr⟩ := rise (P := fun _ m => a.good (r m)) (fun n => by obtain ⟨m, h1, h2⟩ := hg (n + 1); exact ⟨m, h1, h2⟩) l.h.length
    obtain ⟨i, j, hij, _, he⟩ := pigeon (l.n * a.st.toNat) (fun k => plc l.n l.h.length (g (k + 1)) + l.n * (r (g (k + 1))).toNat) (fun k _ => by
      have h1 := plc_lt (k := g (k + 1)) hh
      have h2 := hr (g (k + 1))
      have h3 : (r (g (k + 1))).toNat + 1 ≤ a.st.toNat := by omega
      have h4 := Nat.mul_le_mul_left l.n h3
      rw [Nat.mul_succ] at h4
      omega)
    have he : plc l.n l.h.length (g (i + 1)) + l.n * (r (g (i + 1))).toNat = plc l.n l.h.length (g (j + 1)) + l.n * (r (g (j + 1))).toNat := he
    have e1 : plc l.n l.h.length (g (i + 1)) = plc l.n l.h.length (g (j + 1)) := by
      have := congrArg (· % l.n) he
      simp only [Nat.add_mul_mod_self_left] at this
      rwa [Nat.mod_eq_of_lt (plc_lt hh), Nat.mod_eq_of_lt (plc_lt hh)] at this
    have e2 : r (g (i + 1)) = r (g (j + 1)) := by
      rw [e1] at he
      have h2 := hr (g (i + 1))
      have h3 := hr (g (j + 1))
      have : (r (g (i + 1))).toNat = (r (g (j + 1))).toNat := Nat.eq_of_mul_eq_mul_left (show 0 < l.n by omega) (by omega)
      omega
    have hlt := rise_lt (fun k => (hgr k).1) (show i + 1 < j + 1 by omega)
    have hge : l.h.length < g (i + 1) := by rw [← g0]; exact rise_lt (fun k => (hgr k).1) (Nat.succ_pos i)
    refine ⟨r 0, h0, (r (g (i + 1)), plc l.n l.h.length (g (i + 1))), .inr ?_, ?_, (hgr i).2, ?_⟩
    · obtain ⟨d, hd⟩ : ∃ d, g (i + 1) = 0 + d + 1 := ⟨g (i + 1) - 1, by omega⟩
      have := Plus.of_run hp hs 0 d
      rw [← hd] at this
      rwa [show plc l.n l.h.length 0 = 0 from plc_self (by omega)] at this
    · show l.h.length ≤ plc l.n l.h.length (g (i + 1))
      unfold plc
      split <;> omega
    · obtain ⟨d, hd⟩ : ∃ d, g (j + 1) = g (i + 1) + d + 1 := ⟨g (j + 1) - g (i + 1) - 1, by omega⟩
      have := Plus.of_run hp hs (g (i + 1)) d
      rw [← hd, ← e1, ← e2] at this
      exact this
  · rintro ⟨f, hf, x, hx, hb, hg, hc⟩
    obtain ⟨k, hk, hw⟩ : ∃ k, plc l.n l.h.length k = x.2 ∧ Way a l.at false 0 f k x.1 := by
      rcases hx with rfl | hx
      · exact ⟨0, plc_self (by omega), .refl _ _⟩
      · obtain ⟨j, _, h2, h3⟩ := hx.way hp 0 (plc_self (by omega))
        exact ⟨j, h2, h3⟩
    obtain ⟨j, hkj, hj, hw2⟩ := hc.way hp k hk
    obtain ⟨m, rfl, hhk⟩ := plc_cong hh (by rw [hk]; exact hb) (hk.trans hj.symm) hkj
    rw [hL] at *
    exact takes_of_circle hf hw (hw2.hit_end hkj hg) (fun i hi => La.at_add (by omega))

/-- **the reference's way of asking** -/
def LoopTakes (a : Au) (l : La) : Prop := ∃ q : Int, (∃ f ∈ a.fs, ∃ j, Way a l.at false 0 f (l.h.length + l.l.length * j) q) ∧ ∃ m, 0 < m ∧ m ≤ 2 * a.st.toNat ∧ Way a l.at true l.h.length q (l.h.length + l.l.length * m) q

theorem Way.state {a : Au} (ho : AuOK a) {u : Nat → Int} {g : Bool} {i j : Nat} {q p : Int} (h : Way a u g i q j p) (hq : 0 ≤ q ∧ q < a.st) : 0 ≤ p ∧ p < a.st := by
  cases h with
  | refl => exact hq
  | go _ hs => exact (ho.sr _ hs).2.1
  | hit _ hs _ => exact (ho.sr _ hs).2.1
theorem Way.part {a : Au} {u : Nat → Int} {r : Nat → Int} {i : Nat} : ∀ {d : Nat}, (∀ k, i ≤ k → k < i + d → (⟨r k, u k, r (k + 1)⟩ : Stp) ∈ a.ss) → Way a u false i (r i) (i + d) (r (i + d))
  | 0, _ => .refl _ _
  | d + 1, h => .go (Way.part fun k h1 h2 => h k h1 (by omega)) (h _ (by omega) (by omega))
theorem Way.cut {a : Au} (ho : AuOK a) {l : La} (hp : 0 < l.l.length) : ∀ (t : Nat) {q s : Int}, 0 ≤ q ∧ q < a.st → Way a l.at false l.h.length q (l.h.length + l.l.length * t) s → ∃ t', t' < a.st.toNat ∧ Way a l.at false l.h.length q (l.h.length + l.l.length * t') s := by
  intro t
  induction t using Nat.strongRecOn with
  | _ t ih =>
    intro q s hq h
    have hst := ho.st1
    by_cases ht : t < a.st.toNat
    · exact ⟨t, ht, h⟩
    · obtain ⟨r, h1, h2, h3, _⟩ := h.run
      have hrange : ∀ k, k ≤ t → 0 ≤ r (l.h.length + l.l.length * k) ∧ r (l.h.length + l.l.length * k) < a.st := fun k hk => by
        have hle := Nat.mul_le_mul_left l.l.length hk
        have := Way.part (a := a) (u := l.at) (r := r) (i := l.h.length) (d := l.l.length * k) (fun k' a1 a2 => h3 k' a1 (by omega))
        exact this.state ho (by rw [h1]; exact hq)
      obtain ⟨i, j, hij, hj, he⟩ := pigeon a.st.toNat (fun k => (r (l.h.length + l.l.length * k)).toNat) (fun k hk => by have := hrange k (by omega); omega)
      have he : (r (l.h.length + l.l.length * i)).toNat = (r (l.h.length + l.l.length * j)).toNat := he
      have e : r (l.h.length + l.l.length * i) = r (l.h.length + l.l.length * j) := by
        have := hrange i (by omega)
        have := hrange j (by omega)
        omega
      have hi' := Nat.mul_le_mul_left l.l.length (show i ≤ t by omega)
      have hj' := Nat.mul_le_mul_left l.l.length (show j ≤ t by omega)
      have hij' := Nat.mul_le_mul_left l.l.length (show i ≤ j by omega)
      have w1 := Way.part (a := a) (u := l.at) (r := r) (i := l.h.length) (d := l.l.length * i) (fun k' a1 a2 => h3 k' a1 (by omega))
      have w2 := Way.part (a := a) (u := l.at) (r := r) (i := l.h.length + l.l.length * j) (d := l.l.length * (t - j)) (fun k' a1 a2 => h3 k' (by omega) (by rw [Nat.mul_sub] at a2; omega))
      rw [Nat.mul_sub, show l.h.length + l.l.length * j + (l.l.length * t - l.l.length * j) = l.h.length + l.l.length * t by omega, h2, ← e] at w2
      rw [h1] at w1
      -- the second part, so much earlier
      have w3 : Way a l.at false (l.h.length + l.l.length * i) (r (l.h.length + l.l.length * i)) (l.h.length + l.l.length * (t - (j - i))) s := by
        obtain ⟨k, hk, hw⟩ := w2.unshift (b := l.h.length) (c := l.l.length * (j - i)) (fun k hk => La.at_add hk) (l.h.length + l.l.length * i) (by rw [Nat.mul_sub]; omega) (by omega)
        have : k = l.h.length + l.l.length * (t - (j - i)) := by
          rw [Nat.mul_sub, Nat.mul_sub] at *
          omega
        rwa [this] at hw
      exact ih (t - (j - i)) (by omega) hq (w1.trans w3)

theorem takes_loop {a : Au} {l : La} (ho : AuOK a) (hp : 0 < l.l.length) : TakesU a l.at ↔ LoopTakes a l := by
  constructor
  · rintro ⟨r, h0, hs, hg⟩
    have hr : ∀ i, 0 ≤ r i ∧ r i < a.st := fun i => (ho.sr _ (hs i)).1
    obtain ⟨g, g0, hgr⟩ := rise (P := fun i j => ∃ m, l.h.length + l.l.length * i < m ∧ m ≤ l.h.length + l.l.length * j ∧ a.good (r m)) (fun n => by
      obtain ⟨m, h1, h2⟩ := hg (l.h.length + l.l.length * n + 1)
      have hd := Nat.mod_add_div (m - l.h.length) l.l.length
      have hm := Nat.mod_lt (m - l.h.length) hp
      have hle : l.l.length * n < l.l.length * ((m - l.h.length) / l.l.length + 1) := by rw [Nat.mul_succ]; omega
      exact ⟨(m - l.h.length) / l.l.length + 1, Nat.lt_of_mul_lt_mul_left hle, m, by omega, by rw [Nat.mul_succ]; omega, h2⟩) 0
    obtain ⟨i, j, hij, _, he⟩ := pigeon a.st.toNat (fun k => (r (l.h.length + l.l.length * g k)).toNat) (fun k _ => by have := hr (l.h.length + l.l.length * g k); omega)
    have he : (r (l.h.length + l.l.length * g i)).toNat = (r (l.h.length + l.l.length * g j)).toNat := he
    have e : r (l.h.length + l.l.length * g i) = r (l.h.length + l.l.length * g j) := by
      have := hr (l.h.length + l.l.length * g i)
      have := hr (l.h.length + l.l.length * g j)
      omega
    have hlt := rise_lt (fun k => (hgr k).1) hij
    have hle : g (i + 1) ≤ g j := by
      rcases Nat.eq_or_lt_of_le (show i + 1 ≤ j by omega) with h | h
      · rw [h]; exact Nat.le_refl _
      · exact Nat.le_of_lt (rise_lt (fun k => (hgr k).1) h)
    obtain ⟨m, m1, m2, m3⟩ := (hgr i).2
    have hle' := Nat.mul_le_mul_left l.l.length hle
    -- in which loop, and from where to where
    obtain ⟨t, ht⟩ : ∃ t, t = (m - l.h.length - 1) / l.l.length := ⟨_, rfl⟩
    have hd := Nat.mod_add_div (m - l.h.length - 1) l.l.length
    have hm := Nat.mod_lt (m - l.h.length - 1) hp
    rw [← ht] at hd
    have ht1 : g i ≤ t := by
      have : l.l.length * g i < l.l.length * (t + 1) := by rw [Nat.mul_succ]; omega
      have := Nat.lt_of_mul_lt_mul_left this
      omega
    have ht2 : t + 1 ≤ g j := by
      have : l.l.length * t < l.l.length * g j := by omega
      have := Nat.lt_of_mul_lt_mul_left this
      omega
    have ht1' := Nat.mul_le_mul_left l.l.length ht1
    have ht2' := Nat.mul_le_mul_left l.l.length ht2
    have way : ∀ x y, x ≤ y → ∀ g, Way a l.at g (l.h.length + l.l.length * x) (r (l.h.length + l.l.length * x)) (l.h.length + l.l.length * y) (r (l.h.length + l.l.length * y)) →
        Way a l.at g l.h.length (r (l.h.length + l.l.length * x)) (l.h.length + l.l.length * (y - x)) (r (l.h.length + l.l.length * y)) := by
      intro x y hxy g hw
      obtain ⟨k, hk, hw'⟩ := hw.unshift (b := l.h.length) (c := l.l.length * x) (fun k hk => La.at_add hk) l.h.length rfl (Nat.le_refl _)
      have := Nat.mul_le_mul_left l.l.length hxy
      have : k = l.h.length + l.l.length * (y - x) := by rw [Nat.mul_sub]; omega
      rwa [this] at hw'
    have wr : ∀ x y, x ≤ y → Way a l.at false (l.h.length + l.l.length * x) (r (l.h.length + l.l.length * x)) (l.h.length + l.l.length * y) (r (l.h.length + l.l.length * y)) := by
      intro x y hxy
      have := Nat.mul_le_mul_left l.l.length hxy
      have hw := Way.of_run (a := a) hs (l.h.length + l.l.length * x) (l.l.length * (y - x))
      rwa [Nat.mul_sub, show l.h.length + l.l.length * x + (l.l.length * y - l.l.length * x) = l.h.length + l.l.length * y by omega] at hw
    have w1 := way _ _ ht1 _ (wr _ _ ht1)
    have w3 := way _ _ ht2 _ (wr _ _ ht2)
    have w2 : Way a l.at true l.h.length (r (l.h.length + l.l.length * t)) (l.h.length + l.l.length * 1) (r (l.h.length + l.l.length * (t + 1))) := by
      have := way t (t + 1) (by omega) true (Way.of_run_hit hs (m := m) (by omega) (by rw [Nat.mul_succ]; omega) m3)
      rwa [show t + 1 - t = 1 by omega] at this
    obtain ⟨t1, b1, v1⟩ := w1.cut ho hp _ (hr _)
    obtain ⟨t3, b3, v3⟩ := w3.cut ho hp _ (hr _)
    have sh : ∀ {g : Bool} {x y : Nat} {q p : Int}, Way a l.at g l.h.length q (l.h.length + l.l.length * x) p → Way a l.at g (l.h.length + l.l.length * y) q (l.h.length + l.l.length * (y + x)) p := by
      intro g x y q p hw
      have := hw.shift (b := l.h.length) (c := l.l.length * y) (Nat.le_refl _) (fun k hk => La.at_add hk)
      rwa [show l.h.length + l.l.length * x + l.l.length * y = l.h.length + l.l.length * (y + x) by rw [Nat.mul_add]; omega] at this
    refine ⟨r (l.h.length + l.l.length * g i), ⟨r 0, h0, g i, ?_⟩, t1 + 1 + t3, by omega, by omega, ?_⟩
    · have := Way.of_run (a := a) hs 0 (l.h.length + l.l.length * g i)
      rwa [Nat.zero_add] at this
    · have := v1.trans ((sh (y := t1) w2).trans (sh (y := t1 + 1) v3))
      rw [← e] at this
      simpa using this
  · rintro ⟨q, ⟨f, hf, j, hj⟩, m, h0, _, hw⟩
    have := hw.shift (b := l.h.length) (c := l.l.length * j) (Nat.le_refl _) (fun k hk => La.at_add hk)
    refine takes_of_circle (c := l.l.length * m) hf hj ?_ (fun i hi => La.at_add (by omega))
    rwa [show l.h.length + l.l.length * m + l.l.length * j = l.h.length + l.l.length * j + l.l.length * m by omega] at this
end Go.Proofs.YtoglgeaiiipchaaDoor
