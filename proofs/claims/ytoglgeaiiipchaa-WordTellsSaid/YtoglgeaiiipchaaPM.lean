/- Plain: the reference's sets of states: moved by a letter, by loops, in circles. -/
import Derived.Test.YtoglgeaiiipchaaPA
namespace Go.Proofs.Ytoglgeaiiipchaa

/-- is a state in a set? -/
def InS (xs : List Bool) (q : Int) : Prop := 0 ≤ q ∧ xs.getD q.toNat false = true
theorem getD_set_b {xs : List Bool} {i j : Nat} : (xs.set i true).getD j false = if j = i ∧ i < xs.length then true else xs.getD j false := by
  rw [List.getD_eq_getElem?_getD, List.getElem?_set]
  by_cases h : i = j
  · subst h
    by_cases h2 : i < xs.length
    · simp [h2]
    · rw [if_pos rfl, if_neg h2, if_neg (by simp [h2]), List.getD_eq_getElem?_getD, List.getElem?_eq_none (by omega)]
  · rw [if_neg h, if_neg (fun e => h e.1.symm), List.getD_eq_getElem?_getD]
theorem InS_set {xs : List Bool} {p q : Int} (hp : 0 ≤ p ∧ p < xs.length) : InS (xs.set p.toNat true) q ↔ InS xs q ∨ q = p := by
  unfold InS
  rw [getD_set_b]
  constructor
  · rintro ⟨h0, h⟩
    split at h
    · exact .inr (by omega)
    · exact .inl ⟨h0, h⟩
  · rintro (⟨h0, h⟩ | rfl)
    · refine ⟨h0, ?_⟩
      split
      · rfl
      · exact h
    · exact ⟨hp.1, by rw [if_pos (by omega)]⟩
theorem InS_rep {n : Nat} {q : Int} : ¬ InS (List.replicate n false) q := by
  rintro ⟨_, h⟩
  rw [List.getD_eq_getElem?_getD, List.getElem?_replicate] at h
  split at h <;> simp at h
theorem InS_lt {xs : List Bool} {q : Int} (h : InS xs q) : q.toNat < xs.length := by
  rcases Nat.lt_or_ge q.toNat xs.length with h1 | h1
  · exact h1
  · have := h.2
    rw [List.getD_eq_getElem?_getD, List.getElem?_eq_none h1] at this
    cases this
/-- what the steps ahead of number k lead to by a letter; and by a good state -/
structure MovedTo (a : Au) (now good : List Bool) (c : Int) (k : Nat) (x y : List Bool) : Prop where
  lx : (x.length : Int) = a.st
  ly : (y.length : Int) = a.st
  sx : ∀ p, InS x p ↔ ∃ s ∈ a.ss.take k, s.l = c ∧ InS now s.f ∧ s.t = p
  sy : ∀ p, InS y p ↔ ∃ s ∈ a.ss.take k, s.l = c ∧ InS now s.f ∧ s.t = p ∧ (InS good s.f ∨ a.good p)
theorem MovedTo.start {a : Au} {now good : List Bool} {c : Int} (h : 0 ≤ a.st) : MovedTo a now good c 0 (List.replicate a.st.toNat false) (List.replicate a.st.toNat false) :=
  ⟨by simp; omega, by simp; omega, fun p => ⟨fun h => absurd h InS_rep, fun ⟨s, h, _⟩ => by simp at h⟩, fun p => ⟨fun h => absurd h InS_rep, fun ⟨s, h, _⟩ => by simp at h⟩⟩
theorem mem_take_succ {α : Type} {xs : List α} {k : Nat} (hk : k < xs.length) {s : α} : s ∈ xs.take (k + 1) ↔ s ∈ xs.take k ∨ s = xs[k] := by
  rw [List.take_succ_eq_append_getElem hk, List.mem_append, List.mem_singleton]
section
variable {a : Au} {now good : List Bool} {c : Int} {k : Nat} {x y : List Bool}
theorem MovedTo.skip (h : MovedTo a now good c k x y) (hk : k < a.ss.length) (hn : a.ss[k].l ≠ c ∨ ¬ InS now a.ss[k].f) : MovedTo a now good c (k + 1) x y := by
  refine ⟨h.lx, h.ly, fun p => ?_, fun p => ?_⟩
  · rw [h.sx p]
    constructor
    · rintro ⟨s, hs, h1⟩; exact ⟨s, (mem_take_succ hk).2 (.inl hs), h1⟩
    · rintro ⟨s, hs, h1, h2, h3⟩
      rcases (mem_take_succ hk).1 hs with hs | rfl
      · exact ⟨s, hs, h1, h2, h3⟩
      · rcases hn with hn | hn
        · exact absurd h1 hn
        · exact absurd h2 hn
  · rw [h.sy p]
    constructor
    · rintro ⟨s, hs, h1⟩; exact ⟨s, (mem_take_succ hk).2 (.inl hs), h1⟩
    · rintro ⟨s, hs, h1, h2, h3⟩
      rcases (mem_take_succ hk).1 hs with hs | rfl
      · exact ⟨s, hs, h1, h2, h3⟩
      · rcases hn with hn | hn
        · exact absurd h1 hn
        · exact absurd h2 hn
theorem MovedTo.go (h : MovedTo a now good c k x y) (hk : k < a.ss.length) (h1 : a.ss[k].l = c) (h2 : InS now a.ss[k].f) (ht : 0 ≤ a.ss[k].t ∧ a.ss[k].t < a.st) (hn : ¬ InS good a.ss[k].f) (hn2 : ¬ a.good a.ss[k].t) :
    MovedTo a now good c (k + 1) (x.set a.ss[k].t.toNat true) y := by
  have hx := h.lx
  refine ⟨by rw [List.length_set]; exact hx, h.ly, fun p => ?_, fun p => ?_⟩
  · rw [InS_set (by omega), h.sx p]
    constructor
    · rintro (⟨s, hs, h1⟩ | rfl)
      · exact ⟨s, (mem_take_succ hk).2 (.inl hs), h1⟩
      · exact ⟨_, (mem_take_succ hk).2 (.inr rfl), h1, h2, rfl⟩
    · rintro ⟨s, hs, h3, h4, h5⟩
      rcases (mem_take_succ hk).1 hs with hs | rfl
      · exact .inl ⟨s, hs, h3, h4, h5⟩
      · exact .inr h5.symm
  · rw [h.sy p]
    constructor
    · rintro ⟨s, hs, h1⟩; exact ⟨s, (mem_take_succ hk).2 (.inl hs), h1⟩
    · rintro ⟨s, hs, h3, h4, h5, h6⟩
      rcases (mem_take_succ hk).1 hs with hs | rfl
      · exact ⟨s, hs, h3, h4, h5, h6⟩
      · rcases h6 with h6 | h6
        · exact absurd h6 hn
        · rw [← h5] at h6; exact absurd h6 hn2
theorem MovedTo.hit (h : MovedTo a now good c k x y) (hk : k < a.ss.length) (h1 : a.ss[k].l = c) (h2 : InS now a.ss[k].f) (ht : 0 ≤ a.ss[k].t ∧ a.ss[k].t < a.st) (hg : InS good a.ss[k].f ∨ a.good a.ss[k].t) :
    MovedTo a now good c (k + 1) (x.set a.ss[k].t.toNat true) (y.set a.ss[k].t.toNat true) := by
  have hx := h.lx
  have hy := h.ly
  refine ⟨by rw [List.length_set]; exact hx, by rw [List.length_set]; exact hy, fun p => ?_, fun p => ?_⟩
  · rw [InS_set (by omega), h.sx p]
    constructor
    · rintro (⟨s, hs, h1⟩ | rfl)
      · exact ⟨s, (mem_take_succ hk).2 (.inl hs), h1⟩
      · exact ⟨_, (mem_take_succ hk).2 (.inr rfl), h1, h2, rfl⟩
    · rintro ⟨s, hs, h3, h4, h5⟩
      rcases (mem_take_succ hk).1 hs with hs | rfl
      · exact .inl ⟨s, hs, h3, h4, h5⟩
      · exact .inr h5.symm
  · rw [InS_set (by omega), h.sy p]
    constructor
    · rintro (⟨s, hs, h1⟩ | rfl)
      · exact ⟨s, (mem_take_succ hk).2 (.inl hs), h1⟩
      · exact ⟨_, (mem_take_succ hk).2 (.inr rfl), h1, h2, rfl, hg⟩
    · rintro ⟨s, hs, h3, h4, h5, h6⟩
      rcases (mem_take_succ hk).1 hs with hs | rfl
      · exact .inl ⟨s, hs, h3, h4, h5, h6⟩
      · exact .inr h5.symm
end
/-- all steps -/
structure Moved (a : Au) (now good : List Bool) (c : Int) (x y : List Bool) : Prop where
  lx : (x.length : Int) = a.st
  ly : (y.length : Int) = a.st
  sx : ∀ p, InS x p ↔ ∃ q, InS now q ∧ (⟨q, c, p⟩ : Stp) ∈ a.ss
  sy : ∀ p, InS y p ↔ ∃ q, InS now q ∧ (⟨q, c, p⟩ : Stp) ∈ a.ss ∧ (InS good q ∨ a.good p)
theorem MovedTo.all {a : Au} {now good : List Bool} {c : Int} {k : Nat} {x y : List Bool} (h : MovedTo a now good c k x y) (hk : a.ss.length ≤ k) : Moved a now good c x y := by
  have hs := h.sx
  have hy := h.sy
  rw [List.take_of_length_le hk] at hs hy
  refine ⟨h.lx, h.ly, fun p => ?_, fun p => ?_⟩
  · rw [hs p]
    constructor
    · rintro ⟨s, h1, rfl, h2, rfl⟩; exact ⟨s.f, h2, h1⟩
    · rintro ⟨q, h1, h2⟩; exact ⟨_, h2, rfl, h1, rfl⟩
  · rw [hy p]
    constructor
    · rintro ⟨s, h1, rfl, h2, rfl, h3⟩; exact ⟨s.f, h2, h1, h3⟩
    · rintro ⟨q, h1, h2, h3⟩; exact ⟨_, h2, rfl, h1, rfl, h3⟩

/-- the states that come of one at a place; and by a good one -/
structure FromTo (a : Au) (u : Nat → Int) (i : Nat) (at_ : Int) (j : Nat) (x y : List Bool) : Prop where
  lx : (x.length : Int) = a.st
  ly : (y.length : Int) = a.st
  sx : ∀ p, InS x p ↔ Way a u false i at_ j p
  sy : ∀ p, InS y p ↔ Way a u true i at_ j p
theorem FromTo.start {a : Au} {u : Nat → Int} {i : Nat} {q : Int} (hq : 0 ≤ q ∧ q < a.st) : FromTo a u i q i ((List.replicate a.st.toNat false).set q.toNat true) (List.replicate a.st.toNat false) := by
  refine ⟨by simp; omega, by simp; omega, fun p => ?_, fun p => ⟨fun h => absurd h InS_rep, fun h => ?_⟩⟩
  · rw [InS_set (by simp; omega)]
    constructor
    · rintro (h | rfl)
      · exact absurd h InS_rep
      · exact .refl _ _
    · intro h
      cases h with
      | refl => exact .inr rfl
      | go h _ => have := h.le; omega
  · have := h.lt rfl
    omega
theorem FromTo.step {a : Au} {u : Nat → Int} {i : Nat} {q : Int} {j : Nat} {x y x' y' : List Bool} (h : FromTo a u i q j x y) (hij : i ≤ j) (hm : Moved a x y (u j) x' y') : FromTo a u i q (j + 1) x' y' := by
  refine ⟨hm.lx, hm.ly, fun p => ?_, fun p => ?_⟩
  · rw [hm.sx p]
    constructor
    · rintro ⟨s, h1, h2⟩; exact .go ((h.sx s).1 h1) h2
    · intro hw
      cases hw with
      | refl => omega
      | go hw hs => exact ⟨_, (h.sx _).2 hw, hs⟩
  · rw [hm.sy p]
    constructor
    · rintro ⟨s, h1, h2, h3 | h3⟩
      · exact .go ((h.sy s).1 h3) h2
      · exact .hit ((h.sx s).1 h1) h2 h3
    · intro hw
      cases hw with
      | go hw hs => exact ⟨_, (h.sx _).2 hw.forget, hs, .inl ((h.sy _).2 hw)⟩
      | hit hw hs hg => exact ⟨_, (h.sx _).2 hw.forget, hs, .inr hg⟩
/-- the states that come of the first ones -/
structure NowAt (a : Au) (u : Nat → Int) (j : Nat) (x : List Bool) : Prop where
  lx : (x.length : Int) = a.st
  sx : ∀ p, InS x p ↔ ∃ f ∈ a.fs, Way a u false 0 f j p
theorem NowAt.step {a : Au} {u : Nat → Int} {j : Nat} {x g x' y' : List Bool} (h : NowAt a u j x) (hm : Moved a x g (u j) x' y') : NowAt a u (j + 1) x' := by
  refine ⟨hm.lx, fun p => ?_⟩
  rw [hm.sx p]
  constructor
  · rintro ⟨s, h1, h2⟩
    obtain ⟨f, hf, hw⟩ := (h.sx s).1 h1
    exact ⟨f, hf, .go hw h2⟩
  · rintro ⟨f, hf, hw⟩
    cases hw with
    | go hw hs => exact ⟨_, (h.sx _).2 ⟨f, hf, hw⟩, hs⟩
/-- the first states ahead of number k, as a set -/
structure FirstS (a : Au) (k : Nat) (x : List Bool) : Prop where
  lx : (x.length : Int) = a.st
  sx : ∀ p, InS x p ↔ p ∈ a.fs.take k
theorem FirstS.start {a : Au} (h : 0 ≤ a.st) : FirstS a 0 (List.replicate a.st.toNat false) := ⟨by simp; omega, fun p => ⟨fun h => absurd h InS_rep, fun h => by simp at h⟩⟩
theorem FirstS.step {a : Au} {k : Nat} {x : List Bool} (h : FirstS a k x) (ho : AuOK a) (hk : k < a.fs.length) : FirstS a (k + 1) (x.set a.fs[k].toNat true) := by
  have hx := h.lx
  have hr := ho.fr _ (List.getElem_mem hk)
  refine ⟨by rw [List.length_set]; exact hx, fun p => ?_⟩
  rw [InS_set (by omega), h.sx p, mem_take_succ hk]
theorem FirstS.now {a : Au} {u : Nat → Int} {k : Nat} {x : List Bool} (h : FirstS a k x) (hk : a.fs.length ≤ k) : NowAt a u 0 x := by
  have hs := h.sx
  rw [List.take_of_length_le hk] at hs
  refine ⟨h.lx, fun p => ?_⟩
  rw [hs p]
  constructor
  · intro hp; exact ⟨p, hp, .refl _ _⟩
  · rintro ⟨f, hf, hw⟩
    cases hw with
    | refl => exact hf

/-- at the beginnings of the first k loops -/
def LoopAt (a : Au) (l : La) (k : Nat) (q : Int) : Prop := ∃ i, i < k ∧ ∃ f ∈ a.fs, Way a l.at false 0 f (l.h.length + l.l.length * i) q
/-- nothing new behind a loop: nothing new at all -/
theorem loopAt_all {a : Au} {l : La} (hp : 0 < l.l.length) {k : Nat} (h : ∀ q, (∃ f ∈ a.fs, Way a l.at false 0 f (l.h.length + l.l.length * k) q) → LoopAt a l k q) : ∀ j q, (∃ f ∈ a.fs, Way a l.at false 0 f (l.h.length + l.l.length * j) q) → LoopAt a l k q := by
  intro j
  induction j using Nat.strongRecOn with
  | _ j ih =>
    rintro q ⟨f, hf, hw⟩
    rcases Nat.lt_or_ge j k with hjk | hjk
    · exact ⟨j, hjk, f, hf, hw⟩
    · rcases Nat.eq_or_lt_of_le hjk with rfl | hjk
      · exact h q ⟨f, hf, hw⟩
      · -- the part up to the beginning of loop k, and on
        obtain ⟨r, h1, h2, h3, _⟩ := hw.run
        have hle := Nat.mul_le_mul_left l.l.length (Nat.le_of_lt hjk)
        have w1 := Way.part (a := a) (u := l.at) (r := r) (i := 0) (d := l.h.length + l.l.length * k) (fun k' a1 a2 => h3 k' a1 (by omega))
        have w2 := Way.part (a := a) (u := l.at) (r := r) (i := l.h.length + l.l.length * k) (d := l.l.length * (j - k)) (fun k' a1 a2 => h3 k' (by omega) (by rw [Nat.mul_sub] at a2; omega))
        rw [h1, Nat.zero_add] at w1
        rw [Nat.mul_sub, show l.h.length + l.l.length * k + (l.l.length * j - l.l.length * k) = l.h.length + l.l.length * j by omega, h2] at w2
        obtain ⟨i, hi, f', hf', hw'⟩ := h _ ⟨f, hf, w1⟩
        have hle2 := Nat.mul_le_mul_left l.l.length (Nat.le_of_lt hi)
        obtain ⟨k', hk', hw2⟩ := w2.unshift (b := l.h.length) (c := l.l.length * (k - i)) (fun k hk => La.at_add hk) (l.h.length + l.l.length * i) (by rw [Nat.mul_sub]; omega) (by omega)
        have e : k' = l.h.length + l.l.length * (j - (k - i)) := by
          rw [Nat.mul_sub, Nat.mul_sub] at *
          omega
        rw [e] at hw2
        exact ih (j - (k - i)) (by omega) q ⟨f', hf', by simpa using hw'.trans hw2⟩
/-- more states are in than were -/
theorem cntS_more {s : Bool} (xs : List Bool) (i : Nat) (h : i < xs.length) (hs : xs.getD i false = false) : (xs.set i true).count false + 1 = xs.count false := by
  have := cntS_set (s := false) h hs
  simpa [cntS] using this
end Go.Proofs.Ytoglgeaiiipchaa
