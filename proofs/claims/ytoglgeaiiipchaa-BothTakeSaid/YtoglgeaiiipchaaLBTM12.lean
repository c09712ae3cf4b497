/- Plain: looking for the nearest state, by which step each one was first come to; the way back. -/
import Derived.Test.YtoglgeaiiipchaaLBTM2
import Derived.Test.YtoglgeaiiipchaaLBTM11
set_option linter.unusedSimpArgs false
set_option linter.unusedVariables false
namespace Go.Proofs.Ytoglgeaiiipchaa

/-- one step from a state to another one -/
def Edge (a : Au) (x y : Int) : Prop := ∃ s ∈ a.ss, s.f = x ∧ s.t = y
inductive Path (a : Au) : Int → List Int → Int → Prop
  | one {x c y : Int} : (⟨x, c, y⟩ : Stp) ∈ a.ss → Path a x [c] y
  | cons {x c y z : Int} {cs : List Int} : (⟨x, c, y⟩ : Stp) ∈ a.ss → Path a y cs z → Path a x (c :: cs) z
theorem Path.snoc {a : Au} {x y z c : Int} {cs : List Int} (h : Path a x cs y) (hs : (⟨y, c, z⟩ : Stp) ∈ a.ss) : Path a x (cs ++ [c]) z := by
  induction h with
  | one h => exact .cons h (.one hs)
  | cons h _ ih => exact .cons h (ih hs)
theorem Path.pos {a : Au} {x z : Int} {cs : List Int} (h : Path a x cs z) : 0 < cs.length := by cases h <;> simp
theorem Path.letters {a : Au} (hf : AuFit a) {x z : Int} {cs : List Int} (h : Path a x cs z) : ∀ c ∈ cs, 0 ≤ c ∧ c < a.le := by
  induction h with
  | one h => intro c hc; simp only [List.mem_singleton] at hc; subst hc; exact (hf.sr _ h).2.2
  | cons h _ ih =>
    intro c hc
    rcases List.mem_cons.1 hc with rfl | hc
    · exact (hf.sr _ h).2.2
    · exact ih c hc
/-- a path is a way, where the word reads so -/
theorem Path.way {a : Au} {u : Nat → Int} {x z : Int} {cs : List Int} (h : Path a x cs z) : ∀ i, (∀ k, k < cs.length → u (i + k) = cs.getD k 0) → Way a u false i x (i + cs.length) z := by
  induction h with
  | @one x c y h =>
    intro i hu
    have := hu 0 (by simp)
    refine .go (.refl i x) ?_
    rw [Nat.add_zero] at this
    rw [this]; exact h
  | @cons x c y z cs h _ ih =>
    intro i hu
    have h0 := hu 0 (by simp)
    rw [Nat.add_zero] at h0
    have w1 : Way a u false i x (i + 1) y := .go (.refl i x) (by rw [h0]; exact h)
    have := ih (i + 1) (fun k hk => by
      have := hu (k + 1) (by simp; omega)
      rw [show i + 1 + k = i + (k + 1) by omega, this]
      rfl)
    have := w1.trans this
    rwa [show i + 1 + cs.length = i + (c :: cs).length by simp; omega] at this
/-- what is told: a head to a good state, a loop from it to itself -/
structure Told (a : Au) (l : La) : Prop where
  is : ∃ n : Int, a.good n ∧ (l.h = [] ∧ n ∈ a.fs ∨ ∃ f ∈ a.fs, Path a f l.h n) ∧ Path a n l.l n
  h : (l.h.length : Int) ≤ a.st
  l : (l.l.length : Int) ≤ a.st
theorem La.at_head {l : La} {k : Nat} (h : k < l.h.length) : l.at k = l.h.getD k 0 := by unfold La.at; rw [if_pos h]
theorem La.at_loop {l : La} {k : Nat} (h : k < l.l.length) : l.at (l.h.length + k) = l.l.getD k 0 := by
  unfold La.at
  rw [if_neg (by omega), show l.h.length + k - l.h.length = k by omega, Nat.mod_eq_of_lt h]
theorem Told.takes {a : Au} {l : La} (h : Told a l) : TakesU a l.at := by
  obtain ⟨n, hg, hh, hl⟩ := h.is
  have w2 := (hl.way (u := l.at) l.h.length (fun k hk => La.at_loop hk)).hit_end (by have := hl.pos; omega) hg
  have per : ∀ i, l.h.length ≤ i → l.at (i + l.l.length) = l.at i := fun i hi => by have := La.at_add (m := 1) hi; rwa [Nat.mul_one] at this
  rcases hh with ⟨h0, hn⟩ | ⟨f, hf, hp⟩
  · rw [h0] at w2 per
    exact takes_of_circle (k := 0) hn (.refl 0 n) w2 per
  · have w1 := hp.way (u := l.at) 0 (fun k hk => by rw [Nat.zero_add]; exact La.at_head hk)
    rw [Nat.zero_add] at w1
    exact takes_of_circle hf w1 w2 per
theorem Told.fits {a : Au} (hf : AuFit a) {l : La} (h : Told a l) : (∀ c ∈ l.h, 0 ≤ c ∧ c < a.le) ∧ (∀ c ∈ l.l, 0 ≤ c ∧ c < a.le) ∧ 0 < l.l.length := by
  obtain ⟨n, hg, hh, hl⟩ := h.is
  refine ⟨?_, hl.letters hf, hl.pos⟩
  rcases hh with ⟨h0, _⟩ | ⟨f, _, hp⟩
  · rw [h0]; intro c hc; simp at hc
  · exact hp.letters hf
/-- taken at all: some state that is good, can be come to, leads to itself -/
theorem takes_some {a : Au} (hf : AuFit a) {u : Nat → Int} (h : TakesU a u) : ∃ q : Int, (0 ≤ q ∧ q < a.st) ∧ Rch a q ∧ a.good q ∧ Plus (Edge a) q q := by
  obtain ⟨r, h0, hs, hg⟩ := h
  have hr : ∀ i, 0 ≤ r i ∧ r i < a.st := fun i => (hf.sr _ (hs i)).1
  have rch : ∀ i, Rch a (r i) := by
    intro i
    induction i with
    | zero => exact .first h0
    | succ i ih => exact .step (s := ⟨r i, u i, r (i + 1)⟩) ih (hs i)
  obtain ⟨g, _, hgr⟩ := rise (P := fun _ m => a.good (r m)) (fun n => by obtain ⟨m, h1, h2⟩ := hg (n + 1); exact ⟨m, h1, h2⟩) 0
  obtain ⟨i, j, hij, _, he⟩ := pigeon a.st.toNat (fun k => (r (g (k + 1))).toNat) (fun k _ => by have := hr (g (k + 1)); omega)
  have he : (r (g (i + 1))).toNat = (r (g (j + 1))).toNat := he
  have e2 : r (g (i + 1)) = r (g (j + 1)) := by
    have h2 := hr (g (i + 1))
    have h3 := hr (g (j + 1))
    omega
  have hlt := rise_lt (fun k => (hgr k).1) (show i + 1 < j + 1 by omega)
  refine ⟨r (g (i + 1)), hr _, rch _, (hgr i).2, ?_⟩
  have pl : ∀ d k, Plus (Edge a) (r k) (r (k + d + 1)) := by
    intro d
    induction d with
    | zero => intro k; exact .one ⟨_, hs k, rfl, rfl⟩
    | succ d ih => intro k; exact (ih k).on ⟨_, hs (k + d + 1), rfl, rfl⟩
  have := pl (g (j + 1) - g (i + 1) - 1) (g (i + 1))
  rwa [show g (i + 1) + (g (j + 1) - g (i + 1) - 1) + 1 = g (j + 1) by omega, ← e2] at this

theorem nodup_few : ∀ (N : Nat) (xs : List Nat), xs.Nodup → (∀ x ∈ xs, x < N) → xs.length ≤ N
  | 0, xs, _, h => by
    cases xs with
    | nil => simp
    | cons x xs => exact absurd (h x (by simp)) (by omega)
  | N + 1, xs, hn, h => by
    have h1 := nodup_few N (xs.filter (· != N)) (hn.filter _) (fun x hx => by
      obtain ⟨a1, a2⟩ := List.mem_filter.1 hx
      have := h x a1
      simp only [bne_iff_ne, ne_eq] at a2
      omega)
    have h2 : xs.length ≤ (xs.filter (· != N)).length + xs.count N := by
      clear h1 hn h
      induction xs with
      | nil => simp
      | cons y ys ih =>
        by_cases hy : y = N
        · subst hy; simp; omega
        · simp [hy]; omega
    have h3 : xs.count N ≤ 1 := List.nodup_iff_count.1 hn N
    omega
/-- by which step each state was first come to, the first one first -/
structure ByOK (a : Au) (fr : List Int) (D : List (Int × Stp)) : Prop where
  nd : (D.map Prod.fst).Nodup
  by_ : ∀ (i : Nat) (h : i < D.length), D[i].2 ∈ a.ss ∧ D[i].2.t = D[i].1 ∧ (D[i].2.f ∈ fr ∨ ∃ j, j < i ∧ ∃ h' : j < D.length, D[j].1 = D[i].2.f)
theorem ByOK.nil (a : Au) (fr : List Int) : ByOK a fr [] := ⟨.nil, fun i h => absurd h (by simp)⟩
theorem ByOK.add {a : Au} {fr : List Int} {D : List (Int × Stp)} (h : ByOK a fr D) {s : Stp} (hs : s ∈ a.ss) (hn : s.t ∉ D.map Prod.fst) (hf : s.f ∈ fr ∨ s.f ∈ D.map Prod.fst) : ByOK a fr (D ++ [(s.t, s)]) := by
  refine ⟨?_, fun i hi => ?_⟩
  · rw [List.map_append, List.nodup_append]
    refine ⟨h.nd, by simp, fun x hx y hy => ?_⟩
    simp only [List.map_cons, List.map_nil, List.mem_singleton] at hy
    rintro rfl; subst hy; exact hn hx
  · rw [List.length_append] at hi
    simp only [List.length_cons, List.length_nil] at hi
    rcases Nat.lt_or_ge i D.length with h1 | h1
    · rw [List.getElem_append_left h1]
      obtain ⟨a1, a2, a3⟩ := h.by_ i h1
      refine ⟨a1, a2, a3.imp id fun ⟨j, j1, j2, j3⟩ => ⟨j, j1, by rw [List.length_append]; omega, by rw [List.getElem_append_left j2]; exact j3⟩⟩
    · obtain rfl : i = D.length := by omega
      have e : (D ++ [(s.t, s)])[D.length]'(by rw [List.length_append]; simp) = (s.t, s) := by simp
      rw [e]
      refine ⟨hs, rfl, hf.imp id fun hm => ?_⟩
      obtain ⟨j, j1, j2⟩ := List.getElem_of_mem hm
      rw [List.length_map] at j1
      rw [List.getElem_map] at j2
      exact ⟨j, j1, by rw [List.length_append]; omega, by rw [List.getElem_append_left j1]; exact j2⟩
theorem ByOK.len {a : Au} (hf : AuFit a) {fr : List Int} {D : List (Int × Stp)} (h : ByOK a fr D) : (D.length : Int) ≤ a.st := by
  have h1 := hf.st1
  have key : ∀ (xs : List Int), xs.Nodup → (∀ x ∈ xs, 0 ≤ x ∧ x < a.st) → (xs.length : Int) ≤ a.st := by
    intro xs hx hr
    have hnd : (xs.map Int.toNat).Nodup := by
      unfold List.Nodup at *
      rw [List.pairwise_map]
      exact hx.imp_of_mem (fun {x y} hx hy hne he => hne (by have := hr x hx; have := hr y hy; omega))
    have := nodup_few a.st.toNat (xs.map Int.toNat) hnd (fun x hx => by
      obtain ⟨y, hy, rfl⟩ := List.mem_map.1 hx
      have := hr y hy
      omega)
    rw [List.length_map] at this
    omega
  have := key (D.map Prod.fst) h.nd (fun x hx => by
    obtain ⟨i, h1, h2⟩ := List.getElem_of_mem hx
    rw [List.length_map] at h1
    rw [List.getElem_map] at h2
    obtain ⟨a1, a2, _⟩ := h.by_ i h1
    have := (hf.sr _ a1).2.1
    rw [a2, h2] at this
    exact this)
  rwa [List.length_map] at this
/-- one look back: where the way to a state comes from -/
theorem ByOK.back {a : Au} {fr : List Int} {D : List (Int × Stp)} (h : ByOK a fr D) {first : Int → Bool} (hfr : ∀ x ∈ fr, first x = true) {i : Nat} (hi : i < D.length) (hno : first D[i].2.f = false) : ∃ j, j < i ∧ ∃ h' : j < D.length, D[j].1 = D[i].2.f := by
  rcases (h.by_ i hi).2.2 with h1 | h1
  · rw [hfr _ h1] at hno; cases hno
  · exact h1
theorem ByOK.at {a : Au} {fr : List Int} {D : List (Int × Stp)} (h : ByOK a fr D) {i : Nat} (hi : i < D.length) : D.find? (fun p => p.1 == D[i].1) = some D[i] := by
  have : ∀ (D : List (Int × Stp)), (D.map Prod.fst).Nodup → ∀ i (hi : i < D.length), D.find? (fun p => p.1 == D[i].1) = some D[i] := by
    intro D
    induction D with
    | nil => intro _ i hi; simp at hi
    | cons p D ih =>
      intro hnd i hi
      rw [List.map_cons, List.nodup_cons] at hnd
      cases i with
      | zero => simp
      | succ i =>
        have hi' : i < D.length := by simpa using hi
        rw [List.getElem_cons_succ, List.find?_cons_of_neg]
        · exact ih hnd.2 i hi'
        · simp only [beq_iff_eq]
          intro he
          exact hnd.1 (by rw [he]; exact List.mem_map.2 ⟨D[i], List.getElem_mem hi', rfl⟩)
  exact this D h.nd i hi
end Go.Proofs.Ytoglgeaiiipchaa

namespace Go.Proofs.Ytoglgeaiiipchaa

/-- the states come to so far are right, and what is not yet looked at waits in the queue -/
structure FnM (a : Au) (fr : List Int) (dn : Int → Bool) (D : List (Int × Stp)) (q : List Int) (n : Nat) (op : Option Int) : Prop where
  by_ : ByOK a fr D
  qs : ∀ x ∈ q, x ∈ fr ∨ x ∈ D.map Prod.fst
  cl : ∀ x, (x ∈ fr ∨ x ∈ D.map Prod.fst) → x ∈ q ∨ op = some x ∨ ∀ s ∈ a.ss, s.f = x → s.t ∈ D.map Prod.fst
  no : ∀ x ∈ D.map Prod.fst, dn x = false
  few : q.length + (a.st.toNat - D.length) ≤ n
  op_ : ∀ x, op = some x → x ∈ fr ∨ x ∈ D.map Prod.fst
theorem FnM.start (a : Au) (fr : List Int) (dn : Int → Bool) : FnM a fr dn [] fr (a.st.toNat + fr.length) none :=
  ⟨ByOK.nil a fr, fun x h => .inl h, fun x h => .inl (h.elim id fun h => by simp at h), fun x h => by simp at h, by simp; omega, fun x h => by cases h⟩
theorem FnM.pop {a : Au} {fr : List Int} {dn : Int → Bool} {D : List (Int × Stp)} {x : Int} {q : List Int} {n : Nat} (h : FnM a fr dn D (x :: q) n none) : FnM a fr dn D q (n - 1) (some x) ∧ 0 < n := by
  have hf := h.few
  rw [List.length_cons] at hf
  refine ⟨⟨h.by_, fun y hy => h.qs y (List.mem_cons_of_mem _ hy), fun y hy => ?_, h.no, by omega, fun y hy => ?_⟩, by omega⟩
  · rcases h.cl y hy with h1 | h1 | h1
    · rcases List.mem_cons.1 h1 with rfl | h1
      · exact .inr (.inl rfl)
      · exact .inl h1
    · cases h1
    · exact .inr (.inr h1)
  · obtain rfl := Option.some.inj hy
    exact h.qs _ (List.mem_cons_self ..)
theorem FnM.open_in {a : Au} {fr : List Int} {dn : Int → Bool} {D : List (Int × Stp)} {x : Int} {q : List Int} {n : Nat} (h : FnM a fr dn D q n (some x)) {s : Stp} (hs : s ∈ a.ss) (hx : s.f = x) (hn : s.t ∉ D.map Prod.fst) : ByOK a fr (D ++ [(s.t, s)]) :=
  h.by_.add hs hn (by rw [hx]; exact h.op_ x rfl)
theorem FnM.add {a : Au} (hf : AuFit a) {fr : List Int} {dn : Int → Bool} {D : List (Int × Stp)} {x : Int} {q : List Int} {n : Nat} (h : FnM a fr dn D q n (some x)) {s : Stp} (hs : s ∈ a.ss) (hx : s.f = x) (hn : s.t ∉ D.map Prod.fst) (hd : dn s.t = false) :
    FnM a fr dn (D ++ [(s.t, s)]) (q ++ [s.t]) n (some x) := by
  have hb := h.open_in hs hx hn
  have hl := hb.len hf
  have hw := h.few
  have e : (D ++ [(s.t, s)]).map Prod.fst = D.map Prod.fst ++ [s.t] := by simp
  refine ⟨hb, fun y hy => ?_, fun y hy => ?_, fun y hy => ?_, ?_, fun y hy => ?_⟩
  · rw [e]
    rcases List.mem_append.1 hy with hy | hy
    · exact (h.qs y hy).imp id fun h => List.mem_append_left _ h
    · exact .inr (List.mem_append_right _ hy)
  · rw [e] at hy ⊢
    have : (y ∈ fr ∨ y ∈ D.map Prod.fst) ∨ y = s.t := by
      rcases hy with hy | hy
      · exact .inl (.inl hy)
      · rcases List.mem_append.1 hy with hy | hy
        · exact .inl (.inr hy)
        · exact .inr (by simpa using hy)
    rcases this with hy | rfl
    · rcases h.cl y hy with h1 | h1 | h1
      · exact .inl (List.mem_append_left _ h1)
      · exact .inr (.inl h1)
      · exact .inr (.inr fun t ht hty => List.mem_append_left _ (h1 t ht hty))
    · exact .inl (by simp)
  · rw [e] at hy
    rcases List.mem_append.1 hy with hy | hy
    · exact h.no y hy
    · rw [show y = s.t by simpa using hy]; exact hd
  · rw [List.length_append, List.length_append] at *
    simp only [List.length_cons, List.length_nil] at *
    omega
  · rw [e]
    exact (h.op_ y hy).imp id fun h => List.mem_append_left _ h
theorem FnM.shut {a : Au} {fr : List Int} {dn : Int → Bool} {D : List (Int × Stp)} {x : Int} {q : List Int} {n : Nat} (h : FnM a fr dn D q n (some x)) (hc : ∀ s ∈ a.ss, s.f = x → s.t ∈ D.map Prod.fst) : FnM a fr dn D q n none :=
  ⟨h.by_, h.qs, fun y hy => by
    rcases h.cl y hy with h1 | h1 | h1
    · exact .inl h1
    · obtain rfl := Option.some.inj h1
      exact .inr (.inr hc)
    · exact .inr (.inr h1), h.no, h.few, fun y hy => by cases hy⟩
/-- nothing found: there is nothing -/
theorem FnM.none_ {a : Au} {fr : List Int} {dn : Int → Bool} {D : List (Int × Stp)} {n : Nat} (h : FnM a fr dn D [] n none) {f y : Int} (hf : f ∈ fr) (hp : Plus (Edge a) f y) : dn y = false := by
  have cl : ∀ x, (x ∈ fr ∨ x ∈ D.map Prod.fst) → ∀ s ∈ a.ss, s.f = x → s.t ∈ D.map Prod.fst := fun x hx => by
    rcases h.cl x hx with h1 | h1 | h1
    · simp at h1
    · cases h1
    · exact h1
  have : ∀ z, Plus (Edge a) f z → z ∈ D.map Prod.fst := by
    intro z hz
    induction hz with
    | one he => obtain ⟨s, hs, h1, rfl⟩ := he; exact cl _ (.inl hf) s hs h1
    | on _ he ih => obtain ⟨s, hs, h1, rfl⟩ := he; exact cl _ (.inr ih) s hs h1
  exact h.no y (this y hp)
/-- what find answers: where, and by what -/
def FndS (a : Au) (fr : List Int) (dn : Int → Bool) (r : Int) (D : List (Int × Stp)) : Prop :=
  ByOK a fr D ∧ ((∃ D0 s, D = D0 ++ [(r, s)] ∧ dn r = true ∧ 0 ≤ r ∧ r < a.st) ∨ (r = -1 ∧ ∀ f ∈ fr, ∀ y, Plus (Edge a) f y → dn y = false))
theorem FndS.no {a : Au} {fr : List Int} {dn : Int → Bool} {D : List (Int × Stp)} {n : Nat} (h : FnM a fr dn D [] n none) : FndS a fr dn (-1) D := ⟨h.by_, .inr ⟨rfl, fun _ hf _ hp => h.none_ hf hp⟩⟩
theorem FndS.yes {a : Au} (hf : AuFit a) {fr : List Int} {dn : Int → Bool} {D : List (Int × Stp)} {x : Int} {q : List Int} {n : Nat} (h : FnM a fr dn D q n (some x)) {s : Stp} (hs : s ∈ a.ss) (hx : s.f = x) (hn : s.t ∉ D.map Prod.fst) (hd : dn s.t = true) : FndS a fr dn s.t (D ++ [(s.t, s)]) :=
  ⟨h.open_in hs hx hn, .inl ⟨D, s, rfl, hd, (hf.sr s hs).2.1⟩⟩

/-- on the way back: what was gone comes last -/
structure WayM (a : Au) (D : List (Int × Stp)) (tg : Int) (i : Nat) (out : List Int) : Prop where
  lt : i < D.length
  at_ : out = [] ∧ D[i].1 = tg ∨ Path a D[i].1 out.reverse tg
  few : out.length + i < D.length
theorem WayM.start {a : Au} {D : List (Int × Stp)} {tg : Int} {i : Nat} (h : i < D.length) (ht : D[i].1 = tg) : WayM a D tg i [] := ⟨h, .inl ⟨rfl, ht⟩, by simpa using h⟩
theorem WayM.path {a : Au} {fr : List Int} {D : List (Int × Stp)} {tg : Int} {i : Nat} {out : List Int} (hb : ByOK a fr D) (h : WayM a D tg i out) : Path a (D[i]'h.lt).2.f (out ++ [(D[i]'h.lt).2.l]).reverse tg := by
  have hl := h.lt
  obtain ⟨a1, a2, _⟩ := hb.by_ i hl
  have e : (out ++ [D[i].2.l]).reverse = D[i].2.l :: out.reverse := by simp
  rw [e]
  have hs : (⟨D[i].2.f, D[i].2.l, D[i].1⟩ : Stp) ∈ a.ss := by rw [← a2]; exact a1
  have ha := h.at_
  generalize D[i].1 = y at hs ha
  rcases ha with ⟨h0, rfl⟩ | h1
  · subst h0; exact .one hs
  · exact .cons hs h1
theorem WayM.step {a : Au} {fr : List Int} {D : List (Int × Stp)} {tg : Int} {i : Nat} {out : List Int} (hb : ByOK a fr D) (h : WayM a D tg i out) {first : Int → Bool} (hfr : ∀ x ∈ fr, first x = true) (hno : first (D[i]'h.lt).2.f = false) :
    ∃ j, j < i ∧ WayM a D tg j (out ++ [(D[i]'h.lt).2.l]) ∧ ∃ h' : j < D.length, D[j].1 = (D[i]'h.lt).2.f := by
  obtain ⟨j, j1, j2, j3⟩ := hb.back hfr h.lt hno
  have hp := h.path hb
  have := h.few
  exact ⟨j, j1, ⟨j2, .inr (by rw [j3]; exact hp), by rw [List.length_append]; simp; omega⟩, j2, j3⟩
theorem WayM.len {a : Au} {D : List (Int × Stp)} {tg : Int} {i : Nat} {out : List Int} (h : WayM a D tg i out) (x : Int) : (out ++ [x]).length ≤ D.length := by
  have := h.few
  rw [List.length_append]; simp; omega
/-- a way that was told -/
def WayS (a : Au) (first : Int → Bool) (tg : Int) (N : Nat) (out : List Int) : Prop := (∃ f, first f = true ∧ Path a f out tg) ∧ out.length ≤ N
theorem WayM.out {a : Au} {fr : List Int} {D : List (Int × Stp)} {tg : Int} {i : Nat} {out : List Int} (hb : ByOK a fr D) (h : WayM a D tg i out) {first : Int → Bool} (hno : first (D[i]'h.lt).2.f = true) : WayS a first tg D.length (out ++ [(D[i]'h.lt).2.l]).reverse :=
  ⟨⟨_, hno, h.path hb⟩, by rw [List.length_reverse]; exact h.len _⟩
/-- come to, but not at first: by a step -/
theorem Rch.plus {a : Au} {q : Int} (h : Rch a q) : q ∈ a.fs ∨ ∃ f ∈ a.fs, Plus (Edge a) f q := by
  induction h with
  | first h => exact .inl h
  | @step s _ hs ih =>
    rcases ih with h1 | ⟨f, hf, h1⟩
    · exact .inr ⟨_, h1, .one ⟨s, hs, rfl, rfl⟩⟩
    · exact .inr ⟨f, hf, h1.on ⟨s, hs, rfl, rfl⟩⟩
/-- no state will do: no word is taken -/
theorem none_takes {a : Au} (hf : AuFit a) (h : ∀ q : Int, 0 ≤ q → q < a.st → Rch a q → a.good q → ¬ Plus (Edge a) q q) (u : Nat → Int) : ¬ TakesU a u := fun ht => by
  obtain ⟨q, hq, h1, h2, h3⟩ := takes_some hf ht
  exact h q hq.1 hq.2 h1 h2 h3
theorem told_of {a : Au} (hf : AuFit a) {n : Int} (hg : a.good n) {loop head : List Int} {D1 : List (Int × Stp)} {fr1 : List Int} (h1 : ByOK a fr1 D1) (hl : WayS a (fun k => k == n) n D1.length loop)
    (hh : head = [] ∧ n ∈ a.fs ∨ ∃ fr2 D2, ByOK a fr2 D2 ∧ WayS a (fun k => decide (k ∈ a.fs)) n D2.length head) : Told a ⟨head, loop⟩ := by
  obtain ⟨⟨f, hfn, hp⟩, hll⟩ := hl
  obtain rfl : f = n := by simpa using hfn
  have l1 := h1.len hf
  refine ⟨⟨f, hg, ?_, hp⟩, ?_, by show (loop.length : Int) ≤ _; omega⟩
  · rcases hh with ⟨h2, h3⟩ | ⟨_, _, _, ⟨g, hg1, hg2⟩, _⟩
    · exact .inl ⟨h2, h3⟩
    · exact .inr ⟨g, by simpa using hg1, hg2⟩
  · show (head.length : Int) ≤ _
    rcases hh with ⟨h2, h3⟩ | ⟨_, D2, h4, _, h5⟩
    · rw [h2]; have := hf.st1; simp; omega
    · have := h4.len hf; omega
end Go.Proofs.Ytoglgeaiiipchaa
