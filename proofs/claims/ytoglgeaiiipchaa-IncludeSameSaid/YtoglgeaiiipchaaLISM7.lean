/- Plain: the search for heads; what is found tells two automata apart, and is not too long; if nothing is, nothing does. -/
import Derived.Test.YtoglgeaiiipchaaLISM6
set_option linter.unusedSimpArgs false
set_option linter.unusedVariables false
namespace Go.Proofs.Ytoglgeaiiipchaa

open Classical in
noncomputable def bits3 (P : Nat → Prop) : Nat := (if P 0 then 1 else 0) + (if P 1 then 2 else 0) + (if P 2 then 4 else 0)
theorem bits3_lt (P : Nat → Prop) : bits3 P < 8 := by unfold bits3; split <;> split <;> split <;> omega
theorem bits3_bit (P : Nat → Prop) {k : Nat} (hk : k < 3) : (bits3 P).testBit k = true ↔ P k := by
  have : k = 0 ∨ k = 1 ∨ k = 2 := by omega
  unfold bits3
  by_cases h0 : P 0 <;> by_cases h1 : P 1 <;> by_cases h2 : P 2 <;> simp only [h0, h1, h2, if_true, if_false] <;> rcases this with rfl | rfl | rfl <;> first | decide | (simp_all; done) | (simp_all; decide)
theorem lt8_ext {p q : Nat} (hp : p < 8) (hq : q < 8) (h : ∀ k, k < 3 → p.testBit k = q.testBit k) : p = q := by
  refine Nat.eq_of_testBit_eq fun k => ?_
  by_cases hk : k < 3
  · exact h k hk
  · have : 2 ^ 3 ≤ 2 ^ k := Nat.pow_le_pow_right (by decide) (by omega)
    rw [Nat.testBit_lt_two_pow (by omega), Nat.testBit_lt_two_pow (by omega)]
/-- from where a box lives, as bits -/
noncomputable def livesN (x : Bx) : Nat := bits3 (Lives x)
def behM (X Y : Bx) (i j k : Nat) : Nat := if 0 < bg X i k ∧ 0 < bg Y k j then max (bg X i k) (bg Y k j) else 0
def behAt (X Y : Bx) (i j : Nat) : Nat := max (max (behM X Y i j 0) (behM X Y i j 1)) (behM X Y i j 2)
def behB (X Y : Bx) : Bx := (List.range 9).map fun n => behAt X Y (n / 3) (n % 3)
theorem bg_map {f : Nat → Nat} {i j : Nat} (hi : i < 3) (hj : j < 3) : bg ((List.range 9).map f) i j = f (3 * i + j) := by
  unfold bg
  rw [List.getD_eq_getElem?_getD, List.getElem?_map, List.getElem?_range (by omega)]; rfl
theorem behB_is (X Y : Bx) : Beh X Y (behB X Y) := by
  refine ⟨by simp [behB], fun i j hi hj => ?_⟩
  have e : bg (behB X Y) i j = behAt X Y i j := by
    unfold behB
    rw [bg_map hi hj, show (3 * i + j) / 3 = i by omega, show (3 * i + j) % 3 = j by omega]
  rw [e]
  unfold behAt
  constructor
  · intro k hk h1 h2
    have hm : behM X Y i j k = max (bg X i k) (bg Y k j) := by unfold behM; rw [if_pos ⟨h1, h2⟩]
    have : k = 0 ∨ k = 1 ∨ k = 2 := by omega
    rcases this with rfl | rfl | rfl <;> omega
  · obtain ⟨k, hk, hv⟩ : ∃ k, k < 3 ∧ max (max (behM X Y i j 0) (behM X Y i j 1)) (behM X Y i j 2) = behM X Y i j k := by
      have : max (max (behM X Y i j 0) (behM X Y i j 1)) (behM X Y i j 2) = behM X Y i j 0 ∨ max (max (behM X Y i j 0) (behM X Y i j 1)) (behM X Y i j 2) = behM X Y i j 1 ∨ max (max (behM X Y i j 0) (behM X Y i j 1)) (behM X Y i j 2) = behM X Y i j 2 := by omega
      rcases this with h | h | h
      · exact ⟨0, by omega, h⟩
      · exact ⟨1, by omega, h⟩
      · exact ⟨2, by omega, h⟩
    rw [hv]
    unfold behM
    by_cases hc : 0 < bg X i k ∧ 0 < bg Y k j
    · right; exact ⟨k, hk, hc.1, hc.2, by rw [if_pos hc]⟩
    · left; rw [if_neg hc]
/-- boxes of both automata -/
abbrev Bp := Bx × Bx
def bb (x y : Bp) : Bp := (behB x.1 y.1, behB x.2 y.2)
noncomputable def keyOf (x : Bp) : Nat × Nat := (livesN x.1, livesN x.2)
def bx0 : Bp := ([], [])
/-- the boxes of a word -/
def bxW (LS : List Bp) : List Int → Bp
  | [] => bx0
  | c :: cs => cs.foldl (fun x c => bb x (LS.getD c.toNat bx0)) (LS.getD c.toNat bx0)
theorem bxW_snoc (LS : List Bp) {w : List Int} (hw : w ≠ []) (c : Int) : bxW LS (w ++ [c]) = bb (bxW LS w) (LS.getD c.toNat bx0) := by
  cases w with
  | nil => exact absurd rfl hw
  | cons d w => simp [bxW]
/-- letters stand for boxes of one letter -/
structure LetOK (a b : Au) (LS : List Bp) : Prop where
  len : (LS.length : Int) = a.le
  a : ∀ n : Nat, n < LS.length → BoxOf a [(n : Int)] (LS.getD n bx0).1
  b : ∀ n : Nat, n < LS.length → BoxOf b [(n : Int)] (LS.getD n bx0).2
def LtrIn (n : Nat) (w : List Int) : Prop := ∀ c ∈ w, 0 ≤ c ∧ c < (n : Int)
theorem LtrIn.snoc {n : Nat} {w : List Int} {c : Int} : LtrIn n (w ++ [c]) ↔ LtrIn n w ∧ 0 ≤ c ∧ c < (n : Int) := by
  unfold LtrIn
  constructor
  · intro h; exact ⟨fun d hd => h d (List.mem_append_left _ hd), h c (by simp)⟩
  · rintro ⟨h1, h2⟩ d hd
    rcases List.mem_append.1 hd with h | h
    · exact h1 d h
    · simp only [List.mem_singleton] at h; subst h; exact h2
section
variable {a b : Au} {LS : List Bp}
theorem bxW_box (fa : AuFit a) (fb : AuFit b) (a3 : a.st ≤ 3) (b3 : b.st ≤ 3) (hL : LetOK a b LS) : ∀ (n : Nat) (w : List Int), w.length = n + 1 → LtrIn LS.length w → BoxOf a w (bxW LS w).1 ∧ BoxOf b w (bxW LS w).2 := by
  intro n
  induction n with
  | zero =>
    intro w hw hl
    obtain ⟨c, rfl⟩ := List.length_eq_one_iff.1 hw
    have hc := hl c (by simp)
    have := hL.a c.toNat (by omega)
    have := hL.b c.toNat (by omega)
    rw [Int.toNat_of_nonneg hc.1] at *
    exact ⟨by assumption, by assumption⟩
  | succ n ih =>
    intro w hw hl
    rcases snoc_cases w with rfl | ⟨w', c, rfl⟩
    · simp at hw
    · obtain ⟨h1, hc⟩ := LtrIn.snoc.1 hl
      have hw' : w'.length = n + 1 := by simpa using hw
      obtain ⟨i1, i2⟩ := ih w' hw' h1
      rw [bxW_snoc LS (by rintro rfl; simp at hw')]
      have e1 := hL.a c.toNat (by omega)
      have e2 := hL.b c.toNat (by omega)
      rw [Int.toNat_of_nonneg hc.1] at e1 e2
      exact ⟨beh_box fa a3 i1 e1 (behB_is _ _), beh_box fb b3 i2 e2 (behB_is _ _)⟩
/-- what was met so far; p of them are done, of the next one e letters -/
structure Bfs (LS : List Bp) (R : List (Bp × List Int)) (p e : Nat) : Prop where
  w : ∀ i (h : i < R.length), R[i].2 ≠ [] ∧ LtrIn LS.length R[i].2 ∧ R[i].1 = bxW LS R[i].2
  nd : (R.map Prod.fst).Nodup
  so : ∀ i j (h : j < R.length) (hij : i < j), R[i].2.length ≤ R[j].2.length
  le : ∀ i (h : i < R.length) (hp : p < R.length), R[i].2.length ≤ R[p].2.length + 1
  ex : ∀ i n, i < R.length → i < p ∨ i = p ∧ n < e → n < LS.length → ∀ (h : i < R.length), ∃ j, ∃ hj : j < R.length, R[j].1 = bb R[i].1 (LS.getD n bx0) ∧ R[j].2.length ≤ R[i].2.length + 1
/-- letters that were noted -/
def BfsA (LS : List Bp) (R : List (Bp × List Int)) (m : Nat) : Prop := ∀ n, n < m → ∃ j, ∃ hj : j < R.length, R[j].1 = LS.getD n bx0 ∧ R[j].2.length ≤ 1
theorem Bfs.nil (LS : List Bp) : Bfs LS [] 0 0 := ⟨fun i h => absurd h (by simp), .nil, fun i j h => absurd h (by simp), fun i h => absurd h (by simp), fun i n h => absurd h (by simp)⟩
theorem mem_fst {R : List (Bp × List Int)} {x : Bp} : x ∈ R.map Prod.fst ↔ ∃ j, ∃ hj : j < R.length, R[j].1 = x := by
  constructor
  · intro h
    obtain ⟨i, h1, h2⟩ := List.getElem_of_mem h
    rw [List.length_map] at h1
    rw [List.getElem_map] at h2
    exact ⟨i, h1, h2⟩
  · rintro ⟨j, hj, rfl⟩; exact List.mem_map.2 ⟨R[j], List.getElem_mem hj, rfl⟩
theorem getElem_snoc {α : Type} (xs : List α) (x : α) (h : xs.length < (xs ++ [x]).length) : (xs ++ [x])[xs.length] = x := by simp
/-- one more is met, no shorter than the others, no longer than one more than the next one -/
theorem Bfs.add {R : List (Bp × List Int)} {p e : Nat} (h : Bfs LS R p e) {x : Bp} {w : List Int} (hw : w ≠ []) (hl : LtrIn LS.length w) (hx : x = bxW LS w) (hn : x ∉ R.map Prod.fst) (hge : ∀ i (hi : i < R.length), R[i].2.length ≤ w.length) (hle : ∀ hp : p < R.length, w.length ≤ R[p].2.length + 1) (hp : p < R.length ∨ p = R.length ∧ e = 0) : Bfs LS (R ++ [(x, w)]) p e := by
  have ge : ∀ i (h : i < (R ++ [(x, w)]).length), (∃ hi : i < R.length, (R ++ [(x, w)])[i] = R[i]) ∨ (i = R.length ∧ (R ++ [(x, w)])[i] = (x, w)) := by
    intro i hi
    rw [List.length_append, List.length_singleton] at hi
    rcases Nat.lt_or_ge i R.length with h1 | h1
    · exact .inl ⟨h1, List.getElem_append_left h1⟩
    · obtain rfl : i = R.length := by omega
      exact .inr ⟨rfl, by simp⟩
  refine ⟨fun i hi => ?_, ?_, fun i j hj hij => ?_, fun i hi hp' => ?_, fun i n hi' hor hn' hi => ?_⟩
  · rcases ge i hi with ⟨h1, e⟩ | ⟨_, e⟩
    · rw [e]; exact h.w i h1
    · rw [e]; exact ⟨hw, hl, hx⟩
  · rw [List.map_append, List.nodup_append]
    refine ⟨h.nd, by simp, fun y hy z hz => ?_⟩
    simp only [List.map_cons, List.map_nil, List.mem_singleton] at hz
    rintro rfl; subst hz; exact hn hy
  · rcases ge j hj with ⟨h1, e⟩ | ⟨h1, e⟩
    · rw [e, List.getElem_append_left (by omega)]
      exact h.so i j h1 hij
    · rw [e, List.getElem_append_left (by omega)]
      exact hge i (by omega)
  · rcases ge p hp' with ⟨h1, e⟩ | ⟨h1, e⟩
    · rw [e]
      rcases ge i hi with ⟨h2, e2⟩ | ⟨_, e2⟩
      · rw [e2]; exact h.le i h2 h1
      · rw [e2]; exact hle h1
    · rw [e]
      rcases ge i hi with ⟨h2, e2⟩ | ⟨_, e2⟩
      · rw [e2]; exact Nat.le_succ_of_le (hge i h2)
      · rw [e2]; exact Nat.le_succ _
  · rcases ge i hi with ⟨h1, e1⟩ | ⟨h1, e1⟩
    · obtain ⟨j, hj, j1, j2⟩ := h.ex i n h1 hor hn' h1
      refine ⟨j, by rw [List.length_append]; omega, ?_⟩
      rw [e1, List.getElem_append_left hj]
      exact ⟨j1, j2⟩
    · exact absurd hor (by omega)
theorem Bfs.letter {R : List (Bp × List Int)} {p e : Nat} (h : Bfs LS R p e) (hp : p < R.length) (hj : ∃ j, ∃ hj : j < R.length, R[j].1 = bb R[p].1 (LS.getD e bx0) ∧ R[j].2.length ≤ R[p].2.length + 1) : Bfs LS R p (e + 1) :=
  ⟨h.w, h.nd, h.so, h.le, fun i n hi hor hn hi' => by
    rcases hor with h1 | ⟨rfl, h1⟩
    · exact h.ex i n hi (.inl h1) hn hi'
    · by_cases hne : n < e
      · exact h.ex i n hi (.inr ⟨rfl, hne⟩) hn hi'
      · obtain rfl : n = e := by omega
        exact hj⟩
theorem Bfs.next {R : List (Bp × List Int)} {p : Nat} (h : Bfs LS R p LS.length) (hp : p < R.length) : Bfs LS R (p + 1) 0 :=
  ⟨h.w, h.nd, h.so, fun i hi hp' => by have := h.le i hi hp; have := h.so p (p + 1) hp' (by omega); omega, fun i n hi hor hn hi' => by
    rcases hor with h1 | ⟨_, h1⟩
    · by_cases hip : i < p
      · exact h.ex i n hi (.inl hip) hn hi'
      · obtain rfl : i = p := by omega
        exact h.ex i n hi (.inr ⟨rfl, hn⟩) hn hi'
    · omega⟩
/-- all words are met, by no longer ones -/
theorem Bfs.all {R : List (Bp × List Int)} {p : Nat} (h : Bfs LS R p 0) (hp : R.length ≤ p) (hA : BfsA LS R LS.length) : ∀ (n : Nat) (w : List Int), w.length = n + 1 → LtrIn LS.length w → ∃ j, ∃ hj : j < R.length, R[j].1 = bxW LS w ∧ R[j].2.length ≤ w.length := by
  intro n
  induction n with
  | zero =>
    intro w hw hl
    obtain ⟨c, rfl⟩ := List.length_eq_one_iff.1 hw
    have hc := hl c (by simp)
    exact hA c.toNat (by omega)
  | succ n ih =>
    intro w hw hl
    rcases snoc_cases w with rfl | ⟨w', c, rfl⟩
    · simp at hw
    · obtain ⟨h1, hc⟩ := LtrIn.snoc.1 hl
      have hw' : w'.length = n + 1 := by simpa using hw
      obtain ⟨i, hi, e1, e2⟩ := ih w' hw' h1
      obtain ⟨j, hj, f1, f2⟩ := h.ex i c.toNat hi (.inl (by omega)) (by omega) hi
      refine ⟨j, hj, ?_, ?_⟩
      · rw [f1, e1, bxW_snoc LS (by rintro rfl; simp at hw')]
      · rw [List.length_append, List.length_singleton]; omega
/-- of each key the first word -/
noncomputable def outsOf (R : List (Bp × List Int)) : List ((Nat × Nat) × List Int) := R.foldl (fun O e => if keyOf e.1 ∈ O.map Prod.fst then O else O ++ [(keyOf e.1, e.2)]) []
theorem outsOf_snoc (R : List (Bp × List Int)) (e : Bp × List Int) : outsOf (R ++ [e]) = if keyOf e.1 ∈ (outsOf R).map Prod.fst then outsOf R else outsOf R ++ [(keyOf e.1, e.2)] := by
  unfold outsOf
  rw [List.foldl_append]; rfl
theorem outsOf_key : ∀ (n : Nat) (R : List (Bp × List Int)), R.length = n → ∀ k, k ∈ (outsOf R).map Prod.fst ↔ ∃ e ∈ R, keyOf e.1 = k
  | 0, R, hR, k => by
    obtain rfl := List.eq_nil_of_length_eq_zero hR
    simp [outsOf]
  | n + 1, R, hR, k => by
    rcases List.eq_nil_or_concat R with rfl | ⟨R', e, rfl⟩
    · simp at hR
    · rw [List.concat_eq_append] at hR ⊢
      have hR' : R'.length = n := by simpa using hR
      have ih := outsOf_key n R' hR'
      rw [outsOf_snoc]
      simp only [List.mem_append, List.mem_singleton]
      split
      · rename_i hm
        rw [ih]
        constructor
        · rintro ⟨x, hx, rfl⟩; exact ⟨x, .inl hx, rfl⟩
        · rintro ⟨x, hx | rfl, rfl⟩
          · exact ⟨x, hx, rfl⟩
          · exact (ih _).1 hm
      · rw [List.map_append, List.mem_append, ih]
        simp only [List.map_cons, List.map_nil, List.mem_singleton]
        constructor
        · rintro (⟨x, hx, rfl⟩ | rfl)
          · exact ⟨x, .inl hx, rfl⟩
          · exact ⟨e, .inr rfl, rfl⟩
        · rintro ⟨x, hx | rfl, rfl⟩
          · exact .inl ⟨x, hx, rfl⟩
          · exact .inr rfl
theorem outsOf_word : ∀ (n : Nat) (R : List (Bp × List Int)), R.length = n → ∀ k v, (k, v) ∈ outsOf R → ∃ i, ∃ hi : i < R.length, R[i].2 = v ∧ keyOf R[i].1 = k ∧ ∀ j (hj : j < R.length), j < i → keyOf R[j].1 ≠ k
  | 0, R, hR, k, v, h => by
    obtain rfl := List.eq_nil_of_length_eq_zero hR
    simp [outsOf] at h
  | n + 1, R, hR, k, v, h => by
    rcases List.eq_nil_or_concat R with rfl | ⟨R', e, rfl⟩
    · simp at hR
    · rw [List.concat_eq_append] at hR h ⊢
      have hR' : R'.length = n := by simpa using hR
      have old : (k, v) ∈ outsOf R' → ∃ i, ∃ hi : i < (R' ++ [e]).length, (R' ++ [e])[i].2 = v ∧ keyOf (R' ++ [e])[i].1 = k ∧ ∀ j (hj : j < (R' ++ [e]).length), j < i → keyOf (R' ++ [e])[j].1 ≠ k := fun h => by
        obtain ⟨i, hi, h1, h2, h3⟩ := outsOf_word n R' hR' k v h
        refine ⟨i, by rw [List.length_append]; omega, ?_, ?_, fun j hj hji => ?_⟩
        · rw [List.getElem_append_left hi]; exact h1
        · rw [List.getElem_append_left hi]; exact h2
        · rw [List.getElem_append_left (by omega)]; exact h3 j (by omega) hji
      rw [outsOf_snoc] at h
      split at h
      · exact old h
      · rename_i hm
        rcases List.mem_append.1 h with h | h
        · exact old h
        · simp only [List.mem_singleton, Prod.mk.injEq] at h
          obtain ⟨rfl, rfl⟩ := h
          refine ⟨R'.length, by simp, by simp, by simp, fun j hj hji he => ?_⟩
          rw [List.getElem_append_left hji] at he
          exact hm ((outsOf_key n R' hR' _).2 ⟨_, List.getElem_mem hji, he⟩)
/-- each key has a shortest word -/
theorem outs_short {R : List (Bp × List Int)} {p : Nat} (h : Bfs LS R p 0) (hp : R.length ≤ p) (hA : BfsA LS R LS.length) {k : Nat × Nat} {v : List Int} (hm : (k, v) ∈ outsOf R) :
    v ≠ [] ∧ LtrIn LS.length v ∧ k = keyOf (bxW LS v) ∧ ∀ w, w ≠ [] → LtrIn LS.length w → keyOf (bxW LS w) = k → v.length ≤ w.length := by
  obtain ⟨i, hi, h1, h2, h3⟩ := outsOf_word _ R rfl k v hm
  obtain ⟨w1, w2, w3⟩ := h.w i hi
  rw [h1] at w1 w2 w3
  refine ⟨w1, w2, by rw [← w3, h2], fun w hw hl hk => ?_⟩
  obtain ⟨m, hm⟩ : ∃ m, w.length = m + 1 := ⟨w.length - 1, by cases w with | nil => exact absurd rfl hw | cons c w => simp⟩
  obtain ⟨j, hj, e1, e2⟩ := h.all hp hA m w hm hl
  have hij : i ≤ j := by
    rcases Nat.lt_or_ge j i with hji | hji
    · exact absurd (by rw [e1]; exact hk) (h3 j hj hji)
    · exact hji
  rcases Nat.eq_or_lt_of_le hij with rfl | hlt
  · rw [h1] at e2; exact e2
  · have := h.so i j hj hlt
    rw [h1] at this; omega
theorem outs_all {R : List (Bp × List Int)} {p : Nat} (h : Bfs LS R p 0) (hp : R.length ≤ p) (hA : BfsA LS R LS.length) {w : List Int} (hw : w ≠ []) (hl : LtrIn LS.length w) : ∃ v, (keyOf (bxW LS w), v) ∈ outsOf R := by
  obtain ⟨m, hm⟩ : ∃ m, w.length = m + 1 := ⟨w.length - 1, by cases w with | nil => exact absurd rfl hw | cons c w => simp⟩
  obtain ⟨j, hj, e1, e2⟩ := h.all hp hA m w hm hl
  have := (outsOf_key _ R rfl (keyOf (bxW LS w))).2 ⟨_, List.getElem_mem hj, by rw [e1]⟩
  obtain ⟨⟨k, v⟩, h1, h2⟩ := List.mem_map.1 this
  simp only at h2
  subst h2
  exact ⟨v, h1⟩
/-- so many boxes there are -/
def bxNum (B : Bx) : Nat := B.foldl (fun n d => 3 * n + d) 0
theorem bxNum_snoc (B : Bx) (d : Nat) : bxNum (B ++ [d]) = 3 * bxNum B + d := by simp [bxNum]
theorem bxNum_inj : ∀ (n : Nat) (B C : Bx), B.length = n → C.length = n → (∀ d ∈ B, d ≤ 2) → (∀ d ∈ C, d ≤ 2) → bxNum B < 3 ^ n ∧ (bxNum B = bxNum C → B = C)
  | 0, B, C, hB, hC, _, _ => by
    obtain rfl := List.eq_nil_of_length_eq_zero hB
    obtain rfl := List.eq_nil_of_length_eq_zero hC
    exact ⟨by simp [bxNum], fun _ => rfl⟩
  | n + 1, B, C, hB, hC, h1, h2 => by
    rcases List.eq_nil_or_concat B with rfl | ⟨B', d, rfl⟩
    · simp at hB
    rcases List.eq_nil_or_concat C with rfl | ⟨C', c, rfl⟩
    · simp at hC
    rw [List.concat_eq_append] at hB hC h1 h2 ⊢
    rw [List.concat_eq_append]
    have l1 : B'.length = n := by simpa using hB
    have l2 : C'.length = n := by simpa using hC
    have d1 := h1 d (by simp)
    have d2 := h2 c (by simp)
    obtain ⟨i1, i2⟩ := bxNum_inj n B' C' l1 l2 (fun x hx => h1 x (List.mem_append_left _ hx)) (fun x hx => h2 x (List.mem_append_left _ hx))
    rw [bxNum_snoc, bxNum_snoc, Nat.pow_succ]
    refine ⟨by omega, fun he => ?_⟩
    have e1 : bxNum B' = bxNum C' := by omega
    rw [i2 e1, show d = c by omega]
theorem box_digits {a : Au} {w : List Int} {B : Bx} (h : BoxOf a w B) : ∀ d ∈ B, d ≤ 2 := by
  intro d hd
  obtain ⟨n, hn, rfl⟩ := List.getElem_of_mem hd
  have hl := h.len
  have := h.le (n / 3) (n % 3) (by omega) (by omega)
  unfold bg at this
  rwa [show 3 * (n / 3) + n % 3 = n by omega, getD_lt hn] at this
theorem Bfs.few (fa : AuFit a) (fb : AuFit b) (a3 : a.st ≤ 3) (b3 : b.st ≤ 3) (hL : LetOK a b LS) {R : List (Bp × List Int)} {p e : Nat} (h : Bfs LS R p e) : R.length ≤ 387420489 := by
  have box : ∀ x ∈ R.map Prod.fst, ∃ w, BoxOf a w x.1 ∧ BoxOf b w x.2 := by
    intro x hx
    obtain ⟨j, hj, rfl⟩ := mem_fst.1 hx
    obtain ⟨w1, w2, w3⟩ := h.w j hj
    obtain ⟨m, hm⟩ : ∃ m, R[j].2.length = m + 1 := ⟨R[j].2.length - 1, by cases hc : R[j].2 with | nil => exact absurd hc w1 | cons c w => simp⟩
    have := bxW_box fa fb a3 b3 hL m _ hm w2
    rw [← w3] at this
    exact ⟨_, this⟩
  have key : ((R.map Prod.fst).map fun x : Bp => bxNum x.1 + 19683 * bxNum x.2).Nodup := by
    unfold List.Nodup
    rw [List.pairwise_map]
    refine h.nd.imp_of_mem (fun {x y} hx hy hne he => hne ?_)
    obtain ⟨w, x1, x2⟩ := box x hx
    obtain ⟨v, y1, y2⟩ := box y hy
    obtain ⟨a1, a2⟩ := bxNum_inj 9 x.1 y.1 x1.len y1.len (box_digits x1) (box_digits y1)
    obtain ⟨b1, b2⟩ := bxNum_inj 9 x.2 y.2 x2.len y2.len (box_digits x2) (box_digits y2)
    obtain ⟨c1, _⟩ := bxNum_inj 9 y.1 y.1 y1.len y1.len (box_digits y1) (box_digits y1)
    have e9 : 3 ^ 9 = 19683 := by decide
    rw [e9] at a1 b1 c1
    exact Prod.ext (a2 (by omega)) (b2 (by omega))
  have := nodup_few 387420489 _ key (fun n hn => by
    obtain ⟨x, hx, rfl⟩ := List.mem_map.1 hn
    obtain ⟨w, x1, x2⟩ := box x hx
    have a1 := (bxNum_inj 9 x.1 x.1 x1.len x1.len (box_digits x1) (box_digits x1)).1
    have b1 := (bxNum_inj 9 x.2 x.2 x2.len x2.len (box_digits x2) (box_digits x2)).1
    have e9 : 3 ^ 9 = 19683 := by decide
    rw [e9] at a1 b1
    omega)
  rwa [List.length_map, List.length_map] at this
end
end Go.Proofs.Ytoglgeaiiipchaa

namespace Go.Proofs.Ytoglgeaiiipchaa

theorem boolIff {a b : Bool} (h : a = true ↔ b = true) : a = b := by cases a <;> cases b <;> simp_all

/-- where a head leads to, as bits -/
noncomputable def hset (a : Au) (u : List Int) : Nat := bits3 fun k => HeadAt a u (k : Int)
noncomputable def stepN (s : Nat) (X : Bx) : Nat := bits3 fun k => ∃ i, i < 3 ∧ s.testBit i = true ∧ 0 < bg X i k
noncomputable def stepP (k : Nat × Nat) (x : Bp) : Nat × Nat := (stepN k.1 x.1, stepN k.2 x.2)
section
variable {a b : Au} {LS : List Bp}
theorem hset_snoc (fa : AuFit a) (a3 : a.st ≤ 3) {u : List Int} {c : Int} {X : Bx} (hX : BoxOf a [c] X) : hset a (u ++ [c]) = stepN (hset a u) X := by
  refine lt8_ext (bits3_lt _) (bits3_lt _) fun k hk => boolIff ?_
  unfold stepN hset
  rw [bits3_bit _ hk, bits3_bit _ hk]
  constructor
  · rintro ⟨f, hf, p⟩
    have hfr := fa.fr f hf
    obtain ⟨f', rfl⟩ : ∃ f' : Nat, (f' : Int) = f := ⟨f.toNat, by omega⟩
    obtain ⟨g1, g2, y, p1, p2, _⟩ := p.split
    obtain ⟨i, hi, rfl⟩ := small_state fa a3 p1 (by omega)
    exact ⟨i, hi, (bits3_bit _ hi).2 ⟨_, hf, p1.forget⟩, (hX.pos i k hi hk).2 p2.forget⟩
  · rintro ⟨i, hi, h1, h2⟩
    obtain ⟨f, hf, p⟩ := (bits3_bit _ hi).1 h1
    exact ⟨f, hf, p.trans ((hX.pos i k hi hk).1 h2)⟩
theorem hset_nil (a : Au) : hset a [] = bits3 fun k => (k : Int) ∈ a.fs := by
  refine lt8_ext (bits3_lt _) (bits3_lt _) fun k hk => boolIff ?_
  unfold hset
  rw [bits3_bit _ hk, bits3_bit _ hk]
  constructor
  · rintro ⟨f, hf, p⟩
    generalize hn : ([] : List Int) = n at p
    cases p with
    | nil => exact hf
    | go => simp at hn
  · intro h; exact ⟨_, h, .nil _⟩
noncomputable def hkey (a b : Au) (u : List Int) : Nat × Nat := (hset a u, hset b u)
theorem hkey_lt (a b : Au) (u : List Int) : (hkey a b u).1 < 8 ∧ (hkey a b u).2 < 8 := by
  unfold hkey hset
  exact ⟨bits3_lt (fun k => HeadAt a u (k : Int)), bits3_lt (fun k => HeadAt b u (k : Int))⟩
theorem hkey_snoc (fa : AuFit a) (fb : AuFit b) (a3 : a.st ≤ 3) (b3 : b.st ≤ 3) (hL : LetOK a b LS) {u : List Int} {n : Nat} (hn : n < LS.length) : hkey a b (u ++ [(n : Int)]) = stepP (hkey a b u) (LS.getD n bx0) :=
  Prod.ext (hset_snoc fa a3 (hL.a n hn)) (hset_snoc fb b3 (hL.b n hn))
/-- what heads lead to so far; p of them are done, of the next one e letters -/
structure Hds (a b : Au) (LS : List Bp) (R : List ((Nat × Nat) × List Int)) (p e : Nat) : Prop where
  w : ∀ i (h : i < R.length), LtrIn LS.length R[i].2 ∧ R[i].1 = hkey a b R[i].2 ∧ R[i].2.length ≤ i
  nd : (R.map Prod.fst).Nodup
  ex : ∀ i n, i < R.length → i < p ∨ i = p ∧ n < e → n < LS.length → ∀ (h : i < R.length), stepP R[i].1 (LS.getD n bx0) ∈ R.map Prod.fst
  nil : hkey a b [] ∈ R.map Prod.fst
theorem Hds.first (a b : Au) (LS : List Bp) : Hds a b LS [(hkey a b [], [])] 0 0 :=
  ⟨fun i h => by
    obtain rfl : i = 0 := by simpa using h
    exact ⟨fun c hc => by simp at hc, rfl, Nat.le_refl _⟩, by simp, fun i n _ hor => by omega, by simp⟩
theorem Hds.add {R : List ((Nat × Nat) × List Int)} {p e : Nat} (h : Hds a b LS R p e) {w : List Int} (hl : LtrIn LS.length w) (hn : hkey a b w ∉ R.map Prod.fst) (hlen : w.length ≤ R.length) (hp : p < R.length) : Hds a b LS (R ++ [(hkey a b w, w)]) p e := by
  have ge : ∀ i (h : i < (R ++ [(hkey a b w, w)]).length), (∃ hi : i < R.length, (R ++ [(hkey a b w, w)])[i] = R[i]) ∨ (i = R.length ∧ (R ++ [(hkey a b w, w)])[i] = (hkey a b w, w)) := by
    intro i hi
    rw [List.length_append, List.length_singleton] at hi
    rcases Nat.lt_or_ge i R.length with h1 | h1
    · exact .inl ⟨h1, List.getElem_append_left h1⟩
    · obtain rfl : i = R.length := by omega
      exact .inr ⟨rfl, by simp⟩
  refine ⟨fun i hi => ?_, ?_, fun i n hi' hor hn' hi => ?_, by rw [List.map_append]; exact List.mem_append_left _ h.nil⟩
  · rcases ge i hi with ⟨h1, e⟩ | ⟨h1, e⟩
    · rw [e]; exact h.w i h1
    · rw [e]; exact ⟨hl, rfl, by rw [h1]; exact hlen⟩
  · rw [List.map_append, List.nodup_append]
    refine ⟨h.nd, by simp, fun y hy z hz => ?_⟩
    simp only [List.map_cons, List.map_nil, List.mem_singleton] at hz
    rintro rfl; subst hz; exact hn hy
  · rcases ge i hi with ⟨h1, e1⟩ | ⟨h1, e1⟩
    · rw [e1, List.map_append]
      exact List.mem_append_left _ (h.ex i n h1 hor hn' h1)
    · omega
theorem Hds.letter {R : List ((Nat × Nat) × List Int)} {p e : Nat} (h : Hds a b LS R p e) (hp : p < R.length) (hj : stepP R[p].1 (LS.getD e bx0) ∈ R.map Prod.fst) : Hds a b LS R p (e + 1) :=
  ⟨h.w, h.nd, fun i n hi hor hn hi' => by
    rcases hor with h1 | ⟨rfl, h1⟩
    · exact h.ex i n hi (.inl h1) hn hi'
    · by_cases hne : n < e
      · exact h.ex i n hi (.inr ⟨rfl, hne⟩) hn hi'
      · obtain rfl : n = e := by omega
        exact hj, h.nil⟩
theorem Hds.next {R : List ((Nat × Nat) × List Int)} {p : Nat} (h : Hds a b LS R p LS.length) : Hds a b LS R (p + 1) 0 :=
  ⟨h.w, h.nd, fun i n hi hor hn hi' => by
    rcases hor with h1 | ⟨_, h1⟩
    · by_cases hip : i < p
      · exact h.ex i n hi (.inl hip) hn hi'
      · obtain rfl : i = p := by omega
        exact h.ex i n hi (.inr ⟨rfl, hn⟩) hn hi'
    · omega, h.nil⟩
theorem Hds.few {R : List ((Nat × Nat) × List Int)} {p e : Nat} (h : Hds a b LS R p e) : R.length ≤ 64 := by
  have key : ((R.map Prod.fst).map fun k : Nat × Nat => k.1 + 8 * k.2).Nodup := by
    unfold List.Nodup
    rw [List.pairwise_map]
    refine h.nd.imp_of_mem (fun {x y} hx hy hne he => hne ?_)
    have lt : ∀ x ∈ R.map Prod.fst, x.1 < 8 ∧ x.2 < 8 := fun x hx => by
      obtain ⟨i, h1, h2⟩ := List.getElem_of_mem hx
      rw [List.length_map] at h1
      rw [List.getElem_map, (h.w i h1).2.1] at h2
      rw [← h2]
      exact hkey_lt _ _ _
    have := lt x hx
    have := lt y hy
    exact Prod.ext (by omega) (by omega)
  have := nodup_few 64 _ key (fun n hn => by
    obtain ⟨x, hx, rfl⟩ := List.mem_map.1 hn
    obtain ⟨i, h1, h2⟩ := List.getElem_of_mem hx
    rw [List.length_map] at h1
    rw [List.getElem_map, (h.w i h1).2.1] at h2
    have : x.1 < 8 := by rw [← h2]; exact (hkey_lt _ _ _).1
    have : x.2 < 8 := by rw [← h2]; exact (hkey_lt _ _ _).2
    omega)
  rwa [List.length_map, List.length_map] at this
/-- all heads are met -/
theorem Hds.all (fa : AuFit a) (fb : AuFit b) (a3 : a.st ≤ 3) (b3 : b.st ≤ 3) (hL : LetOK a b LS) {R : List ((Nat × Nat) × List Int)} {p : Nat} (h : Hds a b LS R p 0) (hp : R.length ≤ p) : ∀ (n : Nat) (u : List Int), u.length = n → LtrIn LS.length u → ∃ v, (hkey a b u, v) ∈ R ∧ v.length ≤ 63
  | n, u, hu, hl => by
    have key : ∀ (n : Nat) (u : List Int), u.length = n → LtrIn LS.length u → hkey a b u ∈ R.map Prod.fst := by
      intro n
      induction n with
      | zero => intro u hu _; obtain rfl := List.eq_nil_of_length_eq_zero hu; exact h.nil
      | succ n ih =>
        intro u hu hl
        rcases snoc_cases u with rfl | ⟨u', c, rfl⟩
        · simp at hu
        · obtain ⟨h1, hc⟩ := LtrIn.snoc.1 hl
          have := ih u' (by simpa using hu) h1
          obtain ⟨i, i1, i2⟩ := List.getElem_of_mem this
          rw [List.length_map] at i1
          rw [List.getElem_map] at i2
          obtain ⟨c', rfl⟩ : ∃ c' : Nat, (c' : Int) = c := ⟨c.toNat, by omega⟩
          rw [hkey_snoc fa fb a3 b3 hL (by omega), ← i2]
          exact h.ex i c' i1 (.inl (by omega)) (by omega) i1
    obtain ⟨i, i1, i2⟩ := List.getElem_of_mem (key n u hu hl)
    rw [List.length_map] at i1
    rw [List.getElem_map] at i2
    have := (h.w i i1).2.2
    have := h.few
    exact ⟨R[i].2, by rw [← i2]; exact List.getElem_mem i1, by omega⟩
/-- a head and a loop that tell them apart, by their keys -/
def CondK (k j : Nat × Nat) : Prop := (∃ i, i < 3 ∧ k.1.testBit i = true ∧ j.1.testBit i = true) ∧ ¬ ∃ i, i < 3 ∧ k.2.testBit i = true ∧ j.2.testBit i = true
theorem cond_iff (oa : AuOK a) (sa : ssSorted a.ss) (ob : AuOK b) (sb : ssSorted b.ss) (a3 : a.st ≤ 3) (b3 : b.st ≤ 3) (hL : LetOK a b LS) {l : La} (hp : 0 < l.l.length) (hl : LtrIn LS.length l.l) :
    TakesU a l.at ∧ ¬ TakesU b l.at ↔ CondK (hkey a b l.h) (keyOf (bxW LS l.l)) := by
  obtain ⟨m, hm⟩ : ∃ m, l.l.length = m + 1 := ⟨l.l.length - 1, by omega⟩
  obtain ⟨ba, bb'⟩ := bxW_box (oa.fit sa) (ob.fit sb) a3 b3 hL m l.l hm hl
  rw [takes_box oa sa a3 hp ba, takes_box ob sb b3 hp bb']
  unfold CondK hkey keyOf hset livesN
  have e : ∀ (P Q : Nat → Prop), (∃ i, i < 3 ∧ (bits3 P).testBit i = true ∧ (bits3 Q).testBit i = true) ↔ ∃ i, i < 3 ∧ P i ∧ Q i := fun P Q =>
    ⟨fun ⟨i, hi, h1, h2⟩ => ⟨i, hi, (bits3_bit P hi).1 h1, (bits3_bit Q hi).1 h2⟩, fun ⟨i, hi, h1, h2⟩ => ⟨i, hi, (bits3_bit P hi).2 h1, (bits3_bit Q hi).2 h2⟩⟩
  simp only [e]
/-- is there a word that one takes and the other one does not? -/
def Apart (a b : Au) : Prop := ∃ l : La, 0 < l.l.length ∧ LtrIn a.le.toNat l.h ∧ LtrIn a.le.toNat l.l ∧ TakesU a l.at ∧ ¬ TakesU b l.at
/-- **if no two keys tell them apart, nothing does; the shortest ones that do are not too long** -/
theorem apart_law (oa : AuOK a) (sa : ssSorted a.ss) (ob : AuOK b) (sb : ssSorted b.ss) (a3 : a.st ≤ 3) (b3 : b.st ≤ 3) (hL : LetOK a b LS)
    {R : List (Bp × List Int)} {p : Nat} (h : Bfs LS R p 0) (hp : R.length ≤ p) (hA : BfsA LS R LS.length) {H : List ((Nat × Nat) × List Int)} {q : Nat} (hh : Hds a b LS H q 0) (hq : H.length ≤ q) :
    (Apart a b ↔ ∃ e ∈ H, ∃ o ∈ outsOf R, CondK e.1 o.1) ∧
    ∀ e ∈ H, ∀ o ∈ outsOf R, CondK e.1 o.1 → (TakesU a (⟨e.2, o.2⟩ : La).at ∧ ¬ TakesU b (⟨e.2, o.2⟩ : La).at ∧ 0 < o.2.length ∧ LtrIn LS.length e.2 ∧ LtrIn LS.length o.2) ∧
      ((∀ e' ∈ H, ∀ o' ∈ outsOf R, CondK e'.1 o'.1 → e.2.length + o.2.length ≤ e'.2.length + o'.2.length) → e.2.length ≤ 4000 ∧ o.2.length ≤ 4000) := by
  have hle : a.le.toNat = LS.length := by have := hL.len; omega
  have sound : ∀ e ∈ H, ∀ o ∈ outsOf R, CondK e.1 o.1 → TakesU a (⟨e.2, o.2⟩ : La).at ∧ ¬ TakesU b (⟨e.2, o.2⟩ : La).at ∧ 0 < o.2.length ∧ LtrIn LS.length e.2 ∧ LtrIn LS.length o.2 := by
    intro e he o ho hc
    obtain ⟨i, i1, rfl⟩ := List.getElem_of_mem he
    obtain ⟨w1, w2, w3⟩ := hh.w i i1
    obtain ⟨v1, v2, v3, _⟩ := outs_short h hp hA (k := o.1) (v := o.2) ho
    have v0 : 0 < o.2.length := by cases hv : o.2 with | nil => exact absurd hv v1 | cons c w => simp
    rw [w2, v3] at hc
    have := (cond_iff oa sa ob sb a3 b3 hL (l := ⟨H[i].2, o.2⟩) v0 v2).2 hc
    exact ⟨this.1, this.2, v0, w1, v2⟩
  have complete : ∀ l : La, 0 < l.l.length → LtrIn LS.length l.h → LtrIn LS.length l.l → TakesU a l.at → ¬ TakesU b l.at → ∃ e ∈ H, ∃ o ∈ outsOf R, CondK e.1 o.1 ∧ e.2.length ≤ 63 ∧ o.2.length ≤ l.l.length := by
    intro l l0 l1 l2 ta tb
    have hc := (cond_iff oa sa ob sb a3 b3 hL l0 l2).1 ⟨ta, tb⟩
    obtain ⟨u, hu, u63⟩ := hh.all (oa.fit sa) (ob.fit sb) a3 b3 hL hq _ l.h rfl l1
    have ln : l.l ≠ [] := by intro he; rw [he] at l0; simp at l0
    obtain ⟨v, hv⟩ := outs_all h hp hA ln l2
    have hs := (outs_short h hp hA hv).2.2.2 l.l ln l2 rfl
    exact ⟨_, hu, _, hv, hc, u63, hs⟩
  refine ⟨⟨?_, ?_⟩, fun e he o ho hc => ⟨sound e he o ho hc, fun hmin => ?_⟩⟩
  · rintro ⟨l, l0, l1, l2, ta, tb⟩
    rw [hle] at l1 l2
    obtain ⟨e, he, o, ho, hc, _⟩ := complete l l0 l1 l2 ta tb
    exact ⟨e, he, o, ho, hc⟩
  · rintro ⟨e, he, o, ho, hc⟩
    obtain ⟨s1, s2, s3, s4, s5⟩ := sound e he o ho hc
    exact ⟨⟨e.2, o.2⟩, s3, by rw [hle]; exact s4, by rw [hle]; exact s5, s1, s2⟩
  · obtain ⟨s1, s2, s3, s4, s5⟩ := sound e he o ho hc
    obtain ⟨l', l0, l1, ta, tb, lh, ll⟩ := short_apart oa sa ob sb a3 b3 (l := ⟨e.2, o.2⟩) s3 s1 s2
    have lh' : LtrIn LS.length l'.h := fun c hc => by
      rcases lh c hc with h | h
      · exact s4 c h
      · exact s5 c h
    have ll' : LtrIn LS.length l'.l := fun c hc => s5 c (ll c hc)
    obtain ⟨e', he', o', ho', hc', e63, o20⟩ := complete l' l0 lh' ll' ta tb
    have := hmin e' he' o' ho' hc'
    omega
end
end Go.Proofs.Ytoglgeaiiipchaa
