/- Trim: what it answers. No program in sight. -/
import Derived.Test.YtoglgeaiiipchabDoorPZA
import Derived.Lib.ItoaNum
import Derived.Lib.AtoiAll
namespace Go.Proofs.YtoglgeaiiipchabDoor
open Go.Lib

/-! ### cutting at a sign -/
def splitL (c : UInt8) : List UInt8 → List (List UInt8)
  | [] => [[]]
  | x :: r => if x = c then [] :: splitL c r else match splitL c r with
    | [] => [[x]]
    | y :: l => (x :: y) :: l
theorem splitL_cons (c x : UInt8) (r : List UInt8) : splitL c (x :: r) = if x = c then [] :: splitL c r else match splitL c r with
    | [] => [[x]]
    | y :: l => (x :: y) :: l := rfl
theorem splitL_ne (c : UInt8) (s : List UInt8) : splitL c s ≠ [] := by
  cases s with
  | nil => simp [splitL]
  | cons x r =>
    unfold splitL
    split
    · simp
    · split <;> simp
theorem splitL_pre {c : UInt8} : ∀ {p : List UInt8} (r : List UInt8), (∀ x ∈ p, x ≠ c) → splitL c (p ++ c :: r) = p :: splitL c r
  | [], r, _ => by simp [splitL]
  | x :: p, r, h => by
    rw [List.cons_append, splitL_cons, if_neg (h x (by simp)), splitL_pre r (fun y hy => h y (List.mem_cons_of_mem _ hy))]
theorem splitL_none {c : UInt8} : ∀ {p : List UInt8}, (∀ x ∈ p, x ≠ c) → splitL c p = [p]
  | [], _ => rfl
  | x :: p, h => by
    rw [splitL_cons, if_neg (h x (by simp)), splitL_none (fun y hy => h y (List.mem_cons_of_mem _ hy))]
theorem split_cases (c : UInt8) : ∀ (s : List UInt8), (∀ x ∈ s, x ≠ c) ∨ ∃ p r, s = p ++ c :: r ∧ ∀ x ∈ p, x ≠ c
  | [] => .inl (by simp)
  | x :: r => by
    by_cases h : x = c
    · exact .inr ⟨[], r, by rw [h]; rfl, by simp⟩
    · rcases split_cases c r with h1 | ⟨p, q, rfl, h2⟩
      · refine .inl fun y hy => ?_
        rcases List.mem_cons.1 hy with rfl | hy
        · exact h
        · exact h1 y hy
      · refine .inr ⟨x :: p, q, rfl, fun y hy => ?_⟩
        rcases List.mem_cons.1 hy with rfl | hy
        · exact h
        · exact h2 y hy
theorem splitL_mem {c : UInt8} : ∀ (n : Nat) (s : List UInt8), s.length ≤ n → ∀ p ∈ splitL c s, ∀ x ∈ p, x ≠ c
  | n, s, hn, p, hp => by
    rcases split_cases c s with h | ⟨q, r, rfl, h⟩
    · rw [splitL_none h] at hp
      rw [List.mem_singleton.1 hp]
      exact h
    · rw [splitL_pre r h] at hp
      rcases List.mem_cons.1 hp with rfl | hp
      · exact h
      · cases n with
        | zero => simp at hn
        | succ n => exact splitL_mem n r (by simp at hn; omega) p hp
/-- put together again -/
def gather (c : UInt8) : List (List UInt8) → List UInt8
  | [] => []
  | [x] => x
  | x :: y :: r => x ++ c :: gather c (y :: r)
theorem gather_split (c : UInt8) : ∀ (n : Nat) (s : List UInt8), s.length ≤ n → gather c (splitL c s) = s
  | n, s, hn => by
    rcases split_cases c s with h | ⟨q, r, rfl, h⟩
    · rw [splitL_none h]; rfl
    · rw [splitL_pre r h]
      cases n with
      | zero => simp at hn
      | succ n =>
        have ih := gather_split c n r (by simp at hn; omega)
        cases h2 : splitL c r with
        | nil => exact absurd h2 (splitL_ne c r)
        | cons y l => rw [h2] at ih; show q ++ c :: gather c (y :: l) = _; rw [ih]
theorem split_gather (c : UInt8) : ∀ (l : List (List UInt8)), l ≠ [] → (∀ p ∈ l, ∀ x ∈ p, x ≠ c) → splitL c (gather c l) = l
  | [], h, _ => absurd rfl h
  | [x], _, h => splitL_none (h x (by simp))
  | x :: y :: r, _, h => by
    show splitL c (x ++ c :: gather c (y :: r)) = _
    rw [splitL_pre _ (h x (by simp)), split_gather c (y :: r) (by simp) fun p hp => h p (List.mem_cons_of_mem _ hp)]

/-! ### numbers -/
def isDig (b : UInt8) : Bool := decide (48 ≤ b.toNat) && decide (b.toNat ≤ 57)
def valF (acc : Nat) : List UInt8 → Nat
  | [] => acc
  | b :: r => valF (10 * acc + (b.toNat - 48)) r
theorem valF_append : ∀ (l m : List UInt8) (acc : Nat), valF acc (l ++ m) = valF (valF acc l) m
  | [], _, _ => rfl
  | b :: r, m, acc => valF_append r m _
theorem dig_byte {d : Nat} (h : d < 10) : (UInt8.ofNat (48 + d)).toNat = 48 + d := by rw [UInt8.toNat_ofNat']; omega
theorem decDigits_dig (n : Nat) : (decDigits n).all isDig = true := by
  induction n using Nat.strongRecOn with
  | _ n ih =>
    rw [decDigits]
    split
    · rename_i h
      simp only [List.all_cons, List.all_nil, isDig, dig_byte h]
      simp
      omega
    · rw [List.all_append, ih (n / 10) (by omega)]
      simp only [List.all_cons, List.all_nil, isDig, dig_byte (show n % 10 < 10 by omega)]
      simp
      omega
theorem decDigits_val (n : Nat) : valF 0 (decDigits n) = n := by
  induction n using Nat.strongRecOn with
  | _ n ih =>
    rw [decDigits]
    split
    · rename_i h
      show 10 * 0 + ((UInt8.ofNat (48 + n)).toNat - 48) = n
      rw [dig_byte h]; omega
    · rw [valF_append, ih (n / 10) (by omega)]
      show 10 * (n / 10) + ((UInt8.ofNat (48 + n % 10)).toNat - 48) = n
      rw [dig_byte (by omega)]; omega
theorem decDigits_pos (n : Nat) : 1 ≤ (decDigits n).length := by rw [decDigits_length]; exact nDigits_pos n
theorem decDigits_len6 {n : Nat} (h : n ≤ 999999) : (decDigits n).length ≤ 6 := by
  rw [decDigits_length]
  rcases Nat.lt_or_ge (nDigits n) 7 with h1 | h1
  · omega
  · exfalso
    have h2 : ∀ (k u : Nat), k + 1 ≤ nDigits u → 10 ^ k ≤ u ∨ k = 0 := by
      intro k
      induction k with
      | zero => intro u _; exact .inr rfl
      | succ k ih =>
        intro u hu
        by_cases h3 : u < 10
        · rw [nDigits_small h3] at hu; omega
        · rw [nDigits_big h3] at hu
          rcases ih (u / 10) (by omega) with h4 | h4
          · left; rw [Nat.pow_succ]; omega
          · subst h4; left; simp; omega
    rcases h2 6 n h1 with h3 | h3
    · have : (10 : Nat) ^ 6 = 1000000 := by decide
      omega
    · omega
theorem valF_lt : ∀ (l : List UInt8) (acc : Nat), l.all isDig = true → valF acc l < (acc + 1) * 10 ^ l.length
  | [], acc, _ => by
    show acc < (acc + 1) * 10 ^ 0
    rw [Nat.pow_zero]; omega
  | b :: r, acc, h => by
    simp only [List.all_cons, Bool.and_eq_true] at h
    have hb := h.1
    unfold isDig at hb
    simp only [Bool.and_eq_true, decide_eq_true_eq] at hb
    have ih := valF_lt r (10 * acc + (b.toNat - 48)) h.2
    have h2 : (10 * acc + (b.toNat - 48) + 1) * 10 ^ r.length ≤ ((acc + 1) * 10) * 10 ^ r.length := Nat.mul_le_mul_right _ (by omega)
    show valF (10 * acc + (b.toNat - 48)) r < _
    rw [List.length_cons, Nat.pow_succ, Nat.mul_comm (10 ^ r.length) 10, ← Nat.mul_assoc]
    omega
/-- a number; none: it is none -/
def und (x : List UInt8) : Option Int := if (decide (1 ≤ x.length) && decide (x.length ≤ 6) && x.all isDig && decide (decDigits (valF 0 x) = x)) = true then some (valF 0 x : Nat) else none
theorem und_some {x : List UInt8} {n : Int} : und x = some n ↔ 0 ≤ n ∧ n ≤ 999999 ∧ x = decDigits n.toNat := by
  unfold und
  constructor
  · intro h
    split at h
    · rename_i hc
      simp only [Bool.and_eq_true, decide_eq_true_eq] at hc
      obtain ⟨⟨⟨h1, h2⟩, h3⟩, h4⟩ := hc
      have hn := Option.some.inj h
      have hv := valF_lt x 0 h3
      have h5 : 10 ^ x.length ≤ 10 ^ 6 := Nat.pow_le_pow_right (by decide) h2
      have h6 : (10 : Nat) ^ 6 = 1000000 := by decide
      refine ⟨by omega, by omega, ?_⟩
      rw [← hn, Int.toNat_natCast, h4]
    · cases h
  · rintro ⟨h1, h2, rfl⟩
    have := decDigits_pos n.toNat
    have := decDigits_len6 (n := n.toNat) (by omega)
    rw [decDigits_val, if_pos (by simp only [Bool.and_eq_true, decide_eq_true_eq]; exact ⟨⟨⟨by assumption, by assumption⟩, decDigits_dig _⟩, trivial⟩)]
    congr 1
    omega
theorem und_dig {n : Int} (h0 : 0 ≤ n) (h1 : n ≤ 999999) : und (decDigits n.toNat) = some n := und_some.2 ⟨h0, h1, rfl⟩
theorem parse_digs : ∀ (l : List UInt8) (acc : Nat), l.all isDig = true → (acc + 1) * 10 ^ l.length ≤ 1000000000000000000 → parseUint10 acc l = .ok (valF acc l)
  | [], acc, _, _ => rfl
  | b :: r, acc, h, hl => by
    simp only [List.all_cons, Bool.and_eq_true] at h
    have hb := h.1
    unfold isDig at hb
    simp only [Bool.and_eq_true, decide_eq_true_eq] at hb
    rw [List.length_cons, Nat.pow_succ] at hl
    have hp : 1 ≤ 10 ^ r.length := Nat.one_le_pow _ _ (by decide)
    have h3 : (acc + 1) * 10 ≤ 1000000000000000000 := by
      refine Nat.le_trans ?_ hl
      rw [Nat.mul_comm (10 ^ r.length) 10, ← Nat.mul_assoc]
      exact Nat.le_mul_of_pos_right _ hp
    unfold parseUint10 valF
    rw [if_pos hb, if_neg (by omega), if_neg (by omega), show acc * 10 + (b.toNat - 48) = 10 * acc + (b.toNat - 48) by omega]
    refine parse_digs r _ h.2 (Nat.le_trans (Nat.mul_le_mul_right (10 ^ r.length) (show 10 * acc + (b.toNat - 48) + 1 ≤ (acc + 1) * 10 by omega)) ?_)
    rw [Nat.mul_assoc, Nat.mul_comm 10]
    exact hl
/-- the program's way of asking -/
def numP (x : List UInt8) : Option Int := match atoiAll x with
  | .ok n => if (decide (x.length ≤ 6) && decide (itoa n = x) && decide (0 ≤ n)) = true then some n else none
  | _ => none
theorem numP_und (x : List UInt8) : numP x = und x := by
  have key : ∀ n, numP x = some n ↔ und x = some n := by
    intro n
    rw [und_some]
    unfold numP
    constructor
    · intro h
      split at h
      · rename_i m hm
        split at h
        · rename_i hc
          obtain rfl := Option.some.inj h
          simp only [Bool.and_eq_true, decide_eq_true_eq] at hc
          have hx : x = decDigits m.toNat := by rw [← hc.1.2]; unfold itoa; rw [if_neg (by omega)]
          have hv := valF_lt x 0 (by rw [hx]; exact decDigits_dig _)
          rw [hx, decDigits_val, ← hx] at hv
          have h5 : 10 ^ x.length ≤ 10 ^ 6 := Nat.pow_le_pow_right (by decide) hc.1.1
          have h6 : (10 : Nat) ^ 6 = 1000000 := by decide
          exact ⟨hc.2, by omega, hx⟩
        · cases h
      · cases h
    · rintro ⟨h1, h2, rfl⟩
      have hp := decDigits_pos n.toNat
      have hl := decDigits_len6 (n := n.toNat) (by omega)
      have hd := decDigits_dig n.toNat
      have hv := decDigits_val n.toNat
      have hpa := parse_digs (decDigits n.toNat) 0 hd (by
        have h5 : 10 ^ (decDigits n.toNat).length ≤ 10 ^ 6 := Nat.pow_le_pow_right (by decide) hl
        have h6 : (10 : Nat) ^ 6 = 1000000 := by decide
        omega)
      rw [hv] at hpa
      have hit : itoa n = decDigits n.toNat := by unfold itoa; rw [if_neg (by omega)]
      cases hx : decDigits n.toNat with
      | nil => rw [hx] at hp; simp at hp
      | cons c r =>
        rw [hx] at hd hpa hl hit
        simp only [List.all_cons, Bool.and_eq_true] at hd
        have hb := hd.1
        unfold isDig at hb
        simp only [Bool.and_eq_true, decide_eq_true_eq] at hb
        have ha : atoiAll (c :: r) = .ok n := by
          unfold atoiAll
          simp only
          rw [if_neg (show ¬ (c.toNat = 43 ∨ c.toNat = 45) by omega)]
          unfold parseMag
          rw [if_neg (by simp), hpa]
          simp only
          rw [if_neg (by omega), if_neg (by omega), if_neg (by omega)]
          congr 1
          omega
        rw [ha]
        simp only
        rw [if_pos (by simp only [Bool.and_eq_true, decide_eq_true_eq]; exact ⟨⟨hl, hit⟩, h1⟩)]
  cases h : und x with
  | some n => exact (key n).2 h
  | none =>
    cases h2 : numP x with
    | none => rfl
    | some n => rw [(key n).1 h2] at h; cases h
def undL : List (List UInt8) → Option (List Int)
  | [] => some []
  | x :: r => match und x, undL r with
    | some n, some l => some (n :: l)
    | _, _ => none
theorem undL_cons (x : List UInt8) (r : List (List UInt8)) : undL (x :: r) = match und x, undL r with
    | some n, some l => some (n :: l)
    | _, _ => none := rfl
theorem undL_append : ∀ (l m : List (List UInt8)), undL (l ++ m) = match undL l, undL m with
    | some a, some b => some (a ++ b)
    | _, _ => none
  | [], m => by
    show undL m = _
    cases undL m <;> rfl
  | x :: l, m => by
    rw [List.cons_append, undL_cons, undL_append l m, undL_cons]
    cases und x <;> cases undL l <;> cases undL m <;> rfl
theorem undL_some : ∀ {l : List (List UInt8)} {ns : List Int}, undL l = some ns → l = ns.map (fun n => decDigits n.toNat) ∧ ∀ n ∈ ns, 0 ≤ n ∧ n ≤ 999999
  | [], ns, h => by
    obtain rfl := Option.some.inj h
    exact ⟨rfl, by simp⟩
  | x :: l, ns, h => by
    rw [undL_cons] at h
    cases h1 : und x with
    | none => rw [h1] at h; cases h
    | some n =>
      cases h2 : undL l with
      | none => rw [h1, h2] at h; cases h
      | some m =>
        rw [h1, h2] at h
        obtain rfl := Option.some.inj h
        obtain ⟨h3, h4, h5⟩ := und_some.1 h1
        obtain ⟨h6, h7⟩ := undL_some h2
        refine ⟨by rw [List.map_cons, ← h5, ← h6], fun k hk => ?_⟩
        rcases List.mem_cons.1 hk with rfl | hk
        · exact ⟨h3, h4⟩
        · exact h7 k hk
theorem undL_digs : ∀ (ns : List Int), (∀ n ∈ ns, 0 ≤ n ∧ n ≤ 999999) → undL (ns.map fun n => decDigits n.toNat) = some ns
  | [], _ => rfl
  | n :: ns, h => by
    rw [List.map_cons, undL_cons, und_dig (h n (by simp)).1 (h n (by simp)).2, undL_digs ns fun m hm => h m (List.mem_cons_of_mem _ hm)]
theorem undL_len {l : List (List UInt8)} {ns : List Int} (h : undL l = some ns) : ns.length = l.length := by rw [(undL_some h).1]; simp
end Go.Proofs.YtoglgeaiiipchabDoor

namespace Go.Proofs.YtoglgeaiiipchabDoor
open Go.Lib

def bStates : List UInt8 := [115, 116, 97, 116, 101, 115]
def bLetters : List UInt8 := [108, 101, 116, 116, 101, 114, 115]
def bFirst : List UInt8 := [102, 105, 114, 115, 116]
def bGood : List UInt8 := [103, 111, 111, 100]
def dn (n : Int) : List UInt8 := decDigits n.toNat
def sp (ns : List Int) : List UInt8 := ns.flatMap fun n => 32 :: dn n
def goodIdx (gs : List Bool) : List Int := ((List.range gs.length).filter fun i => gs.getD i false).map fun (i : Nat) => (i : Int)
def line0 (a : Au) : List UInt8 := bStates ++ 32 :: (dn a.st ++ 32 :: (bLetters ++ 32 :: dn a.le))
def line1 (a : Au) : List UInt8 := bFirst ++ sp a.fs
def line2 (a : Au) : List UInt8 := bGood ++ sp (goodIdx a.gs)
def stepX (s : Stp) : List UInt8 := dn s.f ++ 32 :: (dn s.l ++ 32 :: dn s.t)
def stepsT (ss : List Stp) : List UInt8 := ss.flatMap fun s => stepX s ++ [10]
/-- an automaton's text -/
def printA (a : Au) : List UInt8 := line0 a ++ 10 :: (line1 a ++ 10 :: (line2 a ++ 10 :: stepsT a.ss))

/-! ### how a line is read -/
def hdOf (x : List UInt8) : Option Au := match splitL 32 x with
  | [p, q, r, s] => if p = bStates ∧ r = bLetters then (match und q, und s with
    | some n, some m => if 1 ≤ n ∧ n ≤ 300 then some ⟨n, m, [], List.replicate n.toNat false, []⟩ else none
    | _, _ => none) else none
  | _ => none
def wordN (w x : List UInt8) : Option (List Int) := match splitL 32 x with
  | [] => none
  | h :: r => if h = w then undL r else none
def goodsOf (st : Int) : List Bool → Int → List Int → Option (List Bool)
  | gs, _, [] => some gs
  | gs, last, n :: r => if last < n ∧ n < st then goodsOf st (gs.set n.toNat true) n r else none
def rdLine (a : Au) : Nat → List UInt8 → Option Au
  | 0, x => hdOf x
  | 1, x => (wordN bFirst x).map fun l => { a with fs := l }
  | 2, x => match wordN bGood x with
    | none => none
    | some l => (goodsOf a.st a.gs (-1) l).map fun g => { a with gs := g }
  | _ + 3, x => match undL (splitL 32 x) with
    | some [f, l, t] => some { a with ss := a.ss ++ [⟨f, l, t⟩] }
    | _ => none
/-- line by line; a number: where it fails -/
def rdGo : Au → Nat → List (List UInt8) → Nat ⊕ Au
  | _, _, [] => .inl 0
  | a, i, [x] => if 3 ≤ i ∧ x = [] then .inr a else .inl (i + 1)
  | a, i, x :: y :: r => match rdLine a i x with
    | none => .inl (i + 1)
    | some a' => rdGo a' (i + 1) (y :: r)
def nulA : Au := ⟨0, 0, [], [], []⟩
def readA (s : List UInt8) : Au × Nat × Int :=
  if 100000 < s.length then (nulA, 0, 2)
  else match rdGo nulA 0 (splitL 10 s) with
    | .inl n => (nulA, n, 1)
    | .inr a => if ckA a = 0 then (a, 0, 0) else (nulA, 0, ckA a)
theorem rdGo_step {a a' : Au} {i : Nat} {x : List UInt8} {l : List (List UInt8)} (h : rdLine a i x = some a') (hl : l ≠ []) : rdGo a i (x :: l) = rdGo a' (i + 1) l := by
  cases l with
  | nil => exact absurd rfl hl
  | cons y r => show (match rdLine a i x with | none => _ | some a' => _) = _; rw [h]
theorem rdGo_fail {a : Au} {i : Nat} {x : List UInt8} {l : List (List UInt8)} (h : rdLine a i x = none) (hl : l ≠ []) : rdGo a i (x :: l) = .inl (i + 1) := by
  cases l with
  | nil => exact absurd rfl hl
  | cons y r => show (match rdLine a i x with | none => _ | some a' => _) = _; rw [h]

/-! ### digits bear no sign -/
theorem dn_dig (n : Int) : ∀ x ∈ dn n, 48 ≤ x.toNat := by
  intro x hx
  have := List.all_eq_true.1 (decDigits_dig n.toNat) x hx
  unfold isDig at this
  simp at this
  exact this.1
theorem dn_no (n : Int) {c : UInt8} (hc : c.toNat < 48) : ∀ x ∈ dn n, x ≠ c := fun x hx he => by have := dn_dig n x hx; rw [he] at this; omega
theorem sp_no (ns : List Int) : ∀ x ∈ sp ns, x ≠ 10 := by
  intro x hx
  obtain ⟨n, _, h⟩ := List.mem_flatMap.1 hx
  rcases List.mem_cons.1 h with rfl | h
  · decide
  · exact dn_no n (by decide) x h
theorem app_no {c : UInt8} {a b : List UInt8} (ha : ∀ x ∈ a, x ≠ c) (hb : ∀ x ∈ b, x ≠ c) : ∀ x ∈ a ++ b, x ≠ c := fun x hx => (List.mem_append.1 hx).elim (ha x) (hb x)
theorem cons_no {c d : UInt8} {b : List UInt8} (hd : d ≠ c) (hb : ∀ x ∈ b, x ≠ c) : ∀ x ∈ d :: b, x ≠ c := fun x hx => (List.mem_cons.1 hx).elim (fun e => e ▸ hd) (hb x)
theorem line0_no (a : Au) : ∀ x ∈ line0 a, x ≠ 10 := app_no (by decide) (cons_no (by decide) (app_no (dn_no _ (by decide)) (cons_no (by decide) (app_no (by decide) (cons_no (by decide) (dn_no _ (by decide)))))))
theorem line1_no (a : Au) : ∀ x ∈ line1 a, x ≠ 10 := app_no (by decide) (sp_no _)
theorem line2_no (a : Au) : ∀ x ∈ line2 a, x ≠ 10 := app_no (by decide) (sp_no _)
theorem stepX_no (s : Stp) : ∀ x ∈ stepX s, x ≠ 10 := app_no (dn_no _ (by decide)) (cons_no (by decide) (app_no (dn_no _ (by decide)) (cons_no (by decide) (dn_no _ (by decide)))))
theorem split_sp : ∀ (ns : List Int) (w : List UInt8), (∀ x ∈ w, x ≠ 32) → splitL 32 (w ++ sp ns) = w :: ns.map dn
  | [], w, h => by
    show splitL 32 (w ++ []) = _
    rw [List.append_nil, splitL_none h]; rfl
  | n :: ns, w, h => by
    show splitL 32 (w ++ (32 :: dn n ++ sp ns)) = _
    rw [List.cons_append, splitL_pre _ h, split_sp ns (dn n) (dn_no n (by decide))]
    rfl
theorem split_stepX (s : Stp) : splitL 32 (stepX s) = [dn s.f, dn s.l, dn s.t] := by
  unfold stepX
  rw [splitL_pre _ (dn_no _ (by decide)), splitL_pre _ (dn_no _ (by decide)), splitL_none (dn_no _ (by decide))]
theorem split_line0 (a : Au) : splitL 32 (line0 a) = [bStates, dn a.st, bLetters, dn a.le] := by
  unfold line0
  rw [splitL_pre _ (by decide), splitL_pre _ (dn_no _ (by decide)), splitL_pre _ (by decide), splitL_none (dn_no _ (by decide))]
theorem split_steps : ∀ (ss : List Stp), splitL 10 (stepsT ss) = ss.map stepX ++ [[]]
  | [] => rfl
  | s :: ss => by
    show splitL 10 (stepX s ++ [10] ++ stepsT ss) = _
    rw [List.append_assoc, List.singleton_append, splitL_pre _ (stepX_no s), split_steps ss]
    rfl
theorem split_printA (a : Au) : splitL 10 (printA a) = line0 a :: line1 a :: line2 a :: (a.ss.map stepX ++ [[]]) := by
  unfold printA
  rw [splitL_pre _ (line0_no a), splitL_pre _ (line1_no a), splitL_pre _ (line2_no a), split_steps]

/-! ### good states -/
theorem sorted_ext : ∀ {l m : List Int}, l.Pairwise (· < ·) → m.Pairwise (· < ·) → (∀ x, x ∈ l ↔ x ∈ m) → l = m
  | [], [], _, _, _ => rfl
  | [], y :: m, _, _, h => absurd ((h y).2 (by simp)) (by simp)
  | x :: l, [], _, _, h => absurd ((h x).1 (by simp)) (by simp)
  | x :: l, y :: m, hl, hm, h => by
    have a1 := List.pairwise_cons.1 hl
    have a2 := List.pairwise_cons.1 hm
    have e : x = y := by
      rcases List.mem_cons.1 ((h x).1 (by simp)) with h1 | h1
      · exact h1
      · rcases List.mem_cons.1 ((h y).2 (by simp)) with h2 | h2
        · exact h2.symm
        · have := a1.1 y h2
          have := a2.1 x h1
          omega
    subst e
    rw [sorted_ext a1.2 a2.2 fun z => ?_]
    constructor
    · intro hz
      rcases List.mem_cons.1 ((h z).1 (List.mem_cons_of_mem _ hz)) with h1 | h1
      · have := a1.1 z hz; omega
      · exact h1
    · intro hz
      rcases List.mem_cons.1 ((h z).2 (List.mem_cons_of_mem _ hz)) with h1 | h1
      · have := a2.1 z hz; omega
      · exact h1
theorem goodIdx_sorted (gs : List Bool) : (goodIdx gs).Pairwise (· < ·) := by
  unfold goodIdx
  refine List.pairwise_map.2 ((List.pairwise_lt_range.filter _).imp ?_)
  intro a b h
  omega
theorem mem_goodIdx {gs : List Bool} {n : Int} : n ∈ goodIdx gs ↔ 0 ≤ n ∧ n < gs.length ∧ gs.getD n.toNat false = true := by
  unfold goodIdx
  simp only [List.mem_map, List.mem_filter, List.mem_range]
  constructor
  · rintro ⟨i, ⟨h1, h2⟩, rfl⟩
    exact ⟨by omega, by omega, by simpa using h2⟩
  · rintro ⟨h1, h2, h3⟩
    exact ⟨n.toNat, ⟨by omega, h3⟩, by omega⟩
theorem goodsOf_some {st : Int} : ∀ {l : List Int} {gs gs' : List Bool} {last : Int}, goodsOf st gs last l = some gs' → -1 ≤ last → (gs.length : Int) = st →
    (last :: l).Pairwise (· < ·) ∧ (∀ n ∈ l, n < st) ∧ gs'.length = gs.length ∧ ∀ i : Nat, gs'.getD i false = (gs.getD i false || decide ((i : Int) ∈ l))
  | [], gs, gs', last, h, _, _ => by
    obtain rfl := Option.some.inj h
    exact ⟨by simp, by simp, rfl, by simp⟩
  | n :: r, gs, gs', last, h, hl, hs => by
    unfold goodsOf at h
    split at h
    · rename_i hc
      obtain ⟨h1, h2, h3, h4⟩ := goodsOf_some h (by omega) (by simpa using hs)
      refine ⟨?_, ?_, by rw [h3]; simp, fun i => ?_⟩
      · refine List.pairwise_cons.2 ⟨fun m hm => ?_, h1⟩
        rcases List.mem_cons.1 hm with rfl | hm
        · exact hc.1
        · have := (List.pairwise_cons.1 h1).1 m hm
          omega
      · intro m hm
        rcases List.mem_cons.1 hm with rfl | hm
        · exact hc.2
        · exact h2 m hm
      · rw [h4 i, List.getD_eq_getElem?_getD, List.getD_eq_getElem?_getD, List.getElem?_set]
        by_cases hi : n.toNat = i
        · rw [if_pos hi, if_pos (by omega)]
          have : (i : Int) ∈ n :: r := by rw [show (i : Int) = n by omega]; simp
          simp [this]
        · rw [if_neg hi]
          have : ((i : Int) ∈ n :: r) ↔ ((i : Int) ∈ r) := by
            rw [List.mem_cons]
            exact ⟨fun h => h.elim (fun h => absurd h (by omega)) id, .inr⟩
          rw [decide_eq_decide.2 this]
    · cases h
theorem goodsOf_ok {st : Int} : ∀ (l : List Int) (gs : List Bool) (last : Int), (last :: l).Pairwise (· < ·) → (∀ n ∈ l, n < st) → ∃ gs', goodsOf st gs last l = some gs'
  | [], gs, _, _, _ => ⟨gs, rfl⟩
  | n :: r, gs, last, h, hs => by
    unfold goodsOf
    have h1 := List.pairwise_cons.1 h
    rw [if_pos ⟨h1.1 n (by simp), hs n (by simp)⟩]
    exact goodsOf_ok r _ n h1.2 fun m hm => hs m (List.mem_cons_of_mem _ hm)
theorem getD_replicate_false (n i : Nat) : (List.replicate n false).getD i false = false := by
  rw [List.getD_eq_getElem?_getD, List.getElem?_replicate]
  split <;> rfl
theorem goods_back {st : Int} {l : List Int} {g : List Bool} (h0 : 0 ≤ st) (hl : ∀ n ∈ l, 0 ≤ n) (h : goodsOf st (List.replicate st.toNat false) (-1) l = some g) : goodIdx g = l := by
  obtain ⟨h1, h2, h3, h4⟩ := goodsOf_some h (by omega) (by simp; omega)
  refine sorted_ext (goodIdx_sorted g) (List.pairwise_cons.1 h1).2 fun n => ?_
  rw [mem_goodIdx, h4, getD_replicate_false, h3]
  simp only [Bool.false_or, decide_eq_true_eq, List.length_replicate]
  constructor
  · rintro ⟨a1, a2, a3⟩
    rwa [show ((n.toNat : Nat) : Int) = n by omega] at a3
  · intro hn
    have := hl n hn
    have := h2 n hn
    exact ⟨by omega, by omega, by rwa [show ((n.toNat : Nat) : Int) = n by omega]⟩
theorem goods_forth {st : Int} {gs : List Bool} (hg : (gs.length : Int) = st) : goodsOf st (List.replicate st.toNat false) (-1) (goodIdx gs) = some gs := by
  obtain ⟨g, h⟩ := goodsOf_ok (st := st) (goodIdx gs) (List.replicate st.toNat false) (-1) (List.pairwise_cons.2 ⟨fun n hn => by have := (mem_goodIdx.1 hn).1; omega, goodIdx_sorted gs⟩) (fun n hn => by have := (mem_goodIdx.1 hn).2.1; omega)
  obtain ⟨_, _, h3, h4⟩ := goodsOf_some h (by omega) (by simp; omega)
  rw [h]
  congr 1
  refine List.ext_getElem (by rw [h3]; simp; omega) fun i h5 h6 => ?_
  have := h4 i
  rw [getD_replicate_false, Bool.false_or, List.getD_eq_getElem?_getD, List.getElem?_eq_getElem h5] at this
  rw [show g[i] = decide ((i : Int) ∈ goodIdx gs) from this, Bool.eq_iff_iff, decide_eq_true_eq, mem_goodIdx, Int.toNat_natCast, List.getD_eq_getElem?_getD, List.getElem?_eq_getElem h6]
  simp
  omega

/-! ### what is printed is read as it was -/
theorem rd_steps : ∀ (l : List Stp) (a : Au) (i : Nat), (∀ s ∈ l, (0 ≤ s.f ∧ s.f ≤ 999999) ∧ (0 ≤ s.l ∧ s.l ≤ 999999) ∧ (0 ≤ s.t ∧ s.t ≤ 999999)) → rdGo a (i + 3) (l.map stepX ++ [[]]) = .inr { a with ss := a.ss ++ l }
  | [], a, i, _ => by
    show (if 3 ≤ i + 3 ∧ ([] : List UInt8) = [] then _ else _) = _
    rw [if_pos ⟨by omega, rfl⟩]; simp
  | s :: l, a, i, h => by
    have hs := h s (by simp)
    rw [List.map_cons, List.cons_append, rdGo_step (a' := { a with ss := a.ss ++ [s] }) ?_ (by simp), show i + 3 + 1 = i + 1 + 3 by omega, rd_steps l _ (i + 1) fun t ht => h t (List.mem_cons_of_mem _ ht)]
    · simp
    · show (match undL (splitL 32 (stepX s)) with | some [f, l, t] => _ | _ => _) = _
      rw [split_stepX, show [dn s.f, dn s.l, dn s.t] = [s.f, s.l, s.t].map fun n => decDigits n.toNat from rfl, undL_digs _ (by simp; omega)]
theorem read_print {a : Au} (h : ckA a = 0) (hl : (printA a).length ≤ 100000) : readA (printA a) = (a, 0, 0) := by
  obtain ⟨ho, _⟩ := ckA_zero.1 h
  have h1 := ho.st1
  have h2 := ho.st2
  have h3 := ho.le1
  have h4 := ho.le2
  have hz : rdGo nulA 0 (splitL 10 (printA a)) = .inr a := by
    rw [split_printA, rdGo_step (a' := ⟨a.st, a.le, [], List.replicate a.st.toNat false, []⟩) ?g0 (by simp), rdGo_step (a' := ⟨a.st, a.le, a.fs, List.replicate a.st.toNat false, []⟩) ?g1 (by simp),
      rdGo_step (a' := ⟨a.st, a.le, a.fs, a.gs, []⟩) ?g2 (by simp), rd_steps a.ss _ 0 fun s hs => by have := ho.sr s hs; omega]
    · rfl
    case g0 =>
      show hdOf (line0 a) = _
      unfold hdOf
      rw [split_line0]
      simp only
      rw [if_pos ⟨trivial, trivial⟩, show und (dn a.st) = some a.st from und_dig (by omega) (by omega), show und (dn a.le) = some a.le from und_dig (by omega) (by omega)]
      simp only
      rw [if_pos ⟨by omega, by omega⟩]
    case g1 =>
      show (wordN bFirst (line1 a)).map _ = _
      unfold wordN line1
      rw [split_sp _ _ (by decide)]
      simp only
      rw [if_pos trivial, show a.fs.map dn = a.fs.map (fun n => decDigits n.toNat) from rfl, undL_digs _ fun n hn => by have := ho.fr n hn; omega]
      rfl
    case g2 =>
      show (match wordN bGood (line2 a) with | none => _ | some l => _) = _
      have : wordN bGood (line2 a) = some (goodIdx a.gs) := by
        unfold wordN line2
        rw [split_sp _ _ (by decide)]
        simp only
        rw [if_pos trivial, show (goodIdx a.gs).map dn = (goodIdx a.gs).map (fun n => decDigits n.toNat) from rfl, undL_digs _ fun n hn => by have := mem_goodIdx.1 hn; have := ho.gl; omega]
      rw [this]
      simp only
      rw [goods_forth ho.gl]
      rfl
  unfold readA
  rw [if_neg (by omega), hz]
  simp only
  rw [if_pos h]

/-! ### nothing else is -/
def pr (a : Au) : Nat → List UInt8
  | 0 => []
  | 1 => line0 a ++ [10]
  | 2 => line0 a ++ 10 :: (line1 a ++ [10])
  | _ + 3 => printA a
def Inv (a : Au) : Nat → Prop
  | 0 => a = nulA
  | 1 => 1 ≤ a.st ∧ a.gs = List.replicate a.st.toNat false ∧ a.ss = []
  | 2 => 1 ≤ a.st ∧ a.gs = List.replicate a.st.toNat false ∧ a.ss = []
  | _ + 3 => True
theorem gather_sp : ∀ (ns : List Int) (w : List UInt8), gather 32 (w :: ns.map dn) = w ++ sp ns
  | [], w => by simp [gather, sp]
  | n :: ns, w => by
    show w ++ 32 :: gather 32 (dn n :: ns.map dn) = _
    rw [gather_sp ns (dn n)]
    rfl
theorem wordN_some {w x : List UInt8} {l : List Int} (h : wordN w x = some l) : x = w ++ sp l ∧ ∀ n ∈ l, 0 ≤ n ∧ n ≤ 999999 := by
  unfold wordN at h
  have hg := gather_split 32 _ x (Nat.le_refl _)
  split at h
  · cases h
  · rename_i p r hs
    split at h
    · rename_i hp
      obtain ⟨h1, h2⟩ := undL_some h
      rw [hs, hp, h1] at hg
      exact ⟨hg.symm.trans (gather_sp l w), h2⟩
    · cases h
theorem rd_back {a a' : Au} {i : Nat} {x : List UInt8} (hi : Inv a i) (h : rdLine a i x = some a') : Inv a' (i + 1) ∧ pr a' (i + 1) = pr a i ++ x ++ [10] := by
  match i, hi, h with
  | 0, hi, h =>
    have hg := gather_split 32 _ x (Nat.le_refl _)
    change hdOf x = some a' at h
    unfold hdOf at h
    split at h
    · rename_i p q r s hs
      split at h
      · rename_i hp
        cases hq : und q with
        | none => rw [hq] at h; cases h
        | some n =>
          cases hm : und s with
          | none => rw [hq, hm] at h; cases h
          | some m =>
            rw [hq, hm] at h
            simp only at h
            split at h
            · rename_i hn
              obtain rfl := Option.some.inj h
              obtain ⟨_, _, rfl⟩ := und_some.1 hq
              obtain ⟨_, _, rfl⟩ := und_some.1 hm
              rw [hs, hp.1, hp.2] at hg
              refine ⟨⟨hn.1, rfl, rfl⟩, ?_⟩
              show line0 _ ++ [10] = [] ++ x ++ [10]
              rw [← hg]
              rfl
            · cases h
      · cases h
    · cases h
  | 1, hi, h =>
    change (wordN bFirst x).map _ = some a' at h
    cases hw : wordN bFirst x with
    | none => rw [hw] at h; cases h
    | some l =>
      rw [hw] at h
      obtain rfl := Option.some.inj h
      obtain ⟨rfl, _⟩ := wordN_some hw
      refine ⟨hi, ?_⟩
      show line0 a ++ 10 :: (bFirst ++ sp l ++ [10]) = line0 a ++ [10] ++ (bFirst ++ sp l) ++ [10]
      simp
  | 2, hi, h =>
    change (match wordN bGood x with | none => none | some l => _) = some a' at h
    cases hw : wordN bGood x with
    | none => rw [hw] at h; cases h
    | some l =>
      rw [hw] at h
      simp only at h
      cases hg : goodsOf a.st a.gs (-1) l with
      | none => rw [hg] at h; cases h
      | some g =>
        rw [hg] at h
        obtain rfl := Option.some.inj h
        obtain ⟨rfl, hl⟩ := wordN_some hw
        obtain ⟨h1, h2, h3⟩ := hi
        rw [h2] at hg
        have hb := goods_back (by omega) (fun n hn => (hl n hn).1) hg
        refine ⟨trivial, ?_⟩
        show line0 a ++ 10 :: (line1 a ++ 10 :: (bGood ++ sp (goodIdx g) ++ 10 :: stepsT a.ss)) = line0 a ++ 10 :: (line1 a ++ [10]) ++ (bGood ++ sp l) ++ [10]
        rw [hb, h3]
        simp [stepsT]
  | i + 3, hi, h =>
    change (match undL (splitL 32 x) with | some [f, l, t] => _ | _ => _) = some a' at h
    split at h
    · rename_i f l t hu
      obtain rfl := Option.some.inj h
      have hg := gather_split 32 _ x (Nat.le_refl _)
      rw [(undL_some hu).1] at hg
      refine ⟨trivial, ?_⟩
      show line0 a ++ 10 :: (line1 a ++ 10 :: (line2 a ++ 10 :: stepsT (a.ss ++ [⟨f, l, t⟩]))) = line0 a ++ 10 :: (line1 a ++ 10 :: (line2 a ++ 10 :: stepsT a.ss)) ++ x ++ [10]
      rw [← hg]
      simp [stepsT, stepX, gather, dn]
    · cases h
theorem go_back : ∀ (L : List (List UInt8)) (a b : Au) (i : Nat), Inv a i → rdGo a i L = .inr b → pr a i ++ gather 10 L = printA b
  | [], a, b, i, _, h => by cases h
  | [x], a, b, i, hi, h => by
    change (if 3 ≤ i ∧ x = [] then Sum.inr a else .inl (i + 1)) = Sum.inr b at h
    split at h
    · rename_i hc
      obtain rfl := Sum.inr.inj h
      obtain ⟨h3, rfl⟩ := hc
      obtain ⟨k, rfl⟩ : ∃ k, i = k + 3 := ⟨i - 3, by omega⟩
      show printA a ++ [] = _
      simp
    · cases h
  | x :: y :: r, a, b, i, hi, h => by
    cases hr : rdLine a i x with
    | none => rw [rdGo_fail hr (by simp)] at h; cases h
    | some a' =>
      rw [rdGo_step hr (by simp)] at h
      obtain ⟨h1, h2⟩ := rd_back hi hr
      have := go_back (y :: r) a' b (i + 1) h1 h
      rw [← this, h2]
      show _ ++ (x ++ 10 :: gather 10 (y :: r)) = _
      simp
theorem print_read {s : List UInt8} {b : Au} {n : Nat} (h : readA s = (b, n, 0)) : ckA b = 0 ∧ printA b = s := by
  unfold readA at h
  split at h
  · simp at h
  · split at h
    · simp at h
    · rename_i a ha
      split at h
      · rename_i hc
        simp only [Prod.mk.injEq] at h
        obtain ⟨rfl, _⟩ := h
        refine ⟨hc, ?_⟩
        have := go_back _ _ _ 0 (show Inv nulA 0 from rfl) ha
        rw [gather_split 10 _ s (Nat.le_refl _)] at this
        exact this.symm
      · rename_i hc
        simp only [Prod.mk.injEq] at h
        exact absurd h.2.2 hc
theorem read_err {s : List UInt8} {b : Au} {n : Nat} {e : Int} (h : readA s = (b, n, e)) (he : e ≠ 0) : b = nulA := by
  unfold readA at h
  split at h
  · simp only [Prod.mk.injEq] at h; exact h.1.symm
  · split at h
    · simp only [Prod.mk.injEq] at h; exact h.1.symm
    · split at h
      · simp only [Prod.mk.injEq] at h; exact absurd h.2.2.symm he
      · simp only [Prod.mk.injEq] at h; exact h.1.symm
end Go.Proofs.YtoglgeaiiipchabDoor

namespace Go.Proofs.YtoglgeaiiipchabDoor
open Classical in
/-- the states that can be come to -/
noncomputable def rchB (a : Au) : List Bool := if h : ∃ k, RchS a k then h.choose else []
theorem rchB_is {a : Au} {k : List Bool} (h : RchS a k) : rchB a = k := by
  have hx : ∃ k, RchS a k := ⟨k, h⟩
  unfold rchB
  rw [dif_pos hx]
  exact RchS.unique hx.choose_spec h
noncomputable def trimV (a : Au) : Au := if ckA a = 0 then madeOf a (rchB a) else nulA
theorem trim_ok {a : Au} {k : List Bool} (h : ckA a = 0) (hk : RchS a k) : trimV a = madeOf a k := by
  unfold trimV
  rw [if_pos h, rchB_is hk]
theorem trim_no {a : Au} (h : ckA a ≠ 0) : trimV a = nulA := by
  unfold trimV
  rw [if_neg h]
open Classical in
theorem rch_ex {a : Au} (h : 0 ≤ a.st) : ∃ k, RchS a k := by
  refine ⟨(List.range a.st.toNat).map fun i : Nat => decide (Rch a (i : Int)), by simp; omega, fun q h0 h1 => ?_⟩
  unfold kp
  rw [List.getD_eq_getElem?_getD, List.getElem?_map, List.getElem?_range (by omega)]
  simp only [Option.map_some, Option.getD_some, decide_eq_true_eq]
  rw [show ((q.toNat : Nat) : Int) = q by omega]
theorem trim_made {a : Au} (h : ckA a = 0) : ∃ k, RchS a k ∧ trimV a = madeOf a k := by
  have ho := (ckA_zero.1 h).1
  obtain ⟨k, hk⟩ := rch_ex (a := a) (by have := ho.st1; omega)
  exact ⟨k, hk, trim_ok h hk⟩
theorem trim_ck {a : Au} (h : ckA a = 0) : ckA (trimV a) = 0 := by
  obtain ⟨k, hk, e⟩ := trim_made h
  rw [e]
  exact made_ok h hk.len
theorem trim_le {a : Au} (h : ckA a = 0) : (trimV a).le = a.le := by
  obtain ⟨k, hk, e⟩ := trim_made h
  rw [e]
  unfold madeOf
  split <;> rfl
theorem trim_takes {a : Au} (h : ckA a = 0) (u : Nat → Int) : TakesU (trimV a) u ↔ TakesU a u := by
  obtain ⟨k, hk, e⟩ := trim_made h
  rw [e]
  exact made_takes (ckA_zero.1 h).1 (hk.ok (ckA_zero.1 h).1) u
end Go.Proofs.YtoglgeaiiipchabDoor
