import Derived.Test.YtoglgeaiiipchaaGreatDoorLMTKM9
import Derived.Test.YtoglgeaiiipchaaGreatDoorLMTKM1
import Derived.Test.YtoglgeaiiipchaaGreatDoorProg
import Derived.Shelf.Abstract
import Derived.Test.YtoglgeaiiipchaaGreatDoorLMTKM6
import Derived.Deep.CutBlock
import Derived.Test.YtoglgeaiiipchaaGreatDoorLMTKM4
import Derived.Deep.DeepCutAuto
set_option linter.unusedSimpArgs false
set_option linter.unusedVariables false
namespace Go.Proofs.YtoglgeaiiipchaaGreatDoor
theorem tab_ok {f : List Nd} (hf : FmOK f) {raw ss : List Stp} (hr : TabRaw f raw) (hs : SortOf raw ss) (hl : raw.length ≤ 6000) : ckA (tabOf f ss) = 0 := by
  have ht := tn_le hf
  have h16 : 2 ^ tn f ≤ 16 := Nat.pow_le_pow_right (n := 2) (by decide) ht.1
  have h1 : 1 ≤ 2 ^ tn f := Nat.one_le_two_pow
  have hm : 2 ^ tn f * ((fair f).length + 1) ≤ 16 * 5 := Nat.mul_le_mul h16 (by omega)
  have hst : tnum f (2 ^ tn f) 0 = ((2 ^ tn f * ((fair f).length + 1) + 1 : Nat) : Int) := by
    unfold tnum
    rw [Int.natCast_add, Int.natCast_mul, Int.natCast_add]; simp only [Int.natCast_one]; omega
  have hlen := hs.len
  have range : ∀ p w : Nat, p < 2 ^ tn f → w ≤ (fair f).length → 0 ≤ tnum f p w ∧ tnum f p w < tnum f (2 ^ tn f) 0 := fun p w hp hw => by
    have h2 : (p + 1) * ((fair f).length + 1) ≤ 2 ^ tn f * ((fair f).length + 1) := Nat.mul_le_mul_right _ hp
    rw [Nat.succ_mul] at h2
    have : tnum f p w = ((p * ((fair f).length + 1) + w + 1 : Nat) : Int) := by
      unfold tnum
      rw [Int.natCast_add, Int.natCast_add, Int.natCast_mul, Int.natCast_add]; simp only [Int.natCast_one]; omega
    rw [hst, this]
    omega
  refine ckA_zero.2 ⟨⟨?_, ?_, show (1 : Int) ≤ 8 by decide, show (8 : Int) ≤ 8 by decide, ?_, ?_, ?_, ?_, ?_⟩, hs.so⟩
  · show 1 ≤ tnum f (2 ^ tn f) 0
    omega
  · show tnum f (2 ^ tn f) 0 ≤ 300
    omega
  · show ((tabGs f).length : Int) = tnum f (2 ^ tn f) 0
    rw [hst]; simp [tabGs]
  · show ss.length ≤ 6000
    omega
  · intro q hq
    obtain rfl : q = 0 := by simpa [tabOf] using hq
    show (0 : Int) ≤ 0 ∧ 0 < tnum f (2 ^ tn f) 0
    omega
  · show [(0 : Int)].Pairwise (· < ·)
    simp
  · intro s hs'
    obtain ⟨c, nx, p, hc, hnx, hkp, hor⟩ := (hr _).1 ((hs.mem _).1 hs')
    show (0 ≤ s.f ∧ s.f < tnum f (2 ^ tn f) 0) ∧ (0 ≤ s.t ∧ s.t < tnum f (2 ^ tn f) 0) ∧ 0 ≤ s.l ∧ s.l < 8
    rcases hor with ⟨w, hw, rfl⟩ | ⟨_, rfl⟩
    · exact ⟨range p w hkp.lt hw, range nx _ hnx (onW_le hw), by simp only; omega, by simp only; omega⟩
    · exact ⟨⟨Int.le_refl 0, by simp only; omega⟩, range nx _ hnx (onW_le (Nat.zero_le _)), by simp only; omega, by simp only; omega⟩
structure Mo where
  pr : Int
  ls : List Int
  fs : List Int
  ss : List (List Int)
def ckMRow (n : Int) (r : List Int) : Int := if r.length = 0 then 4 else if (r.any fun q => !btw q 0 (n - 1)) = true then 5 else 0
def ckMRows (n : Int) : List (List Int) → Int
  | [] => 0
  | r :: rs => if ckMRow n r = 0 then ckMRows n rs else ckMRow n r
def ckM (m : Mo) : Int :=
  if (!btw m.pr 0 3) = true then 3
  else if 12 < (m.ls.length : Int) then 2
  else if m.ls.length = 0 ∨ m.ss.length ≠ m.ls.length then 1
  else if (m.ls.any fun q => !btw q 0 ((2 : Int) ^ m.pr.toNat - 1)) = true then 3
  else if (m.fs.any fun q => !btw q 0 ((m.ls.length : Int) - 1)) = true then 5
  else ckMRows m.ls.length m.ss
structure MoOK (m : Mo) : Prop where
  pr0 : 0 ≤ m.pr
  pr3 : m.pr ≤ 3
  n12 : m.ls.length ≤ 12
  n0 : 0 < m.ls.length
  sl : m.ss.length = m.ls.length
  lr : ∀ q ∈ m.ls, 0 ≤ q ∧ q < 8
  fr : ∀ q ∈ m.fs, 0 ≤ q ∧ q < (m.ls.length : Int)
  rr : ∀ r ∈ m.ss, ∀ q ∈ r, 0 ≤ q ∧ q < (m.ls.length : Int)
theorem ckMRows_zero {n : Int} : ∀ {rs : List (List Int)}, ckMRows n rs = 0 → ∀ r ∈ rs, ckMRow n r = 0
  | [], _, r, h => by simp at h
  | r :: rs, h, q, hq => by
    unfold ckMRows at h
    split at h
    · rename_i h0
      rcases List.mem_cons.1 hq with rfl | hq
      · exact h0
      · exact ckMRows_zero h q hq
    · rename_i h0; exact absurd h h0
theorem any_btw {xs : List Int} {n : Int} (h : ¬ (xs.any fun q => !btw q 0 (n - 1)) = true) : ∀ q ∈ xs, 0 ≤ q ∧ q < n := by
  intro q hq
  simp only [List.any_eq_true, not_exists, not_and, Bool.not_eq_true', Bool.not_eq_false, btw_iff] at h
  have := h q hq
  omega
theorem ckM_ok {m : Mo} (h : ckM m = 0) : MoOK m := by
  unfold ckM at h
  split at h
  · cases h
  rename_i h1
  split at h
  · cases h
  rename_i h2
  split at h
  · cases h
  rename_i h3
  split at h
  · cases h
  rename_i h4
  split at h
  · cases h
  rename_i h5
  simp only [Bool.not_eq_true', Bool.not_eq_false, btw_iff] at h1
  have hp : (2 : Int) ^ m.pr.toNat ≤ 8 := by
    have : m.pr.toNat = 0 ∨ m.pr.toNat = 1 ∨ m.pr.toNat = 2 ∨ m.pr.toNat = 3 := by omega
    rcases this with h | h | h | h <;> rw [h] <;> decide
  refine ⟨h1.1, h1.2, by omega, by omega, by omega, fun q hq => ?_, any_btw h5, fun r hr q hq => ?_⟩
  · have := any_btw h4 q hq
    omega
  · have := ckMRows_zero h r hr
    unfold ckMRow at this
    split at this
    · cases this
    split at this
    · cases this
    rename_i h6
    exact any_btw h6 q hq
def Mo.lab (m : Mo) (q : Int) : Int := m.ls.getD q.toNat 0
def Mo.nxt (m : Mo) (q : Int) : List Int := m.ss.getD q.toNat []
def moRaw (m : Mo) (n : Nat) : List Stp := (List.range n).flatMap fun i => (m.ss.getD i []).map fun t => ⟨(i : Int), m.ls.getD i 0, t⟩
def moFs (m : Mo) (n : Nat) : List Int := ((List.range n).filter fun i : Nat => m.fs.contains (i : Int)).map fun i : Nat => (i : Int)
def moAu (m : Mo) (ss : List Stp) : Au := ⟨(m.ls.length : Nat), 8, moFs m m.ls.length, List.replicate m.ls.length true, ss⟩
theorem moRaw_mem {m : Mo} {n : Nat} {s : Stp} : s ∈ moRaw m n ↔ ∃ i, i < n ∧ ∃ t ∈ m.ss.getD i [], s = ⟨(i : Int), m.ls.getD i 0, t⟩ := by
  unfold moRaw
  simp only [List.mem_flatMap, List.mem_range, List.mem_map]
  constructor
  · rintro ⟨i, hi, t, ht, rfl⟩; exact ⟨i, hi, t, ht, rfl⟩
  · rintro ⟨i, hi, t, ht, rfl⟩; exact ⟨i, hi, t, ht, rfl⟩
theorem mo_fit {m : Mo} (hm : MoOK m) {ss : List Stp} (hs : SortOf (moRaw m m.ls.length) ss) : AuFit (moAu m ss) := by
  have h0 := hm.n0
  refine ⟨by show (1 : Int) ≤ (m.ls.length : Nat); omega, show (1 : Int) ≤ 8 by decide, show (8 : Int) ≤ 8 by decide, by simp [moAu], ?_, ?_, ?_, hs.so⟩
  · intro f hf
    simp only [moAu, moFs, List.mem_map, List.mem_filter, List.mem_range] at hf
    obtain ⟨i, ⟨hi, _⟩, rfl⟩ := hf
    show 0 ≤ (i : Int) ∧ (i : Int) < (m.ls.length : Nat)
    omega
  · show (moFs m m.ls.length).Pairwise (· < ·)
    unfold moFs
    rw [List.pairwise_map, List.pairwise_filter]
    exact List.pairwise_lt_range.imp (fun {a b} h _ _ => by omega)
  · intro s hs'
    obtain ⟨i, hi, t, ht, rfl⟩ := moRaw_mem.1 ((hs.mem s).1 hs')
    show (0 ≤ (i : Int) ∧ (i : Int) < (m.ls.length : Nat)) ∧ (0 ≤ t ∧ t < (m.ls.length : Nat)) ∧ 0 ≤ m.ls.getD i 0 ∧ m.ls.getD i 0 < 8
    have hi' : i < m.ss.length := by rw [hm.sl]; exact hi
    rw [getD_lt hi'] at ht
    refine ⟨by omega, hm.rr _ (List.getElem_mem hi') t ht, ?_⟩
    rw [getD_lt hi]
    exact hm.lr _ (List.getElem_mem hi)
def MoIn (m : Mo) (u : Nat → Int) : Nat → Int → Prop
  | 0, q => q ∈ m.fs
  | k + 1, q => ∃ p, MoIn m u k p ∧ m.lab p = u k ∧ q ∈ m.nxt p
def MoGoes (m : Mo) (l : La) : Prop := ∀ k, k < l.h.length + (m.ls.length + 1) * l.l.length → ∃ q, MoIn m l.at k q ∧ m.lab q = l.at k
theorem moIn_range {m : Mo} (hm : MoOK m) {u : Nat → Int} : ∀ {k : Nat} {q : Int}, MoIn m u k q → 0 ≤ q ∧ q < (m.ls.length : Int)
  | 0, q, h => hm.fr q h
  | k + 1, q, h => by
    obtain ⟨p, hp, _, hq⟩ := h
    have := moIn_range hm hp
    have hp' : p.toNat < m.ss.length := by rw [hm.sl]; omega
    unfold Mo.nxt at hq
    rw [getD_lt hp'] at hq
    exact hm.rr _ (List.getElem_mem hp') q hq
theorem mo_edge {m : Mo} {ss : List Stp} (hs : SortOf (moRaw m m.ls.length) ss) {p c q : Int} : (⟨p, c, q⟩ : Stp) ∈ (moAu m ss).ss ↔ (0 ≤ p ∧ p < (m.ls.length : Int)) ∧ m.lab p = c ∧ q ∈ m.nxt p := by
  show _ ∈ ss ↔ _
  rw [hs.mem, moRaw_mem]
  constructor
  · rintro ⟨i, hi, t, ht, he⟩
    have e1 := congrArg Stp.f he
    have e2 := congrArg Stp.l he
    have e3 := congrArg Stp.t he
    simp only at e1 e2 e3
    subst e1 e2 e3
    exact ⟨by omega, by unfold Mo.lab; rw [Int.toNat_natCast], by unfold Mo.nxt; rw [Int.toNat_natCast]; exact ht⟩
  · rintro ⟨h1, rfl, h2⟩
    exact ⟨p.toNat, by omega, q, h2, by unfold Mo.lab; rw [Int.toNat_of_nonneg h1.1]⟩
theorem mo_first {m : Mo} (hm : MoOK m) {ss : List Stp} {q : Int} : q ∈ (moAu m ss).fs ↔ q ∈ m.fs := by
  show q ∈ moFs m m.ls.length ↔ _
  unfold moFs
  simp only [List.mem_map, List.mem_filter, List.mem_range, List.contains_iff_mem]
  constructor
  · rintro ⟨i, ⟨_, h⟩, rfl⟩; exact h
  · intro h
    have := hm.fr q h
    exact ⟨q.toNat, ⟨by omega, by rw [Int.toNat_of_nonneg this.1]; exact h⟩, by omega⟩
theorem mo_good {m : Mo} {ss : List Stp} {q : Int} (h : 0 ≤ q ∧ q < (m.ls.length : Int)) : (moAu m ss).good q := by
  unfold Au.good moAu
  simp only
  refine ⟨h.1, ?_⟩
  rw [List.getD_eq_getElem?_getD, List.getElem?_replicate, if_pos (by omega)]
  rfl
theorem mo_takes {m : Mo} (hm : MoOK m) {ss : List Stp} (hs : SortOf (moRaw m m.ls.length) ss) {l : La} (hp : 0 < l.l.length) : TakesU (moAu m ss) l.at ↔ MoGoes m l := by
  have hfit := mo_fit hm hs
  constructor
  · rintro ⟨r, h0, hst, _⟩ k _
    have hin : ∀ k, MoIn m l.at k (r k) := by
      intro k
      induction k with
      | zero => exact (mo_first hm).1 h0
      | succ k ih =>
        have := (mo_edge hs).1 (hst k)
        exact ⟨r k, ih, this.2.1, this.2.2⟩
    exact ⟨r k, hin k, ((mo_edge hs).1 (hst k)).2.1⟩
  · intro hg
    have way : ∀ k q, MoIn m l.at k q → ∃ f ∈ (moAu m ss).fs, Way (moAu m ss) l.at false 0 f k q := by
      intro k
      induction k with
      | zero => intro q hq; exact ⟨q, (mo_first hm).2 hq, .refl _ _⟩
      | succ k ih =>
        rintro q ⟨p, hpp, hl, hq⟩
        obtain ⟨f, hf, hw⟩ := ih p hpp
        exact ⟨f, hf, .go hw ((mo_edge hs).2 ⟨moIn_range hm hpp, hl, hq⟩)⟩
    have hmul : (m.ls.length + 1) * l.l.length = l.l.length * m.ls.length + l.l.length := by rw [Nat.succ_mul, Nat.mul_comm]
    obtain ⟨q, hq, _⟩ := hg (l.h.length + l.l.length * m.ls.length) (by omega)
    obtain ⟨f, hf, hw⟩ := way _ _ hq
    obtain ⟨r, r0, rq, rs, _⟩ := hw.run
    have hrange : ∀ k, k ≤ l.h.length + l.l.length * m.ls.length → 0 ≤ r k ∧ r k < (m.ls.length : Int) := by
      intro k hk
      cases k with
      | zero => rw [r0]; exact hm.fr f ((mo_first hm).1 hf)
      | succ k =>
        have := (hfit.sr _ (rs k (Nat.zero_le _) (by omega))).2.1
        exact this
    obtain ⟨i, j, hij, hj, he⟩ := pigeon m.ls.length (fun k => (r (l.h.length + l.l.length * k)).toNat) (fun k hk => by
      have hk' := Nat.mul_le_mul_left l.l.length hk
      have := hrange (l.h.length + l.l.length * k) (by omega)
      omega)
    have he : (r (l.h.length + l.l.length * i)).toNat = (r (l.h.length + l.l.length * j)).toNat := he
    have hj' := Nat.mul_le_mul_left l.l.length hj
    have hij' := Nat.mul_le_mul_left l.l.length (show i + 1 ≤ j by omega)
    rw [Nat.mul_succ] at hij'
    have e : r (l.h.length + l.l.length * i) = r (l.h.length + l.l.length * j) := by
      have := hrange (l.h.length + l.l.length * i) (by omega)
      have := hrange (l.h.length + l.l.length * j) (by omega)
      omega
    have w1 := Way.part (a := moAu m ss) (u := l.at) (r := r) (i := 0) (d := l.h.length + l.l.length * i) (fun k a1 a2 => rs k a1 (by omega))
    have w2 := Way.part (a := moAu m ss) (u := l.at) (r := r) (i := l.h.length + l.l.length * i) (d := l.l.length * (j - i)) (fun k a1 a2 => rs k (by omega) (by rw [Nat.mul_sub] at a2; omega))
    have hd : l.h.length + l.l.length * i + l.l.length * (j - i) = l.h.length + l.l.length * j := by rw [Nat.mul_sub]; omega
    rw [Nat.zero_add, r0] at w1
    rw [hd, ← e, ← hd] at w2
    exact takes_of_circle (c := l.l.length * (j - i)) hf w1 (w2.hit_end (by omega) (mo_good (hrange _ (by omega)))) (fun k hk => La.at_add (by omega))
end Go.Proofs.YtoglgeaiiipchaaGreatDoor

namespace Go.Proofs.YtoglgeaiiipchaaGreatDoor
open Go Go.RowKit Go.Shelf
def PredV (P : Program) (g : FuncId) (caps : Array Value) (p : Int → Bool) (w : World) : Prop :=
  ∀ (n : Int) (W : World), Below w.heap.size w W → Calls P g (#[.int .i64 n] ++ caps) W fun e W' => e = .returned (.bool (p n)) ∧ Below W.heap.size W W'
def anyB (p : Int → Bool) (xs : List Int) : Bool := xs.any p
def firstIx (p : Int → Bool) : List Int → Nat → Int
  | [], _ => -1
  | x :: r, i => if p x = true then i else firstIx p r (i + 1)
theorem firstIx_step {p : Int → Bool} {xs : List Int} {k : Nat} (hk : k < xs.length) : firstIx p (xs.drop k) k = if p xs[k] = true then (k : Int) else firstIx p (xs.drop (k + 1)) (k + 1) := by
  rw [List.drop_eq_getElem_cons hk]; rfl
theorem firstIx_end {p : Int → Bool} {xs : List Int} {k : Nat} (hk : xs.length ≤ k) : firstIx p (xs.drop k) k = -1 := by
  rw [List.drop_of_length_le hk]; rfl
theorem firstIx_any (p : Int → Bool) (xs : List Int) : ∀ i, decide (0 ≤ firstIx p xs i) = anyB p xs := by
  unfold anyB
  induction xs with
  | nil => intro i; rfl
  | cons x r ih =>
    intro i
    by_cases h : p x = true
    · simp [firstIx, h]
    · simp [firstIx, h, ih]
set_option maxRecDepth 100000 in
theorem IndexFuncI_ (A : Option Addr) (c : Nat) (xs : List Int) (g : FuncId) (caps : Array Value) (p : Int → Bool) (w : World) (hx : Ints w 0 A c xs) (hg : Enters Tryz.prog g) (hp : PredV Tryz.prog g caps p w) :
    Calls Tryz.prog 84 #[.slice A xs.length c, .func (.func g) #[] caps] w fun e w' => e = .returned (.int .i64 (firstIx p xs 0)) ∧ Below w.heap.size w w' := by
  have h1 := hx.le
  have h2 := hx.max
  have H := Lib.hid hp
  clear hp
  have hgr : ∀ (args : Array Value) (w : World), (callFunc g args).run Tryz.prog w = .ok (.enter g args) w := hg
  clear hg
  go_enter Tryz.func84, Tryz.ntmps84
  go_wp2
  go_loopw [8] (fun i wr => ∃ k : Nat, k ≤ xs.length ∧ i = .int .i64 k ∧ firstIx p xs 0 = firstIx p (xs.drop k) k ∧ Below w.heap.size w wr) (fun i _ => xs.length - (intOf i).toNat)
  case atStart => exact ⟨0, Nat.zero_le _, rfl, rfl, Below.refl _ _⟩
  case round =>
    obtain ⟨k, hk, rfl, hc, hb⟩ := hrel
    have HC := Lib.hid hc
    clear hc
    by_cases hlt : k < xs.length
    · obtain ⟨b, o, rfl, _, hbl, hc1⟩ := Ints.at_ (hx.below hb) hlt
      have hs := firstIx_step (p := p) hlt
      have HS := Lib.hid hs
      clear hs
      go_wp2_with fail
      refine (H.out _ _ hb).mono ?_; rintro e w1 ⟨rfl, hb1⟩
      go_wp2
      · have ht : p xs[k] = true := by assumption
        go_ret
        exact ⟨ret_int (by rw [HC.out, HS.out, if_pos ht]), Below_on hb hb1 hb.size⟩
      · have ht : p xs[k] = false := by assumption
        go_roundw
        case rel => exact ⟨k + 1, by omega, by go_num, by rw [HC.out, HS.out, if_neg (by simp [ht])], Below_on hb hb1 hb.size⟩
        case measure => simp [intOf]; omega
    · go_wp2
      go_ret
      exact ⟨ret_int (by rw [HC.out, firstIx_end (by omega)]), hb⟩
theorem ContainsFuncI_ (A : Option Addr) (c : Nat) (xs : List Int) (g : FuncId) (caps : Array Value) (p : Int → Bool) (w : World) (hx : Ints w 0 A c xs) (hg : Enters Tryz.prog g) (hp : PredV Tryz.prog g caps p w) :
    Calls Tryz.prog 45 #[.slice A xs.length c, .func (.func g) #[] caps] w fun e w' => e = .returned (.bool (anyB p xs)) ∧ Below w.heap.size w w' := by
  have H := Lib.hid (IndexFuncI_ A c xs g caps p w hx hg hp)
  have HF := Lib.hid (firstIx_any p xs 0)
  clear hx hp hg
  go_enter Tryz.func45, Tryz.ntmps45
  go_wp2_with fail
  refine H.out.mono ?_
  rintro e w1 ⟨rfl, hb1⟩
  go_wp2
  go_ret
  exact ⟨ret_bool HF.out, hb1⟩
end Go.Proofs.YtoglgeaiiipchaaGreatDoor

namespace Go.Proofs.YtoglgeaiiipchaaGreatDoor
open Go Go.RowKit Go.Shelf
def badL (letters n : Int) : Bool := decide (n < 0) || decide (letters ≤ n)
def ckL (l : La) (letters : Int) : Int :=
  if letters < 1 ∨ 8 < letters then 3
  else if 4000 < (l.h.length : Int) ∨ 4000 < (l.l.length : Int) then 2
  else if l.l.length = 0 then 1
  else if (anyB (badL letters) l.h || anyB (badL letters) l.l) = true then 5
  else 0
theorem ckL_3 {l : La} {letters : Int} (h : letters < 1 ∨ 8 < letters) : ckL l letters = 3 := by rw [ckL, if_pos h]
theorem ckL_2 {l : La} {letters : Int} (h : ¬ (letters < 1 ∨ 8 < letters)) (h2 : 4000 < (l.h.length : Int) ∨ 4000 < (l.l.length : Int)) : ckL l letters = 2 := by rw [ckL, if_neg h, if_pos h2]
theorem ckL_1 {l : La} {letters : Int} (h : ¬ (letters < 1 ∨ 8 < letters)) (h2 : ¬ (4000 < (l.h.length : Int) ∨ 4000 < (l.l.length : Int))) (h3 : l.l.length = 0) : ckL l letters = 1 := by rw [ckL, if_neg h, if_neg h2, if_pos h3]
theorem ckL_x {l : La} {letters : Int} (h : ¬ (letters < 1 ∨ 8 < letters)) (h2 : ¬ (4000 < (l.h.length : Int) ∨ 4000 < (l.l.length : Int))) (h3 : ¬ l.l.length = 0) :
    ckL l letters = if (anyB (badL letters) l.h || anyB (badL letters) l.l) = true then 5 else 0 := by rw [ckL, if_neg h, if_neg h2, if_neg h3]
theorem wordCheck1_ (letters : Int) (B : Nat) (w : World) (hc : w.cell? ⟨B, 0, none⟩ = some (.int .i64 letters)) (hB : B < w.heap.size) :
    PredV Tryz.prog 83 #[.pointer (some ⟨B, 0, none⟩)] (badL letters) w := by
  intro n W hW
  have hc' : W.cell? ⟨B, 0, none⟩ = some (.int .i64 letters) := (hW.cell (p := ⟨B, 0, none⟩) hB).trans hc
  clear hc hW
  simp only [List.append_toArray, List.cons_append, List.nil_append]
  go_enter Tryz.func83, Tryz.ntmps83
  go_wp2
  all_goals (go_ret; refine ⟨ret_bool ?_, Below.refl _ _⟩; unfold badL)
  · rfl
  · rw [decide_eq_true (by assumption)]; rfl
theorem wordCheckEnters : Enters Tryz.prog 83 := enters_of Tryz.func83 (by kernel_rfl) rfl
set_option maxRecDepth 100000 in
theorem wordCheck_ (A B : Option Addr) (ca cb : Nat) (l : La) (letters : Int) (w : World) (hh : Ints w 0 A ca l.h) (hl : Ints w 0 B cb l.l) :
    Calls Tryz.prog 42 #[.agg #[.slice A l.h.length ca, .slice B l.l.length cb], .int .i64 letters] w fun e w' => e = .returned (.int .i64 (ckL l letters)) ∧ Below w.heap.size w w' := by
  have h1 := hh.le
  have h2 := hh.max
  have h3 := hl.le
  have h4 := hl.max
  go_enter Tryz.func42, Tryz.ntmps42
  have hbA : Below w.heap.size w ((w.alloc (Obj.cells #[Value.slice A l.h.length ca, Value.slice B l.l.length cb] 27)).alloc (Obj.cells #[Value.int IntKind.i64 letters] 3)) := ((Below.refl _ _).alloc (Nat.le_refl _) _).alloc (by simp) _
  have HA := Lib.hid hbA
  clear hbA
  by_cases h3 : letters < 1 ∨ 8 < letters
  · have HF := Lib.hid (ckL_3 (l := l) h3)
    go_wp2_with fail
    all_goals (go_ret; exact ⟨ret_int HF.out.symm, HA.out⟩)
  by_cases h2 : 4000 < (l.h.length : Int) ∨ 4000 < (l.l.length : Int)
  · have HF := Lib.hid (ckL_2 h3 h2)
    go_wp2_with fail
    all_goals (go_ret; exact ⟨ret_int HF.out.symm, HA.out⟩)
  by_cases h1' : l.l.length = 0
  · have HF := Lib.hid (ckL_1 h3 h2 h1')
    have hz : ((l.l.length : Int) == 0) = true := by simp [h1']
    clear h1'
    go_wp2_with fail
    go_ret
    exact ⟨ret_int HF.out.symm, HA.out⟩
  have HF := Lib.hid (ckL_x h3 h2 h1')
  have hz : ((l.l.length : Int) == 0) = false := by simpa using h1'
  clear h1'
  go_wp2_with fail
  refine (ContainsFuncI_ _ _ _ _ _ (badL letters) _ (hh.below HA.out) wordCheckEnters (wordCheck1_ letters (w.heap.size + 1) _ (by go_simp) (by simp))).mono ?_
  rintro e w1 ⟨rfl, hb1⟩
  obtain ⟨hc1, hf1⟩ := bcell hb1
  have HB := Lib.hid hb1
  clear hb1
  have hs1 : w.heap.size + 1 < w1.heap.size := by have := HB.out.size; simp at this; omega
  have HW := Lib.hid (Below_on HA.out HB.out (by simp; omega))
  go_wp2_with fail
  · have hn : anyB (badL letters) l.h = true := by assumption
    go_ret
    exact ⟨ret_int (by rw [HF.out, hn]; simp), HW.out⟩
  · have hn : anyB (badL letters) l.h = false := by simpa using (by assumption : ¬ anyB (badL letters) l.h = true)
    refine (ContainsFuncI_ _ _ _ _ _ (badL letters) _ (hl.below HW.out) wordCheckEnters (wordCheck1_ letters (w.heap.size + 1) _ (by go_simp) hs1)).mono ?_
    rintro e w2 ⟨rfl, hb2⟩
    have HB2 := Lib.hid hb2
    clear hb2
    go_wp2
    all_goals (go_ret; refine ⟨ret_int (by rw [HF.out, hn]; simp [*]), Below_on HW.out HB2.out (by omega)⟩)
end Go.Proofs.YtoglgeaiiipchaaGreatDoor

namespace Go.Proofs.YtoglgeaiiipchaaGreatDoor
open Go Go.RowKit Go.Maps Go.Shelf
def atD (f : List Nd) (n : Nat) : List (Int × Int) := ((List.range n).filter fun i => isTmp (f.getD i nond).k).map fun i : Nat => ((i : Int), (tix f i : Int))
theorem atD_succ (f : List Nd) (n : Nat) : atD f (n + 1) = atD f n ++ if isTmp (f.getD n nond).k = true then [((n : Int), (tix f n : Int))] else [] := by
  unfold atD
  rw [List.range_succ, List.filter_append, List.map_append]
  by_cases h : isTmp (f.getD n nond).k = true
  · rw [if_pos h, List.filter_cons_of_pos (p := fun i : Nat => isTmp (f.getD i nond).k) h]; rfl
  · rw [if_neg h, List.filter_cons_of_neg (p := fun i : Nat => isTmp (f.getD i nond).k) h]; rfl
theorem atD_mem {f : List Nd} {n : Nat} {k v : Int} : (k, v) ∈ atD f n ↔ ∃ i, i < n ∧ isTmp (f.getD i nond).k = true ∧ k = (i : Int) ∧ v = (tix f i : Int) := by
  unfold atD
  rw [List.mem_map]
  constructor
  · rintro ⟨i, hi, he⟩
    rw [List.mem_filter, List.mem_range] at hi
    simp only [Prod.mk.injEq] at he
    exact ⟨i, hi.1, hi.2, he.1.symm, he.2.symm⟩
  · rintro ⟨i, h1, h2, rfl, rfl⟩
    exact ⟨i, List.mem_filter.2 ⟨List.mem_range.2 h1, h2⟩, rfl⟩
theorem atD_key {f : List Nd} {n : Nat} {k : Int} : k ∈ (atD f n).map Prod.fst ↔ ∃ i, i < n ∧ isTmp (f.getD i nond).k = true ∧ k = (i : Int) := by
  rw [List.mem_map]
  constructor
  · rintro ⟨⟨k', v⟩, h, rfl⟩
    obtain ⟨i, h1, h2, h3, _⟩ := atD_mem.1 h
    exact ⟨i, h1, h2, h3⟩
  · rintro ⟨i, h1, h2, rfl⟩
    exact ⟨_, atD_mem.2 ⟨i, h1, h2, rfl, rfl⟩, rfl⟩
theorem atD_nodup (f : List Nd) (n : Nat) : ((atD f n).map Prod.fst).Nodup := by
  unfold atD
  rw [List.map_map]
  have : ((List.range n).filter fun i => isTmp (f.getD i nond).k).Nodup := List.nodup_range.filter _
  unfold List.Nodup at *
  rw [List.pairwise_map]
  exact this.imp fun {x y} h e => h (Int.ofNat.inj e)
theorem atD_len (f : List Nd) : ∀ n, n ≤ f.length → (atD f n).length = tix f n
  | 0, _ => by simp [atD, tix]
  | n + 1, h => by
    rw [atD_succ, List.length_append, atD_len f n (by omega), tix_succ (by omega)]
    by_cases h : isTmp (f.getD n nond).k = true
    · rw [if_pos h, if_pos h]; rfl
    · rw [if_neg h, if_neg h]; rfl
def fairI (f : List Nd) : List Int := (fair f).map fun i : Nat => (i : Int)
theorem fairI_len (f : List Nd) : (fairI f).length = (fair f).length := by simp [fairI]
structure TbAt (W : World) (Bk M : Nat) (f : List Nd) (FA : Option Addr) (fc : Nat) (GA : Option Addr) (gc : Nat) : Prop where
  lt : Bk < W.heap.size
  c0 : W.cell? ⟨Bk, 0, none⟩ = some (.slice FA f.length fc)
  c1 : W.cell? ⟨Bk, 1, none⟩ = some (.map (some M))
  c2 : W.cell? ⟨Bk, 2, none⟩ = some (.slice GA (fairI f).length gc)
  fm : Nds W 0 FA fc f
  at_ : AtI W M (atD f f.length)
  fr : Ints W 0 GA gc (fairI f)
theorem TbAt.on {W W' : World} {Bk M : Nat} {f : List Nd} {FA : Option Addr} {fc : Nat} {GA : Option Addr} {gc : Nat} (h : TbAt W Bk M f FA fc GA gc) (hb : Below W.heap.size W W') : TbAt W' Bk M f FA fc GA gc :=
  ⟨Nat.lt_of_lt_of_le h.lt hb.size, (hb.cell (p := ⟨Bk, 0, none⟩) h.lt).trans h.c0, (hb.cell (p := ⟨Bk, 1, none⟩) h.lt).trans h.c1, (hb.cell (p := ⟨Bk, 2, none⟩) h.lt).trans h.c2, h.fm.below hb, h.at_.on hb, h.fr.below hb⟩
def trR (f : List Nd) (c : Int) (nx : Nat) (i : Nat) : List Bool := trs f c nx i ++ List.replicate (f.length - i) false
theorem trR_len {f : List Nd} {c : Int} {nx i : Nat} (h : i ≤ f.length) : (trR f c nx i).length = f.length := by
  unfold trR
  rw [List.length_append, trs_len, List.length_replicate]
  omega
theorem trR_get {f : List Nd} {c : Int} {nx i j : Nat} (h : j < i) : (trR f c nx i).getD j false = (trs f c nx i).getD j false := by
  unfold trR
  rw [List.getD_eq_getElem?_getD, List.getElem?_append_left (by rw [trs_len]; exact h), ← List.getD_eq_getElem?_getD]
theorem trR_set {f : List Nd} {c : Int} {nx i : Nat} (h : i < f.length) : (trR f c nx i).set i (trAt f c nx (trs f c nx i) i) = trR f c nx (i + 1) := by
  unfold trR
  rw [List.set_append_right _ _ (by rw [trs_len]; exact Nat.le_refl _), trs_len, Nat.sub_self, show f.length - i = (f.length - (i + 1)) + 1 by omega, List.replicate_succ, List.set_cons_zero]
  show _ = (trs f c nx i ++ [trAt f c nx (trs f c nx i) i]) ++ _
  rw [List.append_assoc]
  rfl
theorem trR_end (f : List Nd) (c : Int) (nx : Nat) : trR f c nx f.length = truths f c nx := by
  unfold trR truths
  rw [Nat.sub_self]
  simp
end Go.Proofs.YtoglgeaiiipchaaGreatDoor

namespace Go.Proofs.YtoglgeaiiipchaaGreatDoor
open Go Go.RowKit Go.Maps Go.Shelf
theorem wrTb {x : Int} (h1 : -9000000000000000000 ≤ x) (h2 : x ≤ 9000000000000000000) : IntKind.i64.wrap x = x := IntWalk.i64_in _ (by omega)
set_option maxRecDepth 100000 in
set_option maxHeartbeats 4000000 in
theorem tnumber_ (f : List Nd) (hf : FmOK f) (p v : Nat) (hp : p ≤ 16) (hv : v ≤ 5) (Bk M : Nat) (FA GA : Option Addr) (fc gc : Nat) (w : World) (hT : TbAt w Bk M f FA fc GA gc) :
    Calls Tryz.prog 143 #[.pointer (some ⟨Bk, 0, none⟩), .int .i64 (p : Int), .int .i64 (v : Int)] w fun e w' => e = .returned (.int .i64 (tnum f p v)) ∧ w' = w := by
  have hn := tn_le hf
  have c2 := hT.c2
  rw [fairI_len] at c2
  have HD : Hid (tnum f p v = 1 + (p : Int) * (((fair f).length : Int) + 1) + v) := rfl
  have hln : (fair f).length ≤ 4 := by omega
  clear hT hn hf
  generalize (fair f).length = n at *
  have hm : (p : Int) * ((n : Int) + 1) = ((p * (n + 1) : Nat) : Int) := by simp
  have hM : p * (n + 1) ≤ 16 * 5 := Nat.mul_le_mul hp (by omega)
  have q1 : IntKind.i64.wrap ((p : Int) * ((n : Int) + 1)) = (p : Int) * ((n : Int) + 1) := wrTb (by omega) (by omega)
  have q2 : IntKind.i64.wrap (1 + (p : Int) * ((n : Int) + 1)) = 1 + (p : Int) * ((n : Int) + 1) := wrTb (by omega) (by omega)
  have q3 : IntKind.i64.wrap (1 + (p : Int) * ((n : Int) + 1) + (v : Int)) = 1 + (p : Int) * ((n : Int) + 1) + v := wrTb (by omega) (by omega)
  have HP : Hid (Ending.returned (.int .i64 (1 + (p : Int) * ((n : Int) + 1) + v)) = .returned (.int .i64 (tnum f p v))) := by show _ = _; rw [HD.out]
  clear hm hM
  go_enter Tryz.func143, Tryz.ntmps143
  go_wp2_with fail
  go_ret
  exact ⟨HP.out, rfl⟩
set_option maxRecDepth 100000 in
set_option maxHeartbeats 4000000 in
theorem calm_ (f : List Nd) (hf : FmOK f) (i : Nat) (hi : i < f.length) (hk : (f.getD i nond).k = 7 ∨ (f.getD i nond).k = 8) (t : List Bool) (hl : t.length = f.length) (G Bk M : Nat) (FA GA : Option Addr) (fc gc : Nat) (w : World) (hT : TbAt w Bk M f FA fc GA gc) (hG : BRow w G t) :
    Calls Tryz.prog 189 #[.pointer (some ⟨Bk, 0, none⟩), .int .i64 (i : Int), .slice (some ⟨G, 0, none⟩) t.length t.length] w (BoolPost w (calmV f t i)) := by
  have hle := hT.fm.le
  have c0 := hT.c0
  have HE : Hid (f.getD i nond = f[i]) := by show _ = _; rw [List.getD_eq_getElem?_getD, List.getElem?_eq_getElem hi]; rfl
  have hx := ndErr_zero.1 (hf.nd i hi)
  rw [HE.out] at hk
  have HV : Hid (calmV f t i = if f[i].k = 7 then !t.getD i false || t.getD f[i].b.toNat false else t.getD i false || !t.getD f[i].b.toNat false) := by show _ = _; unfold calmV; rw [HE.out]
  obtain ⟨fb, fo, rfl, _, _, x0, x1, x2, x3⟩ := Nds.at_ hT.fm hi
  generalize f[i] = x at *
  obtain ⟨hb1, hb2⟩ := hx.b (by omega)
  obtain ⟨bb, hbb⟩ := Int.eq_ofNat_of_zero_le hb1
  rw [hbb] at HV x2
  rw [show ((bb : Nat) : Int).toNat = bb by omega] at HV
  have HB : Hid (Below w.heap.size w (w.alloc (Obj.cells #[.int .i64 x.k, .int .i64 x.a, .int .i64 (bb : Int), .int .i64 x.n] 63))) := (Below.refl _ _).alloc (Nat.le_refl _) _
  obtain ⟨y0, _⟩ := (hG.below HB.out hG.lt).getD_ (i := i) (by omega) false
  obtain ⟨y1, _⟩ := (hG.below HB.out hG.lt).getD_ (i := bb) (by omega) false
  have q1 : (i : Int) < (f.length : Int) := by omega
  have q2 : (i : Int) < (t.length : Int) := by omega
  have q3 : (bb : Int) < (t.length : Int) := by omega
  generalize t.getD i false = vi at *
  generalize t.getD bb false = vb at *
  have HK := Lib.hid hk
  clear hT hG hf hx hk hb1 hb2 hbb hl HE
  go_enter Tryz.func189, Tryz.ntmps189
  by_cases h7 : x.k = 7
  · rw [if_pos h7] at HV
    rw [h7] at x0 HB y0 y1
    have HP : Hid (BoolPost w (calmV f t i) (.returned (.bool (!vi || vb))) (w.alloc (Obj.cells #[.int .i64 7, .int .i64 x.a, .int .i64 (bb : Int), .int .i64 x.n] 63))) := ⟨by rw [HV.out], HB.out⟩
    clear h7 HK
    cases vi
    all_goals
      go_wp2_with fail
      go_ret
      exact HP.out
  · rw [if_neg h7] at HV
    have h8 : x.k = 8 := by have := HK.out; omega
    rw [h8] at x0 HB y0 y1
    have HP : Hid (BoolPost w (calmV f t i) (.returned (.bool (vi || !vb))) (w.alloc (Obj.cells #[.int .i64 8, .int .i64 x.a, .int .i64 (bb : Int), .int .i64 x.n] 63))) := ⟨by rw [HV.out], HB.out⟩
    clear h7 h8 HK
    cases vi
    all_goals
      go_wp2_with fail
      go_ret
      exact HP.out
theorem fairI_get {f : List Nd} {k : Nat} (h : k < (fairI f).length) : (fairI f)[k] = (((fair f).getD k 0 : Nat) : Int) := by
  have h2 : k < (fair f).length := by rwa [fairI_len] at h
  have h3 : (fairI f)[k]? = some (((fair f).getD k 0 : Nat) : Int) := by
    unfold fairI
    rw [List.getElem?_map, List.getD_eq_getElem?_getD, List.getElem?_eq_getElem h2]
    rfl
  exact (List.getElem?_eq_some_iff.1 h3).2
theorem adv_done {f : List Nd} {t : List Bool} {k : Nat} (h : ¬ k < (fair f).length) : ∀ m, adv f t m k = k
  | 0 => rfl
  | m + 1 => by unfold adv; rw [if_neg (fun hc => h hc.1)]
theorem adv_no {f : List Nd} {t : List Bool} {k : Nat} (h : calmV f t ((fair f).getD k 0) = false) : ∀ m, adv f t m k = k
  | 0 => rfl
  | m + 1 => by unfold adv; rw [if_neg (fun hc => by rw [h] at hc; cases hc.2)]
set_option maxRecDepth 100000 in
set_option maxHeartbeats 4000000 in
theorem on_ (f : List Nd) (hf : FmOK f) (v : Nat) (hv : v ≤ (fair f).length) (t : List Bool) (hl : t.length = f.length) (G Bk M : Nat) (FA GA : Option Addr) (fc gc : Nat) (w : World) (hT : TbAt w Bk M f FA fc GA gc) (hG : BRow w G t) :
    Calls Tryz.prog 170 #[.pointer (some ⟨Bk, 0, none⟩), .int .i64 (v : Int), .slice (some ⟨G, 0, none⟩) t.length t.length] w (IntB w (onW f t v : Nat)) := by
  have hn := tn_le hf
  have c2 := hT.c2
  have hln : (fairI f).length ≤ 4 := by rw [fairI_len]; omega
  obtain ⟨s, hs⟩ : ∃ s, s = if v = (fairI f).length then 0 else v := ⟨_, rfl⟩
  have hsl : s ≤ (fairI f).length := by rw [hs]; split <;> (rw [fairI_len] at *; omega)
  have HR : Hid (onW f t v = adv f t (fairI f).length s) := by show _ = _; rw [hs, fairI_len]; rfl
  have HS := Lib.hid hs
  have HT := Lib.hid hT
  have HG := Lib.hid hG
  have HF := Lib.hid hf
  have HL := Lib.hid hl
  have hv5 : v ≤ 4 := by omega
  clear hT hG hs hf hn hv hl
  go_enter Tryz.func170, Tryz.ntmps170
  go_upto_if 13 with fail
  go_cut [1] (fun s1 wx => s1 = .int .i64 (s : Int) ∧ wx = w)
  case first =>
    by_cases hz : v = (fairI f).length
    · have e1 : ((v : Int) == ((fairI f).length : Int)) = true := by simp [hz]
      have e2 : Hid (s = 0) := by show _ = _; rw [HS.out, if_pos hz]
      clear hz
      go_wp2_with fail
      go_meet
      exact ⟨by rw [e2.out]; rfl, rfl⟩
    · have e1 : ((v : Int) == ((fairI f).length : Int)) = false := by simp; omega
      have e2 : Hid (s = v) := by show _ = _; rw [HS.out, if_neg hz]
      clear hz
      go_wp2_with fail
      go_meet
      exact ⟨by rw [e2.out], rfl⟩
  case rest =>
    obtain ⟨rfl, rfl⟩ := hcut
    clear c2
    obtain ⟨n, hnn⟩ : ∃ n, n = (fairI f).length := ⟨_, rfl⟩
    have HN := Lib.hid hnn
    rw [← hnn] at HR hln hsl
    clear hnn
    go_wp2_with fail
    go_loopw [1] (fun v1 wr => ∃ k : Nat, k ≤ n ∧ v1 = .int .i64 (k : Int) ∧ Hid (∃ m, n - k ≤ m ∧ adv f t m k = onW f t v) ∧ Hid (Below wc.heap.size wc wr)) (fun v1 _ => n - (intOf v1).toNat)
    case atStart => exact ⟨s, hsl, rfl, ⟨n, by omega, HR.out.symm⟩, Below.refl _ _⟩
    case round =>
      obtain ⟨k, hk, rfl, HM, HBR⟩ := hrel
      have HTR := Lib.hid (HT.out.on HBR.out)
      have c2 := HTR.out.c2
      have c0 := HTR.out.c0
      rw [← HN.out] at c2
      by_cases hkn : k < n
      · have q1 : (k : Int) < (n : Int) := by omega
        have hle := HTR.out.fr.le
        rw [← HN.out] at hle
        have hkf : k < (fairI f).length := by rw [← HN.out]; exact hkn
        obtain ⟨gb, go, rfl, _, _, y0⟩ := Ints.at_ HTR.out.fr hkf
        rw [fairI_get hkf] at y0
        obtain ⟨hfa, hfk⟩ := fair_at (f := f) (w := k) (by rw [← fairI_len]; exact hkf)
        have HCM := Lib.hid (calm_ f HF.out _ hfa hfk t HL.out G Bk M FA _ fc gc wr HTR.out (HG.out.below HBR.out HG.out.lt))
        have HKN := Lib.hid hkn
        have HA1 : Hid (calmV f t ((fair f).getD k 0) = false → adv f t 0 k = onW f t v) := fun h => by
          obtain ⟨m, hm, h1⟩ := HM.out
          rw [← h1]
          exact (adv_no h 0).trans (adv_no h m).symm
        have HA2 : Hid (calmV f t ((fair f).getD k 0) = true → ∃ m, n - (k + 1) ≤ m ∧ adv f t m (k + 1) = onW f t v) := fun h => by
          obtain ⟨m, hm, h1⟩ := HM.out
          cases m with
          | zero => omega
          | succ m =>
            refine ⟨m, by omega, ?_⟩
            rw [← h1]
            show _ = adv f t (m + 1) k
            rw [show adv f t (m + 1) k = if k < (fair f).length ∧ calmV f t ((fair f).getD k 0) = true then adv f t m (k + 1) else k from rfl, if_pos ⟨by rw [← fairI_len]; exact hkf, h⟩]
        clear hfa hfk hkf HM
        generalize (fair f).getD k 0 = ii at *
        generalize calmV f t ii = cv at *
        go_wp2_with fail
        refine HCM.out.mono ?_
        rintro e w3 ⟨rfl, hb3⟩
        have HB3 := Lib.hid (Below_on HBR.out hb3 HBR.out.size)
        clear hb3 HCM c0 c2 y0
        cases cv with
        | true =>
          go_wp2_with fail
          go_roundw
          case rel => exact ⟨k + 1, HKN.out, by go_num, HA2.out (by simp), HB3.out⟩
          case measure => simp [intOf]; have := HKN.out; omega
        | false =>
          have HP : Hid (IntB wc (onW f t v : Nat) (.returned (.int .i64 (k : Int))) w3) := ⟨by rw [← HA1.out (by simp)]; rfl, HB3.out⟩
          go_wp2_with fail
          go_ret
          exact HP.out
      · have q1 : ¬ (k : Int) < (n : Int) := by omega
        have HP : Hid (IntB wc (onW f t v : Nat) (.returned (.int .i64 (k : Int))) wr) := by
          obtain ⟨m, hm, h1⟩ := HM.out
          have hkf : ¬ k < (fair f).length := by rw [← fairI_len, ← HN.out]; exact hkn
          exact ⟨by rw [← h1, adv_done hkf], HBR.out⟩
        go_wp2_with fail
        go_ret
        exact HP.out
end Go.Proofs.YtoglgeaiiipchaaGreatDoor
