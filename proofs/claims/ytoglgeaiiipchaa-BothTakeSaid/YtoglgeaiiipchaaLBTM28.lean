/- Walks: word.Least. -/
import Derived.Test.YtoglgeaiiipchaaLBTM27
import Derived.Test.YtoglgeaiiipchaaLBTM1
import Derived.Test.YtoglgeaiiipchaaLBTM26
import Derived.Deep.RegionLaw
set_option linter.unusedSimpArgs false
set_option linter.unusedVariables false
namespace Go.Proofs.Ytoglgeaiiipchaa
open Go Go.RowKit Go.Shelf Go.Sort

def lenOf : Value → Nat | .slice _ k _ => k | _ => 0
def lstL (l : La) (letters : Int) : La := if ckL l letters = 0 then leastOf l else ⟨[], []⟩
def LePost (w : World) (m : La) (E : Int) (e : Ending) (w' : World) : Prop :=
  ∃ A B ca cb, e = .returned (.tuple #[.agg #[.slice A m.h.length ca, .slice B m.l.length cb], .int .i64 E]) ∧ Ints w' w.heap.size A ca m.h ∧ Ints w' w.heap.size B cb m.l ∧ Below w.heap.size w w'
theorem Rd.take {w : World} {lo : Nat} {A : Option Addr} {xs ys : List Value} (h : Rd w lo A (xs ++ ys)) : Rd w lo A xs := by
  intro hne
  obtain ⟨b, off, hA, h1, h2, hc⟩ := h (by cases xs with | nil => exact absurd rfl hne | cons x r => simp)
  exact ⟨b, off, hA, h1, h2, fun j u hu => hc j u (by rw [List.getElem?_append_left (List.getElem?_eq_some_iff.1 hu).1]; exact hu)⟩
theorem SlE.take {α : Type} {enc : α → List Value} {bt : Nat} {w : World} {lo : Nat} {A : Option Addr} {c : Nat} {xs : List α} (h : SlE enc bt w lo A c xs) (n : Nat) : SlE enc bt w lo A c (xs.take n) := by
  have hl : (xs.take n).length ≤ xs.length := List.length_take_le' _ _
  refine ⟨Nat.le_trans hl h.le, h.cap, Nat.le_trans (Nat.mul_le_mul_right _ hl) h.max, ?_⟩
  have := h.rd
  rw [← List.take_append_drop n xs, List.flatMap_append] at this
  exact this.take
theorem ckL_few {l : La} {letters : Int} (h : ckL l letters = 0) : l.l.length ≠ 0 ∧ l.h.length ≤ 4000 ∧ l.l.length ≤ 4000 := by
  unfold ckL at h
  split at h
  · simp at h
  · split at h
    · simp at h
    · split at h
      · simp at h
      · omega
theorem valsL_head {l : La} {n : Nat} (hn : n ≤ l.l.length) : valsL l.at l.h.length n = l.l.take n := by
  refine List.ext_getElem (by simp [valsL]; omega) fun i h1 h2 => ?_
  have hi : i < n := by simpa [valsL] using h1
  simp only [valsL, List.getElem_map, List.getElem_range, List.getElem_take]
  unfold La.at
  rw [if_neg (by omega), show l.h.length + i - l.h.length = i by omega, Nat.mod_eq_of_lt (by omega), List.getD_eq_getElem?_getD, List.getElem?_eq_getElem (by omega)]
  rfl
theorem valsL_turn {f : Nat → Int} {k n : Nat} (hn : 0 < n) (h : f k = f (k + n)) : f (k + n) :: (valsL f (k + 1) n).take (n - 1) = valsL f k n := by
  refine List.ext_getElem (by simp [valsL]; omega) fun i h1 h2 => ?_
  have hi : i < n := by simpa [valsL] using h2
  cases i with
  | zero => simp [valsL, h]
  | succ i =>
    simp only [valsL, List.getElem_cons_succ, List.getElem_take, List.getElem_map, List.getElem_range]
    congr 1
    omega
theorem lst_first {l : La} {n : Nat} (hp : 0 < l.l.length) (h0 : 0 < n) (hn : n ≤ l.l.length) (h1 : ∀ j, 0 < j → j < n → (decide (l.l.length % j = 0) && turnsV l.l j) = false) (h2 : n < l.l.length → (decide (l.l.length % n = 0) && turnsV l.l n) = true) : leastN l = n := by
  rw [← leastN_prog l hp]
  exact leastN_here _ 1 n (by decide) h0 hn (by omega) (fun j a b => h1 j a b) h2

theorem valsL_take {l : La} {k : Nat} (hk : k ≤ l.h.length) : valsL l.at 0 k = l.h.take k := by
  refine List.ext_getElem (by simp [valsL]; omega) fun i h1 h2 => ?_
  have hi : i < k := by simpa [valsL] using h1
  simp only [valsL, List.getElem_map, List.getElem_range, List.getElem_take, Nat.zero_add]
  unfold La.at
  rw [if_pos (by omega), List.getD_eq_getElem?_getD, List.getElem?_eq_getElem (by omega)]
  rfl
theorem own_one (w : World) (e : TypeId) (v : Value) : (w.alloc (Obj.cells #[v] e)).ownsRow w.heap.size e 1 (.slice (some ⟨w.heap.size, 0, none⟩) 1 1) 1 [v] := by
  refine ⟨rfl, .inr ⟨w.heap.size, 1, #[v], rfl, Nat.le_refl _, ?_, Nat.le_refl _, by simp [maxLen], rfl, rfl⟩⟩
  show (w.heap.push _)[w.heap.size]? = _
  simp
theorem ints_of_own {w : World} {base n c : Nat} {e : TypeId} {xs : List Int} {T : Option Addr} (h : w.ownsRow base e 1 (.slice T n c) n (xs.flatMap fun n : Int => [Value.int .i64 n])) (hl : xs.length = n) (hn : n ≤ 1000000) : Ints w base T c xs := by
  subst hl
  obtain ⟨A, c', he, hi⟩ := SlE.of_own (enc := fun n : Int => [Value.int .i64 n]) (bt := 8) (xs := xs) (v := .slice T xs.length c) h (by omega)
  obtain ⟨rfl, rfl⟩ : T = A ∧ c = c' := by simpa using he
  exact hi
theorem le_end {w W0 w1 wx : World} {V k n c c' : Nat} {l : La} {T T' : Option Addr} (hV : V = w.heap.size) (hb : Below V w W0) (hV2 : V + 1 < W0.heap.size) (h1 : W0.heap.size ≤ w1.heap.size) (hbx : Below W0.heap.size W0 wx)
    (hn : leastN l = n) (hk : downK l.at n l.h.length = k) (hkl : k ≤ l.h.length) (i1 : Ints wx w1.heap.size T c (l.h.take k)) (i2 : Ints wx w1.heap.size T' c' (valsL l.at k n)) :
    LePost w (leastOf l) 0 (.returned (.tuple #[.agg #[.slice T k c, .slice T' n c'], .int .i64 0])) ((wx.setCell ⟨V + 1, 0, none⟩ (.slice T k c)).setCell ⟨V + 1, 1, none⟩ (.slice T' n c')) := by
  have e : leastOf l = ⟨l.h.take k, valsL l.at k n⟩ := by
    unfold leastOf
    rw [hn, hk, ← valsL_take hkl]
    unfold valsL
    simp
  have hl1 : (l.h.take k).length = k := by rw [List.length_take]; omega
  have hl2 : (valsL l.at k n).length = n := by simp [valsL]
  rw [e]
  refine ⟨T, T', c, c', by simp only [hl1, hl2], ?_, ?_, ?_⟩
  · have h2 := i1.kept (Kept.set _ _ _ (p := ⟨V + 1, 0, none⟩) (.slice T k c) (.inl (by show V + 1 < _; omega)))
    exact (h2.kept (Kept.set _ _ _ (p := ⟨V + 1, 1, none⟩) (.slice T' n c') (.inl (by show V + 1 < _; omega)))).low (by omega)
  · have h2 := i2.kept (Kept.set _ _ _ (p := ⟨V + 1, 0, none⟩) (.slice T k c) (.inl (by show V + 1 < _; omega)))
    exact (h2.kept (Kept.set _ _ _ (p := ⟨V + 1, 1, none⟩) (.slice T' n c') (.inl (by show V + 1 < _; omega)))).low (by omega)
  · rw [← hV]
    exact (((hb.trans (hbx.mono (by omega))).setCell (p := ⟨V + 1, 0, none⟩) (by show V ≤ V + 1; omega) _).setCell (p := ⟨V + 1, 1, none⟩) (by show V ≤ V + 1; omega) _)
set_option maxRecDepth 100000 in
set_option maxHeartbeats 2000000 in
theorem Least_ (A B : Option Addr) (ca cb : Nat) (l : La) (letters : Int) (w : World) (hh : Ints w 0 A ca l.h) (hl : Ints w 0 B cb l.l) :
    Calls Try.prog 15 #[.agg #[.slice A l.h.length ca, .slice B l.l.length cb], .int .i64 letters] w (LePost w (lstL l letters) (ckL l letters)) := by
  have HW := Lib.hid (loW_is w A B ca cb l)
  have HH := Lib.hid (hh.below HW.out.below)
  have HL := Lib.hid (hl.below HW.out.below)
  have hcph := hh.le
  have hcpl := hl.le
  have hcqh := hh.cap
  have hcql := hl.cap
  obtain ⟨i0, hi0, hz0, hz1, hz2⟩ := info_parts infoInt
  have HCK := Lib.hid (wordCheck_ A B ca cb l letters (loW w A B ca cb l) HH.out HL.out)
  have HF := Lib.hid (fun h => ckL_few (l := l) (letters := letters) h)
  have HV := Lib.hid (show lstL l letters = if ckL l letters = 0 then leastOf l else ⟨[], []⟩ from rfl)
  generalize lstL l letters = vm at *
  generalize ckL l letters = ck at *
  clear hh hl
  go_enter Try.func15, Try.ntmps15
  go_wp2_with fail
  change Calls _ _ _ (loW w A B ca cb l) _
  generalize loW w A B ca cb l = W0 at *
  refine HCK.out.mono ?_
  rintro e w1 ⟨rfl, hb1⟩
  obtain ⟨V, hV⟩ : ∃ V, V = w.heap.size := ⟨_, rfl⟩
  have HWV : Hid (Below V w W0 ∧ V + 1 < W0.heap.size ∧ W0.cell? ⟨V, 0, none⟩ = some (.slice A l.h.length ca) ∧ W0.cell? ⟨V, 1, none⟩ = some (.slice B l.l.length cb) ∧
      W0.cell? ⟨V + 1, 0, none⟩ = some (.slice none 0 0) ∧ W0.cell? ⟨V + 1, 1, none⟩ = some (.slice none 0 0) ∧ W0.frozen? ⟨V + 1, 0, none⟩ = false ∧ W0.frozen? ⟨V + 1, 1, none⟩ = false) := by
    rw [hV]
    exact ⟨HW.out.below, by have := HW.out.size; omega, HW.out.l0, HW.out.l1, HW.out.r0, HW.out.r1, HW.out.f0, HW.out.f1⟩
  rw [← hV]
  have HVV := Lib.hid hV
  have hV2 := HWV.out.2.1
  have hV1 : V < W0.heap.size := by omega
  clear hV HW HCK
  have HB1 := Lib.hid hb1
  have c0 := (cell_on3 hb1 (b := V) (o := 0) hV1).trans HWV.out.2.2.1
  have c1 := (cell_on3 hb1 (b := V) (o := 1) hV1).trans HWV.out.2.2.2.1
  have g0 := (cell_on3 hb1 (b := V + 1) (o := 0) hV2).trans HWV.out.2.2.2.2.1
  have g1 := (cell_on3 hb1 (b := V + 1) (o := 1) hV2).trans HWV.out.2.2.2.2.2.1
  have z0 := (hb1.frozen (p := ⟨V + 1, 0, none⟩) hV2).trans HWV.out.2.2.2.2.2.2.1
  have z1 := (hb1.frozen (p := ⟨V + 1, 1, none⟩) hV2).trans HWV.out.2.2.2.2.2.2.2
  clear hb1
  by_cases hc : ck = 0
  · subst hc
    have hV3 := HV.out
    rw [if_pos rfl] at hV3
    subst hV3
    have hne := (HF.out rfl).1
    have h4 := (HF.out rfl).2.1
    have h5 := (HF.out rfl).2.2
    have hp : 0 < l.l.length := by omega
    clear HV HF g0 g1 z0 z1 hne
    go_wp2_with fail
    refine (CloneI_ B cb l.l w1 (HL.out.below HB1.out)).mono ?_
    rintro e w2 ⟨C, cc, rfl, hC, hb2⟩
    have HC := Lib.hid hC
    have HB2 : Hid (Below W0.heap.size W0 w2) := Below_on HB1.out hb2 HB1.out.size
    have hcc := hC.le
    have hcc2 := hC.cap
    have hw12 : w1.heap.size ≤ w2.heap.size := hb2.size
    clear hb2 hC c0 c1
    go_upto_block 0 with fail
    go_cut [7] (fun s wx => ∃ (n : Nat) (c' : Nat), 0 < n ∧ n ≤ l.l.length ∧ s = .slice C n c' ∧ Below W0.heap.size W0 wx ∧ w1.heap.size ≤ wx.heap.size ∧ Hid (leastN l = n ∧ Ints wx w1.heap.size C c' (l.l.take n)))
    case first =>
      go_wp2_with fail
      go_loopw [7, 8] (fun s7 s wr => ∃ k : Nat, 0 < k ∧ k ≤ l.l.length ∧ s7 = .slice C l.l.length cc ∧ s = .int .i64 k ∧ Below w2.heap.size w2 wr ∧ Hid (∀ j, 0 < j → j < k → (decide (l.l.length % j = 0) && turnsV l.l j) = false)) (fun _ s _ => l.l.length - (intOf s).toNat)
      case atStart => exact ⟨1, by omega, by omega, rfl, rfl, Below.refl _ _, fun j a b => absurd b (by omega)⟩
      case round =>
        obtain ⟨k, hk0, hk, rfl, rfl, hb, HJ⟩ := hrel
        have HB3 := Lib.hid hb
        have HC3 := Lib.hid (HC.out.below hb)
        have HT := Lib.hid (turns_ C cc l.l k wr (HC3.out.low (Nat.zero_le _)) (by omega) (by omega))
        clear hb
        by_cases hkl : k < l.l.length
        · by_cases hm : l.l.length % k = 0
          · have hmm : ((l.l.length : Int) % (k : Int) == 0) = true := by
              have : ((l.l.length : Int) % (k : Int)) = ((l.l.length % k : Nat) : Int) := by simp
              rw [this, hm]; rfl
            have HM := Lib.hid hm
            clear hm
            cases ht : turnsV l.l k with
            | true =>
              have HT2 := HT
              rw [ht] at HT2
              have HLN : Hid (leastN l = k) := lst_first hp hk0 hk HJ.out (fun _ => by rw [ht, decide_eq_true HM.out]; rfl)
              clear ht HT
              go_wp2_with (go_at_call 42; refine HT2.out.mono ?_; rintro e w4 ⟨rfl, hb4⟩; have HB4 := Lib.hid hb4; clear hb4)
              go_meet
              have hl : (l.l.take k).length = k := by rw [List.length_take]; omega
              exact ⟨k, cc, hk0, hk, rfl, Below_on (Below_on HB2.out HB3.out HB2.out.size) HB4.out (by have := HB2.out.size; have := HB3.out.size; omega), by have := HB3.out.size; have := HB4.out.size; omega, HLN.out, (HC3.out.below HB4.out).take k⟩
            | false =>
              have HT2 := HT
              rw [ht] at HT2
              have HN : Hid (∀ j, 0 < j → j < k + 1 → (decide (l.l.length % j = 0) && turnsV l.l j) = false) := by
                intro j a b
                rcases Nat.lt_or_ge j k with h | h
                · exact HJ.out j a h
                · obtain rfl : j = k := by omega
                  rw [ht, Bool.and_false]
              clear ht HT
              go_wp2_with (go_at_call 42; refine HT2.out.mono ?_; rintro e w4 ⟨rfl, hb4⟩; have HB4 := Lib.hid hb4; clear hb4)
              go_roundw
              case rel => exact ⟨k + 1, by omega, by omega, rfl, by go_num, Below_on HB3.out HB4.out HB3.out.size, HN⟩
              case measure => simp [intOf]; omega
          · have hmm : ((l.l.length : Int) % (k : Int) == 0) = false := by
              have : ((l.l.length : Int) % (k : Int)) = ((l.l.length % k : Nat) : Int) := by simp
              rw [this]
              simp only [beq_eq_false_iff_ne, ne_eq]
              omega
            have HN : Hid (∀ j, 0 < j → j < k + 1 → (decide (l.l.length % j = 0) && turnsV l.l j) = false) := by
              intro j a b
              rcases Nat.lt_or_ge j k with h | h
              · exact HJ.out j a h
              · obtain rfl : j = k := by omega
                rw [decide_eq_false hm]; rfl
            clear hm HT
            go_wp2_with fail
            go_roundw
            case rel => exact ⟨k + 1, by omega, by omega, rfl, by go_num, HB3.out, HN⟩
            case measure => simp [intOf]; omega
        · have HLN : Hid (leastN l = k) := lst_first hp hk0 hk HJ.out (fun h => absurd h hkl)
          obtain rfl : k = l.l.length := by omega
          clear HT
          go_wp2_with fail
          go_meet
          exact ⟨l.l.length, cc, hp, Nat.le_refl _, rfl, Below_on HB2.out HB3.out HB2.out.size, by have := HB3.out.size; omega, HLN.out, by rw [List.take_of_length_le (Nat.le_refl _)]; exact HC3.out⟩
    case rest =>
      obtain ⟨n, c', hn0, hn, rfl, hb3, hw13, HN⟩ := hcut
      obtain ⟨w3, rfl⟩ : ∃ w3 : World, w3 = wc := ⟨_, rfl⟩
      have HB3 := Lib.hid hb3
      have c0 := (cell_on3 hb3 (b := V) (o := 0) hV1).trans HWV.out.2.2.1
      have c1 := (cell_on3 hb3 (b := V) (o := 1) hV1).trans HWV.out.2.2.2.1
      clear hb3
      go_wp2_with fail
      refine (CloneI_ A ca l.h w3 (HH.out.below HB3.out)).mono ?_
      rintro e w4 ⟨D, cd, rfl, hD, hb4⟩
      have HD := Lib.hid hD
      have HB4 : Hid (Below W0.heap.size W0 w4) := Below_on HB3.out hb4 HB3.out.size
      have HC4 : Hid (Ints w4 w1.heap.size C c' (valsL l.at l.h.length n)) := by
        show Ints _ _ _ _ _
        rw [valsL_head hn]
        exact HN.out.2.below hb4
      have HLN : Hid (leastN l = n) := HN.out.1
      have hw14 : w1.heap.size ≤ w4.heap.size := Nat.le_trans hw13 hb4.size
      have hw03 : W0.heap.size ≤ w3.heap.size := HB3.out.size
      clear hD hb4 c0 c1 HN
      go_upto_block 2 with fail
      go_cut [7, 9] (fun s7 s9 wx => ∃ (k : Nat) (C' : Option Addr) (c' : Nat), k ≤ l.h.length ∧ s7 = .slice C' n c' ∧ s9 = .slice D k cd ∧ Below W0.heap.size W0 wx ∧ Hid (downK l.at n l.h.length = k ∧ Ints wx w1.heap.size D cd (l.h.take k) ∧ Ints wx w1.heap.size C' c' (valsL l.at k n)))
      case first =>
        go_wp2_with fail
        go_loopw [7, 9] (fun s7 s9 wr => ∃ (k : Nat) (C' : Option Addr) (c' : Nat), k ≤ l.h.length ∧ s7 = .slice C' n c' ∧ s9 = .slice D k cd ∧ Below W0.heap.size W0 wr ∧ Hid (downK l.at n k = downK l.at n l.h.length ∧ w1.heap.size ≤ wr.heap.size ∧ Ints wr w1.heap.size D cd (l.h.take k) ∧ Ints wr w1.heap.size C' c' (valsL l.at k n))) (fun _ s _ => lenOf s)
        case atStart => exact ⟨l.h.length, C, c', Nat.le_refl _, rfl, rfl, HB4.out, rfl, hw14, by rw [List.take_of_length_le (Nat.le_refl _)]; exact HD.out.low (by omega), HC4.out⟩
        case round =>
          obtain ⟨k, C', c5, hk, rfl, rfl, hb5, HK⟩ := hrel
          have HB5 := Lib.hid hb5
          have hk4 : k ≤ 4000 := by omega
          have hn4 : n ≤ 4000 := by omega
          clear hb5 HC4 HD HB4
          by_cases hk0 : 0 < k
          · have hlk : (l.h.take k).length = k := by rw [List.length_take]; omega
            have hln : (valsL l.at k n).length = n := by simp [valsL]
            obtain ⟨b1, o1, hD1, _, _, q1⟩ := Ints.at_ HK.out.2.2.1 (k := k - 1) (by omega)
            obtain ⟨b2, o2, hC1, _, _, q2⟩ := Ints.at_ HK.out.2.2.2 (k := n - 1) (by omega)
            obtain ⟨x, hx⟩ : ∃ x, x = l.at (k - 1) := ⟨_, rfl⟩
            obtain ⟨y, hy⟩ : ∃ y, y = l.at (k - 1 + n) := ⟨_, rfl⟩
            have e1 : (l.h.take k)[k - 1]'(by omega) = x := by
              rw [hx, List.getElem_take]
              unfold La.at
              rw [if_pos (by omega), List.getD_eq_getElem?_getD, List.getElem?_eq_getElem (by omega)]
              rfl
            have e2 : (valsL l.at k n)[n - 1]'(by omega) = y := by
              rw [hy]
              simp only [valsL, List.getElem_map, List.getElem_range]
              congr 1
              omega
            rw [e1] at q1
            rw [e2] at q2
            have HX := Lib.hid hx
            have HY := Lib.hid hy
            have hl5 : n ≤ c5 := by have := HK.out.2.2.2.le; omega
            have hc5 := HK.out.2.2.2.cap
            have hld : k ≤ cd := by have := HK.out.2.2.1.le; omega
            have hcd := HK.out.2.2.1.cap
            have HD1 := Lib.hid hD1
            have HC1 := Lib.hid hC1
            clear hx hy e1 e2 hlk hln hD1 hC1
            subst HD1 HC1
            go_wp2_with fail
            go_quiet (fail)
            have HB6 : Hid (Below W0.heap.size W0 (wr.drewN nq)) := below_drewN HB5.out nq
            have HK6 : Hid (w1.heap.size ≤ (wr.drewN nq).heap.size ∧ Ints (wr.drewN nq) w1.heap.size (some ⟨b1, o1, none⟩) cd (l.h.take k) ∧ Ints (wr.drewN nq) w1.heap.size (some ⟨b2, o2, none⟩) c5 (valsL l.at k n)) :=
              ⟨HK.out.2.1, HK.out.2.2.1.below (below_drewN (Below.refl _ wr) nq), HK.out.2.2.2.below (below_drewN (Below.refl _ wr) nq)⟩
            have HKD : Hid (downK l.at n k = downK l.at n l.h.length) := HK.out.1
            have q3 : (wr.drewN nq).cell? ⟨b2, o2 + (n - 1), none⟩ = some (.int .i64 y) := q2
            clear q1 q2 HK HB5
            generalize wr.drewN nq = w6 at *
            by_cases hxy : x = y
            · have hxy1 : (x == y) = true := by simpa using hxy
              have HXY := Lib.hid hxy
              have HO6 := Lib.hid (own_one w6 3 (.int .i64 y))
              have HS6 : Hid (Rd (w6.alloc (Obj.cells #[.int .i64 y] 3)) 0 (some ⟨b2, o2, none⟩) (((valsL l.at k n).take (n - 1)).flatMap fun n : Int => [Value.int .i64 n])) :=
                ((HK6.out.2.2.take (n - 1)).rd.below ((Below.refl _ _).alloc (Nat.le_refl _) _) (Nat.le_refl _)).low (Nat.zero_le _)
              have HL6 : Hid ((((valsL l.at k n).take (n - 1)).flatMap fun n : Int => [Value.int .i64 n]).length = (n - 1) * 1) := by
                show _ = _
                rw [flatMap_len (sz := 1) (fun _ => rfl)]
                simp [valsL]
              have HN6 : Hid (1 + (n - 1) = n) := by show _ = _; omega
              have m1 : 1 + (n - 1) ≤ maxLen := by simp only [maxLen]; omega
              have m2 : (1 + (n - 1)) * 8 ≤ 140737488355328 := by omega
              have hbase6 : w6.heap.size ≤ (w6.alloc (Obj.cells #[.int .i64 y] 3)).heap.size := by simp
              clear hxy
              go_wp2_with fail
              have y4 : ((n : Int) - 1).toNat = n - 1 := by omega
              have y1 : IntKind.i64.wrap ((n : Int) - 1) = (n : Int) - 1 := IntWalk.i64_in _ (by omega)
              have y2 : (1 : Int) ≤ (n : Int) := by omega
              have y3 : (n : Int) - 1 < (n : Int) := by omega
              have y5 : (n : Int) - 1 ≤ (c5 : Int) := by omega
              go_region_law ((refine step_app _ rfl (.tmp 71) (.tmp 76) _ rfl w6.heap.size 3 i0 _ 1 8 Try.underlying24 hi0 hz0 hz1 hz2 rfl (by decide) (.slice (some ⟨w6.heap.size, 0, none⟩) 1 1) 1 [.int .i64 y] (by go_simp) HO6.out (some ⟨b2, o2, none⟩) (n - 1) c5 _ (by go_simp) HL6.out HS6.out (ints_oneCell _) m1 m2 hbase6 ?_; intro v9 w9 hown9 hg9 hat9; rw [HN6.out] at hown9; obtain ⟨A9, c9, hv9, _⟩ := own_form hown9; subst hv9))
              all_goals
                clear y1 y2 y3 y4 y5
                have hbb : Below w6.heap.size w6 w9 := grownOwn_ ((Below.refl _ w6).alloc (Nat.le_refl _) _).drew hg9 HO6.out (Nat.le_refl _) hbase6
                have HR9 : Hid (Below W0.heap.size W0 w9 ∧ downK l.at n (k - 1) = downK l.at n l.h.length ∧ w1.heap.size ≤ w9.heap.size ∧ Ints w9 w1.heap.size (some ⟨b1, o1, none⟩) cd (l.h.take (k - 1)) ∧ Ints w9 w1.heap.size A9 c9 (valsL l.at (k - 1) n)) := by
                  have hxy2 : l.at (k - 1) = l.at (k - 1 + n) := by rw [← HX.out, ← HY.out]; exact HXY.out
                  refine ⟨Below_on HB6.out hbb HB6.out.size, ?_, Nat.le_trans HK6.out.1 hbb.size, ?_, ?_⟩
                  · rw [← HKD.out]
                    obtain ⟨m, rfl⟩ : ∃ m, k = m + 1 := ⟨k - 1, by omega⟩
                    rw [Nat.add_sub_cancel] at hxy2 ⊢
                    conv => rhs; unfold downK
                    rw [if_pos hxy2]
                  · have := (HK6.out.2.1.below hbb).take (k - 1)
                    rwa [List.take_take, Nat.min_eq_left (by omega)] at this
                  · refine (ints_of_own (n := n) (xs := valsL l.at (k - 1) n) (e := 3) ?_ (by simp [valsL]) (by omega)).low HK6.out.1
                    have := valsL_turn (f := l.at) (k := k - 1) hn0 hxy2
                    rw [show k - 1 + 1 = k by omega, ← HY.out] at this
                    rw [← this]
                    exact hown9
                clear hown9 hg9 hat9 hbb
                go_simp
                go_wp2_with fail
                go_roundw
                case rel => exact ⟨k - 1, A9, c9, by omega, rfl, rfl, HR9.out.1, HR9.out.2⟩
                case measure => simp [lenOf]; omega
            · have hxy1 : (x == y) = false := by simpa using hxy
              have HKF : Hid (downK l.at n l.h.length = k) := by
                show _ = _
                rw [← HKD.out]
                obtain ⟨m, rfl⟩ : ∃ m, k = m + 1 := ⟨k - 1, by omega⟩
                have h1 := HX.out
                have h2 := HY.out
                rw [Nat.add_sub_cancel] at h1 h2
                unfold downK
                rw [if_neg (by rw [← h1, ← h2]; exact hxy)]
              clear hxy
              go_wp2_with fail
              go_meet
              exact ⟨k, _, c5, hk, rfl, rfl, HB6.out, HKF.out, HK6.out.2.1, HK6.out.2.2⟩
          · have hk00 : k = 0 := by omega
            have HKF : Hid (downK l.at n l.h.length = k) := by
              show _ = _
              rw [← HK.out.1, hk00]
              rfl
            have hk02 : decide (0 < k) = false := decide_eq_false hk0
            clear hk00
            go_wp2_with fail
            go_quiet (fail)
            have HB6 : Hid (Below W0.heap.size W0 (wr.drewN nq)) := below_drewN HB5.out nq
            have HK6 : Hid (Ints (wr.drewN nq) w1.heap.size D cd (l.h.take k) ∧ Ints (wr.drewN nq) w1.heap.size C' c5 (valsL l.at k n)) :=
              ⟨HK.out.2.2.1.below (below_drewN (Below.refl _ wr) nq), HK.out.2.2.2.below (below_drewN (Below.refl _ wr) nq)⟩
            clear HK HB5
            generalize wr.drewN nq = w6 at *
            go_wp2_with fail
            go_meet
            exact ⟨k, _, c5, hk, rfl, rfl, HB6.out, HKF.out, HK6.out.1, HK6.out.2⟩
      case rest =>
        obtain ⟨k, C', c5, hk, rfl, rfl, hb6, HK⟩ := hcut
        have g0 := (cell_on3 hb6 (b := V + 1) (o := 0) hV2).trans HWV.out.2.2.2.2.1
        have g1 := (cell_on3 hb6 (b := V + 1) (o := 1) hV2).trans HWV.out.2.2.2.2.2.1
        have z0 := (hb6.frozen (p := ⟨V + 1, 0, none⟩) hV2).trans HWV.out.2.2.2.2.2.2.1
        have z1 := (hb6.frozen (p := ⟨V + 1, 1, none⟩) hV2).trans HWV.out.2.2.2.2.2.2.2
        have HEND := Lib.hid (le_end HVV.out HWV.out.1 hV2 HB1.out.size hb6 HLN.out HK.out.1 hk HK.out.2.1 HK.out.2.2)
        have HCC := Lib.hid (lo_cells (u := .slice D k cd) (v := .slice C' n c5) g0 g1)
        clear hb6
        go_wp2_with fail
        have r0 := HCC.out.1
        have r1 := HCC.out.2
        exact bodyPost_ret (v := .tuple #[.agg #[.slice D k cd, .slice C' n c5], .int .i64 0]) (by simp [results, Try.results15, go_sem, r0, r1]) rfl HEND.out
  · have hV3 := HV.out
    rw [if_neg hc] at hV3
    subst hV3
    have hc2 : (ck != 0) = true := by simpa using hc
    have HCC := Lib.hid (lo_cells (u := .slice none 0 0) (v := .slice none 0 0) g0 g1)
    have HEND : Hid (LePost w ⟨[], []⟩ ck (.returned (.tuple #[.agg #[.slice none 0 0, .slice none 0 0], .int .i64 ck])) ((w1.setCell ⟨V + 1, 0, none⟩ (.slice none 0 0)).setCell ⟨V + 1, 1, none⟩ (.slice none 0 0))) := by
      refine ⟨none, none, 0, 0, rfl, ⟨Nat.le_refl _, by omega, by simp, Rd.nil⟩, ⟨Nat.le_refl _, by omega, by simp, Rd.nil⟩, ?_⟩
      rw [← HVV.out]
      exact (((HWV.out.1.trans (HB1.out.mono (by omega))).setCell (p := ⟨V + 1, 0, none⟩) (by show V ≤ V + 1; omega) _).setCell (p := ⟨V + 1, 1, none⟩) (by show V ≤ V + 1; omega) _)
    clear hc c0 c1
    go_wp2_with fail
    have r0 := HCC.out.1
    have r1 := HCC.out.2
    exact bodyPost_ret (v := .tuple #[.agg #[.slice none 0 0, .slice none 0 0], .int .i64 ck]) (by simp [results, Try.results15, go_sem, r0, r1]) rfl HEND.out
end Go.Proofs.Ytoglgeaiiipchaa
