/- Walks: Parse, the reference's ReadFormula and NegateOf. -/
import Derived.Test.YtoglgeaiiipchaaDoorWPr
import Derived.Test.YtoglgeaiiipchaaDoorWNT
namespace Go.Proofs.YtoglgeaiiipchaaDoor
open Go Go.RowKit Go.Sort

def readV (s : List UInt8) : List Nd × Int × Int :=
  if 2000 < s.length then ([], 0, 2)
  else if (parseV s).2.2 = 0 then (if ckF (parseV s).1 = 0 then ((parseV s).1, 0, 0) else ([], 0, ckF (parseV s).1))
  else ([], (parseV s).2.1, 1)
theorem parseV_cases (s : List UInt8) : ((parseV s).2.2 = 0 ∧ (parseV s).2.1 = 0) ∨ ((parseV s).2.2 = 1 ∧ (parseV s).1 = []) := by
  unfold parseV
  cases prs s (s.length + 1) 0 with
  | error j => exact .inr ⟨rfl, rfl⟩
  | ok q =>
    obtain ⟨t, j⟩ := q
    simp only
    split
    · exact .inr ⟨rfl, rfl⟩
    · exact .inl ⟨rfl, rfl⟩
set_option maxRecDepth 100000 in
theorem Parse_ (s : List UInt8) (S : ByteArray) (hS : S.size = s.length) (hG : ∀ (i : Nat) (h : i < S.size), S[i]'h = chr s i) (w : World) :
    Calls Tryd.prog 15 #[.string S] w (ParsePost w (readV s)) := by
  by_cases hl : 2000 < s.length
  · have HR : Hid (readV s = ([], 0, 2)) := by unfold Hid readV; rw [if_pos hl]
    have hq : (2000 : Int) < (s.length : Int) := by omega
    clear hG
    go_enter Tryd.func15, Tryd.ntmps15
    go_wp2_with fail
    go_ret3
    rw [HR.out]
    exact ⟨none, 0, rfl, Nds.none _ _, Below.refl _ _⟩
  · have hq : ¬ (2000 : Int) < (s.length : Int) := by omega
    have HP := Lib.hid (parse_ s S hS hG (by omega) w)
    have HC := Lib.hid (parseV_cases s)
    have HR : Hid (readV s = if (parseV s).2.2 = 0 then (if ckF (parseV s).1 = 0 then ((parseV s).1, 0, 0) else ([], 0, ckF (parseV s).1)) else ([], (parseV s).2.1, 1)) := by unfold Hid readV; rw [if_neg hl]
    clear hG hl
    generalize parseV s = r at *
    obtain ⟨o, a, b⟩ := r
    go_enter Tryd.func15, Tryd.ntmps15
    go_wp2_with fail
    refine HP.out.mono ?_
    rintro e w1 ⟨A, c, rfl, hn, hb⟩
    have HN := Lib.hid hn
    have HB := Lib.hid hb
    have hle := hn.le
    have hcp := hn.cap
    have HK := Lib.hid (formulaCheck_ A c o w1 hn.zero)
    clear hn hb HP
    simp only at hle hcp ⊢
    rcases HC.out with ⟨hb0, ha0⟩ | ⟨hb1, ho⟩
    · obtain rfl : b = 0 := hb0
      obtain rfl : a = 0 := ha0
      go_wp2_with fail
      refine HK.out.mono ?_
      rintro e w2 ⟨rfl, hb2⟩
      have HB2 := Lib.hid (Below_on HB.out hb2 HB.out.size)
      have HN2 := Lib.hid (HN.out.below hb2)
      clear hb2 HK
      by_cases hc : ckF o = 0
      · have HR2 : Hid (readV s = (o, 0, 0)) := by show _ = _; rw [HR.out]; simp [hc]
        have e2 : (ckF o != 0) = false := by simp [hc]
        clear hc
        go_wp2_with fail
        go_ret3
        rw [HR2.out]
        exact ⟨A, c, rfl, HN2.out, HB2.out⟩
      · have HR2 : Hid (readV s = ([], 0, ckF o)) := by show _ = _; rw [HR.out]; simp [hc]
        have e2 : (ckF o != 0) = true := by simpa using hc
        clear hc
        go_wp2_with fail
        go_ret3
        rw [HR2.out]
        exact ⟨none, 0, rfl, Nds.none _ _, HB2.out⟩
    · obtain rfl : b = 1 := hb1
      obtain rfl : o = [] := ho
      have HR2 : Hid (readV s = ([], a, 1)) := by show _ = _; rw [HR.out]; simp
      go_wp2_with fail
      go_ret3
      rw [HR2.out]
      exact ⟨none, 0, rfl, Nds.none _ _, HB.out⟩
set_option maxRecDepth 100000 in
set_option maxHeartbeats 1000000 in
theorem ReadFormula_ (s : List UInt8) (S : ByteArray) (hS : S.size = s.length) (hG : ∀ (i : Nat) (h : i < S.size), S[i]'h = chr s i) (w : World) :
    Calls Tryd.prog 16 #[.string S] w (ParsePost w (readV s)) := by
  by_cases hl : 2000 < s.length
  · have HR : Hid (readV s = ([], 0, 2)) := by unfold Hid readV; rw [if_pos hl]
    have hq : (2000 : Int) < (s.length : Int) := by omega
    clear hG
    go_enter Tryd.func16, Tryd.ntmps16
    go_wp2_with fail
    go_ret3
    rw [HR.out]
    exact ⟨none, 0, rfl, Nds.none _ _, Below.refl _ _⟩
  · have hq : ¬ (2000 : Int) < (s.length : Int) := by omega
    have HP := Lib.hid (nodeAt_ s (by omega) S hS hG w.heap.size (s.length + 1) 0 [] w (.slice none 0 0) (Nat.zero_le _) (by omega) (Nat.le_refl _) (Nat.le_refl _) (World.ownsRow_nil _ _ _ _))
    have HR : Hid (readV s = if (parseV s).2.2 = 0 then (if ckF (parseV s).1 = 0 then ((parseV s).1, 0, 0) else ([], 0, ckF (parseV s).1)) else ([], (parseV s).2.1, 1)) := by unfold Hid readV; rw [if_neg hl]
    clear hG
    go_enter Tryd.func16, Tryd.ntmps16
    go_wp2_with fail
    refine HP.out.mono ?_
    cases hr : prs s (s.length + 1) 0 with
    | error j =>
      have HR2 : Hid (readV s = ([], (j : Int), 1)) := by
        show _ = _
        rw [HR.out]
        unfold parseV
        rw [hr]
        rfl
      rintro e w1 ⟨rfl, hg⟩
      have HB : Hid (Below w.heap.size w w1) := (Below.refl _ _).grown hg (Nat.le_refl _) (fun k hk => by simp [Value.ownBlock] at hk)
      clear hg HP
      go_wp2_with fail
      go_ret3
      rw [HR2.out]
      exact ⟨none, 0, rfl, Nds.none _ _, HB.out⟩
    | ok q =>
      obtain ⟨t, j⟩ := q
      obtain ⟨p2, p6⟩ : j ≤ s.length ∧ (t.flat []).length ≤ 100000 := by
        obtain ⟨p1, _, _, p2⟩ := prs_ok _ _ hr
        have p3 := size_show t
        have p4 := t.flat_len []
        simp at p4
        omega
      rintro e w1 ⟨v, rfl, hown⟩
      obtain ⟨A, c, rfl, hn⟩ := hown.form (by omega)
      have HB : Hid (Below w.heap.size w w1) := (Below.refl _ _).grown hown.gr (Nat.le_refl _) (fun k hk => by simp [Value.ownBlock] at hk)
      have HN := Lib.hid hn
      have hle := hn.le
      have hcp := hn.cap
      have HK := Lib.hid (CheckFormula_ A c (t.flat []) w1 hn.zero)
      clear hown hn HP
      by_cases hj : j < s.length
      · have HR2 : Hid (readV s = ([], (j : Int), 1)) := by
          show _ = _
          rw [HR.out]
          unfold parseV
          rw [hr]
          simp [hj]
        have hq1 : (j : Int) < (s.length : Int) := by omega
        have hq2 : decide ((j : Int) < (s.length : Int)) = true := by simp; omega
        clear hj
        go_wp2_with fail
        go_ret3
        rw [HR2.out]
        exact ⟨none, 0, rfl, Nds.none _ _, HB.out⟩
      · have HR2 : Hid (readV s = if ckF (t.flat []) = 0 then (t.flat [], 0, 0) else ([], 0, ckF (t.flat []))) := by
          show _ = _
          rw [HR.out]
          unfold parseV
          rw [hr]
          simp [hj]
        have hq2 : decide ((j : Int) < (s.length : Int)) = false := by simp; omega
        have hq3 : decide (j < s.length) = false := by simp; omega
        clear hj
        generalize t.flat [] = o at *
        go_wp2_with fail
        refine HK.out.mono ?_
        rintro e w2 ⟨rfl, hb2⟩
        have HB2 := Lib.hid (Below_on HB.out hb2 HB.out.size)
        have HN2 := Lib.hid (HN.out.below hb2)
        clear hb2 HK
        by_cases hc : ckF o = 0
        · have HR3 : Hid (readV s = (o, 0, 0)) := by show _ = _; rw [HR2.out, if_pos hc]
          have e2 : (ckF o != 0) = false := by simp [hc]
          go_wp2_with fail
          go_ret3
          rw [HR3.out]
          exact ⟨A, c, rfl, HN2.out, HB2.out⟩
        · have HR3 : Hid (readV s = ([], 0, ckF o)) := by show _ = _; rw [HR2.out, if_neg hc]
          have e2 : (ckF o != 0) = true := by simpa using hc
          clear hc
          go_wp2_with fail
          go_ret3
          rw [HR3.out]
          exact ⟨none, 0, rfl, Nds.none _ _, HB2.out⟩
end Go.Proofs.YtoglgeaiiipchaaDoor
