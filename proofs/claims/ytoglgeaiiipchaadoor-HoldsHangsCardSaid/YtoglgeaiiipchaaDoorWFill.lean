/- Walk: holds: fill. -/
import Derived.Test.YtoglgeaiiipchaaDoorWH
import Derived.Test.YtoglgeaiiipchaaDoorBR
namespace Go.Proofs.YtoglgeaiiipchaaDoor
open Go Go.RowKit Go.Shelf

def chOf : Value → Nat | .bool true => 1 | _ => 0
theorem rowCnt_eqS {s : Bool} {g : Nat} {w : World} {xs : List Bool} (h : BRow w g xs) : rowCnt s g w = cntS s xs := rowCnt_eq h
/-- what fill leaves: a row of its own in which nothing changes any more -/
def FillPost (w : World) (n h : Nat) (D : Nat → Bool → Bool) (s : Bool) (e : Ending) (w' : World) : Prop :=
  ∃ g out, e = .returned (.slice (some ⟨g, 0, none⟩) n n) ∧ w.heap.size ≤ g ∧ BRow w' g out ∧ FillGood n h D s out ∧ Fixed n h D s out ∧ Below w.heap.size w w'

set_option maxRecDepth 100000 in
set_option maxHeartbeats 1000000 in
theorem fill_ (R : Nat) (A : Option Addr) (c n h : Nat) (s : Bool) (g0 : FuncId) (caps : Array Value) (D : Nat → Bool → Bool) (w : World)
    (hr : RdrAt w R A n c h) (hn0 : h < n) (hn : n ≤ 1000000) (hg : Enters Tryd.prog g0) (hd : DoV Tryd.prog g0 caps n D w) (hm : ∀ i, i < n → D i s = (!s) → D i (!s) = (!s)) :
    Calls Tryd.prog 47 #[.pointer (some ⟨R, 0, none⟩), .bool s, .func (.func g0) #[] caps] w (FillPost w n h D s) := by
  have hgr : ∀ (args : Array Value) (w : World), (callFunc g0 args).run Tryd.prog w = .ok (.enter g0 args) w := hg
  have HD := Lib.hid hd
  have HM := Lib.hid hm
  have HR := Lib.hid hr
  clear hg hd hm
  obtain ⟨r1, r2, r3⟩ := hr
  go_enter Tryd.func47, Tryd.ntmps47
  go_wp2_with fail
  refine (RepeatB_ s w.heap.size 0 1 n _ (by go_simp) (by simp) (by omega) hn).mono ?_
  rintro e w1 ⟨g, rfl, hg1, hrow1, hb1⟩
  have hgg : w.heap.size + 1 ≤ g := by simpa using hg1
  have HB1 := Lib.hid (Below_on ((Below.refl w.heap.size w).alloc (Nat.le_refl _) (Obj.cells #[Value.bool s] 4)) hb1 (by simp))
  have HROW : Hid (BRow w1 g (List.replicate n s)) := by
    show w1.heap[g]? = _
    rw [hrow1]
    simp
  clear hrow1 hb1 hg1 r1 r2
  go_wp2
  go_loopw [8] (fun ch wr => ∃ (b : Bool) (out : List Bool), ch = .bool b ∧ BRow wr g out ∧ FillGood n h D s out ∧ (b = false → Fixed n h D s out) ∧ Below w.heap.size w wr) (fun ch wr => rowCnt s g wr + chOf ch)
  case atStart => exact ⟨true, _, rfl, HROW.out, FillGood.start n h D s hn0, by simp, HB1.out⟩
  case round =>
    obtain ⟨b, out, rfl, hrow, hgood, hfix, hb⟩ := hrel
    have HFX := Lib.hid hfix
    have HG := Lib.hid hgood
    have HRW := Lib.hid hrow
    clear hfix hgood hrow
    cases b with
    | false =>
      go_wp2
      go_ret
      exact ⟨g, out, rfl, by omega, HRW.out, HG.out, by have := HFX.out; simpa using this, hb⟩
    | true =>
      have HRR := Lib.hid (HR.out.below hb r3)
      have q1 := HRR.out.1
      go_wp2
      obtain ⟨wo, rfl⟩ : ∃ wo : World, wo = wr := ⟨_, rfl⟩
      go_loopw [8, 9] (fun ch i wr => ∃ (b : Bool) (j : Nat) (o2 : List Bool), ch = .bool b ∧ i = .int .i64 ((j : Int) - 1) ∧ j ≤ n ∧ BRow wr g o2 ∧ FillGood n h D s o2 ∧ (b = false → o2 = out ∧ ∀ i, j ≤ i → i < n → D i (out.getD (nx n h i) s) = out.getD i s) ∧ (b = true → cntS s o2 < cntS s out) ∧ cntS s o2 ≤ cntS s out ∧ Below w.heap.size w wr) (fun _ i _ => (intOf i + 1).toNat)
      case atStart => exact ⟨false, n, out, rfl, by go_num, Nat.le_refl _, HRW.out, HG.out, fun _ => ⟨rfl, fun i h1 h2 => absurd h1 (by omega)⟩, by simp, Nat.le_refl _, hb⟩
      case round =>
        obtain ⟨b2, j, o2, rfl, rfl, hj, hrow2, hgood2, hk1, hk2, hk3, hb2⟩ := hrel
        have HRW2 := Lib.hid hrow2
        have HG2 := Lib.hid hgood2
        have HK1 := Lib.hid hk1
        have HK2 := Lib.hid hk2
        clear hrow2 hgood2 hk1 hk2 q1
        have HRR2 := Lib.hid (HR.out.below hb2 r3)
        cases j with
        | zero =>
          go_wp2
          refine ⟨⟨b2, o2, rfl, HRW2.out, HG2.out, fun hb0 => ?_, hb2⟩, ?_⟩
          · obtain ⟨rfl, h2⟩ := HK1.out hb0
            exact fun i hi => h2 i (Nat.zero_le _) hi
          · rw [rowCnt_eqS HRW2.out, rowCnt_eqS HRW.out]
            cases b2 with
            | false => simp only [chOf]; omega
            | true => have := HK2.out rfl; simp only [chOf]; omega
        | succ j =>
          have hol : o2.length = n := HG2.out.len
          have hq : nx n h j < n := nx_lt (by omega) hn0
          have c1 := (HRW2.out.getD_ (i := nx n h j) (by omega) s).1
          obtain ⟨bq, hbq⟩ : ∃ b, b = o2.getD (nx n h j) s := ⟨_, rfl⟩
          obtain ⟨bj, hbj⟩ : ∃ b, b = o2.getD j s := ⟨_, rfl⟩
          rw [← hbq] at c1
          have HBQ := Lib.hid hbq
          have HBJ := Lib.hid hbj
          have HOL := Lib.hid hol
          have HQ := Lib.hid hq
          clear hol hq hbq hbj
          go_wp2_with fail
          refine (hnext_ R A n c h j wr HRR2.out (by omega) hn).mono ?_
          rintro e w2 ⟨rfl, hww⟩
          subst hww
          have hq := HQ.out
          go_wp2_with fail
          clear hq c1
          have HDD := Lib.hid (HD.out.below (Below_on HB1.out (Below.refl _ _) (Nat.le_refl _)))
          refine (HD.out j bq w2 (by omega) hb2).mono ?_
          rintro e w3 ⟨rfl, hb3⟩
          have HB3 := Lib.hid (Below_on hb2 hb3 hb2.size)
          have HRW3 := Lib.hid (HRW2.out.below hb3 HRW2.out.lt)
          have hglt := HRW3.out.lt
          obtain ⟨c2, c3⟩ := HRW3.out.getD_ (i := j) (by rw [HOL.out]; omega) s
          rw [← HBJ.out] at c2
          clear hb2 hb3 HDD
          obtain ⟨v, hv⟩ : ∃ v, v = D j bq := ⟨_, rfl⟩
          rw [← hv]
          have HV := Lib.hid hv
          clear hv
          have hjn : j < n := by omega
          by_cases hne : v = bj
          · have hne' : (v == bj) = true := by simp [hne]
            have HNE := Lib.hid hne
            clear hne
            go_wp2
            go_roundw
            case rel =>
              refine ⟨b2, j, o2, rfl, by go_num, by omega, HRW3.out, HG2.out, fun hb0 => ?_, HK2.out, hk3, HB3.out⟩
              obtain ⟨rfl, h2⟩ := HK1.out hb0
              refine ⟨rfl, fun i h1 h3 => ?_⟩
              rcases Nat.lt_or_ge i (j + 1) with h4 | h4
              · obtain rfl : i = j := by omega
                rw [← HBQ.out, ← HV.out, ← HBJ.out]
                exact HNE.out
              · exact h2 i h4 h3
            case measure => simp [intOf]
          · have hne' : (v == bj) = false := by simpa using hne
            have hst := HG2.out.step hn0 HM.out hjn (by rw [← HBQ.out, ← HV.out, ← HBJ.out]; exact hne)
            rw [← HBQ.out, ← HV.out, ← HBJ.out] at hst
            have HST := Lib.hid hst
            have HCN := Lib.hid (cntS_set (s := s) (out := o2) (i := j) (by rw [HOL.out]; exact hjn) (by rw [← HBJ.out]; exact hst.2.2))
            clear hst hne
            go_wp2
            go_roundw
            case rel =>
              have hc := HCN.out
              have hs := HST.out
              rw [← hs.2.1] at hc
              refine ⟨true, j, o2.set j v, rfl, by go_num, by omega, HRW3.out.set_ j v, hs.1, by simp, fun _ => by omega, by omega, HB3.out.setCell (p := ⟨g, j, none⟩) (by simp; omega) _⟩
            case measure => simp [intOf]
end Go.Proofs.YtoglgeaiiipchaaDoor
