/- Walk: the law HoldsTells. -/
import Derived.Test.YtoglgeaiiipchaaWHB
import Derived.Test.YtoglgeaiiipchaaWF
import Derived.Test.YtoglgeaiiipchaaWCL
namespace Go.Proofs.Ytoglgeaiiipchaa
open Go Go.RowKit Go.Shelf

def TruePost (w : World) (e : Ending) (w' : World) : Prop := e = .returned (.bool true) ∧ Below w.heap.size w w'

set_option maxRecDepth 100000 in
set_option maxHeartbeats 2000000 in
theorem HoldsTells_ (F : Option Addr) (fc : Nat) (f : List Nd) (A B : Option Addr) (ca cb : Nat) (l : La) (w : World) (hf : Nds w 0 F fc f) (hh : Ints w 0 A ca l.h) (hl : Ints w 0 B cb l.l) :
    Calls Try.prog 3 #[.slice F f.length fc, .agg #[.slice A l.h.length ca, .slice B l.l.length cb]] w (TruePost w) := by
  have hcp := hf.cap
  have hle := hf.le
  have HW := Lib.hid (oftW_is w A B ca cb l)
  have HF0 := Lib.hid (hf.below HW.out.below)
  have HH0 := Lib.hid (hh.below HW.out.below)
  have HL0 := Lib.hid (hl.below HW.out.below)
  clear hf hh hl
  go_enter Try.func3, Try.ntmps3
  go_wp2_with fail
  change Calls _ _ _ (oftW w A B ca cb l) _
  generalize oftW w A B ca cb l = W0 at *
  obtain ⟨V, hV⟩ : ∃ V, V = w.heap.size := ⟨_, rfl⟩
  have HWV : Hid (Below V w W0 ∧ V < W0.heap.size ∧ W0.cell? ⟨V, 0, none⟩ = some (.slice A l.h.length ca) ∧ W0.cell? ⟨V, 1, none⟩ = some (.slice B l.l.length cb)) := by
    rw [hV]
    exact ⟨HW.out.below, HW.out.size, HW.out.l0, HW.out.l1⟩
  rw [← hV]
  have HV := Lib.hid hV
  clear hV
  have hVs := HWV.out.2.1
  have c0 := HWV.out.2.2.1
  have c1 := HWV.out.2.2.2
  refine (Table_ F fc f A B ca cb l W0 HF0.out HH0.out HL0.out).mono ?_
  rintro e w1 ⟨hb1, hp⟩
  have HB1 := Lib.hid hb1
  have d0 := (cell_on hb1 (o := 0) hVs).trans c0
  have d1 := (cell_on hb1 (o := 1) hVs).trans c1
  have hV1 : V < w1.heap.size := by have := hb1.size; omega
  clear hb1 c0 c1
  by_cases hc : ckT f l = 0
  · rw [if_pos hc] at hp
    obtain ⟨v, gs, rfl, htab⟩ := hp
    obtain ⟨T, tc, hv, hjunk⟩ := own_form htab.own
    clear hjunk
    subst hv
    have HT1 := Lib.hid htab
    have HHO := Lib.hid (Holds_ F fc f A B ca cb l w1 (HF0.out.below HB1.out) (HH0.out.below HB1.out) (HL0.out.below HB1.out))
    rw [hc] at HHO
    obtain ⟨hv, hhv⟩ : ∃ b, b = holdsV f l := ⟨_, rfl⟩
    rw [← hhv] at HHO
    have HHV := Lib.hid hhv
    have HC := Lib.hid hc
    obtain ⟨R, hR⟩ : ∃ R, R = tableOf l f := ⟨_, rfl⟩
    rw [← hR] at HT1 ⊢
    have HR := Lib.hid hR
    have htl : R.length = f.length := by rw [hR]; exact length_tableOf l f
    clear htab hhv hc hR
    rw [htl]
    go_wp2_with fail
    refine HHO.out.mono ?_
    rintro e w2 ⟨rfl, hb2⟩
    have HB2 := Lib.hid (Below_on HB1.out hb2 HB1.out.size)
    have HT2 := Lib.hid (HT1.out.below hb2)
    have e0 := (cell_on hb2 (o := 0) hV1).trans d0
    have e1 := (cell_on hb2 (o := 1) hV1).trans d1
    have hV2 : V < w2.heap.size := by have := hb2.size; omega
    clear hb2 d0 d1 HHO
    go_wp2_with fail
    have HCF := Lib.hid (CheckFormula_ F fc f w2 (HF0.out.below HB2.out))
    rw [(ckT_F HC.out).1] at HCF
    refine HCF.out.mono ?_
    rintro e w3 ⟨rfl, hb3⟩
    have HB3 := Lib.hid (Below_on HB2.out hb3 HB2.out.size)
    have HT3 := Lib.hid (HT2.out.below hb3)
    have f0 := (cell_on hb3 (o := 0) hV2).trans e0
    have f1 := (cell_on hb3 (o := 1) hV2).trans e1
    have hV3 : V < w3.heap.size := by have := hb3.size; omega
    clear hb3 e0 e1 HCF
    go_wp2_with fail
    have HCL := Lib.hid (CheckLasso_ A B ca cb l 8 w3 (HH0.out.below HB3.out) (HL0.out.below HB3.out))
    rw [(ckT_F HC.out).2] at HCL
    refine HCL.out.mono ?_
    rintro e w4 ⟨rfl, hb4⟩
    have HB4 := Lib.hid (Below_on HB3.out hb4 HB3.out.size)
    have HT4 := Lib.hid (HT3.out.below hb4)
    have g0 := (cell_on hb4 (o := 0) hV3).trans f0
    have g1 := (cell_on hb4 (o := 1) hV3).trans f1
    have hV4 : V < w4.heap.size := by have := hb4.size; omega
    clear hb4 f0 f1 HCL
    go_wp2_with fail
    refine (holdsBegun_ w4).mono ?_
    rintro e w5 ⟨rfl, hb5⟩
    have HB5 := Lib.hid (Below_on HB4.out hb5 HB4.out.size)
    have HT5 := Lib.hid (HT4.out.below hb5)
    have h0 := (cell_on hb5 (o := 0) hV4).trans g0
    have h1 := (cell_on hb5 (o := 1) hV4).trans g1
    have hV5 : V < w5.heap.size := by have := hb5.size; omega
    clear hb5 g0 g1
    go_wp2_with fail
    have HTO := Lib.hid (TableOf_ F fc f A B ca cb l w5 (HF0.out.below HB5.out) (HH0.out.below HB5.out) (HL0.out.below HB5.out) HC.out)
    rw [← HR.out] at HTO
    refine HTO.out.mono ?_
    rintro e w6 ⟨v6, vs, rfl, ho, hb6⟩
    obtain ⟨T6, tc6, hv6, hjunk⟩ := own_form ho.own
    clear hjunk
    subst hv6
    rw [htl]
    have HO := Lib.hid ho
    have HB6 := Lib.hid (Below_on HB5.out hb6 HB5.out.size)
    have HT6 := Lib.hid (HT5.out.below hb6)
    clear hb6 ho h0 h1
    have hlim := ckT_lim HC.out
    have hRn : ∀ r ∈ R, r.length = l.n := by rw [HR.out]; exact mem_tableOf l f
    have HRN := Lib.hid hRn
    have HR1 := Lib.hid (HT6.out.rows (by omega) (fun r hr => by rw [hRn r hr]; omega))
    have HR2 := Lib.hid (HO.out.rows (by omega) (fun r hr => by rw [hRn r hr]; omega))
    clear hRn
    have HP : Hid (∀ wr, Below w6.heap.size w6 wr → TruePost w (.returned (.bool true)) wr) := by
      intro wr hwr
      refine ⟨rfl, ?_⟩
      rw [← HV.out]
      exact Below_on HWV.out.1 (Below_on HB6.out hwr HB6.out.size) (Nat.le_of_lt hVs)
    have HVAL : Hid (hv = gB R (f.length - 1) 0) := by
      show hv = _
      rw [HHV.out, HR.out]
      unfold holdsV
      rw [if_pos HC.out]
    have hcpa := HR1.out.cap
    have hcpb := HR2.out.cap
    have hlea := HR1.out.le
    have hleb := HR2.out.le
    rw [htl] at hlea hleb
    clear hVs hV1 hV2 hV3 hV4 hV5 HTO
    generalize l.n = n at *
    go_wp2_with fail
    go_loopw [11] (fun i wr => ∃ k : Nat, k ≤ f.length ∧ i = .int .i64 k ∧ Below w6.heap.size w6 wr) (fun i _ => f.length - (intOf i).toNat)
    case atStart => exact ⟨0, Nat.zero_le _, rfl, Below.refl _ _⟩
    case round =>
      obtain ⟨i, hi, rfl, hb⟩ := hrel
      have HB := Lib.hid hb
      clear hb
      by_cases hlt : i < f.length
      · obtain ⟨tb, to, rfl, hjk, A1, c1, k1, k2⟩ := (HR1.out.below HB.out).rd i (by omega)
        obtain ⟨ub, uo, rfl, hjk, A2, c2, k3, k4⟩ := (HR2.out.below HB.out).rd i (by omega)
        have hrn : R[i].length = n := HRN.out _ (List.getElem_mem _)
        have q1 := k2.cap
        have q2 := k4.cap
        have q3 := k2.le
        have q4 := k4.le
        rw [hrn] at k1 k3 q3 q4
        clear k2 k4 hrn
        go_wp2_with fail
        go_quiet (fail)
        have HBQ := Lib.hid (below_drewN HB.out nq)
        clear k1 k3 q1 q2 q3 q4
        go_wp2_with fail
        go_loopw [12] (fun i wr => ∃ k : Nat, k ≤ n ∧ i = .int .i64 k ∧ Below w6.heap.size w6 wr) (fun i _ => n - (intOf i).toNat)
        case atStart => exact ⟨0, Nat.zero_le _, rfl, HBQ.out⟩
        case round =>
          obtain ⟨k, hk, rfl, hb⟩ := hrel
          have HB2 := Lib.hid hb
          clear hb
          obtain ⟨tb', to', hT, hjk1, A1, c1, k1, k2⟩ := (HR1.out.below HB2.out).rd i (by omega)
          obtain ⟨ub', uo', hU, hjk2, A2, c2, k3, k4⟩ := (HR2.out.below HB2.out).rd i (by omega)
          obtain ⟨rfl, rfl⟩ : tb = tb' ∧ to = to' := by simpa using hT
          obtain ⟨rfl, rfl⟩ : ub = ub' ∧ uo = uo' := by simpa using hU
          have hrn : R[i].length = n := HRN.out _ (List.getElem_mem _)
          have q1 := k2.cap
          have q2 := k4.cap
          have q3 := k2.le
          have q4 := k4.le
          rw [hrn] at k1 k3 q3 q4
          by_cases hkn : k < n
          · obtain ⟨b1, o1, rfl, _, _, j1⟩ := Bools.at_ k2 (k := k) (by rw [hrn]; exact hkn)
            obtain ⟨b2, o2, rfl, _, _, j2⟩ := Bools.at_ k4 (k := k) (by rw [hrn]; exact hkn)
            clear k2 k4 hT hU
            generalize R[i][k]'_ = x at *
            clear hrn
            go_wp2_with fail
            go_quiet (fail)
            have HB3 := Lib.hid (below_drewN HB2.out nq)
            go_wp2_with fail
            go_roundw
            case rel => exact ⟨k + 1, by omega, by go_num, HB3.out⟩
            case measure => simp [intOf]; omega
          · clear k2 k4 hT hU hrn
            go_wp2_with fail
            exact ⟨⟨i + 1, by omega, by go_num, HB2.out⟩, by simp [intOf]; omega⟩
      · obtain ⟨ub, uo, b, o, c, rfl, _, _, k3, k4, k5, k6⟩ := row_cell (HR2.out.below HB.out) (a := f.length - 1) (p := 0) (by omega) HRN.out hlim.2.2.2.1
        have hlen1 : ((f.length : Int) - 1) = ((f.length - 1 : Nat) : Int) := by omega
        rw [← HVAL.out] at k6
        rw [Nat.add_zero] at k6
        have HPP := Lib.hid (HP.out _ HB.out)
        go_wp2_with fail
        go_ret
        exact HPP.out
  · rw [if_neg hc] at hp
    subst hp
    have HHO := Lib.hid (Holds_ F fc f A B ca cb l w1 (HF0.out.below HB1.out) (HH0.out.below HB1.out) (HL0.out.below HB1.out))
    rw [show holdsV f l = false by unfold holdsV; rw [if_neg hc]] at HHO
    have HCT := Lib.hid (show ckT f l = if ckF f = 0 then ckL l 8 else ckF f from rfl)
    generalize ckT f l = ec at *
    have hne : (ec != 0) = true := by simpa using hc
    have hee : (ec == 0) = false := by simpa using hc
    have HCN := Lib.hid hc
    clear hc
    go_wp2_with fail
    refine HHO.out.mono ?_
    rintro e w2 ⟨rfl, hb2⟩
    have HB2 := Lib.hid (Below_on HB1.out hb2 HB1.out.size)
    have e0 := (cell_on hb2 (o := 0) hV1).trans d0
    have e1 := (cell_on hb2 (o := 1) hV1).trans d1
    have hV2 : V < w2.heap.size := by have := hb2.size; omega
    clear hb2 d0 d1 HHO
    go_wp2_with fail
    refine (CheckFormula_ F fc f w2 (HF0.out.below HB2.out)).mono ?_
    rintro e w3 ⟨rfl, hb3⟩
    have HB3 := Lib.hid (Below_on HB2.out hb3 HB2.out.size)
    have f0 := (cell_on hb3 (o := 0) hV2).trans e0
    have f1 := (cell_on hb3 (o := 1) hV2).trans e1
    have hV3 : V < w3.heap.size := by have := hb3.size; omega
    clear hb3 e0 e1
    by_cases hcf : ckF f = 0
    · have HEC := HCT.out
      rw [if_pos hcf] at HEC
      rw [hcf]
      have HEE := Lib.hid HEC
      clear HEC hcf HCT
      go_wp2_with fail
      have HCL := Lib.hid (CheckLasso_ A B ca cb l 8 w3 (HH0.out.below HB3.out) (HL0.out.below HB3.out))
      rw [← HEE.out] at HCL
      refine HCL.out.mono ?_
      rintro e w4 ⟨rfl, hb4⟩
      have HB4 := Lib.hid (Below_on HB3.out hb4 HB3.out.size)
      clear hb4 f0 f1 HCL
      go_wp2_with fail
      refine (holdsBegun_ w4).mono ?_
      rintro e w5 ⟨rfl, hb5⟩
      have HP : Hid (TruePost w (.returned (.bool true)) w5) := by
        refine ⟨rfl, ?_⟩
        rw [← HV.out]
        exact Below_on HWV.out.1 (Below_on HB4.out hb5 HB4.out.size) (Nat.le_of_lt hVs)
      clear hb5
      go_wp2_with fail
      go_ret
      exact HP.out
    · have HEC := HCT.out
      rw [if_neg hcf] at HEC
      subst HEC
      clear hcf HCT
      go_wp2_with fail
      refine (holdsBegun_ w3).mono ?_
      rintro e w5 ⟨rfl, hb5⟩
      have HP : Hid (TruePost w (.returned (.bool true)) w5) := by
        refine ⟨rfl, ?_⟩
        rw [← HV.out]
        exact Below_on HWV.out.1 (Below_on HB3.out hb5 HB3.out.size) (Nat.le_of_lt hVs)
      clear hb5
      go_wp2_with fail
      go_ret
      exact HP.out
end Go.Proofs.Ytoglgeaiiipchaa
