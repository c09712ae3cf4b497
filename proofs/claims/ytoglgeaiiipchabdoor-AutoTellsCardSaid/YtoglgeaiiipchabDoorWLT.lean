/- Walks: the law AutoTells. -/
import Derived.Test.YtoglgeaiiipchabDoorWAB
import Derived.Test.YtoglgeaiiipchabDoorWPA
import Derived.Test.YtoglgeaiiipchabDoorWTf
import Derived.Test.YtoglgeaiiipchabDoorWAI
import Derived.Test.YtoglgeaiiipchabDoorFO
namespace Go.Proofs.YtoglgeaiiipchabDoor
open Go Go.RowKit Go.Sort

structure StT (X : Nat) (W : World) (w' : World) : Prop where
  bel : Below X W w'
  lt : X < w'.heap.size
  obj : ∃ v0 v1 v2 v3 v4, w'.heap[X]? = some (.cells #[v0, v1, v2, v3, v4] 26 (0, 0))
theorem StT.on {X : Nat} {W w1 w2 : World} (h : StT X W w1) (hb : Below w1.heap.size w1 w2) : StT X W w2 := by
  obtain ⟨v0, v1, v2, v3, v4, ho⟩ := h.obj
  exact ⟨h.bel.trans (hb.mono (Nat.le_of_lt h.lt)), Nat.lt_of_lt_of_le h.lt hb.size, v0, v1, v2, v3, v4, (hb.block _ (Array.getElem?_eq_some_iff.1 ho).1).trans ho⟩
theorem StT.set {X : Nat} {W w1 : World} (h : StT X W w1) (v0 v1 v2 v3 v4 : Value) : StT X W (set5 w1 X v0 v1 v2 v3 v4) := by
  obtain ⟨u0, u1, u2, u3, u4, ho⟩ := h.obj
  exact ⟨below_set5 h.bel (Nat.le_refl _) _ _ _ _ _, by rw [set5_size]; exact h.lt, v0, v1, v2, v3, v4, set5_heap ho _ _ _ _ _⟩
theorem new_obj (w : World) (o : Obj) : (w.alloc o).heap[w.heap.size]? = some o := by
  show (w.heap.push _)[w.heap.size]? = _
  simp
set_option maxRecDepth 100000 in
set_option maxHeartbeats 4000000 in
theorem AutoTells_ (a : Au) (A B C : Option Addr) (ca cb cc : Nat) (w : World) (hr : AuRd w 0 a A B C ca cb cc) (hL : LaidOK w) :
    Calls Tryd.prog 3 #[.agg #[.int .i64 a.st, .int .i64 a.le, .slice A a.fs.length ca, .slice B a.gs.length cb, .slice C a.ss.length cc]] w (BoolPost w true) := by
  have HW := auW_is w a A B C ca cb cc
  have hb0 := HW.below
  have HL := Lib.hid (fun W (h : Below w.heap.size w W) => hL.below h (Nat.le_refl _))
  have HR := Lib.hid (fun W (h : Below w.heap.size w W) => hr.below h)
  have hV0 := HW.at
  clear HW hL hr
  unfold auW at hb0 hV0
  go_enter Tryd.func3, Tryd.ntmps3
  go_upto_region 1 with fail
  obtain ⟨V, hV⟩ : ∃ V, V = w.heap.size := ⟨_, rfl⟩
  rw [← hV] at hV0 ⊢
  have HVV := Lib.hid hV
  clear hV
  generalize w.alloc (Obj.cells #[.int .i64 a.st, .int .i64 a.le, .slice A a.fs.length ca, .slice B a.gs.length cb, .slice C a.ss.length cc] 26) = W0 at *
  have HB0 := Lib.hid hb0
  have HVA := Lib.hid (fun W (h : Below W0.heap.size W0 W) => hV0.below h hV0.lt)
  have HPR := Lib.hid (PrintA_ a A B C ca cb cc W0 (HL.out _ hb0) (HR.out _ hb0))
  obtain ⟨_, c0, c1, c2, c3, c4⟩ := hV0
  clear hb0
  go_wp2_with fail
  refine HPR.out.mono ?_
  rintro e w1 ⟨rfl, hb1⟩
  have HB1 := Lib.hid hb1
  have HTR := Lib.hid (Trim_ a A B C ca cb cc w1 (HR.out _ (Below_on HB0.out hb1 HB0.out.size)))
  clear hb1 HPR c0 c1 c2 c3 c4
  obtain ⟨_, c0, c1, c2, c3, c4⟩ := HVA.out _ HB1.out
  go_wp2_with fail
  refine HTR.out.mono ?_
  rintro e w2 ⟨A2, B2, C2, ca2, cb2, cc2, rfl, hr2, hb2⟩
  have hba : Below w2.heap.size w2 (auW w2 (trimV a) A2 B2 C2 ca2 cb2 cc2) := (auW_is w2 (trimV a) A2 B2 C2 ca2 cb2 cc2).below
  have HB3 := Lib.hid (Below_on (Below_on HB1.out hb2 HB1.out.size) hba (Nat.le_trans HB1.out.size hb2.size))
  have HR3 := Lib.hid (hr2.below hba)
  have HX5 := Lib.hid (auW_is w2 (trimV a) A2 B2 C2 ca2 cb2 cc2).at
  have HX5l : Hid (w2.heap.size + 1 = (auW w2 (trimV a) A2 B2 C2 ca2 cb2 cc2).heap.size) := ((auW_is w2 (trimV a) A2 B2 C2 ca2 cb2 cc2).size).symm
  clear hr2 hb2 hba HTR c0 c1 c2 c3 c4
  unfold auW at HX5 HB3 HR3 HX5l
  go_upto_region 3 with fail
  obtain ⟨X5, hX5⟩ : ∃ X, X = w2.heap.size := ⟨_, rfl⟩
  rw [← hX5] at HX5 HX5l ⊢
  clear hX5
  generalize w2.alloc (Obj.cells #[.int .i64 (trimV a).st, .int .i64 (trimV a).le, .slice A2 (trimV a).fs.length ca2, .slice B2 (trimV a).gs.length cb2, .slice C2 (trimV a).ss.length cc2] 26) = W3 at *
  have HCA := Lib.hid (CheckAuto_ a A B C ca cb cc W3 (HR.out _ (Below_on HB0.out HB3.out HB0.out.size)))
  obtain ⟨_, c0, c1, c2, c3, c4⟩ := HVA.out _ HB3.out
  go_wp2_with fail
  refine HCA.out.mono ?_
  rintro e w4 ⟨rfl, hb4⟩
  have hba : Below w4.heap.size w4 (w4.alloc (Obj.cells #[.int .i64 0, .int .i64 0, .slice none 0 0, .slice none 0 0, .slice none 0 0] 26)) := (Below.refl _ _).alloc (Nat.le_refl _) _
  have HB4 := Lib.hid (Below_on (Below_on HB3.out hb4 HB3.out.size) hba (Nat.le_trans HB3.out.size hb4.size))
  have HR4 : Hid (∀ W, Below w4.heap.size (w4.alloc (Obj.cells #[.int .i64 0, .int .i64 0, .slice none 0 0, .slice none 0 0, .slice none 0 0] 26)) W → AuRd W 0 (trimV a) A2 B2 C2 ca2 cb2 cc2) := fun W h => (HR3.out.below hb4).below (hba.trans h)
  have HX54 := Lib.hid (HX5.out.below (Below_on hb4 hba hb4.size) HX5.out.lt)
  have HX9 : Hid (StT w4.heap.size (w4.alloc (Obj.cells #[.int .i64 0, .int .i64 0, .slice none 0 0, .slice none 0 0, .slice none 0 0] 26)) (w4.alloc (Obj.cells #[.int .i64 0, .int .i64 0, .slice none 0 0, .slice none 0 0, .slice none 0 0] 26))) := ⟨Below.refl _ _, by simp, _, _, _, _, _, new_obj _ _⟩
  have HXN := Lib.hid (show X5 < w4.heap.size from Nat.lt_of_lt_of_le HX5.out.lt hb4.size)
  have hnew : (w4.alloc (Obj.cells #[.int .i64 0, .int .i64 0, .slice none 0 0, .slice none 0 0, .slice none 0 0] 26)).heap[w4.heap.size]? = some (.cells #[.int .i64 0, .int .i64 0, .slice none 0 0, .slice none 0 0, .slice none 0 0] 26 (0, 0)) := new_obj _ _
  have HNW := Lib.hid hnew
  have HWS : Hid (W0.heap.size ≤ w4.heap.size) := Nat.le_trans HB3.out.size hb4.size
  clear hb4 hba HCA HR3 HX5 HX5l HB3 hnew c0 c1 c2 c3 c4
  go_upto_region 5 with fail
  obtain ⟨X, hX⟩ : ∃ X, X = w4.heap.size := ⟨_, rfl⟩
  rw [← hX] at HX9 HXN HNW HWS HR4 ⊢
  clear hX
  generalize w4.alloc (Obj.cells #[.int .i64 0, .int .i64 0, .slice none 0 0, .slice none 0 0, .slice none 0 0] 26) = W4 at *
  clear HB1
  have HPP : Hid (printP a = if ckA a = 0 then printA a else []) := by show _ = _; unfold printP; rfl
  obtain ⟨pt, hpt⟩ : ∃ pt, pt = printP a := ⟨_, rfl⟩
  obtain ⟨tv, htv⟩ : ∃ tv, tv = trimV a := ⟨_, rfl⟩
  have HTV : Hid (ckA a ≠ 0 → tv = nulA) := fun h => htv.trans (trim_no h)
  rw [← hpt] at HPP ⊢
  rw [← htv] at HR4 HX54 ⊢
  have HTT := Lib.hid htv
  clear hpt htv
  go_upto_if 23 with fail
  go_cut [8] (fun s8 wx => s8 = .string (sB pt) ∧ ∃ (v : Au) (D E F : Option Addr) (cd ce cf : Nat), Hid (StT X W4 wx) ∧ Hid (AuAt wx X v D E F cd ce cf) ∧ Hid (AuRd wx 0 v D E F cd ce cf) ∧ Hid (tv = if ckA a = 0 then v else nulA))
  case first =>
    by_cases hck : ckA a = 0
    · have hck1 : (ckA a == 0) = true := by simp [hck]
      have hp : pt = printA a := HPP.out.trans (if_pos hck)
      have HE : Hid (tv = if ckA a = 0 then tv else nulA) := by show _ = _; rw [if_pos hck]
      have HUP : Hid (∀ W, Below X W4 W → Below W0.heap.size W0 W) := fun W hW => HB4.out.trans (hW.mono HWS.out)
      have HPC : Hid (∀ W, Below X W4 W → Calls Tryd.prog 9 #[.agg #[.int .i64 a.st, .int .i64 a.le, .slice A a.fs.length ca, .slice B a.gs.length cb, .slice C a.ss.length cc]] W fun e w' => e = .returned (.string (sB pt)) ∧ Below W.heap.size W w') := fun W hW => by
        have := PrintAuto_ a A B C ca cb cc W (HR.out _ (Below_on HB0.out (HUP.out _ hW) HB0.out.size)) hck
        rwa [← hp] at this
      have HTC : Hid (∀ W, Below X W4 W → Calls Tryd.prog 10 #[.agg #[.int .i64 a.st, .int .i64 a.le, .slice A a.fs.length ca, .slice B a.gs.length cb, .slice C a.ss.length cc]] W (MdPost W tv)) := fun W hW => by
        have := TrimOf_ a A B C ca cb cc W (HR.out _ (Below_on HB0.out (HUP.out _ hW) HB0.out.size)) hck
        rwa [← HTT.out] at this
      have hVX : V ≠ X := by have := HWS.out; omega
      clear hp hck
      go_upto_region 6 with fail
      simp only [hck1]
      have HDR : Hid (StT X W4 W4.drew) := ⟨(Below.refl _ _).drew, HX9.out.lt, HX9.out.obj⟩
      refine wp_region_held_drew (S := fun w' => StT X W4 w') (by kernel_rfl) HDR.out (fun hS0 => ?_)
      refine wpAnyH_take1 (i := 0) (v := ?_) rfl (by kernel_rfl) (by kernel_rfl) (by kernel_rfl) (fun _ _ _ h => h) (Or.inl ⟨by rfl, ?_⟩) hS0 ?_
      rotate_left
      · intro w hSw; obtain ⟨_, c0, c1, c2, c3, c4⟩ := HVA.out _ (HUP.out _ hSw.bel); go_simp; (try with_reducible rfl)
      (try simp only [Act.put, List.setIfInBounds_toArray, List.set_cons_zero, List.set_cons_succ])
      refine wpAnyH_take1 (i := 2) (v := ?_) rfl (by kernel_rfl) (by kernel_rfl) (by kernel_rfl) (fun _ _ _ h => h) (Or.inl ⟨by rfl, ?_⟩) hS0 ?_
      rotate_left
      · intro w hSw; obtain ⟨_, c0, c1, c2, c3, c4⟩ := HVA.out _ (HUP.out _ hSw.bel); go_simp; (try with_reducible rfl)
      (try simp only [Act.put, List.setIfInBounds_toArray, List.set_cons_zero, List.set_cons_succ])
      refine wpAnyH_free (G := fun i w w' => match i with | 5 => ∃ v0 v1 v2 v3 v4, w' = set5 w X v0 v1 v2 v3 v4 | _ => Below w.heap.size w w') (fun i vs w' => match i with
        | 1 => vs 1 = .string (sB pt)
        | 3 => ∃ D E F cd ce cf, vs 3 = .agg #[.int .i64 tv.st, .int .i64 tv.le, .slice D tv.fs.length cd, .slice E tv.gs.length ce, .slice F tv.ss.length cf] ∧ AuRd w' (X + 1) tv D E F cd ce cf
        | 4 => vs 4 = .string (sB pt)
        | 5 => ∃ D E F cd ce cf, AuAt w' X tv D E F cd ce cf ∧ AuRd w' (X + 1) tv D E F cd ce cf
        | _ => False) [1, 3, 4, 5] (by kernel_rfl) (by decide) ?rc ?rg hS0 (fun vs => ?go)
      case rc =>
        intro j hj vs vs' w2 h0 hk hr
        simp only [List.mem_cons, List.not_mem_nil, or_false] at hj
        rcases hj with rfl | rfl | rfl | rfl
        · exact h0.symm.trans hr
        · obtain ⟨D, E, F, cd, ce, cf, e, r⟩ := hr
          exact ⟨D, E, F, cd, ce, cf, h0.symm.trans e, r⟩
        · exact h0.symm.trans hr
        · exact hr
      case rg =>
        intro j hj i hi hij hnw vs w2 w3 hg hr
        simp only [List.mem_cons, List.not_mem_nil, or_false] at hi hj
        rcases hj with rfl | rfl | rfl | rfl
        · exact hr
        · obtain ⟨D, E, F, cd, ce, cf, e, r⟩ := hr
          refine ⟨D, E, F, cd, ce, cf, e, ?_⟩
          rcases hi with rfl | rfl | rfl | rfl
          · exact r.below hg
          · exact r.below hg
          · exact r.below hg
          · obtain ⟨v0, v1, v2, v3, v4, rfl⟩ := hg
            exact r.set5_ (Nat.lt_succ_self _) _ _ _ _ _
        · exact hr
        · obtain ⟨D, E, F, cd, ce, cf, e, r⟩ := hr
          rcases hi with rfl | rfl | rfl | rfl
          · exact ⟨D, E, F, cd, ce, cf, e.below hg e.lt, r.below hg⟩
          · exact ⟨D, E, F, cd, ce, cf, e.below hg e.lt, r.below hg⟩
          · exact ⟨D, E, F, cd, ce, cf, e.below hg e.lt, r.below hg⟩
          · exact absurd rfl hij
      case go =>
        refine StepsF.cons1 rfl (fun w hw hd K hK => ?_) ?_
        · go_simp
          go_at_call 9
          refine (HPC.out _ hw.bel).mono ?_
          rintro e wa ⟨rfl, hba⟩
          exact hK.out (.string (sB pt)) _ (hw.on hba) hba rfl
        (try simp only [Act.put, List.setIfInBounds_toArray, List.set_cons_zero, List.set_cons_succ])
        refine StepsF.cons1 rfl (fun w hw hd K hK => ?_) ?_
        · go_simp
          go_at_call 10
          refine (HTC.out _ hw.bel).mono ?_
          rintro e wa ⟨A9, B9, C9, ca9, cb9, cc9, rfl, hrd, hba⟩
          exact hK.out (.agg #[.int .i64 tv.st, .int .i64 tv.le, .slice A9 tv.fs.length ca9, .slice B9 tv.gs.length cb9, .slice C9 tv.ss.length cc9]) _ (hw.on hba) hba ⟨A9, B9, C9, ca9, cb9, cc9, rfl, hrd.low hw.lt⟩
        (try simp only [Act.put, List.setIfInBounds_toArray, List.set_cons_zero, List.set_cons_succ])
        refine StepsF.cons1 rfl (fun w hw hd K hK => ?_) ?_
        · have e1 : vs 1 = .string (sB pt) := hd 1 (by decide) (by kernel_rfl)
          rw [e1] at hK ⊢
          clear e1
          go_simp
          exact hK.out (.string (sB pt)) _ hw (Below.refl _ _) rfl
        (try simp only [Act.put, List.setIfInBounds_toArray, List.set_cons_zero, List.set_cons_succ])
        refine StepsF.cons1 rfl (fun w hw hd K hK => ?_) ?_
        · obtain ⟨D, E, F, cd, ce, cf, e3, hrd⟩ := hd 3 (by decide) (by kernel_rfl)
          obtain ⟨u0, u1, u2, u3, u4, hob⟩ := hw.obj
          obtain ⟨q0, q1, q2, q3, q4, f0, f1, f2, f3, f4⟩ := obj5 hob
          rw [e3] at hK ⊢
          clear e3
          go_simp
          have hs := hw.set (.int .i64 tv.st) (.int .i64 tv.le) (.slice D tv.fs.length cd) (.slice E tv.gs.length ce) (.slice F tv.ss.length cf)
          obtain ⟨o0, o1, o2, o3, o4, _⟩ := obj5 (set5_heap hob (.int .i64 tv.st) (.int .i64 tv.le) (.slice D tv.fs.length cd) (.slice E tv.gs.length ce) (.slice F tv.ss.length cf))
          exact hK.out undef _ hs ⟨_, _, _, _, _, rfl⟩ ⟨D, E, F, cd, ce, cf, ⟨hs.lt, o0, o1, o2, o3, o4⟩, hrd.set5_ (Nat.lt_succ_self _) _ _ _ _ _⟩
        (try simp only [Act.put, List.setIfInBounds_toArray, List.set_cons_zero, List.set_cons_succ])
        intro w2 hw hR
        have e4 : vs 4 = .string (sB pt) := hR 4 (by decide)
        obtain ⟨D, E, F, cd, ce, cf, hat, hrd⟩ := hR 5 (by decide)
        rw [e4]
        go_wp2_with fail
        go_meet
        exact ⟨rfl, tv, D, E, F, cd, ce, cf, hw, hat, hrd.low (Nat.zero_le _), HE.out⟩
    · have hck1 : (ckA a == 0) = false := by simp [hck]
      have hp : pt = [] := HPP.out.trans (if_neg hck)
      have HE : Hid (tv = if ckA a = 0 then nulA else nulA) := by show _ = _; rw [HTV.out hck]; split <;> rfl
      subst hp
      have HAT : Hid (AuAt W4 X nulA none none none 0 0 0) := by
        obtain ⟨o0, o1, o2, o3, o4, _⟩ := obj5 HNW.out
        exact ⟨HX9.out.lt, o0, o1, o2, o3, o4⟩
      go_wp2_with fail
      go_meet
      exact ⟨rfl, nulA, none, none, none, 0, 0, 0, HX9.out, HAT.out, nul_rd _, HE.out⟩
  case rest =>
    obtain ⟨rfl, v, D, E, F, cd, ce, cf, hst, hat, hrv, hiv⟩ := hcut
    have HBW : Hid (Below W0.heap.size W0 wc) := HB4.out.trans (hst.out.bel.mono HWS.out)
    have HAB := Lib.hid (autoBegun_ wc (HL.out _ (Below_on HB0.out HBW.out HB0.out.size)))
    have HG := Lib.hid (HX54.out.below hst.out.bel HXN.out)
    have HGR := Lib.hid (HR4.out _ hst.out.bel)
    go_wp2_with fail
    refine HAB.out.mono ?_
    rintro e w5 ⟨rfl, hb5⟩
    have HB5 := Lib.hid (Below_on HBW.out hb5 HBW.out.size)
    have HAC := Lib.hid (autoCheck_ a A B C ca cb cc w5 (HR.out _ (Below_on HB0.out HB5.out HB0.out.size)))
    obtain ⟨_, c0, c1, c2, c3, c4⟩ := HVA.out _ HB5.out
    have HAT5 := Lib.hid (hat.out.below hb5 hat.out.lt)
    have HRV5 := Lib.hid (hrv.out.below hb5)
    have HG5 := Lib.hid (HG.out.below hb5 HG.out.lt)
    have HGR5 := Lib.hid (HGR.out.below hb5)
    have e1 : (ckA a == ckA a) = true := by simp
    clear hb5
    go_wp2_with fail
    refine HAC.out.mono ?_
    rintro e w6 ⟨rfl, hb6⟩
    have HB6 := Lib.hid (Below_on HB5.out hb6 HB5.out.size)
    have HAI := Lib.hid (autoIs_ tv v (ckA a) A2 B2 C2 D E F ca2 cb2 cc2 cd ce cf w6 (HGR5.out.below hb6) (HRV5.out.below hb6) hiv.out)
    clear c0 c1 c2 c3 c4
    obtain ⟨_, d0, d1, d2, d3, d4⟩ := HAT5.out.below hb6 HAT5.out.lt
    obtain ⟨_, q0, q1, q2, q3, q4⟩ := HG5.out.below hb6 HG5.out.lt
    clear hb6
    go_wp2_with fail
    refine HAI.out.mono ?_
    rintro e w7 ⟨rfl, hb7⟩
    have HB7 := Lib.hid (Below_on HB6.out hb7 HB6.out.size)
    clear d0 d1 d2 d3 d4 q0 q1 q2 q3 q4 hb7
    go_wp2_with fail
    go_ret
    exact ⟨rfl, Below_on HB0.out HB7.out HB0.out.size⟩
end Go.Proofs.YtoglgeaiiipchabDoor
