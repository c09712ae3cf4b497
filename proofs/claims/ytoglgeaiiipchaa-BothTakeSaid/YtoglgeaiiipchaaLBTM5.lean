/- Walks: copies that the call owns: slices.Clone of numbers and of steps, slices.Concat of bools; both.ready. -/
import Derived.Test.YtoglgeaiiipchaaLBTM3
import Derived.Test.YtoglgeaiiipchaaLBTM4
import Derived.Laws.EntriesVeiled
import Derived.Test.YtoglgeaiiipchaaLBTM1
import Derived.Lib.AppendZerosOnto
set_option linter.unusedSimpArgs false
set_option linter.unusedVariables false
namespace Go.Proofs.Ytoglgeaiiipchaa
open Go Go.RowKit Go.Sort Go.Shelf

theorem within_b (n a b : Int) (w : World) : Calls Try.prog 81 #[.int .i64 n, .int .i64 a, .int .i64 b] w fun e w' => e = .returned (.bool (btw n a b)) ∧ Below w.heap.size w w' :=
  (within_ n a b w).mono fun _ _ ⟨he, hw⟩ => ⟨he, by rw [← hw]; exact Below.refl _ _⟩
theorem ac1Enters : Enters Try.prog 80 := enters_of Try.func80 (by kernel_rfl) rfl
theorem ac2Enters : Enters Try.prog 82 := enters_of Try.func82 (by kernel_rfl) rfl
theorem ac1_ (st n : Int) (V : Nat) (w : World) (hc : w.cell? ⟨V, 0, none⟩ = some (.int .i64 st)) (h1 : 1 ≤ st) (h2 : st ≤ 300) :
    Calls Try.prog 80 #[.int .i64 n, .pointer (some ⟨V, 0, none⟩)] w fun e w' => e = .returned (.bool (btw n 0 (st - 1))) ∧ Below w.heap.size w w' := by
  go_enter Try.func80, Try.ntmps80
  go_wp2_with (go_at_call 81; refine (within_ _ _ _ _).mono ?_; rintro e w' ⟨rfl, rfl⟩)
  go_ret
  exact ⟨rfl, Below.refl _ _⟩
theorem ac2_ (st n : Int) (V X : Nat) (w : World) (hc : w.cell? ⟨V, 0, none⟩ = some (.int .i64 st)) (hx : w.cell? ⟨X, 0, none⟩ = some (.func (.func 80) #[] #[.pointer (some ⟨V, 0, none⟩)])) (h1 : 1 ≤ st) (h2 : st ≤ 300) :
    Calls Try.prog 82 #[.int .i64 n, .pointer (some ⟨X, 0, none⟩)] w fun e w' => e = .returned (.bool (!btw n 0 (st - 1))) ∧ Below w.heap.size w w' := by
  have hgr : ∀ (args : Array Value) (w : World), (callFunc 80 args).run Try.prog w = .ok (.enter 80 args) w := ac1Enters
  go_enter Try.func82, Try.ntmps82
  go_wp2_with (go_at_call 80; refine (ac1_ st n V _ hc h1 h2).mono ?_; rintro e w' ⟨rfl, hb⟩)
  go_ret
  exact ⟨rfl, hb⟩
/-- an automaton and the predicate of its states in variables -/
def ackW (w : World) (a : Au) (A B C : Option Addr) (ca cb cc : Nat) : World :=
  (auW w a A B C ca cb cc).alloc (Obj.cells #[.func (.func 80) #[] #[.pointer (some ⟨w.heap.size, 0, none⟩)]] 69)
structure AckW (w W : World) (a : Au) (A B C : Option Addr) (ca cb cc V : Nat) : Prop where
  below : Below w.heap.size w W
  size : W.heap.size = V + 1 + 1
  at_ : AuAt W V a A B C ca cb cc
  f0 : W.cell? ⟨V + 1, 0, none⟩ = some (.func (.func 80) #[] #[.pointer (some ⟨V, 0, none⟩)])
theorem ackW_is (w : World) (a : Au) (A B C : Option Addr) (ca cb cc : Nat) : AckW w (ackW w a A B C ca cb cc) a A B C ca cb cc w.heap.size := by
  have h := auW_is w a A B C ca cb cc
  have hb : Below (auW w a A B C ca cb cc).heap.size (auW w a A B C ca cb cc) (ackW w a A B C ca cb cc) := (Below.refl _ _).alloc (Nat.le_refl _) _
  refine ⟨Below_on h.below hb h.below.size, ?_, h.at.below hb (by rw [h.size]; omega), ?_⟩
  · unfold ackW
    simp [h.size]
  · unfold ackW auW
    go_simp
set_option maxRecDepth 100000 in
set_option maxHeartbeats 4000000 in
theorem autoCheck_ (a : Au) (A B C : Option Addr) (ca cb cc : Nat) (w : World) (hr : AuRd w 0 a A B C ca cb cc) :
    Calls Try.prog 48 #[.agg #[.int .i64 a.st, .int .i64 a.le, .slice A a.fs.length ca, .slice B a.gs.length cb, .slice C a.ss.length cc]] w (IntB w (ckA a)) := by
  have HW := Lib.hid (ackW_is w a A B C ca cb cc)
  have HR := Lib.hid (hr.below HW.out.below)
  have l1 := hr.fs.le
  have l2 := hr.fs.max
  have l3 := hr.gs.le
  have l4 := hr.gs.max
  have l5 := hr.ss.le
  have l6 := hr.ss.max
  clear hr
  have hgr : ∀ (args : Array Value) (w : World), (callFunc 80 args).run Try.prog w = .ok (.enter 80 args) w := ac1Enters
  go_enter Try.func48, Try.ntmps48
  obtain ⟨b1, hb1⟩ : ∃ b, b = btw a.st 1 300 := ⟨_, rfl⟩
  obtain ⟨b2, hb2⟩ : ∃ b, b = btw a.le 1 8 := ⟨_, rfl⟩
  have K1 := Lib.hid (fun W => within_b a.st 1 300 W)
  have K2 := Lib.hid (fun W => within_b a.le 1 8 W)
  rw [← hb1] at K1
  rw [← hb2] at K2
  obtain ⟨ck, hck⟩ : ∃ c, c = ckA a := ⟨_, rfl⟩
  rw [← hck]
  have HCK := Lib.hid hck
  have H1 := Lib.hid hb1
  have H2 := Lib.hid hb2
  clear hck hb1 hb2
  go_wp2_with fail
  change Calls _ _ _ (ackW w a A B C ca cb cc) _
  generalize ackW w a A B C ca cb cc = W0 at *
  have HA := Lib.hid HW.out.at_
  have HFN := Lib.hid HW.out.f0
  have HSZ := Lib.hid HW.out.size
  obtain ⟨V, hV⟩ : ∃ V, V = w.heap.size := ⟨_, rfl⟩
  rw [← hV] at HA HFN HSZ ⊢
  have HBW : Hid (Below w.heap.size w W0) := HW.out.below
  have HVV := Lib.hid hV
  have hV0 := HA.out.lt
  have hV1 : V + 1 < W0.heap.size := by rw [HSZ.out]; omega
  clear hV HW
  refine (K1.out _).mono ?_
  rintro e w1 ⟨rfl, hx1⟩
  have HB1 := Lib.hid hx1
  obtain ⟨_, c0, c1, c2, c3, c4⟩ := HA.out.below hx1 hV0
  clear hx1
  cases b1 with
  | false =>
    have HF : Hid (ck = 3) := by show ck = 3; rw [HCK.out]; exact ckA_3 (by rw [← H1.out]; rfl)
    go_wp2_with fail
    go_ret
    exact ⟨ret_int HF.out.symm, Below_on HBW.out HB1.out HBW.out.size⟩
  | true =>
    go_wp2_with fail
    refine (K2.out _).mono ?_
    rintro e w2 ⟨rfl, hx2⟩
    clear c0 c1 c2 c3 c4
    have HB2 : Hid (Below W0.heap.size W0 w2) := Below_on HB1.out hx2 HB1.out.size
    obtain ⟨_, c0, c1, c2, c3, c4⟩ := HA.out.below HB2.out hV0
    clear hx2
    cases b2 with
    | false =>
      have HF : Hid (ck = 3) := by show ck = 3; rw [HCK.out]; exact ckA_3 (by rw [← H1.out, ← H2.out]; rfl)
      go_wp2_with fail
      go_ret
      exact ⟨ret_int HF.out.symm, Below_on HBW.out HB2.out HBW.out.size⟩
    | true =>
      have HOK : Hid (okR a) := by show (_ || _) = false; rw [← H1.out, ← H2.out]; rfl
      have hst : 1 ≤ a.st ∧ a.st ≤ 300 := (btw_iff _ _ _).1 H1.out.symm
      have hle : 1 ≤ a.le ∧ a.le ≤ 8 := (btw_iff _ _ _).1 H2.out.symm
      obtain ⟨hst1, hst2⟩ := hst
      obtain ⟨hle1, hle2⟩ := hle
      clear K1 K2 H1 H2
      by_cases hg : (a.gs.length : Int) = a.st
      · have hg1 : ((a.gs.length : Int) != a.st) = false := by simp [hg]
        have HG := Lib.hid hg
        clear hg
        by_cases h6 : 6000 < (a.ss.length : Int)
        · have HF : Hid (ck = 2) := by show ck = 2; rw [HCK.out]; exact ckA_2 HOK.out HG.out h6
          go_wp2_with fail
          go_ret
          exact ⟨ret_int HF.out.symm, Below_on HBW.out HB2.out HBW.out.size⟩
        · have hns : a.ss.length ≤ 6000 := by omega
          clear h6
          have HPV : Hid (∀ W, Below W0.heap.size W0 W → PredV Try.prog 82 #[.pointer (some ⟨V + 1, 0, none⟩)] (fun n => !btw n 0 (a.st - 1)) W) := fun W hW n W' hW' => by
            have hb := Below_on hW hW' hW.size
            exact ac2_ a.st n V (V + 1) W' (HA.out.below hb hV0).c0 ((cell_on3 hb hV1).trans HFN.out) hst1 hst2
          go_wp2_with fail
          refine (ContainsFuncI_ A ca a.fs 82 _ (fun n => !btw n 0 (a.st - 1)) w2 (HR.out.fs.below HB2.out) ac2Enters (HPV.out _ HB2.out)).mono ?_
          rintro e w3 ⟨rfl, hx3⟩
          have HB3 : Hid (Below W0.heap.size W0 w3) := Below_on HB2.out hx3 HB2.out.size
          clear c0 c1 c2 c3 c4
          obtain ⟨_, c0, c1, c2, c3, c4⟩ := HA.out.below HB3.out hV0
          clear hx3
          obtain ⟨fb, hfb⟩ : ∃ fb, fb = anyB (fun n => !btw n 0 (a.st - 1)) a.fs := ⟨_, rfl⟩
          rw [← hfb]
          have HFB0 : Hid (fsBad a.st a.fs = fb) := by show _ = _; rw [hfb]; rfl
          clear hfb
          cases fb with
          | true =>
            have HF : Hid (ck = 5) := by show ck = 5; rw [HCK.out]; exact ckA_5 HOK.out HG.out (by omega) HFB0.out
            go_wp2_with fail
            go_ret
            exact ⟨ret_int HF.out.symm, Below_on HBW.out HB3.out HBW.out.size⟩
          | false =>
            have HFB : Hid (fsBad a.st a.fs = false) := HFB0.out
            clear HFB0 HPV
            go_wp2_with fail
            go_loopw [4] (fun i wr => ∃ k : Nat, 1 ≤ k ∧ i = .int .i64 k ∧ Below W0.heap.size W0 wr ∧ Hid (k ≤ a.fs.length ∨ k = 1) ∧ Hid (∀ j, 1 ≤ j → j < k → fsErr a.fs j = false)) (fun i _ => a.fs.length - (intOf i).toNat)
            case atStart => exact ⟨1, Nat.le_refl _, rfl, HB3.out, .inr rfl, fun j h1 h2 => absurd h2 (by omega)⟩
            case round =>
              obtain ⟨k2, hk2, rfl, hx, HK2, HALL⟩ := hrel
              have HB5 := Lib.hid hx
              clear c0 c1 c2 c3 c4
              obtain ⟨_, c0, c1, c2, c3, c4⟩ := HA.out.below hx hV0
              clear hx
              by_cases hkl2 : k2 < a.fs.length
              · have hk9 : k2 ≤ 1000000000000000000 := by omega
                obtain ⟨b, o, hAA, _, _, q⟩ := Ints.at_ (HR.out.fs.below HB5.out) hkl2
                obtain ⟨b', o', hAA', _, _, q'⟩ := Ints.at_ (HR.out.fs.below HB5.out) (k := k2 - 1) (by omega)
                obtain ⟨rfl, rfl⟩ : b = b' ∧ o = o' := by rw [hAA] at hAA'; simpa using hAA'
                subst hAA
                clear hAA'
                obtain ⟨x, hxx⟩ : ∃ x, x = a.fs[k2] := ⟨_, rfl⟩
                obtain ⟨y, hyy⟩ : ∃ y, y = a.fs[k2 - 1] := ⟨_, rfl⟩
                rw [← hxx] at q
                rw [← hyy] at q'
                have HE : Hid (fsErr a.fs k2 = decide (x ≤ y)) := by
                  show fsErr _ _ = _
                  unfold fsErr
                  rw [getD_lt hkl2, getD_lt (by omega), hxx, hyy]
                clear hxx hyy
                by_cases hxy : x ≤ y
                · have HF : Hid (ck = 4) := by
                    show ck = 4
                    rw [HCK.out]
                    exact ckA_4 HOK.out HG.out (by omega) HFB.out (fsDown_at (k := k2) (by omega) (by omega) (by rw [HE.out]; exact decide_eq_true hxy))
                  go_wp2_with fail
                  go_quiet (fail)
                  have HB6 : Hid (Below W0.heap.size W0 (wr.drewN nq)) := below_drewN HB5.out nq
                  generalize wr.drewN nq = w6 at *
                  go_wp2_with fail
                  go_ret
                  exact ⟨ret_int HF.out.symm, Below_on HBW.out HB6.out HBW.out.size⟩
                · have HEF : Hid (fsErr a.fs k2 = false) := by show _ = _; rw [HE.out]; exact decide_eq_false hxy
                  go_wp2_with fail
                  go_quiet (fail)
                  have HB6 : Hid (Below W0.heap.size W0 (wr.drewN nq)) := below_drewN HB5.out nq
                  generalize wr.drewN nq = w6 at *
                  go_wp2_with fail
                  go_roundw
                  case rel =>
                    refine ⟨k2 + 1, by omega, by go_num, HB6.out, .inl (by omega), fun j h1 h2 => ?_⟩
                    rcases Nat.lt_or_ge j k2 with h3 | h3
                    · exact HALL.out j h1 h3
                    · obtain rfl : j = k2 := by omega
                      exact HEF.out
                  case measure => simp [intOf]; omega
              · have HFD : Hid (fsDown a.fs (a.fs.length - 1) 1 = false) := (fsDown_false _ _).2 fun j h1 h2 => HALL.out j h1 (by rcases HK2.out with h | h <;> omega)
                clear HALL HK2
                have HCS : Hid (ck = ckS a a.ss.length 0) := by show ck = _; rw [HCK.out]; exact ckA_S HOK.out HG.out (by omega) HFB.out HFD.out
                go_wp2_with fail
                obtain ⟨w7, rfl⟩ : ∃ w7 : World, w7 = wr := ⟨_, rfl⟩
                go_loopw [5, 6, 58] (fun _ _ i wr => ∃ k : Nat, k ≤ a.ss.length ∧ i = .int .i64 k ∧ Below W0.heap.size W0 wr ∧ Hid (∀ j, j < k → stpErr a j = 0)) (fun _ _ i _ => a.ss.length - (intOf i).toNat)
                case atStart => exact ⟨0, Nat.zero_le _, rfl, HB5.out, fun j h => absurd h (by omega)⟩
                case round =>
                  obtain ⟨k3, hk3, rfl, hx, HALL⟩ := hrel
                  have HB7 := Lib.hid hx
                  clear c0 c1 c2 c3 c4
                  obtain ⟨_, c0, c1, c2, c3, c4⟩ := HA.out.below hx hV0
                  clear hx
                  by_cases hkl3 : k3 < a.ss.length
                  · obtain ⟨b, o, hCC, _, hbl, q1, q2, q3⟩ := Stps.at_ (HR.out.ss.below HB7.out) hkl3
                    subst hCC
                    obtain ⟨s, hs⟩ : ∃ s, s = a.ss[k3] := ⟨_, rfl⟩
                    rw [← hs] at q1 q2 q3
                    have hs0 : a.ss.getD k3 nostp = s := by rw [getD_lt hkl3, hs]
                    have HS0 := Lib.hid hs0
                    have HS := Lib.hid hs
                    clear hs hs0
                    obtain ⟨bf, hbf⟩ : ∃ b, b = btw s.f 0 (a.st - 1) := ⟨_, rfl⟩
                    obtain ⟨bt, hbt⟩ : ∃ b, b = btw s.t 0 (a.st - 1) := ⟨_, rfl⟩
                    obtain ⟨bl, hbl⟩ : ∃ b, b = btw s.l 0 (a.le - 1) := ⟨_, rfl⟩
                    have K1 : Hid (∀ W, Below W0.heap.size W0 W → Calls Try.prog 80 #[.int .i64 s.f, .pointer (some ⟨V, 0, none⟩)] W fun e w' => e = .returned (.bool (btw s.f 0 (a.st - 1))) ∧ Below W.heap.size W w') := fun W hW => ac1_ a.st s.f V W (HA.out.below hW hV0).c0 hst1 hst2
                    have K2 : Hid (∀ W, Below W0.heap.size W0 W → Calls Try.prog 80 #[.int .i64 s.t, .pointer (some ⟨V, 0, none⟩)] W fun e w' => e = .returned (.bool (btw s.t 0 (a.st - 1))) ∧ Below W.heap.size W w') := fun W hW => ac1_ a.st s.t V W (HA.out.below hW hV0).c0 hst1 hst2
                    have K3 := Lib.hid (fun W => within_b s.l 0 (a.le - 1) W)
                    rw [← hbf] at K1
                    rw [← hbt] at K2
                    rw [← hbl] at K3
                    have HBAD : Hid (stpBad a s = (!bf || !bt || !bl)) := by show stpBad a s = _; rw [hbf, hbt, hbl]; rfl
                    clear hbf hbt hbl
                    have f0 := (cell_on3 HB7.out hV1).trans HFN.out
                    have hV1r : V + 1 < wr.heap.size := by have := HB7.out.size; omega
                    have HG8 := Lib.hid (stW_is wr s)
                    go_wp2_with fail
                    change Calls _ _ _ (stW wr s) _
                    have HB8 : Hid (Below W0.heap.size W0 (stW wr s)) := Below_on HB7.out HG8.out.below HB7.out.size
                    obtain ⟨G, hG⟩ : ∃ G, G = wr.heap.size := ⟨_, rfl⟩
                    rw [← hG] at HG8 ⊢
                    have hGW : W0.heap.size ≤ G := by rw [hG]; exact HB7.out.size
                    generalize stW wr s = W8 at *
                    have HGG := Lib.hid hG
                    clear c0 c1 c2 c3 c4 q1 q2 q3 hG f0
                    refine (K1.out _ HB8.out).mono ?_
                    rintro e w9 ⟨rfl, hx9⟩
                    have HB9 : Hid (Below W0.heap.size W0 w9) := Below_on HB8.out hx9 HB8.out.size
                    have HX9 := Lib.hid hx9
                    clear hx9
                    have HBADF : Hid (stpBad a s = true → ck = 5) := by
                      intro hb
                      have he : stpErr a k3 = 5 := by unfold stpErr; rw [HS0.out, if_pos hb]
                      rw [HCS.out, ckS_at (k := k3) _ _ (Nat.zero_le _) (by omega) (fun j _ h => HALL.out j h) (by rw [he]; decide), he]
                    cases bf with
                    | false =>
                      have HF : Hid (ck = 5) := HBADF.out (by rw [HBAD.out]; rfl)
                      clear HBADF
                      go_wp2_with fail
                      go_ret
                      exact ⟨ret_int HF.out.symm, Below_on HBW.out HB9.out HBW.out.size⟩
                    | true =>
                      have g1 := (cell_on3 HX9.out (b := G) (o := 2) (by rw [HG8.out.size]; omega)).trans HG8.out.c2
                      obtain ⟨_, c0, c1, c2, c3, c4⟩ := HA.out.below HB9.out hV0
                      have f0 := (cell_on3 HB9.out hV1).trans HFN.out
                      go_wp2_with fail
                      refine (K2.out _ HB9.out).mono ?_
                      rintro e w10 ⟨rfl, hx10⟩
                      have HX10 : Hid (Below W8.heap.size W8 w10) := Below_on HX9.out hx10 HX9.out.size
                      have HB10 : Hid (Below W0.heap.size W0 w10) := Below_on HB9.out hx10 HB9.out.size
                      clear hx10 g1 c0 c1 c2 c3 c4 f0
                      cases bt with
                      | false =>
                        have HF : Hid (ck = 5) := HBADF.out (by rw [HBAD.out]; rfl)
                        clear HBADF
                        go_wp2_with fail
                        go_ret
                        exact ⟨ret_int HF.out.symm, Below_on HBW.out HB10.out HBW.out.size⟩
                      | true =>
                        have g1 := (cell_on3 HX10.out (b := G) (o := 1) (by rw [HG8.out.size]; omega)).trans HG8.out.c1
                        obtain ⟨_, c0, c1, c2, c3, c4⟩ := HA.out.below HB10.out hV0
                        go_wp2_with fail
                        refine (K3.out _).mono ?_
                        rintro e w11 ⟨rfl, hx11⟩
                        have HX11 : Hid (Below W8.heap.size W8 w11) := Below_on HX10.out hx11 HX10.out.size
                        have HB11 : Hid (Below W0.heap.size W0 w11) := Below_on HB10.out hx11 HB10.out.size
                        clear hx11 g1 c0 c1 c2 c3 c4
                        cases bl with
                        | false =>
                          have HF : Hid (ck = 5) := HBADF.out (by rw [HBAD.out]; rfl)
                          clear HBADF
                          go_wp2_with fail
                          go_ret
                          exact ⟨ret_int HF.out.symm, Below_on HBW.out HB11.out HBW.out.size⟩
                        | true =>
                          have HGOOD : Hid (stpBad a s = false) := by show _ = _; rw [HBAD.out]; rfl
                          clear HBADF HBAD K1 K2 K3
                          have g0 := (cell_on3 HX11.out (b := G) (o := 0) (by rw [HG8.out.size]; omega)).trans HG8.out.c0
                          have g1 := (cell_on3 HX11.out (b := G) (o := 1) (by rw [HG8.out.size]; omega)).trans HG8.out.c1
                          have g2 := (cell_on3 HX11.out (b := G) (o := 2) (by rw [HG8.out.size]; omega)).trans HG8.out.c2
                          obtain ⟨_, c0, c1, c2, c3, c4⟩ := HA.out.below HB11.out hV0
                          have e0 := cell_regrown g0
                          have e1 := cell_regrown g1
                          have e2 := cell_regrown g2
                          have e4 := cell_regrown c4
                          by_cases hk0 : 0 < k3
                          · obtain ⟨b', o', hCC', _, _, q1, q2, q3⟩ := Stps.at_ (HR.out.ss.below HB11.out) (k := k3 - 1) (by omega)
                            obtain ⟨rfl, rfl⟩ : b = b' ∧ o = o' := by simpa using hCC'
                            clear hCC'
                            obtain ⟨t, ht⟩ : ∃ t, t = a.ss[k3 - 1] := ⟨_, rfl⟩
                            rw [← ht] at q1 q2 q3
                            have ht0 : a.ss.getD (k3 - 1) nostp = t := by rw [getD_lt (by omega), ht]
                            obtain ⟨lt2, hlt2⟩ : ∃ b, b = stpLt t s := ⟨_, rfl⟩
                            have HE : Hid (stpErr a k3 = if lt2 = true then 0 else 4) := by
                              show _ = _
                              unfold stpErr
                              rw [HS0.out, ht0, if_neg (by rw [HGOOD.out]; decide), ← hlt2]
                              cases lt2 <;> simp [hk0]
                            obtain ⟨ov, hov⟩ : ∃ o, o = ordV t s := ⟨_, rfl⟩
                            have hov1 : (ov < 0 ↔ lt2 = true) := by rw [hov, hlt2]; exact ordV_lt t s
                            have C1 := Lib.hid (regrown_call (w := w11) fun W _ => Order_ t s W)
                            rw [← hov] at C1
                            have HOV := Lib.hid hov1
                            clear hov hov1
                            have f1 := cell_regrown q1
                            have f2 := cell_regrown q2
                            have f3 := cell_regrown q3
                            clear ht ht0 hlt2
                            go_wp2_with fail
                            refine wp_region_quiet_below (by kernel_rfl) (by kernel_rfl) ?_
                            repeat (go_big_quiet_step (with_reducible exact C1.out _ _))
                            refine wpQuiet_nil ?_
                            intro _ hw'
                            obtain ⟨⟨dq, osq⟩, hw''⟩ := hw'
                            subst hw''
                            have HB12 := Lib.hid (regrown_on HB11.out HB11.out.size dq osq)
                            clear e0 e1 e2 e4 f1 f2 f3 q1 q2 q3
                            generalize grow (redrawn w11 dq) osq = w12 at *
                            cases lt2 with
                            | false =>
                              have hov2 : 0 ≤ ov := by
                                have := HOV.out
                                simp at this
                                omega
                              have HF : Hid (ck = 4) := by
                                have he : stpErr a k3 = 4 := HE.out
                                show ck = 4
                                rw [HCS.out, ckS_at (k := k3) _ _ (Nat.zero_le _) (by omega) (fun j _ h => HALL.out j h) (by rw [he]; decide), he]
                              go_wp2_with fail
                              go_ret
                              exact ⟨ret_int HF.out.symm, Below_on HBW.out HB12.out HBW.out.size⟩
                            | true =>
                              have hov2 : ov < 0 := HOV.out.2 rfl
                              go_wp2_with fail
                              go_roundw
                              case rel =>
                                refine ⟨k3 + 1, by omega, by go_num, HB12.out, fun j h => ?_⟩
                                rcases Nat.lt_or_ge j k3 with h1 | h1
                                · exact HALL.out j h1
                                · obtain rfl : j = k3 := by omega
                                  exact HE.out
                              case measure => simp [intOf]; omega
                          · have HE : Hid (stpErr a k3 = 0) := by
                              show _ = _
                              unfold stpErr
                              rw [HS0.out, if_neg (by rw [HGOOD.out]; decide), if_neg (by simp [hk0])]
                            have hk02 : decide (0 < k3) = false := decide_eq_false hk0
                            go_wp2_with fail
                            refine wp_region_quiet_below (by kernel_rfl) (by kernel_rfl) ?_
                            repeat (go_big_quiet_step (fail))
                            refine wpQuiet_nil ?_
                            intro _ hw'
                            obtain ⟨⟨dq, osq⟩, hw''⟩ := hw'
                            subst hw''
                            have HB12 := Lib.hid (regrown_on HB11.out HB11.out.size dq osq)
                            clear e0 e1 e2 e4
                            generalize grow (redrawn w11 dq) osq = w12 at *
                            go_wp2_with fail
                            go_roundw
                            case rel =>
                              refine ⟨k3 + 1, by omega, by go_num, HB12.out, fun j h => ?_⟩
                              rcases Nat.lt_or_ge j k3 with h1 | h1
                              · exact HALL.out j h1
                              · obtain rfl : j = k3 := by omega
                                exact HE.out
                            case measure => simp [intOf]; omega
                  · have HF : Hid (ck = 0) := by
                      show ck = 0
                      rw [HCS.out, ckS_zero]
                      intro j h1 h2
                      exact HALL.out j (by omega)
                    go_wp2_with fail
                    go_ret
                    exact ⟨ret_int HF.out.symm, Below_on HBW.out HB7.out HBW.out.size⟩
      · have hg1 : ((a.gs.length : Int) != a.st) = true := by simpa using hg
        have HF : Hid (ck = 1) := by show ck = 1; rw [HCK.out]; exact ckA_1 HOK.out hg
        clear hg
        go_wp2_with fail
        go_ret
        exact ⟨ret_int HF.out.symm, Below_on HBW.out HB2.out HBW.out.size⟩
end Go.Proofs.Ytoglgeaiiipchaa

namespace Go.Proofs.Ytoglgeaiiipchaa
open Go Go.RowKit

theorem infoStp : (Try.prog.info? 90).map (fun i => (i.zero, i.size, i.bytes)) = some (some (.agg #[.int .i64 0, .int .i64 0, .int .i64 0]), 3, 24) := by kernel_rfl
/-- what is handed back is a row of the call's own -/
def OwnP (t : TypeId) (sz n : Nat) (cells : List Value) (w : World) (e : Ending) (w' : World) : Prop :=
  ∃ v, e = .returned v ∧ w'.ownsRow w.heap.size t sz v n cells ∧ Below w.heap.size w w'
set_option maxRecDepth 100000 in
theorem CloneIO_ (A : Option Addr) (c : Nat) (xs : List Int) (w : World) (hx : Ints w 0 A c xs) :
    Calls Try.prog 41 #[.slice A xs.length c] w (OwnP 3 1 xs.length (xs.flatMap fun n : Int => [Value.int .i64 n]) w) := by
  obtain ⟨i0, hi0, hz0, hz1, hz2⟩ := info_parts infoInt
  have hmax := hx.max
  have q24 : ∀ (w : World) (a : Option Addr) (n c n' c' : Nat), (binOp .eql 24 (.slice a n c) (.slice none n' c')).run Try.prog w = .ok (.bool a.isNone) w := fun w a n c n' c' => Lib.run_eql_slice_nil w _ _ a n c n' c' Try.underlying24
  cases A with
  | none =>
    have hxs : xs = [] := by
      cases xs with
      | nil => rfl
      | cons x r =>
        obtain ⟨b, off, h, _⟩ := hx.rd (by simp)
        cases h
    subst hxs
    have HP : Hid (OwnP 3 1 0 [] w (.returned (.slice none 0 0)) w) := ⟨_, rfl, World.ownsRow_nil _ _ _ _, Below.refl _ _⟩
    go_enter Try.func41, Try.ntmps41
    go_wp2_with fail
    go_ret
    exact HP.out
  | some a =>
    have HX := Lib.hid (hx.rd.below (w' := w.alloc (Obj.cells #[] 3)) ((Below.refl _ _).alloc (Nat.le_refl _) _) (Nat.le_refl _))
    have HO := Lib.hid (own_empty (w := w) (base := w.heap.size) 3 1 (Nat.le_refl _))
    have m2 : (0 + xs.length) * 8 ≤ 140737488355328 := by omega
    have m3 : 0 + xs.length ≤ maxLen := by simp only [maxLen]; omega
    have m4 : w.heap.size ≤ (w.alloc (Obj.cells #[] 3)).heap.size := by simp
    clear hx hmax
    go_enter Try.func41, Try.ntmps41
    go_wp2_with (at_builtin; refine wpList_app _ rfl (.tmp 5) (.tmp 6) _ rfl w.heap.size 3 i0 _ 1 8 Try.underlying24 hi0 hz0 hz1 hz2 rfl (by decide) (.slice (some ⟨w.heap.size, 0, none⟩) 0 0) 0 [] rfl HO.out (some a) xs.length c _ rfl (flatMap_len (sz := 1) (fun _ => rfl) _) HX.out (ints_oneCell _) m3 m2 m4 ?_; intro v2 w2 hown2 hg2 hat2)
    have HP : Hid (OwnP 3 1 xs.length (xs.flatMap fun n : Int => [Value.int .i64 n]) w (.returned v2) w2) :=
      ⟨v2, rfl, by simpa using hown2, grownOwn_ ((Below.refl _ _).alloc (Nat.le_refl _) _) hg2 HO.out (Nat.le_refl _) (by simp)⟩
    clear hown2 hg2 hat2
    go_wp2_with fail
    go_ret
    exact HP.out
set_option maxRecDepth 100000 in
theorem CloneSO_ (A : Option Addr) (c : Nat) (xs : List Stp) (w : World) (hx : Stps w 0 A c xs) :
    Calls Try.prog 60 #[.slice A xs.length c] w (OwnP 90 3 xs.length (xs.flatMap Stp.cells) w) := by
  obtain ⟨i0, hi0, hz0, hz1, hz2⟩ := info_parts infoStp
  have hmax := hx.max
  have q24 : ∀ (w : World) (a : Option Addr) (n c n' c' : Nat), (binOp .eql 47 (.slice a n c) (.slice none n' c')).run Try.prog w = .ok (.bool a.isNone) w := fun w a n c n' c' => Lib.run_eql_slice_nil w _ _ a n c n' c' Try.underlying47
  cases A with
  | none =>
    have hxs : xs = [] := by
      cases xs with
      | nil => rfl
      | cons x r =>
        obtain ⟨b, off, h, _⟩ := hx.rd (by simp [Stp.cells])
        cases h
    subst hxs
    have HP : Hid (OwnP 90 3 0 [] w (.returned (.slice none 0 0)) w) := ⟨_, rfl, World.ownsRow_nil _ _ _ _, Below.refl _ _⟩
    go_enter Try.func60, Try.ntmps60
    go_wp2_with fail
    go_ret
    exact HP.out
  | some a =>
    have HX := Lib.hid (hx.rd.below (w' := w.alloc (Obj.cells #[] 90)) ((Below.refl _ _).alloc (Nat.le_refl _) _) (Nat.le_refl _))
    have HO := Lib.hid (own_empty (w := w) (base := w.heap.size) 90 3 (Nat.le_refl _))
    have m2 : (0 + xs.length) * 24 ≤ 140737488355328 := by omega
    have m3 : 0 + xs.length ≤ maxLen := by simp only [maxLen]; omega
    have m4 : w.heap.size ≤ (w.alloc (Obj.cells #[] 90)).heap.size := by simp
    clear hx hmax
    go_enter Try.func60, Try.ntmps60
    go_wp2_with (at_builtin; refine wpList_app _ rfl (.tmp 5) (.tmp 6) _ rfl w.heap.size 90 i0 _ 3 24 Try.underlying47 hi0 hz0 hz1 hz2 rfl (by decide) (.slice (some ⟨w.heap.size, 0, none⟩) 0 0) 0 [] rfl HO.out (some a) xs.length c _ rfl (flatMap_len (sz := 3) (fun _ => rfl) _) HX.out (stps_oneCell _) m3 m2 m4 ?_; intro v2 w2 hown2 hg2 hat2)
    have HP : Hid (OwnP 90 3 xs.length (xs.flatMap Stp.cells) w (.returned v2) w2) :=
      ⟨v2, rfl, by simpa using hown2, grownOwn_ ((Below.refl _ _).alloc (Nat.le_refl _) _) hg2 HO.out (Nat.le_refl _) (by simp)⟩
    clear hown2 hg2 hat2
    go_wp2_with fail
    go_ret
    exact HP.out

/-- what Grow leaves of nothing: room, and no element -/
def GrowPostB (w : World) (t : TypeId) (e : Ending) (w' : World) : Prop :=
  ∃ v, e = .returned v ∧ w'.ownsRow w.heap.size t 1 v 0 [] ∧ Below w.heap.size w w'

set_option maxRecDepth 100000 in
theorem GrowB_ (n : Nat) (hn : n ≤ 100000000) (w : World) :
    Calls Try.prog 95 #[.slice none 0 0, .int .i64 n] w (GrowPostB w 4) := by
  obtain ⟨i0, hi0, hz0, hz1, hz2⟩ := info_parts infoBool
  by_cases h0 : n = 0
  · subst h0
    have HP : Hid (GrowPostB w 4 (.returned (.slice none 0 0)) w) := ⟨_, rfl, World.ownsRow_nil _ _ _ _, Below.refl _ _⟩
    go_enter Try.func95, Try.ntmps95
    go_wp2
    go_ret
    exact HP.out
  · have hp : 0 < n := by omega
    have hap := Lib.run_append_grow_zeros (P := Try.prog) w 37 3 37 4 i0 _ .i64 .i64 Try.underlying37 Try.underlying3 hi0 hz0 none 0 0 [] (by rw [hz1]; rfl) n hp (by omega) (by omega) (by omega) (by rw [hz2]; omega) (by rw [hz2, show Builtin.nextslicecap (0 + n) 0 = n by simp [Builtin.nextslicecap, hp]]; omega)
    have hcap := grownCap_ge w (0 + n) 0 4
    have hcap2 := grownCap_le_maxLen w (0 + n) 0 4 (by simp only [maxLen]; omega)
    simp only [Nat.zero_add] at hap hcap hcap2
    generalize grownCap w n 0 4 = cp at *
    go_enter Try.func95, Try.ntmps95
    have HAP := Lib.hid hap
    clear hap
    go_wp2_with (at_builtin; refine wpList_appRun rfl (.tmp 20) (.tmp 21) _ _ rfl _ _ _ rfl rfl HAP.out ?_)
    have HP : Hid (GrowPostB w 4 (.returned (.slice (some ⟨w.heap.size, 0, none⟩) 0 cp)) (w.alloc (Obj.cells (Builtin.zeroCells #[Value.bool false] n ++ Builtin.zeroCells #[Value.bool false] (cp - n)) 4)).drew) := by
      refine ⟨_, rfl, own_room _ _ (Nat.le_refl _) (by simpa using hcap2) ?_, ((Below.refl _ _).alloc (Nat.le_refl _) _).drew⟩
      simp [Builtin.zeroCells]
      try omega
    go_ret
    exact HP.out

set_option maxRecDepth 100000 in
set_option maxHeartbeats 1000000 in
theorem ConcatBO_ (G : Nat) (A B : Option Addr) (ca cb : Nat) (xs ys : List Bool) (w : World) (hx : Bools w 0 A ca xs) (hy : Bools w 0 B cb ys) (hl : xs.length + ys.length ≤ 100000000)
    (h0 : w.cell? ⟨G, 0, none⟩ = some (.slice A xs.length ca)) (h1 : w.cell? ⟨G, 1, none⟩ = some (.slice B ys.length cb)) (hG : G < w.heap.size) :
    Calls Try.prog 59 #[.slice (some ⟨G, 0, none⟩) 2 2] w (OwnP 4 1 (xs ++ ys).length ((xs ++ ys).flatMap fun b : Bool => [Value.bool b]) w) := by
  obtain ⟨i0, hi0, hz0, hz1, hz2⟩ := info_parts infoBool
  go_enter Try.func59, Try.ntmps59
  go_wp2
  go_loop [3, 11] (fun s i => ∃ k : Nat, k ≤ 2 ∧ i = .int .i64 k ∧ s = .int .i64 (if k = 0 then 0 else if k = 1 then xs.length else xs.length + ys.length : Nat)) (fun _ i => 2 - (intOf i).toNat)
  case atStart => exact ⟨0, by omega, rfl, rfl⟩
  case round =>
    obtain ⟨k, hk, rfl, rfl⟩ := hrel
    have hk3 : k = 0 ∨ k = 1 ∨ k = 2 := by omega
    rcases hk3 with rfl | rfl | rfl
    · go_wp2
      go_round
      case rel => exact ⟨1, by omega, rfl, rfl⟩
      case measure => simp [intOf]
    · go_wp2
      go_round
      case rel => exact ⟨2, by omega, rfl, by simp⟩
      case measure => simp [intOf]
    · go_wp2_with fail
      rw [show ((xs.length : Int) + (ys.length : Int)) = ((xs.length + ys.length : Nat) : Int) from by omega]
      refine (GrowB_ _ hl w).mono ?_
      rintro e w1 ⟨v, rfl, hown, hb1⟩
      have HO := Lib.hid hown
      clear hown
      go_wp2
      go_loopw [6, 27] (fun v i wr => ∃ (k : Nat) (zs : List Bool), k ≤ 2 ∧ i = .int .i64 k ∧ Hid (zs = if k = 0 then [] else if k = 1 then xs else xs ++ ys) ∧ wr.ownsRow w.heap.size 4 1 v zs.length (zs.flatMap fun b : Bool => [Value.bool b]) ∧ Below w.heap.size w wr) (fun _ i _ => 2 - (intOf i).toNat)
      case atStart => exact ⟨0, [], by omega, rfl, rfl, by simpa using HO.out, hb1⟩
      case round =>
        obtain ⟨k, zs, hk, rfl, hzs, hown, hb⟩ := hrel
        have HOW := Lib.hid hown
        have HB := Lib.hid hb
        have g0 : wr.cell? ⟨G, 0, none⟩ = some (.slice A xs.length ca) := (hb.cell (p := ⟨G, 0, none⟩) hG).trans h0
        have g1 : wr.cell? ⟨G, 1, none⟩ = some (.slice B ys.length cb) := (hb.cell (p := ⟨G, 1, none⟩) hG).trans h1
        have HX := Lib.hid (hx.below hb)
        have HY := Lib.hid (hy.below hb)
        clear hown hb
        have hk3 : k = 0 ∨ k = 1 ∨ k = 2 := by omega
        rcases hk3 with rfl | rfl | rfl
        · obtain rfl : zs = [] := by simpa using hzs.out
          have m2 : (0 + xs.length) * 1 ≤ 140737488355328 := by omega
          have m3 : 0 + xs.length ≤ maxLen := by simp only [maxLen]; omega
          go_wp2_with (at_builtin; refine wpList_app _ rfl (.tmp 31) (.tmp 32) _ rfl w.heap.size 4 i0 _ 1 1 Try.underlying37 hi0 hz0 hz1 hz2 rfl (by decide) u6 0 [] rfl HOW.out A xs.length ca _ rfl (flatMap_len (sz := 1) (fun _ => rfl) _) HX.out.rd (bools_oneCell _) m3 m2 HB.out.size ?_; intro v2 w2 hown2 hg2 hat2)
          go_roundw
          case rel => exact ⟨1, xs, by omega, rfl, show _ = _ from by simp, by simpa using hown2, grownOwn_ HB.out hg2 HOW.out (Nat.le_refl _) HB.out.size⟩
          case measure => simp [intOf]
        · obtain rfl : zs = xs := by simpa using hzs.out
          have m2 : (zs.length + ys.length) * 1 ≤ 140737488355328 := by omega
          have m3 : zs.length + ys.length ≤ maxLen := by simp only [maxLen]; omega
          go_wp2_with (at_builtin; refine wpList_app _ rfl (.tmp 31) (.tmp 32) _ rfl w.heap.size 4 i0 _ 1 1 Try.underlying37 hi0 hz0 hz1 hz2 rfl (by decide) u6 _ _ rfl HOW.out B ys.length cb _ rfl (flatMap_len (sz := 1) (fun _ => rfl) _) HY.out.rd (bools_oneCell _) m3 m2 HB.out.size ?_; intro v2 w2 hown2 hg2 hat2)
          go_roundw
          case rel => exact ⟨2, zs ++ ys, by omega, rfl, show _ = _ from by simp, by simpa using hown2, grownOwn_ HB.out hg2 HOW.out (Nat.le_refl _) HB.out.size⟩
          case measure => simp [intOf]
        · obtain rfl : zs = xs ++ ys := by simpa using hzs.out
          have HP : Hid (OwnP 4 1 (xs ++ ys).length ((xs ++ ys).flatMap fun b : Bool => [Value.bool b]) w (.returned u6) wr) := ⟨u6, rfl, HOW.out, HB.out⟩
          clear HOW hzs
          go_wp2
          go_ret
          exact HP.out
end Go.Proofs.Ytoglgeaiiipchaa
