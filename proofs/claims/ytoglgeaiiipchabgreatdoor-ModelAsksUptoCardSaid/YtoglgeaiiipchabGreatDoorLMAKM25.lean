import Derived.Test.YtoglgeaiiipchabGreatDoorLMAKM24
import Derived.Test.YtoglgeaiiipchabGreatDoorLMAKM10
import Derived.Test.YtoglgeaiiipchabGreatDoorLMAKM8
import Derived.Test.YtoglgeaiiipchabGreatDoorLMAKM5
import Derived.Test.YtoglgeaiiipchabGreatDoorLMAKM12
set_option linter.unusedSimpArgs false
set_option linter.unusedVariables false
namespace Go.Proofs.YtoglgeaiiipchabGreatDoor
open Go Go.RowKit
set_option maxRecDepth 100000 in
theorem mwithin_ (n a b : Int) (w : World) : Calls Tryz.prog 79 #[.int .i64 n, .int .i64 a, .int .i64 b] w fun e w' => e = .returned (.bool (btw n a b)) ∧ Below w.heap.size w w' := by
  have HB := Lib.hid (Below.refl w.heap.size w)
  go_enter Tryz.func79, Tryz.ntmps79
  by_cases h1 : a ≤ n
  · by_cases h2 : n ≤ b
    · have HV : Hid (btw n a b = true) := (btw_iff _ _ _).2 ⟨h1, h2⟩
      go_wp2_with fail
      all_goals (go_ret; exact ⟨ret_bool (by rw [HV.out]), HB.out⟩)
    · have HV : Hid (btw n a b = false) := by
        show _ = _
        cases h : btw n a b with
        | false => rfl
        | true => exact absurd ((btw_iff _ _ _).1 h).2 h2
      go_wp2_with fail
      all_goals (go_ret; exact ⟨ret_bool (by rw [HV.out]), HB.out⟩)
  · have HV : Hid (btw n a b = false) := by
      show _ = _
      cases h : btw n a b with
      | false => rfl
      | true => exact absurd ((btw_iff _ _ _).1 h).1 h1
    go_wp2_with fail
    all_goals (go_ret; exact ⟨ret_bool (by rw [HV.out]), HB.out⟩)
def noM (n : Nat) (q : Int) : Bool := !btw q 0 ((n : Int) - 1)
def badP (pr q : Int) : Bool := !btw q 0 ((2 : Int) ^ pr.toNat - 1)
theorem btwD (n a b : Int) : btw n a b = (decide (a ≤ n) && decide (n ≤ b)) := by
  rw [Bool.eq_iff_iff, btw_iff, Bool.and_eq_true, decide_eq_true_iff, decide_eq_true_iff]
set_option maxRecDepth 100000 in
theorem modelCheck1_ (A : Option Addr) (n ca V : Nat) (hn : n ≤ 1000000000) (w : World) (hc : w.cell? ⟨V, 1, none⟩ = some (.slice A n ca)) (hV : V < w.heap.size) : PredV Tryz.prog 78 #[.pointer (some ⟨V, 0, none⟩)] (noM n) w := by
  intro q W hW
  have hc' : W.cell? ⟨V, 1, none⟩ = some (.slice A n ca) := (hW.cell (p := ⟨V, 1, none⟩) hV).trans hc
  clear hc hW
  simp only [List.append_toArray, List.cons_append, List.nil_append]
  have C1 := Lib.hid (fun W => mwithin_ q 0 ((n : Int) - 1) W)
  obtain ⟨bb, hbb⟩ : ∃ bb, bb = btw q 0 ((n : Int) - 1) := ⟨_, rfl⟩
  rw [← hbb] at C1
  have HBB := Lib.hid hbb
  clear hbb
  go_enter Tryz.func78, Tryz.ntmps78
  go_wp2_with fail
  refine (C1.out _).mono ?_
  rintro e w4 ⟨rfl, hx4⟩
  have HX := Lib.hid hx4
  clear hx4
  go_wp2_with fail
  go_ret
  exact ⟨ret_bool (by unfold noM; rw [← HBB.out]), HX.out⟩
set_option maxRecDepth 100000 in
theorem modelCheck2_ (pr : Int) (h0 : 0 ≤ pr ∧ pr ≤ 3) (V : Nat) (w : World) (hc : w.cell? ⟨V, 0, none⟩ = some (.int .i64 pr)) (hV : V < w.heap.size) : PredV Tryz.prog 80 #[.pointer (some ⟨V, 0, none⟩)] (badP pr) w := by
  intro q W hW
  have hc' : W.cell? ⟨V, 0, none⟩ = some (.int .i64 pr) := (hW.cell (p := ⟨V, 0, none⟩) hV).trans hc
  clear hc hW
  simp only [List.append_toArray, List.cons_append, List.nil_append]
  have HB := Lib.hid (Below.refl W.heap.size W)
  have hp : pr = 0 ∨ pr = 1 ∨ pr = 2 ∨ pr = 3 := by omega
  clear h0
  go_enter Tryz.func80, Tryz.ntmps80
  rcases hp with rfl | rfl | rfl | rfl
  all_goals
    go_wp2_with fail
    all_goals (go_ret; refine ⟨ret_bool ?_, HB.out⟩; unfold badP; rw [btwD, Bool.eq_iff_iff]; simp; try omega)
theorem modelCheck1Enters : Enters Tryz.prog 78 := enters_of Tryz.func78 (by kernel_rfl) rfl
theorem modelCheck2Enters : Enters Tryz.prog 80 := enters_of Tryz.func80 (by kernel_rfl) rfl
theorem ckM_la {m : Mo} (h : okM m) (hb : anyB (badP m.pr) m.ls = true) : ckM m = 3 := by
  unfold ckM
  rw [if_neg (by rw [h.1]; decide), if_neg (by have := h.2.1; omega), if_neg (by have := h.2.2; omega), if_pos]
  exact hb
theorem ckM_fa {m : Mo} (h : okM m) (hl : anyB (badP m.pr) m.ls = false) (hb : anyB (noM m.ls.length) m.fs = true) : ckM m = 5 := by
  unfold ckM
  rw [if_neg (by rw [h.1]; decide), if_neg (by have := h.2.1; omega), if_neg (by have := h.2.2; omega), if_neg, if_pos]
  · exact hb
  · show ¬ anyB (badP m.pr) m.ls = true
    rw [hl]; decide
theorem ckM_ra {m : Mo} (h : okM m) (hl : anyB (badP m.pr) m.ls = false) (hf : anyB (noM m.ls.length) m.fs = false) : ckM m = ckMRows m.ls.length m.ss := by
  unfold ckM
  rw [if_neg (by rw [h.1]; decide), if_neg (by have := h.2.1; omega), if_neg (by have := h.2.2; omega), if_neg, if_neg]
  · show ¬ anyB (noM m.ls.length) m.fs = true
    rw [hf]; decide
  · show ¬ anyB (badP m.pr) m.ls = true
    rw [hl]; decide
theorem ckMRow_a {n : Nat} {r : List Int} (h0 : r.length ≠ 0) : ckMRow n r = if anyB (noM n) r = true then 5 else 0 := by
  unfold ckMRow
  rw [if_neg h0]
  rfl
set_option maxRecDepth 100000 in
set_option maxHeartbeats 8000000 in
theorem modelCheck_ (m : Mo) (A B C : Option Addr) (ca cb cc : Nat) (vs : List RwS) (w : World) (hr : MoRd w 0 m A B C ca cb cc vs) :
    Calls Tryz.prog 41 #[.agg #[.int .i64 m.pr, .slice A m.ls.length ca, .slice B m.fs.length cb, .slice C m.ss.length cc]] w (IntB w (ckM m)) := by
  have HW := Lib.hid (moW_is w m A B C ca cb cc)
  have HR := Lib.hid (hr.below HW.out.below)
  have l1 := hr.ls.le
  have l2 := hr.ls.max
  have l3 := hr.fs.le
  have l4 := hr.fs.max
  have l5 := hr.ss.le
  have l6 := hr.ss.max
  rw [hr.len] at l5 l6
  clear hr
  go_enter Tryz.func41, Tryz.ntmps41
  obtain ⟨b1, hb1⟩ : ∃ b, b = btw m.pr 0 3 := ⟨_, rfl⟩
  have K1 := Lib.hid (fun W => mwithin_ m.pr 0 3 W)
  rw [← hb1] at K1
  obtain ⟨ck, hck⟩ : ∃ c, c = ckM m := ⟨_, rfl⟩
  rw [← hck]
  have HCK := Lib.hid hck
  have H1 := Lib.hid hb1
  clear hck hb1
  go_wp2_with fail
  change Calls _ _ _ (moW w m A B C ca cb cc) _
  generalize moW w m A B C ca cb cc = W0 at *
  have HA := Lib.hid HW.out.at_
  obtain ⟨V, hV⟩ : ∃ V, V = w.heap.size := ⟨_, rfl⟩
  rw [← hV] at HA ⊢
  have HBW : Hid (Below w.heap.size w W0) := HW.out.below
  have hV0 := HA.out.lt
  clear hV HW
  refine (K1.out _).mono ?_
  rintro e w1 ⟨rfl, hx1⟩
  have HB1 := Lib.hid hx1
  obtain ⟨_, c0, c1, c2, c3⟩ := HA.out.below hx1 hV0
  clear hx1
  cases b1 with
  | false =>
    have HF : Hid (ck = 3) := by show ck = 3; rw [HCK.out]; exact ckM_3 H1.out.symm
    go_wp2_with fail
    go_ret
    exact ⟨ret_int HF.out.symm, Below_on HBW.out HB1.out HBW.out.size⟩
  | true =>
    by_cases h12 : 12 < (m.ls.length : Int)
    · have HF : Hid (ck = 2) := by show ck = 2; rw [HCK.out]; exact ckM_2 H1.out.symm h12
      go_wp2_with fail
      go_ret
      exact ⟨ret_int HF.out.symm, Below_on HBW.out HB1.out HBW.out.size⟩
    · by_cases hz : m.ls.length = 0
      · have HF : Hid (ck = 1) := by show ck = 1; rw [HCK.out]; exact ckM_1 H1.out.symm h12 (.inl hz)
        have hz' : ((m.ls.length : Int) == 0) = true := by simp [hz]
        clear hz
        go_wp2_with fail
        go_ret
        exact ⟨ret_int HF.out.symm, Below_on HBW.out HB1.out HBW.out.size⟩
      · have hz' : ((m.ls.length : Int) == 0) = false := by rw [beq_eq_false_iff_ne]; omega
        by_cases hq : m.ss.length = m.ls.length
        · have HOK : Hid (okM m) := ⟨H1.out.symm, by omega, by omega, hq⟩
          have HPR : Hid (0 ≤ m.pr ∧ m.pr ≤ 3) := (btw_iff _ _ _).1 H1.out.symm
          have hq' : ((m.ss.length : Int) != (m.ls.length : Int)) = false := by simp [hq]
          have HQ := Lib.hid hq
          have HN12 : Hid (m.ls.length ≤ 12) := by show _ ≤ _; omega
          have h12' : (m.ls.length : Int) ≤ 12 := by omega
          have HC1 := Lib.hid (fun W (hW : Below W0.heap.size W0 W) => modelCheck1_ A m.ls.length ca V (by omega) W (HA.out.below hW HA.out.lt).c1 (HA.out.below hW HA.out.lt).lt)
          have HC2 := Lib.hid (fun W (hW : Below W0.heap.size W0 W) => modelCheck2_ m.pr HPR.out V W (HA.out.below hW HA.out.lt).c0 (HA.out.below hW HA.out.lt).lt)
          clear hq K1 H1 h12
          go_wp2_with fail
          refine (ContainsFuncI_ _ _ _ _ _ (badP m.pr) _ (HR.out.ls.below HB1.out) modelCheck2Enters (HC2.out _ HB1.out)).mono ?_
          rintro e w2 ⟨rfl, hx2⟩
          have HB2 := Lib.hid (Below_on HB1.out hx2 HB1.out.size)
          clear hx2 c0 c1 c2 c3 hq' hz' hz h12' HC2
          obtain ⟨b2, hb2⟩ : ∃ b, b = anyB (badP m.pr) m.ls := ⟨_, rfl⟩
          rw [← hb2]
          have H2 := Lib.hid hb2
          clear hb2
          obtain ⟨_, c0, c1, c2, c3⟩ := HA.out.below HB2.out HA.out.lt
          cases b2 with
          | true =>
            have HF : Hid (ck = 3) := by show ck = 3; rw [HCK.out]; exact ckM_la HOK.out H2.out.symm
            go_wp2_with fail
            go_ret
            exact ⟨ret_int HF.out.symm, Below_on HBW.out HB2.out HBW.out.size⟩
          | false =>
            go_wp2_with fail
            refine (ContainsFuncI_ _ _ _ _ _ (noM m.ls.length) _ (HR.out.fs.below HB2.out) modelCheck1Enters (HC1.out _ HB2.out)).mono ?_
            rintro e w3 ⟨rfl, hx3⟩
            have HB3 := Lib.hid (Below_on HB2.out hx3 HB2.out.size)
            clear hx3 c0 c1 c2 c3
            obtain ⟨b3, hb3⟩ : ∃ b, b = anyB (noM m.ls.length) m.fs := ⟨_, rfl⟩
            rw [← hb3]
            have H3 := Lib.hid hb3
            clear hb3
            obtain ⟨_, c0, c1, c2, c3⟩ := HA.out.below HB3.out HA.out.lt
            cases b3 with
            | true =>
              have HF : Hid (ck = 5) := by show ck = 5; rw [HCK.out]; exact ckM_fa HOK.out H2.out.symm H3.out.symm
              go_wp2_with fail
              go_ret
              exact ⟨ret_int HF.out.symm, Below_on HBW.out HB3.out HBW.out.size⟩
            | false =>
              go_wp2_with fail
              clear c0 c1 c2 c3
              go_loopw [5, 44] (fun s i wr => ∃ k : Nat, k ≤ m.ss.length ∧ i = .int .i64 (k : Int) ∧ Hid (Below W0.heap.size W0 wr) ∧ Hid (ck = ckMRows m.ls.length (m.ss.drop k))) (fun _ i _ => m.ss.length - (intOf i).toNat)
              case atStart => exact ⟨0, Nat.zero_le _, rfl, HB3, by show _ = _; rw [HCK.out, ckM_ra HOK.out H2.out.symm H3.out.symm, List.drop_zero]⟩
              case round =>
                obtain ⟨k, hk, rfl, HB4, HCR⟩ := hrel
                obtain ⟨_, c0, c1, c2, c3⟩ := HA.out.below HB4.out HA.out.lt
                by_cases hkl : k < m.ss.length
                · have hk1 : (k : Int) < (m.ss.length : Int) := by omega
                  have HRW := Lib.hid (ckMRows_drop (n := (m.ls.length : Int)) hkl)
                  obtain ⟨b, off, hC, _, q, hi⟩ := (HR.out.below HB4.out).at_ hkl
                  subst hC
                  generalize m.ss.getD k [] = r at *
                  generalize (vs.getD k rw0).1 = D at *
                  generalize (vs.getD k rw0).2.2 = cd at *
                  have r1 := hi.le
                  have r2 := hi.max
                  have HI := Lib.hid hi
                  clear hi
                  by_cases h0 : r.length = 0
                  · have HF : Hid (ck = 4) := by show ck = 4; rw [HCR.out, HRW.out, ckMRow_4 h0]; rfl
                    have h0' : ((r.length : Int) == 0) = true := by simp [h0]
                    clear h0
                    go_wp2_with fail
                    go_ret
                    exact ⟨ret_int HF.out.symm, Below_on HBW.out HB4.out HBW.out.size⟩
                  · have h0' : ((r.length : Int) == 0) = false := by rw [beq_eq_false_iff_ne]; omega
                    have HRA := Lib.hid (ckMRow_a (n := m.ls.length) h0)
                    clear h0
                    go_wp2_with fail
                    refine (ContainsFuncI_ _ _ _ _ _ (noM m.ls.length) _ HI.out modelCheck1Enters (HC1.out _ HB4.out)).mono ?_
                    rintro e w5 ⟨rfl, hx5⟩
                    have HB5 := Lib.hid (Below_on HB4.out hx5 HB4.out.size)
                    clear hx5 h0' q c0 c1 c2 c3
                    generalize anyB (noM m.ls.length) r = bb at *
                    cases bb with
                    | true =>
                      have HF : Hid (ck = 5) := by show ck = 5; rw [HCR.out, HRW.out, HRA.out]; rfl
                      go_wp2_with fail
                      go_ret
                      exact ⟨ret_int HF.out.symm, Below_on HBW.out HB5.out HBW.out.size⟩
                    | false =>
                      have HNX : Hid (ck = ckMRows m.ls.length (m.ss.drop (k + 1))) := by
                        show _ = _
                        rw [HCR.out, HRW.out, HRA.out]; rfl
                      go_wp2_with fail
                      go_roundw
                      case rel => exact ⟨k + 1, by omega, by go_num, HB5, HNX⟩
                      case measure => simp [intOf]; omega
                · have hk1 : ¬ (k : Int) < (m.ss.length : Int) := by omega
                  have HF : Hid (ck = 0) := by show ck = 0; rw [HCR.out, List.drop_of_length_le (by omega)]; rfl
                  go_wp2_with fail
                  go_ret
                  exact ⟨ret_int HF.out.symm, Below_on HBW.out HB4.out HBW.out.size⟩
        · have HF : Hid (ck = 1) := by show ck = 1; rw [HCK.out]; exact ckM_1 H1.out.symm h12 (.inr hq)
          have hq' : ((m.ss.length : Int) != (m.ls.length : Int)) = true := by simp; omega
          clear hq
          go_wp2_with fail
          go_ret
          exact ⟨ret_int HF.out.symm, Below_on HBW.out HB1.out HBW.out.size⟩
end Go.Proofs.YtoglgeaiiipchabGreatDoor

namespace Go.Proofs.YtoglgeaiiipchabGreatDoor
structure FnM (a : Au) (fr : List Int) (dn : Int → Bool) (D : List (Int × Stp)) (q : List Int) (n : Nat) (op : Option Int) : Prop where
  by_ : ByOK a fr D
  qs : ∀ x ∈ q, x ∈ fr ∨ x ∈ D.map Prod.fst
  cl : ∀ x, (x ∈ fr ∨ x ∈ D.map Prod.fst) → x ∈ q ∨ op = some x ∨ ∀ s ∈ a.ss, s.f = x → s.t ∈ D.map Prod.fst
  no : ∀ x ∈ D.map Prod.fst, dn x = false
  few : q.length + (a.st.toNat - D.length) ≤ n
  op_ : ∀ x, op = some x → x ∈ fr ∨ x ∈ D.map Prod.fst
theorem FnM.start (a : Au) (fr : List Int) (dn : Int → Bool) : FnM a fr dn [] fr (a.st.toNat + fr.length) none :=
  ⟨ByOK.nil a fr, fun x h => .inl h, fun x h => .inl (h.elim id fun h => by simp at h), fun x h => by simp at h, by simp; omega, fun x h => by cases h⟩
theorem FnM.pop {a : Au} {fr : List Int} {dn : Int → Bool} {D : List (Int × Stp)} {x : Int} {q : List Int} {n : Nat} (h : FnM a fr dn D (x :: q) n none) : FnM a fr dn D q (n - 1) (some x) ∧ 0 < n := by
  have hf := h.few
  rw [List.length_cons] at hf
  refine ⟨⟨h.by_, fun y hy => h.qs y (List.mem_cons_of_mem _ hy), fun y hy => ?_, h.no, by omega, fun y hy => ?_⟩, by omega⟩
  · rcases h.cl y hy with h1 | h1 | h1
    · rcases List.mem_cons.1 h1 with rfl | h1
      · exact .inr (.inl rfl)
      · exact .inl h1
    · cases h1
    · exact .inr (.inr h1)
  · obtain rfl := Option.some.inj hy
    exact h.qs _ (List.mem_cons_self ..)
theorem FnM.open_in {a : Au} {fr : List Int} {dn : Int → Bool} {D : List (Int × Stp)} {x : Int} {q : List Int} {n : Nat} (h : FnM a fr dn D q n (some x)) {s : Stp} (hs : s ∈ a.ss) (hx : s.f = x) (hn : s.t ∉ D.map Prod.fst) : ByOK a fr (D ++ [(s.t, s)]) :=
  h.by_.add hs hn (by rw [hx]; exact h.op_ x rfl)
theorem FnM.add {a : Au} (hf : AuFit a) {fr : List Int} {dn : Int → Bool} {D : List (Int × Stp)} {x : Int} {q : List Int} {n : Nat} (h : FnM a fr dn D q n (some x)) {s : Stp} (hs : s ∈ a.ss) (hx : s.f = x) (hn : s.t ∉ D.map Prod.fst) (hd : dn s.t = false) :
    FnM a fr dn (D ++ [(s.t, s)]) (q ++ [s.t]) n (some x) := by
  have hb := h.open_in hs hx hn
  have hl := hb.len hf
  have hw := h.few
  have e : (D ++ [(s.t, s)]).map Prod.fst = D.map Prod.fst ++ [s.t] := by simp
  refine ⟨hb, fun y hy => ?_, fun y hy => ?_, fun y hy => ?_, ?_, fun y hy => ?_⟩
  · rw [e]
    rcases List.mem_append.1 hy with hy | hy
    · exact (h.qs y hy).imp id fun h => List.mem_append_left _ h
    · exact .inr (List.mem_append_right _ hy)
  · rw [e] at hy ⊢
    have : (y ∈ fr ∨ y ∈ D.map Prod.fst) ∨ y = s.t := by
      rcases hy with hy | hy
      · exact .inl (.inl hy)
      · rcases List.mem_append.1 hy with hy | hy
        · exact .inl (.inr hy)
        · exact .inr (by simpa using hy)
    rcases this with hy | rfl
    · rcases h.cl y hy with h1 | h1 | h1
      · exact .inl (List.mem_append_left _ h1)
      · exact .inr (.inl h1)
      · exact .inr (.inr fun t ht hty => List.mem_append_left _ (h1 t ht hty))
    · exact .inl (by simp)
  · rw [e] at hy
    rcases List.mem_append.1 hy with hy | hy
    · exact h.no y hy
    · rw [show y = s.t by simpa using hy]; exact hd
  · rw [List.length_append, List.length_append] at *
    simp only [List.length_cons, List.length_nil] at *
    omega
  · rw [e]
    exact (h.op_ y hy).imp id fun h => List.mem_append_left _ h
theorem FnM.shut {a : Au} {fr : List Int} {dn : Int → Bool} {D : List (Int × Stp)} {x : Int} {q : List Int} {n : Nat} (h : FnM a fr dn D q n (some x)) (hc : ∀ s ∈ a.ss, s.f = x → s.t ∈ D.map Prod.fst) : FnM a fr dn D q n none :=
  ⟨h.by_, h.qs, fun y hy => by
    rcases h.cl y hy with h1 | h1 | h1
    · exact .inl h1
    · obtain rfl := Option.some.inj h1
      exact .inr (.inr hc)
    · exact .inr (.inr h1), h.no, h.few, fun y hy => by cases hy⟩
theorem FnM.none_ {a : Au} {fr : List Int} {dn : Int → Bool} {D : List (Int × Stp)} {n : Nat} (h : FnM a fr dn D [] n none) {f y : Int} (hf : f ∈ fr) (hp : Plus (Edge a) f y) : dn y = false := by
  have cl : ∀ x, (x ∈ fr ∨ x ∈ D.map Prod.fst) → ∀ s ∈ a.ss, s.f = x → s.t ∈ D.map Prod.fst := fun x hx => by
    rcases h.cl x hx with h1 | h1 | h1
    · simp at h1
    · cases h1
    · exact h1
  have : ∀ z, Plus (Edge a) f z → z ∈ D.map Prod.fst := by
    intro z hz
    induction hz with
    | one he => obtain ⟨s, hs, h1, rfl⟩ := he; exact cl _ (.inl hf) s hs h1
    | on _ he ih => obtain ⟨s, hs, h1, rfl⟩ := he; exact cl _ (.inr ih) s hs h1
  exact h.no y (this y hp)
def FndS (a : Au) (fr : List Int) (dn : Int → Bool) (r : Int) (D : List (Int × Stp)) : Prop :=
  ByOK a fr D ∧ ((∃ D0 s, D = D0 ++ [(r, s)] ∧ dn r = true ∧ 0 ≤ r ∧ r < a.st) ∨ (r = -1 ∧ ∀ f ∈ fr, ∀ y, Plus (Edge a) f y → dn y = false))
theorem FndS.no {a : Au} {fr : List Int} {dn : Int → Bool} {D : List (Int × Stp)} {n : Nat} (h : FnM a fr dn D [] n none) : FndS a fr dn (-1) D := ⟨h.by_, .inr ⟨rfl, fun _ hf _ hp => h.none_ hf hp⟩⟩
theorem FndS.yes {a : Au} (hf : AuFit a) {fr : List Int} {dn : Int → Bool} {D : List (Int × Stp)} {x : Int} {q : List Int} {n : Nat} (h : FnM a fr dn D q n (some x)) {s : Stp} (hs : s ∈ a.ss) (hx : s.f = x) (hn : s.t ∉ D.map Prod.fst) (hd : dn s.t = true) : FndS a fr dn s.t (D ++ [(s.t, s)]) :=
  ⟨h.open_in hs hx hn, .inl ⟨D, s, rfl, hd, (hf.sr s hs).2.1⟩⟩
structure WayM (a : Au) (D : List (Int × Stp)) (tg : Int) (i : Nat) (out : List Int) : Prop where
  lt : i < D.length
  at_ : out = [] ∧ D[i].1 = tg ∨ Path a D[i].1 out.reverse tg
  few : out.length + i < D.length
theorem WayM.start {a : Au} {D : List (Int × Stp)} {tg : Int} {i : Nat} (h : i < D.length) (ht : D[i].1 = tg) : WayM a D tg i [] := ⟨h, .inl ⟨rfl, ht⟩, by simpa using h⟩
theorem WayM.path {a : Au} {fr : List Int} {D : List (Int × Stp)} {tg : Int} {i : Nat} {out : List Int} (hb : ByOK a fr D) (h : WayM a D tg i out) : Path a (D[i]'h.lt).2.f (out ++ [(D[i]'h.lt).2.l]).reverse tg := by
  have hl := h.lt
  obtain ⟨a1, a2, _⟩ := hb.by_ i hl
  have e : (out ++ [D[i].2.l]).reverse = D[i].2.l :: out.reverse := by simp
  rw [e]
  have hs : (⟨D[i].2.f, D[i].2.l, D[i].1⟩ : Stp) ∈ a.ss := by rw [← a2]; exact a1
  have ha := h.at_
  generalize D[i].1 = y at hs ha
  rcases ha with ⟨h0, rfl⟩ | h1
  · subst h0; exact .one hs
  · exact .cons hs h1
theorem WayM.step {a : Au} {fr : List Int} {D : List (Int × Stp)} {tg : Int} {i : Nat} {out : List Int} (hb : ByOK a fr D) (h : WayM a D tg i out) {first : Int → Bool} (hfr : ∀ x ∈ fr, first x = true) (hno : first (D[i]'h.lt).2.f = false) :
    ∃ j, j < i ∧ WayM a D tg j (out ++ [(D[i]'h.lt).2.l]) ∧ ∃ h' : j < D.length, D[j].1 = (D[i]'h.lt).2.f := by
  obtain ⟨j, j1, j2, j3⟩ := hb.back hfr h.lt hno
  have hp := h.path hb
  have := h.few
  exact ⟨j, j1, ⟨j2, .inr (by rw [j3]; exact hp), by rw [List.length_append]; simp; omega⟩, j2, j3⟩
theorem WayM.len {a : Au} {D : List (Int × Stp)} {tg : Int} {i : Nat} {out : List Int} (h : WayM a D tg i out) (x : Int) : (out ++ [x]).length ≤ D.length := by
  have := h.few
  rw [List.length_append]; simp; omega
def WayS (a : Au) (first : Int → Bool) (tg : Int) (N : Nat) (out : List Int) : Prop := (∃ f, first f = true ∧ Path a f out tg) ∧ out.length ≤ N
theorem WayM.out {a : Au} {fr : List Int} {D : List (Int × Stp)} {tg : Int} {i : Nat} {out : List Int} (hb : ByOK a fr D) (h : WayM a D tg i out) {first : Int → Bool} (hno : first (D[i]'h.lt).2.f = true) : WayS a first tg D.length (out ++ [(D[i]'h.lt).2.l]).reverse :=
  ⟨⟨_, hno, h.path hb⟩, by rw [List.length_reverse]; exact h.len _⟩
theorem Rch.plus {a : Au} {q : Int} (h : Rch a q) : q ∈ a.fs ∨ ∃ f ∈ a.fs, Plus (Edge a) f q := by
  induction h with
  | first h => exact .inl h
  | @step s _ hs ih =>
    rcases ih with h1 | ⟨f, hf, h1⟩
    · exact .inr ⟨_, h1, .one ⟨s, hs, rfl, rfl⟩⟩
    · exact .inr ⟨f, hf, h1.on ⟨s, hs, rfl, rfl⟩⟩
theorem none_takes {a : Au} (hf : AuFit a) (h : ∀ q : Int, 0 ≤ q → q < a.st → Rch a q → a.good q → ¬ Plus (Edge a) q q) (u : Nat → Int) : ¬ TakesU a u := fun ht => by
  obtain ⟨q, hq, h1, h2, h3⟩ := takes_some hf ht
  exact h q hq.1 hq.2 h1 h2 h3
theorem told_of {a : Au} (hf : AuFit a) {n : Int} (hg : a.good n) {loop head : List Int} {D1 : List (Int × Stp)} {fr1 : List Int} (h1 : ByOK a fr1 D1) (hl : WayS a (fun k => k == n) n D1.length loop)
    (hh : head = [] ∧ n ∈ a.fs ∨ ∃ fr2 D2, ByOK a fr2 D2 ∧ WayS a (fun k => decide (k ∈ a.fs)) n D2.length head) : Told a ⟨head, loop⟩ := by
  obtain ⟨⟨f, hfn, hp⟩, hll⟩ := hl
  obtain rfl : f = n := by simpa using hfn
  have l1 := h1.len hf
  refine ⟨⟨f, hg, ?_, hp⟩, ?_, by show (loop.length : Int) ≤ _; omega⟩
  · rcases hh with ⟨h2, h3⟩ | ⟨_, _, _, ⟨g, hg1, hg2⟩, _⟩
    · exact .inl ⟨h2, h3⟩
    · exact .inr ⟨g, by simpa using hg1, hg2⟩
  · show (head.length : Int) ≤ _
    rcases hh with ⟨h2, h3⟩ | ⟨_, D2, h4, _, h5⟩
    · rw [h2]; have := hf.st1; simp; omega
    · have := h4.len hf; omega
end Go.Proofs.YtoglgeaiiipchabGreatDoor

namespace Go.Proofs.YtoglgeaiiipchabGreatDoor
open Go Go.RowKit Go.Maps Go.Shelf
def stV (s : Stp) : Value := .agg #[.int .i64 s.f, .int .i64 s.l, .int .i64 s.t]
def stD (s : Stp) : DataW Unit := .agg [.lit (.int .i64 s.f), .lit (.int .i64 s.l), .lit (.int .i64 s.t)]
def stE (v : Value) : Option (DataW Unit × List MemPlace) :=
  match v with
  | .agg ⟨[.int .i64 f, .int .i64 l, .int .i64 t]⟩ => some (stD ⟨f, l, t⟩, [])
  | _ => none
theorem stE_mk (s : Stp) : stE (stV s) = some (stD s, []) := rfl
theorem stD_inj {s t : Stp} (h : stD s = stD t) : s = t := by
  obtain ⟨f, l, t'⟩ := s
  obtain ⟨f2, l2, t2⟩ := t
  simp [stD] at h
  obtain ⟨rfl, rfl, rfl⟩ := h
  rfl
theorem stE_some {v : Value} {z : DataW Unit × List MemPlace} (h : stE v = some z) : ∃ s, v = stV s ∧ z = (stD s, []) := by
  unfold stE at h
  split at h
  · rename_i f l t
    exact ⟨⟨f, l, t⟩, rfl, (Option.some.inj h).symm⟩
  · cases h
theorem stE_inv {v : Value} {s : Stp} {ps : List MemPlace} (h : stE v = some (stD s, ps)) : v = stV s := by
  obtain ⟨s', rfl, hz⟩ := stE_some h
  simp only [Prod.mk.injEq] at hz
  rw [stD_inj hz.1]
def byD (D : List (Int × Stp)) : DataW Unit := D.foldl (fun m p => m.put (.int .i64 p.1) (stD p.2)) (.map [])
theorem byD_snoc (D : List (Int × Stp)) (p : Int × Stp) : byD (D ++ [p]) = (byD D).put (.int .i64 p.1) (stD p.2) := by unfold byD; rw [List.foldl_append]; rfl
theorem byD_not (z : DataW Unit) {k : Int} : ∀ (D : List (Int × Stp)) (m : DataW Unit), k ∉ D.map Prod.fst → (D.foldl (fun m p => m.put (.int .i64 p.1) (stD p.2)) m).atKey (.int .i64 k) z = m.atKey (.int .i64 k) z
  | [], m, _ => rfl
  | p :: D, m, h => by
    rw [List.map_cons, List.mem_cons] at h
    rw [List.foldl_cons, byD_not z D _ (fun h' => h (.inr h')), atKey_put_other (fun e => h (.inl (by simpa using e)))]
theorem byD_in (z : DataW Unit) {k : Int} {s : Stp} : ∀ (D : List (Int × Stp)) (m : DataW Unit), IsMap m → (D.map Prod.fst).Nodup → (k, s) ∈ D → (D.foldl (fun m p => m.put (.int .i64 p.1) (stD p.2)) m).atKey (.int .i64 k) z = stD s
  | [], m, _, _, h => by cases h
  | p :: D, m, hm, hn, h => by
    rw [List.map_cons, List.nodup_cons] at hn
    rw [List.foldl_cons]
    rcases List.mem_cons.1 h with h1 | h1
    · subst h1
      rw [byD_not z D _ hn.1, atKey_put_same hm (show WideAt.IsKeyLit (.int .i64 k) from trivial)]
    · exact byD_in z D _ (hm.put _ _) hn.2 h1
def ByAt (W : World) (M : Nat) (D : List (Int × Stp)) : Prop := W.ownsMap Tryz.prog 3 stE M D.length (byD D)
theorem ByAt.made (w : World) : ByAt (w.alloc (.map #[] 0)) w.heap.size [] := World.ownsMap_made _ _ _ _
theorem ByAt.kept {W W' : World} {M : Nat} {D : List (Int × Stp)} {row : Option Nat} (h : ByAt W M D) (hg : W.grownBy W' row) (hr : some M ≠ row) : ByAt W' M D := World.ownsMap.kept h hg hr
theorem ByAt.on {W W' : World} {M : Nat} {D : List (Int × Stp)} (h : ByAt W M D) (hb : Below W.heap.size W W') : ByAt W' M D :=
  h.kept (row := none) ⟨hb.os, hb.tape, hb.output, hb.size, fun k hk _ => hb.block k hk⟩ (by simp)
theorem ByAt.lt {W : World} {M : Nat} {D : List (Int × Stp)} (h : ByAt W M D) : M < W.heap.size := World.ownsMap.lt h
theorem ByAt.block {W : World} {M : Nat} {D : List (Int × Stp)} (h : ByAt W M D) : ∃ es c, W.heap[M]? = some (.map es c) := by
  obtain ⟨es, c, h1, _⟩ := h
  exact ⟨es, c, h1⟩
theorem ByAt.step {W : World} {M : Nat} {D : List (Int × Stp)} {s : Stp} (h : W.ownsMap Tryz.prog 3 stE M (D.length + 1) ((byD D).put (.int .i64 s.t) (stD s))) : ByAt W M (D ++ [(s.t, s)]) := by
  unfold ByAt
  rw [byD_snoc, List.length_append]
  exact h
theorem zeroStp (w : World) : (zeroValue 108).run Tryz.prog w = .ok (stV ⟨0, 0, 0⟩) w := by kernel_rfl
theorem keyedInt : Keyed Tryz.prog 3 := int_keyed Tryz.underlying3
theorem keyInt {k : Int} (h : (Lit.int .i64 k).wf = true) : keyOf Tryz.prog 3 (.int .i64 k) = some (.int .i64 k) := keyOf_int_mk Tryz.underlying3 h
theorem ByAt.hit {W : World} {M : Nat} {D : List (Int × Stp)} (h : ByAt W M D) (hn : (D.map Prod.fst).Nodup) {k : Int} {s : Stp} (hk : (Lit.int .i64 k).wf = true) (hs : (k, s) ∈ D) :
    (Instr.lookup 135 (.map (some M)) (.int .i64 k) true).run Tryz.prog W = .ok (.tuple #[stV s, .bool true]) W := by
  obtain ⟨v, ps, hrun, hv⟩ := World.ownsMap.look_ok h keyedInt Tryz.underlying135 (zeroStp W) (stE_mk ⟨0, 0, 0⟩) (keyInt hk)
  rw [show (byD D).atKey (.int .i64 k) (stD ⟨0, 0, 0⟩) = stD s from byD_in _ D _ isMap_empty hn hs] at hv
  rw [hrun, stE_inv hv, has_true_of_atKey (D := byD D) (y := stD s) (fun z => byD_in z D _ isMap_empty hn hs)]
theorem ByAt.miss {W : World} {M : Nat} {D : List (Int × Stp)} (h : ByAt W M D) {k : Int} (hk : (Lit.int .i64 k).wf = true) (hm : k ∉ D.map Prod.fst) :
    (Instr.lookup 135 (.map (some M)) (.int .i64 k) true).run Tryz.prog W = .ok (.tuple #[stV ⟨0, 0, 0⟩, .bool false]) W := by
  obtain ⟨v, ps, hrun, hv⟩ := World.ownsMap.look_ok h keyedInt Tryz.underlying135 (zeroStp W) (stE_mk ⟨0, 0, 0⟩) (keyInt hk)
  rw [show (byD D).atKey (.int .i64 k) (stD ⟨0, 0, 0⟩) = stD ⟨0, 0, 0⟩ from byD_not _ D _ hm] at hv
  rw [hrun, stE_inv hv, has_false_of_atKey (D := byD D) (fun z => byD_not z D _ hm)]
theorem ByAt.get {W : World} {M : Nat} {D : List (Int × Stp)} (h : ByAt W M D) (hn : (D.map Prod.fst).Nodup) {k : Int} {s : Stp} (hk : (Lit.int .i64 k).wf = true) (hs : (k, s) ∈ D) :
    (Instr.lookup 135 (.map (some M)) (.int .i64 k) false).run Tryz.prog W = .ok (stV s) W := by
  obtain ⟨v, ps, hrun, hv⟩ := World.ownsMap.lookup h keyedInt Tryz.underlying135 (zeroStp W) (stE_mk ⟨0, 0, 0⟩) (keyInt hk)
  rw [show (byD D).atKey (.int .i64 k) (stD ⟨0, 0, 0⟩) = stD s from byD_in _ D _ isMap_empty hn hs] at hv
  rw [hrun, stE_inv hv]
theorem ByAt.put {W : World} {M : Nat} {D : List (Int × Stp)} (h : ByAt W M D) (hl : D.length ≤ 1000000) {s : Stp} (hk : (Lit.int .i64 s.t).wf = true) :
    ∃ W', (Instr.mapUpdate 135 (.map (some M)) (.int .i64 s.t) (stV s)).run Tryz.prog W = .ok () W' ∧ ByAt W' M (D ++ [(s.t, s)]) ∧ W.grownBy W' (some M) := by
  obtain ⟨W', h1, h2, h3⟩ := World.ownsMap.update h keyedInt Tryz.underlying135 (by unfold maxLen; omega) (keyInt hk) (stE_mk s)
  exact ⟨W', h1, ByAt.step h2, h3⟩
end Go.Proofs.YtoglgeaiiipchabGreatDoor

namespace Go.Proofs.YtoglgeaiiipchabGreatDoor
open Go Go.RowKit Go.Sort
def FbPost (w : World) (b : Bool) (e : Ending) (w' : World) : Prop := e = .returned (.bool b) ∧ w' = w
def IxPost (w : World) (xs : List Int) (x : Int) (e : Ending) (w' : World) : Prop := ∃ r : Int, e = .returned (.int .i64 r) ∧ (0 ≤ r ↔ x ∈ xs) ∧ w' = w
set_option maxRecDepth 100000 in
theorem Index_ (A : Option Addr) (c : Nat) (xs : List Int) (x : Int) (w : World) (h : Ints w 0 A c xs) : Calls Tryz.prog 115 #[.slice A xs.length c, .int .i64 x] w (IxPost w xs x) := by
  have hle := h.le
  have hcp := h.cap
  have HI := Lib.hid h
  clear h
  go_enter Tryz.func115, Tryz.ntmps115
  go_wp2_with fail
  go_loopw [5, 8] (fun _ v8 wr => ∃ k : Nat, k ≤ xs.length ∧ v8 = .int .i64 (k : Int) ∧ Hid (wr = w) ∧ Hid (x ∉ xs.take k)) (fun _ v8 _ => xs.length - (intOf v8).toNat)
  case atStart => exact ⟨0, Nat.zero_le _, rfl, rfl, by show _ ∉ _; simp⟩
  case round =>
    obtain ⟨k, hk, rfl, HW, HN⟩ := hrel
    obtain rfl := HW.out
    by_cases hkl : k < xs.length
    · have q1 : (k : Int) < (xs.length : Int) := by omega
      obtain ⟨b, o, rfl, _, _, y0⟩ := Ints.at_ HI.out hkl
      by_cases hx : x = xs[k]
      · have hx1 : (x == xs[k]) = true := by simp [hx]
        have HP : Hid (IxPost wr xs x (.returned (.int .i64 (k : Int))) wr) := ⟨k, rfl, ⟨fun _ => by rw [hx]; exact List.getElem_mem hkl, fun _ => by omega⟩, rfl⟩
        clear hx
        generalize xs[k] = y at *
        go_wp2_with fail
        go_ret
        exact HP.out
      · have hx1 : (x == xs[k]) = false := by simp [hx]
        have HN2 : Hid (x ∉ xs.take (k + 1)) := by
          show _ ∉ _
          rw [List.take_succ_eq_append_getElem hkl, List.mem_append, List.mem_singleton]
          rintro (h | h)
          · exact HN.out h
          · exact hx h
        have HX := Lib.hid hkl
        clear hx
        generalize xs[k] = y at *
        go_wp2_with fail
        go_roundw
        case rel => exact ⟨k + 1, HX.out, by go_num, trivial, HN2.out⟩
        case measure => simp [intOf]; have := HX.out; omega
    · have q1 : ¬ (k : Int) < (xs.length : Int) := by omega
      have HP : Hid (IxPost wr xs x (.returned (.int .i64 (-1))) wr) := ⟨-1, rfl, ⟨fun h => by omega, fun h => absurd h (by have := HN.out; rwa [List.take_of_length_le (by omega)] at this)⟩, rfl⟩
      go_wp2_with fail
      go_ret
      exact HP.out
theorem Contains_ (A : Option Addr) (c : Nat) (xs : List Int) (x : Int) (w : World) (h : Ints w 0 A c xs) : Calls Tryz.prog 87 #[.slice A xs.length c, .int .i64 x] w (FbPost w (decide (x ∈ xs))) := by
  have HI := Lib.hid (Index_ A c xs x w h)
  go_enter Tryz.func87, Tryz.ntmps87
  go_wp2_with fail
  refine HI.out.mono ?_
  rintro e w2 ⟨r, rfl, hr, rfl⟩
  have HP : Hid (FbPost w2 (decide (x ∈ xs)) (.returned (.bool (decide (0 ≤ r)))) w2) := ⟨by rw [decide_eq_decide.2 hr], rfl⟩
  clear hr
  go_wp2_with fail
  go_ret
  exact HP.out
theorem first_ (a : Au) (A B C : Option Addr) (ca cb cc V : Nat) (n : Int) (w : World) (hV : AuAt w V a A B C ca cb cc) (hf : Ints w 0 A ca a.fs) : Calls Tryz.prog 86 #[.int .i64 n, .pointer (some ⟨V, 0, none⟩)] w (FbPost w (decide (n ∈ a.fs))) := by
  have HC := Lib.hid (Contains_ A ca a.fs n w hf)
  obtain ⟨_, c0, c1, c2, c3, c4⟩ := hV
  clear hf
  go_enter Tryz.func86, Tryz.ntmps86
  go_wp2_with fail
  refine HC.out.mono ?_
  rintro e w2 ⟨rfl, rfl⟩
  clear c0 c1 c2 c3 c4 HC
  have HP : Hid (FbPost w2 (decide (n ∈ a.fs)) (.returned (.bool (decide (n ∈ a.fs)))) w2) := ⟨rfl, rfl⟩
  go_wp2_with fail
  go_ret
  exact HP.out
theorem is_ (n k : Int) (X : Nat) (w : World) (hX : w.cell? ⟨X, 0, none⟩ = some (.int .i64 n)) : Calls Tryz.prog 88 #[.int .i64 k, .pointer (some ⟨X, 0, none⟩)] w (FbPost w (k == n)) := by
  have HP : Hid (FbPost w (k == n) (.returned (.bool (k == n))) w) := ⟨rfl, rfl⟩
  generalize hb : (k == n) = b at *
  go_enter Tryz.func88, Tryz.ntmps88
  go_wp2_with fail
  go_ret
  exact HP.out
end Go.Proofs.YtoglgeaiiipchabGreatDoor
