import Derived.Test.YtoglgeaiiipchabGreatDoorLMAKM23
import Derived.Test.YtoglgeaiiipchabGreatDoorLMAKM7
import Derived.Test.YtoglgeaiiipchabGreatDoorLMAKM22
import Derived.Test.YtoglgeaiiipchabGreatDoorLMAKM9
import Derived.Test.YtoglgeaiiipchabGreatDoorLMAKM4
set_option linter.unusedSimpArgs false
set_option linter.unusedVariables false
namespace Go.Proofs.YtoglgeaiiipchabGreatDoor
section
variable {l : La} {f : List Nd} (hp : 0 < l.l.length) (hf : FmOK f)
include hp hf
theorem tab_sem {i p : Nat} (hi : i < f.length) (hpn : p < l.n) : gB (tableOf l f) i p = true ↔ (treeAt f i).sem l.at p := by
  have := table_sem hp hf i hi p f.length hi
  rwa [plc_self hpn] at this
end
theorem neg_okS {t : Fm} (h : t.okS) : ∀ b, (t.neg b).okS := by
  induction t with
  | tt => intro b; cases b <;> trivial
  | pr n => intro b; cases b <;> exact h
  | no a ih => intro b; exact ih h _
  | nx a ih => intro b; exact ih h _
  | bi k x y ihx ihy =>
    intro b
    refine ⟨?_, ihx h.2.1 b, ihy h.2.2 b⟩
    cases b
    · exact h.1
    · rcases h.1 with rfl | rfl | rfl | rfl <;> decide
theorem holds_neg {f : List Nd} {l : La} (hc : ckT f l = 0) (he : negE f = 0) : ckT (negF f) l = 0 ∧ (holdsV f l != holdsV (negF f) l) = true := by
  obtain ⟨hcf, hcl⟩ := ckT_F hc
  have hlim := ckT_lim hc
  have ho := ckF_zero.1 hcf
  have hlt : f.length - 1 < f.length := by have := ho.pos; omega
  have hs := treeAt_okS ho _ hlt
  have hm : tooMany (negO f) = false := by
    unfold negE at he
    rw [if_pos hcf] at he
    cases h : tooMany (negO f) with
    | false => rfl
    | true => rw [if_pos h] at he; cases he
  have hn : negF f = ((treeAt f (f.length - 1)).neg true).flat [] := by
    unfold negF
    rw [if_pos hcf, if_neg (by simp [hm])]
    exact Fm.negV_few _ _ _ hm
  have hs2 := neg_okS hs true
  have hpl := ((treeAt f (f.length - 1)).neg true).flat_len []
  have hsp := ((treeAt f (f.length - 1)).neg true).size_pos
  have hm2 : tooMany (((treeAt f (f.length - 1)).neg true).flat []) = false := by
    rw [← Fm.negV_few _ _ _ hm]; exact hm
  have ho2 : FmOK (negF f) := by
    rw [hn]
    exact ⟨by simp at hpl; omega, hm2, flat_ok hs2 [] (fun i h => absurd h (by simp))⟩
  have hc2 : ckT (negF f) l = 0 := by
    unfold ckT
    rw [ckF_zero.2 ho2]
    exact hcl
  refine ⟨hc2, ?_⟩
  have hp : 0 < l.l.length := by unfold La.n at hlim; omega
  have hlt2 : (negF f).length - 1 < (negF f).length := by have := ho2.pos; omega
  have e1 := tab_sem hp ho hlt (p := 0) (by omega)
  have e2 := tab_sem hp ho2 hlt2 (p := 0) (by omega)
  have e3 : treeAt (negF f) ((negF f).length - 1) = (treeAt f (f.length - 1)).neg true := by
    rw [hn]
    have := treeAt_flat ((treeAt f (f.length - 1)).neg true) (Fm.okS_ok hs2) []
    rwa [show ([] : List Nd).length + ((treeAt f (f.length - 1)).neg true).size - 1 = (((treeAt f (f.length - 1)).neg true).flat []).length - 1 by rw [hpl]] at this
  rw [e3, Fm.sem_neg _ (Fm.okS_ok hs), if_pos rfl] at e2
  unfold holdsV
  rw [if_pos hc, if_pos hc2]
  cases h1 : gB (tableOf l f) (f.length - 1) 0 <;> cases h2 : gB (tableOf l (negF f)) ((negF f).length - 1) 0 <;> simp_all
end Go.Proofs.YtoglgeaiiipchabGreatDoor

namespace Go.Proofs.YtoglgeaiiipchabGreatDoor
open Go Go.RowKit
abbrev RwS := Option Addr × Nat × Nat
def rwV (s : RwS) : List Value := [.slice s.1 s.2.1 s.2.2]
def rw0 : RwS := (none, 0, 0)
structure MoRd (w : World) (lo : Nat) (m : Mo) (A B C : Option Addr) (ca cb cc : Nat) (vs : List RwS) : Prop where
  ls : Ints w lo A ca m.ls
  fs : Ints w lo B cb m.fs
  ss : SlE rwV 24 w lo C cc vs
  len : vs.length = m.ss.length
  row : ∀ k, k < m.ss.length → ∃ D cd, vs.getD k rw0 = (D, (m.ss.getD k []).length, cd) ∧ Ints w lo D cd (m.ss.getD k [])
section
variable {w w' : World} {lo : Nat} {m : Mo} {A B C : Option Addr} {ca cb cc : Nat} {vs : List RwS}
theorem MoRd.below {b : Nat} (h : MoRd w lo m A B C ca cb cc vs) (hb : Below b w w') (hB : w.heap.size ≤ b := by exact Nat.le_refl _) : MoRd w' lo m A B C ca cb cc vs :=
  ⟨h.ls.below hb hB, h.fs.below hb hB, h.ss.below hb hB, h.len, fun k hk => by
    obtain ⟨D, cd, h1, h2⟩ := h.row k hk
    exact ⟨D, cd, h1, h2.below hb hB⟩⟩
theorem MoRd.at_ (h : MoRd w lo m A B C ca cb cc vs) {k : Nat} (hk : k < m.ss.length) : ∃ b off, C = some ⟨b, off, none⟩ ∧ b < w.heap.size ∧ w.cell? ⟨b, off + k, none⟩ = some (.slice (vs.getD k rw0).1 (m.ss.getD k []).length (vs.getD k rw0).2.2) ∧ Ints w lo (vs.getD k rw0).1 (vs.getD k rw0).2.2 (m.ss.getD k []) := by
  have hk' : k < vs.length := by rw [h.len]; exact hk
  obtain ⟨D, cd, h1, h2⟩ := h.row k hk
  obtain ⟨b, off, e, h3, h4, h5⟩ := SlE.at (fun _ => rfl) (sz := 1) (fun _ => rfl) (by decide) h.ss hk'
  refine ⟨b, off, e, h4, ?_, by rw [h1]; exact h2⟩
  rw [h1]
  rw [List.getD_eq_getElem?_getD, List.getElem?_eq_getElem hk'] at h1
  have h6 : vs[k] = (D, (m.ss.getD k []).length, cd) := h1
  have := h5 0 (.slice D (m.ss.getD k []).length cd) (by rw [h6]; rfl)
  simpa using this
theorem MoRd.rowAt {b off : Nat} (h : MoRd w lo m A B (some ⟨b, off, none⟩) ca cb cc vs) {k : Nat} (hk : k < m.ss.length) : w.cell? ⟨b, off + k, none⟩ = some (.slice (vs.getD k rw0).1 (m.ss.getD k []).length (vs.getD k rw0).2.2) ∧ Ints w lo (vs.getD k rw0).1 (vs.getD k rw0).2.2 (m.ss.getD k []) := by
  obtain ⟨b', off', e, _, h1, h2⟩ := h.at_ hk
  cases e
  exact ⟨h1, h2⟩
end
structure MoAt (W : World) (V : Nat) (m : Mo) (A B C : Option Addr) (ca cb cc : Nat) : Prop where
  lt : V < W.heap.size
  c0 : W.cell? ⟨V, 0, none⟩ = some (.int .i64 m.pr)
  c1 : W.cell? ⟨V, 1, none⟩ = some (.slice A m.ls.length ca)
  c2 : W.cell? ⟨V, 2, none⟩ = some (.slice B m.fs.length cb)
  c3 : W.cell? ⟨V, 3, none⟩ = some (.slice C m.ss.length cc)
theorem MoAt.below {W W' : World} {V n : Nat} {m : Mo} {A B C : Option Addr} {ca cb cc : Nat} (h : MoAt W V m A B C ca cb cc) (hb : Below n W W') (hn : V < n) : MoAt W' V m A B C ca cb cc :=
  ⟨Nat.lt_of_lt_of_le h.lt hb.size, (hb.cell (p := ⟨V, 0, none⟩) hn).trans h.c0, (hb.cell (p := ⟨V, 1, none⟩) hn).trans h.c1, (hb.cell (p := ⟨V, 2, none⟩) hn).trans h.c2, (hb.cell (p := ⟨V, 3, none⟩) hn).trans h.c3⟩
def moW (w : World) (m : Mo) (A B C : Option Addr) (ca cb cc : Nat) : World := w.alloc (Obj.cells #[.int .i64 m.pr, .slice A m.ls.length ca, .slice B m.fs.length cb, .slice C m.ss.length cc] 43)
structure MoW (w W : World) (m : Mo) (A B C : Option Addr) (ca cb cc : Nat) : Prop where
  below : Below w.heap.size w W
  size : W.heap.size = w.heap.size + 1
  at_ : MoAt W w.heap.size m A B C ca cb cc
theorem moW_is (w : World) (m : Mo) (A B C : Option Addr) (ca cb cc : Nat) : MoW w (moW w m A B C ca cb cc) m A B C ca cb cc := by
  unfold moW
  refine ⟨by go_grown, by simp, by simp, ?_, ?_, ?_, ?_⟩ <;> go_simp
end Go.Proofs.YtoglgeaiiipchabGreatDoor

namespace Go.Proofs.YtoglgeaiiipchabGreatDoor
open Go Go.RowKit
theorem ckM_3 {m : Mo} (h : btw m.pr 0 3 = false) : ckM m = 3 := by unfold ckM; rw [if_pos (by rw [h]; rfl)]
theorem ckM_2 {m : Mo} (h : btw m.pr 0 3 = true) (h2 : 12 < (m.ls.length : Int)) : ckM m = 2 := by unfold ckM; rw [if_neg (by rw [h]; decide), if_pos h2]
theorem ckM_1 {m : Mo} (h : btw m.pr 0 3 = true) (h2 : ¬ 12 < (m.ls.length : Int)) (h3 : m.ls.length = 0 ∨ m.ss.length ≠ m.ls.length) : ckM m = 1 := by unfold ckM; rw [if_neg (by rw [h]; decide), if_neg h2, if_pos h3]
def okM (m : Mo) : Prop := btw m.pr 0 3 = true ∧ (m.ls.length : Int) ≤ 12 ∧ 0 < m.ls.length ∧ m.ss.length = m.ls.length
theorem ckM_l {m : Mo} (h : okM m) {k : Nat} (hk : k < m.ls.length) (hb : btw m.ls[k] 0 ((2 : Int) ^ m.pr.toNat - 1) = false) : ckM m = 3 := by
  unfold ckM
  rw [if_neg (by rw [h.1]; decide), if_neg (by have := h.2.1; omega), if_neg (by have := h.2.2; omega), if_pos]
  exact List.any_eq_true.2 ⟨_, List.getElem_mem hk, by rw [hb]; rfl⟩
def okL (m : Mo) : Prop := ∀ j, (hj : j < m.ls.length) → btw m.ls[j] 0 ((2 : Int) ^ m.pr.toNat - 1) = true
theorem any_none {xs : List Int} {a b : Int} (h : ∀ j, (hj : j < xs.length) → btw xs[j] a b = true) : (xs.any fun q => !btw q a b) = false := by
  rw [List.any_eq_false]
  intro q hq
  obtain ⟨j, hj, rfl⟩ := List.getElem_of_mem hq
  rw [h j hj]
  decide
theorem ckM_f {m : Mo} (h : okM m) (hl : okL m) {k : Nat} (hk : k < m.fs.length) (hb : btw m.fs[k] 0 ((m.ls.length : Int) - 1) = false) : ckM m = 5 := by
  unfold ckM
  rw [if_neg (by rw [h.1]; decide), if_neg (by have := h.2.1; omega), if_neg (by have := h.2.2; omega), if_neg (by rw [any_none hl]; decide), if_pos]
  exact List.any_eq_true.2 ⟨_, List.getElem_mem hk, by rw [hb]; rfl⟩
def okF (m : Mo) : Prop := ∀ j, (hj : j < m.fs.length) → btw m.fs[j] 0 ((m.ls.length : Int) - 1) = true
theorem ckM_r {m : Mo} (h : okM m) (hl : okL m) (hf : okF m) : ckM m = ckMRows m.ls.length m.ss := by
  unfold ckM
  rw [if_neg (by rw [h.1]; decide), if_neg (by have := h.2.1; omega), if_neg (by have := h.2.2; omega), if_neg (by rw [any_none hl]; decide), if_neg (by rw [any_none hf]; decide)]
theorem ckMRows_drop {n : Int} {ss : List (List Int)} {k : Nat} (hk : k < ss.length) : ckMRows n (ss.drop k) = if ckMRow n (ss.getD k []) = 0 then ckMRows n (ss.drop (k + 1)) else ckMRow n (ss.getD k []) := by
  rw [List.drop_eq_getElem_cons hk, ckMRows, List.getD_eq_getElem?_getD, List.getElem?_eq_getElem hk]
  rfl
theorem ckMRow_4 {n : Int} {r : List Int} (h : r.length = 0) : ckMRow n r = 4 := by unfold ckMRow; rw [if_pos h]
theorem ckMRow_5 {n : Int} {r : List Int} {k : Nat} (hk : k < r.length) (hb : btw r[k] 0 (n - 1) = false) : ckMRow n r = 5 := by
  unfold ckMRow
  rw [if_neg (by omega), if_pos]
  exact List.any_eq_true.2 ⟨_, List.getElem_mem hk, by rw [hb]; rfl⟩
theorem ckMRow_0 {n : Int} {r : List Int} (h0 : r.length ≠ 0) (h : ∀ j, (hj : j < r.length) → btw r[j] 0 (n - 1) = true) : ckMRow n r = 0 := by
  unfold ckMRow
  rw [if_neg h0, if_neg (by rw [any_none h]; decide)]
set_option maxRecDepth 100000 in
set_option maxHeartbeats 8000000 in
theorem CheckModel_ (m : Mo) (A B C : Option Addr) (ca cb cc : Nat) (vs : List RwS) (w : World) (hr : MoRd w 0 m A B C ca cb cc vs) :
    Calls Tryz.prog 14 #[.agg #[.int .i64 m.pr, .slice A m.ls.length ca, .slice B m.fs.length cb, .slice C m.ss.length cc]] w (IntB w (ckM m)) := by
  have HW := Lib.hid (moW_is w m A B C ca cb cc)
  have HR := Lib.hid (hr.below HW.out.below)
  have l1 := hr.ls.le
  have l2 := hr.ls.max
  have l3 := hr.fs.le
  have l4 := hr.fs.max
  have l5 := hr.ss.le
  have l6 := hr.ss.max
  rw [hr.len] at l5 l6
  clear hr
  go_enter Tryz.func14, Tryz.ntmps14
  obtain ⟨b1, hb1⟩ : ∃ b, b = btw m.pr 0 3 := ⟨_, rfl⟩
  have K1 := Lib.hid (fun W => between_b m.pr 0 3 W)
  rw [← hb1] at K1
  obtain ⟨ck, hck⟩ : ∃ c, c = ckM m := ⟨_, rfl⟩
  rw [← hck]
  have HCK := Lib.hid hck
  have H1 := Lib.hid hb1
  clear hck hb1
  go_wp2_with fail
  change Calls _ _ _ (moW w m A B C ca cb cc) _
  generalize moW w m A B C ca cb cc = W0 at *
  have HA := Lib.hid HW.out.at_
  obtain ⟨V, hV⟩ : ∃ V, V = w.heap.size := ⟨_, rfl⟩
  rw [← hV] at HA ⊢
  have HBW : Hid (Below w.heap.size w W0) := HW.out.below
  have hV0 := HA.out.lt
  clear hV HW
  refine (K1.out _).mono ?_
  rintro e w1 ⟨rfl, hx1⟩
  have HB1 := Lib.hid hx1
  obtain ⟨_, c0, c1, c2, c3⟩ := HA.out.below hx1 hV0
  clear hx1
  cases b1 with
  | false =>
    have HF : Hid (ck = 3) := by show ck = 3; rw [HCK.out]; exact ckM_3 H1.out.symm
    go_wp2_with fail
    go_ret
    exact ⟨ret_int HF.out.symm, Below_on HBW.out HB1.out HBW.out.size⟩
  | true =>
    by_cases h12 : 12 < (m.ls.length : Int)
    · have HF : Hid (ck = 2) := by show ck = 2; rw [HCK.out]; exact ckM_2 H1.out.symm h12
      go_wp2_with fail
      go_ret
      exact ⟨ret_int HF.out.symm, Below_on HBW.out HB1.out HBW.out.size⟩
    · by_cases hz : m.ls.length = 0
      · have HF : Hid (ck = 1) := by show ck = 1; rw [HCK.out]; exact ckM_1 H1.out.symm h12 (.inl hz)
        have hz' : ((m.ls.length : Int) == 0) = true := by simp [hz]
        clear hz
        go_wp2_with fail
        go_ret
        exact ⟨ret_int HF.out.symm, Below_on HBW.out HB1.out HBW.out.size⟩
      · have hz' : ((m.ls.length : Int) == 0) = false := by rw [beq_eq_false_iff_ne]; omega
        by_cases hq : m.ss.length = m.ls.length
        · have HOK : Hid (okM m) := ⟨H1.out.symm, by omega, by omega, hq⟩
          have HPR : Hid (0 ≤ m.pr ∧ m.pr ≤ 3) := (btw_iff _ _ _).1 H1.out.symm
          have hq' : ((m.ss.length : Int) != (m.ls.length : Int)) = false := by simp [hq]
          have HQ := Lib.hid hq
          have HN12 : Hid ((m.ls.length : Int) ≤ 12 ∧ 0 < m.ls.length) := ⟨by omega, by omega⟩
          have h12' : (m.ls.length : Int) ≤ 12 := by omega
          clear hq K1 H1 h12
          go_wp2_with fail
          clear hq' hz' hz h12'
          go_loop [4, 5] (fun mo i => ∃ k : Nat, (k : Int) ≤ m.pr ∧ i = .int .i64 (k : Int) ∧ mo = .int .i64 ((2 ^ k : Nat) : Int)) (fun _ i => m.pr.toNat - (intOf i).toNat)
          case atStart => exact ⟨0, HPR.out.1, rfl, rfl⟩
          case round =>
            obtain ⟨k, hk, rfl, rfl⟩ := hrel
            by_cases hkl : (k : Int) < m.pr
            · have hk3 : k = 0 ∨ k = 1 ∨ k = 2 := by have := HPR.out; omega
              rcases hk3 with rfl | rfl | rfl
              · go_wp2_with fail
                go_round
                case rel => exact ⟨1, by omega, by go_num, rfl⟩
                case measure => simp [intOf]; omega
              · go_wp2_with fail
                go_round
                case rel => exact ⟨2, by omega, by go_num, rfl⟩
                case measure => simp [intOf]; omega
              · go_wp2_with fail
                go_round
                case rel => exact ⟨3, by omega, by go_num, rfl⟩
                case measure => simp [intOf]; omega
            · have HM : Hid (((2 ^ k : Nat) : Int) = (2 : Int) ^ m.pr.toNat) := by
                obtain rfl : k = m.pr.toNat := by have := HPR.out; omega
                show _ = _
                simp
              have HM8 : (1 : Int) ≤ ((2 ^ k : Nat) : Int) ∧ ((2 ^ k : Nat) : Int) ≤ 8 := by
                have hk3 : k = 0 ∨ k = 1 ∨ k = 2 ∨ k = 3 := by have := HPR.out; omega
                rcases hk3 with rfl | rfl | rfl | rfl <;> decide
              generalize ((2 ^ k : Nat) : Int) = M at *
              obtain ⟨m1, m8⟩ := HM8
              clear hk
              go_wp2_with fail
              clear c0 c1 c2 c3
              go_loopw [6] (fun i wr => ∃ k : Nat, k ≤ m.ls.length ∧ i = .int .i64 (k : Int) ∧ Hid (Below W0.heap.size W0 wr) ∧ Hid (∀ j, (hj : j < m.ls.length) → j < k → btw m.ls[j] 0 (M - 1) = true)) (fun i _ => m.ls.length - (intOf i).toNat)
              case atStart => exact ⟨0, Nat.zero_le _, rfl, HB1, fun j hj h => absurd h (by omega)⟩
              case round =>
                obtain ⟨k, hk, rfl, HB3, HALL⟩ := hrel
                obtain ⟨_, c0, c1, c2, c3⟩ := HA.out.below HB3.out HA.out.lt
                by_cases hkl : k < m.ls.length
                · obtain ⟨b, o, hAA, _, _, q⟩ := Ints.at_ (HR.out.ls.below HB3.out) hkl
                  subst hAA
                  have hk1 : (k : Int) < (m.ls.length : Int) := by omega
                  obtain ⟨x, hxx⟩ : ∃ x, x = m.ls[k] := ⟨_, rfl⟩
                  rw [← hxx] at q
                  obtain ⟨bb, hbb⟩ : ∃ bb, bb = btw x 0 (M - 1) := ⟨_, rfl⟩
                  have C1 := Lib.hid (fun W => between_b x 0 (M - 1) W)
                  rw [← hbb] at C1
                  have HX := Lib.hid hxx
                  have HBB := Lib.hid hbb
                  clear hxx hbb
                  go_wp2_with fail
                  refine (C1.out wr).mono ?_
                  rintro e w4 ⟨rfl, hx4⟩
                  have HB4 := Lib.hid (Below_on HB3.out hx4 HB3.out.size)
                  clear hx4
                  cases bb with
                  | false =>
                    have HF : Hid (ck = 3) := by show ck = 3; rw [HCK.out]; exact ckM_l HOK.out hkl (by rw [← HX.out, ← HM.out]; exact HBB.out.symm)
                    go_wp2_with fail
                    go_ret
                    exact ⟨ret_int HF.out.symm, Below_on HBW.out HB4.out HBW.out.size⟩
                  | true =>
                    go_wp2_with fail
                    go_roundw
                    case rel =>
                      refine ⟨k + 1, by omega, by go_num, HB4, fun j hj h => ?_⟩
                      rcases Nat.lt_or_ge j k with h1 | h1
                      · exact HALL.out j hj h1
                      · obtain rfl : j = k := by omega
                        rw [← HX.out]; exact HBB.out.symm
                    case measure => simp [intOf]; omega
                · have hk1 : ¬ (k : Int) < (m.ls.length : Int) := by omega
                  have HOL : Hid (okL m) := fun j hj => by rw [← HM.out]; exact HALL.out j hj (by omega)
                  clear HALL
                  go_wp2_with fail
                  have HB3' := HB3
                  clear c0 c1 c2 c3 hk1 hkl hk
                  obtain ⟨w5, hw5⟩ : ∃ w5 : World, w5 = wr := ⟨_, rfl⟩
                  rw [← hw5] at HB3' ⊢
                  clear hw5
                  go_loopw [7] (fun i wr => ∃ k : Nat, k ≤ m.fs.length ∧ i = .int .i64 (k : Int) ∧ Hid (Below W0.heap.size W0 wr) ∧ Hid (∀ j, (hj : j < m.fs.length) → j < k → btw m.fs[j] 0 ((m.ls.length : Int) - 1) = true)) (fun i _ => m.fs.length - (intOf i).toNat)
                  case atStart => exact ⟨0, Nat.zero_le _, rfl, HB3', fun j hj h => absurd h (by omega)⟩
                  case round =>
                    obtain ⟨k, hk, rfl, HB3, HALL⟩ := hrel
                    obtain ⟨_, c0, c1, c2, c3⟩ := HA.out.below HB3.out HA.out.lt
                    by_cases hkl : k < m.fs.length
                    · obtain ⟨b, o, hAA, _, _, q⟩ := Ints.at_ (HR.out.fs.below HB3.out) hkl
                      subst hAA
                      have hk1 : (k : Int) < (m.fs.length : Int) := by omega
                      obtain ⟨x, hxx⟩ : ∃ x, x = m.fs[k] := ⟨_, rfl⟩
                      rw [← hxx] at q
                      obtain ⟨bb, hbb⟩ : ∃ bb, bb = btw x 0 ((m.ls.length : Int) - 1) := ⟨_, rfl⟩
                      have C1 := Lib.hid (fun W => between_b x 0 ((m.ls.length : Int) - 1) W)
                      rw [← hbb] at C1
                      have HX := Lib.hid hxx
                      have HBB := Lib.hid hbb
                      clear hxx hbb
                      go_wp2_with fail
                      refine (C1.out wr).mono ?_
                      rintro e w4 ⟨rfl, hx4⟩
                      have HB4 := Lib.hid (Below_on HB3.out hx4 HB3.out.size)
                      clear hx4
                      cases bb with
                      | false =>
                        have HF : Hid (ck = 5) := by show ck = 5; rw [HCK.out]; exact ckM_f HOK.out HOL.out hkl (by rw [← HX.out]; exact HBB.out.symm)
                        go_wp2_with fail
                        go_ret
                        exact ⟨ret_int HF.out.symm, Below_on HBW.out HB4.out HBW.out.size⟩
                      | true =>
                        go_wp2_with fail
                        go_roundw
                        case rel =>
                          refine ⟨k + 1, by omega, by go_num, HB4, fun j hj h => ?_⟩
                          rcases Nat.lt_or_ge j k with h1 | h1
                          · exact HALL.out j hj h1
                          · obtain rfl : j = k := by omega
                            rw [← HX.out]; exact HBB.out.symm
                        case measure => simp [intOf]; omega
                    · have hk1 : ¬ (k : Int) < (m.fs.length : Int) := by omega
                      have HOF : Hid (okF m) := fun j hj => HALL.out j hj (by omega)
                      clear HALL
                      go_wp2_with fail
                      have HB3' := HB3
                      clear c0 c1 c2 c3 hk1 hkl hk m1 m8 HM
                      obtain ⟨w5, hw5⟩ : ∃ w5 : World, w5 = wr := ⟨_, rfl⟩
                      rw [← hw5] at HB3' ⊢
                      clear hw5
                      go_loopw [8] (fun i wr => ∃ k : Nat, k ≤ m.ls.length ∧ i = .int .i64 (k : Int) ∧ Hid (Below W0.heap.size W0 wr) ∧ Hid (ck = ckMRows m.ls.length (m.ss.drop k))) (fun i _ => m.ls.length - (intOf i).toNat)
                      case atStart => exact ⟨0, Nat.zero_le _, rfl, HB3', by show _ = _; rw [HCK.out, ckM_r HOK.out HOL.out HOF.out, List.drop_zero]⟩
                      case round =>
                        obtain ⟨k, hk, rfl, HB3, HCR⟩ := hrel
                        obtain ⟨_, c0, c1, c2, c3⟩ := HA.out.below HB3.out HA.out.lt
                        by_cases hkl : k < m.ls.length
                        · have HKS : Hid (k < m.ss.length) := by show _ < _; rw [HQ.out]; exact hkl
                          have hks : (k : Int) < (m.ss.length : Int) := by have := HKS.out; omega
                          have HRW := Lib.hid (ckMRows_drop (n := (m.ls.length : Int)) HKS.out)
                          have hr1 := (HR.out.below HB3.out).at_ HKS.out
                          obtain ⟨b, off, hC, _, _⟩ := hr1
                          subst hC
                          obtain ⟨q, hi⟩ := (HR.out.below HB3.out).rowAt HKS.out
                          have HRA : Hid (∀ W, Below W0.heap.size W0 W → W.cell? ⟨b, off + k, none⟩ = some (.slice (vs.getD k rw0).1 (m.ss.getD k []).length (vs.getD k rw0).2.2) ∧ Ints W 0 (vs.getD k rw0).1 (vs.getD k rw0).2.2 (m.ss.getD k [])) := fun W hW => (HR.out.below hW).rowAt HKS.out
                          generalize m.ss.getD k [] = r at *
                          generalize (vs.getD k rw0).1 = D at *
                          generalize (vs.getD k rw0).2.2 = cd at *
                          have r1 := hi.le
                          have r2 := hi.max
                          clear hi
                          have hk1 : (k : Int) < (m.ls.length : Int) := by omega
                          by_cases h0 : r.length = 0
                          · have HF : Hid (ck = 4) := by show ck = 4; rw [HCR.out, HRW.out, ckMRow_4 h0]; rfl
                            have h0' : ((r.length : Int) == 0) = true := by simp [h0]
                            clear h0
                            go_wp2_with fail
                            go_ret
                            exact ⟨ret_int HF.out.symm, Below_on HBW.out HB3.out HBW.out.size⟩
                          · have h0' : ((r.length : Int) == 0) = false := by rw [beq_eq_false_iff_ne]; omega
                            have H0 := Lib.hid h0
                            clear h0
                            go_wp2_with fail
                            clear h0' q c0 c1 c2 c3
                            go_loopw [9] (fun i wr => ∃ j : Nat, j ≤ r.length ∧ i = .int .i64 (j : Int) ∧ Hid (Below W0.heap.size W0 wr) ∧ Hid (∀ i, (hi : i < r.length) → i < j → btw r[i] 0 ((m.ls.length : Int) - 1) = true)) (fun i _ => r.length - (intOf i).toNat)
                            case atStart => exact ⟨0, Nat.zero_le _, rfl, HB3, fun j hj h => absurd h (by omega)⟩
                            case round =>
                              obtain ⟨j, hj, rfl, HB4, HALL⟩ := hrel
                              obtain ⟨_, c0, c1, c2, c3⟩ := HA.out.below HB4.out HA.out.lt
                              obtain ⟨q, hi⟩ := HRA.out _ HB4.out
                              by_cases hjl : j < r.length
                              · have hj1 : (j : Int) < (r.length : Int) := by omega
                                obtain ⟨b2, o2, hDD, _, _, q2⟩ := Ints.at_ hi hjl
                                subst hDD
                                clear hi
                                obtain ⟨x, hxx⟩ : ∃ x, x = r[j] := ⟨_, rfl⟩
                                rw [← hxx] at q2
                                obtain ⟨bb, hbb⟩ : ∃ bb, bb = btw x 0 ((m.ls.length : Int) - 1) := ⟨_, rfl⟩
                                have C1 := Lib.hid (fun W => between_b x 0 ((m.ls.length : Int) - 1) W)
                                rw [← hbb] at C1
                                have HX := Lib.hid hxx
                                have HBB := Lib.hid hbb
                                clear hxx hbb
                                go_wp2_with fail
                                refine (C1.out _).mono ?_
                                rintro e w4 ⟨rfl, hx4⟩
                                have HB5 := Lib.hid (Below_on HB4.out hx4 HB4.out.size)
                                clear hx4 c0 c1 c2 c3 q q2
                                cases bb with
                                | false =>
                                  have HF : Hid (ck = 5) := by show ck = 5; rw [HCR.out, HRW.out, ckMRow_5 hjl (by rw [← HX.out]; exact HBB.out.symm)]; rfl
                                  go_wp2_with fail
                                  go_ret
                                  exact ⟨ret_int HF.out.symm, Below_on HBW.out HB5.out HBW.out.size⟩
                                | true =>
                                  go_wp2_with fail
                                  go_roundw
                                  case rel =>
                                    refine ⟨j + 1, by omega, by go_num, HB5, fun i hi h => ?_⟩
                                    rcases Nat.lt_or_ge i j with h1 | h1
                                    · exact HALL.out i hi h1
                                    · obtain rfl : i = j := by omega
                                      rw [← HX.out]; exact HBB.out.symm
                                  case measure => simp [intOf]; omega
                              · have hj1 : ¬ (j : Int) < (r.length : Int) := by omega
                                have HNX : Hid (ck = ckMRows m.ls.length (m.ss.drop (k + 1))) := by
                                  show _ = _
                                  rw [HCR.out, HRW.out, if_pos (ckMRow_0 H0.out fun i hi => HALL.out i hi (by omega))]
                                clear hi HALL
                                go_wp2_with fail
                                go_roundw
                                case rel => exact ⟨k + 1, by omega, by go_num, HB4, HNX⟩
                                case measure => simp [intOf]; omega
                        · have hk1 : ¬ (k : Int) < (m.ls.length : Int) := by omega
                          have HF : Hid (ck = 0) := by show ck = 0; rw [HCR.out, List.drop_of_length_le (by rw [HQ.out]; omega)]; rfl
                          go_wp2_with fail
                          go_ret
                          exact ⟨ret_int HF.out.symm, Below_on HBW.out HB3.out HBW.out.size⟩
        · have HF : Hid (ck = 1) := by show ck = 1; rw [HCK.out]; exact ckM_1 H1.out.symm h12 (.inr hq)
          have hq' : ((m.ss.length : Int) != (m.ls.length : Int)) = true := by simp; omega
          clear hq
          go_wp2_with fail
          go_ret
          exact ⟨ret_int HF.out.symm, Below_on HBW.out HB1.out HBW.out.size⟩
end Go.Proofs.YtoglgeaiiipchabGreatDoor
