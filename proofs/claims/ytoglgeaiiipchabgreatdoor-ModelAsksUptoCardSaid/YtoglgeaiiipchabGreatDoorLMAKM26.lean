import Derived.Test.YtoglgeaiiipchabGreatDoorLMAKM25
import Derived.Test.YtoglgeaiiipchabGreatDoorLMAKM22
import Derived.Test.YtoglgeaiiipchabGreatDoorLMAKM17
import Derived.Test.YtoglgeaiiipchabGreatDoorLMAKM16
import Derived.Test.YtoglgeaiiipchabGreatDoorLMAKM15
import Derived.Deep.CutBlock
import Derived.Deep.DeepCutAuto
import Derived.Test.YtoglgeaiiipchabGreatDoorLMAKM7
set_option linter.unusedSimpArgs false
set_option linter.unusedVariables false
namespace Go.Proofs.YtoglgeaiiipchabGreatDoor
open Go Go.RowKit Go.Sort Go.Shelf
noncomputable def moSs (m : Mo) : List Stp := dd (sortS (moRaw m m.ls.length))
noncomputable def moA (m : Mo) : Au := moAu m (moSs m)
theorem moA_sort (m : Mo) : SortOf (moRaw m m.ls.length) (moSs m) := dd_sort _
def OfPost (a : Au) (w : World) (e : Ending) (w' : World) : Prop := ∃ A B C ca cb cc, e = .returned (.agg #[.int .i64 a.st, .int .i64 a.le, .slice A a.fs.length ca, .slice B a.gs.length cb, .slice C a.ss.length cc]) ∧ AuRd w' w.heap.size a A B C ca cb cc ∧ Below w.heap.size w w'
theorem brow_own {W : World} {B g n : Nat} {xs : List Bool} (h : BRow W g xs) (hB : B ≤ g) (hn : n = xs.length) (hl : n ≤ 1000000) : W.ownsRow B 4 1 (.slice (some ⟨g, 0, none⟩) n n) xs.length (xs.flatMap vbL) := by
  subst hn
  refine ⟨flatMap_len (sz := 1) (fun _ => rfl) xs, .inr ⟨g, xs.length, _, rfl, hB, h, Nat.le_refl _, by unfold maxLen; omega, by simp, ?_⟩⟩
  have : ∀ xs : List Bool, xs.flatMap vbL = xs.map Value.bool := by
    intro xs
    induction xs with
    | nil => rfl
    | cons x xs ih => rw [List.flatMap_cons, ih]; rfl
  rw [this xs, Nat.mul_one]
  exact List.take_of_length_le (by simp)
theorem moFs_succ (m : Mo) (k : Nat) : moFs m (k + 1) = if (k : Int) ∈ m.fs then moFs m k ++ [(k : Int)] else moFs m k := by
  unfold moFs
  rw [List.range_succ, List.filter_append, List.map_append]
  by_cases h : (k : Int) ∈ m.fs
  · rw [if_pos h]
    simp [h]
  · rw [if_neg h]
    simp [h]
theorem moFs_len (m : Mo) (k : Nat) : (moFs m k).length ≤ k := by
  unfold moFs
  rw [List.length_map]
  exact Nat.le_trans (List.length_filter_le _ _) (by rw [List.length_range]; exact Nat.le_refl _)
def moRow (m : Mo) (k : Nat) (r : List Int) : List Stp := r.map fun t => ⟨(k : Int), m.ls.getD k 0, t⟩
theorem moRaw_succ (m : Mo) (k : Nat) : moRaw m (k + 1) = moRaw m k ++ moRow m k (m.ss.getD k []) := by
  unfold moRaw moRow
  rw [List.range_succ, List.flatMap_append]
  simp
theorem moRaw_mono (m : Mo) {k n : Nat} (h : k ≤ n) : (moRaw m k).length ≤ (moRaw m n).length := by
  induction n with
  | zero => obtain rfl : k = 0 := by omega
            exact Nat.le_refl _
  | succ n ih =>
    rcases Nat.lt_or_ge n k with h1 | h1
    · obtain rfl : k = n + 1 := by omega
      exact Nat.le_refl _
    · rw [moRaw_succ, List.length_append]
      have := ih h1
      omega
theorem moRow_take (m : Mo) (k : Nat) (r : List Int) {j : Nat} (hj : j < r.length) : moRow m k (r.take (j + 1)) = moRow m k (r.take j) ++ [⟨(k : Int), m.ls.getD k 0, r[j]⟩] := by
  unfold moRow
  rw [List.take_succ_eq_append_getElem hj, List.map_append]
  rfl
theorem moRow_len (m : Mo) (k : Nat) (r : List Int) : (moRow m k r).length = r.length := List.length_map ..
set_option maxRecDepth 100000 in
set_option maxHeartbeats 8000000 in
theorem of_ (m : Mo) (hm : MoOK m) (hraw : (moRaw m m.ls.length).length ≤ 2000000) (A B C : Option Addr) (ca cb cc : Nat) (vs : List RwS) (w : World) (hr : MoRd w 0 m A B C ca cb cc vs) :
    Calls Tryz.prog 51 #[.agg #[.int .i64 m.pr, .slice A m.ls.length ca, .slice B m.fs.length cb, .slice C m.ss.length cc]] w (OfPost (moA m) w) := by
  have HW := moW_is w m A B C ca cb cc
  have hal : Below (moW w m A B C ca cb cc).heap.size (moW w m A B C ca cb cc) ((moW w m A B C ca cb cc).alloc (Obj.cells #[.int .i64 0, .int .i64 0, .slice none 0 0, .slice none 0 0, .slice none 0 0] 26)) := (Below.refl _ _).alloc (Nat.le_refl _) _
  have HT := Lib.hid (World.alloc_heap_new (moW w m A B C ca cb cc) (Obj.cells #[.int .i64 0, .int .i64 0, .slice none 0 0, .slice none 0 0, .slice none 0 0] 26))
  rw [HW.size] at HT
  have HB0 := Lib.hid (Below_on HW.below hal HW.below.size)
  have HV0 := Lib.hid (HW.at_.below hal HW.at_.lt)
  have HR := Lib.hid (fun W (hW : Below w.heap.size w W) => hr.below hW)
  have HM := Lib.hid hm
  have HRAW := Lib.hid hraw
  have l1 := hr.ls.le
  have l2 := hr.ls.max
  have l3 := hr.fs.le
  have l4 := hr.fs.max
  have l5 := hr.ss.le
  have l6 := hr.ss.max
  rw [hr.len] at l5 l6
  clear hr HW hal hm hraw
  go_enter Tryz.func51, Tryz.ntmps51
  go_upto_region 1 with fail
  change Code.wp _ _ _ _ ((moW w m A B C ca cb cc).alloc (Obj.cells #[.int .i64 0, .int .i64 0, .slice none 0 0, .slice none 0 0, .slice none 0 0] 26))
  generalize (moW w m A B C ca cb cc).alloc (Obj.cells #[.int .i64 0, .int .i64 0, .slice none 0 0, .slice none 0 0, .slice none 0 0] 26) = W0 at *
  obtain ⟨V, hV⟩ : ∃ V, V = w.heap.size := ⟨_, rfl⟩
  have HVV := Lib.hid hV
  rw [← hV] at HV0 HT ⊢
  clear hV
  obtain ⟨_, c0, c1, c2, c3⟩ := HV0.out
  go_upto_region 2 with fail
  have n0 : 1 ≤ m.ls.length := HM.out.n0
  have n12 : m.ls.length ≤ 12 := HM.out.n12
  go_wp2_with fail
  refine (RepeatB_ true W0.heap.size 0 1 m.ls.length _ (by go_simp) (by simp) n0 (by omega)).mono ?_
  rintro e w1 ⟨g, rfl, hgl, hg, hb1⟩
  obtain ⟨Bs, hBs⟩ : ∃ B, B = W0.heap.size := ⟨_, rfl⟩
  have hb01 : Below Bs W0 w1 := by
    rw [hBs]
    exact Below_on ((Below.refl _ _).alloc (Nat.le_refl _) _) hb1 (by simp)
  have hal : Below w1.heap.size w1 (w1.alloc (Obj.cells #[.int .i64 (m.ls.length : Int), .int .i64 8, .slice none 0 0, .slice (some ⟨g, 0, none⟩) m.ls.length m.ls.length, .slice none 0 0] 26)) := (Below.refl _ _).alloc (Nat.le_refl _) _
  have hrow : BRow w1 g (List.replicate m.ls.length true) := by unfold BRow; rw [List.map_replicate]; exact hg
  have hBg : Bs ≤ g := by simp at hgl; omega
  have hlo : Bs ≤ w1.heap.size := by rw [hBs]; exact hb01.size
  have HN : Hid (AuN Bs w1.heap.size (m.ls.length : Int) 8 (moFs m 0) (List.replicate m.ls.length true) (moRaw m 0) (.slice none 0 0) (.slice (some ⟨g, 0, none⟩) m.ls.length m.ls.length) (.slice none 0 0) (w1.alloc (Obj.cells #[.int .i64 (m.ls.length : Int), .int .i64 8, .slice none 0 0, .slice (some ⟨g, 0, none⟩) m.ls.length m.ls.length, .slice none 0 0] 26))) :=
    ⟨hlo, World.alloc_heap_new _ _, World.ownsRow_nil _ _ _ _, brow_own (hrow.below hal hrow.lt) hBg (by simp) (by omega), World.ownsRow_nil _ _ _ _⟩
  have HBA : Hid (Below Bs W0 (w1.alloc (Obj.cells #[.int .i64 (m.ls.length : Int), .int .i64 8, .slice none 0 0, .slice (some ⟨g, 0, none⟩) m.ls.length m.ls.length, .slice none 0 0] 26))) := Below_on hb01 hal hlo
  have HGV : Hid (Value.slice (some ⟨g, 0, none⟩) m.ls.length m.ls.length = Value.slice (some ⟨g, 0, none⟩) m.ls.length m.ls.length) := rfl
  have HW0 : Hid (Bs = W0.heap.size) := hBs
  clear hb1 hb01 hal hrow hg hgl hBs
  have HALL : Hid (∀ W, Below Bs W0 W → MoAt W V m A B C ca cb cc ∧ MoRd W 0 m A B C ca cb cc vs ∧ W.heap[V + 1]? = some (.cells #[.int .i64 0, .int .i64 0, .slice none 0 0, .slice none 0 0, .slice none 0 0] 26 (0, 0)) ∧ Below w.heap.size w W) := fun W hW => by
    rw [HW0.out] at hW
    exact ⟨HV0.out.below hW HV0.out.lt, (HR.out _ HB0.out).below hW, (hW.block _ (Array.getElem?_eq_some_iff.1 HT.out).1).trans HT.out, Below_on HB0.out hW HB0.out.size⟩
  clear c0 c1 c2 c3 HB0 HV0 HR
  go_upto_region 3 with fail
  obtain ⟨Y, hY⟩ : ∃ Y, Y = w1.heap.size := ⟨_, rfl⟩
  rw [← hY] at HN ⊢
  have HYB : Hid (Bs ≤ Y) := by rw [hY]; exact hlo
  clear hY hlo
  generalize w1.alloc (Obj.cells #[.int .i64 (m.ls.length : Int), .int .i64 8, .slice none 0 0, .slice (some ⟨g, 0, none⟩) m.ls.length m.ls.length, .slice none 0 0] 26) = W1 at *
  generalize hgv : Value.slice (some ⟨g, 0, none⟩) m.ls.length m.ls.length = gv at *
  have HGW := Lib.hid hgv
  clear hgv HGV
  go_wp2_with fail
  go_loopw [17] (fun i wr => ∃ k : Nat, k ≤ m.ls.length ∧ i = .int .i64 (k : Int) ∧ ∃ fv sv, Hid (AuN Bs Y (m.ls.length : Int) 8 (moFs m k) (List.replicate m.ls.length true) (moRaw m k) fv gv sv wr) ∧ Hid (Below Bs W0 wr)) (fun i _ => m.ls.length - (intOf i).toNat)
  case atStart => exact ⟨0, Nat.zero_le _, rfl, _, _, HN, HBA⟩
  case round =>
    clear HN HBA
    obtain ⟨k, hk, rfl, fv, sv, HN, HB⟩ := hrel
    obtain ⟨_, c0, c1, c2, c3⟩ := (HALL.out _ HB.out).1
    by_cases hkl : k < m.ls.length
    · have hk1 : (k : Int) < (m.ls.length : Int) := by omega
      have HCT := Lib.hid (Contains_ B cb m.fs (k : Int) wr (HALL.out _ HB.out).2.1.fs)
      have HKL := Lib.hid hkl
      go_upto_if 23 with (first
        | (go_at_call 87; refine HCT.out.mono ?_; rintro e w3 ⟨rfl, rfl⟩))
      clear c0 c1 c2 c3
      go_cut [] (fun wx => ∃ fv, Hid (AuN Bs Y (m.ls.length : Int) 8 (moFs m (k + 1)) (List.replicate m.ls.length true) (moRaw m k) fv gv sv wx) ∧ Hid (Below Bs W0 wx))
      case first =>
        by_cases hin : (k : Int) ∈ m.fs
        · have hd : decide ((k : Int) ∈ m.fs) = true := decide_eq_true hin
          rw [hd]
          obtain ⟨g0, g1, g2, g3, g4, gf0, gf1, gf2, gf3, gf4⟩ := obj5 HN.out.obj
          obtain ⟨T, c, rfl, hlc, hcm, T3, c3', w5, hrun, p4, f4, -, hAU, hBB⟩ := HN.out.appF (k : Int) (by have := moFs_len m k; omega)
          have HRUN := Lib.hid hrun
          rw [← show moFs m (k + 1) = moFs m k ++ [(k : Int)] by rw [moFs_succ, if_pos hin]] at hAU
          have HAU := Lib.hid hAU
          have HBB := Lib.hid (HB.out.trans hBB)
          clear hrun hAU hBB hin hd
          go_wp2_with (at_builtin; refine wpList_appRun rfl (.tmp 25) (.tmp 27) _ _ rfl _ _ _ rfl rfl HRUN.out ?_)
          go_meet
          exact ⟨_, HAU, HBB⟩
        · have hd : decide ((k : Int) ∈ m.fs) = false := decide_eq_false hin
          rw [hd]
          have HAU : Hid (AuN Bs Y (m.ls.length : Int) 8 (moFs m (k + 1)) (List.replicate m.ls.length true) (moRaw m k) fv gv sv w3) := by rw [moFs_succ, if_neg hin]; exact HN
          clear hin hd
          go_wp2_with fail
          go_meet
          exact ⟨_, HAU, HB⟩
      case rest =>
        obtain ⟨fv2, HN2, HB2⟩ := hcut
        generalize wc = w4 at *
        have HKS : Hid (k < m.ss.length) := by show _ < _; rw [HM.out.sl]; exact HKL.out
        have hks : (k : Int) < (m.ss.length : Int) := by have := HKS.out; omega
        obtain ⟨_, c0, c1, c2, c3⟩ := (HALL.out _ HB2.out).1
        obtain ⟨b, off, hC, _, _⟩ := (HALL.out _ HB2.out).2.1.at_ HKS.out
        subst hC
        obtain ⟨q, hi⟩ := (HALL.out _ HB2.out).2.1.rowAt HKS.out
        have HRA : Hid (∀ W, Below Bs W0 W → Ints W 0 (vs.getD k rw0).1 (vs.getD k rw0).2.2 (m.ss.getD k [])) := fun W hW => ((HALL.out _ hW).2.1.rowAt HKS.out).2
        have HSU := Lib.hid (moRaw_succ m k)
        have HLE : Hid ((moRaw m k).length + (m.ss.getD k []).length ≤ 2000000) := by
          have h1 := moRaw_mono m (show k + 1 ≤ m.ls.length from HKL.out)
          rw [moRaw_succ, List.length_append, moRow_len] at h1
          have := HRAW.out
          show _ ≤ _
          omega
        generalize m.ss.getD k [] = r at *
        generalize (vs.getD k rw0).1 = D at *
        generalize (vs.getD k rw0).2.2 = cd at *
        have r1 := hi.le
        have r2 := hi.max
        clear hi
        go_wp2_with fail
        clear q c0 c1 c2 c3 HN HB
        have HN3 : Hid (AuN Bs Y (m.ls.length : Int) 8 (moFs m (k + 1)) (List.replicate m.ls.length true) (moRaw m k ++ moRow m k (r.take 0)) fv2 gv sv w4) := by
          rw [List.take_zero]
          show AuN _ _ _ _ _ _ (moRaw m k ++ []) _ _ _ _
          rw [List.append_nil]
          exact HN2.out
        clear HN2
        go_loopw [36] (fun i wr => ∃ j : Nat, j ≤ r.length ∧ i = .int .i64 (j : Int) ∧ ∃ sv, Hid (AuN Bs Y (m.ls.length : Int) 8 (moFs m (k + 1)) (List.replicate m.ls.length true) (moRaw m k ++ moRow m k (r.take j)) fv2 gv sv wr) ∧ Hid (Below Bs W0 wr)) (fun i _ => r.length - (intOf i).toNat)
        case atStart => exact ⟨0, Nat.zero_le _, rfl, _, HN3, HB2⟩
        case round =>
          clear HN3 HB2
          obtain ⟨j, hj, rfl, sv2, HN4, HB4⟩ := hrel
          by_cases hjl : j < r.length
          · have hj1 : (j : Int) < (r.length : Int) := by omega
            obtain ⟨_, c0, c1, c2, c3⟩ := (HALL.out _ HB4.out).1
            obtain ⟨b2, o2, hDD, _, _, q2⟩ := Ints.at_ (HRA.out _ HB4.out) hjl
            subst hDD
            obtain ⟨b3, o3, hAA, _, _, q3⟩ := Ints.at_ (HALL.out _ HB4.out).2.1.ls HKL.out
            subst hAA
            have HTK := Lib.hid (moRow_take m k r hjl)
            have HG3 : Hid (m.ls.getD k 0 = m.ls[k]'HKL.out) := getD_lt HKL.out
            rw [HG3.out] at HTK
            generalize r[j] = tt at *
            generalize m.ls[k]'HKL.out = lb at *
            have HLL : Hid ((moRaw m k ++ moRow m k (r.take j)).length ≤ 1000000000) := by
              have h1 := HLE.out
              show _ ≤ _
              rw [List.length_append, moRow_len, List.length_take]
              omega
            have HT2 : Hid (moRaw m k ++ moRow m k (r.take (j + 1)) = (moRaw m k ++ moRow m k (r.take j)) ++ [⟨(k : Int), lb, tt⟩]) := by
              show _ = _
              rw [HTK.out, List.append_assoc]
            clear HTK
            generalize moRaw m k ++ moRow m k (r.take j) = L at *
            obtain ⟨g0, g1, g2, g3, g4, gf0, gf1, gf2, gf3, gf4⟩ := obj5 HN4.out.obj
            obtain ⟨T, c, rfl, hlc, hcm, T3, c3', w5, hrun, p4, f4, -, hAU, hBB⟩ := (HN4.out.on ((Below.refl _ _).drew)).appS ⟨(k : Int), lb, tt⟩ HLL.out
            have HRUN : Hid ((Builtin.append_ #[24, 24] 24 #[.slice T L.length c, .slice (some ⟨wr.heap.size, 0, none⟩) 1 1]).run Tryz.prog (wr.alloc (Obj.cells #[.int .i64 (k : Int), .int .i64 lb, .int .i64 tt] 108)).drew = .ok (.slice T3 (L.length + 1) c3') w5) := hrun
            rw [← HT2.out] at hAU
            have HAU := Lib.hid hAU
            have HBB := Lib.hid (HB4.out.drew.trans hBB)
            clear hrun hAU hBB
            have ga : (wr.alloc (Obj.cells #[.int .i64 (k : Int), .int .i64 lb, .int .i64 tt] 108)).cell? ⟨Y, 4, none⟩ = some (.slice T L.length c) := (obj5 (HN4.out.on ((Below.refl wr.heap.size wr).alloc (Nat.le_refl _) (Obj.cells #[.int .i64 (k : Int), .int .i64 lb, .int .i64 tt] 108))).obj).2.2.2.2.1
            go_wp2_with fail
            go_region_law ((refine step_appRun rfl (.tmp 41) (.tmp 50) _ _ rfl (.slice T L.length c) (.slice (some ⟨wr.heap.size, 0, none⟩) 1 1) (.slice T3 (L.length + 1) c3') (by go_simp) (by go_simp) HRUN.out ?_))
            all_goals
              go_wp2_with fail
              go_roundw
              case rel => exact ⟨j + 1, by omega, by go_num, _, HAU, HBB⟩
              case measure => simp [intOf]; omega
          · have hj1 : ¬ (j : Int) < (r.length : Int) := by omega
            have HN5 : Hid (AuN Bs Y (m.ls.length : Int) 8 (moFs m (k + 1)) (List.replicate m.ls.length true) (moRaw m (k + 1)) fv2 gv sv2 wr) := by
              rw [HSU.out, ← List.take_of_length_le (show r.length ≤ j by omega)]
              exact HN4.out
            go_wp2_with fail
            go_roundw
            case rel => exact ⟨k + 1, HKL.out, by go_num, _, _, HN5, HB4⟩
            case measure => simp [intOf]; have := HKL.out; omega
    · have hk1 : ¬ (k : Int) < (m.ls.length : Int) := by omega
      obtain rfl : k = m.ls.length := by omega
      have hrw := HRAW.out
      obtain ⟨rw_, hrwe⟩ : ∃ l, l = moRaw m m.ls.length := ⟨_, rfl⟩
      rw [← hrwe] at HN hrw
      have HRWE := Lib.hid hrwe
      obtain ⟨g0, g1, g2, g3, g4, gf0, gf1, gf2, gf3, gf4⟩ := obj5 HN.out.obj
      have HSC := Lib.hid (SortS_ wr Bs sv rw_ HN.out.s (by omega))
      clear hrwe
      go_upto_region 15 with (first
        | (go_at_call 93; refine HSC.out.mono ?_; rintro e ws ⟨rfl, hown, hgs⟩))
      have hBl : Bs ≤ wr.heap.size := by have := HN.out.lt; have := HYB.out; omega
      have HNs := Lib.hid (HN.out.reS hown hgs)
      have HBs : Hid (Below Bs W0 ws) := HB.out.grown hgs hBl (fun k hk => (HN.out.s.lt k hk).1)
      clear hown hgs g0 g1 g2 g3 g4 gf0 gf1 gf2 gf3 gf4 HSC c0 c1 c2 c3 hBl
      obtain ⟨g0, g1, g2, g3, g4, gf0, gf1, gf2, gf3, gf4⟩ := obj5 HNs.out.obj
      have HCC := Lib.hid (CompactS_ ws Bs sv (sortS rw_) HNs.out.s (by rw [sortS_len]; omega))
      go_wp2_with fail
      refine HCC.out.mono ?_
      rintro e wc ⟨vc, rfl, hown, hgs, hvb⟩
      obtain ⟨TC, cC, rfl, _, _, _⟩ := own_form hown
      obtain ⟨hNc, hob⟩ := HNs.out.putS2 hown hgs
      have hdl : (dd (sortS rw_)).length ≤ 2000000 := Nat.le_trans (ddTo_len _ _) (by rw [sortS_len]; exact hrw)
      obtain ⟨A', B', C', ca', cb', cc', rfl, hgv, hsv, hrd⟩ := hNc.rd (by have := moFs_len m m.ls.length; omega) (by simp; omega) (by omega)
      simp only [Value.slice.injEq] at hsv
      obtain ⟨rfl, _, rfl⟩ := hsv
      rw [List.length_replicate] at hgv
      subst hgv
      have hBs' : Bs ≤ ws.heap.size := by have := HNs.out.lt; have := HYB.out; omega
      have HBc : Hid (Below Bs W0 (wc.setCell ⟨Y, 4, none⟩ (.slice TC (dd (sortS rw_)).length cC))) := (HBs.out.grown hgs hBs' (fun k hk => (HNs.out.s.lt k hk).1)).setCell (p := ⟨Y, 4, none⟩) HYB.out _
      have hres := (HALL.out _ HBc.out).2.2.1
      have hbw := (HALL.out _ HBc.out).2.2.2
      have hV1 : V + 1 < Bs := by rw [HW0.out]; exact (Array.getElem?_eq_some_iff.1 HT.out).1
      obtain ⟨e0, e1, e2, e3, e4, e5, e6, e7, e8, e9⟩ := obj5 hob
      have HYO := Lib.hid hNc.obj
      have HRS := Lib.hid hres
      have hmo : (⟨(m.ls.length : Int), 8, moFs m m.ls.length, List.replicate m.ls.length true, dd (sortS rw_)⟩ : Au) = moA m := by
        unfold moA moAu moSs
        rw [HRWE.out]
      rw [hmo] at hrd
      have hl2 : (dd (sortS rw_)).length = (moA m).ss.length := by rw [← hmo]
      have HFI : Hid (OfPost (moA m) w (.returned (.agg #[.int .i64 (m.ls.length : Int), .int .i64 8, .slice A' (moFs m m.ls.length).length ca', .slice B' m.ls.length cb', .slice TC (dd (sortS rw_)).length cC])) (set5 (wc.setCell ⟨Y, 4, none⟩ (.slice TC (dd (sortS rw_)).length cC)) (V + 1) (.int .i64 (m.ls.length : Int)) (.int .i64 8) (.slice A' (moFs m m.ls.length).length ca') (.slice B' m.ls.length cb') (.slice TC (dd (sortS rw_)).length cC))) := by
        refine ⟨A', B', TC, ca', cb', cC, ?_, (hrd.set5_ hV1 _ _ _ _ _).low (by rw [← HVV.out]; omega), below_set5 hbw (by rw [HVV.out]; omega) _ _ _ _ _⟩
        have hgl : (moA m).gs.length = m.ls.length := List.length_replicate
        have e1 : Value.slice B' m.ls.length cb' = .slice B' (moA m).gs.length cb' := by rw [hgl]
        rw [hl2, e1]
        rfl
      have HO1 := Lib.hid (set5_heap hres (.int .i64 (m.ls.length : Int)) (.int .i64 8) (.slice A' (moFs m m.ls.length).length ca') (.slice B' m.ls.length cb') (.slice TC (dd (sortS rw_)).length cC))
      clear hown hgs hrd hmo hl2 hres hbw hNc hob hdl hrw hvb HNs HBs HCC HBc HN HB g0 g1 g2 g3 g4 gf0 gf1 gf2 gf3 gf4
      go_upto_region 16 with fail
      generalize wc.setCell ⟨Y, 4, none⟩ (.slice TC (dd (sortS rw_)).length cC) = w9 at *
      obtain ⟨n0', n1, n2, n3, n4, _⟩ := obj5 HYO.out
      obtain ⟨s0, s1, s2, s3, s4, t0, t1, t2, t3, t4⟩ := obj5 HRS.out
      clear e0 e1 e2 e3 e4 e5 e6 e7 e8 e9
      unfold set5 at HFI HO1
      generalize (moFs m m.ls.length).length = nf at *
      generalize (dd (sortS rw_)).length = nd at *
      go_wp2_with fail
      exact bodyPost_ret (retA1 Tryz.results51 _ _ (V + 1) rfl HO1.out) rfl HFI.out
end Go.Proofs.YtoglgeaiiipchabGreatDoor

namespace Go.Proofs.YtoglgeaiiipchabGreatDoor
def cntL (ss : List Stp) (c : Int) : Nat := ss.countP fun s => decide (s.l = c)
theorem cntL_cons (s : Stp) (ss : List Stp) (c : Int) : cntL (s :: ss) c = cntL ss c + if s.l = c then 1 else 0 := by
  unfold cntL
  rw [List.countP_cons]
  simp
theorem cntL_le (ss : List Stp) (c : Int) : cntL ss c ≤ ss.length := List.countP_le_length
def stepsN (a b : Au) : Nat := (a.ss.map fun s => 3 * cntL b.ss s.l).sum
end Go.Proofs.YtoglgeaiiipchabGreatDoor

namespace Go.Proofs.YtoglgeaiiipchabGreatDoor
theorem flat_pre {α β : Type} (g : α → List β) {xs pre : List α} {x : α} {p : List β} (h : pre ++ [x] <+: xs) (hp : p <+: g x) : pre.flatMap g ++ p <+: xs.flatMap g := by
  obtain ⟨post, rfl⟩ := h
  obtain ⟨q, hq⟩ := hp
  refine ⟨q ++ post.flatMap g, ?_⟩
  rw [List.flatMap_append, List.flatMap_append, List.flatMap_cons, List.flatMap_nil, List.append_nil, ← hq]
  simp only [List.append_assoc]
theorem range_pre {k n : Nat} (h : k < n) : List.range k ++ [k] <+: List.range n := by
  rw [← List.range_succ]
  have := List.take_prefix (k + 1) (List.range n)
  rwa [List.take_range, Nat.min_eq_left (by omega)] at this
theorem map_pre {α β : Type} (g : α → β) {xs pre : List α} (h : pre <+: xs) : pre.map g <+: xs.map g := by
  obtain ⟨post, rfl⟩ := h
  exact ⟨post.map g, by rw [List.map_append]⟩
def sfr (a : Au) (n : Int) : List Stp := a.ss.filter fun s => s.f == n
noncomputable def triTo (a b : Au) (s t : Stp) (k : Nat) : List Stp := if s.l = t.l then (List.range k).map fun w : Nat => pairStp a b s t w else []
noncomputable def rT (a b : Au) (s : Stp) (ts : List Stp) : List Stp := ts.flatMap fun t => triTo a b s t 3
noncomputable def rY (a b : Au) (s : Stp) (k : Nat) : List Stp := (List.range k).flatMap fun y : Nat => rT a b s (sfr b y)
noncomputable def rS (a b : Au) (ss : List Stp) : List Stp := ss.flatMap fun s => rY a b s b.st.toNat
noncomputable def rX (a b : Au) (k : Nat) : List Stp := (List.range k).flatMap fun x : Nat => rS a b (sfr a x)
noncomputable def rawP (a b : Au) : List Stp := rX a b a.st.toNat
theorem triTo_zero (a b : Au) (s t : Stp) : triTo a b s t 0 = [] := by unfold triTo; split <;> rfl
theorem triTo_succ {a b : Au} {s t : Stp} (h : s.l = t.l) (k : Nat) : triTo a b s t (k + 1) = triTo a b s t k ++ [pairStp a b s t k] := by
  unfold triTo
  rw [if_pos h, if_pos h, List.range_succ, List.map_append]
  rfl
theorem triTo_no {a b : Au} {s t : Stp} (h : s.l ≠ t.l) (k : Nat) : triTo a b s t k = [] := if_neg h
theorem rT_snoc (a b : Au) (s t : Stp) (ts : List Stp) : rT a b s (ts ++ [t]) = rT a b s ts ++ triTo a b s t 3 := by unfold rT; simp
theorem rY_succ (a b : Au) (s : Stp) (k : Nat) : rY a b s (k + 1) = rY a b s k ++ rT a b s (sfr b k) := by unfold rY; rw [List.range_succ]; simp
theorem rS_snoc (a b : Au) (ss : List Stp) (s : Stp) : rS a b (ss ++ [s]) = rS a b ss ++ rY a b s b.st.toNat := by unfold rS; simp
theorem rX_succ (a b : Au) (k : Nat) : rX a b (k + 1) = rX a b k ++ rS a b (sfr a k) := by unfold rX; rw [List.range_succ]; simp
noncomputable def curP (a b : Au) (x : Nat) (ss : List Stp) (s : Stp) (y : Nat) (ts : List Stp) (t : Stp) (k : Nat) : List Stp := rX a b x ++ (rS a b ss ++ (rY a b s y ++ (rT a b s ts ++ triTo a b s t k)))
theorem cur_pre {a b : Au} {x y k : Nat} {ss ts : List Stp} {s t : Stp} (hx : x < a.st.toNat) (hs : ss ++ [s] <+: sfr a x) (hy : y < b.st.toNat) (ht : ts ++ [t] <+: sfr b y) (hk : k ≤ 3) : curP a b x ss s y ts t k <+: rawP a b := by
  refine flat_pre _ (range_pre hx) (flat_pre _ hs (flat_pre _ (range_pre hy) (flat_pre _ ht ?_)))
  unfold triTo
  split
  · refine map_pre _ ?_
    have := List.take_prefix k (List.range 3)
    rwa [List.take_range, Nat.min_eq_left hk] at this
  · exact List.prefix_rfl
theorem raw_is {a b : Au} (ha : ∀ s ∈ a.ss, 0 ≤ s.f ∧ s.f < a.st) (hb : ∀ s ∈ b.ss, 0 ≤ s.f ∧ s.f < b.st) : PairRaw a b (rawP a b) := by
  intro s
  unfold rawP rX rS rY rT triTo sfr
  simp only [List.mem_flatMap, List.mem_range, List.mem_filter, beq_iff_eq]
  constructor
  · rintro ⟨x, hx, t, ⟨ht, htx⟩, y, hy, t', ⟨ht', hty⟩, hm⟩
    split at hm
    · rename_i hl
      obtain ⟨w, hw, rfl⟩ := List.mem_map.1 hm
      exact ⟨t, ht, t', ht', hl, w, by omega, by have := List.mem_range.1 hw; omega, rfl⟩
    · cases hm
  · rintro ⟨t, ht, t', ht', hl, w, h0, h1, rfl⟩
    have r := ha t ht
    have r' := hb t' ht'
    refine ⟨t.f.toNat, by omega, t, ⟨ht, by omega⟩, t'.f.toNat, by omega, t', ⟨ht', by omega⟩, ?_⟩
    rw [if_pos hl]
    refine List.mem_map.2 ⟨w.toNat, List.mem_range.2 (by omega), ?_⟩
    rw [Int.toNat_of_nonneg h0]
def sumTo (h : Nat → Nat) : Nat → Nat
  | 0 => 0
  | k + 1 => sumTo h k + h k
theorem sumTo_mono {h h' : Nat → Nat} (H : ∀ k, h k ≤ h' k) : ∀ k, sumTo h k ≤ sumTo h' k
  | 0 => Nat.le_refl _
  | k + 1 => Nat.add_le_add (sumTo_mono H k) (H k)
theorem flat_range {β : Type} (G : Nat → List β) : ∀ k, ((List.range k).flatMap G).length = sumTo (fun x => (G x).length) k
  | 0 => rfl
  | k + 1 => by rw [List.range_succ, List.flatMap_append, List.length_append, flat_range G k]; simp [sumTo]
theorem sumTo_add (h h' : Nat → Nat) : ∀ k, sumTo (fun x => h x + h' x) k = sumTo h k + sumTo h' k
  | 0 => rfl
  | k + 1 => by unfold sumTo; rw [sumTo_add h h' k]; omega
theorem sumTo_one (f : Int) (v : Nat) : ∀ k, sumTo (fun x : Nat => if f = x then v else 0) k = if 0 ≤ f ∧ f < k then v else 0
  | 0 => by rw [if_neg (by omega)]; rfl
  | k + 1 => by
    unfold sumTo
    rw [sumTo_one f v k]
    by_cases h1 : f = k
    · rw [if_pos h1, if_neg (by omega), if_pos (by omega)]; omega
    · rw [if_neg h1]
      by_cases h2 : 0 ≤ f ∧ f < k
      · rw [if_pos h2, if_pos (by omega)]; omega
      · rw [if_neg h2, if_neg (by omega)]
theorem sum_split (g : Stp → Nat) (k : Nat) : ∀ ss : List Stp, sumTo (fun x : Nat => ((ss.filter fun s => s.f == (x : Int)).map g).sum) k ≤ (ss.map g).sum
  | [] => by
    have : ∀ k, sumTo (fun _ : Nat => (([] : List Stp).map g).sum) k = 0 := by
      intro k
      induction k with
      | zero => rfl
      | succ k ih => unfold sumTo; rw [ih]; rfl
    exact Nat.le_of_eq (this k)
  | s :: ss => by
    have ih := sum_split g k ss
    have e : (fun x : Nat => (((s :: ss).filter fun s => s.f == (x : Int)).map g).sum) = fun x : Nat => (if s.f = (x : Int) then g s else 0) + ((ss.filter fun s => s.f == (x : Int)).map g).sum := by
      funext x
      rw [List.filter_cons]
      by_cases h : s.f = x
      · rw [if_pos (by simpa using h), if_pos h, List.map_cons, List.sum_cons]
      · rw [if_neg (by simpa using h), if_neg h, Nat.zero_add]
    rw [e, sumTo_add, sumTo_one, List.map_cons, List.sum_cons]
    split <;> omega
theorem triTo_len (a b : Au) (s t : Stp) : (triTo a b s t 3).length = if s.l = t.l then 3 else 0 := by
  unfold triTo
  split <;> simp
theorem flat_sum {α β : Type} (G : α → List β) : ∀ xs : List α, (xs.flatMap G).length = (xs.map fun x => (G x).length).sum
  | [] => rfl
  | x :: xs => by rw [List.flatMap_cons, List.length_append, flat_sum G xs, List.map_cons, List.sum_cons]
theorem map_le {α : Type} {g g' : α → Nat} (H : ∀ x, g x ≤ g' x) : ∀ xs : List α, (xs.map g).sum ≤ (xs.map g').sum
  | [] => Nat.le_refl _
  | x :: xs => by rw [List.map_cons, List.map_cons, List.sum_cons, List.sum_cons]; exact Nat.add_le_add (H x) (map_le H xs)
theorem cntL_sum (ss : List Stp) (c : Int) : (ss.map fun t => if c = t.l then 3 else 0).sum = 3 * cntL ss c := by
  induction ss with
  | nil => rfl
  | cons s ss ih =>
    rw [List.map_cons, List.sum_cons, ih, cntL_cons]
    by_cases h : s.l = c
    · rw [if_pos h.symm, if_pos h]; omega
    · rw [if_neg (fun e => h e.symm), if_neg h]; omega
theorem rY_len (a b : Au) (s : Stp) (k : Nat) : (rY a b s k).length ≤ 3 * cntL b.ss s.l := by
  unfold rY
  rw [flat_range, ← cntL_sum]
  refine Nat.le_trans (sumTo_mono (fun y => ?_) k) (sum_split (fun t => if s.l = t.l then 3 else 0) k b.ss)
  unfold rT
  rw [flat_sum]
  exact map_le (fun t => Nat.le_of_eq (triTo_len a b s t)) _
theorem raw_len (a b : Au) : (rawP a b).length ≤ stepsN a b := by
  unfold rawP rX stepsN
  rw [flat_range]
  refine Nat.le_trans (sumTo_mono (fun x => ?_) _) (sum_split (fun s => 3 * cntL b.ss s.l) _ a.ss)
  unfold rS
  rw [flat_sum]
  exact map_le (fun s => rY_len a b s _) _
theorem cur_len {a b : Au} {x y k : Nat} {ss ts : List Stp} {s t : Stp} (hx : x < a.st.toNat) (hs : ss ++ [s] <+: sfr a x) (hy : y < b.st.toNat) (ht : ts ++ [t] <+: sfr b y) (hk : k ≤ 3) : (curP a b x ss s y ts t k).length ≤ stepsN a b :=
  Nat.le_trans (cur_pre hx hs hy ht hk).length_le (raw_len a b)
end Go.Proofs.YtoglgeaiiipchabGreatDoor
