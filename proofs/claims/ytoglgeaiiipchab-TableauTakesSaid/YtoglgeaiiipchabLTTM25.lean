/- Walks: auto.Made. -/
import Derived.Test.YtoglgeaiiipchabLTTM24
import Derived.Test.YtoglgeaiiipchabLTTM15
import Derived.Deep.CutBlock
import Derived.Deep.DeepCutAuto
import Derived.Test.YtoglgeaiiipchabLTTM17
set_option linter.unusedSimpArgs false
set_option linter.unusedVariables false
namespace Go.Proofs.Ytoglgeaiiipchab
open Go Go.RowKit Go.Sort

theorem retMd {fn : Func} (h : fn.results = #[.cell 4 26]) (tmps : Array Value) (w : World) (V : Nat) {v0 v1 v2 v3 v4 : Value} (hp : tmps[4]? = some (.pointer (some ⟨V, 0, none⟩)))
    (ho : w.heap[V]? = some (.cells #[v0, v1, v2, v3, v4] 26 (0, 0))) : (results fn tmps).run Try.prog w = .ok (.agg #[v0, v1, v2, v3, v4]) w := by
  obtain ⟨r0, r1, r2, r3, r4, _⟩ := obj5 ho
  simp [results, h, go_sem, hp, r0, r1, r2, r3, r4]
def MdPost (w : World) (r : Au) (e : Ending) (w' : World) : Prop := ∃ A B C ca cb cc, e = .returned (.agg #[.int .i64 r.st, .int .i64 r.le, .slice A r.fs.length ca, .slice B r.gs.length cb, .slice C r.ss.length cc]) ∧ AuRd w' w.heap.size r A B C ca cb cc ∧ Below w.heap.size w w'
set_option maxRecDepth 100000 in
set_option maxHeartbeats 4000000 in
theorem Made_ (a : Au) (keep : List Bool) (A B C D : Option Addr) (ca cb cc cd : Nat) (w : World) (hr : AuRd w 0 a A B C ca cb cc) (hk : Bools w 0 D cd keep) (hkl : (keep.length : Int) = a.st) (ho : AuOK a) :
    Calls Try.prog 71 #[.agg #[.int .i64 a.st, .int .i64 a.le, .slice A a.fs.length ca, .slice B a.gs.length cb, .slice C a.ss.length cc], .slice D keep.length cd] w (MdPost w (madeOf a keep)) := by
  obtain ⟨N, hN⟩ := Int.eq_ofNat_of_zero_le (show 0 ≤ a.st by have := ho.st1; omega)
  have hN3 : N ≤ 300 := by have := ho.st2; omega
  have hmk := run_makeInts a.st N hN.symm (by omega)
  have HFL := Lib.hid ho.fs_le
  have HN := Lib.hid hN
  have HKL : Hid (keep.length = N) := by show _ = _; omega
  clear hN hkl
  have HW := auW_is w a A B C ca cb cc
  have hb0 : Below w.heap.size w ((auW w a A B C ca cb cc).alloc (Obj.cells #[.int .i64 0, .int .i64 0, .slice none 0 0, .slice none 0 0, .slice none 0 0] 26)) := HW.below.alloc (by rw [HW.size]; omega) _
  have HV0 : AuAt ((auW w a A B C ca cb cc).alloc (Obj.cells #[.int .i64 0, .int .i64 0, .slice none 0 0, .slice none 0 0, .slice none 0 0] 26)) w.heap.size a A B C ca cb cc := HW.at.below ((Below.refl _ _).alloc (Nat.le_refl _) _) (by rw [HW.size]; omega)
  have hobj : ((auW w a A B C ca cb cc).alloc (Obj.cells #[.int .i64 0, .int .i64 0, .slice none 0 0, .slice none 0 0, .slice none 0 0] 26)).heap[w.heap.size + 1]? = some (.cells #[.int .i64 0, .int .i64 0, .slice none 0 0, .slice none 0 0, .slice none 0 0] 26 (0, 0)) := by
    rw [← HW.size]
    show ((auW w a A B C ca cb cc).heap.push _)[(auW w a A B C ca cb cc).heap.size]? = _
    simp
  have hsz : ((auW w a A B C ca cb cc).alloc (Obj.cells #[.int .i64 0, .int .i64 0, .slice none 0 0, .slice none 0 0, .slice none 0 0] 26)).heap.size = w.heap.size + 1 + 1 := by simp [HW.size]
  clear HW
  unfold auW at hb0 HV0 hobj hsz
  go_enter Try.func71, Try.ntmps71
  go_upto_region 1 with fail
  obtain ⟨V, hV⟩ : ∃ V, V = w.heap.size := ⟨_, rfl⟩
  rw [← hV] at HV0 hobj hsz ⊢
  generalize (w.alloc (Obj.cells #[.int .i64 a.st, .int .i64 a.le, .slice A a.fs.length ca, .slice B a.gs.length cb, .slice C a.ss.length cc] 26)).alloc (Obj.cells #[.int .i64 0, .int .i64 0, .slice none 0 0, .slice none 0 0, .slice none 0 0] 26) = W0 at *
  have HVA := Lib.hid HV0
  obtain ⟨_, c0, c1, c2, c3, c4⟩ := HV0
  have HB0 := Lib.hid hb0
  have HSZ := Lib.hid hsz
  have HOB := Lib.hid hobj
  have HO := Lib.hid ho
  have HVL : Hid (V + 1 + 1 = W0.heap.size) := hsz.symm
  have HR : Hid (AuRd W0 0 a A B C ca cb cc) := hr.below hb0
  have HK : Hid (Bools W0 0 D cd keep) := hk.below hb0
  have HVV := Lib.hid hV
  have HM0 : Hid (MdM W0 W0.heap.size (W0.heap.size + 1) (toRow keep N 0) 0 a.le [] [] [] (.slice none 0 0) (.slice none 0 0) (.slice none 0 0) ((W0.alloc (Obj.cells (madeCells #[Value.int .i64 0] N) 3)).alloc (Obj.cells #[.int .i64 0, .int .i64 a.le, .slice none 0 0, .slice none 0 0, .slice none 0 0] 26))) := by
    have h1 : Below W0.heap.size W0 (W0.alloc (Obj.cells (madeCells #[Value.int .i64 0] N) 3)) := (Below.refl _ _).alloc (Nat.le_refl _) _
    have h2 := AuM.new (W0.alloc (Obj.cells (madeCells #[Value.int .i64 0] N) 3)) a.le
    rw [show (W0.alloc (Obj.cells (madeCells #[Value.int .i64 0] N) 3)).heap.size = W0.heap.size + 1 by simp] at h2
    refine ⟨h1.alloc (by simp) _, by omega, ?_, h2⟩
    rw [toRow_zero]
    exact (IRow.new W0 N).below ((Below.refl _ _).alloc (Nat.le_refl _) _) (IRow.new W0 N).lt
  clear hb0 hsz hobj hr hk ho hV
  go_upto_block 0 with fail
  clear c0 c1 c2 c3 c4 hmk
  obtain ⟨t, ht⟩ : ∃ t, t = W0.heap.size := ⟨_, rfl⟩
  rw [← ht] at HM0 HVL HSZ ⊢
  have HT := Lib.hid ht
  have HVW : Hid (∀ W, Below t W0 W → AuAt W V a A B C ca cb cc) := fun W h => HVA.out.below h (by have := HVL.out; omega)
  have HKW : Hid (∀ W, Below t W0 W → Bools W 0 D cd keep) := fun W h => HK.out.below h (by rw [ht]; exact Nat.le_refl _)
  have HRW : Hid (∀ W, Below t W0 W → AuRd W 0 a A B C ca cb cc) := fun W h => HR.out.below (by rw [← ht]; exact h)
  clear ht HK HR HVA
  generalize (W0.alloc (Obj.cells (madeCells #[Value.int .i64 0] N) 3)).alloc (Obj.cells #[.int .i64 0, .int .i64 a.le, .slice none 0 0, .slice none 0 0, .slice none 0 0] 26) = W1 at *
  go_cut [] (fun wx => ∃ gv, Hid (MdM W0 t (t + 1) (toRow keep N N) (pos keep N : Nat) a.le [] (keptG a.gs keep N) [] (.slice none 0 0) gv (.slice none 0 0) wx))
  case first =>
    go_wp2_with fail
    go_loopw [7, 20] (fun _ i wr => ∃ (k : Nat) (gv : Value), k ≤ N ∧ i = .int .i64 (k : Int) ∧ Hid (MdM W0 t (t + 1) (toRow keep N k) (pos keep k : Nat) a.le [] (keptG a.gs keep k) [] (.slice none 0 0) gv (.slice none 0 0) wr)) (fun _ i _ => N - (intOf i).toNat)
    case atStart => exact ⟨0, _, Nat.zero_le _, rfl, HM0.out⟩
    case round =>
      obtain ⟨k, gv, hk, rfl, HM⟩ := hrel
      clear HM0
      by_cases hkN : k < N
      · have q1 : (k : Int) < a.st := by have := HN.out; omega
        have q2 : (k : Int) < (N : Int) := by omega
        obtain ⟨g0, g1, g2, g3, g4, gf0, gf1, gf2, gf3, gf4⟩ := obj5 HM.out.au.obj
        obtain ⟨z1, z2⟩ := HM.out.row.getD_ (i := k) (by rw [toRow_len]; omega)
        have hpk : pos keep k ≤ 300 := by
          have : pos keep k ≤ k := by unfold pos; exact Nat.le_trans (List.count_le_length ..) (by simp; omega)
          omega
        have HTS := Lib.hid (toRow_succ keep hkN)
        have HPS := Lib.hid (pos_succ (keep := keep) (i := k) (by rw [HKL.out]; exact hkN))
        have HGS := Lib.hid (keptG_succ a.gs keep k)
        have HGLN : Hid ((keptG a.gs keep k).length = pos keep k) := keptG_len (by rw [HKL.out]; omega)
        have HM2 := Lib.hid (HM.out.put k (pos keep k : Nat))
        rw [HTS.out] at HM2
        have HX := Lib.hid hkN
        generalize pos keep k = p at *
        go_upto_region 7 with fail
        clear g0 g1 g2 g3 g4 gf0 gf1 gf2 gf3 gf4 z1 z2 HM
        generalize wr.setCell ⟨t, k, none⟩ (.int .i64 (p : Int)) = W2 at *
        obtain ⟨kb, ko, hD, _, _, y0⟩ := Bools.at_ (HKW.out _ HM2.out.below) (k := k) (by rw [HKL.out]; exact hkN)
        have hkg : keep[k]'(by rw [HKL.out]; exact hkN) = keep.getD k false := by rw [List.getD_eq_getElem?_getD, List.getElem?_eq_getElem]; rfl
        rw [hkg] at y0
        subst hD
        have q3 : (k : Int) < (keep.length : Int) := by rw [HKL.out]; exact q2
        clear hkg
        cases hkv : keep.getD k false with
        | false =>
          rw [hkv] at y0
          have hp1 : pos keep (k + 1) = p := by rw [HPS.out, hkv]; rfl
          have hg1 : keptG a.gs keep (k + 1) = keptG a.gs keep k := by rw [HGS.out, hkv]; simp
          have HMR : Hid (MdM W0 t (t + 1) (toRow keep N (k + 1)) (pos keep (k + 1) : Nat) a.le [] (keptG a.gs keep (k + 1)) [] (.slice none 0 0) gv (.slice none 0 0) W2) := by unfold Hid; rw [hp1, hg1]; exact HM2.out
          clear hkv hp1 hg1 HGLN
          go_wp2_with fail
          go_roundw
          case rel => exact ⟨k + 1, gv, HX.out, by go_num, HMR.out⟩
          case measure => simp [intOf]; omega
        | true =>
          rw [hkv] at y0
          have hp1 : pos keep (k + 1) = p + 1 := by rw [HPS.out, hkv]; rfl
          have hg1 : keptG a.gs keep (k + 1) = keptG a.gs keep k ++ [a.gs.getD k false] := by rw [HGS.out, hkv]; simp
          have HM3 := Lib.hid (HM2.out.states ((p : Int) + 1))
          obtain ⟨g0, g1, g2, g3, g4, gf0, gf1, gf2, gf3, gf4⟩ := obj5 HM2.out.au.obj
          go_upto_region 9 with fail
          clear g0 g1 g2 g3 g4 gf0 gf1 gf2 gf3 gf4 y0 hkv
          generalize W2.setCell ⟨t + 1, 0, none⟩ (.int .i64 ((p : Int) + 1)) = W3 at *
          have hdw : Below W3.heap.size W3 W3.drew := (Below.refl _ _).drew
          have HM4 := Lib.hid (HM3.out.on hdw)
          obtain ⟨T, c, rfl, hlc, hcm, T3, c3, w5, hrun, q4, f4, -, hAU, hBB⟩ := HM4.out.au.appG (a.gs.getD k false) (by rw [HGLN.out]; omega)
          have HM5 := Lib.hid (HM4.out.step hAU hBB)
          obtain ⟨gb, go_, hB, _, _, z0⟩ := Bools.at_ (HRW.out _ HM4.out.below).gs (k := k) (by have := HO.out.gl; have := HN.out; omega)
          have hkg : a.gs[k]'(by have := HO.out.gl; have := HN.out; omega) = a.gs.getD k false := by rw [List.getD_eq_getElem?_getD, List.getElem?_eq_getElem]; rfl
          rw [hkg] at z0
          subst hB
          have q5 : (k : Int) < (a.gs.length : Int) := by have := HO.out.gl; have := HN.out; omega
          obtain ⟨g0, g1, g2, g3, g4, gf0, gf1, gf2, gf3, gf4⟩ := obj5 HM4.out.au.obj
          have hGl : t + 1 < W3.heap.size := HM4.out.au.lt
          have hb6 : Below W3.heap.size W3 (W3.alloc (Obj.cells #[.bool (a.gs.getD k false)] 4)).drew := ((Below.refl _ W3).alloc (Nat.le_refl _) _).drew
          have g3' : (W3.alloc (Obj.cells #[.bool (a.gs.getD k false)] 4)).drew.cell? ⟨t + 1, 3, none⟩ = some (.slice T (keptG a.gs keep k).length c) := (hb6.cell (p := ⟨t + 1, 3, none⟩) hGl).trans g3
          obtain ⟨_, v0, v1, v2, v3, v4⟩ := HVW.out _ HM4.out.below
          have HRUN : Hid ((Builtin.append_ #[23, 23] 23 #[.slice T (keptG a.gs keep k).length c, .slice (some ⟨W3.heap.size, 0, none⟩) 1 1]).run Try.prog (W3.alloc (Obj.cells #[.bool (a.gs.getD k false)] 4)).drew = .ok (.slice T3 ((keptG a.gs keep k).length + 1) c3) w5) := hrun
          have HMR : Hid (MdM W0 t (t + 1) (toRow keep N (k + 1)) (pos keep (k + 1) : Nat) a.le [] (keptG a.gs keep (k + 1)) [] (.slice none 0 0) (.slice T3 ((keptG a.gs keep k).length + 1) c3) (.slice none 0 0) (w5.setCell ⟨t + 1, 3, none⟩ (.slice T3 ((keptG a.gs keep k).length + 1) c3))) := by unfold Hid; rw [hp1, hg1]; exact HM5.out
          clear g0 g1 g2 g4 gf0 gf1 gf2 gf3 gf4 v0 v1 v2 v4 hrun hAU hBB hp1 hg1 hkg hb6 hdw HM4 HM3 HM2 HM5 HGLN
          generalize (keptG a.gs keep k).length = gn at *
          generalize a.gs.getD k false = gk at *
          go_region_law ((refine step_appR rfl (.tmp 37) (.tmp 43) _ _ rfl (.slice T gn c) (.slice (some ⟨W3.heap.size, 0, none⟩) 1 1) (.slice T3 (gn + 1) c3) (by go_simp) (by go_simp) HRUN.out ?_))
          all_goals
            have HMR2 := Lib.hid HMR.out
            go_simp
            go_wp2_with fail
            go_roundw
            case rel => exact ⟨k + 1, _, HX.out, by go_num, HMR2.out⟩
            case measure => simp [intOf]; omega
      · have q1 : ¬ (k : Int) < a.st := by have := HN.out; omega
        obtain rfl : k = N := by omega
        go_wp2_with fail
        go_meet
        exact ⟨gv, HM.out⟩
  case rest =>
    obtain ⟨gv, HM0'⟩ := hcut
    clear HM0
    have HM0 := HM0'
    clear HM0'
    go_upto_region 11 with fail
    have HTL : Hid (∀ q : Int, 0 ≤ q → q < a.st → ∀ W, IRow W t (toRow keep N N) → W.cell? ⟨t, q.toNat, none⟩ = some (.int .i64 (newQ keep q)) ∧ W.frozen? ⟨t, q.toNat, none⟩ = false) := fun q h0 h1 W hW => by
      have hq : q.toNat < N := by have := HN.out; omega
      have h := hW.getD_ (i := q.toNat) (by rw [toRow_len]; exact hq)
      rw [toRow_get keep hq] at h
      exact h
    have HKQ : Hid (∀ q : Int, 0 ≤ q → q < a.st → ∀ W, Below t W0 W → ∃ b o, D = some ⟨b, o, none⟩ ∧ W.cell? ⟨b, o + q.toNat, none⟩ = some (.bool (kp keep q))) := fun q h0 h1 W hW => by
      have hq : q.toNat < keep.length := by rw [HKL.out]; have := HN.out; omega
      obtain ⟨kb, ko, hD, _, _, y0⟩ := Bools.at_ (HKW.out W hW) hq
      refine ⟨kb, ko, hD, y0.trans ?_⟩
      unfold kp
      rw [List.getD_eq_getElem?_getD, List.getElem?_eq_getElem hq]
      rfl
    obtain ⟨_, v0, v1, v2, v3, v4⟩ := HVW.out _ HM0.out.below
    go_upto_block 2 with fail
    clear v0 v1 v2 v3 v4
    go_cut [] (fun wx => ∃ fv, Hid (MdM W0 t (t + 1) (toRow keep N N) (pos keep N : Nat) a.le (keptF a keep a.fs.length) (keptG a.gs keep N) [] fv gv (.slice none 0 0) wx))
    case first =>
      go_wp2_with fail
      go_loopw [9, 50] (fun _ i wr => ∃ (k : Nat) (fv : Value), k ≤ a.fs.length ∧ i = .int .i64 (k : Int) ∧ Hid (MdM W0 t (t + 1) (toRow keep N N) (pos keep N : Nat) a.le (keptF a keep k) (keptG a.gs keep N) [] fv gv (.slice none 0 0) wr)) (fun _ i _ => a.fs.length - (intOf i).toNat)
      case atStart => exact ⟨0, _, Nat.zero_le _, rfl, HM0.out⟩
      case round =>
        obtain ⟨k, fv, hk, rfl, HM⟩ := hrel
        clear HM0
        by_cases hkN : k < a.fs.length
        · have q1 : (k : Int) < (a.fs.length : Int) := by omega
          have hrdf := (HRW.out _ HM.out.below).fs
          have hca := hrdf.le
          obtain ⟨fb, fo, hA, _, _, x0⟩ := Ints.at_ hrdf hkN
          have hfr := HO.out.fr _ (List.getElem_mem hkN)
          have HKS := Lib.hid (keptF_succ a keep hkN)
          have hfl2 : (keptF a keep k).length ≤ 300 := by
            unfold keptF
            rw [List.length_map]
            have := List.length_filter_le (kp keep) (a.fs.take k)
            have := List.length_take_le k a.fs
            have := HFL.out
            have := HN.out
            omega
          have hfl3 : a.fs.length ≤ 300 := by have := HFL.out; have := HN.out; omega
          obtain ⟨q, hq⟩ : ∃ q, q = a.fs[k] := ⟨_, rfl⟩
          rw [← hq] at x0 hfr HKS
          clear hq hrdf
          obtain ⟨kb, ko, hD, y0⟩ := HKQ.out q hfr.1 hfr.2 wr HM.out.below
          have hTL := HTL.out q hfr.1 hfr.2
          have HTQ := Lib.hid hTL
          obtain ⟨n, rfl⟩ := Int.eq_ofNat_of_zero_le hfr.1
          rw [Int.toNat_natCast] at y0 HTQ
          subst hA hD
          have q3 : (n : Int) < (keep.length : Int) := by rw [HKL.out]; have := HN.out; omega
          have q4 : (n : Int) < (N : Int) := by have := HN.out; omega
          have HX := Lib.hid hkN
          clear hTL hfr
          cases hkv : kp keep (n : Int) with
          | false =>
            rw [hkv] at y0
            have hg1 : keptF a keep (k + 1) = keptF a keep k := by rw [HKS.out, hkv]; simp
            have HMR : Hid (MdM W0 t (t + 1) (toRow keep N N) (pos keep N : Nat) a.le (keptF a keep (k + 1)) (keptG a.gs keep N) [] fv gv (.slice none 0 0) wr) := by unfold Hid; rw [hg1]; exact HM.out
            clear hkv hg1 HM
            go_wp2_with fail
            go_roundw
            case rel => exact ⟨k + 1, fv, HX.out, by go_num, HMR.out⟩
            case measure => simp [intOf]; omega
          | true =>
            rw [hkv] at y0
            have hg1 : keptF a keep (k + 1) = keptF a keep k ++ [newQ keep n] := by rw [HKS.out, hkv]; simp
            go_upto_region 15 with fail
            clear y0 hkv x0
            have hdw : Below wr.heap.size wr wr.drew := (Below.refl _ _).drew
            have HM4 := Lib.hid (HM.out.on hdw)
            obtain ⟨T, c, rfl, hlc, hcm, T3, c3, w5, hrun, p4, f4, -, hAU, hBB⟩ := HM4.out.au.appF (newQ keep n) (by omega)
            have HM5 := Lib.hid (HM4.out.step hAU hBB)
            obtain ⟨z0, _⟩ := HTQ.out _ HM4.out.row
            obtain ⟨g0, g1, g2, g3, g4, gf0, gf1, gf2, gf3, gf4⟩ := obj5 HM4.out.au.obj
            have hGl : t + 1 < wr.heap.size := HM4.out.au.lt
            have hb6 : Below wr.heap.size wr (wr.alloc (Obj.cells #[.int .i64 (newQ keep n)] 3)).drew := ((Below.refl _ wr).alloc (Nat.le_refl _) _).drew
            have g2' : (wr.alloc (Obj.cells #[.int .i64 (newQ keep n)] 3)).drew.cell? ⟨t + 1, 2, none⟩ = some (.slice T (keptF a keep k).length c) := (hb6.cell (p := ⟨t + 1, 2, none⟩) hGl).trans g2
            have HRUN : Hid ((Builtin.append_ #[22, 22] 22 #[.slice T (keptF a keep k).length c, .slice (some ⟨wr.heap.size, 0, none⟩) 1 1]).run Try.prog (wr.alloc (Obj.cells #[.int .i64 (newQ keep n)] 3)).drew = .ok (.slice T3 ((keptF a keep k).length + 1) c3) w5) := hrun
            have HMR : Hid (MdM W0 t (t + 1) (toRow keep N N) (pos keep N : Nat) a.le (keptF a keep (k + 1)) (keptG a.gs keep N) [] (.slice T3 ((keptF a keep k).length + 1) c3) gv (.slice none 0 0) (w5.setCell ⟨t + 1, 2, none⟩ (.slice T3 ((keptF a keep k).length + 1) c3))) := by unfold Hid; rw [hg1]; exact HM5.out
            clear g0 g1 g3 g4 gf0 gf1 gf2 gf3 gf4 hrun hAU hBB hg1 hb6 hdw HM4 HM5
            generalize (keptF a keep k).length = gn at *
            generalize newQ keep (n : Int) = gk at *
            go_region_law ((refine step_appR rfl (.tmp 59) (.tmp 64) _ _ rfl (.slice T gn c) (.slice (some ⟨wr.heap.size, 0, none⟩) 1 1) (.slice T3 (gn + 1) c3) (by go_simp) (by go_simp) HRUN.out ?_))
            all_goals
              have HMR2 := Lib.hid HMR.out
              go_simp
              go_wp2_with fail
              go_roundw
              case rel => exact ⟨k + 1, _, HX.out, by go_num, HMR2.out⟩
              case measure => simp [intOf]; omega
        · have q1 : ¬ (k : Int) < (a.fs.length : Int) := by omega
          obtain rfl : k = a.fs.length := by omega
          go_wp2_with fail
          go_meet
          exact ⟨fv, HM.out⟩
    case rest =>
      obtain ⟨fv, HM1⟩ := hcut
      clear HM0
      go_upto_region 17 with fail
      obtain ⟨_, v0, v1, v2, v3, v4⟩ := HVW.out _ HM1.out.below
      go_upto_block 4 with fail
      clear v0 v1 v2 v3 v4
      go_cut [] (fun wx => ∃ sv, Hid (MdM W0 t (t + 1) (toRow keep N N) (pos keep N : Nat) a.le (keptF a keep a.fs.length) (keptG a.gs keep N) (keptS a keep a.ss.length) fv gv sv wx))
      case first =>
        have hsl := HO.out.sl
        go_wp2_with fail
        go_loopw [11, 71] (fun _ i wr => ∃ (k : Nat) (sv : Value), k ≤ a.ss.length ∧ i = .int .i64 (k : Int) ∧ Hid (MdM W0 t (t + 1) (toRow keep N N) (pos keep N : Nat) a.le (keptF a keep a.fs.length) (keptG a.gs keep N) (keptS a keep k) fv gv sv wr)) (fun _ i _ => a.ss.length - (intOf i).toNat)
        case atStart => exact ⟨0, _, Nat.zero_le _, rfl, HM1.out⟩
        case round =>
          obtain ⟨k, sv, hk, rfl, HM⟩ := hrel
          clear HM1
          by_cases hkN : k < a.ss.length
          · have q1 : (k : Int) < (a.ss.length : Int) := by omega
            have hrds := (HRW.out _ HM.out.below).ss
            obtain ⟨sb, so, hC, _, _, x0, x1, x2⟩ := Stps.at_ hrds hkN
            have hsr := HO.out.sr _ (List.getElem_mem hkN)
            have HKS := Lib.hid (keptS_succ a keep hkN)
            have hca := hrds.le
            have hfl2 : (keptS a keep k).length ≤ 6000 := by
              unfold keptS
              rw [List.length_map]
              have := List.length_filter_le (fun s => kp keep s.f && kp keep s.t) (a.ss.take k)
              have := List.length_take_le k a.ss
              omega
            obtain ⟨s, hs⟩ : ∃ s, s = a.ss[k] := ⟨_, rfl⟩
            rw [← hs] at x0 x1 x2 hsr HKS
            clear hs hrds
            obtain ⟨sf, sl, st⟩ := s
            simp only at x0 x1 x2 hsr HKS
            have hba : Below wr.heap.size wr (wr.alloc (Obj.cells #[.int .i64 sf, .int .i64 sl, .int .i64 st] 49)) := (Below.refl _ _).alloc (Nat.le_refl _) _
            have HM2 := Lib.hid (HM.out.on hba)
            have hS0 : (wr.alloc (Obj.cells #[.int .i64 sf, .int .i64 sl, .int .i64 st] 49)).cell? ⟨wr.heap.size, 0, none⟩ = some (.int .i64 sf) := by go_simp
            have hS1 : (wr.alloc (Obj.cells #[.int .i64 sf, .int .i64 sl, .int .i64 st] 49)).cell? ⟨wr.heap.size, 1, none⟩ = some (.int .i64 sl) := by go_simp
            have hS2 : (wr.alloc (Obj.cells #[.int .i64 sf, .int .i64 sl, .int .i64 st] 49)).cell? ⟨wr.heap.size, 2, none⟩ = some (.int .i64 st) := by go_simp
            have hSl : wr.heap.size < (wr.alloc (Obj.cells #[.int .i64 sf, .int .i64 sl, .int .i64 st] 49)).heap.size := by simp
            subst hC
            go_upto_region 20 with fail
            obtain ⟨S, hSS⟩ : ∃ S, S = wr.heap.size := ⟨_, rfl⟩
            rw [← hSS] at hS0 hS1 hS2 hSl ⊢
            generalize wr.alloc (Obj.cells #[.int .i64 sf, .int .i64 sl, .int .i64 st] 49) = W2 at *
            have hSV : some S ≠ sv.ownBlock := fun e => by have := (HM.out.au.s.lt S e.symm).2; omega
            have hSt : t + 1 < S := by have := HM.out.au.lt; omega
            clear hSS hba HM x0 x1 x2
            obtain ⟨kb, ko, hD, y0⟩ := HKQ.out sf hsr.1.1 hsr.1.2 W2 HM2.out.below
            obtain ⟨kb', ko', hD', y1⟩ := HKQ.out st hsr.2.1.1 hsr.2.1.2 W2 HM2.out.below
            have HTF := Lib.hid (HTL.out sf hsr.1.1 hsr.1.2)
            have HTT := Lib.hid (HTL.out st hsr.2.1.1 hsr.2.1.2)
            obtain ⟨nf, rfl⟩ := Int.eq_ofNat_of_zero_le hsr.1.1
            obtain ⟨nt, rfl⟩ := Int.eq_ofNat_of_zero_le hsr.2.1.1
            rw [Int.toNat_natCast] at y0 y1 HTF HTT
            subst hD
            obtain ⟨rfl, rfl⟩ : kb = kb' ∧ ko = ko' := by simpa using hD'
            have q3 : (nf : Int) < (keep.length : Int) := by rw [HKL.out]; have := HN.out; omega
            have q4 : (nf : Int) < (N : Int) := by have := HN.out; omega
            have q5 : (nt : Int) < (keep.length : Int) := by rw [HKL.out]; have := HN.out; omega
            have q6 : (nt : Int) < (N : Int) := by have := HN.out; omega
            have HX := Lib.hid hkN
            clear hsr hD'
            have HNO : Hid ((kp keep (nf : Int) && kp keep (nt : Int)) = false → MdM W0 t (t + 1) (toRow keep N N) (pos keep N : Nat) a.le (keptF a keep a.fs.length) (keptG a.gs keep N) (keptS a keep (k + 1)) fv gv sv W2) := fun h => by
              have hg1 : keptS a keep (k + 1) = keptS a keep k := by rw [HKS.out, h]; simp
              rw [hg1]; exact HM2.out
            cases hkv : kp keep (nf : Int) with
            | false =>
              rw [hkv] at y0
              have HMR := Lib.hid (HNO.out (by rw [hkv]; rfl))
              clear hkv HNO y1 hS1 hS2
              go_wp2_with fail
              go_roundw
              case rel => exact ⟨k + 1, sv, HX.out, by go_num, HMR.out⟩
              case measure => simp [intOf]; omega
            | true =>
              rw [hkv] at y0
              cases hkw : kp keep (nt : Int) with
              | false =>
                rw [hkw] at y1
                have HMR := Lib.hid (HNO.out (by rw [hkv, hkw]; rfl))
                clear hkv hkw HNO hS1
                go_wp2_with fail
                go_roundw
                case rel => exact ⟨k + 1, sv, HX.out, by go_num, HMR.out⟩
                case measure => simp [intOf]; omega
              | true =>
                rw [hkw] at y1
                have hg1 : keptS a keep (k + 1) = keptS a keep k ++ [⟨newQ keep nf, sl, newQ keep nt⟩] := by rw [HKS.out, hkv, hkw]; rfl
                go_upto_region 21 with fail
                clear y0 y1 hkv hkw HNO
                have hdw : Below W2.heap.size W2 W2.drew := (Below.refl _ _).drew
                have HM4 := Lib.hid (HM2.out.on hdw)
                obtain ⟨T, c, rfl, hlc, hcm, T3, c3, w5, hrun, p4, f4, hgr, hAU, hBB⟩ := HM4.out.au.appS ⟨newQ keep nf, sl, newQ keep nt⟩ (by omega)
                have HM5 := Lib.hid (HM4.out.step hAU hBB)
                obtain ⟨z0, _⟩ := HTF.out _ HM4.out.row
                obtain ⟨z1, _⟩ := HTT.out _ HM4.out.row
                obtain ⟨g0, g1, g2, g3, g4, gf0, gf1, gf2, gf3, gf4⟩ := obj5 HM4.out.au.obj
                have hGl : t + 1 < W2.heap.size := HM4.out.au.lt
                have hb6 : Below W2.heap.size W2 (W2.alloc (Obj.cells #[.int .i64 (newQ keep nf), .int .i64 sl, .int .i64 (newQ keep nt)] 49)).drew := ((Below.refl _ W2).alloc (Nat.le_refl _) _).drew
                have g4' : (W2.alloc (Obj.cells #[.int .i64 (newQ keep nf), .int .i64 sl, .int .i64 (newQ keep nt)] 49)).drew.cell? ⟨t + 1, 4, none⟩ = some (.slice T (keptS a keep k).length c) := (hb6.cell (p := ⟨t + 1, 4, none⟩) hGl).trans g4
                have s0 : W2.drew.cell? ⟨S, 0, none⟩ = some (.int .i64 (nf : Int)) := hS0
                have s1 : W2.drew.cell? ⟨S, 1, none⟩ = some (.int .i64 sl) := hS1
                have s2 : W2.drew.cell? ⟨S, 2, none⟩ = some (.int .i64 (nt : Int)) := hS2
                have hne : ∀ b o u, b < W2.heap.size → some b ≠ (Value.slice T (keptS a keep k).length c).ownBlock → W2.drew.cell? ⟨b, o, none⟩ = some u → w5.cell? ⟨b, o, none⟩ = some u := fun b o u hb hn hc => hgr.cell ((hb6.cell (p := ⟨b, o, none⟩) hb).trans hc) hn
                have htV : some t ≠ (Value.slice T (keptS a keep k).length c).ownBlock := own_ne HM4.out.au.s (by omega)
                have htl : t < W2.heap.size := by omega
                have s05 := hne _ _ _ hSl hSV s0
                have s15 := hne _ _ _ hSl hSV s1
                have s25 := hne _ _ _ hSl hSV s2
                have z05 := hne _ _ _ htl htV z0
                have z15 := hne _ _ _ htl htV z1
                have s06 := (hb6.cell (p := ⟨S, 0, none⟩) hSl).trans s0
                have s16 := (hb6.cell (p := ⟨S, 1, none⟩) hSl).trans s1
                have s26 := (hb6.cell (p := ⟨S, 2, none⟩) hSl).trans s2
                have z06 := (hb6.cell (p := ⟨t, nf, none⟩) htl).trans z0
                have z16 := (hb6.cell (p := ⟨t, nt, none⟩) htl).trans z1
                have hS1 : S ≠ t + 1 := by omega
                have HRUN : Hid ((Builtin.append_ #[24, 24] 24 #[.slice T (keptS a keep k).length c, .slice (some ⟨W2.heap.size, 0, none⟩) 1 1]).run Try.prog (W2.alloc (Obj.cells #[.int .i64 (newQ keep nf), .int .i64 sl, .int .i64 (newQ keep nt)] 49)).drew = .ok (.slice T3 ((keptS a keep k).length + 1) c3) w5) := hrun
                have HMR : Hid (MdM W0 t (t + 1) (toRow keep N N) (pos keep N : Nat) a.le (keptF a keep a.fs.length) (keptG a.gs keep N) (keptS a keep (k + 1)) fv gv (.slice T3 ((keptS a keep k).length + 1) c3) (w5.setCell ⟨t + 1, 4, none⟩ (.slice T3 ((keptS a keep k).length + 1) c3))) := by unfold Hid; rw [hg1]; exact HM5.out
                clear g0 g1 g2 g3 gf0 gf1 gf2 gf3 gf4 hrun hAU hBB hg1 hb6 hdw HM4 HM5 hS0 hS2 hgr hne htV hSV
                generalize (keptS a keep k).length = gn at *
                generalize newQ keep (nf : Int) = gk at *
                generalize newQ keep (nt : Int) = gk2 at *
                refine wp_region_Z (fun w' => w'.cell? ⟨t + 1, 4, none⟩ = some (.slice T gn c) ∧ w'.cell? ⟨S, 0, none⟩ = some (.int .i64 (nf : Int)) ∧ w'.cell? ⟨S, 1, none⟩ = some (.int .i64 sl) ∧ w'.cell? ⟨S, 2, none⟩ = some (.int .i64 (nt : Int)) ∧ w'.cell? ⟨t, nf, none⟩ = some (.int .i64 gk) ∧ w'.cell? ⟨t, nt, none⟩ = some (.int .i64 gk2)) 18 (by kernel_rfl) ?_
                refine wpAnyZ_take (i := 0) (v := ?v0) rfl (by kernel_rfl) (by kernel_rfl) (by kernel_rfl) (by kernel_rfl) (by kernel_rfl) (fun _ _ _ h => h) (Or.inl ⟨by rfl, ?hy0⟩) ⟨g4, s0, s1, s2, z0, z1⟩ ?rest0
                case hy0 => (intro w' hw'; obtain ⟨h0, h1, h2, h3, h4, h5⟩ := hw'; go_simp; (try with_reducible rfl))
                (try simp only [Act.put, List.setIfInBounds_toArray, List.set_cons_zero, List.set_cons_succ])
                refine wpAnyZ_take (i := 1) (v := ?v1) rfl (by kernel_rfl) (by kernel_rfl) (by kernel_rfl) (by kernel_rfl) (by kernel_rfl) (fun _ _ _ h => h) (Or.inl ⟨by rfl, ?hy1⟩) ⟨g4, s0, s1, s2, z0, z1⟩ ?rest1
                case hy1 => (intro w' hw'; obtain ⟨h0, h1, h2, h3, h4, h5⟩ := hw'; go_simp; (try with_reducible rfl))
                (try simp only [Act.put, List.setIfInBounds_toArray, List.set_cons_zero, List.set_cons_succ])
                refine wpAnyZ_take (i := 2) (v := ?v2) rfl (by kernel_rfl) (by kernel_rfl) (by kernel_rfl) (by kernel_rfl) (by kernel_rfl) (fun _ _ _ h => h) (Or.inl ⟨by rfl, ?hy2⟩) ⟨g4, s0, s1, s2, z0, z1⟩ ?rest2
                case hy2 => (intro w' hw'; obtain ⟨h0, h1, h2, h3, h4, h5⟩ := hw'; go_simp; (try with_reducible rfl))
                (try simp only [Act.put, List.setIfInBounds_toArray, List.set_cons_zero, List.set_cons_succ])
                refine wpAnyZ_take (i := 3) (v := ?v3) rfl (by kernel_rfl) (by kernel_rfl) (by kernel_rfl) (by kernel_rfl) (by kernel_rfl) (fun _ _ _ h => h) (Or.inl ⟨by rfl, ?hy3⟩) ⟨g4, s0, s1, s2, z0, z1⟩ ?rest3
                case hy3 => (intro w' hw'; obtain ⟨h0, h1, h2, h3, h4, h5⟩ := hw'; go_simp; (try with_reducible rfl))
                (try simp only [Act.put, List.setIfInBounds_toArray, List.set_cons_zero, List.set_cons_succ])
                refine wpAnyZ_take (i := 4) (v := ?v4) rfl (by kernel_rfl) (by kernel_rfl) (by kernel_rfl) (by kernel_rfl) (by kernel_rfl) (fun _ _ _ h => h) (Or.inl ⟨by rfl, ?hy4⟩) ⟨g4, s0, s1, s2, z0, z1⟩ ?rest4
                case hy4 => (intro w' hw'; obtain ⟨h0, h1, h2, h3, h4, h5⟩ := hw'; go_simp; (try with_reducible rfl))
                (try simp only [Act.put, List.setIfInBounds_toArray, List.set_cons_zero, List.set_cons_succ])
                refine wpAnyZ_take (i := 5) (v := ?v5) rfl (by kernel_rfl) (by kernel_rfl) (by kernel_rfl) (by kernel_rfl) (by kernel_rfl) (fun _ _ _ h => h) (Or.inl ⟨by rfl, ?hy5⟩) ⟨g4, s0, s1, s2, z0, z1⟩ ?rest5
                case hy5 => (intro w' hw'; obtain ⟨h0, h1, h2, h3, h4, h5⟩ := hw'; go_simp; (try with_reducible rfl))
                (try simp only [Act.put, List.setIfInBounds_toArray, List.set_cons_zero, List.set_cons_succ])
                refine wpAnyZ_take (i := 6) (v := ?v6) rfl (by kernel_rfl) (by kernel_rfl) (by kernel_rfl) (by kernel_rfl) (by kernel_rfl) (fun _ _ _ h => h) (Or.inl ⟨by rfl, ?hy6⟩) ⟨g4, s0, s1, s2, z0, z1⟩ ?rest6
                case hy6 => (intro w' hw'; obtain ⟨h0, h1, h2, h3, h4, h5⟩ := hw'; go_simp; (try with_reducible rfl))
                (try simp only [Act.put, List.setIfInBounds_toArray, List.set_cons_zero, List.set_cons_succ])
                refine wpAnyZ_take (i := 7) (v := ?v7) rfl (by kernel_rfl) (by kernel_rfl) (by kernel_rfl) (by kernel_rfl) (by kernel_rfl) (fun _ _ _ h => h) (Or.inl ⟨by rfl, ?hy7⟩) ⟨g4, s0, s1, s2, z0, z1⟩ ?rest7
                case hy7 => (intro w' hw'; obtain ⟨h0, h1, h2, h3, h4, h5⟩ := hw'; go_simp; (try with_reducible rfl))
                (try simp only [Act.put, List.setIfInBounds_toArray, List.set_cons_zero, List.set_cons_succ])
                refine wpAnyZ_take (i := 8) (v := ?v8) rfl (by kernel_rfl) (by kernel_rfl) (by kernel_rfl) (by kernel_rfl) (by kernel_rfl) (fun _ _ _ h => h) (Or.inl ⟨by rfl, ?hy8⟩) ⟨g4, s0, s1, s2, z0, z1⟩ ?rest8
                case hy8 => (intro w' hw'; obtain ⟨h0, h1, h2, h3, h4, h5⟩ := hw'; go_simp; (try with_reducible rfl))
                (try simp only [Act.put, List.setIfInBounds_toArray, List.set_cons_zero, List.set_cons_succ])
                refine wpAnyZ_take (i := 9) (v := ?v9) rfl (by kernel_rfl) (by kernel_rfl) (by kernel_rfl) (by kernel_rfl) (by kernel_rfl) (fun _ _ _ h => h) (Or.inl ⟨by rfl, ?hy9⟩) ⟨g4, s0, s1, s2, z0, z1⟩ ?rest9
                case hy9 => (intro w' hw'; obtain ⟨h0, h1, h2, h3, h4, h5⟩ := hw'; go_simp; (try with_reducible rfl))
                (try simp only [Act.put, List.setIfInBounds_toArray, List.set_cons_zero, List.set_cons_succ])
                refine wpAnyZ_take (i := 10) (v := ?v10) rfl (by kernel_rfl) (by kernel_rfl) (by kernel_rfl) (by kernel_rfl) (by kernel_rfl) (fun _ _ _ h => h) (Or.inl ⟨by rfl, ?hy10⟩) ⟨g4, s0, s1, s2, z0, z1⟩ ?rest10
                case hy10 => (intro w' hw'; obtain ⟨h0, h1, h2, h3, h4, h5⟩ := hw'; go_simp; (try with_reducible rfl))
                (try simp only [Act.put, List.setIfInBounds_toArray, List.set_cons_zero, List.set_cons_succ])
                refine wpAnyZ_take (i := 11) (v := ?v11) rfl (by kernel_rfl) (by kernel_rfl) (by kernel_rfl) (by kernel_rfl) (by kernel_rfl) (fun _ _ _ h => h) (Or.inl ⟨by rfl, ?hy11⟩) ⟨g4, s0, s1, s2, z0, z1⟩ ?rest11
                case hy11 => (intro w' hw'; obtain ⟨h0, h1, h2, h3, h4, h5⟩ := hw'; go_simp; (try with_reducible rfl))
                (try simp only [Act.put, List.setIfInBounds_toArray, List.set_cons_zero, List.set_cons_succ])
                refine wpAnyZ_take (i := 12) (v := ?v12) rfl (by kernel_rfl) (by kernel_rfl) (by kernel_rfl) (by kernel_rfl) (by kernel_rfl) (fun _ _ _ h => h) (Or.inl ⟨by rfl, ?hy12⟩) ⟨g4, s0, s1, s2, z0, z1⟩ ?rest12
                case hy12 => (intro w' hw'; obtain ⟨h0, h1, h2, h3, h4, h5⟩ := hw'; go_simp; (try with_reducible rfl))
                (try simp only [Act.put, List.setIfInBounds_toArray, List.set_cons_zero, List.set_cons_succ])
                refine wpAnyZ_take (i := 13) (v := ?v13) rfl (by kernel_rfl) (by kernel_rfl) (by kernel_rfl) (by kernel_rfl) (by kernel_rfl) (fun _ _ _ h => h) (Or.inl ⟨by rfl, ?hy13⟩) ⟨g4, s0, s1, s2, z0, z1⟩ ?rest13
                case hy13 => (intro w' hw'; obtain ⟨h0, h1, h2, h3, h4, h5⟩ := hw'; go_simp; (try with_reducible rfl))
                (try simp only [Act.put, List.setIfInBounds_toArray, List.set_cons_zero, List.set_cons_succ])
                refine wpAnyZ_take (i := 14) (v := ?v14) rfl (by kernel_rfl) (by kernel_rfl) (by kernel_rfl) (by kernel_rfl) (by kernel_rfl) (fun _ _ _ h => h) (Or.inl ⟨by rfl, ?hy14⟩) ⟨g4, s0, s1, s2, z0, z1⟩ ?rest14
                case hy14 => (intro w' hw'; obtain ⟨h0, h1, h2, h3, h4, h5⟩ := hw'; go_simp; (try with_reducible rfl))
                (try simp only [Act.put, List.setIfInBounds_toArray, List.set_cons_zero, List.set_cons_succ])
                refine wpAnyZ_one (i := 15) rfl (by kernel_rfl) (fun K hK => ?_)
                go_simp
                refine hK.out _ _ (.inr ⟨g4', s06, s16, s26, z06, z16⟩) ?_
                clear hK K
                (try simp only [Act.put, List.setIfInBounds_toArray, List.set_cons_zero, List.set_cons_succ])
                refine wpAnyZ_one (i := 16) rfl (by kernel_rfl) (fun K hK => ?_)
                refine step_appR rfl (.tmp 88) (.tmp 102) _ _ rfl (.slice T gn c) (.slice (some ⟨W2.heap.size, 0, none⟩) 1 1) (.slice T3 (gn + 1) c3) (by go_simp) (by go_simp) HRUN.out ?_
                refine hK.out _ _ (.inr ⟨p4, s05, s15, s25, z05, z15⟩) ?_
                clear hK K
                (try simp only [Act.put, List.setIfInBounds_toArray, List.set_cons_zero, List.set_cons_succ])
                refine wpAnyZ_take (i := 17) (v := ?v17) rfl (by kernel_rfl) (by kernel_rfl) (by kernel_rfl) (by kernel_rfl) (by kernel_rfl) (fun _ _ _ h => h) (Or.inl ⟨by rfl, ?hy17⟩) ⟨p4, s05, s15, s25, z05, z15⟩ ?rest17
                case hy17 => (intro w' hw'; obtain ⟨h0, h1, h2, h3, h4, h5⟩ := hw'; go_simp; (try with_reducible rfl))
                (try simp only [Act.put, List.setIfInBounds_toArray, List.set_cons_zero, List.set_cons_succ])
                refine wpAnyZ_one (i := 18) rfl (by kernel_rfl) (fun K hK => ?_)
                go_simp
                refine hK.out _ _ (.inl rfl) ?_
                clear hK K
                refine wpAnyZ_done (by kernel_rfl) ?_ _
                go_wp2_with fail
                go_roundw
                case rel => exact ⟨k + 1, _, HX.out, by go_num, HMR.out⟩
                case measure => simp [intOf]; omega
          · have q1 : ¬ (k : Int) < (a.ss.length : Int) := by omega
            obtain rfl : k = a.ss.length := by omega
            go_wp2_with fail
            go_meet
            exact ⟨sv, HM.out⟩
      case rest =>
        obtain ⟨sv, HM2⟩ := hcut
        clear HM1
        obtain ⟨_, v0, v1, v2, v3, v4⟩ := HVW.out _ HM2.out.below
        obtain ⟨g0, g1, g2, g3, g4, gf0, gf1, gf2, gf3, gf4⟩ := obj5 HM2.out.au.obj
        have hRt : V + 1 < t := by have := HVL.out; omega
        have hwt : t < wc.heap.size := HM2.out.row.lt
        have hR : ∀ W, Below t W0 W → W.heap[V + 1]? = some (.cells #[.int .i64 0, .int .i64 0, .slice none 0 0, .slice none 0 0, .slice none 0 0] 26 (0, 0)) := fun W h => (h.block (V + 1) hRt).trans HOB.out
        have HBF : Hid (∀ W, Below t W0 W → ∀ u0 u1 u2 u3 u4, Below w.heap.size w (set5 W (V + 1) u0 u1 u2 u3 u4)) := fun W h u0 u1 u2 u3 u4 =>
          below_set5 (Below_on HB0.out h (by have := HVL.out; have := HVV.out; omega)) (by have := HVV.out; omega) _ _ _ _ _
        have HRR := Lib.hid hR
        clear hR
        by_cases hp : pos keep N = 0
        · have e1 : (((pos keep N : Nat) : Int) == 0) = true := by simp [hp]
          have hba : Below wc.heap.size wc (wc.alloc (Obj.cells #[.bool false] 4)) := (Below.refl _ _).alloc (Nat.le_refl _) _
          have hb2 : Below t W0 (wc.alloc (Obj.cells #[.bool false] 4)) := Below_on HM2.out.below hba (Nat.le_of_lt hwt)
          obtain ⟨r0, r1, r2, r3, r4, rf0, rf1, rf2, rf3, rf4⟩ := obj5 (HRR.out _ hb2)
          have hmade : madeOf a keep = ⟨1, a.le, [], [false], []⟩ := by unfold madeOf; rw [if_pos (by rw [HN.out]; exact hp)]
          have hrd : AuRd (wc.alloc (Obj.cells #[.bool false] 4)) (V + 1 + 1) ⟨1, a.le, [], [false], []⟩ none (some ⟨wc.heap.size, 0, none⟩) none 0 1 0 := by
            refine ⟨⟨Nat.le_refl _, by omega, by simp, Rd.nil⟩, ⟨by simp, by omega, by simp, fun _ => ⟨wc.heap.size, 0, rfl, by omega, by simp, fun j u hu => ?_⟩⟩, ⟨Nat.le_refl _, by omega, by simp, Rd.nil⟩⟩
            have h : (wc.alloc (Obj.cells #[.bool false] 4)).heap[wc.heap.size]? = some (Obj.cells #[.bool false] 4) := by
              show (wc.heap.push _)[wc.heap.size]? = _
              simp
            simp only [World.cell?, h, Nat.zero_add]
            simpa using hu
          have HP : Hid (MdPost w (madeOf a keep) (.returned (.agg #[.int .i64 1, .int .i64 a.le, .slice none 0 0, .slice (some ⟨wc.heap.size, 0, none⟩) 1 1, .slice none 0 0])) (set5 (wc.alloc (Obj.cells #[.bool false] 4)) (V + 1) (.int .i64 1) (.int .i64 a.le) (.slice none 0 0) (.slice (some ⟨wc.heap.size, 0, none⟩) 1 1) (.slice none 0 0))) := by
            rw [hmade]
            exact ⟨none, some ⟨wc.heap.size, 0, none⟩, none, 0, 1, 0, rfl, (hrd.set5_ (Nat.lt_succ_self _) _ _ _ _ _).low (by have := HVV.out; omega), HBF.out _ hb2 _ _ _ _ _⟩
          have HOO := Lib.hid (set5_heap (HRR.out _ hb2) (.int .i64 1) (.int .i64 a.le) (.slice none 0 0) (.slice (some ⟨wc.heap.size, 0, none⟩) 1 1) (.slice none 0 0))
          clear hp hba hb2 hmade hrd
          go_wp2_with fail
          exact bodyPost_ret (retMd Try.results71 _ _ (V + 1) rfl HOO.out) rfl HP.out
        · have e1 : (((pos keep N : Nat) : Int) == 0) = false := by simp; omega
          obtain ⟨r0, r1, r2, r3, r4, rf0, rf1, rf2, rf3, rf4⟩ := obj5 (HRR.out _ HM2.out.below)
          have hmade : madeOf a keep = ⟨(pos keep N : Nat), a.le, keptF a keep a.fs.length, keptG a.gs keep N, keptS a keep a.ss.length⟩ := by
            unfold madeOf
            rw [HN.out, Int.toNat_natCast, if_neg hp]
          have hgl : (keptG a.gs keep N).length = pos keep N := keptG_len (by rw [HKL.out]; exact Nat.le_refl _)
          have hpN : pos keep N ≤ N := by unfold pos; exact Nat.le_trans (List.count_le_length ..) (by simp; omega)
          obtain ⟨A', B', C', ca', cb', cc', rfl, rfl, rfl, hrd⟩ := HM2.out.au.rd (by
              unfold keptF
              rw [List.length_map]
              have := List.length_filter_le (kp keep) (a.fs.take a.fs.length)
              have := List.length_take_le a.fs.length a.fs
              have := HFL.out
              have := HN.out
              omega) (by omega) (by
              unfold keptS
              rw [List.length_map]
              have := List.length_filter_le (fun s => kp keep s.f && kp keep s.t) (a.ss.take a.ss.length)
              have := List.length_take_le a.ss.length a.ss
              have := HO.out.sl
              omega)
          have HP : Hid (MdPost w (madeOf a keep) (.returned (.agg #[.int .i64 (pos keep N : Nat), .int .i64 a.le, .slice A' (keptF a keep a.fs.length).length ca', .slice B' (keptG a.gs keep N).length cb', .slice C' (keptS a keep a.ss.length).length cc'])) (set5 wc (V + 1) (.int .i64 (pos keep N : Nat)) (.int .i64 a.le) (.slice A' (keptF a keep a.fs.length).length ca') (.slice B' (keptG a.gs keep N).length cb') (.slice C' (keptS a keep a.ss.length).length cc'))) := by
            rw [hmade]
            exact ⟨A', B', C', ca', cb', cc', rfl, (hrd.set5_ (by omega) _ _ _ _ _).low (by have := HVV.out; omega), HBF.out _ HM2.out.below _ _ _ _ _⟩
          have HOO := Lib.hid (set5_heap (HRR.out _ HM2.out.below) (.int .i64 (pos keep N : Nat)) (.int .i64 a.le) (.slice A' (keptF a keep a.fs.length).length ca') (.slice B' (keptG a.gs keep N).length cb') (.slice C' (keptS a keep a.ss.length).length cc'))
          clear hp hmade hrd hgl hpN
          generalize (keptF a keep a.fs.length).length = lf at *
          generalize (keptG a.gs keep N).length = lg at *
          generalize (keptS a keep a.ss.length).length = ls at *
          generalize ((pos keep N : Nat) : Int) = pn at *
          go_wp2_with fail
          exact bodyPost_ret (retMd Try.results71 _ _ (V + 1) rfl HOO.out) rfl HP.out
end Go.Proofs.Ytoglgeaiiipchab
