import Derived.Test.YtoglgeaiiipchabGreatDoorLMAKM22
import Derived.Test.YtoglgeaiiipchabGreatDoorLMAKM6
import Derived.Test.YtoglgeaiiipchabGreatDoorLMAKM7
set_option linter.unusedSimpArgs false
set_option linter.unusedVariables false
namespace Go.Proofs.YtoglgeaiiipchabGreatDoor
open Go Go.RowKit Go.Shelf
theorem negV_len (t : Fm) : ∀ b o, (t.negV b o).length ≤ o.length + 2 * t.show.length := by
  induction t with
  | tt => intro b o; unfold Fm.negV; split <;> cases b <;> simp [Fm.show]
  | pr n => intro b o; unfold Fm.negV; split <;> cases b <;> simp [Fm.show]
  | no a ih => intro b o; unfold Fm.negV; have := ih (!b) o; split <;> simp [Fm.show] <;> omega
  | nx a ih => intro b o; unfold Fm.negV; have := ih b o; split <;> simp [Fm.show] <;> omega
  | bi k x y ihx ihy => intro b o; unfold Fm.negV; have h1 := ihx b o; have h2 := ihy b (x.negV b o); split <;> simp [Fm.show] <;> omega
theorem nd_zero1 {x : Nd} {i : Int} (h : ndErr x i = 0) (hk : x.k = 1) : x.a = 0 ∧ x.b = 0 ∧ x.n = 0 := by
  obtain ⟨k, a, b, n⟩ := x
  simp only at hk
  subst hk
  simp [ndErr, btw, nmA, nmB, nmN] at h
  show a = 0 ∧ b = 0 ∧ n = 0
  omega
theorem nd_zero2 {x : Nd} {i : Int} (h : ndErr x i = 0) (hk : x.k = 2) : x.a = 0 ∧ x.b = 0 := by
  obtain ⟨k, a, b, n⟩ := x
  simp only at hk
  subst hk
  simp [ndErr, btw, nmA, nmB, nmN] at h
  show a = 0 ∧ b = 0
  omega
set_option maxRecDepth 100000 in
set_option maxHeartbeats 2000000 in
theorem plain_ (f : List Nd) (F : Option Addr) (fc : Nat) (w : World) (hf : Nds w 0 F fc f) (ho : FmOK f) (base : Nat) (hbase : w.heap.size ≤ base) : ∀ (i : Nat), i < f.length → ∀ (tu : Bool) (o : List Nd) (W0 W : World) (row : Option Nat) (v : Value), Below w.heap.size w W → base ≤ W.heap.size →
    NOwn base W0 row W v o → o.length + 2 * (treeAt f i).show.length ≤ 100000 →
    Calls Tryz.prog 84 #[v, .slice F f.length fc, .int .i64 i, .bool tu] W (NTo base ((treeAt f i).negV tu o) v W) := by
  intro i
  induction i using Nat.strongRecOn with
  | _ i ih =>
    intro hi tu o W0 W row v hW hbW hown' hsz
    have hown : NOwn base W v.ownBlock W v o := NOwn.refl hown'.own
    clear hown'
    have HF := Lib.hid hf
    obtain ⟨T, c, rfl, hnds⟩ := hown.form (by omega)
    have HM := Lib.hid (many_ T c o W hnds.zero)
    have hole := hnds.le
    have hocp := hnds.cap
    obtain ⟨b, of, rfl, _, hbl, q0, q1, q2, q3⟩ := Nds.at_ (hf.below hW) hi
    obtain ⟨x, hx⟩ : ∃ x, x = f[i] := ⟨_, rfl⟩
    rw [← hx] at q0 q1 q2 q3
    have hok := nd_ok (ho.nd i hi)
    rw [← hx] at hok
    have hfc := hf.le
    have HT : Hid (treeAt f i = treeN (treesOf f i) x) := treeAt_eq hi x hx.symm
    have HOK := Lib.hid hok
    have hz0 := ho.nd i hi
    rw [← hx] at hz0
    have HZ1 : Hid (x.k = 1 → x.a = 0 ∧ x.b = 0 ∧ x.n = 0) := fun h => nd_zero1 hz0 h
    have HZ2 : Hid (x.k = 2 → x.a = 0 ∧ x.b = 0) := fun h => nd_zero2 hz0 h
    clear hz0
    have HW := Lib.hid hW
    have IH := Lib.hid ih
    have HO := Lib.hid hown
    have HSZ := Lib.hid hsz
    have hk1 := hok.k1
    have hk8 := hok.k8
    have hol : o.length ≤ 100000 := by omega
    clear hf hx hok hW ih ho hnds hown hsz
    go_enter Tryz.func84, Tryz.ntmps84
    go_wp2_with fail
    refine HM.out.mono ?_
    rintro e w1 ⟨rfl, hb1⟩
    have HO1 := Lib.hid (HO.out.below hb1)
    have HB1 := Lib.hid hb1
    by_cases hm : tooMany o = true
    · have HP : Hid ((treeAt f i).negV tu o = o) := by
        show _ = _
        generalize treeAt f i = t
        cases t <;> (unfold Fm.negV; rw [if_pos hm])
      clear hb1
      go_wp2_with fail
      go_ret
      exact ⟨_, rfl, by rw [HP.out]; exact HO1.out⟩
    · have hm' : tooMany o = false := by simpa using hm
      have y0 := (hb1.cell (p := ⟨b, of + i * 4, none⟩) hbl).trans q0
      have y1 := (hb1.cell (p := ⟨b, of + i * 4 + 1, none⟩) hbl).trans q1
      have y2 := (hb1.cell (p := ⟨b, of + i * 4 + 2, none⟩) hbl).trans q2
      have y3 := (hb1.cell (p := ⟨b, of + i * 4 + 3, none⟩) hbl).trans q3
      have hs1 := hb1.size
      have HBW : Hid (base ≤ w1.heap.size) := Nat.le_trans hbW hs1
      clear hb1 q0 q1 q2 q3 hm HM
      obtain ⟨k, a, bb, n⟩ := x
      simp only at y0 y1 y2 y3 hk1 hk8
      have h : k = 1 ∨ k = 2 ∨ k = 3 ∨ k = 6 ∨ (k = 4 ∨ k = 5 ∨ k = 7 ∨ k = 8) := by omega
      rcases h with rfl | rfl | rfl | rfl | hk
      · obtain ⟨rfl, rfl, rfl⟩ : a = 0 ∧ bb = 0 ∧ n = 0 := HZ1.out rfl
        have HN : Hid ((treeAt f i).negV tu o = if tu then o ++ [⟨1, 0, 0, 0⟩] ++ [⟨3, ((o ++ [(⟨1, 0, 0, 0⟩ : Nd)]).length : Int) - 1, 0, 0⟩] else o ++ [⟨1, 0, 0, 0⟩]) := by
          show _ = _
          rw [HT.out]
          show Fm.negV (.tt) tu o = _
          unfold Fm.negV
          rw [if_neg (by simp [hm'])]
        have HO2 := Lib.hid (HO1.out.alloc (Obj.cells #[.int .i64 1, .int .i64 0, .int .i64 0, .int .i64 0] 90))
        obtain ⟨T3, c3, w3, hr3, ho3, hg3⟩ := HO2.out.app ⟨1, 0, 0, 0⟩ (by omega) (by simp; exact Nat.le_succ_of_le HBW.out)
        have HGS : Hid (w1.heap.size ≤ w3.heap.size) := by have := hg3.size; simp at this; show _ ≤ _; omega
        clear hg3
        cases tu with
        | false =>
          have HR3 := Lib.hid hr3
          have HO3 := Lib.hid ho3
          clear hr3 ho3
          go_wp2_with (at_builtin; refine wpList_appRun rfl (.tmp 25) (.tmp 27) _ _ rfl (.slice T o.length c) (.slice (some ⟨(w1.alloc (Obj.cells #[.int .i64 1, .int .i64 0, .int .i64 0, .int .i64 0] 90)).heap.size, 0, none⟩) 1 1) (.slice T3 (o.length + 1) c3) (by go_simp) (by go_simp) HR3.out ?_)
          go_ret
          exact ⟨_, rfl, by rw [HN.out]; exact HO3.out⟩
        | true =>
          have HN' : Hid ((treeAt f i).negV true o = o ++ [(⟨1, 0, 0, 0⟩ : Nd)] ++ [⟨3, ((o ++ [(⟨1, 0, 0, 0⟩ : Nd)]).length : Int) - 1, 0, 0⟩]) := HN.out
          have hlo : o.length + 1 = (o ++ [(⟨1, 0, 0, 0⟩ : Nd)]).length := by simp
          rw [hlo] at hr3 ho3
          clear HN
          generalize o ++ [(⟨1, 0, 0, 0⟩ : Nd)] = o1 at *
          have hn3 := ho3.form (by omega)
          have HR3 := Lib.hid hr3
          have HO3 := Lib.hid ho3
          clear hr3 ho3
          obtain ⟨T4, c4, w4, hr4, ho4, hg4⟩ := HO3.out.app ⟨3, (o1.length : Int) - 1, 0, 0⟩ (by omega) (Nat.le_trans HBW.out HGS.out)
          have HR4 := Lib.hid hr4
          have HO4 := Lib.hid ho4
          clear hr4 ho4 hg4
          obtain ⟨A3, cc3, he3, hnn3⟩ := hn3
          obtain ⟨rfl, _, rfl⟩ : T3 = A3 ∧ o1.length = o1.length ∧ c3 = cc3 := by simpa using he3
          have hq1 := hnn3.le
          have hq2 := hnn3.cap
          clear hnn3 he3
          go_wp2_with (at_builtin; first | (refine wpList_appRun rfl (.tmp 25) (.tmp 27) _ _ rfl (.slice T o.length c) (.slice (some ⟨(w1.alloc (Obj.cells #[.int .i64 1, .int .i64 0, .int .i64 0, .int .i64 0] 90)).heap.size, 0, none⟩) 1 1) (.slice T3 o1.length c3) (by go_simp) (by go_simp) HR3.out ?_) | (refine wpList_appRun rfl (.tmp 30) (.tmp 35) _ _ rfl (.slice T3 o1.length c3) (.slice (some ⟨w3.heap.size, 0, none⟩) 1 1) (.slice T4 (o1.length + 1) c4) (by go_simp) (by go_simp) HR4.out ?_))
          go_ret
          exact ⟨_, rfl, by rw [HN'.out]; exact HO4.out⟩
      · obtain ⟨rfl, rfl⟩ : a = 0 ∧ bb = 0 := HZ2.out rfl
        have HN : Hid ((treeAt f i).negV tu o = if tu then o ++ [⟨2, 0, 0, n⟩] ++ [⟨3, ((o ++ [(⟨2, 0, 0, n⟩ : Nd)]).length : Int) - 1, 0, 0⟩] else o ++ [⟨2, 0, 0, n⟩]) := by
          show _ = _
          rw [HT.out]
          show Fm.negV (.pr n) tu o = _
          unfold Fm.negV
          rw [if_neg (by simp [hm'])]
        have HO2 := Lib.hid (HO1.out.alloc (Obj.cells #[.int .i64 2, .int .i64 0, .int .i64 0, .int .i64 n] 90))
        obtain ⟨T3, c3, w3, hr3, ho3, hg3⟩ := HO2.out.app ⟨2, 0, 0, n⟩ (by omega) (by simp; exact Nat.le_succ_of_le HBW.out)
        have HGS : Hid (w1.heap.size ≤ w3.heap.size) := by have := hg3.size; simp at this; show _ ≤ _; omega
        clear hg3
        cases tu with
        | false =>
          have HR3 := Lib.hid hr3
          have HO3 := Lib.hid ho3
          clear hr3 ho3
          go_wp2_with (at_builtin; refine wpList_appRun rfl (.tmp 25) (.tmp 27) _ _ rfl (.slice T o.length c) (.slice (some ⟨(w1.alloc (Obj.cells #[.int .i64 2, .int .i64 0, .int .i64 0, .int .i64 n] 90)).heap.size, 0, none⟩) 1 1) (.slice T3 (o.length + 1) c3) (by go_simp) (by go_simp) HR3.out ?_)
          go_ret
          exact ⟨_, rfl, by rw [HN.out]; exact HO3.out⟩
        | true =>
          have HN' : Hid ((treeAt f i).negV true o = o ++ [(⟨2, 0, 0, n⟩ : Nd)] ++ [⟨3, ((o ++ [(⟨2, 0, 0, n⟩ : Nd)]).length : Int) - 1, 0, 0⟩]) := HN.out
          have hlo : o.length + 1 = (o ++ [(⟨2, 0, 0, n⟩ : Nd)]).length := by simp
          rw [hlo] at hr3 ho3
          clear HN
          generalize o ++ [(⟨2, 0, 0, n⟩ : Nd)] = o1 at *
          have hn3 := ho3.form (by omega)
          have HR3 := Lib.hid hr3
          have HO3 := Lib.hid ho3
          clear hr3 ho3
          obtain ⟨T4, c4, w4, hr4, ho4, hg4⟩ := HO3.out.app ⟨3, (o1.length : Int) - 1, 0, 0⟩ (by omega) (Nat.le_trans HBW.out HGS.out)
          have HR4 := Lib.hid hr4
          have HO4 := Lib.hid ho4
          clear hr4 ho4 hg4
          obtain ⟨A3, cc3, he3, hnn3⟩ := hn3
          obtain ⟨rfl, _, rfl⟩ : T3 = A3 ∧ o1.length = o1.length ∧ c3 = cc3 := by simpa using he3
          have hq1 := hnn3.le
          have hq2 := hnn3.cap
          clear hnn3 he3
          go_wp2_with (at_builtin; first | (refine wpList_appRun rfl (.tmp 25) (.tmp 27) _ _ rfl (.slice T o.length c) (.slice (some ⟨(w1.alloc (Obj.cells #[.int .i64 2, .int .i64 0, .int .i64 0, .int .i64 n] 90)).heap.size, 0, none⟩) 1 1) (.slice T3 o1.length c3) (by go_simp) (by go_simp) HR3.out ?_) | (refine wpList_appRun rfl (.tmp 30) (.tmp 35) _ _ rfl (.slice T3 o1.length c3) (.slice (some ⟨w3.heap.size, 0, none⟩) 1 1) (.slice T4 (o1.length + 1) c4) (by go_simp) (by go_simp) HR4.out ?_))
          go_ret
          exact ⟨_, rfl, by rw [HN'.out]; exact HO4.out⟩
      · have ha := HOK.out.a rfl
        simp only at ha
        obtain ⟨X, rfl⟩ := Int.eq_ofNat_of_zero_le ha.1
        have HE : Hid (treeAt f i = .no (treeAt f X)) := by
          show _ = _
          rw [HT.out]
          show Fm.no ((treesOf f i).getD ((X : Int)).toNat .tt) = _
          rw [kid ha]
          rfl
        have HO2 := Lib.hid (HO1.out.alloc (Obj.cells #[.int .i64 3, .int .i64 (X : Int), .int .i64 bb, .int .i64 n] 90))
        have HC := Lib.hid (IH.out X (by omega) (by omega) (!tu) o _ _ _ _ (HO2.out.belowB HW.out HW.out.size (fun k hk => Nat.le_trans hbase (HO1.out.own.lt k hk).1)) (by simp; exact Nat.le_succ_of_le HBW.out) HO2.out (by have := HSZ.out; rw [HE.out] at this; simp only [Fm.show, List.length_cons] at this; omega))
        have HN : Hid ((treeAt f i).negV tu o = (treeAt f X).negV (!tu) o) := by
          show _ = _
          rw [HE.out, Fm.negV, if_neg (by simp [hm'])]
        go_wp2_with fail
        refine HC.out.mono ?_
        rintro e w3 ⟨v3, rfl, hown3⟩
        have HO3 := Lib.hid (HO2.out.call hown3)
        clear hown3
        go_wp2_with fail
        go_ret
        exact ⟨_, rfl, by rw [HN.out]; exact HO3.out⟩
      · have ha := HOK.out.a rfl
        simp only at ha
        obtain ⟨X, rfl⟩ := Int.eq_ofNat_of_zero_le ha.1
        have HE : Hid (treeAt f i = .nx (treeAt f X)) := by
          show _ = _
          rw [HT.out]
          show Fm.nx ((treesOf f i).getD ((X : Int)).toNat .tt) = _
          rw [kid ha]
          rfl
        have HO2' := Lib.hid (HO1.out.alloc (Obj.cells #[.int .i64 6, .int .i64 (X : Int), .int .i64 bb, .int .i64 n] 90))
        have HN : Hid ((treeAt f i).negV tu o = (treeAt f X).negV tu o ++ [⟨6, (((treeAt f X).negV tu o).length : Int) - 1, 0, 0⟩]) := by
          show _ = _
          rw [HE.out, Fm.negV, if_neg (by simp [hm'])]
        have HK : Hid (o.length + 2 * ((treeAt f X).show.length + 1) ≤ 100000) := by have := HSZ.out; rw [HE.out] at this; exact this
        have HZ0 : Hid ((w1.alloc (Obj.cells #[.int .i64 6, .int .i64 (X : Int), .int .i64 bb, .int .i64 n] 90)).cell? ⟨w1.heap.size, 0, none⟩ = some (.int .i64 6)) := by show _ = _; go_simp
        have HZ1 : Hid ((w1.alloc (Obj.cells #[.int .i64 6, .int .i64 (X : Int), .int .i64 bb, .int .i64 n] 90)).cell? ⟨w1.heap.size, 1, none⟩ = some (.int .i64 (X : Int))) := by show _ = _; go_simp
        have HNE : Hid (some w1.heap.size ≠ (Value.slice T o.length c).ownBlock) := fun h => by have := (HO1.out.own.lt _ h.symm).2; omega
        cases tu with
        | false =>
          go_wp2_with fail
          have HO2 := HO2'
          have z0 := HZ0.out
          have z1 := HZ1.out
          have HBW2 : Hid (base ≤ (w1.alloc (Obj.cells #[.int .i64 6, .int .i64 (X : Int), .int .i64 bb, .int .i64 n] 90)).heap.size) := by show _ ≤ _; simp; exact Nat.le_succ_of_le HBW.out
          clear HZ0 HZ1 HO2'
          generalize w1.alloc (Obj.cells #[.int .i64 6, .int .i64 (X : Int), .int .i64 bb, .int .i64 n] 90) = w2 at *
          have HC := Lib.hid (IH.out X (by omega) (by omega) false o _ _ _ _ (HO2.out.belowB HW.out HW.out.size (fun k hk => Nat.le_trans hbase (HO1.out.own.lt k hk).1)) HBW2.out HO2.out (by have := HK.out; omega))
          refine HC.out.mono ?_
          rintro e w3 ⟨v3, rfl, hown3⟩
          have hlen := negV_len (treeAt f X) false o
          have hK := HK.out
          have u0 := hown3.cell z0 HNE.out
          have hbw3 := Nat.le_trans HBW2.out hown3.gr.size
          generalize (treeAt f X).negV false o = o3 at *
          obtain ⟨T3, c3, rfl, hn3⟩ := hown3.form (by omega)
          have hl3 := hn3.le
          have hc3 := hn3.cap
          obtain ⟨T4, c4, w4, hr4, ho4, hg4⟩ := (HO2.out.call hown3).app ⟨6, (o3.length : Int) - 1, 0, 0⟩ (by omega) hbw3
          have HR4 := Lib.hid hr4
          have HO4 := Lib.hid ho4
          clear hr4 ho4 hg4 hown3 hn3 HC z0 z1
          go_wp2_with (at_builtin; refine wpList_appRun rfl (.tmp 73) (.tmp 78) _ _ rfl (.slice T3 o3.length c3) (.slice (some ⟨w3.heap.size, 0, none⟩) 1 1) (.slice T4 (o3.length + 1) c4) (by go_simp) (by go_simp) HR4.out ?_)
          go_ret
          exact ⟨_, rfl, by rw [HN.out]; exact HO4.out⟩
        | true =>
          go_wp2_with fail
          refine (opposite_ 6 _).mono ?_
          rintro e w2 ⟨rfl, hb2⟩
          have HO2 := Lib.hid (HO2'.out.below hb2)
          have z0 := (hb2.cell (p := ⟨w1.heap.size, 0, none⟩) (by simp)).trans HZ0.out
          have z1 := (hb2.cell (p := ⟨w1.heap.size, 1, none⟩) (by simp)).trans HZ1.out
          have HBW2 : Hid (base ≤ w2.heap.size) := Nat.le_trans HBW.out (by have := hb2.size; simp at this; omega)
          clear hb2
          have HC := Lib.hid (IH.out X (by omega) (by omega) true o _ _ _ _ (HO2.out.belowB HW.out HW.out.size (fun k hk => Nat.le_trans hbase (HO1.out.own.lt k hk).1)) HBW2.out HO2.out (by have := HK.out; omega))
          go_wp2_with fail
          refine HC.out.mono ?_
          rintro e w3 ⟨v3, rfl, hown3⟩
          have hlen := negV_len (treeAt f X) true o
          have hK := HK.out
          have u0 := hown3.cell z0 HNE.out
          have hbw3 := Nat.le_trans HBW2.out hown3.gr.size
          generalize (treeAt f X).negV true o = o3 at *
          obtain ⟨T3, c3, rfl, hn3⟩ := hown3.form (by omega)
          have hl3 := hn3.le
          have hc3 := hn3.cap
          obtain ⟨T4, c4, w4, hr4, ho4, hg4⟩ := (HO2.out.call hown3).app ⟨6, (o3.length : Int) - 1, 0, 0⟩ (by omega) hbw3
          have HR4 := Lib.hid hr4
          have HO4 := Lib.hid ho4
          clear hr4 ho4 hg4 hown3 hn3 HC z0 z1
          go_wp2_with (at_builtin; refine wpList_appRun rfl (.tmp 73) (.tmp 78) _ _ rfl (.slice T3 o3.length c3) (.slice (some ⟨w3.heap.size, 0, none⟩) 1 1) (.slice T4 (o3.length + 1) c4) (by go_simp) (by go_simp) HR4.out ?_)
          go_ret
          exact ⟨_, rfl, by rw [HN.out]; exact HO4.out⟩
      · have ha := HOK.out.a (by rcases hk with rfl | rfl | rfl | rfl <;> rfl)
        have hb := HOK.out.b (by rcases hk with rfl | rfl | rfl | rfl <;> rfl)
        simp only at ha hb
        obtain ⟨X, rfl⟩ := Int.eq_ofNat_of_zero_le ha.1
        obtain ⟨Y, rfl⟩ := Int.eq_ofNat_of_zero_le hb.1
        have HE : Hid (treeAt f i = .bi k (treeAt f X) (treeAt f Y)) := by
          show _ = _
          rw [HT.out]
          unfold treeN
          simp only
          rw [if_neg (by omega), if_neg (by omega), if_neg (by omega), if_neg (by omega), kid ha, kid hb]
          rfl
        have HO2' := Lib.hid (HO1.out.alloc (Obj.cells #[.int .i64 k, .int .i64 (X : Int), .int .i64 (Y : Int), .int .i64 n] 90))
        have HN : Hid ((treeAt f i).negV tu o = (treeAt f Y).negV tu ((treeAt f X).negV tu o) ++ [⟨if tu then opp k else k, (((treeAt f X).negV tu o).length : Int) - 1, (((treeAt f Y).negV tu ((treeAt f X).negV tu o)).length : Int) - 1, 0⟩]) := by
          show _ = _
          rw [HE.out, Fm.negV, if_neg (by simp [hm'])]
        have HK : Hid (o.length + 2 * ((treeAt f X).show.length + (treeAt f Y).show.length + 1) ≤ 100000) := by
          have := HSZ.out
          rw [HE.out] at this
          simp only [Fm.show, List.length_cons, List.length_append, List.length_nil] at this
          show _ ≤ _
          omega
        have HZ0 : Hid ((w1.alloc (Obj.cells #[.int .i64 k, .int .i64 (X : Int), .int .i64 (Y : Int), .int .i64 n] 90)).cell? ⟨w1.heap.size, 0, none⟩ = some (.int .i64 k)) := by show _ = _; go_simp
        have HZ1 : Hid ((w1.alloc (Obj.cells #[.int .i64 k, .int .i64 (X : Int), .int .i64 (Y : Int), .int .i64 n] 90)).cell? ⟨w1.heap.size, 1, none⟩ = some (.int .i64 (X : Int))) := by show _ = _; go_simp
        have HZ2 : Hid ((w1.alloc (Obj.cells #[.int .i64 k, .int .i64 (X : Int), .int .i64 (Y : Int), .int .i64 n] 90)).cell? ⟨w1.heap.size, 2, none⟩ = some (.int .i64 (Y : Int))) := by show _ = _; go_simp
        have HNE : Hid (some w1.heap.size ≠ (Value.slice T o.length c).ownBlock) := fun h => by have := (HO1.out.own.lt _ h.symm).2; omega
        have k1 : (k == 1) = false := by simp; omega
        have k2 : (k == 2) = false := by simp; omega
        have k3 : (k == 3) = false := by simp; omega
        have k6 : (k != 6) = true := by simp; omega
        cases tu with
        | false =>
          go_wp2_with fail
          have HO2 := HO2'
          have z0 := HZ0.out
          have z1 := HZ1.out
          have z2 := HZ2.out
          have HBW2 : Hid (base ≤ (w1.alloc (Obj.cells #[.int .i64 k, .int .i64 (X : Int), .int .i64 (Y : Int), .int .i64 n] 90)).heap.size) := by show _ ≤ _; simp; exact Nat.le_succ_of_le HBW.out
          clear HZ0 HZ1 HZ2 HO2'
          generalize w1.alloc (Obj.cells #[.int .i64 k, .int .i64 (X : Int), .int .i64 (Y : Int), .int .i64 n] 90) = w2 at *
          have HC := Lib.hid (IH.out X (by omega) (by omega) false o _ _ _ _ (HO2.out.belowB HW.out HW.out.size (fun k hk => Nat.le_trans hbase (HO1.out.own.lt k hk).1)) HBW2.out HO2.out (by have := HK.out; omega))
          refine HC.out.mono ?_
          rintro e w3 ⟨v3, rfl, hown3⟩
          have hlen := negV_len (treeAt f X) false o
          have hK := HK.out
          have u0 := hown3.cell z0 HNE.out
          have u2 := hown3.cell z2 HNE.out
          have HBW3 := Lib.hid (Nat.le_trans HBW2.out hown3.gr.size)
          have HN3 : Hid ((treeAt f i).negV false o = (treeAt f Y).negV false ((treeAt f X).negV false o) ++ [⟨k, (((treeAt f X).negV false o).length : Int) - 1, (((treeAt f Y).negV false ((treeAt f X).negV false o)).length : Int) - 1, 0⟩]) := HN.out
          generalize (treeAt f X).negV false o = o3 at *
          obtain ⟨T3, c3, rfl, hn3⟩ := hown3.form (by omega)
          have hl3 := hn3.le
          have hc3 := hn3.cap
          have HO3 := Lib.hid (HO2.out.call hown3)
          have HC4 := Lib.hid (IH.out Y (by omega) (by omega) false o3 _ _ _ _ (HO3.out.belowB HW.out HW.out.size (fun k hk => Nat.le_trans hbase (HO1.out.own.lt k hk).1)) HBW3.out HO3.out (by omega))
          clear hown3 hn3 HC z0 z1 z2 HN
          go_wp2_with fail
          refine HC4.out.mono ?_
          rintro e w4 ⟨v4, rfl, hown4⟩
          have hlen4 := negV_len (treeAt f Y) false o3
          have hbw4 := Nat.le_trans HBW3.out hown4.gr.size
          generalize (treeAt f Y).negV false o3 = o4 at *
          obtain ⟨T4, c4, rfl, hn4⟩ := hown4.form (by omega)
          have hl4 := hn4.le
          have hc4 := hn4.cap
          obtain ⟨T5, c5, w5, hr5, ho5, hg5⟩ := (HO3.out.call hown4).app ⟨k, (o3.length : Int) - 1, (o4.length : Int) - 1, 0⟩ (by omega) hbw4
          have HR5 := Lib.hid hr5
          have HO5 := Lib.hid ho5
          clear hr5 ho5 hg5 hown4 hn4 HC4 u0 u2
          go_wp2_with (at_builtin; refine wpList_appRun rfl (.tmp 73) (.tmp 78) _ _ rfl (.slice T4 o4.length c4) (.slice (some ⟨w4.heap.size, 0, none⟩) 1 1) (.slice T5 (o4.length + 1) c5) (by go_simp) (by go_simp) HR5.out ?_)
          go_ret
          exact ⟨_, rfl, by rw [HN3.out]; exact HO5.out⟩
        | true =>
          go_wp2_with fail
          refine (opposite_ k _).mono ?_
          rintro e w2 ⟨rfl, hb2⟩
          have HO2 := Lib.hid (HO2'.out.below hb2)
          have z0 := (hb2.cell (p := ⟨w1.heap.size, 0, none⟩) (by simp)).trans HZ0.out
          have z1 := (hb2.cell (p := ⟨w1.heap.size, 1, none⟩) (by simp)).trans HZ1.out
          have z2 := (hb2.cell (p := ⟨w1.heap.size, 2, none⟩) (by simp)).trans HZ2.out
          have HBW2 : Hid (base ≤ w2.heap.size) := Nat.le_trans HBW.out (by have := hb2.size; simp at this; omega)
          clear hb2
          have HC := Lib.hid (IH.out X (by omega) (by omega) true o _ _ _ _ (HO2.out.belowB HW.out HW.out.size (fun k hk => Nat.le_trans hbase (HO1.out.own.lt k hk).1)) HBW2.out HO2.out (by have := HK.out; omega))
          go_wp2_with fail
          refine HC.out.mono ?_
          rintro e w3 ⟨v3, rfl, hown3⟩
          have hlen := negV_len (treeAt f X) true o
          have hK := HK.out
          have u0 := hown3.cell z0 HNE.out
          have u2 := hown3.cell z2 HNE.out
          have HBW3 := Lib.hid (Nat.le_trans HBW2.out hown3.gr.size)
          have HN3 : Hid ((treeAt f i).negV true o = (treeAt f Y).negV true ((treeAt f X).negV true o) ++ [⟨opp k, (((treeAt f X).negV true o).length : Int) - 1, (((treeAt f Y).negV true ((treeAt f X).negV true o)).length : Int) - 1, 0⟩]) := HN.out
          generalize (treeAt f X).negV true o = o3 at *
          obtain ⟨T3, c3, rfl, hn3⟩ := hown3.form (by omega)
          have hl3 := hn3.le
          have hc3 := hn3.cap
          have HO3 := Lib.hid (HO2.out.call hown3)
          have HC4 := Lib.hid (IH.out Y (by omega) (by omega) true o3 _ _ _ _ (HO3.out.belowB HW.out HW.out.size (fun k hk => Nat.le_trans hbase (HO1.out.own.lt k hk).1)) HBW3.out HO3.out (by omega))
          clear hown3 hn3 HC z0 z1 z2 HN
          go_wp2_with fail
          refine HC4.out.mono ?_
          rintro e w4 ⟨v4, rfl, hown4⟩
          have hlen4 := negV_len (treeAt f Y) true o3
          have hbw4 := Nat.le_trans HBW3.out hown4.gr.size
          generalize (treeAt f Y).negV true o3 = o4 at *
          obtain ⟨T4, c4, rfl, hn4⟩ := hown4.form (by omega)
          have hl4 := hn4.le
          have hc4 := hn4.cap
          obtain ⟨T5, c5, w5, hr5, ho5, hg5⟩ := (HO3.out.call hown4).app ⟨opp k, (o3.length : Int) - 1, (o4.length : Int) - 1, 0⟩ (by omega) hbw4
          have HR5 := Lib.hid hr5
          have HO5 := Lib.hid ho5
          clear hr5 ho5 hg5 hown4 hn4 HC4 u0 u2
          go_wp2_with (at_builtin; refine wpList_appRun rfl (.tmp 73) (.tmp 78) _ _ rfl (.slice T4 o4.length c4) (.slice (some ⟨w4.heap.size, 0, none⟩) 1 1) (.slice T5 (o4.length + 1) c5) (by go_simp) (by go_simp) HR5.out ?_)
          go_ret
          exact ⟨_, rfl, by rw [HN3.out]; exact HO5.out⟩
end Go.Proofs.YtoglgeaiiipchabGreatDoor

namespace Go.Proofs.YtoglgeaiiipchabGreatDoor
open Go Go.RowKit Go.Shelf
def negO (f : List Nd) : List Nd := (treeAt f (f.length - 1)).negV true []
def negF (f : List Nd) : List Nd := if ckF f = 0 then (if tooMany (negO f) = true then [] else negO f) else []
def negE (f : List Nd) : Int := if ckF f = 0 then (if tooMany (negO f) = true then 2 else 0) else ckF f
def NegPost (w : World) (o : List Nd) (n : Int) (e : Ending) (w' : World) : Prop := ∃ A c, e = .returned (.tuple #[.slice A o.length c, .int .i64 n]) ∧ Nds w' w.heap.size A c o ∧ Below w.heap.size w w'
theorem Nds.none (w : World) (lo : Nat) : Nds w lo none 0 [] := ⟨Nat.le_refl _, by omega, by simp, Rd.nil⟩
set_option maxRecDepth 100000 in
theorem Negate_ (F : Option Addr) (fc : Nat) (f : List Nd) (w : World) (hf : Nds w 0 F fc f) :
    Calls Tryz.prog 48 #[.slice F f.length fc] w (NegPost w (negF f) (negE f)) := by
  have hle := hf.le
  have hcp := hf.cap
  have HC := Lib.hid (formulaCheck_ F fc f w hf)
  have HF := Lib.hid hf
  clear hf
  go_enter Tryz.func48, Tryz.ntmps48
  go_wp2_with fail
  refine HC.out.mono ?_
  rintro e w1 ⟨rfl, hb1⟩
  have HB1 := Lib.hid hb1
  clear hb1 HC
  by_cases hc : ckF f = 0
  · have ho := ckF_zero.1 hc
    have hn := ho.pos
    have hlt : f.length - 1 < f.length := by omega
    have hsz := show_len ho (f.length - 1) hlt
    have hfew : f.length ≤ 12 := by
      have := ho.few
      unfold tooMany at this
      simp only [Bool.or_eq_false_iff, decide_eq_false_iff_not] at this
      omega
    have h3 : 2 ^ (f.length - 1 + 1) ≤ 2 ^ 12 := Nat.pow_le_pow_right (by decide) (by omega)
    have h4 : (2 : Nat) ^ 12 = 4096 := by decide
    have HS := Lib.hid (plain_ f F fc w HF.out ho w1.heap.size HB1.out.size (f.length - 1) hlt true [] w1 w1 _ (.slice none 0 0) HB1.out (Nat.le_refl _) (NOwn.refl (World.ownsRow_nil _ _ _ _)) (by simp; omega))
    have hlen := negV_len (treeAt f (f.length - 1)) true []
    have HL : Hid ((negO f).length ≤ 100000) := by simp at hlen; show _ ≤ _; unfold negO; omega
    have HS2 : Hid (Calls Tryz.prog 84 #[.slice none 0 0, .slice F f.length fc, .int .i64 ((f.length - 1 : Nat) : Int), .bool true] w1 (NTo w1.heap.size (negO f) (.slice none 0 0) w1)) := HS.out
    have e1 : ((f.length : Int) - 1) = ((f.length - 1 : Nat) : Int) := by omega
    have e2 : (ckF f != 0) = false := by simp [hc]
    have HP : Hid (negF f = if tooMany (negO f) = true then [] else negO f) := by unfold Hid negF; rw [if_pos hc]
    have HE : Hid (negE f = if tooMany (negO f) = true then 2 else 0) := by unfold Hid negE; rw [if_pos hc]
    clear hc ho hn hsz h3 h4 hlen HS
    go_wp2_with fail
    refine HS2.out.mono ?_
    rintro e w2 ⟨v, rfl, hown⟩
    obtain ⟨T, c, rfl, hnds⟩ := hown.form (by have := HL.out; omega)
    have HB2 := Lib.hid (Below_on HB1.out (hown.belowB (Below.refl w1.heap.size w1) (Nat.le_refl _) (by intro k hk; simp [Value.ownBlock] at hk)) HB1.out.size)
    have HM := Lib.hid (many_ T c (negO f) w2 hnds.zero)
    have HN := Lib.hid hnds
    have hl2 := hnds.le
    have hc2 := hnds.cap
    clear hown hnds
    go_wp2_with fail
    refine HM.out.mono ?_
    rintro e w3 ⟨rfl, hb3⟩
    have HB3 := Lib.hid (Below_on HB2.out hb3 HB2.out.size)
    have HN3 := Lib.hid (HN.out.below hb3)
    clear hb3
    by_cases hm : tooMany (negO f) = true
    · have HP2 : Hid (negF f = []) := by rw [HP.out, if_pos hm]; rfl
      have HE2 : Hid (negE f = 2) := by rw [HE.out, if_pos hm]; rfl
      go_wp2_with fail
      go_ret2
      exact ⟨none, 0, by rw [HP2.out, HE2.out]; rfl, by rw [HP2.out]; exact Nds.none _ _, HB3.out⟩
    · have HP2 : Hid (negF f = negO f) := by rw [HP.out, if_neg hm]; rfl
      have HE2 : Hid (negE f = 0) := by rw [HE.out, if_neg hm]; rfl
      have hm' : tooMany (negO f) = false := by simpa using hm
      clear hm
      go_wp2_with fail
      go_ret2
      exact ⟨T, c, by rw [HP2.out, HE2.out]; rfl, by rw [HP2.out]; exact HN3.out.low HB1.out.size, HB3.out⟩
  · have HP : Hid (negF f = []) := by unfold Hid negF; rw [if_neg hc]
    have HE : Hid (negE f = ckF f) := by unfold Hid negE; rw [if_neg hc]
    have e2 : (ckF f != 0) = true := by simpa using hc
    clear hc
    go_wp2
    go_ret2
    exact ⟨none, 0, by rw [HP.out, HE.out]; rfl, by rw [HP.out]; exact Nds.none _ _, HB1.out⟩
end Go.Proofs.YtoglgeaiiipchabGreatDoor

namespace Go.Proofs.YtoglgeaiiipchabGreatDoor
open Go Go.RowKit
def Fm.okS : Fm → Prop
  | .tt => True
  | .pr n => 0 ≤ n ∧ n ≤ 2
  | .no a => a.okS
  | .nx a => a.okS
  | .bi k a b => (k = 4 ∨ k = 5 ∨ k = 7 ∨ k = 8) ∧ a.okS ∧ b.okS
theorem Fm.okS_ok {t : Fm} (h : t.okS) : t.ok := by
  induction t with
  | tt => trivial
  | pr n => exact ⟨h.1, by have := h.2; omega⟩
  | no a ih => exact ih h
  | nx a ih => exact ih h
  | bi k a b iha ihb => exact ⟨h.1, iha h.2.1, ihb h.2.2⟩
theorem treeAt_okS {f : List Nd} (ho : FmOK f) : ∀ (i : Nat), i < f.length → (treeAt f i).okS := by
  intro i
  induction i using Nat.strongRecOn with
  | _ i ih =>
    intro hi
    have hok := nd_ok (ho.nd i hi)
    rw [treeAt_eq hi _ rfl]
    generalize f[i] = x at *
    obtain ⟨h1, h8, ha, hb, hn⟩ := hok
    unfold treeN
    split
    · trivial
    · split
      · rename_i hk
        exact hn hk
      · split
        · rename_i hk
          have hA := ha (by rw [hk]; decide)
          rw [kid hA]
          exact ih x.a.toNat (by omega) (by omega)
        · split
          · rename_i hk
            have hA := ha (by rw [hk]; decide)
            rw [kid hA]
            exact ih x.a.toNat (by omega) (by omega)
          · have hk : x.k = 4 ∨ x.k = 5 ∨ x.k = 7 ∨ x.k = 8 := by omega
            have hA := ha (by rcases hk with h | h | h | h <;> rw [h] <;> decide)
            have hB := hb (by rcases hk with h | h | h | h <;> rw [h] <;> decide)
            rw [kid hA, kid hB]
            exact ⟨hk, ih x.a.toNat (by omega) (by omega), ih x.b.toNat (by omega) (by omega)⟩
def AllOk (o : List Nd) : Prop := ∀ i, (h : i < o.length) → ndErr o[i] i = 0
theorem AllOk.snoc {o : List Nd} {x : Nd} (h : AllOk o) (hx : ndErr x o.length = 0) : AllOk (o ++ [x]) := by
  intro i hi
  simp at hi
  rcases Nat.lt_or_ge i o.length with h1 | h1
  · rw [List.getElem_append_left h1]
    exact h i h1
  · obtain rfl : i = o.length := by omega
    simpa using hx
theorem flat_ok {t : Fm} (ht : t.okS) : ∀ o, AllOk o → AllOk (t.flat o) := by
  induction t with
  | tt => intro o h; exact h.snoc (by simp [ndErr, btw, nmA, nmB, nmN])
  | pr n =>
    intro o h
    refine h.snoc ?_
    have h1 := ht.1
    have h2 := ht.2
    simp [ndErr, btw, nmA, nmB, nmN, h1, h2]
  | no a ih =>
    intro o h
    have h1 := a.flat_len o
    have h2 := a.size_pos
    refine (ih ht o h).snoc ?_
    have h3 : (0 : Int) ≤ ((a.flat o).length : Int) - 1 := by omega
    simp [ndErr, btw, nmA, nmB, nmN, h3]
    omega
  | nx a ih =>
    intro o h
    have h1 := a.flat_len o
    have h2 := a.size_pos
    refine (ih ht o h).snoc ?_
    have h3 : (0 : Int) ≤ ((a.flat o).length : Int) - 1 := by omega
    simp [ndErr, btw, nmA, nmB, nmN, h3]
    omega
  | bi k x y ihx ihy =>
    intro o h
    have h1 := x.flat_len o
    have h2 := x.size_pos
    have h3 := y.flat_len (x.flat o)
    have h4 := y.size_pos
    refine (ihy ht.2.2 _ (ihx ht.2.1 o h)).snoc ?_
    have h5 : (0 : Int) ≤ ((x.flat o).length : Int) - 1 := by omega
    have h6 : (0 : Int) ≤ ((y.flat (x.flat o)).length : Int) - 1 := by omega
    have h7 : ((x.flat o).length : Int) - 1 ≤ ((y.flat (x.flat o)).length : Int) - 1 := by omega
    rcases ht.1 with rfl | rfl | rfl | rfl <;> simp [ndErr, btw, nmA, nmB, nmN, h5, h6, h7] <;> omega
end Go.Proofs.YtoglgeaiiipchabGreatDoor
