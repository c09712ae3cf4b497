import Derived.Test.YtoglgeaiiipchabGreatDoorLMHKM34
import Derived.Test.YtoglgeaiiipchabGreatDoorLMHKM6
import Derived.Test.YtoglgeaiiipchabGreatDoorLMHKM37
import Derived.Test.YtoglgeaiiipchabGreatDoorLMHKM1
import Derived.Test.YtoglgeaiiipchabGreatDoorProg
import Derived.Test.YtoglgeaiiipchabGreatDoorLMHKM22
set_option linter.unusedSimpArgs false
set_option linter.unusedVariables false
namespace Go.Proofs.YtoglgeaiiipchabGreatDoor
open Go Go.RowKit Go.Sort
theorem negshow_len (t : Fm) : ∀ b, (t.neg b).show.length ≤ 2 * t.show.length := by
  induction t with
  | tt => intro b; cases b <;> simp [Fm.neg, Fm.show]
  | pr n => intro b; cases b <;> simp [Fm.neg, Fm.show]
  | no a ih => intro b; have := ih (!b); simp [Fm.neg, Fm.show]; omega
  | nx a ih => intro b; have := ih b; simp [Fm.neg, Fm.show]; omega
  | bi k x y ihx ihy => intro b; have h1 := ihx b; have h2 := ihy b; simp [Fm.neg, Fm.show]; omega
theorem oppK {k : Int} (hk : k = 4 ∨ k = 5 ∨ k = 7 ∨ k = 8) : opp k = 4 ∨ opp k = 5 ∨ opp k = 7 ∨ opp k = 8 := by
  rcases hk with rfl | rfl | rfl | rfl <;> decide
set_option maxRecDepth 100000 in
set_option maxHeartbeats 8000000 in
theorem NegText_ (f : List Nd) (F : Option Addr) (fc : Nat) (w : World) (hf : Nds w 0 F fc f) (ho : FmOK f) : ∀ (i : Nat), i < f.length → ∀ (tu : Bool) W, Below w.heap.size w W →
    Calls Tryz.prog 56 #[.slice F f.length fc, .int .i64 i, .bool tu] W fun e w' => e = .returned (.string (sb ((treeAt f i).neg tu).show)) ∧ Below W.heap.size W w' := by
  intro i
  induction i using Nat.strongRecOn with
  | _ i ih =>
    intro hi tu W hW
    have HSO : Hid (∀ W2, Below w.heap.size w W2 → Calls Tryz.prog 98 #[.slice F f.length fc, .int .i64 i] W2 fun e w' => e = .returned (.string (sb (treeAt f i).show)) ∧ Below W2.heap.size W2 w') := fun W2 h2 => ShowOf_ f F fc w hf ho i hi W2 h2
    have HSI : Hid ((sb (treeAt f i).show).size ≤ 30000) := show_few ho hi
    have HF := Lib.hid hf
    obtain ⟨b, o, rfl, _, _, q0, q1, q2, q3⟩ := Nds.at_ (hf.below hW) hi
    obtain ⟨x, hx⟩ : ∃ x, x = f[i] := ⟨_, rfl⟩
    rw [← hx] at q0 q1 q2 q3
    have HSZ : Hid (∀ j, j < i → ∀ tu, (sb ((treeAt f j).neg tu).show).size ≤ 60000) := fun j hj tu => by have h1 := show_few ho (i := j) (by omega); have h2 := negshow_len (treeAt f j) tu; rw [sb_size] at *; omega
    have hok := nd_ok (ho.nd i hi)
    rw [← hx] at hok
    have hfc := hf.le
    have HT : Hid (treeAt f i = treeN (treesOf f i) x) := treeAt_eq hi x hx.symm
    have HOK := Lib.hid hok
    have HW := Lib.hid hW
    have IH := Lib.hid ih
    have hk1 := hok.k1
    have hk8 := hok.k8
    clear hf hx hok hW ih ho
    obtain ⟨k, a, bb, n⟩ := x
    simp only at q0 q1 q2 q3 hk1 hk8
    have hcv := conv1
    have hcvD := conv1D
    go_enter Tryz.func56, Tryz.ntmps56
    have h : k = 1 ∨ k = 2 ∨ k = 3 ∨ k = 6 ∨ (k = 4 ∨ k = 5 ∨ k = 7 ∨ k = 8) := by omega
    rcases h with rfl | rfl | rfl | rfl | hk
    · have HP1 : Hid (treeAt f i = .tt) := by show _ = _; rw [HT.out]; rfl
      cases tu with
      | false =>
        have HP : Hid (Ending.returned (.string (sb (treeAt f i).show)) = Ending.returned (.string (sb ((treeAt f i).neg false).show))) := by show _ = _; rw [HP1.out]; rfl
        go_wp2_with fail
        refine (HSO.out _ (Below_on HW.out ((Below.refl _ W).alloc (Nat.le_refl _) _) HW.out.size)).mono ?_
        rintro e w2 ⟨rfl, hb2⟩
        have HB2 := Lib.hid (Below_on ((Below.refl _ W).alloc (Nat.le_refl _) _) hb2 (by simp))
        clear hb2
        go_wp2_with fail
        go_ret
        exact ⟨HP.out, HB2.out⟩
      | true =>
        have HP : Hid (Ending.returned (.string (⟨#[33]⟩ ++ sb (treeAt f i).show)) = Ending.returned (.string (sb ((treeAt f i).neg true).show))) := by
          show _ = _
          rw [HP1.out, show (⟨#[33]⟩ : ByteArray) = sb [33] from rfl, sb_app]
          rfl
        have hz := HSI.out
        generalize sb (treeAt f i).show = S at *
        go_wp2_with fail
        refine (HSO.out _ (Below_on HW.out ((Below.refl _ W).alloc (Nat.le_refl _) _) HW.out.size)).mono ?_
        rintro e w2 ⟨rfl, hb2⟩
        have HB2 := Lib.hid (Below_on ((Below.refl _ W).alloc (Nat.le_refl _) _) hb2 (by simp))
        clear hb2
        go_wp2_with fail
        go_ret
        exact ⟨HP.out, HB2.out⟩
    · have HP1 : Hid (treeAt f i = .pr n) := by show _ = _; rw [HT.out]; rfl
      cases tu with
      | false =>
        have HP : Hid (Ending.returned (.string (sb (treeAt f i).show)) = Ending.returned (.string (sb ((treeAt f i).neg false).show))) := by show _ = _; rw [HP1.out]; rfl
        go_wp2_with fail
        refine (HSO.out _ (Below_on HW.out ((Below.refl _ W).alloc (Nat.le_refl _) _) HW.out.size)).mono ?_
        rintro e w2 ⟨rfl, hb2⟩
        have HB2 := Lib.hid (Below_on ((Below.refl _ W).alloc (Nat.le_refl _) _) hb2 (by simp))
        clear hb2
        go_wp2_with fail
        go_ret
        exact ⟨HP.out, HB2.out⟩
      | true =>
        have HP : Hid (Ending.returned (.string (⟨#[33]⟩ ++ sb (treeAt f i).show)) = Ending.returned (.string (sb ((treeAt f i).neg true).show))) := by
          show _ = _
          rw [HP1.out, show (⟨#[33]⟩ : ByteArray) = sb [33] from rfl, sb_app]
          rfl
        have hz := HSI.out
        generalize sb (treeAt f i).show = S at *
        go_wp2_with fail
        refine (HSO.out _ (Below_on HW.out ((Below.refl _ W).alloc (Nat.le_refl _) _) HW.out.size)).mono ?_
        rintro e w2 ⟨rfl, hb2⟩
        have HB2 := Lib.hid (Below_on ((Below.refl _ W).alloc (Nat.le_refl _) _) hb2 (by simp))
        clear hb2
        go_wp2_with fail
        go_ret
        exact ⟨HP.out, HB2.out⟩
    · have ha := HOK.out.a rfl
      simp only at ha
      obtain ⟨X, rfl⟩ := Int.eq_ofNat_of_zero_le ha.1
      have HP : Hid (Ending.returned (.string (sb ((treeAt f X).neg (!tu)).show)) = Ending.returned (.string (sb ((treeAt f i).neg tu).show))) := by
        show _ = _
        rw [HT.out]
        show _ = Ending.returned (.string (sb (Fm.show (Fm.neg (.no ((treesOf f i).getD ((X : Int)).toNat .tt)) tu))))
        rw [kid ha]
        rfl
      have HC := Lib.hid (fun W2 h2 => IH.out X (by omega) (by omega) (!tu) W2 h2)
      have hz := HSZ.out X (by omega) (!tu)
      generalize sb ((treeAt f X).neg (!tu)).show = S at *
      go_wp2_with fail
      refine (HC.out _ (Below_on HW.out ((Below.refl _ W).alloc (Nat.le_refl _) _) HW.out.size)).mono ?_
      rintro e w2 ⟨rfl, hb2⟩
      have HB2 := Lib.hid (Below_on ((Below.refl _ W).alloc (Nat.le_refl _) _) hb2 (by simp))
      clear hb2
      go_wp2_with fail
      go_ret
      exact ⟨HP.out, HB2.out⟩
    · have ha := HOK.out.a rfl
      simp only at ha
      obtain ⟨X, rfl⟩ := Int.eq_ofNat_of_zero_le ha.1
      have HP : Hid (Ending.returned (.string (⟨#[88]⟩ ++ sb ((treeAt f X).neg tu).show)) = Ending.returned (.string (sb ((treeAt f i).neg tu).show))) := by
        show _ = _
        rw [HT.out, show (⟨#[88]⟩ : ByteArray) = sb [88] from rfl, sb_app]
        show _ = Ending.returned (.string (sb (Fm.show (Fm.neg (.nx ((treesOf f i).getD ((X : Int)).toNat .tt)) tu))))
        rw [kid ha]
        rfl
      have HC := Lib.hid (fun W2 h2 => IH.out X (by omega) (by omega) tu W2 h2)
      have hz := HSZ.out X (by omega) tu
      generalize sb ((treeAt f X).neg tu).show = S at *
      go_wp2_with fail
      refine (HC.out _ (Below_on HW.out ((Below.refl _ W).alloc (Nat.le_refl _) _) HW.out.size)).mono ?_
      rintro e w2 ⟨rfl, hb2⟩
      have HB2 := Lib.hid (Below_on ((Below.refl _ W).alloc (Nat.le_refl _) _) hb2 (by simp))
      clear hb2
      go_wp2_with fail
      go_ret
      exact ⟨HP.out, HB2.out⟩
    · have ha := HOK.out.a (by rcases hk with rfl | rfl | rfl | rfl <;> rfl)
      have hb := HOK.out.b (by rcases hk with rfl | rfl | rfl | rfl <;> rfl)
      simp only at ha hb
      obtain ⟨X, rfl⟩ := Int.eq_ofNat_of_zero_le ha.1
      obtain ⟨Y, rfl⟩ := Int.eq_ofNat_of_zero_le hb.1
      have HP : Hid (Ending.returned (.string (⟨#[40]⟩ ++ sb ((treeAt f X).neg tu).show ++ ⟨#[32]⟩ ++ sb [sgn (if tu then opp k else k)] ++ ⟨#[32]⟩ ++ sb ((treeAt f Y).neg tu).show ++ ⟨#[41]⟩)) = Ending.returned (.string (sb ((treeAt f i).neg tu).show))) := by
        show _ = _
        have HE : treeAt f i = .bi k (treeAt f X) (treeAt f Y) := by
          rw [HT.out]
          unfold treeN
          simp only
          rw [if_neg (by omega), if_neg (by omega), if_neg (by omega), if_neg (by omega), kid ha, kid hb]
          rfl
        rw [HE, show (⟨#[40]⟩ : ByteArray) = sb [40] from rfl, show (⟨#[32]⟩ : ByteArray) = sb [32] from rfl, show (⟨#[41]⟩ : ByteArray) = sb [41] from rfl]
        simp only [sb_app]
        simp [Fm.neg, Fm.show]
      have HBA : Hid (Below W.heap.size W (W.alloc (Obj.cells #[.int .i64 k, .int .i64 (X : Int), .int .i64 (Y : Int), .int .i64 n] 90))) := (Below.refl _ W).alloc (Nat.le_refl _) _
      have HBX : Hid (∀ W2, Below (W.heap.size + 1) (W.alloc (Obj.cells #[.int .i64 k, .int .i64 (X : Int), .int .i64 (Y : Int), .int .i64 n] 90)) W2 → W2.cell? ⟨W.heap.size, 1, none⟩ = some (.int .i64 (X : Int)) ∧ W2.cell? ⟨W.heap.size, 2, none⟩ = some (.int .i64 (Y : Int))) := fun W2 h2 =>
        ⟨(h2.cell (p := ⟨W.heap.size, 1, none⟩) (Nat.lt_succ_self _)).trans (by go_simp), (h2.cell (p := ⟨W.heap.size, 2, none⟩) (Nat.lt_succ_self _)).trans (by go_simp)⟩
      have CX : Hid (∀ W2, Below (W.heap.size + 1) (W.alloc (Obj.cells #[.int .i64 k, .int .i64 (X : Int), .int .i64 (Y : Int), .int .i64 n] 90)) W2 → Calls Tryz.prog 56 #[.slice (some ⟨b, o, none⟩) f.length fc, .int .i64 (X : Int), .bool tu] W2 fun e w' => e = .returned (.string (sb ((treeAt f X).neg tu).show)) ∧ Below W2.heap.size W2 w') := fun W2 h2 =>
        IH.out X (by omega) (by omega) tu W2 (Below_on HW.out (Below_on ((Below.refl _ W).alloc (Nat.le_refl _) _) h2 (by simp)) HW.out.size)
      have CY : Hid (∀ W2, Below (W.heap.size + 1) (W.alloc (Obj.cells #[.int .i64 k, .int .i64 (X : Int), .int .i64 (Y : Int), .int .i64 n] 90)) W2 → Calls Tryz.prog 56 #[.slice (some ⟨b, o, none⟩) f.length fc, .int .i64 (Y : Int), .bool tu] W2 fun e w' => e = .returned (.string (sb ((treeAt f Y).neg tu).show)) ∧ Below W2.heap.size W2 w') := fun W2 h2 =>
        IH.out Y (by omega) (by omega) tu W2 (Below_on HW.out (Below_on ((Below.refl _ W).alloc (Nat.le_refl _) _) h2 (by simp)) HW.out.size)
      have hz1 := HSZ.out X (by omega) tu
      have hz2 := HSZ.out Y (by omega) tu
      have k1 : (k == 1) = false := by simp; omega
      have k2 : (k == 2) = false := by simp; omega
      have k3 : (k == 3) = false := by simp; omega
      have k6 : (k == 6) = false := by simp; omega
      generalize sb ((treeAt f X).neg tu).show = S1 at *
      generalize sb ((treeAt f Y).neg tu).show = S2 at *
      go_upto_if 44 with fail
      have HV1 : Hid (W.heap.size + 1 ≤ (W.alloc (Obj.cells #[.int .i64 k, .int .i64 (X : Int), .int .i64 (Y : Int), .int .i64 n] 90)).heap.size) := by show _ ≤ _; simp
      have HBR : Hid (Below (W.heap.size + 1) (W.alloc (Obj.cells #[.int .i64 k, .int .i64 (X : Int), .int .i64 (Y : Int), .int .i64 n] 90)) (W.alloc (Obj.cells #[.int .i64 k, .int .i64 (X : Int), .int .i64 (Y : Int), .int .i64 n] 90))) := Below.refl _ _
      generalize W.alloc (Obj.cells #[.int .i64 k, .int .i64 (X : Int), .int .i64 (Y : Int), .int .i64 n] 90) = W1 at *
      go_cut [8] (fun s8 wx => s8 = .int .i64 (if tu then opp k else k) ∧ Hid (Below (W.heap.size + 1) W1 wx))
      case first =>
        cases tu with
        | false =>
          go_wp2_with fail
          go_meet
          exact ⟨rfl, HBR.out⟩
        | true =>
          have HG : Hid (Below (W.heap.size + 1) W1 (W1.alloc (Obj.cells #[.int .i64 0, .int .i64 0, .int .i64 0, .int .i64 0, .int .i64 5, .int .i64 4, .int .i64 0, .int .i64 8, .int .i64 7] 3))) := HBR.out.alloc HV1.out _
          rcases hk with rfl | rfl | rfl | rfl
          all_goals
            go_wp2_with fail
            go_meet
            exact ⟨rfl, HG.out⟩
      case rest =>
      obtain ⟨rfl, HWX⟩ := hcut
      obtain ⟨wx, rfl⟩ : ∃ wx : World, wx = wc := ⟨_, rfl⟩
      obtain ⟨x1, x2⟩ := HBX.out _ HWX.out
      obtain ⟨kk, hkk⟩ : ∃ kk : Int, kk = if tu then opp k else k := ⟨_, rfl⟩
      have hk' : kk = 4 ∨ kk = 5 ∨ kk = 7 ∨ kk = 8 := by
        rw [hkk]
        cases tu
        · exact hk
        · exact oppK hk
      rw [← hkk] at HP
      rw [← hkk]
      clear hkk hk
      obtain ⟨V, hVe⟩ : ∃ V, V = W.heap.size := ⟨_, rfl⟩
      have hV : V + 1 ≤ wx.heap.size := by have := World.block_lt_of_cell? wx _ x1; simp at this; omega
      rw [← hVe] at x1 x2 HBX CX CY HWX
      have HVe := Lib.hid hVe
      rw [← hVe]
      clear hVe
      have HBXW : Hid (∀ W2, Below (V + 1) wx W2 → Below (V + 1) W1 W2) := fun W2 h2 => HWX.out.trans h2
      have HBX' : Hid (∀ W2, Below (V + 1) wx W2 → W2.cell? ⟨V, 1, none⟩ = some (.int .i64 (X : Int)) ∧ W2.cell? ⟨V, 2, none⟩ = some (.int .i64 (Y : Int))) := fun W2 h2 => HBX.out _ (HBXW.out _ h2)
      have CX' : Hid (∀ W2, Below (V + 1) wx W2 → Calls Tryz.prog 56 #[.slice (some ⟨b, o, none⟩) f.length fc, .int .i64 (X : Int), .bool tu] W2 fun e w' => e = .returned (.string S1) ∧ Below W2.heap.size W2 w') := fun W2 h2 => CX.out _ (HBXW.out _ h2)
      have CY' : Hid (∀ W2, Below (V + 1) wx W2 → Calls Tryz.prog 56 #[.slice (some ⟨b, o, none⟩) f.length fc, .int .i64 (Y : Int), .bool tu] W2 fun e w' => e = .returned (.string S2) ∧ Below W2.heap.size W2 w') := fun W2 h2 => CY.out _ (HBXW.out _ h2)
      have hw0 : W.heap.size = V := HVe.out.symm
      have HVW : Hid (∀ W2, Below (V + 1) wx W2 → Below W.heap.size W W2) := fun W2 h2 => Below_on HBA.out (HBXW.out _ h2) (by omega)
      clear HBX CX CY HWX HBXW q0 q1 q2 q3 HBA hw0
      have c1 : ¬ 9223372036854775807 < 1 + S1.size := by omega
      have c2 : ¬ 9223372036854775807 < 1 + S1.size + 1 := by omega
      have c3 : ¬ 9223372036854775807 < 1 + S1.size + 1 + 1 := by omega
      have c4 : ¬ 9223372036854775807 < 1 + S1.size + 1 + 1 + 1 := by omega
      have c5 : ¬ 9223372036854775807 < 1 + S1.size + 1 + 1 + 1 + S2.size := by omega
      have c6 : ¬ 9223372036854775807 < 1 + S1.size + 1 + 1 + 1 + S2.size + 1 := by omega
      have d1 : IntKind.i64.wrap (kk - 4) = kk - 4 := IntWalk.i64_in _ (by omega)
      have d2 : 4 ≤ kk := by omega
      have d3 : kk - 4 < 5 := by omega
      have d0 : (kk - 4).toNat < 5 := by omega
      have HS : Hid (sb [(⟨#[38, 124, 46, 85, 82]⟩ : ByteArray)[(kk - 4).toNat]'d0] = sb [sgn kk]) := by
        rcases hk' with rfl | rfl | rfl | rfl <;> rfl
      have HRR : Hid (Ending.returned (.string (⟨#[40]⟩ ++ S1 ++ ⟨#[32]⟩ ++ sb [(⟨#[38, 124, 46, 85, 82]⟩ : ByteArray)[(kk - 4).toNat]'d0] ++ ⟨#[32]⟩ ++ S2 ++ ⟨#[41]⟩)) = Ending.returned (.string (sb ((treeAt f i).neg tu).show))) := by
        show _ = _
        rw [HS.out]
        exact HP.out
      clear hk1 hk8 HP k1 k2 k3 k6 hk' hz1 hz2 HSO HSI HSZ
      have hz3 : ∀ c : UInt8, (sb [c]).size = 1 := fun c => by rw [sb_size]; rfl
      go_upto_region 15 with fail
      refine wp_region_held_drew (S := fun w' => Below wx.heap.size wx w') (by kernel_rfl) ((Below.refl _ _).drew) (fun hS0 => ?_)
      refine wpAnyH_take1 (i := 0) (v := ?_) rfl (by kernel_rfl) (by kernel_rfl) (by kernel_rfl) (fun _ _ _ h => h) (Or.inl ⟨by rfl, ?_⟩) hS0 ?_
      rotate_left
      · intro w hSw; obtain ⟨e1, e2⟩ := HBX'.out w (hSw.mono hV); go_simp; (try with_reducible rfl)
      simp only [Act.put, List.setIfInBounds_toArray, List.set_cons_zero, List.set_cons_succ]
      refine wpAnyH_take1 (i := 1) (v := ?_) rfl (by kernel_rfl) (by kernel_rfl) (by kernel_rfl) (fun _ _ _ h => h) (Or.inl ⟨by rfl, ?_⟩) hS0 ?_
      rotate_left
      · intro w hSw; obtain ⟨e1, e2⟩ := HBX'.out w (hSw.mono hV); go_simp; (try with_reducible rfl)
      simp only [Act.put, List.setIfInBounds_toArray, List.set_cons_zero, List.set_cons_succ]
      refine wpAnyH_take1 (i := 2) (v := ?_) rfl (by kernel_rfl) (by kernel_rfl) (by kernel_rfl) (fun _ _ _ h => h) (Or.inl ⟨by rfl, ?_⟩) hS0 ?_
      rotate_left
      · intro w hSw; obtain ⟨e1, e2⟩ := HBX'.out w (hSw.mono hV); go_simp; (try with_reducible rfl)
      simp only [Act.put, List.setIfInBounds_toArray, List.set_cons_zero, List.set_cons_succ]
      refine wpAnyH_take1 (i := 3) (v := ?_) rfl (by kernel_rfl) (by kernel_rfl) (by kernel_rfl) (fun _ _ _ h => h) (Or.inl ⟨by rfl, ?_⟩) hS0 ?_
      rotate_left
      · intro w hSw; obtain ⟨e1, e2⟩ := HBX'.out w (hSw.mono hV); go_simp; (try with_reducible rfl)
      simp only [Act.put, List.setIfInBounds_toArray, List.set_cons_zero, List.set_cons_succ]
      refine wpAnyH_take1 (i := 7) (v := ?_) rfl (by kernel_rfl) (by kernel_rfl) (by kernel_rfl) (fun _ _ _ h => h) (Or.inl ⟨by rfl, ?_⟩) hS0 ?_
      rotate_left
      · intro w hSw; obtain ⟨e1, e2⟩ := HBX'.out w (hSw.mono hV); go_simp; (try with_reducible rfl)
      simp only [Act.put, List.setIfInBounds_toArray, List.set_cons_zero, List.set_cons_succ]
      refine wpAnyH_take1 (i := 8) (v := ?_) rfl (by kernel_rfl) (by kernel_rfl) (by kernel_rfl) (fun _ _ _ h => h) (Or.inl ⟨by rfl, ?_⟩) hS0 ?_
      rotate_left
      · intro w hSw; obtain ⟨e1, e2⟩ := HBX'.out w (hSw.mono hV); go_simp; (try with_reducible rfl)
      simp only [Act.put, List.setIfInBounds_toArray, List.set_cons_zero, List.set_cons_succ]
      refine wpAnyH_take1 (i := 9) (v := ?_) rfl (by kernel_rfl) (by kernel_rfl) (by kernel_rfl) (fun _ _ _ h => h) (Or.inl ⟨by rfl, ?_⟩) hS0 ?_
      rotate_left
      · intro w hSw; obtain ⟨e1, e2⟩ := HBX'.out w (hSw.mono hV); go_simp; (try with_reducible rfl)
      simp only [Act.put, List.setIfInBounds_toArray, List.set_cons_zero, List.set_cons_succ]
      refine wpAnyH_take1 (i := 14) (v := ?_) rfl (by kernel_rfl) (by kernel_rfl) (by kernel_rfl) (fun _ _ _ h => h) (Or.inl ⟨by rfl, ?_⟩) hS0 ?_
      rotate_left
      · intro w hSw; obtain ⟨e1, e2⟩ := HBX'.out w (hSw.mono hV); go_simp; (try with_reducible rfl)
      simp only [Act.put, List.setIfInBounds_toArray, List.set_cons_zero, List.set_cons_succ]
      refine wpAnyH_take1 (i := 15) (v := ?_) rfl (by kernel_rfl) (by kernel_rfl) (by kernel_rfl) (fun _ _ _ h => h) (Or.inl ⟨by rfl, ?_⟩) hS0 ?_
      rotate_left
      · intro w hSw; obtain ⟨e1, e2⟩ := HBX'.out w (hSw.mono hV); go_simp; (try with_reducible rfl)
      simp only [Act.put, List.setIfInBounds_toArray, List.set_cons_zero, List.set_cons_succ]
      refine wpAnyH_take1 (i := 16) (v := ?_) rfl (by kernel_rfl) (by kernel_rfl) (by kernel_rfl) (fun _ _ _ h => h) (Or.inl ⟨by rfl, ?_⟩) hS0 ?_
      rotate_left
      · intro w hSw; obtain ⟨e1, e2⟩ := HBX'.out w (hSw.mono hV); go_simp; (try with_reducible rfl)
      simp only [Act.put, List.setIfInBounds_toArray, List.set_cons_zero, List.set_cons_succ]
      refine wpAnyH_take1 (i := 17) (v := ?_) rfl (by kernel_rfl) (by kernel_rfl) (by kernel_rfl) (fun _ _ _ h => h) (Or.inl ⟨by rfl, ?_⟩) hS0 ?_
      rotate_left
      · intro w hSw; obtain ⟨e1, e2⟩ := HBX'.out w (hSw.mono hV); go_simp; (try with_reducible rfl)
      simp only [Act.put, List.setIfInBounds_toArray, List.set_cons_zero, List.set_cons_succ]
      obtain ⟨F4, hE4⟩ : ∃ F, F = (⟨#[40]⟩ : ByteArray) ++ S1 := ⟨_, rfl⟩
      obtain ⟨F5, hE5⟩ : ∃ F, F = F4 ++ (⟨#[32]⟩ : ByteArray) := ⟨_, rfl⟩
      obtain ⟨F12, hE12⟩ : ∃ F, F = F5 ++ sb [sgn kk] := ⟨_, rfl⟩
      obtain ⟨F13, hE13⟩ : ∃ F, F = F12 ++ (⟨#[32]⟩ : ByteArray) := ⟨_, rfl⟩
      obtain ⟨F18, hE18⟩ : ∃ F, F = F13 ++ S2 := ⟨_, rfl⟩
      obtain ⟨F19, hE19⟩ : ∃ F, F = F18 ++ (⟨#[41]⟩ : ByteArray) := ⟨_, rfl⟩
      have z3 := hz3 (sgn kk)
      have z4 : F4.size = 1 + S1.size := by rw [hE4]; simp [ByteArray.size_append]; rfl
      have z5 : F5.size = F4.size + 1 := by rw [hE5]; simp [ByteArray.size_append]; rfl
      have z12 : F12.size = F5.size + 1 := by rw [hE12, ByteArray.size_append, z3]
      have z13 : F13.size = F12.size + 1 := by rw [hE13]; simp [ByteArray.size_append]; rfl
      have z18 : F18.size = F13.size + S2.size := by rw [hE18, ByteArray.size_append]
      have y4 : ¬ 9223372036854775807 < F4.size := by omega
      have y5 : ¬ 9223372036854775807 < F4.size + 1 := by omega
      have y12 : ¬ 9223372036854775807 < F5.size + (sb [sgn kk]).size := by omega
      have y12' : ¬ 9223372036854775807 < F5.size + 1 := by omega
      have y13 : ¬ 9223372036854775807 < F12.size + 1 := by omega
      have y18 : ¬ 9223372036854775807 < F13.size + S2.size := by omega
      have y19 : ¬ 9223372036854775807 < F18.size + 1 := by omega
      have HFS : Hid (Ending.returned (.string F19) = Ending.returned (.string (sb ((treeAt f i).neg tu).show))) := by
        show _ = _
        rw [← HRR.out, HS.out, hE19, hE18, hE13, hE12, hE5, hE4]
      have hF4 := Lib.hid hE4
      have hF5 := Lib.hid hE5
      have hF12 := Lib.hid hE12
      have hF13 := Lib.hid hE13
      have hF18 := Lib.hid hE18
      have hF19 := Lib.hid hE19
      clear hE4 hE5 hE12 hE13 hE18 hE19 z3 z4 z5 z12 z13 z18 HRR
      refine wpAnyH_free1 (fun i v w' => match i with
        | 4 => v = .string S1 | 5 => v = .string F4 | 6 => v = .string F5
        | 10 => ∃ g n, v = .slice (some ⟨g, 0, none⟩) 1 1 ∧ g < w'.heap.size ∧ w'.cell? ⟨g, 0, none⟩ = some (.int .u8 n) ∧ sb [UInt8.ofNat n.toNat] = sb [sgn kk]
        | 11 => v = .string (sb [sgn kk]) | 12 => v = .string F12 | 13 => v = .string F13 | 18 => v = .string S2 | 19 => v = .string F18 | 20 => v = .string F19 | 21 => v = .string F19 | _ => False)
        [4, 5, 6, 10, 11, 12, 13, 18, 19, 20, 21] (by kernel_rfl) (by decide) ?_ hS0 (fun vs => ?_)
      · intro j v w1 w2 hb hr
        split at hr <;> first | exact hr | exact hr.elim | skip
        obtain ⟨g, n, h1, h2, h3, h4⟩ := hr
        exact ⟨g, n, h1, Nat.lt_of_lt_of_le h2 hb.size, (hb.cell (p := ⟨g, 0, none⟩) h2).trans h3, h4⟩
      refine StepsF.cons1 rfl (fun w hw hd K hK => ?_) ?_
      · go_simp
        go_at_call 56
        refine (CX'.out _ (hw.mono hV)).mono ?_
        rintro e wa ⟨rfl, hba⟩
        exact hK.out _ _ (hw.trans (hba.mono hw.size)) hba rfl
      simp only [Act.put, List.setIfInBounds_toArray, List.set_cons_zero, List.set_cons_succ]
      refine StepsF.cons1 rfl (fun w hw hd K hK => ?_) ?_
      · have h4 : vs 4 = _ := hd 4 (by decide) (by kernel_rfl)
        rw [h4] at hK ⊢
        go_simp
        refine hK.out _ _ hw (Below.refl _ _) ?_
        exact congrArg Value.string hF4.out.symm
      simp only [Act.put, List.setIfInBounds_toArray, List.set_cons_zero, List.set_cons_succ]
      refine StepsF.cons1 rfl (fun w hw hd K hK => ?_) ?_
      · have h5 : vs 5 = _ := hd 5 (by decide) (by kernel_rfl)
        rw [h5] at hK ⊢
        go_simp
        refine hK.out _ _ hw (Below.refl _ _) ?_
        exact congrArg Value.string hF5.out.symm
      simp only [Act.put, List.setIfInBounds_toArray, List.set_cons_zero, List.set_cons_succ]
      refine StepsF.cons1 rfl (fun w hw hd K hK => ?_) ?_
      · go_simp
        refine hK.out _ _ (hw.trans (((Below.refl _ w).alloc (Nat.le_refl _) _).mono hw.size)) ((Below.refl _ w).alloc (Nat.le_refl _) _) ⟨w.heap.size, _, rfl, by simp, cell_new _ _ _, ?_⟩
        rw [← HS.out]; simp
      simp only [Act.put, List.setIfInBounds_toArray, List.set_cons_zero, List.set_cons_succ]
      refine StepsF.cons1 rfl (fun w hw hd K hK => ?_) ?_
      · obtain ⟨g, n, h1, h2, h3, h4⟩ := hd 10 (by decide) (by kernel_rfl)
        have hcv := conv2 h3
        rw [h4] at hcv
        rw [h1] at hK ⊢
        go_simp
        exact hK.out _ _ hw (Below.refl _ _) rfl
      simp only [Act.put, List.setIfInBounds_toArray, List.set_cons_zero, List.set_cons_succ]
      refine StepsF.cons1 rfl (fun w hw hd K hK => ?_) ?_
      · have h6 : vs 6 = _ := hd 6 (by decide) (by kernel_rfl)
        have h11 : vs 11 = _ := hd 11 (by decide) (by kernel_rfl)
        rw [h6, h11] at hK ⊢
        go_simp
        refine hK.out _ _ hw (Below.refl _ _) ?_
        exact congrArg Value.string hF12.out.symm
      simp only [Act.put, List.setIfInBounds_toArray, List.set_cons_zero, List.set_cons_succ]
      refine StepsF.cons1 rfl (fun w hw hd K hK => ?_) ?_
      · have h12 : vs 12 = _ := hd 12 (by decide) (by kernel_rfl)
        rw [h12] at hK ⊢
        go_simp
        refine hK.out _ _ hw (Below.refl _ _) ?_
        exact congrArg Value.string hF13.out.symm
      simp only [Act.put, List.setIfInBounds_toArray, List.set_cons_zero, List.set_cons_succ]
      refine StepsF.cons1 rfl (fun w hw hd K hK => ?_) ?_
      · go_simp
        go_at_call 56
        refine (CY'.out _ (hw.mono hV)).mono ?_
        rintro e wa ⟨rfl, hba⟩
        exact hK.out _ _ (hw.trans (hba.mono hw.size)) hba rfl
      simp only [Act.put, List.setIfInBounds_toArray, List.set_cons_zero, List.set_cons_succ]
      refine StepsF.cons1 rfl (fun w hw hd K hK => ?_) ?_
      · have h13 : vs 13 = _ := hd 13 (by decide) (by kernel_rfl)
        have h18 : vs 18 = _ := hd 18 (by decide) (by kernel_rfl)
        rw [h13, h18] at hK ⊢
        go_simp
        refine hK.out _ _ hw (Below.refl _ _) ?_
        exact congrArg Value.string hF18.out.symm
      simp only [Act.put, List.setIfInBounds_toArray, List.set_cons_zero, List.set_cons_succ]
      refine StepsF.cons1 rfl (fun w hw hd K hK => ?_) ?_
      · have h19 : vs 19 = _ := hd 19 (by decide) (by kernel_rfl)
        rw [h19] at hK ⊢
        go_simp
        refine hK.out _ _ hw (Below.refl _ _) ?_
        exact congrArg Value.string hF19.out.symm
      simp only [Act.put, List.setIfInBounds_toArray, List.set_cons_zero, List.set_cons_succ]
      refine StepsF.cons1 rfl (fun w hw hd K hK => ?_) ?_
      · have h20 : vs 20 = _ := hd 20 (by decide) (by kernel_rfl)
        rw [h20] at hK ⊢
        go_simp
        exact hK.out _ _ hw (Below.refl _ _) rfl
      simp only [Act.put, List.setIfInBounds_toArray, List.set_cons_zero, List.set_cons_succ]
      intro w hw hR
      have h21 : vs 21 = _ := hR 21 (by decide)
      rw [h21]
      go_wp2_with fail
      go_ret
      exact ⟨HFS.out, HVW.out _ (hw.mono hV)⟩
end Go.Proofs.YtoglgeaiiipchabGreatDoor

namespace Go.Proofs.YtoglgeaiiipchabGreatDoor
open Go Go.RowKit Go.Sort
end Go.Proofs.YtoglgeaiiipchabGreatDoor

namespace Go.Proofs.YtoglgeaiiipchabGreatDoor
open Go Go.RowKit Go.Sort
set_option maxRecDepth 100000 in
theorem NegateOf_ (F : Option Addr) (fc : Nat) (f : List Nd) (w : World) (hf : Nds w 0 F fc f) (hc : ckF f = 0) :
    Calls Tryz.prog 20 #[.slice F f.length fc] w (NegPost w (negF f) (negE f)) := by
  have ho := ckF_zero.1 hc
  have hn := ho.pos
  have hlt : f.length - 1 < f.length := by omega
  have hfew : f.length ≤ 12 := by
    have := ho.few
    unfold tooMany at this
    simp only [Bool.or_eq_false_iff, decide_eq_false_iff_not] at this
    omega
  have hsz : (((treeAt f (f.length - 1)).neg true).show).length ≤ 60000 := by
    have h1 := show_few ho hlt
    have h2 := negshow_len (treeAt f (f.length - 1)) true
    rw [sb_size] at h1
    omega
  have hle := hf.le
  have hcp := hf.cap
  obtain ⟨T, hT⟩ : ∃ T : Fm, T = (treeAt f (f.length - 1)).neg true := ⟨_, rfl⟩
  have HNT : Hid (Calls Tryz.prog 56 #[.slice F f.length fc, .int .i64 ((f.length : Int) - 1), .bool true] w fun e w' => e = .returned (.string (sb T.show)) ∧ Below w.heap.size w w') := by
    have := NegText_ f F fc w hf ho (f.length - 1) hlt true w (Below.refl _ _)
    rw [← hT] at this
    rwa [show ((f.length - 1 : Nat) : Int) = (f.length : Int) - 1 by omega] at this
  rw [← hT] at hsz
  have hok : T.ok := by rw [hT]; exact Fm.neg_ok (treeAt_ok ho _ hlt) _
  have hpr : prs T.show (T.show.length + 1) 0 = .ok (T, T.show.length) := by
    have := prs_show T hok (T.show.length + 1) 0 (s := T.show) (by omega) (by omega) ⟨[], by simp⟩
    simpa using this
  have HPR := Lib.hid hpr
  have HNA : Hid (∀ W, Calls Tryz.prog 47 #[.slice none 0 0, .string (sb T.show), .int .i64 0] W (NaPost W.heap.size [] (.slice none 0 0) W (.ok (T, T.show.length)))) := fun W => by
    have := nodeAt_ T.show (by omega) (sb T.show) (sb_size _) (sb_get _) W.heap.size (T.show.length + 1) 0 [] W (.slice none 0 0) (Nat.zero_le _) (by omega) (Nat.le_refl _) (Nat.le_refl _) (World.ownsRow_nil _ _ _ _)
    rwa [hpr] at this
  have hlen : (T.flat []).length ≤ 100000 := by
    have p3 := size_show T
    have p4 := T.flat_len []
    simp at p4
    omega
  have HM : Hid (tooMany (negO f) = tooMany (T.flat []) ∧ (tooMany (negO f) = false → negO f = T.flat [])) := by
    rw [hT]
    exact ⟨Fm.negV_many _ _ _, fun h => Fm.negV_few _ _ _ h⟩
  have HP : Hid (negF f = if tooMany (negO f) = true then [] else negO f) := by unfold Hid negF; rw [if_pos hc]
  have HE : Hid (negE f = if tooMany (negO f) = true then 2 else 0) := by unfold Hid negE; rw [if_pos hc]
  clear hT hc ho hok hpr hsz hf
  go_enter Tryz.func20, Tryz.ntmps20
  go_wp2_with fail
  refine HNT.out.mono ?_
  rintro e w1 ⟨rfl, hb1⟩
  have HB1 := Lib.hid hb1
  have HC1 := Lib.hid (HNA.out w1)
  clear hb1 HNT HNA
  go_wp2_with fail
  refine HC1.out.mono ?_
  rintro e w2 ⟨v, rfl, hown⟩
  obtain ⟨A, c, rfl, hn⟩ := hown.form (by omega)
  have HB2 := Lib.hid (Below_on HB1.out ((Below.refl w1.heap.size w1).grown hown.gr (Nat.le_refl _) (fun k hk => by simp [Value.ownBlock] at hk)) HB1.out.size)
  have HN2 := Lib.hid (hn.low HB1.out.size)
  have HTM := Lib.hid (TooMany_ A c (T.flat []) w2 hn.zero)
  have hle2 := hn.le
  have hcp2 := hn.cap
  clear hown hn HC1
  generalize T.flat [] = o at *
  go_wp2_with fail
  refine HTM.out.mono ?_
  rintro e w3 ⟨rfl, hb3⟩
  have HB3 := Lib.hid (Below_on HB2.out hb3 HB2.out.size)
  have HN3 := Lib.hid (HN2.out.below hb3)
  clear hb3 HTM
  by_cases hm : tooMany o = true
  · have hm2 : tooMany (negO f) = true := HM.out.1.trans hm
    have HP2 : Hid (negF f = []) := by rw [HP.out, if_pos hm2]; rfl
    have HE2 : Hid (negE f = 2) := by rw [HE.out, if_pos hm2]; rfl
    clear hm2
    go_wp2_with fail
    go_ret2
    exact ⟨none, 0, by rw [HP2.out, HE2.out]; rfl, by rw [HP2.out]; exact Nds.none _ _, HB3.out⟩
  · have hm' : tooMany o = false := by simpa using hm
    have hm2 : tooMany (negO f) = false := HM.out.1.trans hm'
    have HP2 : Hid (negF f = o) := by rw [HP.out, if_neg (by simp [hm2]), HM.out.2 hm2]; rfl
    have HE2 : Hid (negE f = 0) := by rw [HE.out, if_neg (by simp [hm2])]; rfl
    clear hm2 hm
    go_wp2_with fail
    go_ret2
    exact ⟨A, c, by rw [HP2.out, HE2.out]; rfl, by rw [HP2.out]; exact HN3.out, HB3.out⟩
end Go.Proofs.YtoglgeaiiipchabGreatDoor

namespace Go.Proofs.YtoglgeaiiipchabGreatDoor
open Go Go.RowKit
def untF : List Nd := [⟨2, 0, 0, 0⟩, ⟨2, 0, 0, 1⟩, ⟨7, 0, 1, 0⟩]
theorem untF_rd {w' : World} {b : Nat} (hb : b < w'.heap.size) (h : w'.heap[b]? = some (Obj.cells #[Value.int IntKind.i64 2, Value.int IntKind.i64 0, Value.int IntKind.i64 0, Value.int IntKind.i64 0,
      Value.int IntKind.i64 2, Value.int IntKind.i64 0, Value.int IntKind.i64 0, Value.int IntKind.i64 1,
      Value.int IntKind.i64 7, Value.int IntKind.i64 0, Value.int IntKind.i64 1, Value.int IntKind.i64 0] 90)) : Nds w' 0 (some ⟨b, 0, none⟩) 3 untF := by
  refine ⟨by decide, by omega, by decide, fun _ => ⟨b, 0, rfl, Nat.zero_le _, hb, fun j u hu => ?_⟩⟩
  simp only [World.cell?, h]
  simp only [untF, List.flatMap_cons, List.flatMap_nil, Nd.cells, List.cons_append, List.nil_append, List.append_nil] at hu
  simpa using hu
def UntPost (w : World) (e : Ending) (w' : World) : Prop := ∃ b, e = .returned (.slice (some ⟨b, 0, none⟩) 3 3) ∧ Nds w' 0 (some ⟨b, 0, none⟩) 3 untF ∧ Below w.heap.size w w'
set_option maxRecDepth 100000 in
theorem until_ (w : World) : Calls Tryz.prog 57 #[] w (UntPost w) := by
  have HP : Hid (UntPost w (.returned (.slice (some ⟨w.heap.size, 0, none⟩) 3 3)) (w.alloc (Obj.cells #[Value.int IntKind.i64 2, Value.int IntKind.i64 0, Value.int IntKind.i64 0, Value.int IntKind.i64 0,
      Value.int IntKind.i64 2, Value.int IntKind.i64 0, Value.int IntKind.i64 0, Value.int IntKind.i64 1,
      Value.int IntKind.i64 7, Value.int IntKind.i64 0, Value.int IntKind.i64 1, Value.int IntKind.i64 0] 90))) :=
    ⟨_, rfl, untF_rd (by simp) Array.getElem?_push_size, (Below.refl _ _).alloc (Nat.le_refl _) _⟩
  go_enter Tryz.func57, Tryz.ntmps57
  go_wp2_with fail
  go_ret
  exact HP.out
end Go.Proofs.YtoglgeaiiipchabGreatDoor

namespace Go.Proofs.YtoglgeaiiipchabGreatDoor
open Go Go.RowKit Go.Shelf
def begL : La := ⟨[1, 2], [0]⟩
theorem untF_ck : ckT untF begL = 0 := by decide +kernel
theorem untF_tab : tableOf begL untF = [[true, false, false], [false, true, false], [true, true, false]] := by decide +kernel
def hbW (w : World) : World := ((w.alloc (Obj.cells #[Value.int IntKind.i64 1, Value.int IntKind.i64 2] 3)).alloc
      (Obj.cells #[Value.int IntKind.i64 0] 3)).alloc
  (Obj.cells
    #[Value.slice (some ⟨w.heap.size, 0, none⟩) 2 2,
      Value.slice (some ⟨w.heap.size + 1, 0, none⟩) 1 1]
    28)
structure HbW (w W : World) : Prop where
  below : Below w.heap.size w W
  size : W.heap.size = w.heap.size + 1 + 1 + 1
  l0 : W.cell? ⟨w.heap.size + 1 + 1, 0, none⟩ = some (.slice (some ⟨w.heap.size, 0, none⟩) 2 2)
  l1 : W.cell? ⟨w.heap.size + 1 + 1, 1, none⟩ = some (.slice (some ⟨w.heap.size + 1, 0, none⟩) 1 1)
  h : Ints W 0 (some ⟨w.heap.size, 0, none⟩) 2 begL.h
  l : Ints W 0 (some ⟨w.heap.size + 1, 0, none⟩) 1 begL.l
theorem hbW_is (w : World) : HbW w (hbW w) := by
  unfold hbW
  refine ⟨by go_grown, by simp, by go_simp, by go_simp, ?_, ?_⟩
  · refine ⟨by decide, by omega, by decide, fun _ => ⟨_, 0, rfl, Nat.zero_le _, by simp; omega, fun j u hu => ?_⟩⟩
    match j, hu with
    | 0, hu => simp [begL] at hu; subst hu; go_simp
    | 1, hu => simp [begL] at hu; subst hu; go_simp
    | j + 2, hu => simp [begL] at hu
  · refine ⟨by decide, by omega, by decide, fun _ => ⟨_, 0, rfl, Nat.zero_le _, by simp, fun j u hu => ?_⟩⟩
    match j, hu with
    | 0, hu => simp [begL] at hu; subst hu; go_simp
    | j + 1, hu => simp [begL] at hu
theorem HoldsBeg_ {fb V : Nat} {w : World} (hf : Nds w 0 (some ⟨fb, 0, none⟩) 3 untF) (hh : Ints w 0 (some ⟨V, 0, none⟩) 2 begL.h) (hl : Ints w 0 (some ⟨V + 1, 0, none⟩) 1 begL.l) :
    Calls Tryz.prog 24 #[.slice (some ⟨fb, 0, none⟩) 3 3, .agg #[.slice (some ⟨V, 0, none⟩) 2 2, .slice (some ⟨V + 1, 0, none⟩) 1 1]] w fun e w' => e = .returned (.tuple #[.bool true, .int .i64 0]) ∧ Below w.heap.size w w' := by
  have := Holds_ _ _ untF _ _ _ _ begL w hf hh hl
  rw [show holdsV untF begL = true by decide +kernel, untF_ck] at this
  exact this
theorem tabBeg_rd {w : World} {lo : Nat} {v : Value} {gs : List Nat} (h : TabAt w lo v [[true, false, false], [false, true, false], [true, true, false]] gs) :
    ∃ tb tq tc g, v = .slice (some ⟨tb, tq, none⟩) 3 tc ∧ 3 ≤ tc ∧ tc ≤ 9223372036854775807 ∧ w.cell? ⟨tb, tq + 2, none⟩ = some (.slice (some ⟨g, 0, none⟩) 3 3) ∧ w.cell? ⟨g, 0, none⟩ = some (.bool true) ∧ w.cell? ⟨g, 1, none⟩ = some (.bool true) ∧ w.cell? ⟨g, 2, none⟩ = some (.bool false) := by
  obtain ⟨A, c, hv, h1, h2, h3, _⟩ := own_form h.own
  have hl := h.len
  match gs, hl with
  | [g0, g1, g2], _ =>
    obtain ⟨b, off, hA, _, hb, hc⟩ := h3 (by simp)
    obtain ⟨h4, h5, h6⟩ := h.row 2 (by decide) (by simp)
    refine ⟨b, off, c, g2, by rw [hv, hA]; rfl, h1, h2, hc 2 _ rfl, (h4.cell (i := 0) (by decide)).1, (h4.cell (i := 1) (by decide)).1, (h4.cell (i := 2) (by decide)).1⟩
theorem TableBeg_ {fb V : Nat} {w : World} (hf : Nds w 0 (some ⟨fb, 0, none⟩) 3 untF) (hh : Ints w 0 (some ⟨V, 0, none⟩) 2 begL.h) (hl : Ints w 0 (some ⟨V + 1, 0, none⟩) 1 begL.l) :
    Calls Tryz.prog 58 #[.slice (some ⟨fb, 0, none⟩) 3 3, .agg #[.slice (some ⟨V, 0, none⟩) 2 2, .slice (some ⟨V + 1, 0, none⟩) 1 1]] w fun e w' =>
      ∃ tb tq tc g, e = .returned (.tuple #[.slice (some ⟨tb, tq, none⟩) 3 tc, .int .i64 0]) ∧ 3 ≤ tc ∧ tc ≤ 9223372036854775807 ∧ w'.cell? ⟨tb, tq + 2, none⟩ = some (.slice (some ⟨g, 0, none⟩) 3 3) ∧ w'.cell? ⟨g, 0, none⟩ = some (.bool true) ∧ w'.cell? ⟨g, 1, none⟩ = some (.bool true) ∧ w'.cell? ⟨g, 2, none⟩ = some (.bool false) ∧ Below w.heap.size w w' := by
  have := Table_ _ _ untF _ _ _ _ begL w hf hh hl
  refine Calls.mono this ?_
  rintro e w' ⟨hb, hp⟩
  rw [untF_ck, if_pos rfl, untF_tab] at hp
  obtain ⟨v, gs, rfl, ht⟩ := hp
  obtain ⟨tb, tq, tc, g, rfl, h1, h2, h3, h4, h5, h6⟩ := tabBeg_rd ht
  exact ⟨tb, tq, tc, g, rfl, h1, h2, h3, h4, h5, h6, hb⟩
set_option maxRecDepth 100000 in
set_option maxHeartbeats 1000000 in
theorem holdsBegun_ (w : World) : Calls Tryz.prog 21 #[] w fun e w' => e = .returned (.bool true) ∧ Below w.heap.size w w' := by
  have HW := Lib.hid (hbW_is w)
  go_enter Tryz.func21, Tryz.ntmps21
  go_wp2_with fail
  change Code.wp _ _ _ _ (hbW w)
  generalize hbW w = W0 at *
  obtain ⟨V, hV⟩ : ∃ V, V = w.heap.size := ⟨_, rfl⟩
  obtain ⟨X, hX⟩ : ∃ X, X = w.heap.size + 1 + 1 := ⟨_, rfl⟩
  have HWV : Hid (W0.cell? ⟨X, 0, none⟩ = some (.slice (some ⟨V, 0, none⟩) 2 2) ∧ W0.cell? ⟨X, 1, none⟩ = some (.slice (some ⟨V + 1, 0, none⟩) 1 1) ∧ X < W0.heap.size ∧ Ints W0 0 (some ⟨V, 0, none⟩) 2 begL.h ∧ Ints W0 0 (some ⟨V + 1, 0, none⟩) 1 begL.l) := by
    rw [hX, hV]
    exact ⟨HW.out.l0, HW.out.l1, by have := HW.out.size; omega, HW.out.h, HW.out.l⟩
  rw [← hX, ← hV]
  have HV := Lib.hid hV
  clear hX hV
  obtain ⟨x0, x1, x2, HI, HL⟩ := HWV.out
  have HIH := Lib.hid HI
  have HIL := Lib.hid HL
  clear HI HL
  go_region_held3 (fun w' => w'.cell? ⟨X, 0, none⟩ = some (.slice (some ⟨V, 0, none⟩) 2 2) ∧ w'.cell? ⟨X, 1, none⟩ = some (.slice (some ⟨V + 1, 0, none⟩) 1 1))
    (first | go_keep | exact ⟨q0, q1⟩)
    (first
      | (go_at_call 57; refine (until_ _).mono ?_; rintro e w3 ⟨fb, rfl, hf, hb3'⟩; have hb3 : Below W0.heap.size W0 w3 := (Below.refl _ W0).drew.trans hb3'; have x3 : X < w3.heap.size := by { have := hb3.size; omega }; have q0 := (cell_on hb3 x2).trans x0; have q1 := (cell_on hb3 x2).trans x1)
      | (go_at_call 24; refine (HoldsBeg_ (fb := fb) (V := V) (w := w3) hf (HIH.out.below hb3) (HIL.out.below hb3)).mono ?_; rintro e w4 ⟨rfl, hb4⟩; have q2 := (cell_on hb4 x3).trans q0; have q3 := (cell_on hb4 x3).trans q1; clear q0 q1; have q0 := q2; have q1 := q3))
  have y0 := q0
  have y1 := q1
  clear q0 q1 q2 q3 x0 x1 x2 hf hb3'
  have x4 : X < w4.heap.size := by have := hb4.size; omega
  have HIH4 := Lib.hid ((HIH.out.below hb3).below hb4)
  have HIL4 := Lib.hid ((HIL.out.below hb3).below hb4)
  have HB4 : Hid (Below V w w4) := by
    rw [HV.out]
    exact Below_on (Below_on HW.out.below hb3 HW.out.below.size) hb4 (by have := hb3.size; have := HW.out.size; omega)
  have hV4 : V < w4.heap.size := by have := HB4.out.size; have := HW.out.size; have := hb3.size; have := hb4.size; rw [HV.out]; omega
  clear hb3 hb4 x3
  go_wp2_with fail
  go_region_held3 (fun w' => w'.cell? ⟨X, 0, none⟩ = some (.slice (some ⟨V, 0, none⟩) 2 2) ∧ w'.cell? ⟨X, 1, none⟩ = some (.slice (some ⟨V + 1, 0, none⟩) 1 1))
    (first | go_keep | exact ⟨q0, q1⟩)
    (first
      | (go_at_call 57; refine (until_ _).mono ?_; rintro e w5 ⟨fb, rfl, hf, hb5'⟩; have hb5 : Below w4.heap.size w4 w5 := (Below.refl _ w4).drew.trans hb5'; have x5 : X < w5.heap.size := by { have := hb5.size; omega }; have q0 := (cell_on hb5 x4).trans y0; have q1 := (cell_on hb5 x4).trans y1)
      | (go_at_call 58; refine (TableBeg_ (fb := fb) (V := V) (w := w5) hf (HIH4.out.below hb5) (HIL4.out.below hb5)).mono ?_; rintro e w6 ⟨tb, tq, tc, g, rfl, t1, t2, t3, t4, t5, t6, hb6⟩; have q2 := (cell_on hb6 x5).trans q0; have q3 := (cell_on hb6 x5).trans q1; clear q0 q1; have q0 := q2; have q1 := q3))
  clear q0 q1 q2 q3 y0 y1 hf hb5'
  have HP : Hid (Below w.heap.size w w6) := by
    have := Below_on (Below_on HB4.out hb5 (by omega)) hb6 (by have := hb5.size; omega)
    rw [HV.out] at this
    exact this
  clear hb5 hb6
  go_wp2_with fail
  go_ret
  exact ⟨rfl, HP.out⟩
end Go.Proofs.YtoglgeaiiipchabGreatDoor
