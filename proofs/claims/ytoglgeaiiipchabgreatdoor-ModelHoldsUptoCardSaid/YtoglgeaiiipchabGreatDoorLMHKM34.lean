import Derived.Test.YtoglgeaiiipchabGreatDoorLMHKM23
import Derived.Laws.IdiomStrings
import Derived.Test.YtoglgeaiiipchabGreatDoorLMHKM33
set_option linter.unusedSimpArgs false
set_option linter.unusedVariables false
namespace Go.Proofs.YtoglgeaiiipchabGreatDoor
open Go Go.RowKit Go.Sort
theorem conv1 (w : World) (n : Int) : (convert 93 9 (.slice (some ⟨w.heap.size, 0, none⟩) 1 1)).run Tryz.prog (w.alloc (Obj.cells #[.int .u8 n] 5)) = .ok (.string (sb [UInt8.ofNat n.toNat])) (w.alloc (Obj.cells #[.int .u8 n] 5)) := by
  rw [run_convert_bytes_string _ 93 9 5 _ 1 1 Tryz.underlying93 Tryz.underlying5 Tryz.underlying9]
  have hl := run_loadCells_list (P := Tryz.prog) (w.alloc (Obj.cells #[.int .u8 n] 5)) ⟨w.heap.size, 0, none⟩ [Value.int .u8 n] (fun j v hj => by
    have hj' : j < 1 := by
      have := (List.getElem?_eq_some_iff.1 hj).1
      simpa using this
    obtain rfl : j = 0 := by omega
    simp at hj
    rw [Addr_add_off, ← hj]
    go_simp)
  rw [run_bytesToString _ _ 1 1 [n] hl]
  rfl
theorem conv2 {w : World} {g : Nat} {n : Int} (h : w.cell? ⟨g, 0, none⟩ = some (.int .u8 n)) : (convert 93 9 (.slice (some ⟨g, 0, none⟩) 1 1)).run Tryz.prog w = .ok (.string (sb [UInt8.ofNat n.toNat])) w := by
  rw [run_convert_bytes_string _ 93 9 5 _ 1 1 Tryz.underlying93 Tryz.underlying5 Tryz.underlying9]
  have hl := run_loadCells_list (P := Tryz.prog) w ⟨g, 0, none⟩ [Value.int .u8 n] (fun j v hj => by
    have hj' : j < 1 := by
      have := (List.getElem?_eq_some_iff.1 hj).1
      simpa using this
    obtain rfl : j = 0 := by omega
    simp at hj
    rw [Addr_add_off, ← hj, Nat.zero_add]
    exact h)
  rw [run_bytesToString _ _ 1 1 [n] hl]
  rfl
theorem cell_new (w : World) (v : Value) (t : TypeId) : (w.alloc (Obj.cells #[v] t)).cell? ⟨w.heap.size, 0, none⟩ = some v := by
  go_simp
theorem cell_newD (w : World) (v : Value) (t : TypeId) : (w.alloc (Obj.cells #[v] t)).drew.cell? ⟨w.heap.size, 0, none⟩ = some v := cell_new w v t
theorem conv1D (w : World) (n : Int) : (convert 93 9 (.slice (some ⟨w.heap.size, 0, none⟩) 1 1)).run Tryz.prog (w.alloc (Obj.cells #[.int .u8 n] 5)).drew = .ok (.string (sb [UInt8.ofNat n.toNat])) (w.alloc (Obj.cells #[.int .u8 n] 5)).drew := conv2 (cell_newD w _ _)
set_option maxRecDepth 100000 in
theorem DigitS_ (n : Nat) (hn : n ≤ 9) (w : World) : Calls Tryz.prog 17 #[.int .i64 n] w fun e w' => e = .returned (.string (sb (dgt n))) ∧ Below w.heap.size w w' := by
  have hcv := conv1
  go_enter Tryz.func17, Tryz.ntmps17
  have h : n = 0 ∨ n = 1 ∨ n = 2 ∨ n = 3 ∨ n = 4 ∨ n = 5 ∨ n = 6 ∨ n = 7 ∨ n = 8 ∨ n = 9 := by omega
  rcases h with rfl | rfl | rfl | rfl | rfl | rfl | rfl | rfl | rfl | rfl
  all_goals
    go_wp2_with fail
    go_ret
    exact ⟨by rfl, by go_grown⟩
set_option maxRecDepth 100000 in
set_option maxHeartbeats 8000000 in
theorem ShowOf_ (f : List Nd) (F : Option Addr) (fc : Nat) (w : World) (hf : Nds w 0 F fc f) (ho : FmOK f) : ∀ (i : Nat), i < f.length → ∀ W, Below w.heap.size w W →
    Calls Tryz.prog 98 #[.slice F f.length fc, .int .i64 i] W fun e w' => e = .returned (.string (sb (treeAt f i).show)) ∧ Below W.heap.size W w' := by
  intro i
  induction i using Nat.strongRecOn with
  | _ i ih =>
    intro hi W hW
    have HF := Lib.hid hf
    obtain ⟨b, o, rfl, _, _, q0, q1, q2, q3⟩ := Nds.at_ (hf.below hW) hi
    obtain ⟨x, hx⟩ : ∃ x, x = f[i] := ⟨_, rfl⟩
    rw [← hx] at q0 q1 q2 q3
    have HSZ : Hid (∀ j, j < i → (sb (treeAt f j).show).size ≤ 30000) := fun j hj => show_few ho (by omega)
    have hok := nd_ok (ho.nd i hi)
    rw [← hx] at hok
    have hfc := hf.le
    have HT : Hid (treeAt f i = treeN (treesOf f i) x) := treeAt_eq hi x hx.symm
    have HOK := Lib.hid hok
    have HW := Lib.hid hW
    have IH := Lib.hid ih
    have hk1 := hok.k1
    have hk8 := hok.k8
    clear hf hx hok hW ih ho
    obtain ⟨k, a, bb, n⟩ := x
    simp only at q0 q1 q2 q3 hk1 hk8
    have hcv := conv1
    have hcvD := conv1D
    go_enter Tryz.func98, Tryz.ntmps98
    have h : k = 1 ∨ k = 2 ∨ k = 3 ∨ k = 6 ∨ (k = 4 ∨ k = 5 ∨ k = 7 ∨ k = 8) := by omega
    rcases h with rfl | rfl | rfl | rfl | hk
    · have HP : Hid (Ending.returned (.string ⟨#[116, 114, 117, 101]⟩) = Ending.returned (.string (sb (treeAt f i).show))) := by show _ = _; rw [HT.out]; rfl
      go_wp2_with fail
      go_ret
      exact ⟨HP.out, by go_grown⟩
    · have hn := HOK.out.n rfl
      simp only at hn
      obtain ⟨N, rfl⟩ := Int.eq_ofNat_of_zero_le hn.1
      have HP : Hid (Ending.returned (.string (⟨#[112]⟩ ++ sb (dgt N))) = Ending.returned (.string (sb (treeAt f i).show))) := by
        show _ = _
        rw [HT.out, show (⟨#[112]⟩ : ByteArray) = sb [112] from rfl, sb_app]
        rfl
      have hN : N ≤ 9 := by omega
      go_wp2_with fail
      refine (DigitS_ N hN _).mono ?_
      rintro e w2 ⟨rfl, hb2⟩
      have HB2 := Lib.hid (Below_on ((Below.refl _ W).alloc (Nat.le_refl _) _) hb2 (by simp))
      clear hb2
      go_wp2_with fail
      go_ret
      exact ⟨HP.out, HB2.out⟩
    · have ha := HOK.out.a rfl
      simp only at ha
      obtain ⟨X, rfl⟩ := Int.eq_ofNat_of_zero_le ha.1
      have HP : Hid (Ending.returned (.string (⟨#[33]⟩ ++ sb (treeAt f X).show)) = Ending.returned (.string (sb (treeAt f i).show))) := by
        show _ = _
        rw [HT.out, show (⟨#[33]⟩ : ByteArray) = sb [33] from rfl, sb_app]
        show _ = Ending.returned (.string (sb (Fm.show (.no ((treesOf f i).getD ((X : Int)).toNat .tt)))))
        rw [kid ha]
        rfl
      have HC := Lib.hid (fun W2 h2 => IH.out X (by omega) (by omega) W2 h2)
      have hz := HSZ.out X (by omega)
      generalize sb (treeAt f X).show = S at *
      go_wp2_with fail
      refine (HC.out _ (Below_on HW.out ((Below.refl _ W).alloc (Nat.le_refl _) _) HW.out.size)).mono ?_
      rintro e w2 ⟨rfl, hb2⟩
      have HB2 := Lib.hid (Below_on ((Below.refl _ W).alloc (Nat.le_refl _) _) hb2 (by simp))
      clear hb2
      go_wp2_with fail
      go_ret
      exact ⟨HP.out, HB2.out⟩
    · have ha := HOK.out.a rfl
      simp only at ha
      obtain ⟨X, rfl⟩ := Int.eq_ofNat_of_zero_le ha.1
      have HP : Hid (Ending.returned (.string (⟨#[88]⟩ ++ sb (treeAt f X).show)) = Ending.returned (.string (sb (treeAt f i).show))) := by
        show _ = _
        rw [HT.out, show (⟨#[88]⟩ : ByteArray) = sb [88] from rfl, sb_app]
        show _ = Ending.returned (.string (sb (Fm.show (.nx ((treesOf f i).getD ((X : Int)).toNat .tt)))))
        rw [kid ha]
        rfl
      have HC := Lib.hid (fun W2 h2 => IH.out X (by omega) (by omega) W2 h2)
      have hz := HSZ.out X (by omega)
      generalize sb (treeAt f X).show = S at *
      go_wp2_with fail
      refine (HC.out _ (Below_on HW.out ((Below.refl _ W).alloc (Nat.le_refl _) _) HW.out.size)).mono ?_
      rintro e w2 ⟨rfl, hb2⟩
      have HB2 := Lib.hid (Below_on ((Below.refl _ W).alloc (Nat.le_refl _) _) hb2 (by simp))
      clear hb2
      go_wp2_with fail
      go_ret
      exact ⟨HP.out, HB2.out⟩
    · have ha := HOK.out.a (by rcases hk with rfl | rfl | rfl | rfl <;> rfl)
      have hb := HOK.out.b (by rcases hk with rfl | rfl | rfl | rfl <;> rfl)
      simp only at ha hb
      obtain ⟨X, rfl⟩ := Int.eq_ofNat_of_zero_le ha.1
      obtain ⟨Y, rfl⟩ := Int.eq_ofNat_of_zero_le hb.1
      have HP : Hid (Ending.returned (.string (⟨#[40]⟩ ++ sb (treeAt f X).show ++ ⟨#[32]⟩ ++ sb [sgn k] ++ ⟨#[32]⟩ ++ sb (treeAt f Y).show ++ ⟨#[41]⟩)) = Ending.returned (.string (sb (treeAt f i).show))) := by
        show _ = _
        rw [HT.out, show (⟨#[40]⟩ : ByteArray) = sb [40] from rfl, show (⟨#[32]⟩ : ByteArray) = sb [32] from rfl, show (⟨#[41]⟩ : ByteArray) = sb [41] from rfl]
        simp only [sb_app]
        unfold treeN
        simp only
        rw [if_neg (by omega), if_neg (by omega), if_neg (by omega), if_neg (by omega), kid ha, kid hb]
        simp [Fm.show]
      have HBA : Hid (Below W.heap.size W (W.alloc (Obj.cells #[.int .i64 k, .int .i64 (X : Int), .int .i64 (Y : Int), .int .i64 n] 90))) := (Below.refl _ W).alloc (Nat.le_refl _) _
      have HBX : Hid (∀ W2, Below (W.heap.size + 1) (W.alloc (Obj.cells #[.int .i64 k, .int .i64 (X : Int), .int .i64 (Y : Int), .int .i64 n] 90)) W2 → W2.cell? ⟨W.heap.size, 0, none⟩ = some (.int .i64 k) ∧ W2.cell? ⟨W.heap.size, 1, none⟩ = some (.int .i64 (X : Int)) ∧ W2.cell? ⟨W.heap.size, 2, none⟩ = some (.int .i64 (Y : Int))) := fun W2 h2 =>
        ⟨(h2.cell (p := ⟨W.heap.size, 0, none⟩) (Nat.lt_succ_self _)).trans (by go_simp), (h2.cell (p := ⟨W.heap.size, 1, none⟩) (Nat.lt_succ_self _)).trans (by go_simp), (h2.cell (p := ⟨W.heap.size, 2, none⟩) (Nat.lt_succ_self _)).trans (by go_simp)⟩
      have CX : Hid (∀ W2, Below (W.heap.size + 1) (W.alloc (Obj.cells #[.int .i64 k, .int .i64 (X : Int), .int .i64 (Y : Int), .int .i64 n] 90)) W2 → Calls Tryz.prog 98 #[.slice (some ⟨b, o, none⟩) f.length fc, .int .i64 (X : Int)] W2 fun e w' => e = .returned (.string (sb (treeAt f X).show)) ∧ Below W2.heap.size W2 w') := fun W2 h2 =>
        IH.out X (by omega) (by omega) W2 (Below_on HW.out (Below_on ((Below.refl _ W).alloc (Nat.le_refl _) _) h2 (by simp)) HW.out.size)
      have CY : Hid (∀ W2, Below (W.heap.size + 1) (W.alloc (Obj.cells #[.int .i64 k, .int .i64 (X : Int), .int .i64 (Y : Int), .int .i64 n] 90)) W2 → Calls Tryz.prog 98 #[.slice (some ⟨b, o, none⟩) f.length fc, .int .i64 (Y : Int)] W2 fun e w' => e = .returned (.string (sb (treeAt f Y).show)) ∧ Below W2.heap.size W2 w') := fun W2 h2 =>
        IH.out Y (by omega) (by omega) W2 (Below_on HW.out (Below_on ((Below.refl _ W).alloc (Nat.le_refl _) _) h2 (by simp)) HW.out.size)
      have hz1 := HSZ.out X (by omega)
      have hz2 := HSZ.out Y (by omega)
      have hz3 : ∀ c : UInt8, (sb [c]).size = 1 := fun c => by rw [sb_size]; rfl
      have k1 : (k == 1) = false := by simp; omega
      have k2 : (k == 2) = false := by simp; omega
      have k3 : (k == 3) = false := by simp; omega
      have k6 : (k == 6) = false := by simp; omega
      generalize sb (treeAt f X).show = S1 at *
      generalize sb (treeAt f Y).show = S2 at *
      go_upto_region 11 with fail
      obtain ⟨x0, x1, x2⟩ := HBX.out _ (Below.refl _ _)
      generalize W.alloc (Obj.cells #[.int .i64 k, .int .i64 (X : Int), .int .i64 (Y : Int), .int .i64 n] 90) = W1 at *
      obtain ⟨V, hVe⟩ : ∃ V, V = W.heap.size := ⟨_, rfl⟩
      have hV : V + 1 ≤ W1.heap.size := by have := World.block_lt_of_cell? W1 _ x0; simp at this; omega
      rw [← hVe] at x0 x1 x2 HBX CX CY
      rw [← hVe]
      have HVe := Lib.hid hVe
      clear hVe
      clear q0 q1 q2 q3
      have HQ : Hid (⟨#[40]⟩ ++ S1 ++ ⟨#[32]⟩ ++ sb [sgn k] ++ ⟨#[32]⟩ ++ S2 ++ ⟨#[41]⟩ = sb (treeAt f i).show) := by show _ = _; simpa using HP.out
      have c1 : ¬ 9223372036854775807 < 1 + S1.size := by omega
      have c2 : ¬ 9223372036854775807 < 1 + S1.size + 1 := by omega
      have c3 : ¬ 9223372036854775807 < 1 + S1.size + 1 + 1 := by omega
      have c4 : ¬ 9223372036854775807 < 1 + S1.size + 1 + 1 + 1 := by omega
      have c5 : ¬ 9223372036854775807 < 1 + S1.size + 1 + 1 + 1 + S2.size := by omega
      have c6 : ¬ 9223372036854775807 < 1 + S1.size + 1 + 1 + 1 + S2.size + 1 := by omega
      have d1 : IntKind.i64.wrap (k - 4) = k - 4 := IntWalk.i64_in _ (by omega)
      have d2 : 4 ≤ k := by omega
      have d3 : k - 4 < 5 := by omega
      have HS : Hid (∀ h : (k - 4).toNat < (⟨#[38, 124, 46, 85, 82]⟩ : ByteArray).size, sb [(⟨#[38, 124, 46, 85, 82]⟩ : ByteArray)[(k - 4).toNat]'h] = sb [sgn k]) := by
        intro h
        rcases hk with rfl | rfl | rfl | rfl <;> rfl
      have HR : Hid (∀ h : (k - 4).toNat < (⟨#[38, 124, 46, 85, 82]⟩ : ByteArray).size, Ending.returned (.string (⟨#[40]⟩ ++ S1 ++ ⟨#[32]⟩ ++ sb [(⟨#[38, 124, 46, 85, 82]⟩ : ByteArray)[(k - 4).toNat]'h] ++ ⟨#[32]⟩ ++ S2 ++ ⟨#[41]⟩)) = Ending.returned (.string (sb (treeAt f i).show))) := fun h => by rw [HS.out h, HQ.out]
      have d0 : (k - 4).toNat < 5 := by omega
      have HRR := Lib.hid (HR.out d0)
      clear HR
      have HVW : Hid (∀ W2, Below (V + 1) W1 W2 → Below W.heap.size W W2) := fun W2 h2 => Below_on HBA.out h2 (by rw [← HVe.out]; omega)
      clear hk1 hk8 HP k1 k2 k3 k6 hk hz1 hz2 hz3
      have hz3 : ∀ c : UInt8, (sb [c]).size = 1 := fun c => by rw [sb_size]; rfl
      refine wp_region_held_drew (S := fun w' => Below W1.heap.size W1 w') (by kernel_rfl) ((Below.refl _ _).drew) (fun hS0 => ?_)
      refine wpAnyH_take1 (i := 0) (v := ?_) rfl (by kernel_rfl) (by kernel_rfl) (by kernel_rfl) (fun _ _ _ h => h) (Or.inl ⟨by rfl, ?_⟩) hS0 ?_
      rotate_left
      · intro w hSw; obtain ⟨e0, e1, e2⟩ := HBX.out w (hSw.mono hV); go_simp; (try with_reducible rfl)
      simp only [Act.put, List.setIfInBounds_toArray, List.set_cons_zero, List.set_cons_succ]
      refine wpAnyH_take1 (i := 1) (v := ?_) rfl (by kernel_rfl) (by kernel_rfl) (by kernel_rfl) (fun _ _ _ h => h) (Or.inl ⟨by rfl, ?_⟩) hS0 ?_
      rotate_left
      · intro w hSw; obtain ⟨e0, e1, e2⟩ := HBX.out w (hSw.mono hV); go_simp; (try with_reducible rfl)
      simp only [Act.put, List.setIfInBounds_toArray, List.set_cons_zero, List.set_cons_succ]
      refine wpAnyH_take1 (i := 2) (v := ?_) rfl (by kernel_rfl) (by kernel_rfl) (by kernel_rfl) (fun _ _ _ h => h) (Or.inl ⟨by rfl, ?_⟩) hS0 ?_
      rotate_left
      · intro w hSw; obtain ⟨e0, e1, e2⟩ := HBX.out w (hSw.mono hV); go_simp; (try with_reducible rfl)
      simp only [Act.put, List.setIfInBounds_toArray, List.set_cons_zero, List.set_cons_succ]
      refine wpAnyH_take1 (i := 6) (v := ?_) rfl (by kernel_rfl) (by kernel_rfl) (by kernel_rfl) (fun _ _ _ h => h) (Or.inl ⟨by rfl, ?_⟩) hS0 ?_
      rotate_left
      · intro w hSw; obtain ⟨e0, e1, e2⟩ := HBX.out w (hSw.mono hV); go_simp; (try with_reducible rfl)
      simp only [Act.put, List.setIfInBounds_toArray, List.set_cons_zero, List.set_cons_succ]
      refine wpAnyH_take1 (i := 7) (v := ?_) rfl (by kernel_rfl) (by kernel_rfl) (by kernel_rfl) (fun _ _ _ h => h) (Or.inl ⟨by rfl, ?_⟩) hS0 ?_
      rotate_left
      · intro w hSw; obtain ⟨e0, e1, e2⟩ := HBX.out w (hSw.mono hV); go_simp; (try with_reducible rfl)
      simp only [Act.put, List.setIfInBounds_toArray, List.set_cons_zero, List.set_cons_succ]
      refine wpAnyH_take1 (i := 8) (v := ?_) rfl (by kernel_rfl) (by kernel_rfl) (by kernel_rfl) (fun _ _ _ h => h) (Or.inl ⟨by rfl, ?_⟩) hS0 ?_
      rotate_left
      · intro w hSw; obtain ⟨e0, e1, e2⟩ := HBX.out w (hSw.mono hV); go_simp; (try with_reducible rfl)
      simp only [Act.put, List.setIfInBounds_toArray, List.set_cons_zero, List.set_cons_succ]
      refine wpAnyH_take1 (i := 9) (v := ?_) rfl (by kernel_rfl) (by kernel_rfl) (by kernel_rfl) (fun _ _ _ h => h) (Or.inl ⟨by rfl, ?_⟩) hS0 ?_
      rotate_left
      · intro w hSw; obtain ⟨e0, e1, e2⟩ := HBX.out w (hSw.mono hV); go_simp; (try with_reducible rfl)
      simp only [Act.put, List.setIfInBounds_toArray, List.set_cons_zero, List.set_cons_succ]
      refine wpAnyH_take1 (i := 14) (v := ?_) rfl (by kernel_rfl) (by kernel_rfl) (by kernel_rfl) (fun _ _ _ h => h) (Or.inl ⟨by rfl, ?_⟩) hS0 ?_
      rotate_left
      · intro w hSw; obtain ⟨e0, e1, e2⟩ := HBX.out w (hSw.mono hV); go_simp; (try with_reducible rfl)
      simp only [Act.put, List.setIfInBounds_toArray, List.set_cons_zero, List.set_cons_succ]
      refine wpAnyH_take1 (i := 15) (v := ?_) rfl (by kernel_rfl) (by kernel_rfl) (by kernel_rfl) (fun _ _ _ h => h) (Or.inl ⟨by rfl, ?_⟩) hS0 ?_
      rotate_left
      · intro w hSw; obtain ⟨e0, e1, e2⟩ := HBX.out w (hSw.mono hV); go_simp; (try with_reducible rfl)
      simp only [Act.put, List.setIfInBounds_toArray, List.set_cons_zero, List.set_cons_succ]
      refine wpAnyH_take1 (i := 16) (v := ?_) rfl (by kernel_rfl) (by kernel_rfl) (by kernel_rfl) (fun _ _ _ h => h) (Or.inl ⟨by rfl, ?_⟩) hS0 ?_
      rotate_left
      · intro w hSw; obtain ⟨e0, e1, e2⟩ := HBX.out w (hSw.mono hV); go_simp; (try with_reducible rfl)
      simp only [Act.put, List.setIfInBounds_toArray, List.set_cons_zero, List.set_cons_succ]
      obtain ⟨F4, hE4⟩ : ∃ F, F = (⟨#[40]⟩ : ByteArray) ++ S1 := ⟨_, rfl⟩
      obtain ⟨F5, hE5⟩ : ∃ F, F = F4 ++ (⟨#[32]⟩ : ByteArray) := ⟨_, rfl⟩
      obtain ⟨F12, hE12⟩ : ∃ F, F = F5 ++ sb [sgn k] := ⟨_, rfl⟩
      obtain ⟨F13, hE13⟩ : ∃ F, F = F12 ++ (⟨#[32]⟩ : ByteArray) := ⟨_, rfl⟩
      obtain ⟨F18, hE18⟩ : ∃ F, F = F13 ++ S2 := ⟨_, rfl⟩
      obtain ⟨F19, hE19⟩ : ∃ F, F = F18 ++ (⟨#[41]⟩ : ByteArray) := ⟨_, rfl⟩
      have z3 := hz3 (sgn k)
      have z4 : F4.size = 1 + S1.size := by rw [hE4]; simp [ByteArray.size_append]; rfl
      have z5 : F5.size = F4.size + 1 := by rw [hE5]; simp [ByteArray.size_append]; rfl
      have z12 : F12.size = F5.size + 1 := by rw [hE12, ByteArray.size_append, z3]
      have z13 : F13.size = F12.size + 1 := by rw [hE13]; simp [ByteArray.size_append]; rfl
      have z18 : F18.size = F13.size + S2.size := by rw [hE18, ByteArray.size_append]
      have y4 : ¬ 9223372036854775807 < F4.size := by omega
      have y5 : ¬ 9223372036854775807 < F4.size + 1 := by omega
      have y12 : ¬ 9223372036854775807 < F5.size + (sb [sgn k]).size := by omega
      have y12' : ¬ 9223372036854775807 < F5.size + 1 := by omega
      have y13 : ¬ 9223372036854775807 < F12.size + 1 := by omega
      have y18 : ¬ 9223372036854775807 < F13.size + S2.size := by omega
      have y19 : ¬ 9223372036854775807 < F18.size + 1 := by omega
      have HFS : Hid (Ending.returned (.string F19) = Ending.returned (.string (sb (treeAt f i).show))) := by show _ = _; rw [← HQ.out, hE19, hE18, hE13, hE12, hE5, hE4]
      have HSX := Lib.hid (HS.out d0)
      have hF4 := Lib.hid hE4
      have hF5 := Lib.hid hE5
      have hF12 := Lib.hid hE12
      have hF13 := Lib.hid hE13
      have hF18 := Lib.hid hE18
      have hF19 := Lib.hid hE19
      clear hE4 hE5 hE12 hE13 hE18 hE19 z3 z4 z5 z12 z13 z18
      clear HS HRR HQ
      refine wpAnyH_free1 (fun i v w' => match i with
        | 3 => v = .string S1 | 4 => v = .string F4 | 5 => v = .string F5
        | 10 => ∃ g n, v = .slice (some ⟨g, 0, none⟩) 1 1 ∧ g < w'.heap.size ∧ w'.cell? ⟨g, 0, none⟩ = some (.int .u8 n) ∧ sb [UInt8.ofNat n.toNat] = sb [sgn k]
        | 11 => v = .string (sb [sgn k]) | 12 => v = .string F12 | 13 => v = .string F13 | 17 => v = .string S2 | 18 => v = .string F18 | 19 => v = .string F19 | 20 => v = .string F19 | _ => False)
        [3, 4, 5, 10, 11, 12, 13, 17, 18, 19, 20] (by kernel_rfl) (by decide) ?_ hS0 (fun vs => ?_)
      · intro j v w1 w2 hb hr
        split at hr <;> first | exact hr | exact hr.elim | skip
        obtain ⟨g, n, h1, h2, h3, h4⟩ := hr
        exact ⟨g, n, h1, Nat.lt_of_lt_of_le h2 hb.size, (hb.cell (p := ⟨g, 0, none⟩) h2).trans h3, h4⟩
      refine StepsF.cons1 rfl (fun w hw hd K hK => ?_) ?_
      · go_simp
        go_at_call 98
        refine (CX.out _ (hw.mono hV)).mono ?_
        rintro e wa ⟨rfl, hba⟩
        exact hK.out _ _ (hw.trans (hba.mono hw.size)) hba rfl
      simp only [Act.put, List.setIfInBounds_toArray, List.set_cons_zero, List.set_cons_succ]
      refine StepsF.cons1 rfl (fun w hw hd K hK => ?_) ?_
      · have h3 : vs 3 = _ := hd 3 (by decide) (by kernel_rfl)
        rw [h3] at hK ⊢
        go_simp
        refine hK.out _ _ hw (Below.refl _ _) ?_
        exact congrArg Value.string hF4.out.symm
      simp only [Act.put, List.setIfInBounds_toArray, List.set_cons_zero, List.set_cons_succ]
      refine StepsF.cons1 rfl (fun w hw hd K hK => ?_) ?_
      · have h4 : vs 4 = _ := hd 4 (by decide) (by kernel_rfl)
        rw [h4] at hK ⊢
        go_simp
        refine hK.out _ _ hw (Below.refl _ _) ?_
        exact congrArg Value.string hF5.out.symm
      simp only [Act.put, List.setIfInBounds_toArray, List.set_cons_zero, List.set_cons_succ]
      refine StepsF.cons1 rfl (fun w hw hd K hK => ?_) ?_
      · go_simp
        refine hK.out _ _ (hw.trans (((Below.refl _ w).alloc (Nat.le_refl _) _).mono hw.size)) ((Below.refl _ w).alloc (Nat.le_refl _) _) ⟨w.heap.size, _, rfl, by simp, cell_new _ _ _, ?_⟩
        rw [← HSX.out]; simp
      simp only [Act.put, List.setIfInBounds_toArray, List.set_cons_zero, List.set_cons_succ]
      refine StepsF.cons1 rfl (fun w hw hd K hK => ?_) ?_
      · obtain ⟨g, n, h1, h2, h3, h4⟩ := hd 10 (by decide) (by kernel_rfl)
        have hcv := conv2 h3
        rw [h4] at hcv
        rw [h1] at hK ⊢
        go_simp
        exact hK.out _ _ hw (Below.refl _ _) rfl
      simp only [Act.put, List.setIfInBounds_toArray, List.set_cons_zero, List.set_cons_succ]
      refine StepsF.cons1 rfl (fun w hw hd K hK => ?_) ?_
      · have h5 : vs 5 = _ := hd 5 (by decide) (by kernel_rfl)
        have h11 : vs 11 = _ := hd 11 (by decide) (by kernel_rfl)
        rw [h5, h11] at hK ⊢
        go_simp
        refine hK.out _ _ hw (Below.refl _ _) ?_
        exact congrArg Value.string hF12.out.symm
      simp only [Act.put, List.setIfInBounds_toArray, List.set_cons_zero, List.set_cons_succ]
      refine StepsF.cons1 rfl (fun w hw hd K hK => ?_) ?_
      · have h12 : vs 12 = _ := hd 12 (by decide) (by kernel_rfl)
        rw [h12] at hK ⊢
        go_simp
        refine hK.out _ _ hw (Below.refl _ _) ?_
        exact congrArg Value.string hF13.out.symm
      simp only [Act.put, List.setIfInBounds_toArray, List.set_cons_zero, List.set_cons_succ]
      refine StepsF.cons1 rfl (fun w hw hd K hK => ?_) ?_
      · go_simp
        go_at_call 98
        refine (CY.out _ (hw.mono hV)).mono ?_
        rintro e wa ⟨rfl, hba⟩
        exact hK.out _ _ (hw.trans (hba.mono hw.size)) hba rfl
      simp only [Act.put, List.setIfInBounds_toArray, List.set_cons_zero, List.set_cons_succ]
      refine StepsF.cons1 rfl (fun w hw hd K hK => ?_) ?_
      · have h13 : vs 13 = _ := hd 13 (by decide) (by kernel_rfl)
        have h17 : vs 17 = _ := hd 17 (by decide) (by kernel_rfl)
        rw [h13, h17] at hK ⊢
        go_simp
        refine hK.out _ _ hw (Below.refl _ _) ?_
        exact congrArg Value.string hF18.out.symm
      simp only [Act.put, List.setIfInBounds_toArray, List.set_cons_zero, List.set_cons_succ]
      refine StepsF.cons1 rfl (fun w hw hd K hK => ?_) ?_
      · have h18 : vs 18 = _ := hd 18 (by decide) (by kernel_rfl)
        rw [h18] at hK ⊢
        go_simp
        refine hK.out _ _ hw (Below.refl _ _) ?_
        exact congrArg Value.string hF19.out.symm
      simp only [Act.put, List.setIfInBounds_toArray, List.set_cons_zero, List.set_cons_succ]
      refine StepsF.cons1 rfl (fun w hw hd K hK => ?_) ?_
      · have h19 : vs 19 = _ := hd 19 (by decide) (by kernel_rfl)
        rw [h19] at hK ⊢
        go_simp
        exact hK.out _ _ hw (Below.refl _ _) rfl
      simp only [Act.put, List.setIfInBounds_toArray, List.set_cons_zero, List.set_cons_succ]
      intro w hw hR
      have h20 : vs 20 = _ := hR 20 (by decide)
      rw [h20]
      go_wp2_with fail
      go_ret
      exact ⟨HFS.out, HVW.out _ (hw.mono hV)⟩
end Go.Proofs.YtoglgeaiiipchabGreatDoor
