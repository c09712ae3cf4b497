/- Walks: formula.show. -/
import Derived.Test.YtoglgeaiiipchaaDoorWSw
import Derived.Test.YtoglgeaiiipchaaDoorWF
import Derived.Deep.RegionLaw
import Derived.Deep.CutBlock
import Derived.Deep.DeepCutAuto
namespace Go.Proofs.YtoglgeaiiipchaaDoor
open Go Go.RowKit Go.Sort

structure NdOk (x : Nd) (i : Int) : Prop where
  k1 : 1 ≤ x.k
  k8 : x.k ≤ 8
  a : nmA x.k = true → 0 ≤ x.a ∧ x.a < i
  b : nmB x.k = true → 0 ≤ x.b ∧ x.b < i
  n : x.k = 2 → 0 ≤ x.n ∧ x.n ≤ 2
theorem nd_ok {x : Nd} {i : Int} (h : ndErr x i = 0) : NdOk x i := by
  unfold ndErr at h
  split at h
  · cases h
  · rename_i h1
    split at h
    · cases h
    · rename_i h2
      split at h
      · cases h
      · rename_i h3
        simp only [Bool.not_eq_false, btw_iff] at h1
        refine ⟨h1.1, h1.2, fun hA => ?_, fun hB => ?_, fun hN => ?_⟩
        · have : btw x.a 0 (i - 1) = true := by
            cases hb : btw x.a 0 (i - 1) with
            | true => rfl
            | false => exact absurd (by simp [hA, hb]) h2
          have := (btw_iff _ _ _).1 this
          omega
        · have : btw x.b 0 (i - 1) = true := by
            cases hb : btw x.b 0 (i - 1) with
            | true => rfl
            | false => exact absurd (by simp [hB, hb]) h2
          have := (btw_iff _ _ _).1 this
          omega
        · have : btw x.n 0 2 = true := by
            cases hb : btw x.n 0 2 with
            | true => rfl
            | false => exact absurd (by simp [nmN, hN, hb]) h3
          have := (btw_iff _ _ _).1 this
          omega
theorem treeAt_eq {f : List Nd} {i : Nat} (h : i < f.length) (x : Nd) (hx : f[i] = x) : treeAt f i = treeN (treesOf f i) x := by
  unfold treeAt
  rw [List.getD_eq_getElem?_getD, List.getElem?_eq_getElem h, hx]
  rfl
theorem kid {f : List Nd} {i : Nat} {a : Int} (h : 0 ≤ a ∧ a < i) : (treesOf f i).getD a.toNat .tt = treeAt f a.toNat := treesOf_get f i _ (by omega)
theorem show_len {f : List Nd} (ho : FmOK f) : ∀ (i : Nat), i < f.length → (treeAt f i).show.length + 5 ≤ 6 * 2 ^ (i + 1) := by
  intro i
  induction i using Nat.strongRecOn with
  | _ i ih =>
    intro hi
    have hok := nd_ok (ho.nd i hi)
    rw [treeAt_eq hi _ rfl]
    generalize f[i] = x at *
    obtain ⟨h1, h8, ha, hb, hn⟩ := hok
    have mono : ∀ j, j < i → 2 ^ (j + 1) ≤ 2 ^ i := fun j hj => Nat.pow_le_pow_right (by decide) hj
    have e2 : 2 ^ (i + 1) = 2 * 2 ^ i := by rw [Nat.pow_succ, Nat.mul_comm]
    have h0 : 1 ≤ 2 ^ i := Nat.one_le_two_pow
    unfold treeN
    split
    · simp [Fm.show]; omega
    · split
      · simp [Fm.show]; omega
      · split
        · rename_i hk
          have hA := ha (by rw [hk]; decide)
          rw [kid hA]
          have h3 := ih x.a.toNat (by omega) (by omega)
          have h4 := mono x.a.toNat (by omega)
          simp only [Fm.show, List.length_cons]
          omega
        · split
          · rename_i hk
            have hA := ha (by rw [hk]; decide)
            rw [kid hA]
            have h3 := ih x.a.toNat (by omega) (by omega)
            have h4 := mono x.a.toNat (by omega)
            simp only [Fm.show, List.length_cons]
            omega
          · rename_i k1 k2 k3 k6
            have hk : x.k = 4 ∨ x.k = 5 ∨ x.k = 7 ∨ x.k = 8 := by omega
            have hA := ha (by rcases hk with h | h | h | h <;> rw [h] <;> decide)
            have hB := hb (by rcases hk with h | h | h | h <;> rw [h] <;> decide)
            rw [kid hA, kid hB]
            have h3 := ih x.a.toNat (by omega) (by omega)
            have h4 := mono x.a.toNat (by omega)
            have h5 := ih x.b.toNat (by omega) (by omega)
            have h6 := mono x.b.toNat (by omega)
            simp only [Fm.show, List.length_cons, List.length_append, List.length_nil]
            omega
theorem show_few {f : List Nd} (ho : FmOK f) {i : Nat} (hi : i < f.length) : (sb (treeAt f i).show).size ≤ 30000 := by
  have h1 := show_len ho i hi
  have h2 : f.length ≤ 12 := by
    have := ho.few
    unfold tooMany at this
    simp only [Bool.or_eq_false_iff, decide_eq_false_iff_not] at this
    omega
  have h3 : 2 ^ (i + 1) ≤ 2 ^ 12 := Nat.pow_le_pow_right (by decide) (by omega)
  rw [sb_size]
  have : (2 : Nat) ^ 12 = 4096 := by decide
  omega
set_option maxRecDepth 100000 in
set_option maxHeartbeats 1000000 in
theorem show_ (f : List Nd) (F : Option Addr) (fc : Nat) (w : World) (hf : Nds w 0 F fc f) (ho : FmOK f) : ∀ (i : Nat), i < f.length → ∀ W, Below w.heap.size w W →
    Calls Tryd.prog 20 #[.slice F f.length fc, .int .i64 i] W fun e w' => e = .returned (.string (sb (treeAt f i).show)) ∧ Below W.heap.size W w' := by
  intro i
  induction i using Nat.strongRecOn with
  | _ i ih =>
    intro hi W hW
    have HF := Lib.hid hf
    obtain ⟨b, o, rfl, _, _, q0, q1, q2, q3⟩ := Nds.at_ (hf.below hW) hi
    obtain ⟨x, hx⟩ : ∃ x, x = f[i] := ⟨_, rfl⟩
    rw [← hx] at q0 q1 q2 q3
    have HSZ : Hid (∀ j, j < i → (sb (treeAt f j).show).size ≤ 30000) := fun j hj => show_few ho (by omega)
    have hok := nd_ok (ho.nd i hi)
    rw [← hx] at hok
    have hfc := hf.le
    have HT : Hid (treeAt f i = treeN (treesOf f i) x) := treeAt_eq hi x hx.symm
    have HOK := Lib.hid hok
    have HW := Lib.hid hW
    have IH := Lib.hid ih
    have hk1 := hok.k1
    have hk8 := hok.k8
    clear hf hx hok hW ih ho
    obtain ⟨k, a, bb, n⟩ := x
    simp only at q0 q1 q2 q3 hk1 hk8
    go_enter Tryd.func20, Tryd.ntmps20
    have h : k = 1 ∨ k = 2 ∨ k = 3 ∨ k = 6 ∨ (k = 4 ∨ k = 5 ∨ k = 7 ∨ k = 8) := by omega
    rcases h with rfl | rfl | rfl | rfl | hk
    · have HP : Hid (Ending.returned (.string ⟨#[116, 114, 117, 101]⟩) = Ending.returned (.string (sb (treeAt f i).show))) := by show _ = _; rw [HT.out]; rfl
      go_wp2_with fail
      go_ret
      exact ⟨HP.out, by go_grown⟩
    · have hn := HOK.out.n rfl
      simp only at hn
      obtain ⟨N, rfl⟩ := Int.eq_ofNat_of_zero_le hn.1
      have HP : Hid (Ending.returned (.string (⟨#[112]⟩ ++ sb (dgt N))) = Ending.returned (.string (sb (treeAt f i).show))) := by
        show _ = _
        rw [HT.out, show (⟨#[112]⟩ : ByteArray) = sb [112] from rfl, sb_app]
        rfl
      have hN : N ≤ 9 := by omega
      go_wp2_with fail
      refine (Itoa_ N hN _).mono ?_
      rintro e w2 ⟨rfl, hb2⟩
      have HB2 := Lib.hid (Below_on ((Below.refl _ W).alloc (Nat.le_refl _) _) hb2 (by simp))
      clear hb2
      go_wp2_with fail
      go_ret
      exact ⟨HP.out, HB2.out⟩
    · have ha := HOK.out.a rfl
      simp only at ha
      obtain ⟨X, rfl⟩ := Int.eq_ofNat_of_zero_le ha.1
      have HP : Hid (Ending.returned (.string (⟨#[33]⟩ ++ sb (treeAt f X).show)) = Ending.returned (.string (sb (treeAt f i).show))) := by
        show _ = _
        rw [HT.out, show (⟨#[33]⟩ : ByteArray) = sb [33] from rfl, sb_app]
        show _ = Ending.returned (.string (sb (Fm.show (.no ((treesOf f i).getD ((X : Int)).toNat .tt)))))
        rw [kid ha]
        rfl
      have HC := Lib.hid (fun W2 h2 => IH.out X (by omega) (by omega) W2 h2)
      have hz := HSZ.out X (by omega)
      generalize sb (treeAt f X).show = S at *
      go_wp2_with fail
      refine (HC.out _ (Below_on HW.out ((Below.refl _ W).alloc (Nat.le_refl _) _) HW.out.size)).mono ?_
      rintro e w2 ⟨rfl, hb2⟩
      have HB2 := Lib.hid (Below_on ((Below.refl _ W).alloc (Nat.le_refl _) _) hb2 (by simp))
      clear hb2
      go_wp2_with fail
      go_ret
      exact ⟨HP.out, HB2.out⟩
    · have ha := HOK.out.a rfl
      simp only at ha
      obtain ⟨X, rfl⟩ := Int.eq_ofNat_of_zero_le ha.1
      have HP : Hid (Ending.returned (.string (⟨#[88]⟩ ++ sb (treeAt f X).show)) = Ending.returned (.string (sb (treeAt f i).show))) := by
        show _ = _
        rw [HT.out, show (⟨#[88]⟩ : ByteArray) = sb [88] from rfl, sb_app]
        show _ = Ending.returned (.string (sb (Fm.show (.nx ((treesOf f i).getD ((X : Int)).toNat .tt)))))
        rw [kid ha]
        rfl
      have HC := Lib.hid (fun W2 h2 => IH.out X (by omega) (by omega) W2 h2)
      have hz := HSZ.out X (by omega)
      generalize sb (treeAt f X).show = S at *
      go_wp2_with fail
      refine (HC.out _ (Below_on HW.out ((Below.refl _ W).alloc (Nat.le_refl _) _) HW.out.size)).mono ?_
      rintro e w2 ⟨rfl, hb2⟩
      have HB2 := Lib.hid (Below_on ((Below.refl _ W).alloc (Nat.le_refl _) _) hb2 (by simp))
      clear hb2
      go_wp2_with fail
      go_ret
      exact ⟨HP.out, HB2.out⟩
    · have ha := HOK.out.a (by rcases hk with rfl | rfl | rfl | rfl <;> rfl)
      have hb := HOK.out.b (by rcases hk with rfl | rfl | rfl | rfl <;> rfl)
      simp only at ha hb
      obtain ⟨X, rfl⟩ := Int.eq_ofNat_of_zero_le ha.1
      obtain ⟨Y, rfl⟩ := Int.eq_ofNat_of_zero_le hb.1
      have HP : Hid (Ending.returned (.string (⟨#[40]⟩ ++ sb (treeAt f X).show ++ ⟨#[32]⟩ ++ sb [sgn k] ++ ⟨#[32]⟩ ++ sb (treeAt f Y).show ++ ⟨#[41]⟩)) = Ending.returned (.string (sb (treeAt f i).show))) := by
        show _ = _
        rw [HT.out, show (⟨#[40]⟩ : ByteArray) = sb [40] from rfl, show (⟨#[32]⟩ : ByteArray) = sb [32] from rfl, show (⟨#[41]⟩ : ByteArray) = sb [41] from rfl]
        simp only [sb_app]
        unfold treeN
        simp only
        rw [if_neg (by omega), if_neg (by omega), if_neg (by omega), if_neg (by omega), kid ha, kid hb]
        simp [Fm.show]
      have CX := Lib.hid (regrown_call (w := W.alloc (Obj.cells #[.int .i64 k, .int .i64 (X : Int), .int .i64 (Y : Int), .int .i64 n] 45)) fun W2 h2 => IH.out X (by omega) (by omega) W2 (Below_on HW.out (Below_on ((Below.refl _ W).alloc (Nat.le_refl _) _) h2 (by simp)) HW.out.size))
      have CY := Lib.hid (regrown_call (w := W.alloc (Obj.cells #[.int .i64 k, .int .i64 (X : Int), .int .i64 (Y : Int), .int .i64 n] 45)) fun W2 h2 => IH.out Y (by omega) (by omega) W2 (Below_on HW.out (Below_on ((Below.refl _ W).alloc (Nat.le_refl _) _) h2 (by simp)) HW.out.size))
      have CS := Lib.hid (regrown_call (w := W.alloc (Obj.cells #[.int .i64 k, .int .i64 (X : Int), .int .i64 (Y : Int), .int .i64 n] 45)) fun W2 h2 => sign_ k hk W2)
      have HBA : Hid (Below W.heap.size W (W.alloc (Obj.cells #[.int .i64 k, .int .i64 (X : Int), .int .i64 (Y : Int), .int .i64 n] 45))) := (Below.refl _ W).alloc (Nat.le_refl _) _
      have hz1 := HSZ.out X (by omega)
      have hz2 := HSZ.out Y (by omega)
      have hz3 : (sb [sgn k]).size = 1 := by rw [sb_size]; rfl
      have k1 : (k == 1) = false := by simp; omega
      have k2 : (k == 2) = false := by simp; omega
      have k3 : (k == 3) = false := by simp; omega
      have k6 : (k == 6) = false := by simp; omega
      generalize sb (treeAt f X).show = S1 at *
      generalize sb (treeAt f Y).show = S2 at *
      generalize sb [sgn k] = S3 at *
      clear hk
      go_upto_region 11 with fail
      have e0 := cell_regrown (w := W.alloc (Obj.cells #[.int .i64 k, .int .i64 (X : Int), .int .i64 (Y : Int), .int .i64 n] 45)) (a := ⟨W.heap.size, 0, none⟩) (v := .int .i64 k) (by go_simp)
      have e1 := cell_regrown (w := W.alloc (Obj.cells #[.int .i64 k, .int .i64 (X : Int), .int .i64 (Y : Int), .int .i64 n] 45)) (a := ⟨W.heap.size, 1, none⟩) (v := .int .i64 (X : Int)) (by go_simp)
      have e2 := cell_regrown (w := W.alloc (Obj.cells #[.int .i64 k, .int .i64 (X : Int), .int .i64 (Y : Int), .int .i64 n] 45)) (a := ⟨W.heap.size, 2, none⟩) (v := .int .i64 (Y : Int)) (by go_simp)
      generalize W.alloc (Obj.cells #[.int .i64 k, .int .i64 (X : Int), .int .i64 (Y : Int), .int .i64 n] 45) = W1 at *
      refine wp_region_quiet_below (by kernel_rfl) (by kernel_rfl) ?_
      repeat (go_big_quiet_step (first | with_reducible exact CX.out _ _ | with_reducible exact CS.out _ _ | with_reducible exact CY.out _ _))
      refine wpQuiet_nil ?_
      intro _ hw'
      obtain ⟨⟨dq, osq⟩, hw''⟩ := hw'
      subst hw''
      have HB4 := Lib.hid (regrown_on HBA.out HBA.out.size dq osq)
      clear e0 e1 e2 q0 q1 q2 q3 CX CY CS
      generalize grow (redrawn W1 dq) osq = w4 at *
      go_wp2_with fail
      go_ret
      exact ⟨HP.out, HB4.out⟩
end Go.Proofs.YtoglgeaiiipchaaDoor
