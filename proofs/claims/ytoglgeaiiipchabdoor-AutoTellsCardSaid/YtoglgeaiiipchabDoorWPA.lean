/- Walks: the reference's PrintAuto. -/
import Derived.Test.YtoglgeaiiipchabDoorWPt
import Derived.Test.YtoglgeaiiipchabDoorDg
namespace Go.Proofs.YtoglgeaiiipchabDoor
open Go Go.RowKit Go.Sort

theorem sp_len : ∀ (ns : List Int), (∀ n ∈ ns, 0 ≤ n ∧ n ≤ 999999) → (sp ns).length ≤ 7 * ns.length
  | [], _ => by simp [sp]
  | n :: ns, h => by
    have ih := sp_len ns fun m hm => h m (List.mem_cons_of_mem _ hm)
    have h1 := h n (by simp)
    have h2 := decDigits_len6 (n := n.toNat) (by omega)
    show (32 :: dn n ++ sp ns).length ≤ _
    simp [dn] at ih ⊢
    omega
theorem sp_snoc (ns : List Int) (n : Int) : sp (ns ++ [n]) = sp ns ++ 32 :: dn n := by simp [sp]
theorem dn_len {n : Int} (h : n ≤ 999999) : (dn n).length ≤ 6 := decDigits_len6 (n := n.toNat) (by omega)
set_option maxRecDepth 100000 in
set_option maxHeartbeats 4000000 in
theorem PrintAuto_ (a : Au) (A B C : Option Addr) (ca cb cc : Nat) (w : World) (hr : AuRd w 0 a A B C ca cb cc) (hc : ckA a = 0) :
    Calls Tryd.prog 9 #[.agg #[.int .i64 a.st, .int .i64 a.le, .slice A a.fs.length ca, .slice B a.gs.length cb, .slice C a.ss.length cc]] w fun e w' => e = .returned (.string (sB (printA a))) ∧ Below w.heap.size w w' := by
  have HW := Lib.hid (auW_is w a A B C ca cb cc)
  have HR := Lib.hid (hr.below HW.out.below)
  have l1 := hr.gs.max
  have l2 := hr.ss.max
  have l5 := hr.gs.le
  have l6 := hr.ss.le
  have ho := (ckA_zero.1 hc).1
  have HOK := Lib.hid ho
  have hfl : a.fs.length ≤ 300 := by
    have := sorted_few a.fs 0 a.st ho.fo (fun x hx => ho.fr x hx) (by have := ho.st1; omega)
    have := ho.st2
    omega
  have hgl : a.gs.length ≤ 300 := by have := ho.gl; have := ho.st2; omega
  have hsl := ho.sl
  have HFN : Hid (∀ n ∈ a.fs, 0 ≤ n ∧ n ≤ 999999) := fun n hn => by have := ho.fr n hn; have := ho.st2; omega
  have HSN : Hid (∀ s ∈ a.ss, (0 ≤ s.f ∧ s.f ≤ 999999) ∧ (0 ≤ s.l ∧ s.l ≤ 999999) ∧ (0 ≤ s.t ∧ s.t ≤ 999999)) := fun s hs => by
    have := ho.sr s hs; have := ho.st2; have := ho.le2; omega
  have hst := ho.st2
  have hst1 := ho.st1
  have hle1 := ho.le1
  have hle2 := ho.le2
  clear hr hc ho
  go_enter Tryd.func9, Tryd.ntmps9
  go_upto_region 1 with fail
  change Code.wp _ _ _ _ (auW w a A B C ca cb cc)
  generalize auW w a A B C ca cb cc = W0 at *
  have HA := Lib.hid HW.out.at
  have HBW : Hid (Below w.heap.size w W0) := HW.out.below
  obtain ⟨V, hV⟩ : ∃ V, V = w.heap.size := ⟨_, rfl⟩
  rw [← hV] at HA ⊢
  clear hV HW
  have HAT : Hid (∀ W, Below W0.heap.size W0 W → AuAt W V a A B C ca cb cc) := fun W h => HA.out.below h HA.out.lt
  obtain ⟨_, c0, c1, c2, c3, c4⟩ := HA.out
  go_cut [3] (fun s3 wx => s3 = .string (sB (line0 a ++ 10 :: bFirst)) ∧ Hid (Below W0.heap.size W0 wx))
  case first =>
    obtain ⟨S1, hS1⟩ : ∃ S, S = sB (dn a.st) := ⟨_, rfl⟩
    obtain ⟨S2, hS2⟩ : ∃ S, S = sB (dn a.le) := ⟨_, rfl⟩
    have z1 : S1.size ≤ 6 := by rw [hS1, sB_size]; exact dn_len (by omega)
    have z2 : S2.size ≤ 6 := by rw [hS2, sB_size]; exact dn_len (by omega)
    have y1 : ¬ 9223372036854775807 < 7 + S1.size := by omega
    have y2 : ¬ 9223372036854775807 < 7 + S1.size + 9 := by omega
    have y3 : ¬ 9223372036854775807 < 7 + S1.size + 9 + S2.size := by omega
    have y4 : ¬ 9223372036854775807 < 7 + S1.size + 9 + S2.size + 6 := by omega
    have C1 := Lib.hid (regrown_call (w := W0) fun W _ => Digits_ a.st (by omega) (by omega) W)
    have C2 := Lib.hid (regrown_call (w := W0) fun W _ => Digits_ a.le (by omega) (by omega) W)
    rw [← hS1] at C1
    rw [← hS2] at C2
    have HE : Hid ((⟨#[115, 116, 97, 116, 101, 115, 32]⟩ ++ S1 ++ ⟨#[32, 108, 101, 116, 116, 101, 114, 115, 32]⟩ ++ S2 ++ ⟨#[10, 102, 105, 114, 115, 116]⟩ : ByteArray) = sB (line0 a ++ 10 :: bFirst)) := by
      show _ = _
      rw [hS1, hS2, show (⟨#[115, 116, 97, 116, 101, 115, 32]⟩ : ByteArray) = sB (bStates ++ [32]) from rfl, show (⟨#[32, 108, 101, 116, 116, 101, 114, 115, 32]⟩ : ByteArray) = sB (32 :: bLetters ++ [32]) from rfl, show (⟨#[10, 102, 105, 114, 115, 116]⟩ : ByteArray) = sB (10 :: bFirst) from rfl]
      simp only [sB_app]
      congr 1
      simp [line0]
    have e0 := cell_regrown c0
    have e1 := cell_regrown c1
    clear hS1 hS2 z1 z2
    refine wp_region_quiet_below (by kernel_rfl) (by kernel_rfl) ?_
    repeat (go_big_quiet_step (first | with_reducible exact C1.out _ _ | with_reducible exact C2.out _ _))
    refine wpQuiet_nil ?_
    intro _ hw'
    obtain ⟨⟨dq, osq⟩, hw''⟩ := hw'
    subst hw''
    have HB4 := Lib.hid (regrown_on (Below.refl W0.heap.size W0) (Nat.le_refl _) dq osq)
    generalize grow (redrawn W0 dq) osq = w4 at *
    go_wp2_with fail
    go_meet
    exact ⟨congrArg Value.string HE.out, HB4.out⟩
  case rest =>
    obtain ⟨rfl, HB1⟩ := hcut
    clear c0 c1 c2 c3 c4
    obtain ⟨_, c0, c1, c2, c3, c4⟩ := HAT.out _ HB1.out
    have hl0 : (line0 a ++ 10 :: bFirst).length ≤ 100 := by
      have := dn_len (n := a.st) (by omega)
      have := dn_len (n := a.le) (by omega)
      simp [line0, bStates, bLetters, bFirst]; omega
    obtain ⟨t0, ht0⟩ : ∃ t, t = line0 a ++ 10 :: bFirst := ⟨_, rfl⟩
    rw [← ht0] at hl0 ⊢
    have HT0 := Lib.hid ht0
    clear ht0
    go_wp2_with fail
    go_loopw [3, 4] (fun s i wr => ∃ k : Nat, k ≤ a.fs.length ∧ i = .int .i64 (k : Int) ∧ s = .string (sB (t0 ++ sp (a.fs.take k))) ∧ Hid (Below W0.heap.size W0 wr)) (fun _ i _ => a.fs.length - (intOf i).toNat)
    case atStart => exact ⟨0, Nat.zero_le _, rfl, by simp [sp], HB1.out⟩
    case round =>
      obtain ⟨k, hk, rfl, rfl, HBR⟩ := hrel
      clear c0 c1 c2 c3 c4
      obtain ⟨_, c0, c1, c2, c3, c4⟩ := HAT.out _ HBR.out
      have hsl1 : (sp (a.fs.take k)).length ≤ 7 * 300 := by
        have := sp_len (a.fs.take k) fun n hn => HFN.out n (List.mem_of_mem_take hn)
        rw [List.length_take] at this
        omega
      by_cases hkl : k < a.fs.length
      · have q1 : (k : Int) < (a.fs.length : Int) := by omega
        obtain ⟨b1, o1, rfl, _, _, y0⟩ := Ints.at_ (HR.out.fs.below HBR.out) hkl
        have hn := HFN.out _ (List.getElem_mem hkl)
        have HG : Hid (t0 ++ sp (a.fs.take (k + 1)) = t0 ++ sp (a.fs.take k) ++ 32 :: dn a.fs[k]) := by
          show _ = _
          rw [List.take_succ_eq_append_getElem hkl, sp_snoc, List.append_assoc]
        have hle : a.fs.length ≤ ca := (HR.out.fs).le
        obtain ⟨n, hnn⟩ : ∃ n, n = a.fs[k] := ⟨_, rfl⟩
        rw [← hnn] at y0 hn HG
        clear hnn
        have C1 := Lib.hid (fun W => Digits_ n hn.1 hn.2 W)
        have hdl := dn_len hn.2
        have z2 : ¬ 9223372036854775807 < 1 + (sB (dn n)).size := by rw [sB_size]; omega
        have z3 : ¬ 9223372036854775807 < (sB (t0 ++ sp (a.fs.take k))).size + (1 + (sB (dn n)).size) := by rw [sB_size, sB_size, List.length_append]; omega
        have HE : Hid (sB (t0 ++ sp (a.fs.take k)) ++ (⟨#[32]⟩ ++ sB (dn n)) = sB (t0 ++ sp (a.fs.take (k + 1)))) := by
          show _ = _
          rw [HG.out, show (⟨#[32]⟩ : ByteArray) = sB [32] from rfl, sB_app, sB_app]
          rfl
        generalize sB (t0 ++ sp (a.fs.take k)) = T at *
        generalize sB (dn n) = S at *
        go_wp2_with fail
        refine (C1.out _).mono ?_
        rintro e w3 ⟨rfl, hb3⟩
        have HB3 := Lib.hid (Below_on HBR.out hb3 HBR.out.size)
        clear hb3
        go_wp2_with fail
        go_roundw
        case rel => exact ⟨k + 1, by omega, by go_num, congrArg Value.string HE.out, HB3.out⟩
        case measure => simp [intOf]; omega
      · have q1 : ¬ (k : Int) < (a.fs.length : Int) := by omega
        have hkk : a.fs.take k = a.fs := List.take_of_length_le (by omega)
        rw [hkk] at hsl1 ⊢
        clear hkk
        obtain ⟨t1, ht1⟩ : ∃ t, t = t0 ++ sp a.fs ++ 10 :: bGood := ⟨_, rfl⟩
        have hl1 : t1.length ≤ 2300 := by rw [ht1]; simp [bGood]; omega
        have z1 : ¬ 9223372036854775807 < (sB (t0 ++ sp a.fs)).size + 5 := by rw [sB_size, List.length_append]; omega
        have HE : Hid (sB (t0 ++ sp a.fs) ++ ⟨#[10, 103, 111, 111, 100]⟩ = sB t1) := by
          show _ = _
          rw [ht1, show (⟨#[10, 103, 111, 111, 100]⟩ : ByteArray) = sB (10 :: bGood) from rfl, sB_app]
        have HT1 := Lib.hid ht1
        clear ht1 hsl1 hl0
        generalize sB (t0 ++ sp a.fs) = T at *
        go_wp2_with fail
        rw [HE.out]
        go_loopw [3, 5] (fun s i wr => ∃ k : Nat, k ≤ a.gs.length ∧ i = .int .i64 (k : Int) ∧ s = .string (sB (t1 ++ sp (goodTo a.gs k))) ∧ Hid (Below W0.heap.size W0 wr)) (fun _ i _ => a.gs.length - (intOf i).toNat)
        case atStart => exact ⟨0, Nat.zero_le _, rfl, by simp [sp, goodTo], HBR.out⟩
        case round =>
          obtain ⟨k, hk, rfl, rfl, HBR2⟩ := hrel
          clear c0 c1 c2 c3 c4
          obtain ⟨_, c0, c1, c2, c3, c4⟩ := HAT.out _ HBR2.out
          have hgt := goodTo_len a.gs k
          have hsl1 : (sp (goodTo a.gs k)).length ≤ 7 * 300 := by
            have := sp_len (goodTo a.gs k) fun n hn => by have := goodTo_mem hn; omega
            omega
          by_cases hkl : k < a.gs.length
          · have q1 : (k : Int) < (a.gs.length : Int) := by omega
            obtain ⟨b1, o1, rfl, _, _, y0⟩ := Bools.at_ (HR.out.gs.below HBR2.out) (k := k) hkl
            have HG := Lib.hid (goodTo_succ a.gs k)
            rw [getD_lt hkl] at HG
            generalize a.gs[k]'hkl = x at *
            cases x with
            | true =>
              have C1 := Lib.hid (fun W => Digits_ (k : Int) (by omega) (by omega) W)
              have hdl := dn_len (n := (k : Int)) (by omega)
              have z2 : ¬ 9223372036854775807 < 1 + (sB (dn (k : Int))).size := by rw [sB_size]; omega
              have z3 : ¬ 9223372036854775807 < (sB (t1 ++ sp (goodTo a.gs k))).size + (1 + (sB (dn (k : Int))).size) := by rw [sB_size, sB_size, List.length_append]; omega
              have HE : Hid (sB (t1 ++ sp (goodTo a.gs k)) ++ (⟨#[32]⟩ ++ sB (dn (k : Int))) = sB (t1 ++ sp (goodTo a.gs (k + 1)))) := by
                show _ = _
                rw [HG.out, if_pos rfl, sp_snoc, show (⟨#[32]⟩ : ByteArray) = sB [32] from rfl, sB_app, sB_app, List.append_assoc]
                rfl
              generalize sB (t1 ++ sp (goodTo a.gs k)) = T at *
              generalize sB (dn (k : Int)) = S at *
              go_wp2_with fail
              refine (C1.out _).mono ?_
              rintro e w3 ⟨rfl, hb3⟩
              have HB3 := Lib.hid (Below_on HBR2.out hb3 HBR2.out.size)
              clear hb3
              go_wp2_with fail
              go_roundw
              case rel => exact ⟨k + 1, by omega, by go_num, congrArg Value.string HE.out, HB3.out⟩
              case measure => simp [intOf]; omega
            | false =>
              have HE : Hid (sB (t1 ++ sp (goodTo a.gs k)) = sB (t1 ++ sp (goodTo a.gs (k + 1)))) := by
                show _ = _
                rw [HG.out]; simp
              go_wp2_with fail
              go_roundw
              case rel => exact ⟨k + 1, by omega, by go_num, congrArg Value.string HE.out, HBR2.out⟩
              case measure => simp [intOf]; omega
          · have q1 : ¬ (k : Int) < (a.gs.length : Int) := by omega
            obtain rfl : k = a.gs.length := by omega
            obtain ⟨t2, ht2⟩ : ∃ t, t = t1 ++ sp (goodTo a.gs a.gs.length) ++ [10] := ⟨_, rfl⟩
            have hl2 : t2.length ≤ 5000 := by rw [ht2]; simp; omega
            have z1 : ¬ 9223372036854775807 < (sB (t1 ++ sp (goodTo a.gs a.gs.length))).size + 1 := by rw [sB_size, List.length_append]; omega
            have HE : Hid (sB (t1 ++ sp (goodTo a.gs a.gs.length)) ++ ⟨#[10]⟩ = sB t2) := by
              show _ = _
              rw [ht2, show (⟨#[10]⟩ : ByteArray) = sB [10] from rfl, sB_app]
            have HT2 := Lib.hid ht2
            clear ht2 hsl1 hl1
            generalize sB (t1 ++ sp (goodTo a.gs a.gs.length)) = T at *
            go_wp2_with fail
            rw [HE.out]
            go_loopw [3, 6, 7] (fun s i _ wr => ∃ k : Nat, k ≤ a.ss.length ∧ i = .int .i64 (k : Int) ∧ s = .string (sB (t2 ++ stepsT (a.ss.take k))) ∧ (stepsT (a.ss.take k)).length ≤ 21 * k ∧ Hid (Below W0.heap.size W0 wr)) (fun _ i _ _ => a.ss.length - (intOf i).toNat)
            case atStart => exact ⟨0, Nat.zero_le _, rfl, by simp [stepsT], by simp [stepsT], HBR2.out⟩
            case round =>
              obtain ⟨k, hk, rfl, rfl, hstl, HBR3⟩ := hrel
              clear c0 c1 c2 c3 c4
              obtain ⟨_, c0, c1, c2, c3, c4⟩ := HAT.out _ HBR3.out
              by_cases hkl : k < a.ss.length
              · have q2 : (k : Int) < (a.ss.length : Int) := by omega
                obtain ⟨b1, o1, rfl, _, _, y0, y1, y2⟩ := Stps.at_ (HR.out.ss.below HBR3.out) hkl
                have hsn := HSN.out _ (List.getElem_mem hkl)
                have HSS : Hid (t2 ++ stepsT (a.ss.take (k + 1)) = t2 ++ stepsT (a.ss.take k) ++ (stepX a.ss[k] ++ [10])) := by
                  show _ = _
                  unfold stepsT
                  rw [List.take_succ_eq_append_getElem hkl, List.flatMap_append]
                  simp
                have HSL : Hid (stepsT (a.ss.take (k + 1)) = stepsT (a.ss.take k) ++ (stepX a.ss[k] ++ [10])) := by
                  show _ = _
                  unfold stepsT
                  rw [List.take_succ_eq_append_getElem hkl, List.flatMap_append]
                  simp
                obtain ⟨s, hs⟩ : ∃ s, s = a.ss[k] := ⟨_, rfl⟩
                rw [← hs] at y0 y1 y2 HSS HSL hsn
                clear hs
                have d1 := dn_len hsn.1.2
                have d2 := dn_len hsn.2.1.2
                have d3 := dn_len hsn.2.2.2
                have HLEN : Hid ((stepsT (a.ss.take (k + 1))).length ≤ 21 * (k + 1)) := by
                  show _ ≤ _
                  rw [HSL.out]
                  simp [stepX]
                  omega
                have HG8 := Lib.hid (stW_is wr s)
                go_upto_region 17 with fail
                change Code.wp _ _ _ _ (stW wr s)
                have HB8 : Hid (Below W0.heap.size W0 (stW wr s)) := Below_on HBR3.out HG8.out.below HBR3.out.size
                generalize stW wr s = w8 at *
                obtain ⟨X, hX⟩ : ∃ X, X = wr.heap.size := ⟨_, rfl⟩
                rw [← hX] at HG8 ⊢
                have x0 := HG8.out.c0
                have x1 := HG8.out.c1
                have x2 := HG8.out.c2
                obtain ⟨S1, hS1⟩ : ∃ S, S = sB (dn s.f) := ⟨_, rfl⟩
                obtain ⟨S2, hS2⟩ : ∃ S, S = sB (dn s.l) := ⟨_, rfl⟩
                obtain ⟨S3, hS3⟩ : ∃ S, S = sB (dn s.t) := ⟨_, rfl⟩
                obtain ⟨T, hT⟩ : ∃ T, T = sB (t2 ++ stepsT (a.ss.take k)) := ⟨_, rfl⟩
                have z1 : S1.size ≤ 6 := by rw [hS1, sB_size]; exact d1
                have z2 : S2.size ≤ 6 := by rw [hS2, sB_size]; exact d2
                have z3 : S3.size ≤ 6 := by rw [hS3, sB_size]; exact d3
                have z4 : T.size ≤ 200000 := by rw [hT, sB_size, List.length_append]; omega
                have C1 := Lib.hid (regrown_call (w := w8) fun W _ => Digits_ s.f hsn.1.1 hsn.1.2 W)
                have C2 := Lib.hid (regrown_call (w := w8) fun W _ => Digits_ s.l hsn.2.1.1 hsn.2.1.2 W)
                have C3 := Lib.hid (regrown_call (w := w8) fun W _ => Digits_ s.t hsn.2.2.1 hsn.2.2.2 W)
                rw [← hS1] at C1
                rw [← hS2] at C2
                rw [← hS3] at C3
                have HE : Hid (T ++ (S1 ++ ⟨#[32]⟩ ++ S2 ++ ⟨#[32]⟩ ++ S3 ++ ⟨#[10]⟩) = sB (t2 ++ stepsT (a.ss.take (k + 1)))) := by
                  show _ = _
                  rw [HSS.out, hS1, hS2, hS3, hT, show (⟨#[32]⟩ : ByteArray) = sB [32] from rfl, show (⟨#[10]⟩ : ByteArray) = sB [10] from rfl]
                  simp only [sB_app]
                  congr 1
                  simp [stepX]
                rw [← hT]
                have v1 : ¬ 9223372036854775807 < S1.size + 1 := by omega
                have v2 : ¬ 9223372036854775807 < S1.size + 1 + S2.size := by omega
                have v3 : ¬ 9223372036854775807 < S1.size + 1 + S2.size + 1 := by omega
                have v4 : ¬ 9223372036854775807 < S1.size + 1 + S2.size + 1 + S3.size := by omega
                have v5 : ¬ 9223372036854775807 < S1.size + 1 + S2.size + 1 + S3.size + 1 := by omega
                have v6 : ¬ 9223372036854775807 < T.size + (S1.size + 1 + S2.size + 1 + S3.size + 1) := by omega
                have f0 := cell_regrown x0
                have f1 := cell_regrown x1
                have f2 := cell_regrown x2
                clear hS1 hS2 hS3 hT z1 z2 z3 z4 d1 d2 d3 HG8 hX y0 y1 y2 hsn
                refine wp_region_quiet_below (by kernel_rfl) (by kernel_rfl) ?_
                repeat (go_big_quiet_step (first | with_reducible exact C1.out _ _ | with_reducible exact C2.out _ _ | with_reducible exact C3.out _ _))
                refine wpQuiet_nil ?_
                intro _ hw'
                obtain ⟨⟨dq, osq⟩, hw''⟩ := hw'
                subst hw''
                have HB4 := Lib.hid (regrown_on HB8.out HB8.out.size dq osq)
                generalize grow (redrawn w8 dq) osq = w4 at *
                clear f0 f1 f2 x0 x1 x2
                go_wp2_with fail
                go_roundw
                case rel => exact ⟨k + 1, by omega, by go_num, congrArg Value.string HE.out, HLEN.out, HB4.out⟩
                case measure => simp [intOf]; omega
              · have q2 : ¬ (k : Int) < (a.ss.length : Int) := by omega
                have hkk : a.ss.take k = a.ss := List.take_of_length_le (by omega)
                rw [hkk]
                have HF : Hid (t2 ++ stepsT a.ss = printA a) := by
                  show _ = _
                  rw [HT2.out, HT1.out, HT0.out, show goodTo a.gs a.gs.length = goodIdx a.gs from rfl]
                  simp [printA, line1, line2]
                have HBE := Lib.hid (Below_on HBW.out HBR3.out HBW.out.size)
                clear hkk
                go_wp2_with fail
                go_ret
                exact ⟨by rw [← HF.out]; rfl, HBE.out⟩
end Go.Proofs.YtoglgeaiiipchabDoor
