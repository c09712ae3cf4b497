/- Walks: the reference's TrimOf. -/
import Derived.Test.YtoglgeaiiipchabDoorTfM
import Derived.Test.YtoglgeaiiipchabDoorWTm
import Derived.Test.YtoglgeaiiipchabDoorHZ
namespace Go.Proofs.YtoglgeaiiipchabDoor
open Go Go.RowKit Go.Sort

set_option maxRecDepth 100000 in
set_option maxHeartbeats 8000000 in
theorem TrimOf_ (a : Au) (A B C : Option Addr) (ca cb cc : Nat) (w : World) (hr : AuRd w 0 a A B C ca cb cc) (hck : ckA a = 0) :
    Calls Tryd.prog 10 #[.agg #[.int .i64 a.st, .int .i64 a.le, .slice A a.fs.length ca, .slice B a.gs.length cb, .slice C a.ss.length cc]] w (MdPost w (trimV a)) := by
  have ho := (ckA_zero.1 hck).1
  obtain ⟨N, hN⟩ := Int.eq_ofNat_of_zero_le (show 0 ≤ a.st by have := ho.st1; omega)
  have hN3 : N ≤ 300 := by have := ho.st2; omega
  have hmk := run_makeBools a.st N hN.symm (by omega)
  have hmi := run_makeInts a.st N hN.symm (by omega)
  have HN := Lib.hid hN
  have HO := Lib.hid ho
  have HCK := Lib.hid hck
  have HFL := Lib.hid ho.fs_le
  have HW := auW_is w a A B C ca cb cc
  have hb0 : Below w.heap.size w ((auW w a A B C ca cb cc).alloc (Obj.cells #[.int .i64 0, .int .i64 0, .slice none 0 0, .slice none 0 0, .slice none 0 0] 26)) := HW.below.alloc (by rw [HW.size]; omega) _
  have HV0 : AuAt ((auW w a A B C ca cb cc).alloc (Obj.cells #[.int .i64 0, .int .i64 0, .slice none 0 0, .slice none 0 0, .slice none 0 0] 26)) w.heap.size a A B C ca cb cc := HW.at.below ((Below.refl _ _).alloc (Nat.le_refl _) _) (by rw [HW.size]; omega)
  have hobj : ((auW w a A B C ca cb cc).alloc (Obj.cells #[.int .i64 0, .int .i64 0, .slice none 0 0, .slice none 0 0, .slice none 0 0] 26)).heap[w.heap.size + 1]? = some (.cells #[.int .i64 0, .int .i64 0, .slice none 0 0, .slice none 0 0, .slice none 0 0] 26 (0, 0)) := by
    rw [← HW.size]
    show ((auW w a A B C ca cb cc).heap.push _)[(auW w a A B C ca cb cc).heap.size]? = _
    simp
  have hsz : ((auW w a A B C ca cb cc).alloc (Obj.cells #[.int .i64 0, .int .i64 0, .slice none 0 0, .slice none 0 0, .slice none 0 0] 26)).heap.size = w.heap.size + 1 + 1 := by simp [HW.size]
  clear HW hN ho hck
  unfold auW at hb0 HV0 hobj hsz
  go_enter Tryd.func10, Tryd.ntmps10
  go_upto_region 1 with fail
  obtain ⟨V, hV⟩ : ∃ V, V = w.heap.size := ⟨_, rfl⟩
  rw [← hV] at HV0 hobj hsz ⊢
  generalize (w.alloc (Obj.cells #[.int .i64 a.st, .int .i64 a.le, .slice A a.fs.length ca, .slice B a.gs.length cb, .slice C a.ss.length cc] 26)).alloc (Obj.cells #[.int .i64 0, .int .i64 0, .slice none 0 0, .slice none 0 0, .slice none 0 0] 26) = W0 at *
  obtain ⟨I, hI⟩ : ∃ I, I = W0.heap.size := ⟨_, rfl⟩
  have hVI : V + 1 < I := by omega
  have hba : Below I W0 (W0.alloc (Obj.cells (madeCells #[Value.bool false] N) 4)) := by rw [hI]; exact (Below.refl _ _).alloc (Nat.le_refl _) _
  have HV := Lib.hid (HV0.below hba (by omega))
  have HOB := Lib.hid ((hba.block (V + 1) hVI).trans hobj)
  have HB1 : Hid (Below w.heap.size w (W0.alloc (Obj.cells (madeCells #[Value.bool false] N) 4))) := Below_on hb0 (hba.mono (Nat.le_refl _)) (by rw [hI]; exact hb0.size)
  have HRD := Lib.hid hr
  have HI0 : Hid (BRow (W0.alloc (Obj.cells (madeCells #[Value.bool false] N) 4)) I (List.replicate N false)) := by rw [hI]; exact BRow.new W0 N
  have hsz1 : (W0.alloc (Obj.cells (madeCells #[Value.bool false] N) 4)).heap.size = I + 1 := by rw [hI]; simp
  have HVV := Lib.hid hV
  obtain ⟨_, c0, c1, c2, c3, c4⟩ := HV0
  clear hb0 hobj hsz hr hV
  go_upto_block 0 with fail
  rw [← hI]
  clear c0 c1 c2 c3 c4 hmk hI hba
  generalize W0.alloc (Obj.cells (madeCells #[Value.bool false] N) 4) = W1 at *
  -- what stays while the marks turn
  have HK : Hid (∀ W, W1.grownBy W (some I) → AuAt W V a A B C ca cb cc ∧ AuRd W 0 a A B C ca cb cc) := fun W hg => by
    have hblk : ∀ k, k < W1.heap.size → k ≠ I → W.heap[k]? = W1.heap[k]? := fun k hk hn => hg.block k hk (by simpa using hn)
    have e := hblk V (by omega) (by omega)
    have c := fun o => World.cell?_of_block (w := W1) (w' := W) (a := ⟨V, o, none⟩) e
    have hb : Below w.heap.size w W := HB1.out.grown hg HB1.out.size (fun k hk => by have := HVV.out; simp at hk; omega)
    exact ⟨⟨Nat.lt_of_lt_of_le HV.out.lt hg.size, (c 0).trans HV.out.c0, (c 1).trans HV.out.c1, (c 2).trans HV.out.c2, (c 3).trans HV.out.c3, (c 4).trans HV.out.c4⟩, HRD.out.below hb⟩
  -- the first states
  go_cut [] (fun wx => Hid (BRow wx I (setAll a.fs (List.replicate N false))) ∧ Hid (W1.grownBy wx (some I)))
  case first =>
    go_wp2_with fail
    go_loopw [4] (fun s4 wr => ∃ k : Nat, k ≤ a.fs.length ∧ s4 = .int .i64 (k : Int) ∧ Hid (BRow wr I (setAll (a.fs.take k) (List.replicate N false))) ∧ Hid (W1.grownBy wr (some I))) (fun s4 _ => a.fs.length - (intOf s4).toNat)
    case atStart => exact ⟨0, Nat.zero_le _, rfl, HI0.out, World.grownBy.refl _ _⟩
    case round =>
      obtain ⟨k, hk, rfl, HM, HG⟩ := hrel
      obtain ⟨hV1, hRR⟩ := HK.out wr HG.out
      have hF1 := hRR.fs
      clear hRR
      obtain ⟨_, c0, c1, c2, c3, c4⟩ := hV1
      have hca := hF1.le
      have hfl3 : a.fs.length ≤ 300 := by have := HFL.out; have := HN.out; omega
      by_cases hkl : k < a.fs.length
      · have q1 : (k : Int) < (a.fs.length : Int) := by omega
        obtain ⟨b, off, rfl, _, _, y0⟩ := Ints.at_ hF1 hkl
        have hfx := HO.out.fr _ (List.getElem_mem hkl)
        have HST : Hid (setAll (a.fs.take (k + 1)) (List.replicate N false) = (setAll (a.fs.take k) (List.replicate N false)).set (a.fs[k]).toNat true) := by
          show _ = _
          rw [List.take_succ_eq_append_getElem hkl, setAll_snoc]
        obtain ⟨x, hx⟩ : ∃ x, x = a.fs[k] := ⟨_, rfl⟩
        rw [← hx] at y0 hfx HST
        clear hx
        obtain ⟨x, rfl⟩ := Int.eq_ofNat_of_zero_le hfx.1
        rw [Int.toNat_natCast] at HST
        have hxN : (x : Int) < (N : Int) := by have := HN.out; omega
        obtain ⟨z1, z2⟩ := HM.out.getD_ (i := x) (by rw [setAll_len, List.length_replicate]; omega) false
        have HM2 := Lib.hid (HM.out.set_ x true)
        rw [← HST.out] at HM2
        have HG2 := Lib.hid (grown_grown HG.out (grown_set wr I x (.bool true)))
        clear hfx hF1
        go_wp2_with fail
        go_roundw
        case rel => exact ⟨k + 1, by omega, by go_num, HM2.out, HG2.out⟩
        case measure => simp [intOf]; omega
      · have q1 : ¬ (k : Int) < (a.fs.length : Int) := by omega
        have hkk : a.fs.take k = a.fs := List.take_of_length_le (by omega)
        rw [hkk] at HM
        clear hF1 hkk
        go_wp2_with fail
        go_meet
        exact ⟨HM.out, HG.out⟩
  case rest =>
    obtain ⟨HM0, HG0⟩ := hcut
    go_upto_block 2 with fail
    go_cut [] (fun wx => ∃ inn, Hid (BRow wx I inn) ∧ Hid (W1.grownBy wx (some I)) ∧ Hid (RchS a inn))
    case first =>
      go_wp2_with fail
      go_loopg [5, 6] (N + 2) (fun g s5 _ wr => ∃ (c : Bool) (xs : List Bool), s5 = .bool c ∧ Hid (BRow wr I xs) ∧ Hid (W1.grownBy wr (some I)) ∧ Hid (TrI a N xs) ∧ Hid (c = false → ∀ s ∈ a.ss, kp xs s.f = true → kp xs s.t = true) ∧ Hid (xs.count false + (if c = true then 1 else 0) ≤ g))
      case atStart =>
        have ht := TrI.start HO.out HN.out.symm
        exact ⟨true, _, rfl, HM0.out, HG0.out, ht, (fun h => (by cases h)), by show _ + _ ≤ _; have := List.count_le_length (a := false) (l := setAll a.fs (List.replicate N false)); rw [ht.len] at this; simp; omega⟩
      case round =>
        obtain ⟨c, xs, rfl, HM, HG, HT, HC, HGG⟩ := hrel
        cases c with
        | false =>
          go_wp2_with fail
          go_meet
          exact ⟨xs, HM.out, HG.out, HT.out.done HO.out HN.out.symm (HC.out (by first | rfl | trivial))⟩
        | true =>
          go_wp2_with fail
          go_loopw [5, 6] (fun s5 s6 wr => ∃ (c2 : Bool) (i : Nat) (ys : List Bool), s5 = .bool c2 ∧ s6 = .int .i64 (i : Int) ∧ i ≤ a.ss.length ∧ Hid (BRow wr I ys) ∧ Hid (W1.grownBy wr (some I)) ∧ Hid (TrI a N ys) ∧ Hid (c2 = true → ys.count false < xs.count false) ∧ Hid (c2 = false → ys = xs ∧ ∀ j, j < i → (hj : j < a.ss.length) → kp xs a.ss[j].f = true → kp xs a.ss[j].t = true)) (fun _ s6 _ => a.ss.length - (intOf s6).toNat)
          case atStart => exact ⟨false, 0, xs, rfl, rfl, Nat.zero_le _, HM.out, HG.out, HT.out, (fun h => (by cases h)), fun _ => ⟨rfl, fun j h => absurd h (by omega)⟩⟩
          case round =>
            obtain ⟨c2, i, ys, rfl, rfl, hi, HMy, HGy, HTy, HD, HE⟩ := hrel
            obtain ⟨hV1, hRR⟩ := HK.out wr HGy.out
            have hS1 := hRR.ss
            clear hRR
            obtain ⟨_, c0, c1, c2', c3, c4⟩ := hV1
            have hcl := hS1.le
            have hsl := HO.out.sl
            by_cases hil : i < a.ss.length
            · have q1 : (i : Int) < (a.ss.length : Int) := by omega
              obtain ⟨b, off, rfl, _, _, y0, y1, y2⟩ := Stps.at_ hS1 hil
              have hsr := HO.out.sr _ (List.getElem_mem hil)
              have HMEM := Lib.hid (List.getElem_mem hil)
              obtain ⟨f, hf⟩ := Int.eq_ofNat_of_zero_le hsr.1.1
              obtain ⟨t, ht⟩ := Int.eq_ofNat_of_zero_le hsr.2.1.1
              have hfN : f < N := by have := HN.out; omega
              have htN : t < N := by have := HN.out; omega
              have hfN' : (f : Int) < (N : Int) := by omega
              have htN' : (t : Int) < (N : Int) := by omega
              rw [hf] at y0
              rw [ht] at y2
              obtain ⟨z1, z2⟩ := HMy.out.getD_ (i := f) (by rw [HTy.out.len]; exact hfN) false
              obtain ⟨u1, u2⟩ := HMy.out.getD_ (i := t) (by rw [HTy.out.len]; exact htN) false
              have HF : Hid (kp ys a.ss[i].f = ys.getD f false) := by show _ = _; unfold kp; rw [hf]; rfl
              have HTT : Hid (kp ys a.ss[i].t = ys.getD t false) := by show _ = _; unfold kp; rw [ht]; rfl
              have HTE : Hid (a.ss[i].t.toNat = t) := by show _ = _; rw [ht]; rfl
              have HX := Lib.hid hil
              have HSK : Hid (¬ (kp ys a.ss[i].f = true ∧ kp ys a.ss[i].t = false) → (c2 = false → ys = xs ∧ ∀ j, j < i + 1 → (hj : j < a.ss.length) → kp xs a.ss[j].f = true → kp xs a.ss[j].t = true)) := fun hn hc => by
                obtain ⟨e, hh⟩ := HE.out hc
                refine ⟨e, fun j hj hjl hk => ?_⟩
                rcases Nat.lt_or_ge j i with h1 | h1
                · exact hh j h1 hjl hk
                · obtain rfl : j = i := by omega
                  rw [← e] at hk ⊢
                  cases hx : kp ys a.ss[j].t with
                  | true => rfl
                  | false => exact absurd ⟨hk, hx⟩ hn
              clear hsr hf ht hS1 y1
              cases hkf : ys.getD f false with
              | false =>
                rw [hkf] at z1
                have HE2 := Lib.hid (HSK.out (fun h => by have e := HF.out.symm.trans h.1; rw [hkf] at e; cases e))
                clear hkf HSK
                go_wp2_with fail
                go_roundw
                case rel => exact ⟨c2, i + 1, ys, rfl, by go_num, HX.out, HMy.out, HGy.out, HTy.out, HD.out, HE2.out⟩
                case measure => simp [intOf]; have := HX.out; omega
              | true =>
                rw [hkf] at z1
                cases hkt : ys.getD t false with
                | true =>
                  rw [hkt] at u1
                  have HE2 := Lib.hid (HSK.out (fun h => by have e := HTT.out.symm.trans h.2; rw [hkt] at e; cases e))
                  clear hkf hkt HSK
                  go_wp2_with fail
                  go_roundw
                  case rel => exact ⟨c2, i + 1, ys, rfl, by go_num, HX.out, HMy.out, HGy.out, HTy.out, HD.out, HE2.out⟩
                  case measure => simp [intOf]; have := HX.out; omega
                | false =>
                  rw [hkt] at u1
                  have HT2 := Lib.hid (HTy.out.set HO.out HN.out.symm HMEM.out (by rw [HF.out, hkf]))
                  rw [HTE.out] at HT2
                  have HM2 := Lib.hid (HMy.out.set_ t true)
                  have HG2 := Lib.hid (grown_grown HGy.out (grown_set wr I t (.bool true)))
                  have HCN : Hid ((ys.set t true).count false < xs.count false) := by
                    have h1 := count_set (out := ys) (i := t) (by rw [HTy.out.len]; exact htN) hkt
                    show _ < _
                    cases hc : c2 with
                    | true => have := HD.out hc; omega
                    | false => have e := (HE.out hc).1; rw [e] at h1 ⊢; omega
                  clear hkf hkt HSK
                  go_wp2_with fail
                  go_roundw
                  case rel => exact ⟨true, i + 1, ys.set t true, rfl, by go_num, HX.out, HM2.out, HG2.out, HT2.out, fun _ => HCN.out, fun h => (by cases h)⟩
                  case measure => simp [intOf]; have := HX.out; omega
            · have q1 : ¬ (i : Int) < (a.ss.length : Int) := by omega
              have HCL : Hid (c2 = false → ∀ s ∈ a.ss, kp ys s.f = true → kp ys s.t = true) := fun hc s hs hk => by
                obtain ⟨e, hh⟩ := HE.out hc
                obtain ⟨j, hj, rfl⟩ := List.getElem_of_mem hs
                rw [e] at hk ⊢
                exact hh j (by omega) hj hk
              have HLT : Hid (ys.count false + (if c2 = true then 1 else 0) < xs.count false + 1) := by
                show _ < _
                cases hc : c2 with
                | true => have := HD.out hc; simp; omega
                | false => have e := (HE.out hc).1; rw [e]; simp
              have hgg : xs.count false + 1 ≤ _ := HGG.out
              have hlt : ys.count false + (if c2 = true then 1 else 0) < xs.count false + 1 := HLT.out
              have HLL := Lib.hid hlt
              clear hS1 hlt
              go_wp2_with fail
              go_roundg (ys.count false + (if c2 = true then 1 else 0))
              case measure => have := HLL.out; omega
              case rel => exact ⟨c2, ys, rfl, HMy.out, HGy.out, HTy.out, HCL.out, Nat.le_refl _⟩
    case rest =>
      obtain ⟨inn, HM1, HG1, HRCH⟩ := hcut
      clear HM0 HG0
      obtain ⟨hV1, hRx⟩ := HK.out _ HG1.out
      have HLEN : Hid (inn.length = N) := by show _ = _; have := HRCH.out.len; have := HN.out; omega
      have HTV : Hid (trimV a = madeOf a inn) := trim_ok HCK.out HRCH.out
      have HFST : Hid (∀ q ∈ a.fs, kp inn q = true) := fun q hq => (HRCH.out.iff q (HO.out.fr q hq).1 (HO.out.fr q hq).2).2 (.first hq)
      have HVx := Lib.hid hV1
      have HOBx : Hid (wc.heap[V + 1]? = some (.cells #[.int .i64 0, .int .i64 0, .slice none 0 0, .slice none 0 0, .slice none 0 0] 26 (0, 0))) := (HG1.out.block (V + 1) (by omega) (by simp; omega)).trans HOB.out
      have HBx : Hid (Below w.heap.size w wc) := HB1.out.grown HG1.out HB1.out.size (fun k hk => by have := HVV.out; simp at hk; omega)
      have hszx : I + 1 ≤ wc.heap.size := by have := HG1.out.size; omega
      obtain ⟨_, c0, c1, c2, c3, c4⟩ := hV1
      clear hRx HK HG1 HRCH HI0 HB1 HOB HV hsz1
      generalize wc = wB at *
      obtain ⟨G, hG⟩ : ∃ G, G = wB.heap.size := ⟨_, rfl⟩
      go_upto_block 6 with fail
      rw [← hG]
      clear c0 c1 c2 c3 c4 hmi
      have hbc : Below G wB ((wB.alloc (Obj.cells #[.int .i64 0, .int .i64 a.le, .slice none 0 0, .slice none 0 0, .slice none 0 0] 26)).alloc (Obj.cells (madeCells #[Value.int .i64 0] N) 3)) := by rw [hG]; exact ((Below.refl _ _).alloc (Nat.le_refl _) _).alloc (by simp) _
      have HM0 : Hid (TfM ((wB.alloc (Obj.cells #[.int .i64 0, .int .i64 a.le, .slice none 0 0, .slice none 0 0, .slice none 0 0] 26)).alloc (Obj.cells (madeCells #[Value.int .i64 0] N) 3)) (G + 1) G (G + 2) (toKept inn N 0) (pos inn 0 : Nat) a.le [] (keptG a.gs inn 0) [] (.slice none 0 0) (.slice none 0 0) (.slice none 0 0) ((wB.alloc (Obj.cells #[.int .i64 0, .int .i64 a.le, .slice none 0 0, .slice none 0 0, .slice none 0 0] 26)).alloc (Obj.cells (madeCells #[Value.int .i64 0] N) 3))) := by
        have h1 := IRow.new (wB.alloc (Obj.cells #[.int .i64 0, .int .i64 a.le, .slice none 0 0, .slice none 0 0, .slice none 0 0] 26)) N
        rw [show (wB.alloc (Obj.cells #[.int .i64 0, .int .i64 a.le, .slice none 0 0, .slice none 0 0, .slice none 0 0] 26)).heap.size = G + 1 by rw [hG]; simp] at h1
        refine ⟨Far.refl _ _ _, by omega, by omega, by omega, ?_, ⟨by simp [hG], ?_, World.ownsRow_nil _ _ _ _, World.ownsRow_nil _ _ _ _, World.ownsRow_nil _ _ _ _⟩⟩
        · rw [toKept_zero]; exact h1
        · rw [Below.heap_alloc _ _ _ (by simp; omega), hG]
          show (wB.heap.push _)[wB.heap.size]? = _
          simp [pos]
      have HVy := Lib.hid (HVx.out.below hbc (by omega))
      have HOBy := Lib.hid ((hbc.block (V + 1) (by omega)).trans HOBx.out)
      have HINN := Lib.hid (HM1.out.below hbc (by omega))
      have HBy : Hid (Below w.heap.size w ((wB.alloc (Obj.cells #[.int .i64 0, .int .i64 a.le, .slice none 0 0, .slice none 0 0, .slice none 0 0] 26)).alloc (Obj.cells (madeCells #[Value.int .i64 0] N) 3))) := HBx.out.trans (hbc.mono (by rw [hG]; exact HBx.out.size))
      have hwG : w.heap.size ≤ G := by rw [hG]; exact HBx.out.size
      have hVG : V + 1 < G ∧ I < G := by omega
      obtain ⟨hVG, hIG⟩ := hVG
      clear HVx HOBx HM1 HBx hbc hG hszx
      generalize (wB.alloc (Obj.cells #[.int .i64 0, .int .i64 a.le, .slice none 0 0, .slice none 0 0, .slice none 0 0] 26)).alloc (Obj.cells (madeCells #[Value.int .i64 0] N) 3) = W3 at *
      have HVW : Hid (∀ W, Far (G + 2) [G + 1, G] W3 W → AuAt W V a A B C ca cb cc) := fun W h => h.au HVy.out (by omega) (by simp; omega)
      have HIW : Hid (∀ W, Far (G + 2) [G + 1, G] W3 W → BRow W I inn) := fun W h => h.blk (by omega) (by simp; omega) HINN.out
      have HBW : Hid (∀ W, Far (G + 2) [G + 1, G] W3 W → Below w.heap.size w W) := fun W h => HBy.out.trans (h.to (B := w.heap.size) (by omega) (by simp; omega))
      have HRW : Hid (∀ W, Far (G + 2) [G + 1, G] W3 W → AuRd W 0 a A B C ca cb cc) := fun W h => HRD.out.below (HBW.out W h)
      have HOW : Hid (∀ W, Far (G + 2) [G + 1, G] W3 W → W.heap[V + 1]? = some (.cells #[.int .i64 0, .int .i64 0, .slice none 0 0, .slice none 0 0, .slice none 0 0] 26 (0, 0))) := fun W h => h.blk (by omega) (by simp; omega) HOBy.out
      clear HVy HOBy HINN HBy
      go_cut [] (fun wx => ∃ gv, Hid (TfM W3 (G + 1) G (G + 2) (toKept inn N N) (pos inn N : Nat) a.le [] (keptG a.gs inn N) [] (.slice none 0 0) gv (.slice none 0 0) wx))
      case first =>
        go_wp2_with fail
        go_loopw [9] (fun i wr => ∃ (k : Nat) (gv : Value), k ≤ N ∧ i = .int .i64 (k : Int) ∧ Hid (TfM W3 (G + 1) G (G + 2) (toKept inn N k) (pos inn k : Nat) a.le [] (keptG a.gs inn k) [] (.slice none 0 0) gv (.slice none 0 0) wr)) (fun i _ => N - (intOf i).toNat)
        case atStart => exact ⟨0, _, Nat.zero_le _, rfl, HM0.out⟩
        case round =>
          obtain ⟨k, gv, hk, rfl, HM⟩ := hrel
          clear HM0
          obtain ⟨_, v0, v1, v2, v3, v4⟩ := HVW.out _ HM.out.far
          by_cases hkN : k < N
          · have q1 : (k : Int) < a.st := by have := HN.out; omega
            have q2 : (k : Int) < (N : Int) := by omega
            obtain ⟨y0, -⟩ := (HIW.out _ HM.out.far).getD_ (i := k) (by rw [HLEN.out]; exact hkN) false
            have hpk : pos inn k ≤ 300 := by
              have : pos inn k ≤ k := by unfold pos; exact Nat.le_trans (List.count_le_length ..) (by simp; omega)
              omega
            have HPS := Lib.hid (pos_succ (keep := inn) (i := k) (by rw [HLEN.out]; exact hkN))
            have HGS := Lib.hid (keptG_succ a.gs inn k)
            have HGLN : Hid ((keptG a.gs inn k).length = pos inn k) := keptG_len (by rw [HLEN.out]; omega)
            have HX := Lib.hid hkN
            cases hkv : inn.getD k false with
            | false =>
              rw [hkv] at y0
              have hp1 : pos inn (k + 1) = pos inn k := by rw [HPS.out, hkv]; rfl
              have hg1 : keptG a.gs inn (k + 1) = keptG a.gs inn k := by rw [HGS.out, hkv]; simp
              have HMR : Hid (TfM W3 (G + 1) G (G + 2) (toKept inn N (k + 1)) (pos inn (k + 1) : Nat) a.le [] (keptG a.gs inn (k + 1)) [] (.slice none 0 0) gv (.slice none 0 0) wr) := by unfold Hid; rw [hp1, hg1, toKept_miss inn hkv]; exact HM.out
              clear hkv hp1 hg1 HM
              generalize pos inn k = p at *
              go_wp2_with fail
              go_roundw
              case rel => exact ⟨k + 1, gv, HX.out, by go_num, HMR.out⟩
              case measure => simp [intOf]; omega
            | true =>
              rw [hkv] at y0
              have hp1 : pos inn (k + 1) = pos inn k + 1 := by rw [HPS.out, hkv]; rfl
              have hg1 : keptG a.gs inn (k + 1) = keptG a.gs inn k ++ [a.gs.getD k false] := by rw [HGS.out, hkv]; simp
              obtain ⟨g0, g1, g2, g3, g4, gf0, gf1, gf2, gf3, gf4⟩ := obj5 HM.out.au.obj
              obtain ⟨z1, z2⟩ := HM.out.row.getD_ (i := k) (by rw [toKept_len]; exact hkN)
              have HM2 := Lib.hid (HM.out.put k (pos inn k : Nat))
              rw [toKept_hit inn hkv] at HM2
              have HM3 := Lib.hid (HM2.out.states ((pos inn k : Nat) + 1))
              obtain ⟨G0, -, -, -, -, Gf0, -, -, -, -⟩ := obj5 HM2.out.au.obj
              go_upto_region 22 with fail
              clear g0 g1 g2 g3 g4 gf0 gf1 gf2 gf3 gf4 z1 z2 HM v0 v1 v2 v3 v4 y0
              generalize wr.setCell ⟨G + 1, k, none⟩ (.int .i64 ((pos inn k : Nat) : Int)) = W2 at *
              go_upto_region 23 with fail
              clear G0 Gf0 HM2 hkv
              generalize W2.setCell ⟨G, 0, none⟩ (.int .i64 (((pos inn k : Nat) : Int) + 1)) = W4 at *
              have hdw : Below W4.heap.size W4 W4.drew := (Below.refl _ _).drew
              have HM4 := Lib.hid (HM3.out.on hdw)
              obtain ⟨T, c, rfl, hlc, hcm, T3, c3, w5, hrun, q4, f4, -, hAU⟩ := HM4.out.au.appG (a.gs.getD k false) (by rw [HGLN.out]; omega)
              have HM5 := Lib.hid (HM4.out.step hAU)
              obtain ⟨gb, go_, hB, _, _, z0⟩ := Bools.at_ (HRW.out _ HM4.out.far).gs (k := k) (by have := HO.out.gl; have := HN.out; omega)
              have hkg : a.gs[k]'(by have := HO.out.gl; have := HN.out; omega) = a.gs.getD k false := by rw [List.getD_eq_getElem?_getD, List.getElem?_eq_getElem]; rfl
              rw [hkg] at z0
              subst hB
              have q5 : (k : Int) < (a.gs.length : Int) := by have := HO.out.gl; have := HN.out; omega
              obtain ⟨g0, g1, g2, g3, g4, gf0, gf1, gf2, gf3, gf4⟩ := obj5 HM4.out.au.obj
              have hGl : G < W4.heap.size := HM4.out.au.lt
              have hb6 : Below W4.heap.size W4 (W4.alloc (Obj.cells #[.bool (a.gs.getD k false)] 4)).drew := ((Below.refl _ W4).alloc (Nat.le_refl _) _).drew
              have g3' : (W4.alloc (Obj.cells #[.bool (a.gs.getD k false)] 4)).drew.cell? ⟨G, 3, none⟩ = some (.slice T (keptG a.gs inn k).length c) := (hb6.cell (p := ⟨G, 3, none⟩) hGl).trans g3
              obtain ⟨_, v0, v1, v2, v3, v4⟩ := HVW.out _ HM4.out.far
              have HRUN : Hid ((Builtin.append_ #[23, 23] 23 #[.slice T (keptG a.gs inn k).length c, .slice (some ⟨W4.heap.size, 0, none⟩) 1 1]).run Tryd.prog (W4.alloc (Obj.cells #[.bool (a.gs.getD k false)] 4)).drew = .ok (.slice T3 ((keptG a.gs inn k).length + 1) c3) w5) := hrun
              have HMR : Hid (TfM W3 (G + 1) G (G + 2) (toKept inn N (k + 1)) (pos inn (k + 1) : Nat) a.le [] (keptG a.gs inn (k + 1)) [] (.slice none 0 0) (.slice T3 ((keptG a.gs inn k).length + 1) c3) (.slice none 0 0) (w5.setCell ⟨G, 3, none⟩ (.slice T3 ((keptG a.gs inn k).length + 1) c3))) := by unfold Hid; rw [hp1, hg1]; exact HM5.out
              clear g0 g1 g2 g4 gf0 gf1 gf2 gf3 gf4 v0 v1 v2 v4 hrun hAU hp1 hg1 hkg hb6 hdw HM4 HM3 HM5 HGLN HPS HGS
              generalize (keptG a.gs inn k).length = gn at *
              generalize a.gs.getD k false = gk at *
              go_region_law ((refine step_appR rfl (.tmp 93) (.tmp 99) _ _ rfl (.slice T gn c) (.slice (some ⟨W4.heap.size, 0, none⟩) 1 1) (.slice T3 (gn + 1) c3) (by go_simp) (by go_simp) HRUN.out ?_))
              all_goals
                have HMR2 := Lib.hid HMR.out
                go_simp
                go_wp2_with fail
                go_roundw
                case rel => exact ⟨k + 1, _, HX.out, by go_num, HMR2.out⟩
                case measure => simp [intOf]; omega
          · have q1 : ¬ (k : Int) < a.st := by have := HN.out; omega
            obtain rfl : k = N := by omega
            go_wp2_with fail
            go_meet
            exact ⟨gv, HM.out⟩
      case rest =>
        obtain ⟨gv, HM1⟩ := hcut
        clear HM0
        obtain ⟨_, v0, v1, v2, v3, v4⟩ := HVW.out _ HM1.out.far
        obtain ⟨g0, g1, g2, g3, g4, gf0, gf1, gf2, gf3, gf4⟩ := obj5 HM1.out.au.obj
        by_cases hp : pos inn N = 0
        · have e1 : (((pos inn N : Nat) : Int) == 0) = true := by simp [hp]
          have hba : Below wc.heap.size wc (wc.alloc (Obj.cells #[.bool false] 4)) := (Below.refl _ _).alloc (Nat.le_refl _) _
          have hM2 := HM1.out.on hba
          obtain ⟨r0, r1, r2, r3, r4, rf0, rf1, rf2, rf3, rf4⟩ := obj5 (HOW.out _ hM2.far)
          have hmade : madeOf a inn = ⟨1, a.le, [], [false], []⟩ := by unfold madeOf; rw [if_pos (by rw [HN.out]; exact hp)]
          have hwz := hM2.au.sz
          have hrd : AuRd (wc.alloc (Obj.cells #[.bool false] 4)) (V + 1 + 1) ⟨1, a.le, [], [false], []⟩ none (some ⟨wc.heap.size, 0, none⟩) none 0 1 0 := by
            refine ⟨⟨Nat.le_refl _, by omega, by simp, Rd.nil⟩, ⟨by simp, by omega, by simp, fun _ => ⟨wc.heap.size, 0, rfl, by have := HM1.out.au.sz; omega, by simp, fun j u hu => ?_⟩⟩, ⟨Nat.le_refl _, by omega, by simp, Rd.nil⟩⟩
            have h : (wc.alloc (Obj.cells #[.bool false] 4)).heap[wc.heap.size]? = some (Obj.cells #[.bool false] 4) := by
              show (wc.heap.push _)[wc.heap.size]? = _
              simp
            simp only [World.cell?, h, Nat.zero_add]
            simpa using hu
          have HP : Hid (MdPost w (trimV a) (.returned (.agg #[.int .i64 1, .int .i64 a.le, .slice none 0 0, .slice (some ⟨wc.heap.size, 0, none⟩) 1 1, .slice none 0 0])) (set5 (wc.alloc (Obj.cells #[.bool false] 4)) (V + 1) (.int .i64 1) (.int .i64 a.le) (.slice none 0 0) (.slice (some ⟨wc.heap.size, 0, none⟩) 1 1) (.slice none 0 0))) := by
            rw [HTV.out, hmade]
            exact ⟨none, some ⟨wc.heap.size, 0, none⟩, none, 0, 1, 0, rfl, (hrd.set5_ (Nat.lt_succ_self _) _ _ _ _ _).low (by have := HVV.out; omega), below_set5 (HBW.out _ hM2.far) (by have := HVV.out; omega) _ _ _ _ _⟩
          have HOO := Lib.hid (set5_heap (HOW.out _ hM2.far) (.int .i64 1) (.int .i64 a.le) (.slice none 0 0) (.slice (some ⟨wc.heap.size, 0, none⟩) 1 1) (.slice none 0 0))
          clear hp hba hM2 hmade hrd hwz
          go_wp2_with fail
          exact bodyPost_ret (retAuP Tryd.results10 _ _ (V + 1) rfl HOO.out) rfl HP.out
        · have e1 : (((pos inn N : Nat) : Int) == 0) = false := by simp; omega
          have hmade : madeOf a inn = ⟨(pos inn N : Nat), a.le, keptF a inn a.fs.length, keptG a.gs inn N, keptS a inn a.ss.length⟩ := by
            unfold madeOf
            rw [HN.out, Int.toNat_natCast, if_neg hp]
          have HMD := Lib.hid hmade
          have HPN := Lib.hid hp
          clear hp hmade
          have HTL : Hid (∀ q : Int, 0 ≤ q → q < a.st → kp inn q = true → ∀ W, IRow W (G + 1) (toKept inn N N) → W.cell? ⟨G + 1, q.toNat, none⟩ = some (.int .i64 (newQ inn q)) ∧ W.frozen? ⟨G + 1, q.toNat, none⟩ = false) := fun q h0 h1 hk W hW => by
            have hq : q.toNat < N := by have := HN.out; omega
            have h := hW.getD_ (i := q.toNat) (by rw [toKept_len]; exact hq)
            rw [toKept_get inn hq hk] at h
            exact h
          have HKQ : Hid (∀ q : Int, 0 ≤ q → q < a.st → ∀ W, Far (G + 2) [G + 1, G] W3 W → W.cell? ⟨I, q.toNat, none⟩ = some (.bool (kp inn q))) := fun q h0 h1 W hW =>
            ((HIW.out W hW).getD_ (i := q.toNat) (by rw [HLEN.out]; have := HN.out; omega) false).1
          go_upto_block 8 with fail
          clear v0 v1 v2 v3 v4 g0 g1 g2 g3 g4 gf0 gf1 gf2 gf3 gf4 e1
          go_cut [] (fun wx => ∃ fv, Hid (TfM W3 (G + 1) G (G + 2) (toKept inn N N) (pos inn N : Nat) a.le (keptF a inn a.fs.length) (keptG a.gs inn N) [] fv gv (.slice none 0 0) wx))
          case first =>
            go_wp2_with fail
            go_loopw [10] (fun i wr => ∃ (k : Nat) (fv : Value), k ≤ a.fs.length ∧ i = .int .i64 (k : Int) ∧ Hid (TfM W3 (G + 1) G (G + 2) (toKept inn N N) (pos inn N : Nat) a.le (keptF a inn k) (keptG a.gs inn N) [] fv gv (.slice none 0 0) wr)) (fun i _ => a.fs.length - (intOf i).toNat)
            case atStart => exact ⟨0, _, Nat.zero_le _, rfl, HM1.out⟩
            case round =>
              obtain ⟨k, fv, hk, rfl, HM⟩ := hrel
              clear HM1
              obtain ⟨_, v0, v1, v2, v3, v4⟩ := HVW.out _ HM.out.far
              have hrdf := (HRW.out _ HM.out.far).fs
              have hca := hrdf.le
              have hfl3 : a.fs.length ≤ 300 := by have := HFL.out; have := HN.out; omega
              by_cases hkN : k < a.fs.length
              · have q1 : (k : Int) < (a.fs.length : Int) := by omega
                obtain ⟨fb, fo, hA, _, _, x0⟩ := Ints.at_ hrdf hkN
                have hfr := HO.out.fr _ (List.getElem_mem hkN)
                have hkq := HFST.out _ (List.getElem_mem hkN)
                have HKS := Lib.hid (keptF_succ a inn hkN)
                have hfl2 : (keptF a inn k).length ≤ 300 := by
                  unfold keptF
                  rw [List.length_map]
                  have := List.length_filter_le (kp inn) (a.fs.take k)
                  have := List.length_take_le k a.fs
                  omega
                obtain ⟨q, hq⟩ : ∃ q, q = a.fs[k] := ⟨_, rfl⟩
                have HQE := Lib.hid hq
                rw [← hq] at x0 hfr HKS hkq
                clear hq hrdf
                have hTL := HTL.out q hfr.1 hfr.2 hkq
                have HTQ := Lib.hid hTL
                obtain ⟨n, rfl⟩ := Int.eq_ofNat_of_zero_le hfr.1
                rw [Int.toNat_natCast] at HTQ
                subst hA
                have q4 : (n : Int) < (N : Int) := by have := HN.out; omega
                have HX := Lib.hid hkN
                have hg1 : keptF a inn (k + 1) = keptF a inn k ++ [newQ inn n] := by rw [HKS.out, hkq]; simp
                clear hTL hfr hkq HKS
                go_upto_region 29 with fail
                clear v0 v1 v2 v3 v4 x0
                have hdw : Below wr.heap.size wr wr.drew := (Below.refl _ _).drew
                have HM4 := Lib.hid (HM.out.on hdw)
                obtain ⟨T, c, rfl, hlc, hcm, T3, c3, w5, hrun, p4, f4, -, hAU⟩ := HM4.out.au.appF (newQ inn n) (by omega)
                have HM5 := Lib.hid (HM4.out.step hAU)
                obtain ⟨z0, _⟩ := HTQ.out _ HM4.out.row
                obtain ⟨fb2, fo2, hA, _, _, x0⟩ := Ints.at_ (HRW.out _ HM4.out.far).fs hkN
                obtain ⟨rfl, rfl⟩ : fb = fb2 ∧ fo = fo2 := by simpa using hA
                rw [← HQE.out] at x0
                obtain ⟨_, v0, v1, v2, v3, v4⟩ := HVW.out _ HM4.out.far
                obtain ⟨g0, g1, g2, g3, g4, gf0, gf1, gf2, gf3, gf4⟩ := obj5 HM4.out.au.obj
                have hGl : G < wr.heap.size := HM4.out.au.lt
                have hb6 : Below wr.heap.size wr (wr.alloc (Obj.cells #[.int .i64 (newQ inn n)] 3)).drew := ((Below.refl _ wr).alloc (Nat.le_refl _) _).drew
                have g2' : (wr.alloc (Obj.cells #[.int .i64 (newQ inn n)] 3)).drew.cell? ⟨G, 2, none⟩ = some (.slice T (keptF a inn k).length c) := (hb6.cell (p := ⟨G, 2, none⟩) hGl).trans g2
                have HRUN : Hid ((Builtin.append_ #[22, 22] 22 #[.slice T (keptF a inn k).length c, .slice (some ⟨wr.heap.size, 0, none⟩) 1 1]).run Tryd.prog (wr.alloc (Obj.cells #[.int .i64 (newQ inn n)] 3)).drew = .ok (.slice T3 ((keptF a inn k).length + 1) c3) w5) := hrun
                have HMR : Hid (TfM W3 (G + 1) G (G + 2) (toKept inn N N) (pos inn N : Nat) a.le (keptF a inn (k + 1)) (keptG a.gs inn N) [] (.slice T3 ((keptF a inn k).length + 1) c3) gv (.slice none 0 0) (w5.setCell ⟨G, 2, none⟩ (.slice T3 ((keptF a inn k).length + 1) c3))) := by unfold Hid; rw [hg1]; exact HM5.out
                clear g0 g1 g3 g4 gf0 gf1 gf2 gf3 gf4 v0 v1 v3 v4 hrun hAU hg1 hb6 hdw HM4 HM5 hA HM
                generalize (keptF a inn k).length = gn at *
                generalize newQ inn (n : Int) = gk at *
                go_region_law ((refine step_appR rfl (.tmp 117) (.tmp 126) _ _ rfl (.slice T gn c) (.slice (some ⟨wr.heap.size, 0, none⟩) 1 1) (.slice T3 (gn + 1) c3) (by go_simp) (by go_simp) HRUN.out ?_))
                all_goals
                  have HMR2 := Lib.hid HMR.out
                  go_simp
                  go_wp2_with fail
                  go_roundw
                  case rel => exact ⟨k + 1, _, HX.out, by go_num, HMR2.out⟩
                  case measure => simp [intOf]; omega
              · have q1 : ¬ (k : Int) < (a.fs.length : Int) := by omega
                obtain rfl : k = a.fs.length := by omega
                go_wp2_with fail
                go_meet
                exact ⟨fv, HM.out⟩
          case rest =>
            obtain ⟨fv, HM2⟩ := hcut
            clear HM1
            obtain ⟨_, v0, v1, v2, v3, v4⟩ := HVW.out _ HM2.out.far
            go_upto_block 10 with fail
            clear v0 v1 v2 v3 v4
            go_cut [] (fun wx => ∃ sv, Hid (TfM W3 (G + 1) G (G + 2) (toKept inn N N) (pos inn N : Nat) a.le (keptF a inn a.fs.length) (keptG a.gs inn N) (keptS a inn a.ss.length) fv gv sv wx))
            case first =>
              have hsl := HO.out.sl
              go_wp2_with fail
              go_loopw [11, 12] (fun i _ wr => ∃ (k : Nat) (sv : Value), k ≤ a.ss.length ∧ i = .int .i64 (k : Int) ∧ Hid (TfM W3 (G + 1) G (G + 2) (toKept inn N N) (pos inn N : Nat) a.le (keptF a inn a.fs.length) (keptG a.gs inn N) (keptS a inn k) fv gv sv wr)) (fun i _ _ => a.ss.length - (intOf i).toNat)
              case atStart => exact ⟨0, _, Nat.zero_le _, rfl, HM2.out⟩
              case round =>
                obtain ⟨k, sv, hk, rfl, HM⟩ := hrel
                clear HM2
                obtain ⟨_, v0, v1, v2, v3, v4⟩ := HVW.out _ HM.out.far
                have hrds := (HRW.out _ HM.out.far).ss
                have hca := hrds.le
                by_cases hkN : k < a.ss.length
                · have q1 : (k : Int) < (a.ss.length : Int) := by omega
                  obtain ⟨sb, so, hC, _, _, x0, x1, x2⟩ := Stps.at_ hrds hkN
                  have hsr := HO.out.sr _ (List.getElem_mem hkN)
                  have HKS := Lib.hid (keptS_succ a inn hkN)
                  have hfl2 : (keptS a inn k).length ≤ 6000 := by
                    unfold keptS
                    rw [List.length_map]
                    have := List.length_filter_le (fun s => kp inn s.f && kp inn s.t) (a.ss.take k)
                    have := List.length_take_le k a.ss
                    omega
                  obtain ⟨s, hs⟩ : ∃ s, s = a.ss[k] := ⟨_, rfl⟩
                  rw [← hs] at x0 x1 x2 hsr HKS
                  clear hs hrds
                  obtain ⟨sf, sl, st⟩ := s
                  simp only at x0 x1 x2 hsr HKS
                  have hba : Below wr.heap.size wr (wr.alloc (Obj.cells #[.int .i64 sf, .int .i64 sl, .int .i64 st] 54)) := (Below.refl _ _).alloc (Nat.le_refl _) _
                  have HM2 := Lib.hid (HM.out.on hba)
                  have hS0 : (wr.alloc (Obj.cells #[.int .i64 sf, .int .i64 sl, .int .i64 st] 54)).cell? ⟨wr.heap.size, 0, none⟩ = some (.int .i64 sf) := by go_simp
                  have hS1 : (wr.alloc (Obj.cells #[.int .i64 sf, .int .i64 sl, .int .i64 st] 54)).cell? ⟨wr.heap.size, 1, none⟩ = some (.int .i64 sl) := by go_simp
                  have hS2 : (wr.alloc (Obj.cells #[.int .i64 sf, .int .i64 sl, .int .i64 st] 54)).cell? ⟨wr.heap.size, 2, none⟩ = some (.int .i64 st) := by go_simp
                  have hSl : wr.heap.size < (wr.alloc (Obj.cells #[.int .i64 sf, .int .i64 sl, .int .i64 st] 54)).heap.size := by simp
                  subst hC
                  go_upto_region 34 with fail
                  obtain ⟨S, hSS⟩ : ∃ S, S = wr.heap.size := ⟨_, rfl⟩
                  rw [← hSS] at hS0 hS1 hS2 hSl ⊢
                  generalize wr.alloc (Obj.cells #[.int .i64 sf, .int .i64 sl, .int .i64 st] 54) = W2 at *
                  have hSV : some S ≠ sv.ownBlock := fun e => by have := (HM.out.au.s.lt S e.symm).2; omega
                  have hSt : G + 1 < S := by have := HM.out.row.lt; omega
                  clear hSS hba HM x0 x1 x2 v0 v1 v2 v3 v4
                  have y0 := HKQ.out sf hsr.1.1 hsr.1.2 W2 HM2.out.far
                  have y1 := HKQ.out st hsr.2.1.1 hsr.2.1.2 W2 HM2.out.far
                  have HTF := Lib.hid (HTL.out sf hsr.1.1 hsr.1.2)
                  have HTT := Lib.hid (HTL.out st hsr.2.1.1 hsr.2.1.2)
                  obtain ⟨nf, rfl⟩ := Int.eq_ofNat_of_zero_le hsr.1.1
                  obtain ⟨nt, rfl⟩ := Int.eq_ofNat_of_zero_le hsr.2.1.1
                  rw [Int.toNat_natCast] at y0 y1 HTF HTT
                  have q4 : (nf : Int) < (N : Int) := by have := HN.out; omega
                  have q6 : (nt : Int) < (N : Int) := by have := HN.out; omega
                  have HX := Lib.hid hkN
                  clear hsr
                  have HNO : Hid ((kp inn (nf : Int) && kp inn (nt : Int)) = false → TfM W3 (G + 1) G (G + 2) (toKept inn N N) (pos inn N : Nat) a.le (keptF a inn a.fs.length) (keptG a.gs inn N) (keptS a inn (k + 1)) fv gv sv W2) := fun h => by
                    have hg1 : keptS a inn (k + 1) = keptS a inn k := by rw [HKS.out, h]; simp
                    rw [hg1]; exact HM2.out
                  cases hkv : kp inn (nf : Int) with
                  | false =>
                    rw [hkv] at y0
                    have HMR := Lib.hid (HNO.out (by rw [hkv]; rfl))
                    clear hkv HNO y1 hS1 hS2
                    go_wp2_with fail
                    go_roundw
                    case rel => exact ⟨k + 1, sv, HX.out, by go_num, HMR.out⟩
                    case measure => simp [intOf]; omega
                  | true =>
                    rw [hkv] at y0
                    cases hkw : kp inn (nt : Int) with
                    | false =>
                      rw [hkw] at y1
                      have HMR := Lib.hid (HNO.out (by rw [hkv, hkw]; rfl))
                      clear hkv hkw HNO hS1
                      go_wp2_with fail
                      go_roundw
                      case rel => exact ⟨k + 1, sv, HX.out, by go_num, HMR.out⟩
                      case measure => simp [intOf]; omega
                    | true =>
                      rw [hkw] at y1
                      have hg1 : keptS a inn (k + 1) = keptS a inn k ++ [⟨newQ inn nf, sl, newQ inn nt⟩] := by rw [HKS.out, hkv, hkw]; rfl
                      have HTF2 := Lib.hid (HTF.out hkv)
                      have HTT2 := Lib.hid (HTT.out hkw)
                      go_upto_region 35 with fail
                      clear y0 y1 hkv hkw HNO HTF HTT
                      have hdw : Below W2.heap.size W2 W2.drew := (Below.refl _ _).drew
                      have HM4 := Lib.hid (HM2.out.on hdw)
                      obtain ⟨T, c, rfl, hlc, hcm, T3, c3, w5, hrun, p4, f4, hgr, hAU⟩ := HM4.out.au.appS ⟨newQ inn nf, sl, newQ inn nt⟩ (by omega)
                      have HM5 := Lib.hid (HM4.out.step hAU)
                      obtain ⟨z0, _⟩ := HTF2.out _ HM4.out.row
                      obtain ⟨z1, _⟩ := HTT2.out _ HM4.out.row
                      obtain ⟨g0, g1, g2, g3, g4, gf0, gf1, gf2, gf3, gf4⟩ := obj5 HM4.out.au.obj
                      have hGl : G < W2.heap.size := HM4.out.au.lt
                      have hb6 : Below W2.heap.size W2 (W2.alloc (Obj.cells #[.int .i64 (newQ inn nf), .int .i64 sl, .int .i64 (newQ inn nt)] 54)).drew := ((Below.refl _ W2).alloc (Nat.le_refl _) _).drew
                      have g4' : (W2.alloc (Obj.cells #[.int .i64 (newQ inn nf), .int .i64 sl, .int .i64 (newQ inn nt)] 54)).drew.cell? ⟨G, 4, none⟩ = some (.slice T (keptS a inn k).length c) := (hb6.cell (p := ⟨G, 4, none⟩) hGl).trans g4
                      have s0 : W2.drew.cell? ⟨S, 0, none⟩ = some (.int .i64 (nf : Int)) := hS0
                      have s1 : W2.drew.cell? ⟨S, 1, none⟩ = some (.int .i64 sl) := hS1
                      have s2 : W2.drew.cell? ⟨S, 2, none⟩ = some (.int .i64 (nt : Int)) := hS2
                      have hne : ∀ b o u, b < W2.heap.size → some b ≠ (Value.slice T (keptS a inn k).length c).ownBlock → W2.drew.cell? ⟨b, o, none⟩ = some u → w5.cell? ⟨b, o, none⟩ = some u := fun b o u hb hn hc => hgr.cell ((hb6.cell (p := ⟨b, o, none⟩) hb).trans hc) hn
                      have htV : some (G + 1) ≠ (Value.slice T (keptS a inn k).length c).ownBlock := own_ne HM4.out.au.s (by omega)
                      have htl : G + 1 < W2.heap.size := by omega
                      have s05 := hne _ _ _ hSl hSV s0
                      have s15 := hne _ _ _ hSl hSV s1
                      have s25 := hne _ _ _ hSl hSV s2
                      have z05 := hne _ _ _ htl htV z0
                      have z15 := hne _ _ _ htl htV z1
                      have s06 := (hb6.cell (p := ⟨S, 0, none⟩) hSl).trans s0
                      have s16 := (hb6.cell (p := ⟨S, 1, none⟩) hSl).trans s1
                      have s26 := (hb6.cell (p := ⟨S, 2, none⟩) hSl).trans s2
                      have z06 := (hb6.cell (p := ⟨G + 1, nf, none⟩) htl).trans z0
                      have z16 := (hb6.cell (p := ⟨G + 1, nt, none⟩) htl).trans z1
                      have hS1 : S ≠ G := by omega
                      have HRUN : Hid ((Builtin.append_ #[24, 24] 24 #[.slice T (keptS a inn k).length c, .slice (some ⟨W2.heap.size, 0, none⟩) 1 1]).run Tryd.prog (W2.alloc (Obj.cells #[.int .i64 (newQ inn nf), .int .i64 sl, .int .i64 (newQ inn nt)] 54)).drew = .ok (.slice T3 ((keptS a inn k).length + 1) c3) w5) := hrun
                      have HMR : Hid (TfM W3 (G + 1) G (G + 2) (toKept inn N N) (pos inn N : Nat) a.le (keptF a inn a.fs.length) (keptG a.gs inn N) (keptS a inn (k + 1)) fv gv (.slice T3 ((keptS a inn k).length + 1) c3) (w5.setCell ⟨G, 4, none⟩ (.slice T3 ((keptS a inn k).length + 1) c3))) := by unfold Hid; rw [hg1]; exact HM5.out
                      clear g0 g1 g2 g3 gf0 gf1 gf2 gf3 gf4 hrun hAU hg1 hb6 hdw HM4 HM5 hS0 hS2 hgr hne htV hSV
                      generalize (keptS a inn k).length = gn at *
                      generalize newQ inn (nf : Int) = gk at *
                      generalize newQ inn (nt : Int) = gk2 at *
                      refine wp_region_Z (fun w' => w'.cell? ⟨G, 4, none⟩ = some (.slice T gn c) ∧ w'.cell? ⟨S, 0, none⟩ = some (.int .i64 (nf : Int)) ∧ w'.cell? ⟨S, 1, none⟩ = some (.int .i64 sl) ∧ w'.cell? ⟨S, 2, none⟩ = some (.int .i64 (nt : Int)) ∧ w'.cell? ⟨G + 1, nf, none⟩ = some (.int .i64 gk) ∧ w'.cell? ⟨G + 1, nt, none⟩ = some (.int .i64 gk2)) 18 (by kernel_rfl) ?_
                      refine wpAnyZ_take (i := 0) (v := ?v0) rfl (by kernel_rfl) (by kernel_rfl) (by kernel_rfl) (by kernel_rfl) (by kernel_rfl) (fun _ _ _ h => h) (Or.inl ⟨by rfl, ?hy0⟩) ⟨g4, s0, s1, s2, z0, z1⟩ ?rest0
                      case hy0 => (intro w' hw'; obtain ⟨h0, h1, h2, h3, h4, h5⟩ := hw'; go_simp; (try with_reducible rfl))
                      (try simp only [Act.put, List.setIfInBounds_toArray, List.set_cons_zero, List.set_cons_succ])
                      refine wpAnyZ_take (i := 1) (v := ?v1) rfl (by kernel_rfl) (by kernel_rfl) (by kernel_rfl) (by kernel_rfl) (by kernel_rfl) (fun _ _ _ h => h) (Or.inl ⟨by rfl, ?hy1⟩) ⟨g4, s0, s1, s2, z0, z1⟩ ?rest1
                      case hy1 => (intro w' hw'; obtain ⟨h0, h1, h2, h3, h4, h5⟩ := hw'; go_simp; (try with_reducible rfl))
                      (try simp only [Act.put, List.setIfInBounds_toArray, List.set_cons_zero, List.set_cons_succ])
                      refine wpAnyZ_take (i := 2) (v := ?v2) rfl (by kernel_rfl) (by kernel_rfl) (by kernel_rfl) (by kernel_rfl) (by kernel_rfl) (fun _ _ _ h => h) (Or.inl ⟨by rfl, ?hy2⟩) ⟨g4, s0, s1, s2, z0, z1⟩ ?rest2
                      case hy2 => (intro w' hw'; obtain ⟨h0, h1, h2, h3, h4, h5⟩ := hw'; go_simp; (try with_reducible rfl))
                      (try simp only [Act.put, List.setIfInBounds_toArray, List.set_cons_zero, List.set_cons_succ])
                      refine wpAnyZ_take (i := 3) (v := ?v3) rfl (by kernel_rfl) (by kernel_rfl) (by kernel_rfl) (by kernel_rfl) (by kernel_rfl) (fun _ _ _ h => h) (Or.inl ⟨by rfl, ?hy3⟩) ⟨g4, s0, s1, s2, z0, z1⟩ ?rest3
                      case hy3 => (intro w' hw'; obtain ⟨h0, h1, h2, h3, h4, h5⟩ := hw'; go_simp; (try with_reducible rfl))
                      (try simp only [Act.put, List.setIfInBounds_toArray, List.set_cons_zero, List.set_cons_succ])
                      refine wpAnyZ_take (i := 4) (v := ?v4) rfl (by kernel_rfl) (by kernel_rfl) (by kernel_rfl) (by kernel_rfl) (by kernel_rfl) (fun _ _ _ h => h) (Or.inl ⟨by rfl, ?hy4⟩) ⟨g4, s0, s1, s2, z0, z1⟩ ?rest4
                      case hy4 => (intro w' hw'; obtain ⟨h0, h1, h2, h3, h4, h5⟩ := hw'; go_simp; (try with_reducible rfl))
                      (try simp only [Act.put, List.setIfInBounds_toArray, List.set_cons_zero, List.set_cons_succ])
                      refine wpAnyZ_take (i := 5) (v := ?v5) rfl (by kernel_rfl) (by kernel_rfl) (by kernel_rfl) (by kernel_rfl) (by kernel_rfl) (fun _ _ _ h => h) (Or.inl ⟨by rfl, ?hy5⟩) ⟨g4, s0, s1, s2, z0, z1⟩ ?rest5
                      case hy5 => (intro w' hw'; obtain ⟨h0, h1, h2, h3, h4, h5⟩ := hw'; go_simp; (try with_reducible rfl))
                      (try simp only [Act.put, List.setIfInBounds_toArray, List.set_cons_zero, List.set_cons_succ])
                      refine wpAnyZ_take (i := 6) (v := ?v6) rfl (by kernel_rfl) (by kernel_rfl) (by kernel_rfl) (by kernel_rfl) (by kernel_rfl) (fun _ _ _ h => h) (Or.inl ⟨by rfl, ?hy6⟩) ⟨g4, s0, s1, s2, z0, z1⟩ ?rest6
                      case hy6 => (intro w' hw'; obtain ⟨h0, h1, h2, h3, h4, h5⟩ := hw'; go_simp; (try with_reducible rfl))
                      (try simp only [Act.put, List.setIfInBounds_toArray, List.set_cons_zero, List.set_cons_succ])
                      refine wpAnyZ_take (i := 7) (v := ?v7) rfl (by kernel_rfl) (by kernel_rfl) (by kernel_rfl) (by kernel_rfl) (by kernel_rfl) (fun _ _ _ h => h) (Or.inl ⟨by rfl, ?hy7⟩) ⟨g4, s0, s1, s2, z0, z1⟩ ?rest7
                      case hy7 => (intro w' hw'; obtain ⟨h0, h1, h2, h3, h4, h5⟩ := hw'; go_simp; (try with_reducible rfl))
                      (try simp only [Act.put, List.setIfInBounds_toArray, List.set_cons_zero, List.set_cons_succ])
                      refine wpAnyZ_take (i := 8) (v := ?v8) rfl (by kernel_rfl) (by kernel_rfl) (by kernel_rfl) (by kernel_rfl) (by kernel_rfl) (fun _ _ _ h => h) (Or.inl ⟨by rfl, ?hy8⟩) ⟨g4, s0, s1, s2, z0, z1⟩ ?rest8
                      case hy8 => (intro w' hw'; obtain ⟨h0, h1, h2, h3, h4, h5⟩ := hw'; go_simp; (try with_reducible rfl))
                      (try simp only [Act.put, List.setIfInBounds_toArray, List.set_cons_zero, List.set_cons_succ])
                      refine wpAnyZ_take (i := 9) (v := ?v9) rfl (by kernel_rfl) (by kernel_rfl) (by kernel_rfl) (by kernel_rfl) (by kernel_rfl) (fun _ _ _ h => h) (Or.inl ⟨by rfl, ?hy9⟩) ⟨g4, s0, s1, s2, z0, z1⟩ ?rest9
                      case hy9 => (intro w' hw'; obtain ⟨h0, h1, h2, h3, h4, h5⟩ := hw'; go_simp; (try with_reducible rfl))
                      (try simp only [Act.put, List.setIfInBounds_toArray, List.set_cons_zero, List.set_cons_succ])
                      refine wpAnyZ_take (i := 10) (v := ?v10) rfl (by kernel_rfl) (by kernel_rfl) (by kernel_rfl) (by kernel_rfl) (by kernel_rfl) (fun _ _ _ h => h) (Or.inl ⟨by rfl, ?hy10⟩) ⟨g4, s0, s1, s2, z0, z1⟩ ?rest10
                      case hy10 => (intro w' hw'; obtain ⟨h0, h1, h2, h3, h4, h5⟩ := hw'; go_simp; (try with_reducible rfl))
                      (try simp only [Act.put, List.setIfInBounds_toArray, List.set_cons_zero, List.set_cons_succ])
                      refine wpAnyZ_take (i := 11) (v := ?v11) rfl (by kernel_rfl) (by kernel_rfl) (by kernel_rfl) (by kernel_rfl) (by kernel_rfl) (fun _ _ _ h => h) (Or.inl ⟨by rfl, ?hy11⟩) ⟨g4, s0, s1, s2, z0, z1⟩ ?rest11
                      case hy11 => (intro w' hw'; obtain ⟨h0, h1, h2, h3, h4, h5⟩ := hw'; go_simp; (try with_reducible rfl))
                      (try simp only [Act.put, List.setIfInBounds_toArray, List.set_cons_zero, List.set_cons_succ])
                      refine wpAnyZ_take (i := 12) (v := ?v12) rfl (by kernel_rfl) (by kernel_rfl) (by kernel_rfl) (by kernel_rfl) (by kernel_rfl) (fun _ _ _ h => h) (Or.inl ⟨by rfl, ?hy12⟩) ⟨g4, s0, s1, s2, z0, z1⟩ ?rest12
                      case hy12 => (intro w' hw'; obtain ⟨h0, h1, h2, h3, h4, h5⟩ := hw'; go_simp; (try with_reducible rfl))
                      (try simp only [Act.put, List.setIfInBounds_toArray, List.set_cons_zero, List.set_cons_succ])
                      refine wpAnyZ_take (i := 13) (v := ?v13) rfl (by kernel_rfl) (by kernel_rfl) (by kernel_rfl) (by kernel_rfl) (by kernel_rfl) (fun _ _ _ h => h) (Or.inl ⟨by rfl, ?hy13⟩) ⟨g4, s0, s1, s2, z0, z1⟩ ?rest13
                      case hy13 => (intro w' hw'; obtain ⟨h0, h1, h2, h3, h4, h5⟩ := hw'; go_simp; (try with_reducible rfl))
                      (try simp only [Act.put, List.setIfInBounds_toArray, List.set_cons_zero, List.set_cons_succ])
                      refine wpAnyZ_take (i := 14) (v := ?v14) rfl (by kernel_rfl) (by kernel_rfl) (by kernel_rfl) (by kernel_rfl) (by kernel_rfl) (fun _ _ _ h => h) (Or.inl ⟨by rfl, ?hy14⟩) ⟨g4, s0, s1, s2, z0, z1⟩ ?rest14
                      case hy14 => (intro w' hw'; obtain ⟨h0, h1, h2, h3, h4, h5⟩ := hw'; go_simp; (try with_reducible rfl))
                      (try simp only [Act.put, List.setIfInBounds_toArray, List.set_cons_zero, List.set_cons_succ])
                      refine wpAnyZ_one (i := 15) rfl (by kernel_rfl) (fun K hK => ?_)
                      go_simp
                      refine hK.out _ _ (.inr ⟨g4', s06, s16, s26, z06, z16⟩) ?_
                      clear hK K
                      (try simp only [Act.put, List.setIfInBounds_toArray, List.set_cons_zero, List.set_cons_succ])
                      refine wpAnyZ_one (i := 16) rfl (by kernel_rfl) (fun K hK => ?_)
                      refine step_appR rfl (.tmp 154) (.tmp 168) _ _ rfl (.slice T gn c) (.slice (some ⟨W2.heap.size, 0, none⟩) 1 1) (.slice T3 (gn + 1) c3) (by go_simp) (by go_simp) HRUN.out ?_
                      refine hK.out _ _ (.inr ⟨p4, s05, s15, s25, z05, z15⟩) ?_
                      clear hK K
                      (try simp only [Act.put, List.setIfInBounds_toArray, List.set_cons_zero, List.set_cons_succ])
                      refine wpAnyZ_take (i := 17) (v := ?v17) rfl (by kernel_rfl) (by kernel_rfl) (by kernel_rfl) (by kernel_rfl) (by kernel_rfl) (fun _ _ _ h => h) (Or.inl ⟨by rfl, ?hy17⟩) ⟨p4, s05, s15, s25, z05, z15⟩ ?rest17
                      case hy17 => (intro w' hw'; obtain ⟨h0, h1, h2, h3, h4, h5⟩ := hw'; go_simp; (try with_reducible rfl))
                      (try simp only [Act.put, List.setIfInBounds_toArray, List.set_cons_zero, List.set_cons_succ])
                      refine wpAnyZ_one (i := 18) rfl (by kernel_rfl) (fun K hK => ?_)
                      go_simp
                      refine hK.out _ _ (.inl rfl) ?_
                      clear hK K
                      refine wpAnyZ_done (by kernel_rfl) ?_ _
                      go_wp2_with fail
                      go_roundw
                      case rel => exact ⟨k + 1, _, HX.out, by go_num, HMR.out⟩
                      case measure => simp [intOf]; omega
                · have q1 : ¬ (k : Int) < (a.ss.length : Int) := by omega
                  obtain rfl : k = a.ss.length := by omega
                  clear hrds
                  go_wp2_with fail
                  go_meet
                  exact ⟨sv, HM.out⟩
            case rest =>
              obtain ⟨sv, HM3⟩ := hcut
              clear HM2
              obtain ⟨g0, g1, g2, g3, g4, gf0, gf1, gf2, gf3, gf4⟩ := obj5 HM3.out.au.obj
              obtain ⟨r0, r1, r2, r3, r4, rf0, rf1, rf2, rf3, rf4⟩ := obj5 (HOW.out _ HM3.out.far)
              obtain ⟨A', B', C', ca', cb', cc', rfl, rfl, rfl, hrd⟩ := HM3.out.au.rd (by
                  unfold keptF
                  rw [List.length_map]
                  have := List.length_filter_le (kp inn) (a.fs.take a.fs.length)
                  have := List.length_take_le a.fs.length a.fs
                  have := HFL.out
                  have := HN.out
                  omega) (by rw [keptG_len (by rw [HLEN.out]; exact Nat.le_refl _)]; have : pos inn N ≤ N := by { unfold pos; exact Nat.le_trans (List.count_le_length ..) (by simp; omega) }
                             omega) (by
                  unfold keptS
                  rw [List.length_map]
                  have := List.length_filter_le (fun s => kp inn s.f && kp inn s.t) (a.ss.take a.ss.length)
                  have := List.length_take_le a.ss.length a.ss
                  have := HO.out.sl
                  omega)
              have HP : Hid (MdPost w (trimV a) (.returned (.agg #[.int .i64 (pos inn N : Nat), .int .i64 a.le, .slice A' (keptF a inn a.fs.length).length ca', .slice B' (keptG a.gs inn N).length cb', .slice C' (keptS a inn a.ss.length).length cc'])) (set5 wc (V + 1) (.int .i64 (pos inn N : Nat)) (.int .i64 a.le) (.slice A' (keptF a inn a.fs.length).length ca') (.slice B' (keptG a.gs inn N).length cb') (.slice C' (keptS a inn a.ss.length).length cc'))) := by
                rw [HTV.out, HMD.out]
                exact ⟨A', B', C', ca', cb', cc', rfl, (hrd.set5_ (by omega) _ _ _ _ _).low (by omega), below_set5 (HBW.out _ HM3.out.far) (by have := HVV.out; omega) _ _ _ _ _⟩
              have HOO := Lib.hid (set5_heap (HOW.out _ HM3.out.far) (.int .i64 (pos inn N : Nat)) (.int .i64 a.le) (.slice A' (keptF a inn a.fs.length).length ca') (.slice B' (keptG a.gs inn N).length cb') (.slice C' (keptS a inn a.ss.length).length cc'))
              clear hrd HM3
              generalize (keptF a inn a.fs.length).length = n1 at *
              generalize (keptG a.gs inn N).length = n2 at *
              generalize (keptS a inn a.ss.length).length = n3 at *
              go_wp2_with fail
              exact bodyPost_ret (retAuP Tryd.results10 _ _ (V + 1) rfl HOO.out) rfl HP.out
end Go.Proofs.YtoglgeaiiipchabDoor
