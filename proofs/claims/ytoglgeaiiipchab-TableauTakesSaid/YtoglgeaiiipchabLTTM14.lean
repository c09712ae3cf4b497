/- Walks: the tableau's truths. -/
import Derived.Test.YtoglgeaiiipchabLTTM13
set_option linter.unusedSimpArgs false
set_option linter.unusedVariables false
namespace Go.Proofs.Ytoglgeaiiipchab
open Go Go.RowKit Go.Maps Go.Shelf

def TrPost (w : World) (row : List Bool) (e : Ending) (w' : World) : Prop := ∃ G, e = .returned (.slice (some ⟨G, 0, none⟩) row.length row.length) ∧ w.heap.size ≤ G ∧ BRow w' G row ∧ Below w.heap.size w w'
theorem bit_and {n t : Nat} (hn : n < 16) (ht : t ≤ 4) : (bits BinOp.and IntKind.i64 ((n : Int) / 2 ^ t) 1 == 1) = n.testBit t := by
  have : ∀ n : Fin 16, ∀ t : Fin 5, (bits BinOp.and IntKind.i64 (((n : Nat) : Int) / 2 ^ (t : Nat)) 1 == 1) = (n : Nat).testBit t := by decide +kernel
  exact this ⟨n, hn⟩ ⟨t, by omega⟩
theorem bit_let {c t : Nat} (hn : c < 8) (ht : t ≤ 2) : (bits BinOp.and IntKind.i64 ((c : Int) / 2 ^ t) 1 == 1) = bitOf (c : Int) t := by
  have : ∀ n : Fin 8, ∀ t : Fin 3, (bits BinOp.and IntKind.i64 (((n : Nat) : Int) / 2 ^ (t : Nat)) 1 == 1) = bitOf ((n : Nat) : Int) t := by decide +kernel
  exact this ⟨c, hn⟩ ⟨t, by omega⟩
theorem fm_len {f : List Nd} (hf : FmOK f) : f.length ≤ 1000000 := by
  have := hf.few
  unfold tooMany at this
  simp at this
  omega
set_option maxRecDepth 100000 in
set_option maxHeartbeats 8000000 in
theorem truths_ (f : List Nd) (hf : FmOK f) (c nx : Nat) (hc : c < 8) (hnx : nx < 2 ^ tn f) (Bk M : Nat) (FA GA : Option Addr) (fc gc : Nat) (w : World) (hT : TbAt w Bk M f FA fc GA gc) :
    Calls Try.prog 100 #[.pointer (some ⟨Bk, 0, none⟩), .int .i64 (c : Int), .int .i64 (nx : Int)] w (TrPost w (truths f c nx)) := by
  have ht4 := tn_le hf
  have h16 : 2 ^ tn f ≤ 16 := Nat.pow_le_pow_right (n := 2) (by decide) ht4.1
  have hfl : f.length ≤ 1000000 := fm_len hf
  have hmk := run_makeBools (f.length : Int) f.length rfl hfl
  have HT := Lib.hid hT
  have HF := Lib.hid hf
  have c0 := hT.c0
  have c1 := hT.c1
  have HNX : Hid (nx < 2 ^ tn f) := hnx
  have hn16 : nx < 16 := by omega
  clear hT hf hnx h16
  go_enter Try.func100, Try.ntmps100
  go_upto_region 2 with fail
  have hal : Below w.heap.size w (w.alloc (Obj.cells (madeCells #[Value.bool false] f.length) 4)) := (Below.refl _ _).alloc (Nat.le_refl _) _
  have HG0 := Lib.hid (BRow.new w f.length)
  have HT1 := Lib.hid (HT.out.on hal)
  have HB1 := Lib.hid hal
  obtain ⟨G, hG⟩ : ∃ G, G = w.heap.size := ⟨_, rfl⟩
  rw [← hG] at HG0 ⊢
  have HGG := Lib.hid hG
  clear hG hal hmk c0 c1
  generalize w.alloc (Obj.cells (madeCells #[Value.bool false] f.length) 4) = W1 at *
  have c0 := HT1.out.c0
  have c1 := HT1.out.c1
  go_wp2_with fail
  go_loopw [24] (fun v24 wr => ∃ i : Nat, i ≤ f.length ∧ v24 = .int .i64 (i : Int) ∧ Hid (TbAt wr Bk M f FA fc GA gc) ∧ Hid (BRow wr G (trR f c nx i)) ∧ Hid (Below w.heap.size w wr)) (fun v24 _ => f.length - (intOf v24).toNat)
  case atStart => exact ⟨0, Nat.zero_le _, rfl, HT1.out, by show BRow _ _ _; unfold trR; simpa [trs] using HG0.out, HB1.out⟩
  case round =>
    obtain ⟨i, hi, rfl, HTR, HGR, HBR⟩ := hrel
    clear c0 c1 HT1 HG0 HB1
    by_cases hil : i < f.length
    · have q1 : (i : Int) < (f.length : Int) := by omega
      have hle := HTR.out.fm.le
      obtain ⟨fb, fo, rfl, _, _, x0, x1, x2, x3⟩ := Nds.at_ HTR.out.fm hil
      have HXK := Lib.hid (ndErr_zero.1 (HF.out.nd i hil))
      have HXE : Hid (f.getD i nond = f[i]) := by show _ = _; rw [List.getD_eq_getElem?_getD, List.getElem?_eq_getElem hil]; rfl
      generalize f[i] = x at *
      have c0 := HTR.out.c0
      have c1 := HTR.out.c1
      go_upto_region 5 with fail
      have hba : Below wr.heap.size wr (wr.alloc (Obj.cells #[.int .i64 x.k, .int .i64 x.a, .int .i64 x.b, .int .i64 x.n] 74)) := (Below.refl _ _).alloc (Nat.le_refl _) _
      have HTA := Lib.hid (HTR.out.on hba)
      have HGA := Lib.hid (HGR.out.below hba HGR.out.lt)
      have HBA := Lib.hid (Below_on HBR.out hba HBR.out.size)
      have HZA : Hid ((wr.alloc (Obj.cells #[.int .i64 x.k, .int .i64 x.a, .int .i64 x.b, .int .i64 x.n] 74)).heap[wr.heap.size]? = some (.cells #[.int .i64 x.k, .int .i64 x.a, .int .i64 x.b, .int .i64 x.n] 74 (0, 0))) := World.alloc_heap_new _ _
      obtain ⟨Z, hZ⟩ : ∃ Z, Z = wr.heap.size := ⟨_, rfl⟩
      rw [← hZ] at HZA ⊢
      have hGZ : Hid (G ≠ Z) := by have := HGR.out.lt; show _ ≠ _; omega
      clear hZ hba c0 c1 x0 x1 x2 x3
      generalize wr.alloc (Obj.cells #[.int .i64 x.k, .int .i64 x.a, .int .i64 x.b, .int .i64 x.n] 74) = Wa at *
      have c1 := HTA.out.c1
      have z0 : Wa.cell? ⟨Z, 0, none⟩ = some (.int .i64 x.k) := by simp [World.cell?, HZA.out]
      have z1 : Wa.cell? ⟨Z, 1, none⟩ = some (.int .i64 x.a) := by simp [World.cell?, HZA.out]
      have z2 : Wa.cell? ⟨Z, 2, none⟩ = some (.int .i64 x.b) := by simp [World.cell?, HZA.out]
      have z3 : Wa.cell? ⟨Z, 3, none⟩ = some (.int .i64 x.n) := by simp [World.cell?, HZA.out]
      have hii : (Lit.int .i64 (i : Int)).wf = true := WalkArith.wf_i64 (by omega)
      have htl : tix f i ≤ 4 := by
        have := tix_mono (f := f) (i := i) (j := f.length) hi (Nat.le_refl _)
        have := ht4.1
        unfold tn at this
        omega
      have hlk : (Instr.lookup 109 (.map (some M)) (.int .i64 (i : Int)) true).run Try.prog Wa = .ok (.tuple #[.int .i64 (if isTmp x.k = true then (tix f i : Int) else 0), .bool (isTmp x.k)]) Wa := by
        cases ht : isTmp x.k with
        | true =>
          rw [if_pos rfl]
          exact HTA.out.at_.hit (atD_nodup _ _) hii (atD_mem.2 ⟨i, hil, by rw [HXE.out]; exact ht, rfl, rfl⟩)
        | false =>
          rw [if_neg (by simp)]
          exact HTA.out.at_.miss hii fun h => by
            obtain ⟨j, _, h2, h3⟩ := atD_key.1 h
            obtain rfl : i = j := by omega
            rw [HXE.out, ht] at h2
            cases h2
      have HIL := Lib.hid hil
      obtain ⟨s0, s1⟩ := HGA.out.getD_ (i := i) (by rw [trR_len hi]; exact hil) false
      have HST : Hid (∀ v, trAt f c nx (trs f c nx i) i = v → TbAt (Wa.setCell ⟨G, i, none⟩ (.bool v)) Bk M f (some ⟨fb, fo, none⟩) fc GA gc ∧ BRow (Wa.setCell ⟨G, i, none⟩ (.bool v)) G (trR f c nx (i + 1)) ∧ Below w.heap.size w (Wa.setCell ⟨G, i, none⟩ (.bool v))) := fun v hv => by
        have hb := HBA.out.setCell (p := ⟨G, i, none⟩) (by have := HGG.out; show _ ≤ G; omega) (.bool v)
        refine ⟨HT.out.on hb, ?_, hb⟩
        rw [← trR_set hil, hv]
        exact HGA.out.set_ i v
      obtain ⟨lt, hlt⟩ : ∃ b, (bits BinOp.and IntKind.i64 ((nx : Int) / 2 ^ tix f i) 1 == 1) = b := ⟨_, rfl⟩
      have HLT : Hid (lt = nx.testBit (tix f i)) := by show _ = _; rw [← hlt]; exact bit_and hn16 htl
      generalize htt : tix f i = t at *
      generalize HOO : trs f c nx i = oo at *
      by_cases hk : x.k = 1
      · have ht : isTmp x.k = false := by rw [hk]; rfl
        rw [ht, if_neg (by simp)] at hlk
        rw [hk] at z0
        have HV : Hid (trAt f c nx oo i = (true)) := by
          show _ = _
          unfold trAt; rw [HXE.out]; simp [hk]
        clear hk ht HXK HXE
        go_wp2_with fail
        go_roundw
        case rel => exact ⟨i + 1, HIL.out, by go_num, (HST.out _ HV.out).1, (HST.out _ HV.out).2.1, (HST.out _ HV.out).2.2⟩
        case measure => simp [intOf]; have := HIL.out; omega
      have k1 : (x.k == 1) = false := by simp [hk]
      have HK1 := Lib.hid hk
      clear hk
      by_cases hk : x.k = 2
      · have ht : isTmp x.k = false := by rw [hk]; rfl
        rw [ht, if_neg (by simp)] at hlk
        rw [hk] at z0
        obtain ⟨hN1, hN2⟩ := HXK.out.n hk
        obtain ⟨nn, hnn⟩ := Int.eq_ofNat_of_zero_le hN1
        rw [hnn] at z3
        have hn2 : nn ≤ 2 := by omega
        have hbo : (bits BinOp.and IntKind.i64 ((c : Int) / 2 ^ nn) 1 == 1) = bitOf (c : Int) nn := bit_let hc hn2
        generalize hbv : bitOf (c : Int) nn = bv at *
        have HV : Hid (trAt f c nx oo i = (bv)) := by
          show _ = _
          unfold trAt; rw [HXE.out]; simp [hk, hnn, hbv]
        clear hk ht HXK HXE hN1 hN2 hnn hbv
        go_wp2_with fail
        go_roundw
        case rel => exact ⟨i + 1, HIL.out, by go_num, (HST.out _ HV.out).1, (HST.out _ HV.out).2.1, (HST.out _ HV.out).2.2⟩
        case measure => simp [intOf]; have := HIL.out; omega
      have k2 : (x.k == 2) = false := by simp [hk]
      have HK2 := Lib.hid hk
      clear hk
      by_cases hk : x.k = 3
      · have ht : isTmp x.k = false := by rw [hk]; rfl
        rw [ht, if_neg (by simp)] at hlk
        rw [hk] at z0
        obtain ⟨hA1, hA2⟩ := HXK.out.a (by omega)
        obtain ⟨aa, haa⟩ := Int.eq_ofNat_of_zero_le hA1
        rw [haa] at z1
        have hal : aa < i := by omega
        have qa : (aa : Int) < (f.length : Int) := by omega
        obtain ⟨ya, _⟩ := HGA.out.getD_ (i := aa) (by rw [trR_len hi]; omega) false
        rw [trR_get hal, HOO] at ya
        have hva : oo.getD x.a.toNat false = oo.getD aa false := by rw [haa]; rfl
        generalize oo.getD aa false = va at *
        have HV : Hid (trAt f c nx oo i = (!va)) := by
          show _ = _
          unfold trAt; rw [HXE.out]; simp [hk]; rw [← List.getD_eq_getElem?_getD, hva]
        clear hk ht HXK HXE hA1 hA2 haa hal hva
        go_wp2_with fail
        go_roundw
        case rel => exact ⟨i + 1, HIL.out, by go_num, (HST.out _ HV.out).1, (HST.out _ HV.out).2.1, (HST.out _ HV.out).2.2⟩
        case measure => simp [intOf]; have := HIL.out; omega
      have k3 : (x.k == 3) = false := by simp [hk]
      have HK3 := Lib.hid hk
      clear hk
      by_cases hk : x.k = 4
      · have ht : isTmp x.k = false := by rw [hk]; rfl
        rw [ht, if_neg (by simp)] at hlk
        rw [hk] at z0
        obtain ⟨hA1, hA2⟩ := HXK.out.a (by omega)
        obtain ⟨aa, haa⟩ := Int.eq_ofNat_of_zero_le hA1
        rw [haa] at z1
        have hal : aa < i := by omega
        have qa : (aa : Int) < (f.length : Int) := by omega
        obtain ⟨ya, _⟩ := HGA.out.getD_ (i := aa) (by rw [trR_len hi]; omega) false
        rw [trR_get hal, HOO] at ya
        have hva : oo.getD x.a.toNat false = oo.getD aa false := by rw [haa]; rfl
        generalize oo.getD aa false = va at *
        obtain ⟨hB1, hB2⟩ := HXK.out.b (by omega)
        obtain ⟨bb, hbb⟩ := Int.eq_ofNat_of_zero_le hB1
        rw [hbb] at z2
        have hbl : bb < i := by omega
        have qb : (bb : Int) < (f.length : Int) := by omega
        obtain ⟨yb, _⟩ := HGA.out.getD_ (i := bb) (by rw [trR_len hi]; omega) false
        rw [trR_get hbl, HOO] at yb
        have hvb : oo.getD x.b.toNat false = oo.getD bb false := by rw [hbb]; rfl
        generalize oo.getD bb false = vb at *
        have HV : Hid (trAt f c nx oo i = (va && vb)) := by
          show _ = _
          unfold trAt; rw [HXE.out]; simp [hk]; rw [← List.getD_eq_getElem?_getD, ← List.getD_eq_getElem?_getD, hva, hvb]
        clear hk ht HXK HXE hA1 hA2 haa hal hva hB1 hB2 hbb hbl hvb
        cases va
        all_goals
          go_wp2_with fail
          go_roundw
          case rel => exact ⟨i + 1, HIL.out, by go_num, (HST.out _ HV.out).1, (HST.out _ HV.out).2.1, (HST.out _ HV.out).2.2⟩
          case measure => simp [intOf]; have := HIL.out; omega
      have k4 : (x.k == 4) = false := by simp [hk]
      have HK4 := Lib.hid hk
      clear hk
      by_cases hk : x.k = 5
      · have ht : isTmp x.k = false := by rw [hk]; rfl
        rw [ht, if_neg (by simp)] at hlk
        rw [hk] at z0
        obtain ⟨hA1, hA2⟩ := HXK.out.a (by omega)
        obtain ⟨aa, haa⟩ := Int.eq_ofNat_of_zero_le hA1
        rw [haa] at z1
        have hal : aa < i := by omega
        have qa : (aa : Int) < (f.length : Int) := by omega
        obtain ⟨ya, _⟩ := HGA.out.getD_ (i := aa) (by rw [trR_len hi]; omega) false
        rw [trR_get hal, HOO] at ya
        have hva : oo.getD x.a.toNat false = oo.getD aa false := by rw [haa]; rfl
        generalize oo.getD aa false = va at *
        obtain ⟨hB1, hB2⟩ := HXK.out.b (by omega)
        obtain ⟨bb, hbb⟩ := Int.eq_ofNat_of_zero_le hB1
        rw [hbb] at z2
        have hbl : bb < i := by omega
        have qb : (bb : Int) < (f.length : Int) := by omega
        obtain ⟨yb, _⟩ := HGA.out.getD_ (i := bb) (by rw [trR_len hi]; omega) false
        rw [trR_get hbl, HOO] at yb
        have hvb : oo.getD x.b.toNat false = oo.getD bb false := by rw [hbb]; rfl
        generalize oo.getD bb false = vb at *
        have HV : Hid (trAt f c nx oo i = (va || vb)) := by
          show _ = _
          unfold trAt; rw [HXE.out]; simp [hk]; rw [← List.getD_eq_getElem?_getD, ← List.getD_eq_getElem?_getD, hva, hvb]
        clear hk ht HXK HXE hA1 hA2 haa hal hva hB1 hB2 hbb hbl hvb
        cases va
        all_goals
          go_wp2_with fail
          go_roundw
          case rel => exact ⟨i + 1, HIL.out, by go_num, (HST.out _ HV.out).1, (HST.out _ HV.out).2.1, (HST.out _ HV.out).2.2⟩
          case measure => simp [intOf]; have := HIL.out; omega
      have k5 : (x.k == 5) = false := by simp [hk]
      have HK5 := Lib.hid hk
      clear hk
      by_cases hk : x.k = 6
      · have ht : isTmp x.k = true := by rw [hk]; rfl
        rw [ht, if_pos rfl] at hlk
        rw [hk] at z0
        obtain ⟨hA1, hA2⟩ := HXK.out.a (by omega)
        obtain ⟨aa, haa⟩ := Int.eq_ofNat_of_zero_le hA1
        rw [haa] at z1
        have hal : aa < i := by omega
        have qa : (aa : Int) < (f.length : Int) := by omega
        obtain ⟨ya, _⟩ := HGA.out.getD_ (i := aa) (by rw [trR_len hi]; omega) false
        rw [trR_get hal, HOO] at ya
        have hva : oo.getD x.a.toNat false = oo.getD aa false := by rw [haa]; rfl
        generalize oo.getD aa false = va at *
        have HV : Hid (trAt f c nx oo i = (lt)) := by
          show _ = _
          unfold trAt; rw [HXE.out, htt, ← HLT.out]; simp [hk, isTmp, btw]
        clear hk ht HXK HXE hA1 hA2 haa hal hva
        go_wp2_with fail
        go_roundw
        case rel => exact ⟨i + 1, HIL.out, by go_num, (HST.out _ HV.out).1, (HST.out _ HV.out).2.1, (HST.out _ HV.out).2.2⟩
        case measure => simp [intOf]; have := HIL.out; omega
      have k6 : (x.k == 6) = false := by simp [hk]
      have HK6 := Lib.hid hk
      clear hk
      by_cases hk : x.k = 7
      · have ht : isTmp x.k = true := by rw [hk]; rfl
        rw [ht, if_pos rfl] at hlk
        rw [hk] at z0
        obtain ⟨hA1, hA2⟩ := HXK.out.a (by omega)
        obtain ⟨aa, haa⟩ := Int.eq_ofNat_of_zero_le hA1
        rw [haa] at z1
        have hal : aa < i := by omega
        have qa : (aa : Int) < (f.length : Int) := by omega
        obtain ⟨ya, _⟩ := HGA.out.getD_ (i := aa) (by rw [trR_len hi]; omega) false
        rw [trR_get hal, HOO] at ya
        have hva : oo.getD x.a.toNat false = oo.getD aa false := by rw [haa]; rfl
        generalize oo.getD aa false = va at *
        obtain ⟨hB1, hB2⟩ := HXK.out.b (by omega)
        obtain ⟨bb, hbb⟩ := Int.eq_ofNat_of_zero_le hB1
        rw [hbb] at z2
        have hbl : bb < i := by omega
        have qb : (bb : Int) < (f.length : Int) := by omega
        obtain ⟨yb, _⟩ := HGA.out.getD_ (i := bb) (by rw [trR_len hi]; omega) false
        rw [trR_get hbl, HOO] at yb
        have hvb : oo.getD x.b.toNat false = oo.getD bb false := by rw [hbb]; rfl
        generalize oo.getD bb false = vb at *
        have HV : Hid (trAt f c nx oo i = (vb || va && lt)) := by
          show _ = _
          unfold trAt; rw [HXE.out, htt, ← HLT.out]; simp [hk, isTmp, btw]; rw [← List.getD_eq_getElem?_getD, ← List.getD_eq_getElem?_getD, hva, hvb]
        clear hk ht HXK HXE hA1 hA2 haa hal hva hB1 hB2 hbb hbl hvb
        cases vb <;> cases va
        all_goals
          go_wp2_with fail
          go_roundw
          case rel => exact ⟨i + 1, HIL.out, by go_num, (HST.out _ HV.out).1, (HST.out _ HV.out).2.1, (HST.out _ HV.out).2.2⟩
          case measure => simp [intOf]; have := HIL.out; omega
      have k7 : (x.k == 7) = false := by simp [hk]
      have HK7 := Lib.hid hk
      clear hk
      have hk : x.k = 8 := by have := HXK.out.k; have := HK1.out; have := HK2.out; have := HK3.out; have := HK4.out; have := HK5.out; have := HK6.out; have := HK7.out; omega
      clear k1 k2 k3 k4 k5 k6 k7 HK1 HK2 HK3 HK4 HK5 HK6 HK7
      have ht : isTmp x.k = true := by rw [hk]; rfl
      rw [ht, if_pos rfl] at hlk
      rw [hk] at z0
      obtain ⟨hA1, hA2⟩ := HXK.out.a (by omega)
      obtain ⟨aa, haa⟩ := Int.eq_ofNat_of_zero_le hA1
      rw [haa] at z1
      have hal : aa < i := by omega
      have qa : (aa : Int) < (f.length : Int) := by omega
      obtain ⟨ya, _⟩ := HGA.out.getD_ (i := aa) (by rw [trR_len hi]; omega) false
      rw [trR_get hal, HOO] at ya
      have hva : oo.getD x.a.toNat false = oo.getD aa false := by rw [haa]; rfl
      generalize oo.getD aa false = va at *
      obtain ⟨hB1, hB2⟩ := HXK.out.b (by omega)
      obtain ⟨bb, hbb⟩ := Int.eq_ofNat_of_zero_le hB1
      rw [hbb] at z2
      have hbl : bb < i := by omega
      have qb : (bb : Int) < (f.length : Int) := by omega
      obtain ⟨yb, _⟩ := HGA.out.getD_ (i := bb) (by rw [trR_len hi]; omega) false
      rw [trR_get hbl, HOO] at yb
      have hvb : oo.getD x.b.toNat false = oo.getD bb false := by rw [hbb]; rfl
      generalize oo.getD bb false = vb at *
      have HV : Hid (trAt f c nx oo i = (vb && (va || lt))) := by
        show _ = _
        unfold trAt; rw [HXE.out, htt, ← HLT.out]; simp [hk, isTmp, btw]; rw [← List.getD_eq_getElem?_getD, ← List.getD_eq_getElem?_getD, hva, hvb]
      clear hk ht HXK HXE hA1 hA2 haa hal hva hB1 hB2 hbb hbl hvb
      cases vb <;> cases va
      all_goals
        go_wp2_with fail
        go_roundw
        case rel => exact ⟨i + 1, HIL.out, by go_num, (HST.out _ HV.out).1, (HST.out _ HV.out).2.1, (HST.out _ HV.out).2.2⟩
        case measure => simp [intOf]; have := HIL.out; omega
    · have q1 : ¬ (i : Int) < (f.length : Int) := by omega
      obtain rfl : i = f.length := by omega
      rw [trR_end] at HGR
      have HP : Hid (TrPost w (truths f c nx) (.returned (.slice (some ⟨G, 0, none⟩) f.length f.length)) wr) := by
        have hl : (truths f c nx).length = f.length := trs_len f c nx f.length
        exact ⟨G, by rw [hl], by have := HGG.out; omega, HGR.out, HBR.out⟩
      go_wp2_with fail
      go_ret
      exact HP.out
end Go.Proofs.Ytoglgeaiiipchab
