import Derived.Test.YtoglgeaiiipchaaGreatDoorLMTKM10
set_option linter.unusedSimpArgs false
set_option linter.unusedVariables false
namespace Go.Proofs.YtoglgeaiiipchaaGreatDoor
open Go Go.RowKit Go.Maps Go.Shelf
theorem below_of_grown {a b : World} {row : Option Nat} {B : Nat} (h : a.grownBy b row) (hB : B ≤ a.heap.size) (hr : ∀ r, row = some r → B ≤ r) : Below B a b :=
  ⟨h.os, h.tape, h.output, h.size, fun k hk => h.block k (by omega) (fun e => by have := hr k e.symm; omega)⟩
theorem bit_or {n t : Nat} (hn : n < 16) (ht : t ≤ 4) : bits BinOp.or IntKind.i64 (n : Int) (wrap64 (2 ^ t)) = ((n ||| 2 ^ t : Nat) : Int) := by
  have : ∀ n : Fin 16, ∀ t : Fin 5, bits BinOp.or IntKind.i64 ((n : Nat) : Int) (wrap64 (2 ^ (t : Nat))) = (((n : Nat) ||| 2 ^ (t : Nat) : Nat) : Int) := by decide +kernel
  exact this ⟨n, hn⟩ ⟨t, by omega⟩
structure KpM (f : List Nd) (t : List Bool) (left : Lit → Bool) (p : Nat) : Prop where
  lt : p < 2 ^ tn f
  bit : ∀ i, i < f.length → isTmp (f.getD i nond).k = true → p.testBit (tix f i) = (!left (.int .i64 (i : Int)) && keptV f t i)
theorem KpM.start (f : List Nd) (t : List Bool) : KpM f t (Maps.has (itD (atD f f.length))) 0 :=
  ⟨Nat.two_pow_pos _, fun i hi ht => by
    rw [itD_has (atD_nodup f f.length) (atD_mem.2 ⟨i, hi, ht, rfl, rfl⟩)]
    simp⟩
theorem KpM.done {f : List Nd} {t : List Bool} {left : Lit → Bool} {p : Nat} (h : KpM f t left p) (hl : ∀ k, left k = false) : KeptIs f t p :=
  ⟨h.lt, fun i hi ht => by rw [h.bit i hi ht, hl]; simp⟩
theorem KpM.step {f : List Nd} {t : List Bool} {left : Lit → Bool} {p i : Nat} (h : KpM f t left p) (hi : i < f.length) (ht : isTmp (f.getD i nond).k = true) (hl : left (.int .i64 (i : Int)) = true) :
    KpM f t (fun z => left z && !z.sameKey (.int .i64 (i : Int))) (if keptV f t i = true then p ||| 2 ^ tix f i else p) := by
  have hb := h.bit i hi ht
  rw [hl] at hb
  have same : ∀ j : Nat, (Lit.int .i64 (j : Int)).sameKey (.int .i64 (i : Int)) = decide (j = i) := fun j => by
    simp [Lit.sameKey]
    omega
  refine ⟨?_, fun j hj hjt => ?_⟩
  · split
    · exact Nat.or_lt_two_pow h.lt (Nat.pow_lt_pow_right (by decide) (tix_tn hi ht))
    · exact h.lt
  · have hbj := h.bit j hj hjt
    show _ = (!(left (.int .i64 (j : Int)) && !(Lit.int .i64 (j : Int)).sameKey (.int .i64 (i : Int))) && keptV f t j)
    rw [same j]
    by_cases hji : j = i
    · subst hji
      have hb0 : p.testBit (tix f j) = false := by simpa using hb
      cases hk : keptV f t j with
      | true => rw [if_pos rfl, Nat.testBit_or, hb0, Nat.testBit_two_pow_self]; simp
      | false => rw [if_neg (by simp), hb0]; simp
    · have hne : tix f i ≠ tix f j := fun e => hji (tix_inj hjt ht hj hi e.symm)
      rw [decide_eq_false hji]
      have hx : (if keptV f t i = true then p ||| 2 ^ tix f i else p).testBit (tix f j) = p.testBit (tix f j) := by
        split
        · rw [Nat.testBit_or, Nat.testBit_two_pow_of_ne hne, Bool.or_false]
        · rfl
      rw [hx, hbj]
      simp
set_option maxRecDepth 100000 in
set_option maxHeartbeats 8000000 in
theorem kept_ (f : List Nd) (hf : FmOK f) (t : List Bool) (hl : t.length = f.length) (G Bk M : Nat) (FA GA : Option Addr) (fc gc : Nat) (w : World) (hT : TbAt w Bk M f FA fc GA gc) (hG : BRow w G t) :
    Calls Tryz.prog 169 #[.pointer (some ⟨Bk, 0, none⟩), .slice (some ⟨G, 0, none⟩) t.length t.length] w fun e w' => ∃ p : Nat, e = .returned (.int .i64 (p : Int)) ∧ KeptIs f t p ∧ Below w.heap.size w w' := by
  have hown : w.ownsMap Tryz.prog 3 (plainElem Tryz.prog 3) M (atD f f.length).length (itD (atD f f.length)) := hT.at_
  have c1 := hT.c1
  have HT := Lib.hid hT
  have HG := Lib.hid hG
  have HF := Lib.hid hf
  have HL := Lib.hid hl
  clear hT hG hf hl
  go_enter Tryz.func169, Tryz.ntmps169
  go_wp2_with (first
    | (at_range; refine wpList_range_own _ rfl _ 165 rfl 3 3 keyedIt Tryz.underlying165 _ M _ _ rfl hown ?_; intro w0 hrg0 hg0 hs0)
    | go_in)
  go_frame
  clear c1 hown
  go_loopw [5] (fun v5 wr => ∃ (left : Lit → Bool) (cnt p : Nat), v5 = .int .i64 (p : Int) ∧ wr.ranges Tryz.prog 3 (plainElem (H := Unit) Tryz.prog 3) M w.heap.size (atD f f.length).length (itD (atD f f.length)) left cnt ∧ Hid (KpM f t left p) ∧ Hid (Below w.heap.size w wr)) (fun _ wr => wr.rangeLeft M w.heap.size)
  case atStart => exact ⟨_, _, 0, rfl, hrg0, KpM.start f t, below_of_grown hg0 (Nat.le_refl _) (fun r h => by cases h)⟩
  case round =>
    obtain ⟨left, cnt, p, rfl, hrg, HK, HB⟩ := hrel
    go_wp2_with (first
      | (at_next; refine wpList_next_ranges_ii _ rfl _ rfl 3 3 .i64 .i64 keyedIt Tryz.underlying3 Tryz.underlying3 M w.heap.size _ _ _ _ rfl hrg ?_ ?_)
      | go_in)
    · intro _ hl0
      have HP : Hid (∃ p' : Nat, Ending.returned (.int .i64 (p : Int)) = .returned (.int .i64 (p' : Int)) ∧ KeptIs f t p' ∧ Below w.heap.size w wr) := ⟨p, rfl, HK.out.done hl0, HB.out⟩
      clear hl0
      go_wp2_with fail
      go_ret
      exact HP.out
    · intro x c w1 cnt1 hwx hwc hlx hat hrg1 hlt hg1 hs1 hen
      rcases itD_entry (k := x) (v := c) hat with hm | ⟨v', _, hn⟩
      · obtain ⟨i, hi, ht, rfl, rfl⟩ := atD_mem.1 hm
        have HB1 := Lib.hid (Below_on HB.out (below_of_grown hg1 HB.out.size (fun r h => by cases h; exact Nat.le_refl _)) (Nat.le_refl _))
        have HTR := Lib.hid (HT.out.on HB1.out)
        have HGR := Lib.hid (HG.out.below HB1.out HG.out.lt)
        have HK1 := Lib.hid (HK.out.step hi ht hlx)
        have HX := ndErr_zero.1 (HF.out.nd i hi)
        have HE : Hid (f.getD i nond = f[i]) := by show _ = _; rw [List.getD_eq_getElem?_getD, List.getElem?_eq_getElem hi]; rfl
        have HKV : Hid (keptV f t i = if f[i].k = 6 then t.getD f[i].a.toNat false else t.getD i false) := by show _ = _; unfold keptV; rw [HE.out]
        have hle := HTR.out.fm.le
        obtain ⟨fb, fo, rfl, _, _, x0, x1, x2, x3⟩ := Nds.at_ HTR.out.fm hi
        rw [HE.out] at ht
        generalize f[i] = y at *
        have c0 := HTR.out.c0
        have q1 : (i : Int) < (f.length : Int) := by omega
        have q2 : (i : Int) < (t.length : Int) := by have := HL.out; omega
        obtain ⟨y0, _⟩ := HGR.out.getD_ (i := i) (by have := HL.out; omega) false
        have hk6 := isTmp_iff.1 ht
        obtain ⟨hA1, hA2⟩ := HX.a (by omega)
        obtain ⟨aa, haa⟩ := Int.eq_ofNat_of_zero_le hA1
        rw [haa] at x1 HKV
        rw [show ((aa : Nat) : Int).toNat = aa by omega] at HKV
        have q3 : (aa : Int) < (t.length : Int) := by have := HL.out; omega
        obtain ⟨y1, _⟩ := HGR.out.getD_ (i := aa) (by have := HL.out; omega) false
        have htl : tix f i ≤ 4 := by
          have := tix_mono (f := f) (i := i) (j := f.length) (by omega) (Nat.le_refl _)
          have := (tn_le HF.out).1
          unfold tn at this
          omega
        have hp16 : p < 16 := Nat.lt_of_lt_of_le HK.out.lt (Nat.pow_le_pow_right (n := 2) (by decide) (tn_le HF.out).1)
        have HRG := Lib.hid hrg1
        have HML : Hid (w1.rangeLeft M w.heap.size < wr.rangeLeft M w.heap.size) := by show _ < _; rw [hrg1.left_eq, hrg.left_eq]; exact hlt
        generalize t.getD i false = vi at *
        generalize t.getD aa false = va at *
        generalize tix f i = tx at *
        generalize keptV f t i = kv at *
        clear hm ht hA1 hA2 haa HX HE hk6 hat hlx hrg hrg1 hg1 hlt hg0 hrg0 hs0 hs1 HK
        by_cases h6 : y.k = 6
        · rw [if_pos h6] at HKV
          rw [h6] at x0
          clear h6
          cases va with
          | true =>
            go_wp2_with fail
            go_roundw
            case rel => exact ⟨_, _, p ||| 2 ^ tx, by rw [bit_or hp16 htl], HRG.out, by have := HK1.out; rw [HKV.out] at this; exact this, HB1.out⟩
            case measure => exact HML.out
          | false =>
            go_wp2_with fail
            go_roundw
            case rel => exact ⟨_, _, p, rfl, HRG.out, by have := HK1.out; rw [HKV.out] at this; exact this, HB1.out⟩
            case measure => exact HML.out
        · rw [if_neg h6] at HKV
          have e6 : (y.k == 6) = false := by simp [h6]
          clear h6
          cases vi with
          | true =>
            go_wp2_with fail
            go_roundw
            case rel => exact ⟨_, _, p ||| 2 ^ tx, by rw [bit_or hp16 htl], HRG.out, by have := HK1.out; rw [HKV.out] at this; exact this, HB1.out⟩
            case measure => exact HML.out
          | false =>
            go_wp2_with fail
            go_roundw
            case rel => exact ⟨_, _, p, rfl, HRG.out, by have := HK1.out; rw [HKV.out] at this; exact this, HB1.out⟩
            case measure => exact HML.out
      · exact absurd (atD_nodup _ _) hn
end Go.Proofs.YtoglgeaiiipchaaGreatDoor

namespace Go.Proofs.YtoglgeaiiipchaaGreatDoor
open Go Go.RowKit Go.Maps Go.Shelf
def TrPost (w : World) (row : List Bool) (e : Ending) (w' : World) : Prop := ∃ G, e = .returned (.slice (some ⟨G, 0, none⟩) row.length row.length) ∧ w.heap.size ≤ G ∧ BRow w' G row ∧ Below w.heap.size w w'
theorem bit_and {n t : Nat} (hn : n < 16) (ht : t ≤ 4) : (bits BinOp.and IntKind.i64 ((n : Int) / 2 ^ t) 1 == 1) = n.testBit t := by
  have : ∀ n : Fin 16, ∀ t : Fin 5, (bits BinOp.and IntKind.i64 (((n : Nat) : Int) / 2 ^ (t : Nat)) 1 == 1) = (n : Nat).testBit t := by decide +kernel
  exact this ⟨n, hn⟩ ⟨t, by omega⟩
theorem bit_let {c t : Nat} (hn : c < 8) (ht : t ≤ 2) : (bits BinOp.and IntKind.i64 ((c : Int) / 2 ^ t) 1 == 1) = bitOf (c : Int) t := by
  have : ∀ n : Fin 8, ∀ t : Fin 3, (bits BinOp.and IntKind.i64 (((n : Nat) : Int) / 2 ^ (t : Nat)) 1 == 1) = bitOf ((n : Nat) : Int) t := by decide +kernel
  exact this ⟨c, hn⟩ ⟨t, by omega⟩
theorem fm_len {f : List Nd} (hf : FmOK f) : f.length ≤ 1000000 := by
  have := hf.few
  unfold tooMany at this
  simp at this
  omega
set_option maxRecDepth 100000 in
set_option maxHeartbeats 8000000 in
theorem truths_ (f : List Nd) (hf : FmOK f) (c nx : Nat) (hc : c < 8) (hnx : nx < 2 ^ tn f) (Bk M : Nat) (FA GA : Option Addr) (fc gc : Nat) (w : World) (hT : TbAt w Bk M f FA fc GA gc) :
    Calls Tryz.prog 168 #[.pointer (some ⟨Bk, 0, none⟩), .int .i64 (c : Int), .int .i64 (nx : Int)] w (TrPost w (truths f c nx)) := by
  have ht4 := tn_le hf
  have h16 : 2 ^ tn f ≤ 16 := Nat.pow_le_pow_right (n := 2) (by decide) ht4.1
  have hfl : f.length ≤ 1000000 := fm_len hf
  have hmk := run_makeBools (f.length : Int) f.length rfl hfl
  have HT := Lib.hid hT
  have HF := Lib.hid hf
  have c0 := hT.c0
  have c1 := hT.c1
  have HNX : Hid (nx < 2 ^ tn f) := hnx
  have hn16 : nx < 16 := by omega
  clear hT hf hnx h16
  go_enter Tryz.func168, Tryz.ntmps168
  go_upto_region 2 with fail
  have hal : Below w.heap.size w (w.alloc (Obj.cells (madeCells #[Value.bool false] f.length) 4)) := (Below.refl _ _).alloc (Nat.le_refl _) _
  have HG0 := Lib.hid (BRow.new w f.length)
  have HT1 := Lib.hid (HT.out.on hal)
  have HB1 := Lib.hid hal
  obtain ⟨G, hG⟩ : ∃ G, G = w.heap.size := ⟨_, rfl⟩
  rw [← hG] at HG0 ⊢
  have HGG := Lib.hid hG
  clear hG hal hmk c0 c1
  generalize w.alloc (Obj.cells (madeCells #[Value.bool false] f.length) 4) = W1 at *
  have c0 := HT1.out.c0
  have c1 := HT1.out.c1
  go_wp2_with fail
  go_loopw [24] (fun v24 wr => ∃ i : Nat, i ≤ f.length ∧ v24 = .int .i64 (i : Int) ∧ Hid (TbAt wr Bk M f FA fc GA gc) ∧ Hid (BRow wr G (trR f c nx i)) ∧ Hid (Below w.heap.size w wr)) (fun v24 _ => f.length - (intOf v24).toNat)
  case atStart => exact ⟨0, Nat.zero_le _, rfl, HT1.out, by show BRow _ _ _; unfold trR; simpa [trs] using HG0.out, HB1.out⟩
  case round =>
    obtain ⟨i, hi, rfl, HTR, HGR, HBR⟩ := hrel
    clear c0 c1 HT1 HG0 HB1
    by_cases hil : i < f.length
    · have q1 : (i : Int) < (f.length : Int) := by omega
      have hle := HTR.out.fm.le
      obtain ⟨fb, fo, rfl, _, _, x0, x1, x2, x3⟩ := Nds.at_ HTR.out.fm hil
      have HXK := Lib.hid (ndErr_zero.1 (HF.out.nd i hil))
      have HXE : Hid (f.getD i nond = f[i]) := by show _ = _; rw [List.getD_eq_getElem?_getD, List.getElem?_eq_getElem hil]; rfl
      generalize f[i] = x at *
      have c0 := HTR.out.c0
      have c1 := HTR.out.c1
      go_upto_region 5 with fail
      have hba : Below wr.heap.size wr (wr.alloc (Obj.cells #[.int .i64 x.k, .int .i64 x.a, .int .i64 x.b, .int .i64 x.n] 63)) := (Below.refl _ _).alloc (Nat.le_refl _) _
      have HTA := Lib.hid (HTR.out.on hba)
      have HGA := Lib.hid (HGR.out.below hba HGR.out.lt)
      have HBA := Lib.hid (Below_on HBR.out hba HBR.out.size)
      have HZA : Hid ((wr.alloc (Obj.cells #[.int .i64 x.k, .int .i64 x.a, .int .i64 x.b, .int .i64 x.n] 63)).heap[wr.heap.size]? = some (.cells #[.int .i64 x.k, .int .i64 x.a, .int .i64 x.b, .int .i64 x.n] 63 (0, 0))) := World.alloc_heap_new _ _
      obtain ⟨Z, hZ⟩ : ∃ Z, Z = wr.heap.size := ⟨_, rfl⟩
      rw [← hZ] at HZA ⊢
      have hGZ : Hid (G ≠ Z) := by have := HGR.out.lt; show _ ≠ _; omega
      clear hZ hba c0 c1 x0 x1 x2 x3
      generalize wr.alloc (Obj.cells #[.int .i64 x.k, .int .i64 x.a, .int .i64 x.b, .int .i64 x.n] 63) = Wa at *
      have c1 := HTA.out.c1
      have z0 : Wa.cell? ⟨Z, 0, none⟩ = some (.int .i64 x.k) := by simp [World.cell?, HZA.out]
      have z1 : Wa.cell? ⟨Z, 1, none⟩ = some (.int .i64 x.a) := by simp [World.cell?, HZA.out]
      have z2 : Wa.cell? ⟨Z, 2, none⟩ = some (.int .i64 x.b) := by simp [World.cell?, HZA.out]
      have z3 : Wa.cell? ⟨Z, 3, none⟩ = some (.int .i64 x.n) := by simp [World.cell?, HZA.out]
      have hii : (Lit.int .i64 (i : Int)).wf = true := WalkArith.wf_i64 (by omega)
      have htl : tix f i ≤ 4 := by
        have := tix_mono (f := f) (i := i) (j := f.length) hi (Nat.le_refl _)
        have := ht4.1
        unfold tn at this
        omega
      have hlk : (Instr.lookup 165 (.map (some M)) (.int .i64 (i : Int)) true).run Tryz.prog Wa = .ok (.tuple #[.int .i64 (if isTmp x.k = true then (tix f i : Int) else 0), .bool (isTmp x.k)]) Wa := by
        cases ht : isTmp x.k with
        | true =>
          rw [if_pos rfl]
          exact HTA.out.at_.hit (atD_nodup _ _) hii (atD_mem.2 ⟨i, hil, by rw [HXE.out]; exact ht, rfl, rfl⟩)
        | false =>
          rw [if_neg (by simp)]
          exact HTA.out.at_.miss hii fun h => by
            obtain ⟨j, _, h2, h3⟩ := atD_key.1 h
            obtain rfl : i = j := by omega
            rw [HXE.out, ht] at h2
            cases h2
      have HIL := Lib.hid hil
      obtain ⟨s0, s1⟩ := HGA.out.getD_ (i := i) (by rw [trR_len hi]; exact hil) false
      have HST : Hid (∀ v, trAt f c nx (trs f c nx i) i = v → TbAt (Wa.setCell ⟨G, i, none⟩ (.bool v)) Bk M f (some ⟨fb, fo, none⟩) fc GA gc ∧ BRow (Wa.setCell ⟨G, i, none⟩ (.bool v)) G (trR f c nx (i + 1)) ∧ Below w.heap.size w (Wa.setCell ⟨G, i, none⟩ (.bool v))) := fun v hv => by
        have hb := HBA.out.setCell (p := ⟨G, i, none⟩) (by have := HGG.out; show _ ≤ G; omega) (.bool v)
        refine ⟨HT.out.on hb, ?_, hb⟩
        rw [← trR_set hil, hv]
        exact HGA.out.set_ i v
      obtain ⟨lt, hlt⟩ : ∃ b, (bits BinOp.and IntKind.i64 ((nx : Int) / 2 ^ tix f i) 1 == 1) = b := ⟨_, rfl⟩
      have HLT : Hid (lt = nx.testBit (tix f i)) := by show _ = _; rw [← hlt]; exact bit_and hn16 htl
      generalize htt : tix f i = t at *
      generalize HOO : trs f c nx i = oo at *
      by_cases hk : x.k = 1
      · have ht : isTmp x.k = false := by rw [hk]; rfl
        rw [ht, if_neg (by simp)] at hlk
        rw [hk] at z0
        have HV : Hid (trAt f c nx oo i = (true)) := by
          show _ = _
          unfold trAt; rw [HXE.out]; simp [hk]
        clear hk ht HXK HXE
        go_wp2_with fail
        go_roundw
        case rel => exact ⟨i + 1, HIL.out, by go_num, (HST.out _ HV.out).1, (HST.out _ HV.out).2.1, (HST.out _ HV.out).2.2⟩
        case measure => simp [intOf]; have := HIL.out; omega
      have k1 : (x.k == 1) = false := by simp [hk]
      have HK1 := Lib.hid hk
      clear hk
      by_cases hk : x.k = 2
      · have ht : isTmp x.k = false := by rw [hk]; rfl
        rw [ht, if_neg (by simp)] at hlk
        rw [hk] at z0
        obtain ⟨hN1, hN2⟩ := HXK.out.n hk
        obtain ⟨nn, hnn⟩ := Int.eq_ofNat_of_zero_le hN1
        rw [hnn] at z3
        have hn2 : nn ≤ 2 := by omega
        have hbo : (bits BinOp.and IntKind.i64 ((c : Int) / 2 ^ nn) 1 == 1) = bitOf (c : Int) nn := bit_let hc hn2
        generalize hbv : bitOf (c : Int) nn = bv at *
        have HV : Hid (trAt f c nx oo i = (bv)) := by
          show _ = _
          unfold trAt; rw [HXE.out]; simp [hk, hnn, hbv]
        clear hk ht HXK HXE hN1 hN2 hnn hbv
        go_wp2_with fail
        go_roundw
        case rel => exact ⟨i + 1, HIL.out, by go_num, (HST.out _ HV.out).1, (HST.out _ HV.out).2.1, (HST.out _ HV.out).2.2⟩
        case measure => simp [intOf]; have := HIL.out; omega
      have k2 : (x.k == 2) = false := by simp [hk]
      have HK2 := Lib.hid hk
      clear hk
      by_cases hk : x.k = 3
      · have ht : isTmp x.k = false := by rw [hk]; rfl
        rw [ht, if_neg (by simp)] at hlk
        rw [hk] at z0
        obtain ⟨hA1, hA2⟩ := HXK.out.a (by omega)
        obtain ⟨aa, haa⟩ := Int.eq_ofNat_of_zero_le hA1
        rw [haa] at z1
        have hal : aa < i := by omega
        have qa : (aa : Int) < (f.length : Int) := by omega
        obtain ⟨ya, _⟩ := HGA.out.getD_ (i := aa) (by rw [trR_len hi]; omega) false
        rw [trR_get hal, HOO] at ya
        have hva : oo.getD x.a.toNat false = oo.getD aa false := by rw [haa]; rfl
        generalize oo.getD aa false = va at *
        have HV : Hid (trAt f c nx oo i = (!va)) := by
          show _ = _
          unfold trAt; rw [HXE.out]; simp [hk]; rw [← List.getD_eq_getElem?_getD, hva]
        clear hk ht HXK HXE hA1 hA2 haa hal hva
        go_wp2_with fail
        go_roundw
        case rel => exact ⟨i + 1, HIL.out, by go_num, (HST.out _ HV.out).1, (HST.out _ HV.out).2.1, (HST.out _ HV.out).2.2⟩
        case measure => simp [intOf]; have := HIL.out; omega
      have k3 : (x.k == 3) = false := by simp [hk]
      have HK3 := Lib.hid hk
      clear hk
      by_cases hk : x.k = 4
      · have ht : isTmp x.k = false := by rw [hk]; rfl
        rw [ht, if_neg (by simp)] at hlk
        rw [hk] at z0
        obtain ⟨hA1, hA2⟩ := HXK.out.a (by omega)
        obtain ⟨aa, haa⟩ := Int.eq_ofNat_of_zero_le hA1
        rw [haa] at z1
        have hal : aa < i := by omega
        have qa : (aa : Int) < (f.length : Int) := by omega
        obtain ⟨ya, _⟩ := HGA.out.getD_ (i := aa) (by rw [trR_len hi]; omega) false
        rw [trR_get hal, HOO] at ya
        have hva : oo.getD x.a.toNat false = oo.getD aa false := by rw [haa]; rfl
        generalize oo.getD aa false = va at *
        obtain ⟨hB1, hB2⟩ := HXK.out.b (by omega)
        obtain ⟨bb, hbb⟩ := Int.eq_ofNat_of_zero_le hB1
        rw [hbb] at z2
        have hbl : bb < i := by omega
        have qb : (bb : Int) < (f.length : Int) := by omega
        obtain ⟨yb, _⟩ := HGA.out.getD_ (i := bb) (by rw [trR_len hi]; omega) false
        rw [trR_get hbl, HOO] at yb
        have hvb : oo.getD x.b.toNat false = oo.getD bb false := by rw [hbb]; rfl
        generalize oo.getD bb false = vb at *
        have HV : Hid (trAt f c nx oo i = (va && vb)) := by
          show _ = _
          unfold trAt; rw [HXE.out]; simp [hk]; rw [← List.getD_eq_getElem?_getD, ← List.getD_eq_getElem?_getD, hva, hvb]
        clear hk ht HXK HXE hA1 hA2 haa hal hva hB1 hB2 hbb hbl hvb
        cases va
        all_goals
          go_wp2_with fail
          go_roundw
          case rel => exact ⟨i + 1, HIL.out, by go_num, (HST.out _ HV.out).1, (HST.out _ HV.out).2.1, (HST.out _ HV.out).2.2⟩
          case measure => simp [intOf]; have := HIL.out; omega
      have k4 : (x.k == 4) = false := by simp [hk]
      have HK4 := Lib.hid hk
      clear hk
      by_cases hk : x.k = 5
      · have ht : isTmp x.k = false := by rw [hk]; rfl
        rw [ht, if_neg (by simp)] at hlk
        rw [hk] at z0
        obtain ⟨hA1, hA2⟩ := HXK.out.a (by omega)
        obtain ⟨aa, haa⟩ := Int.eq_ofNat_of_zero_le hA1
        rw [haa] at z1
        have hal : aa < i := by omega
        have qa : (aa : Int) < (f.length : Int) := by omega
        obtain ⟨ya, _⟩ := HGA.out.getD_ (i := aa) (by rw [trR_len hi]; omega) false
        rw [trR_get hal, HOO] at ya
        have hva : oo.getD x.a.toNat false = oo.getD aa false := by rw [haa]; rfl
        generalize oo.getD aa false = va at *
        obtain ⟨hB1, hB2⟩ := HXK.out.b (by omega)
        obtain ⟨bb, hbb⟩ := Int.eq_ofNat_of_zero_le hB1
        rw [hbb] at z2
        have hbl : bb < i := by omega
        have qb : (bb : Int) < (f.length : Int) := by omega
        obtain ⟨yb, _⟩ := HGA.out.getD_ (i := bb) (by rw [trR_len hi]; omega) false
        rw [trR_get hbl, HOO] at yb
        have hvb : oo.getD x.b.toNat false = oo.getD bb false := by rw [hbb]; rfl
        generalize oo.getD bb false = vb at *
        have HV : Hid (trAt f c nx oo i = (va || vb)) := by
          show _ = _
          unfold trAt; rw [HXE.out]; simp [hk]; rw [← List.getD_eq_getElem?_getD, ← List.getD_eq_getElem?_getD, hva, hvb]
        clear hk ht HXK HXE hA1 hA2 haa hal hva hB1 hB2 hbb hbl hvb
        cases va
        all_goals
          go_wp2_with fail
          go_roundw
          case rel => exact ⟨i + 1, HIL.out, by go_num, (HST.out _ HV.out).1, (HST.out _ HV.out).2.1, (HST.out _ HV.out).2.2⟩
          case measure => simp [intOf]; have := HIL.out; omega
      have k5 : (x.k == 5) = false := by simp [hk]
      have HK5 := Lib.hid hk
      clear hk
      by_cases hk : x.k = 6
      · have ht : isTmp x.k = true := by rw [hk]; rfl
        rw [ht, if_pos rfl] at hlk
        rw [hk] at z0
        obtain ⟨hA1, hA2⟩ := HXK.out.a (by omega)
        obtain ⟨aa, haa⟩ := Int.eq_ofNat_of_zero_le hA1
        rw [haa] at z1
        have hal : aa < i := by omega
        have qa : (aa : Int) < (f.length : Int) := by omega
        obtain ⟨ya, _⟩ := HGA.out.getD_ (i := aa) (by rw [trR_len hi]; omega) false
        rw [trR_get hal, HOO] at ya
        have hva : oo.getD x.a.toNat false = oo.getD aa false := by rw [haa]; rfl
        generalize oo.getD aa false = va at *
        have HV : Hid (trAt f c nx oo i = (lt)) := by
          show _ = _
          unfold trAt; rw [HXE.out, htt, ← HLT.out]; simp [hk, isTmp, btw]
        clear hk ht HXK HXE hA1 hA2 haa hal hva
        go_wp2_with fail
        go_roundw
        case rel => exact ⟨i + 1, HIL.out, by go_num, (HST.out _ HV.out).1, (HST.out _ HV.out).2.1, (HST.out _ HV.out).2.2⟩
        case measure => simp [intOf]; have := HIL.out; omega
      have k6 : (x.k == 6) = false := by simp [hk]
      have HK6 := Lib.hid hk
      clear hk
      by_cases hk : x.k = 7
      · have ht : isTmp x.k = true := by rw [hk]; rfl
        rw [ht, if_pos rfl] at hlk
        rw [hk] at z0
        obtain ⟨hA1, hA2⟩ := HXK.out.a (by omega)
        obtain ⟨aa, haa⟩ := Int.eq_ofNat_of_zero_le hA1
        rw [haa] at z1
        have hal : aa < i := by omega
        have qa : (aa : Int) < (f.length : Int) := by omega
        obtain ⟨ya, _⟩ := HGA.out.getD_ (i := aa) (by rw [trR_len hi]; omega) false
        rw [trR_get hal, HOO] at ya
        have hva : oo.getD x.a.toNat false = oo.getD aa false := by rw [haa]; rfl
        generalize oo.getD aa false = va at *
        obtain ⟨hB1, hB2⟩ := HXK.out.b (by omega)
        obtain ⟨bb, hbb⟩ := Int.eq_ofNat_of_zero_le hB1
        rw [hbb] at z2
        have hbl : bb < i := by omega
        have qb : (bb : Int) < (f.length : Int) := by omega
        obtain ⟨yb, _⟩ := HGA.out.getD_ (i := bb) (by rw [trR_len hi]; omega) false
        rw [trR_get hbl, HOO] at yb
        have hvb : oo.getD x.b.toNat false = oo.getD bb false := by rw [hbb]; rfl
        generalize oo.getD bb false = vb at *
        have HV : Hid (trAt f c nx oo i = (vb || va && lt)) := by
          show _ = _
          unfold trAt; rw [HXE.out, htt, ← HLT.out]; simp [hk, isTmp, btw]; rw [← List.getD_eq_getElem?_getD, ← List.getD_eq_getElem?_getD, hva, hvb]
        clear hk ht HXK HXE hA1 hA2 haa hal hva hB1 hB2 hbb hbl hvb
        cases vb <;> cases va
        all_goals
          go_wp2_with fail
          go_roundw
          case rel => exact ⟨i + 1, HIL.out, by go_num, (HST.out _ HV.out).1, (HST.out _ HV.out).2.1, (HST.out _ HV.out).2.2⟩
          case measure => simp [intOf]; have := HIL.out; omega
      have k7 : (x.k == 7) = false := by simp [hk]
      have HK7 := Lib.hid hk
      clear hk
      have hk : x.k = 8 := by have := HXK.out.k; have := HK1.out; have := HK2.out; have := HK3.out; have := HK4.out; have := HK5.out; have := HK6.out; have := HK7.out; omega
      clear k1 k2 k3 k4 k5 k6 k7 HK1 HK2 HK3 HK4 HK5 HK6 HK7
      have ht : isTmp x.k = true := by rw [hk]; rfl
      rw [ht, if_pos rfl] at hlk
      rw [hk] at z0
      obtain ⟨hA1, hA2⟩ := HXK.out.a (by omega)
      obtain ⟨aa, haa⟩ := Int.eq_ofNat_of_zero_le hA1
      rw [haa] at z1
      have hal : aa < i := by omega
      have qa : (aa : Int) < (f.length : Int) := by omega
      obtain ⟨ya, _⟩ := HGA.out.getD_ (i := aa) (by rw [trR_len hi]; omega) false
      rw [trR_get hal, HOO] at ya
      have hva : oo.getD x.a.toNat false = oo.getD aa false := by rw [haa]; rfl
      generalize oo.getD aa false = va at *
      obtain ⟨hB1, hB2⟩ := HXK.out.b (by omega)
      obtain ⟨bb, hbb⟩ := Int.eq_ofNat_of_zero_le hB1
      rw [hbb] at z2
      have hbl : bb < i := by omega
      have qb : (bb : Int) < (f.length : Int) := by omega
      obtain ⟨yb, _⟩ := HGA.out.getD_ (i := bb) (by rw [trR_len hi]; omega) false
      rw [trR_get hbl, HOO] at yb
      have hvb : oo.getD x.b.toNat false = oo.getD bb false := by rw [hbb]; rfl
      generalize oo.getD bb false = vb at *
      have HV : Hid (trAt f c nx oo i = (vb && (va || lt))) := by
        show _ = _
        unfold trAt; rw [HXE.out, htt, ← HLT.out]; simp [hk, isTmp, btw]; rw [← List.getD_eq_getElem?_getD, ← List.getD_eq_getElem?_getD, hva, hvb]
      clear hk ht HXK HXE hA1 hA2 haa hal hva hB1 hB2 hbb hbl hvb
      cases vb <;> cases va
      all_goals
        go_wp2_with fail
        go_roundw
        case rel => exact ⟨i + 1, HIL.out, by go_num, (HST.out _ HV.out).1, (HST.out _ HV.out).2.1, (HST.out _ HV.out).2.2⟩
        case measure => simp [intOf]; have := HIL.out; omega
    · have q1 : ¬ (i : Int) < (f.length : Int) := by omega
      obtain rfl : i = f.length := by omega
      rw [trR_end] at HGR
      have HP : Hid (TrPost w (truths f c nx) (.returned (.slice (some ⟨G, 0, none⟩) f.length f.length)) wr) := by
        have hl : (truths f c nx).length = f.length := trs_len f c nx f.length
        exact ⟨G, by rw [hl], by have := HGG.out; omega, HGR.out, HBR.out⟩
      go_wp2_with fail
      go_ret
      exact HP.out
end Go.Proofs.YtoglgeaiiipchaaGreatDoor
