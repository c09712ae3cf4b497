/- Plain: what both answers: an automaton of either word, of both words. -/
import Derived.Test.YtoglgeaiiipchaaLBTM33
import Derived.Test.YtoglgeaiiipchaaLBTM10
import Derived.Test.YtoglgeaiiipchaaLBTM21
import Derived.Test.YtoglgeaiiipchaaLBTM30
set_option linter.unusedSimpArgs false
set_option linter.unusedVariables false
namespace Go.Proofs.Ytoglgeaiiipchaa
open Go Go.RowKit Go.Maps Go.Shelf

set_option maxRecDepth 100000 in
set_option maxHeartbeats 8000000 in
theorem Word_ (a : Au) (A B C : Option Addr) (ca cb cc : Nat) (w : World) (hr : AuRd w 0 a A B C ca cb cc) (hf : AuFit a) (hst : a.st ≤ 1000000) (hsl : a.ss.length ≤ 1000000) :
    Calls Try.prog 100 #[.agg #[.int .i64 a.st, .int .i64 a.le, .slice A a.fs.length ca, .slice B a.gs.length cb, .slice C a.ss.length cc]] w (WdPost w a) := by
  have HW := auW_is w a A B C ca cb cc
  have hb0 := HW.below
  have hV0 := HW.at
  have hs0 := HW.size
  unfold auW at hb0 hV0 hs0
  have HR := Lib.hid hr
  have HF := Lib.hid hf
  have HST : Hid (a.st ≤ 1000000 ∧ a.ss.length ≤ 1000000 ∧ a.fs.length ≤ 1000000) := ⟨hst, hsl, by
    have := up_few a.fs 0 hf.fo hf.fr (by have := hf.st1; omega)
    omega⟩
  have hal : Below (w.alloc (Obj.cells #[.int .i64 a.st, .int .i64 a.le, .slice A a.fs.length ca, .slice B a.gs.length cb, .slice C a.ss.length cc] 49)).heap.size (w.alloc (Obj.cells #[.int .i64 a.st, .int .i64 a.le, .slice A a.fs.length ca, .slice B a.gs.length cb, .slice C a.ss.length cc] 49)) ((w.alloc (Obj.cells #[.int .i64 a.st, .int .i64 a.le, .slice A a.fs.length ca, .slice B a.gs.length cb, .slice C a.ss.length cc] 49)).alloc (Obj.cells #[.slice none 0 0, .slice none 0 0] 26)) := (Below.refl _ _).alloc (Nat.le_refl _) _
  have hnew := World.alloc_heap_new (w.alloc (Obj.cells #[.int .i64 a.st, .int .i64 a.le, .slice A a.fs.length ca, .slice B a.gs.length cb, .slice C a.ss.length cc] 49)) (Obj.cells #[.slice none 0 0, .slice none 0 0] 26)
  have hb1 := Below_on hb0 hal hb0.size
  have hV1 := hV0.below hal hV0.lt
  rw [hs0] at hnew
  have hsz1 : ((w.alloc (Obj.cells #[.int .i64 a.st, .int .i64 a.le, .slice A a.fs.length ca, .slice B a.gs.length cb, .slice C a.ss.length cc] 49)).alloc (Obj.cells #[.slice none 0 0, .slice none 0 0] 26)).heap.size = w.heap.size + 2 := by simp
  clear HW hb0 hV0 hs0 hal hr hf hst hsl
  go_enter Try.func100, Try.ntmps100
  go_upto_region 1 with fail
  obtain ⟨V, hV⟩ : ∃ V, V = w.heap.size := ⟨_, rfl⟩
  rw [← hV] at hV1 hnew hsz1 ⊢
  have HVV := Lib.hid hV
  clear hV
  generalize (w.alloc (Obj.cells #[.int .i64 a.st, .int .i64 a.le, .slice A a.fs.length ca, .slice B a.gs.length cb, .slice C a.ss.length cc] 49)).alloc (Obj.cells #[.slice none 0 0, .slice none 0 0] 26) = W1 at *
  have HB1 := Lib.hid hb1
  have HV1 := Lib.hid hV1
  have HN1 := Lib.hid hnew
  have HS1 := Lib.hid hsz1
  have HRC := Lib.hid (ReachedR_ a A B C ca cb cc W1 (HR.out.below hb1) HF.out.rng HST.out.1 HST.out.2.1 HF.out.so)
  obtain ⟨_, c0, c1, c2, c3, c4⟩ := hV1
  clear hb1 hnew hsz1
  go_wp2_with fail
  refine HRC.out.mono ?_
  rintro e w2 ⟨G, out, rfl, hG, hrow, hrs, hb2⟩
  have HRS := Lib.hid hrs
  have HV2 := Lib.hid (HV1.out.below hb2 HV1.out.lt)
  have HB2 := Lib.hid (Below_on HB1.out hb2 HB1.out.size)
  have HN2 : Hid (w2.heap[V + 1]? = _) := (hb2.block _ (by have := HS1.out; omega)).trans HN1.out
  have HRW := Lib.hid hrow
  have HG := Lib.hid hG
  have HFC : Hid (Calls Try.prog 49 _ w2 _) := From_ a A B C ca cb cc w2
  have HZ2 := Lib.hid hb2.size
  clear c0 c1 c2 c3 c4 hrs hrow hb2 hG HRC
  obtain ⟨_, c0, c1, c2, c3, c4⟩ := HV2.out
  go_wp2_with fail
  refine HFC.out.mono ?_
  rintro e w3 ⟨VA, rfl, hVA, hVAt, hb3⟩
  have hal : Below w3.heap.size w3 (w3.alloc (Obj.cells #[.func (.func 84) #[] #[.pointer (some ⟨VA, 0, none⟩)], .map none] 167)) := (Below.refl _ _).alloc (Nat.le_refl _) _
  have hb4 := Below_on hb3 hal hb3.size
  have HC0 : Hid (WdC a A B C ca cb cc w V VA w3.heap.size G out (w3.alloc (Obj.cells #[.func (.func 84) #[] #[.pointer (some ⟨VA, 0, none⟩)], .map none] 167))) :=
    ⟨Below_on HB2.out hb4 HB2.out.size, HV2.out.below hb4 HV2.out.lt, (hb4.block _ (by have := HS1.out; have := HZ2.out; omega)).trans HN2.out, HRW.out.below hb4 HRW.out.lt, hVAt.below hal hVAt.lt, _, World.alloc_heap_new _ _⟩
  have HNE : Hid (V < V + 1 ∧ V + 1 < G ∧ G < VA ∧ VA < w3.heap.size) := ⟨by omega, by have := HG.out; have := HS1.out; omega, by have := HRW.out.lt; omega, hVAt.lt⟩
  clear c0 c1 c2 c3 c4 hb4 hal hb3 hVAt hVA HFC
  obtain ⟨_, c0, c1, c2, c3, c4⟩ := HC0.out.at_
  go_upto_block 0 with fail
  clear c0 c1 c2 c3 c4
  obtain ⟨Fd, hFd⟩ : ∃ Fd, Fd = w3.heap.size := ⟨_, rfl⟩
  rw [← hFd] at HC0 HNE ⊢
  clear hFd
  generalize w3.alloc (Obj.cells #[.func (.func 84) #[] #[.pointer (some ⟨VA, 0, none⟩)], .map none] 167) = W4 at *
  obtain ⟨N, hN⟩ := Int.eq_ofNat_of_zero_le (show 0 ≤ a.st by have := HF.out.st1; omega)
  have hN3 : N ≤ 1000000 := by have := HST.out.1; omega
  have HN := Lib.hid hN
  clear hN
  go_wp2_with fail
  go_loopw [20] (fun v20 wr => ∃ k : Nat, k ≤ N ∧ v20 = .int .i64 (k : Int) ∧ Hid (WdC a A B C ca cb cc w V VA Fd G out wr) ∧ Hid (∀ j : Nat, j < k → ¬ (Rch a j ∧ a.good j ∧ Plus (Edge a) j j))) (fun v20 _ => N - (intOf v20).toNat)
  case atStart => exact ⟨0, Nat.zero_le _, rfl, HC0.out, fun j h => absurd h (by omega)⟩
  case round =>
    obtain ⟨k, hk, rfl, HC, HNO⟩ := hrel
    obtain ⟨_, c0, c1, c2, c3, c4⟩ := HC.out.at_
    by_cases hkN : k < N
    · have q1 : (k : Int) < a.st := by have := HN.out; omega
      have hol : k < out.length := by have := HRS.out.len; have := HN.out; omega
      have hgl : k < a.gs.length := by have := HF.out.gl; have := HN.out; omega
      have hba : Below wr.heap.size wr (wr.alloc (Obj.cells #[.int .i64 (k : Int)] 3)) := (Below.refl _ _).alloc (Nat.le_refl _) _
      have HCa := Lib.hid (HC.out.on hba)
      obtain ⟨z1, _⟩ := HCa.out.row.getD_ (i := k) hol false
      obtain ⟨bb, bo, rfl, _, _, y1⟩ := Bools.at_ ((HR.out.below HCa.out.below).gs) hgl
      have hgle := (HR.out.gs).le
      have HNX : Hid (∀ (p : Prop), (¬ p → False) → p) := fun p h => Classical.byContradiction h
      have HX := Lib.hid hkN
      have HSK : Hid (¬ (Rch a k ∧ a.good k ∧ Plus (Edge a) k k) → ∀ j : Nat, j < k + 1 → ¬ (Rch a j ∧ a.good j ∧ Plus (Edge a) j j)) := fun h j hj => by
        rcases Nat.lt_or_ge j k with h1 | h1
        · exact HNO.out j h1
        · obtain rfl : j = k := by omega
          exact h
      have HRI : Hid (out.getD k false = true ↔ Rch a (k : Int)) := by
        have := HRS.out.iff (k : Int) (by omega) q1
        show _ ↔ _
        unfold kp at this
        rwa [Int.toNat_natCast] at this
      have HGI : Hid (a.gs[k] = true ↔ a.good (k : Int)) := by
        show _ ↔ (0 ≤ (k : Int) ∧ a.gs.getD (k : Int).toNat false = true)
        rw [Int.toNat_natCast, List.getD_eq_getElem?_getD, List.getElem?_eq_getElem hgl]
        simp
      generalize out.getD k false = ok at *
      revert y1 HGI
      generalize a.gs[k] = gk
      intro y1 HGI
      have holi : (k : Int) < (out.length : Int) := by omega
      have hgli : (k : Int) < (a.gs.length : Int) := by omega
      clear hba
      cases ok with
      | false =>
        have HN2 := Lib.hid (HSK.out fun h => by have := HRI.out.2 h.1; cases this)
        go_wp2_with fail
        go_roundw
        case rel => exact ⟨k + 1, HX.out, by go_num, HCa.out, HN2.out⟩
        case measure => simp [intOf]; have := HX.out; omega
      | true =>
        cases gk with
        | false =>
          have HN2 := Lib.hid (HSK.out fun h => by have := HGI.out.2 h.2.1; cases this)
          go_wp2_with fail
          go_roundw
          case rel => exact ⟨k + 1, HX.out, by go_num, HCa.out, HN2.out⟩
          case measure => simp [intOf]; have := HX.out; omega
        | true =>
          have hXc : (wr.alloc (Obj.cells #[.int .i64 (k : Int)] 3)).cell? ⟨wr.heap.size, 0, none⟩ = some (.int .i64 (k : Int)) := by go_simp
          have hXl : wr.heap.size < (wr.alloc (Obj.cells #[.int .i64 (k : Int)] 3)).heap.size := by simp
          have hsA : (wr.alloc (Obj.cells #[.int .i64 (k : Int)] 3)).heap.size = wr.heap.size + 1 := by simp
          have HSW : Hid (w.heap.size ≤ wr.heap.size ∧ Fd < wr.heap.size ∧ VA < wr.heap.size ∧ V + 1 < wr.heap.size ∧ G < wr.heap.size) := ⟨HC.out.below.size, by obtain ⟨_, h⟩ := HC.out.fd; exact (Array.getElem?_eq_some_iff.1 h).1, HC.out.va.lt, (Array.getElem?_eq_some_iff.1 HC.out.res).1, HC.out.row.lt⟩
          have hbb : Below (wr.alloc (Obj.cells #[.int .i64 (k : Int)] 3)).heap.size (wr.alloc (Obj.cells #[.int .i64 (k : Int)] 3)) ((wr.alloc (Obj.cells #[.int .i64 (k : Int)] 3)).alloc (Obj.cells #[.int .i64 (k : Int)] 3)) := (Below.refl _ _).alloc (Nat.le_refl _) _
          have HCb := Lib.hid (HCa.out.on hbb)
          have hXb := (hbb.cell (p := ⟨wr.heap.size, 0, none⟩) hXl).trans hXc
          have hXlb := Nat.lt_of_lt_of_le hXl hbb.size
          have hnb := World.alloc_heap_new (wr.alloc (Obj.cells #[.int .i64 (k : Int)] 3)) (Obj.cells #[.int .i64 (k : Int)] 3)
          rw [hsA] at hnb
          have hq : QOwn ((wr.alloc (Obj.cells #[.int .i64 (k : Int)] 3)).alloc (Obj.cells #[.int .i64 (k : Int)] 3)) w.heap.size (.slice (some ⟨wr.heap.size + 1, 0, none⟩) 1 1) [(k : Int)] :=
            .inr ⟨_, 0, 1, #[.int .i64 (k : Int)], rfl, by have := HSW.out.1; omega, hnb, Nat.le_refl _, by simp, by unfold maxLen; omega, fun j hj => by
              obtain rfl : j = 0 := by simpa using hj
              rfl⟩
          have HPL : Hid (w.heap.size ≤ V ∧ V + 1 < G ∧ G < VA ∧ VA < Fd ∧ Fd < wr.heap.size) := by have := HNE.out; have := HVV.out; have := HSW.out; exact ⟨by omega, by omega, by omega, by omega, by omega⟩
          have HFN := Lib.hid (find_at a A _ C ca cb cc w V VA Fd G out _ wr.heap.size (k : Int) HCb.out hXlb hXb HPL.out HR.out.ss HF.out HST.out.1 HST.out.2.1 [(k : Int)] _ hq
            (fun x e => by
              have e' : wr.heap.size + 1 = x := by simpa [Value.ownBlock] using e
              omega) (by simp))
          have HAF := Lib.hid (fun (W : World) (hb : Below w.heap.size w W) => (HR.out.below hb).fs)
          have HRT : Hid (Rch a (k : Int)) := HRI.out.1 rfl
          have HGT : Hid (a.good (k : Int)) := HGI.out.1 rfl
          clear hXc hbb hnb hq hXb hXl hXlb hsA HCb
          go_wp2_with fail
          refine HFN.out.mono ?_
          intro e w5 hp
          obtain ⟨⟨r, D, M, rfl, ⟨hby, hfn⟩, hbm, hfd1⟩, hC5, hX5, hXl5, -, -⟩ := hp
          have HC5 := Lib.hid hC5
          have HX5 := Lib.hid hX5
          have HXl5 := Lib.hid hXl5
          clear hC5 hX5 hXl5 HFN
          rcases hfn with ⟨D0, s, hD, hdn, hr0, hr1⟩ | ⟨rfl, hno⟩
          · obtain rfl : r = (k : Int) := by simpa using hdn
            have HWY := Lib.hid (way_at a HF.out HST.out.1 D [(k : Int)] hby Fd M wr.heap.size 116 (fun x => x == (k : Int)) (by simp) (k : Int) ⟨D0, s, hD⟩ w5 (by obtain ⟨_, h⟩ := HC5.out.fd; exact (Array.getElem?_eq_some_iff.1 h).1) hfd1 hbm
              (enters_of Try.func116 (by kernel_rfl) rfl) (fun W j hb => is_ (k : Int) j wr.heap.size W ((hb.cell (p := ⟨wr.heap.size, 0, none⟩) HXl5.out).trans HX5.out)))
            have HBY := Lib.hid hby
            have q2 : ¬ (k : Int) < 0 := by omega
            clear hby hbm hfd1 hD hdn hr0 hr1
            have hX5 := HX5.out
            go_wp2_with fail
            refine HWY.out.mono ?_
            rintro e w6 ⟨v, ls, rfl, hown, hws, hb6⟩
            obtain ⟨vA, vc, rfl, hvl, hvc, -⟩ := own_form hown
            have HV6 := Lib.hid hown
            have HWS := Lib.hid hws
            have HC6 := Lib.hid (HC5.out.on hb6)
            have HX6 := Lib.hid ((hb6.cell (p := ⟨wr.heap.size, 0, none⟩) HXl5.out).trans HX5.out)
            have HL6 : Hid (wr.heap.size < w6.heap.size ∧ ls.length ≤ 1000000 ∧ w.heap.size ≤ w5.heap.size ∧ V + 1 < w5.heap.size ∧ Fd < w5.heap.size ∧ w5.heap.size ≤ w6.heap.size) := ⟨Nat.lt_of_lt_of_le HXl5.out hb6.size, by
              have := hws.2
              have := HBY.out.len HF.out
              have := HST.out.1
              omega, HC5.out.below.size, (Array.getElem?_eq_some_iff.1 HC5.out.res).1, by have := HPL.out; have := HXl5.out; omega, hb6.size⟩
            have HI6 := Lib.hid (HAF.out w6 HC6.out.below)
            have HFI := Lib.hid (first_ a A _ _ ca cb cc V (k : Int) w6 HC6.out.at_ HI6.out)
            obtain ⟨_, c0, c1, c2, c3, c4⟩ := HC6.out.at_
            have hX6 := HX6.out
            clear hown hws hb6 HWY hX5
            go_wp2_with fail
            refine HFI.out.mono ?_
            rintro e w7 ⟨rfl, rfl⟩
            clear HFI
            by_cases hk0 : (k : Int) ∈ a.fs
            · rw [decide_eq_true hk0]
              have HP : Hid (WdPost w a (.returned (.tuple #[.agg #[.slice none 0 0, .slice vA ls.length vc], .bool true])) (set2 w7 (V + 1) (.slice none 0 0) (.slice vA ls.length vc))) := by
                obtain ⟨A', c', e, hi⟩ := ints_set2 (V := V + 1) (base := w.heap.size) HV6.out HL6.out.2.1 HL6.out.2.2.2.1 HL6.out.2.2.1 (.slice none 0 0) (.slice vA ls.length vc)
                obtain ⟨rfl, rfl⟩ : vA = A' ∧ vc = c' := by simpa using e
                exact ⟨⟨none, vA, 0, vc, [], ls, true, rfl, ints_none, hi, by rw [if_pos rfl]; exact told_of HF.out HGT.out HBY.out HWS.out (.inl ⟨rfl, hk0⟩)⟩, below_set2 HC6.out.below (by have := HVV.out; omega) _ _⟩
              have hres := HC6.out.res
              obtain ⟨b0, b1, b2, b3⟩ : w7.cell? ⟨V + 1, 0, none⟩ = some (.slice none 0 0) ∧ w7.cell? ⟨V + 1, 1, none⟩ = some (.slice none 0 0) ∧ w7.frozen? ⟨V + 1, 0, none⟩ = false ∧ w7.frozen? ⟨V + 1, 1, none⟩ = false := by
                refine ⟨?_, ?_, ?_, ?_⟩ <;> simp [World.cell?, World.frozen?, hres]
              have HO1 := Lib.hid (set2_heap hres (.slice none 0 0) (.slice vA ls.length vc))
              unfold set2 at HP HO1
              clear hres hk0
              go_wp2_with fail
              exact bodyPost_ret (retLa Try.results100 _ _ (V + 1) rfl rfl HO1.out) rfl HP.out
            · rw [decide_eq_false hk0]
              have HK0 := Lib.hid hk0
              have HCL := Lib.hid (CloneO_ A ca a.fs w7 HI6.out)
              clear hk0
              go_wp2_with fail
              refine HCL.out.mono ?_
              rintro e w8 ⟨v8, rfl, hown8, hb8⟩
              have HC8 := Lib.hid (HC6.out.on hb8)
              have hX8 := (hb8.cell (p := ⟨wr.heap.size, 0, none⟩) HL6.out.1).trans HX6.out
              have hXl8 : wr.heap.size < w8.heap.size := Nat.lt_of_lt_of_le HL6.out.1 hb8.size
              have HV8 := Lib.hid (own_below HV6.out hb8)
              have HFN2 := Lib.hid (find_at a A _ _ ca cb cc w V VA Fd G out w8 wr.heap.size (k : Int) HC8.out hXl8 hX8 HPL.out HR.out.ss HF.out HST.out.1 HST.out.2.1 a.fs v8 ((QOwn.of hown8).low HC6.out.below.size) (fun x e => by
                have := ((QOwn.of hown8).lt x e).1
                have := HL6.out.1
                omega) HST.out.2.2)
              have HD8 : Hid (∀ x, v8.ownBlock = some x → w7.heap.size ≤ x) := fun x e => ((QOwn.of hown8).lt x e).1
              have HZ8 := Lib.hid hb8.size
              obtain ⟨A8, c8, rfl, hc8, hc8', -⟩ := own_form hown8
              clear hown8 hb8 HCL hX8 hXl8
              go_wp2_with fail
              refine HFN2.out.mono ?_
              intro e w9 hp
              obtain ⟨⟨r2, D2, M2, rfl, ⟨hby2, hfn2⟩, hbm2, hfd2⟩, hC9, hX9, hXl9, hs9, hk9⟩ := hp
              rcases hfn2 with ⟨D02, s2, hD2, hdn2, hr2, hr3⟩ | ⟨rfl, hno⟩
              · obtain rfl : r2 = (k : Int) := by simpa using hdn2
                have HC9 := Lib.hid hC9
                have HBY2 := Lib.hid hby2
                have HV9 : Hid (IntOwn w9 w5.heap.size (.slice vA ls.length vc) ls) := IntOwn.heap HV8.out fun x e => hk9 x (HV8.out.lt x e).2 (by have := (HV8.out.lt x e).1; have := HL6.out; omega) fun e' => by
                  have h1 := HD8.out x e'
                  have h2 := (HV6.out.lt x e).2
                  omega
                have HWY2 := Lib.hid (way_at a HF.out HST.out.1 D2 a.fs hby2 Fd M2 V 114 (fun x => decide (x ∈ a.fs)) (by simp) (k : Int) ⟨D02, s2, hD2⟩ w9 (by have := HPL.out; omega) hfd2 hbm2
                  (enters_of Try.func114 (by kernel_rfl) rfl) (fun W j hb => first_ a A _ _ ca cb cc V j W (HC9.out.on hb).at_ (HAF.out W (HC9.out.on hb).below)))
                have HS9 : Hid (w.heap.size ≤ w9.heap.size ∧ V + 1 < w9.heap.size) := ⟨HC9.out.below.size, (Array.getElem?_eq_some_iff.1 HC9.out.res).1⟩
                clear hby2 hbm2 hfd2 hD2 hdn2 hr2 hr3 hXl9 hs9 hk9 hC9 HFN2 c0 c1 c2 c3 c4
                go_wp2_with fail
                refine HWY2.out.mono ?_
                rintro e w10 ⟨v10, l10, rfl, hown10, hws10, hb10⟩
                obtain ⟨hA, hc, rfl, hhl, hhc, -⟩ := own_form hown10
                have HC10 := Lib.hid (HC9.out.on hb10)
                have HP : Hid (WdPost w a (.returned (.tuple #[.agg #[.slice hA l10.length hc, .slice vA ls.length vc], .bool true])) (set2 w10 (V + 1) (.slice hA l10.length hc) (.slice vA ls.length vc))) := by
                  obtain ⟨A', c', e, hi⟩ := ints_set2 (V := V + 1) (base := w.heap.size) (own_below HV9.out hb10) HL6.out.2.1 HL6.out.2.2.2.1 HL6.out.2.2.1 (.slice hA l10.length hc) (.slice vA ls.length vc)
                  obtain ⟨rfl, rfl⟩ : vA = A' ∧ vc = c' := by simpa using e
                  obtain ⟨A', c', e, hi2⟩ := ints_set2 (V := V + 1) (base := w.heap.size) hown10 (by
                    have := hws10.2
                    have := HBY2.out.len HF.out
                    have := HST.out.1
                    omega) HS9.out.2 HS9.out.1 (.slice hA l10.length hc) (.slice vA ls.length vc)
                  obtain ⟨rfl, rfl⟩ : hA = A' ∧ hc = c' := by simpa using e
                  exact ⟨⟨hA, vA, hc, vc, l10, ls, true, rfl, hi2, hi, by rw [if_pos rfl]; exact told_of HF.out HGT.out HBY.out HWS.out (.inr ⟨a.fs, D2, HBY2.out, hws10⟩)⟩, below_set2 HC10.out.below (by have := HVV.out; omega) _ _⟩
                have hres := HC10.out.res
                obtain ⟨b0, b1, b2, b3⟩ : w10.cell? ⟨V + 1, 0, none⟩ = some (.slice none 0 0) ∧ w10.cell? ⟨V + 1, 1, none⟩ = some (.slice none 0 0) ∧ w10.frozen? ⟨V + 1, 0, none⟩ = false ∧ w10.frozen? ⟨V + 1, 1, none⟩ = false := by
                  refine ⟨?_, ?_, ?_, ?_⟩ <;> simp [World.cell?, World.frozen?, hres]
                have HO1 := Lib.hid (set2_heap hres (.slice hA l10.length hc) (.slice vA ls.length vc))
                unfold set2 at HP HO1
                clear hres hown10 hws10 hb10
                go_wp2_with fail
                exact bodyPost_ret (retLa Try.results100 _ _ (V + 1) rfl rfl HO1.out) rfl HP.out
              · exfalso
                rcases HRT.out.plus with h | ⟨f, hf, h⟩
                · exact HK0.out h
                · have := hno f hf (k : Int) h
                  simp at this
          · have HN2 := Lib.hid (HSK.out fun h => by have := hno (k : Int) (by simp) _ h.2.2; simp at this)
            clear hby hno hbm hfd1
            go_wp2_with fail
            go_roundw
            case rel => exact ⟨k + 1, HX.out, by go_num, HC5.out, HN2.out⟩
            case measure => simp [intOf]; have := HX.out; omega
    · have q1 : ¬ (k : Int) < a.st := by have := HN.out; omega
      obtain rfl : k = N := by omega
      have hres := HC.out.res
      obtain ⟨b0, b1, b2, b3⟩ : wr.cell? ⟨V + 1, 0, none⟩ = some (.slice none 0 0) ∧ wr.cell? ⟨V + 1, 1, none⟩ = some (.slice none 0 0) ∧ wr.frozen? ⟨V + 1, 0, none⟩ = false ∧ wr.frozen? ⟨V + 1, 1, none⟩ = false := by
        refine ⟨?_, ?_, ?_, ?_⟩ <;> simp [World.cell?, World.frozen?, hres]
      have HP : Hid (WdPost w a (.returned (.tuple #[.agg #[.slice none 0 0, .slice none 0 0], .bool false])) (set2 wr (V + 1) (.slice none 0 0) (.slice none 0 0))) :=
        ⟨⟨none, none, 0, 0, [], [], false, rfl, ⟨Nat.le_refl _, by omega, by simp, Rd.nil⟩, ⟨Nat.le_refl _, by omega, by simp, Rd.nil⟩, by
          rw [if_neg (by decide)]
          refine ⟨rfl, rfl, none_takes HF.out fun q h0 h1 h2 h3 h4 => ?_⟩
          obtain ⟨j, rfl⟩ := Int.eq_ofNat_of_zero_le h0
          exact HNO.out j (by have := HN.out; omega) ⟨h2, h3, h4⟩⟩, below_set2 HC.out.below (by have := HVV.out; omega) _ _⟩
      have HO1 := Lib.hid (set2_heap hres (.slice none 0 0) (.slice none 0 0))
      unfold set2 at HP HO1
      clear hres
      go_wp2_with fail
      exact bodyPost_ret (retLa Try.results100 _ _ (V + 1) rfl rfl HO1.out) rfl HP.out
end Go.Proofs.Ytoglgeaiiipchaa

namespace Go.Proofs.Ytoglgeaiiipchaa
open Go Go.RowKit Go.Maps Go.Shelf

structure SmPost (w : World) (a : Au) (e : Ending) (w' : World) : Prop where
  is : ∃ (H L : Option Addr) (ch cl : Nat) (hl ll : List Int) (b : Bool), e = .returned (.tuple #[.agg #[.slice H hl.length ch, .slice L ll.length cl], .bool b, .int .i64 (ckA a)]) ∧ Ints w' w.heap.size H ch hl ∧ Ints w' w.heap.size L cl ll ∧
    (if b = true then ckA a = 0 ∧ Told a ⟨hl, ll⟩ else hl = [] ∧ ll = [] ∧ (ckA a = 0 → ∀ u, ¬ TakesU a u))
  below : Below w.heap.size w w'
theorem retLa3 {fn : Func} (h : fn.results = #[.cell 2 26, .tmp 3, .tmp 4]) (tmps : Array Value) (w : World) (V : Nat) {v0 v1 x y : Value} (hp : tmps[2]? = some (.pointer (some ⟨V, 0, none⟩))) (hx : tmps[3]? = some x) (hy : tmps[4]? = some y)
    (ho : w.heap[V]? = some (.cells #[v0, v1] 26 (0, 0))) : (results fn tmps).run Try.prog w = .ok (.tuple #[.agg #[v0, v1], x, y]) w := by
  have r0 : w.cell? ⟨V, 0, none⟩ = some v0 := by simp [World.cell?, ho]
  have r1 : w.cell? ⟨V, 1, none⟩ = some v1 := by simp [World.cell?, ho]
  simp [results, h, go_sem, hp, hx, hy, r0, r1]
theorem la_cells {W : World} {V : Nat} {v0 v1 : Value} (h : W.heap[V]? = some (.cells #[v0, v1] 26 (0, 0))) : W.cell? ⟨V, 0, none⟩ = some v0 ∧ W.cell? ⟨V, 1, none⟩ = some v1 ∧ W.frozen? ⟨V, 0, none⟩ = false ∧ W.frozen? ⟨V, 1, none⟩ = false := by
  refine ⟨?_, ?_, ?_, ?_⟩ <;> simp [World.cell?, World.frozen?, h]
theorem ints_set2' {W : World} {lo base V : Nat} {A : Option Addr} {c : Nat} {xs : List Int} (h : Ints W lo A c xs) (hV : V < lo) (hb : base ≤ lo) (v0 v1 : Value) : Ints (set2 W V v0 v1) base A c xs := by
  refine ⟨h.le, h.cap, h.max, fun hx => ?_⟩
  obtain ⟨b, off, h1, h2, h3, h4⟩ := h.rd hx
  have hs : (set2 W V v0 v1).heap.size = W.heap.size := by simp [set2, World.setCell]
  refine ⟨b, off, h1, Nat.le_trans hb h2, by rw [hs]; exact h3, fun j u hj => ?_⟩
  have := h4 j u hj
  rwa [cell_of_heap (set2_far W V v0 v1 (show b ≠ V by omega))]
set_option maxRecDepth 100000 in
set_option maxHeartbeats 4000000 in
theorem Some_ (a : Au) (A B C : Option Addr) (ca cb cc : Nat) (w : World) (hr : AuRd w 0 a A B C ca cb cc) :
    Calls Try.prog 63 #[.agg #[.int .i64 a.st, .int .i64 a.le, .slice A a.fs.length ca, .slice B a.gs.length cb, .slice C a.ss.length cc]] w (SmPost w a) := by
  have HW := auW_is w a A B C ca cb cc
  have hb0 := HW.below
  have hV0 := HW.at
  have hs0 := HW.size
  unfold auW at hb0 hV0 hs0
  have hal : Below (w.alloc (Obj.cells #[.int .i64 a.st, .int .i64 a.le, .slice A a.fs.length ca, .slice B a.gs.length cb, .slice C a.ss.length cc] 49)).heap.size (w.alloc (Obj.cells #[.int .i64 a.st, .int .i64 a.le, .slice A a.fs.length ca, .slice B a.gs.length cb, .slice C a.ss.length cc] 49)) ((w.alloc (Obj.cells #[.int .i64 a.st, .int .i64 a.le, .slice A a.fs.length ca, .slice B a.gs.length cb, .slice C a.ss.length cc] 49)).alloc (Obj.cells #[.slice none 0 0, .slice none 0 0] 26)) := (Below.refl _ _).alloc (Nat.le_refl _) _
  have hnew := World.alloc_heap_new (w.alloc (Obj.cells #[.int .i64 a.st, .int .i64 a.le, .slice A a.fs.length ca, .slice B a.gs.length cb, .slice C a.ss.length cc] 49)) (Obj.cells #[.slice none 0 0, .slice none 0 0] 26)
  have hb1 := Below_on hb0 hal hb0.size
  have hV1 := hV0.below hal hV0.lt
  rw [hs0] at hnew
  have hsz1 : ((w.alloc (Obj.cells #[.int .i64 a.st, .int .i64 a.le, .slice A a.fs.length ca, .slice B a.gs.length cb, .slice C a.ss.length cc] 49)).alloc (Obj.cells #[.slice none 0 0, .slice none 0 0] 26)).heap.size = w.heap.size + 2 := by simp
  clear HW hb0 hV0 hs0 hal
  go_enter Try.func63, Try.ntmps63
  go_upto_region 1 with fail
  obtain ⟨V, hV⟩ : ∃ V, V = w.heap.size := ⟨_, rfl⟩
  rw [← hV] at hV1 hnew hsz1 ⊢
  have HVV := Lib.hid hV
  clear hV
  generalize (w.alloc (Obj.cells #[.int .i64 a.st, .int .i64 a.le, .slice A a.fs.length ca, .slice B a.gs.length cb, .slice C a.ss.length cc] 49)).alloc (Obj.cells #[.slice none 0 0, .slice none 0 0] 26) = W1 at *
  have HB1 := Lib.hid hb1
  have HV1 := Lib.hid hV1
  have HN1 := Lib.hid hnew
  have HS1 := Lib.hid hsz1
  have HR := Lib.hid hr
  have HCK := Lib.hid (autoCheck_ a A B C ca cb cc W1 (HR.out.below HB1.out))
  obtain ⟨_, c0, c1, c2, c3, c4⟩ := hV1
  clear hb1 hnew hsz1 hr
  go_wp2_with fail
  refine HCK.out.mono ?_
  rintro e w2 ⟨rfl, hb2⟩
  have HB2 := Lib.hid (Below_on HB1.out hb2 HB1.out.size)
  have HV2 := Lib.hid (HV1.out.below hb2 HV1.out.lt)
  have HN2 : Hid (w2.heap[V + 1]? = _) := (hb2.block _ (by have := HS1.out; omega)).trans HN1.out
  have HZ2 : Hid (V + 2 ≤ w2.heap.size) := by have := HS1.out; have := hb2.size; show _ ≤ _; omega
  clear c0 c1 c2 c3 c4 hb2 HCK
  obtain ⟨_, c0, c1, c2, c3, c4⟩ := HV2.out
  obtain ⟨b0, b1, b2, b3⟩ := la_cells HN2.out
  by_cases h0 : ckA a = 0
  · obtain ⟨hoa, hso⟩ := ckA_zero.1 h0
    have HWD := Lib.hid (Word_ a A B C ca cb cc w2 (HR.out.below HB2.out) (hoa.fit hso) (Int.le_trans hoa.st2 (by decide)) (Nat.le_trans hoa.sl (by decide)))
    have HCK0 := Lib.hid h0
    rw [h0]
    clear hoa hso h0
    go_wp2_with fail
    refine HWD.out.mono ?_
    rintro e w3 ⟨⟨H, L, ch, cl, hl, ll, b, rfl, hH, hL, hif⟩, hb3⟩
    have hb5 : Below w3.heap.size w3 (w3.alloc (Obj.cells #[.slice H hl.length ch, .slice L ll.length cl] 26)) := (Below.refl _ _).alloc (Nat.le_refl _) _
    have HN5 : Hid ((w3.alloc (Obj.cells #[.slice H hl.length ch, .slice L ll.length cl] 26)).heap[V + 1]? = _) := (hb5.block _ (by have := hb3.size; have := HZ2.out; omega)).trans ((hb3.block _ (by have := HZ2.out; omega)).trans HN2.out)
    obtain ⟨z0, z1, z2, z3⟩ := la_cells HN5.out
    have HBZ := Lib.hid (Below_on (Below_on HB2.out hb3 HB2.out.size) hb5 (Nat.le_trans HB2.out.size hb3.size))
    have HP : Hid (SmPost w a (.returned (.tuple #[.agg #[.slice H hl.length ch, .slice L ll.length cl], .bool b, .int .i64 0])) (set2 (w3.alloc (Obj.cells #[.slice H hl.length ch, .slice L ll.length cl] 26)) (V + 1) (.slice H hl.length ch) (.slice L ll.length cl))) :=
      ⟨⟨H, L, ch, cl, hl, ll, b, by rw [HCK0.out], ints_set2' (hH.below hb5) (by have := HZ2.out; omega) HB2.out.size _ _, ints_set2' (hL.below hb5) (by have := HZ2.out; omega) HB2.out.size _ _, by
        by_cases hbb : b = true
        · rw [if_pos hbb] at hif ⊢
          exact ⟨HCK0.out, hif⟩
        · rw [if_neg hbb] at hif ⊢
          exact ⟨hif.1, hif.2.1, fun _ => hif.2.2⟩⟩, below_set2 HBZ.out (by have := HVV.out; omega) _ _⟩
    have HO1 := Lib.hid (set2_heap HN5.out (.slice H hl.length ch) (.slice L ll.length cl))
    unfold set2 at HP HO1
    clear c0 c1 c2 c3 c4 b0 b1 b2 b3 HN5 HBZ hif hH hL hb5 hb3
    go_wp2_with fail
    exact bodyPost_ret (retLa3 Try.results63 _ _ (V + 1) rfl rfl rfl HO1.out) rfl HP.out
  · have HP : Hid (SmPost w a (.returned (.tuple #[.agg #[.slice none 0 0, .slice none 0 0], .bool false, .int .i64 (ckA a)])) (set2 w2 (V + 1) (.slice none 0 0) (.slice none 0 0))) :=
      ⟨⟨none, none, 0, 0, [], [], false, rfl, ints_none, ints_none, by rw [if_neg (by decide)]; exact ⟨rfl, rfl, fun h => absurd h h0⟩⟩, below_set2 HB2.out (by have := HVV.out; omega) _ _⟩
    have HO1 := Lib.hid (set2_heap HN2.out (.slice none 0 0) (.slice none 0 0))
    have h0' : (ckA a != 0) = true := by simp [h0]
    clear c0 c1 c2 c3 c4
    unfold set2 at HP HO1
    clear h0
    generalize ckA a = ck at *
    go_wp2_with fail
    exact bodyPost_ret (retLa3 Try.results63 _ _ (V + 1) rfl rfl rfl HO1.out) rfl HP.out
end Go.Proofs.Ytoglgeaiiipchaa

namespace Go.Proofs.Ytoglgeaiiipchaa

theorem either_all {a b : Au} (h : eiErr a b = 0) : ckA (eitherV a b) = 0 ∧ (eitherV a b).st = a.st + b.st ∧ (eitherV a b).le = a.le ∧ ∀ u, TakesU (eitherV a b) u ↔ TakesU a u ∨ TakesU b u := by
  have hv : eitherV a b = eitherOf a b := if_pos h
  have hr : rdErr a b = 0 := by
    unfold eiErr at h
    split at h
    · assumption
    · exact h
  unfold eiErr at h
  rw [if_pos hr] at h
  have hn : ¬ (300 < a.st + b.st ∨ 6000 < (a.ss.length : Int) + b.ss.length) := by
    split at h
    · cases h
    · assumption
  obtain ⟨ha, hb, hl⟩ := rdErr_zero.1 hr
  rw [hv]
  exact ⟨either_ok ha hb (by omega) (by omega) hl, rfl, rfl, either_takes (ckA_zero.1 ha).1 (ckA_zero.1 hb).1⟩
theorem both_all {a b : Au} (h : boErr a b = 0) : ckA (bothV a b) = 0 ∧ (bothV a b).st = 3 * a.st * b.st ∧ (bothV a b).le = a.le ∧ ∀ u, TakesU (bothV a b) u ↔ TakesU a u ∧ TakesU b u := by
  have hv : bothV a b = pairOf a b (dd (sortS (rawP a b))) := if_pos h
  have hr : rdErr a b = 0 := by
    unfold boErr at h
    split at h
    · assumption
    · exact h
  unfold boErr at h
  rw [if_pos hr] at h
  have hn : ¬ (300 < 3 * a.st * b.st ∨ 6000 < stepsN a b) := by
    split at h
    · cases h
    · assumption
  obtain ⟨ha, hb, hl⟩ := rdErr_zero.1 hr
  obtain ⟨oa, sa⟩ := ckA_zero.1 ha
  obtain ⟨ob, sb⟩ := ckA_zero.1 hb
  have hraw := raw_is (a := a) (b := b) (fun s hs => (oa.sr s hs).1) (fun s hs => (ob.sr s hs).1)
  have hs := dd_sort (rawP a b)
  have hlen := Nat.le_trans hs.len (raw_len a b)
  rw [hv]
  exact ⟨(pair_fit (oa.fit sa) (ob.fit sb) hraw hs).ok (by show 3 * a.st * b.st ≤ 300; omega) (by show (dd (sortS (rawP a b))).length ≤ 6000; omega), rfl, rfl, pair_takes oa ob (pair_is oa ob hraw hs)⟩
/-- takes nothing -/
def noneA : Au := ⟨1, 2, [], [false], []⟩
theorem none_ck : ckA noneA = 0 := by decide +kernel
theorem noneA_takes (u : Nat → Int) : ¬ TakesU noneA u := fun ⟨r, h0, _, _⟩ => by simp [noneA] at h0
theorem oneA_takes : TakesU oneA zeroL.at := by
  have h := one_zero
  unfold tkB at h
  rw [one_ta.1] at h
  exact takesB_iff.1 (by simpa using h)
theorem ei_on : eiErr oneA noneA = 0 := by decide +kernel
theorem bo_oo : boErr oneA oneA = 0 := by decide +kernel
theorem tk_en : tkB (eitherV oneA noneA) zeroL = true ∧ taErr (eitherV oneA noneA) zeroL = 0 := by
  obtain ⟨h1, h2, h3, h4⟩ := either_all ei_on
  have h5 : taErr (eitherV oneA noneA) zeroL = 0 := by unfold taErr; rw [if_pos h1, h3]; exact zero_ck
  have h6 : takesB (eitherV oneA noneA) zeroL.at = true := takesB_iff.2 ((h4 _).2 (.inl oneA_takes))
  exact ⟨by unfold tkB; rw [h5, h6]; rfl, h5⟩
theorem la_eta (h l : List Int) : (⟨h, l⟩ : La).h = h ∧ (⟨h, l⟩ : La).l = l := ⟨rfl, rfl⟩
end Go.Proofs.Ytoglgeaiiipchaa
