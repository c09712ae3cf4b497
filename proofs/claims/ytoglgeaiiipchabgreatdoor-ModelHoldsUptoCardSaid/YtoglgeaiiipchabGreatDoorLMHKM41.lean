import Derived.Test.YtoglgeaiiipchabGreatDoorLMHKM19
import Derived.Test.YtoglgeaiiipchabGreatDoorLMHKM9
import Derived.Test.YtoglgeaiiipchabGreatDoorLMHKM3
import Derived.Test.YtoglgeaiiipchabGreatDoorLMHKM38
import Derived.Test.YtoglgeaiiipchabGreatDoorLMHKM39
import Derived.Test.YtoglgeaiiipchabGreatDoorLMHKM40
import Derived.Deep.CutBlock
import Derived.Deep.DeepCutAuto
import Derived.Test.YtoglgeaiiipchabGreatDoorLMHKM1
import Derived.WalkKit
import Derived.ProofKit
import Derived.OpenShut
import Derived.ShutString
import Derived.ChangeOld
import Derived.Below
import Derived.Carry
import Derived.SizedLaws
import Derived.Lib.SmallJoins
import Derived.Deep.Slices
import Derived.Deep.Fields
import Derived.Test.YtoglgeaiiipchabGreatDoorLMHKM24
import Derived.Test.YtoglgeaiiipchabGreatDoorRows
set_option linter.unusedSimpArgs false
set_option linter.unusedVariables false
namespace Go.Proofs.YtoglgeaiiipchabGreatDoor
open Go Go.RowKit
theorem anyB_step {p : Int → Bool} {xs : List Int} {k : Nat} (hk : k < xs.length) : anyB p (xs.drop k) = (p xs[k] || anyB p (xs.drop (k + 1))) := by
  rw [List.drop_eq_getElem_cons hk]; rfl
theorem bad_btw {letters n : Int} : badL letters n = !btw n 0 (letters - 1) := by
  unfold badL btw
  rw [Bool.eq_iff_iff]
  simp
  omega
set_option maxRecDepth 100000 in
set_option maxHeartbeats 1000000 in
theorem CheckLasso_ (A B : Option Addr) (ca cb : Nat) (l : La) (letters : Int) (w : World) (hh : Ints w 0 A ca l.h) (hl : Ints w 0 B cb l.l) :
    Calls Tryz.prog 22 #[.agg #[.slice A l.h.length ca, .slice B l.l.length cb], .int .i64 letters] w fun e w' => e = .returned (.int .i64 (ckL l letters)) ∧ Below w.heap.size w w' := by
  have h1 := hh.le
  have h3 := hl.le
  obtain ⟨i0, hi0, hz0, hz1, hz2⟩ := info_parts infoInt
  have HA := Lib.hid ((Below.refl w.heap.size w).alloc (Nat.le_refl _) (Obj.cells #[Value.slice A l.h.length ca, Value.slice B l.l.length cb] 28))
  go_enter Tryz.func22, Tryz.ntmps22
  by_cases h3 : letters < 1 ∨ 8 < letters
  · have HF := Lib.hid (ckL_3 (l := l) h3)
    have hbt : btw letters 1 8 = false := by unfold btw; simp; omega
    go_wp2_with (go_at_call 44; refine (between_ _ _ _ _).mono ?_; rintro e w' ⟨rfl, rfl⟩)
    all_goals (go_ret; exact ⟨ret_int HF.out.symm, HA.out⟩)
  have hbt : btw letters 1 8 = true := by unfold btw; simp; omega
  by_cases h2 : 4000 < (l.h.length : Int) ∨ 4000 < (l.l.length : Int)
  · have HF := Lib.hid (ckL_2 h3 h2)
    go_wp2_with (go_at_call 44; refine (between_ _ _ _ _).mono ?_; rintro e w' ⟨rfl, rfl⟩)
    all_goals (go_ret; exact ⟨ret_int HF.out.symm, HA.out⟩)
  by_cases h1' : l.l.length = 0
  · have HF := Lib.hid (ckL_1 h3 h2 h1')
    have hz : ((l.l.length : Int) == 0) = true := by simp [h1']
    clear h1'
    go_wp2_with (go_at_call 44; refine (between_ _ _ _ _).mono ?_; rintro e w' ⟨rfl, rfl⟩)
    go_ret
    exact ⟨ret_int HF.out.symm, HA.out⟩
  have HF := Lib.hid (ckL_x h3 h2 h1')
  have hz : ((l.l.length : Int) == 0) = false := by simpa using h1'
  have hp : 0 < l.l.length := by omega
  clear h1'
  go_wp2_with (go_at_call 44; refine (between_ _ _ _ _).mono ?_; rintro e w' ⟨rfl, rfl⟩)
  have hmxh := hh.max
  have hmxl := hl.max
  have HA2 := Lib.hid ((HA.out.alloc (by simp) (Obj.cells #[] 3)).drew)
  have HO := Lib.hid (own_drew (own_empty (w := w.alloc (Obj.cells #[Value.slice A l.h.length ca, Value.slice B l.l.length cb] 28)) (base := w.heap.size + 1) 3 1 (by simp)))
  rw [World.size_alloc] at HO
  have HR1 := Lib.hid (hh.rd.below HA2.out (Nat.le_refl _))
  have b1 : 0 + l.h.length ≤ maxLen := by simp only [maxLen]; omega
  have b2 : (0 + l.h.length) * 8 ≤ 140737488355328 := by omega
  have b3 : 0 + l.h.length + l.l.length ≤ maxLen := by simp only [maxLen]; omega
  have b4 : (0 + l.h.length + l.l.length) * 8 ≤ 140737488355328 := by omega
  have b5 : w.heap.size + 1 ≤ ((w.alloc (Obj.cells #[Value.slice A l.h.length ca, Value.slice B l.l.length cb] 28)).alloc (Obj.cells #[] 3)).drew.heap.size := by simp
  go_region_held3 (fun w' => w'.cell? ⟨w.heap.size, 0, none⟩ = some (.slice A l.h.length ca) ∧ w'.cell? ⟨w.heap.size, 1, none⟩ = some (.slice B l.l.length cb))
    (first | go_keep | exact ⟨q0, q1⟩ | exact ⟨q2, q3⟩)
    (first
      | ((refine step_app _ rfl (.tmp 24) (.tmp 26) _ rfl (w.heap.size + 1) 3 i0 _ 1 8 Tryz.underlying22 hi0 hz0 hz1 hz2 rfl (by decide) (.slice (some ⟨w.heap.size + 1, 0, none⟩) 0 0) 0 [] rfl HO.out A l.h.length ca _ rfl (flatMap_len (sz := 1) (fun _ => rfl) _) HR1.out (ints_oneCell _) b1 b2 b5 ?_); intro v1 w1 hown1 hg1 hat1; have q0 := hg1.cell (a := ⟨w.heap.size, 0, none⟩) (v := .slice A l.h.length ca) (by go_simp) (by simp [Value.ownBlock]); have q1 := hg1.cell (a := ⟨w.heap.size, 1, none⟩) (v := .slice B l.l.length cb) (by go_simp) (by simp [Value.ownBlock]))
      | ((refine step_app _ rfl (.tmp 27) (.tmp 29) _ rfl (w.heap.size + 1) 3 i0 _ 1 8 Tryz.underlying22 hi0 hz0 hz1 hz2 rfl (by decide) v1 _ _ rfl hown1 B l.l.length cb _ rfl (flatMap_len (sz := 1) (fun _ => rfl) _) (hl.rd.below ((HA2.out.grown hg1 (by simp; omega) (fun k hk => by simp [Value.ownBlock] at hk; omega))) (Nat.le_refl _)) (ints_oneCell _) b3 b4 (by have := hg1.size; simp at this; omega) ?_); intro v2 w2 hown2 hg2 hat2; have q2 := hg2.cell (a := ⟨w.heap.size, 0, none⟩) (v := .slice A l.h.length ca) q0 (own_ne hown1 (by simp)); have q3 := hg2.cell (a := ⟨w.heap.size, 1, none⟩) (v := .slice B l.l.length cb) q1 (own_ne hown1 (by simp))))
  have HB2 := Lib.hid (grownOwn_ (HA2.out.grown hg1 (by simp; omega) (fun k hk => by simp [Value.ownBlock] at hk; omega)) hg2 hown1 (by omega) (by have := hg1.size; simp at this; omega))
  have eL : (0 + l.h.length + l.l.length) = (l.h ++ l.l).length := by simp
  have eX : ([] ++ List.flatMap (fun n : Int => [Value.int .i64 n]) l.h ++ List.flatMap (fun n : Int => [Value.int .i64 n]) l.l) = List.flatMap (fun n : Int => [Value.int .i64 n]) (l.h ++ l.l) := by simp
  rw [eL, eX] at hown2
  clear eL eX
  have hcnt : (l.h ++ l.l).length ≤ 8000 := by simp; omega
  have hany : anyB (badL letters) (l.h ++ l.l) = (anyB (badL letters) l.h || anyB (badL letters) l.l) := by simp [anyB]
  rw [← hany] at HF
  clear hany
  obtain ⟨C, cc, hv2, hall⟩ := SlE.of_own (bt := 8) hown2 (by omega)
  subst hv2
  clear hown2 hg2 hat2 hown1 hg1 hat1 q0 q1 q2 q3 HO HR1 HA HA2 b1 b2 b3 b4 b5
  generalize l.h ++ l.l = xs at *
  go_wp2
  go_loopw [6] (fun i wr => ∃ k : Nat, k ≤ xs.length ∧ i = .int .i64 k ∧ anyB (badL letters) xs = anyB (badL letters) (xs.drop k) ∧ Below w.heap.size w wr ∧ Below w2.heap.size w2 wr) (fun i _ => xs.length - (intOf i).toNat)
  case atStart => exact ⟨0, Nat.zero_le _, rfl, rfl, HB2.out, Below.refl _ _⟩
  case round =>
    obtain ⟨k, hk, rfl, hc, hb, hb2⟩ := hrel
    have HC := Lib.hid hc
    clear hc
    by_cases hlt : k < xs.length
    · obtain ⟨b, o, rfl, _, hbl, hc1⟩ := Ints.at_ (hall.below hb2) hlt
      have hs := anyB_step (p := badL letters) hlt
      have HS := Lib.hid hs
      clear hs
      go_wp2_with (go_at_call 44; refine (between_ _ _ _ _).mono ?_; rintro e w' ⟨rfl, rfl⟩)
      · have ht : badL letters xs[k] = true := by rw [bad_btw]; assumption
        go_ret
        exact ⟨ret_int (by rw [HF.out, HC.out, HS.out, ht]; rfl), hb⟩
      · have ht : badL letters xs[k] = false := by rw [bad_btw]; assumption
        go_roundw
        case rel => exact ⟨k + 1, by omega, by go_num, by rw [HC.out, HS.out, ht]; rfl, hb, hb2⟩
        case measure => simp [intOf]; omega
    · go_wp2
      go_ret
      exact ⟨ret_int (by rw [HF.out, HC.out, List.drop_of_length_le (by omega)]; rfl), hb⟩
end Go.Proofs.YtoglgeaiiipchabGreatDoor

namespace Go.Proofs.YtoglgeaiiipchabGreatDoor
open Go Go.RowKit Go.Sort Go.Shelf
theorem hoE_two (m : Mo) (f : List Nd) : hoE m f = if (if ckM m = 0 then ckF f else ckM m) = 0 then negE f else (if ckM m = 0 then ckF f else ckM m) := by
  unfold hoE
  by_cases h1 : ckM m = 0
  · rw [if_pos h1, if_pos h1]
    by_cases h2 : ckF f = 0
    · rw [if_pos h2]
    · rw [if_neg h2]; unfold negE; rw [if_neg h2]
  · rw [if_neg h1, if_neg h1, if_neg h1]
set_option maxRecDepth 100000 in
set_option maxHeartbeats 8000000 in
theorem ModelHolds_ (m : Mo) (hraw : ckM m = 0 → (moRaw m m.ls.length).length ≤ 2000000) (f : List Nd) (l : La) (A B C F G K : Option Addr) (ca cb cc fc cg ck : Nat) (vs : List RwS) (w : World) (hr : MoRd w 0 m A B C ca cb cc vs) (hf : Nds w 0 F fc f) (hg : Ints w 0 G cg l.h) (hk : Ints w 0 K ck l.l) :
    Calls Tryz.prog 5 #[.agg #[.int .i64 m.pr, .slice A m.ls.length ca, .slice B m.fs.length cb, .slice C m.ss.length cc], .slice F f.length fc, .agg #[.slice G l.h.length cg, .slice K l.l.length ck]] w (BoolPost w true) := by
  have HS := GoM.start m l A B C G K ca cb cc cg ck vs w hr hg hk
  have HF0 := Lib.hid hf
  have HRAW := Lib.hid hraw
  clear hr hg hk hraw hf
  go_enter Tryz.func5, Tryz.ntmps5
  go_upto_region 1 with fail
  change Code.wp _ _ _ _ (laMW w m A B C ca cb cc l G K cg ck)
  generalize laMW w m A B C ca cb cc l G K cg ck = W0 at *
  obtain ⟨V, hV⟩ : ∃ V, V = w.heap.size := ⟨_, rfl⟩
  rw [← hV] at HS ⊢
  have HALL : Hid (∀ W, Below W0.heap.size W0 W → GoM m l A B C G K ca cb cc cg ck vs V w W ∧ Nds W 0 F fc f) := fun W hW => by
    have h1 := HS.on hW
    exact ⟨h1, HF0.out.below h1.below⟩
  clear HS HF0 hV
  obtain ⟨_, c0, c1, c2, c3⟩ := (HALL.out _ (Below.refl _ _)).1.at_
  have HMH := Lib.hid (modelHolds_ m HRAW.out f A B C F ca cb cc fc vs W0 (HALL.out _ (Below.refl _ _)).1.rd (HALL.out _ (Below.refl _ _)).2)
  go_wp2_with fail
  refine HMH.out.mono ?_
  rintro e w1 ⟨⟨ok, x, H, L, ch, cl, rfl, hH, hL, hif⟩, hb1⟩
  have hal : Below w1.heap.size w1 (w1.alloc (Obj.cells #[.slice H x.h.length ch, .slice L x.l.length cl] 28)) := (Below.refl _ _).alloc (Nat.le_refl _) _
  have HX := Lib.hid (World.alloc_heap_new w1 (Obj.cells #[.slice H x.h.length ch, .slice L x.l.length cl] 28))
  have HB1 := Lib.hid (Below_on hb1 hal hb1.size)
  have HIF := Lib.hid hif
  have HIH := Lib.hid (hH.below hal)
  have HIL := Lib.hid (hL.below hal)
  clear hb1 hal hH hL hif HMH c0 c1 c2 c3
  go_upto_region 2 with fail
  obtain ⟨X, hX⟩ : ∃ X, X = w1.heap.size := ⟨_, rfl⟩
  rw [← hX] at HX ⊢
  clear hX
  generalize w1.alloc (Obj.cells #[.slice H x.h.length ch, .slice L x.l.length cl] 28) = W1 at *
  have HAL2 : Hid (∀ W, Below W1.heap.size W1 W → GoM m l A B C G K ca cb cc cg ck vs V w W ∧ Nds W 0 F fc f ∧ W.heap[X]? = some (.cells #[.slice H x.h.length ch, .slice L x.l.length cl] 28 (0, 0)) ∧ Ints W 0 H ch x.h ∧ Ints W 0 L cl x.l) := fun W hW => by
    have h1 := HALL.out _ (Below_on HB1.out hW HB1.out.size)
    exact ⟨h1.1, h1.2, (hW.block X (Array.getElem?_eq_some_iff.1 HX.out).1).trans HX.out, HIH.out.below hW, HIL.out.below hW⟩
  clear HB1 HX HIH HIL HALL HRAW
  obtain ⟨_, c0, c1, c2, c3⟩ := (HAL2.out _ (Below.refl _ _)).1.at_
  have HCM := Lib.hid (CheckModel_ m A B C ca cb cc vs W1 (HAL2.out _ (Below.refl _ _)).1.rd)
  go_upto_region 3 with (first
    | (go_at_call 14; refine HCM.out.mono ?_; rintro e w2 ⟨rfl, hb2⟩))
  have HB2 := Lib.hid hb2
  clear hb2 c0 c1 c2 c3 HCM
  go_upto_if 24 with fail
  go_cut [10] (fun v10 wx => v10 = .int .i64 (if ckM m = 0 then ckF f else ckM m) ∧ Hid (Below W1.heap.size W1 wx))
  case first =>
    by_cases h1 : ckM m = 0
    · have HCF := Lib.hid (CheckFormula_ F fc f w2 (HAL2.out _ HB2.out).2.1)
      have H1 := Lib.hid h1
      rw [h1]
      clear h1
      go_wp2_with (first
        | (go_at_call 19; refine HCF.out.mono ?_; rintro e w3 ⟨rfl, hb3⟩))
      go_meet
      exact ⟨by rw [if_pos H1.out], Below_on HB2.out hb3 HB2.out.size⟩
    · have h1' : (ckM m == 0) = false := by simp [h1]
      have H1 := Lib.hid h1
      clear h1
      go_wp2_with fail
      go_meet
      exact ⟨by rw [if_neg H1.out], HB2⟩
  case rest =>
    obtain ⟨rfl, HB3⟩ := hcut
    have HTW := Lib.hid (hoE_two m f)
    obtain ⟨k1, hk1⟩ : ∃ k, k = if ckM m = 0 then ckF f else ckM m := ⟨_, rfl⟩
    rw [← hk1] at HTW ⊢
    have HK1 : Hid (k1 = 0 → ckM m = 0 ∧ ckF f = 0) := fun h => by
      rw [hk1] at h
      by_cases h1 : ckM m = 0
      · rw [if_pos h1] at h; exact ⟨h1, h⟩
      · rw [if_neg h1] at h; exact absurd h h1
    clear hk1 HB2
    generalize wc = w3 at *
    go_upto_if 28 with fail
    go_cut [10] (fun v10 wx => v10 = .int .i64 (hoE m f) ∧ Hid (Below W1.heap.size W1 wx))
    case first =>
      by_cases h1 : k1 = 0
      · have HNG := Lib.hid (NegateOf_ F fc f w3 (HAL2.out _ HB3.out).2.1 (HK1.out h1).2)
        have HE : Hid (hoE m f = negE f) := by show _ = _; rw [HTW.out, if_pos h1]
        subst h1
        go_wp2_with fail
        refine HNG.out.mono ?_
        rintro e w4 ⟨NA, nc, rfl, hnn, hb4⟩
        clear hnn
        go_wp2_with fail
        go_meet
        exact ⟨by rw [HE.out], Below_on HB3.out hb4 HB3.out.size⟩
      · have h1' : (k1 == 0) = false := by simp [h1]
        have HE : Hid (hoE m f = k1) := by show _ = _; rw [HTW.out, if_neg h1]
        clear h1
        go_wp2_with fail
        go_meet
        exact ⟨by rw [HE.out], HB3⟩
    case rest =>
      obtain ⟨rfl, HB4⟩ := hcut
      clear HB3 HTW HK1
      generalize wc = w4 at *
      obtain ⟨k, hk⟩ : ∃ k, k = hoE m f := ⟨_, rfl⟩
      rw [← hk]
      have HK := Lib.hid hk
      clear hk
      go_wp2_with fail
      refine (modelBegun_ w4).mono ?_
      rintro e w5 ⟨rfl, hb5⟩
      have HB5 := Lib.hid (Below_on HB4.out hb5 HB4.out.size)
      clear hb5 HB4
      go_wp2_with fail
      refine (holdsBegun_ w5).mono ?_
      rintro e w6 ⟨rfl, hb6⟩
      have HB6 := Lib.hid (Below_on HB5.out hb6 HB5.out.size)
      clear hb6 HB5
      obtain ⟨x0, x1, _⟩ := moh_cells (HAL2.out _ HB6.out).2.2.1
      by_cases hk0 : k = 0
      · have HK0 : Hid (hoE m f = 0) := by show _ = _; rw [← HK.out]; exact hk0
        have HCM : Hid (ckM m = 0) := by
          show _ = _
          have h := HK0.out
          unfold hoE at h
          by_cases h1 : ckM m = 0
          · exact h1
          · rw [if_neg h1] at h; exact absurd h h1
        have HNE : Hid (ckF f = 0) := by
          show _ = _
          have h := HK0.out
          unfold hoE at h
          rw [if_pos HCM.out] at h
          exact neg_ok h
        have HM := Lib.hid (ckM_ok HCM.out)
        have HIS : Hid (if ok = true then x = ⟨[], []⟩ ∧ ∀ l, ckL l 8 = 0 → MoGoes m l → holdsV f l = true else ckL x 8 = 0 ∧ MoGoes m x ∧ holdsV f x = false) := by
          have h := HIF.out
          unfold HoIs at h
          rw [if_pos HK0.out] at h
          exact h
        subst hk0
        clear HIF HK HCM HK0
        cases ok with
        | true =>
          have HIS' := HIS.out
          rw [if_pos rfl] at HIS'
          obtain ⟨hx, hall⟩ := HIS'
          subst hx
          have HLL := Lib.hid hall
          clear hall HIS
          simp only [List.length_nil] at x0 x1
          have z0 := (HAL2.out _ HB6.out).1.l0
          have z1 := (HAL2.out _ HB6.out).1.l1
          have HCL := Lib.hid (CheckLasso_ G K cg ck l 8 w6 (HAL2.out _ HB6.out).1.rg (HAL2.out _ HB6.out).1.rk)
          go_wp2_with fail
          refine HCL.out.mono ?_
          rintro e w7 ⟨rfl, hb7⟩
          have HB7 := Lib.hid (Below_on HB6.out hb7 HB6.out.size)
          clear hb7 HCL x0 x1 z0 z1
          obtain ⟨x0, x1, _⟩ := moh_cells (HAL2.out _ HB7.out).2.2.1
          simp only [List.length_nil] at x0 x1
          by_cases hl : ckL l 8 = 0
          · have z0 := (HAL2.out _ HB7.out).1.l0
            have z1 := (HAL2.out _ HB7.out).1.l1
            obtain ⟨_, c0, c1, c2, c3⟩ := (HAL2.out _ HB7.out).1.at_
            obtain ⟨f1, f2, f3⟩ := ckL_few hl
            have HGB := Lib.hid (GoesBy_ m HM.out l (by omega) f2 f3 A B C G K ca cb cc cg ck vs w7 (HAL2.out _ HB7.out).1.rd (HAL2.out _ HB7.out).1.rg (HAL2.out _ HB7.out).1.rk)
            have HCT : Hid (ckT f l = 0) := by show _ = _; unfold ckT; rw [if_pos HNE.out]; exact hl
            have HHV := Lib.hid (HLL.out l hl)
            rw [hl]
            clear hl f1 f2 f3
            go_wp2_with fail
            refine HGB.out.mono ?_
            rintro e w8 ⟨b, rfl, hb, hb8⟩
            have HB8 := Lib.hid (Below_on HB7.out hb8 HB7.out.size)
            have HB := Lib.hid hb
            clear hb hb8 HGB c0 c1 c2 c3 z0 z1 x0 x1
            obtain ⟨x0, x1, _⟩ := moh_cells (HAL2.out _ HB8.out).2.2.1
            simp only [List.length_nil] at x0 x1
            cases b with
            | true =>
              have HV : Hid (holdsV f l = true) := HHV.out (HB.out.1 rfl)
              have z0 := (HAL2.out _ HB8.out).1.l0
              have z1 := (HAL2.out _ HB8.out).1.l1
              have HHO := Lib.hid (Holds_ F fc f G K cg ck l w8 (HAL2.out _ HB8.out).2.1 (HAL2.out _ HB8.out).1.rg (HAL2.out _ HB8.out).1.rk)
              rw [HV.out, HCT.out] at HHO
              go_wp2_with fail
              refine HHO.out.mono ?_
              rintro e w9 ⟨rfl, hb9⟩
              have HP : Hid (BoolPost w true (.returned (.bool true)) w9) := ⟨rfl, Below_on (HAL2.out _ HB8.out).1.below hb9 (HAL2.out _ HB8.out).1.below.size⟩
              clear hb9 HHO
              go_wp2_with fail
              go_ret
              exact HP.out
            | false =>
              have HP : Hid (BoolPost w true (.returned (.bool true)) w8) := ⟨rfl, (HAL2.out _ HB8.out).1.below⟩
              go_wp2_with fail
              go_ret
              exact HP.out
          · have hl' : (ckL l 8 != 0) = true := by simp [hl]
            have HP : Hid (BoolPost w true (.returned (.bool true)) w7) := ⟨rfl, (HAL2.out _ HB7.out).1.below⟩
            clear hl
            generalize ckL l 8 = kl at *
            go_wp2_with fail
            go_ret
            exact HP.out
        | false =>
          have HIS' := HIS.out
          rw [if_neg (by decide)] at HIS'
          obtain ⟨hcl, hgo, hno⟩ := HIS'
          have HCX := Lib.hid hcl
          have HGO := Lib.hid hgo
          have HNO := Lib.hid hno
          clear hcl hgo hno HIS
          have HCL := Lib.hid (CheckLasso_ H L ch cl x 8 w6 (HAL2.out _ HB6.out).2.2.2.1 (HAL2.out _ HB6.out).2.2.2.2)
          rw [HCX.out] at HCL
          go_wp2_with fail
          refine HCL.out.mono ?_
          rintro e w7 ⟨rfl, hb7⟩
          have HB7 := Lib.hid (Below_on HB6.out hb7 HB6.out.size)
          clear hb7 HCL x0 x1
          obtain ⟨x0, x1, _⟩ := moh_cells (HAL2.out _ HB7.out).2.2.1
          obtain ⟨_, c0, c1, c2, c3⟩ := (HAL2.out _ HB7.out).1.at_
          have HGB := Lib.hid (GoesBy_ m HM.out x (by have := ckL_few HCX.out; omega) (ckL_few HCX.out).2.1 (ckL_few HCX.out).2.2 A B C H L ca cb cc ch cl vs w7 (HAL2.out _ HB7.out).1.rd (HAL2.out _ HB7.out).2.2.2.1 (HAL2.out _ HB7.out).2.2.2.2)
          go_wp2_with fail
          refine HGB.out.mono ?_
          rintro e w8 ⟨b, rfl, hb, hb8⟩
          have HB8 := Lib.hid (Below_on HB7.out hb8 HB7.out.size)
          obtain rfl : b = true := hb.2 HGO.out
          clear hb hb8 HGB c0 c1 c2 c3 x0 x1
          obtain ⟨x0, x1, _⟩ := moh_cells (HAL2.out _ HB8.out).2.2.1
          have HCT : Hid (ckT f x = 0) := by show _ = _; unfold ckT; rw [if_pos HNE.out]; exact HCX.out
          have HHO := Lib.hid (Holds_ F fc f H L ch cl x w8 (HAL2.out _ HB8.out).2.1 (HAL2.out _ HB8.out).2.2.2.1 (HAL2.out _ HB8.out).2.2.2.2)
          rw [HNO.out, HCT.out] at HHO
          go_wp2_with fail
          refine HHO.out.mono ?_
          rintro e w9 ⟨rfl, hb9⟩
          have HP : Hid (BoolPost w true (.returned (.bool true)) w9) := ⟨rfl, Below_on (HAL2.out _ HB8.out).1.below hb9 (HAL2.out _ HB8.out).1.below.size⟩
          clear hb9 HHO x0 x1
          go_wp2_with fail
          go_ret
          exact HP.out
      · have hk' : (k != 0) = true := by simp [hk0]
        have HIS := HIF.out
        unfold HoIs at HIS
        rw [if_neg (by rw [← HK.out]; exact hk0)] at HIS
        obtain ⟨rfl, hx⟩ := HIS
        subst hx
        simp only [List.length_nil] at x0 x1
        have HP : Hid (BoolPost w true (.returned (.bool true)) w6) := ⟨rfl, (HAL2.out _ HB6.out).1.below⟩
        clear hk0 HIF HK
        go_wp2_with fail
        go_ret
        exact HP.out
end Go.Proofs.YtoglgeaiiipchabGreatDoor

namespace Go.Proofs.YtoglgeaiiipchabGreatDoor
open Go Go.ChangeShapes Go.WideShapes Go.ChangeAt Go.RowKit Go.Deep Go.Joins
theorem rd_flat {α : Type} {enc : α → List Value} {sz : Nat} (hsz : ∀ x, (enc x).length = sz) {w : World} {b : Nat} : ∀ (xs : List α) (off : Nat),
    (∀ (k : Nat) (hk : k < xs.length) (i : Nat) (u : Value), (enc xs[k])[i]? = some u → w.cell? ⟨b, off + (k * sz + i), none⟩ = some u) →
    ∀ (j : Nat) (u : Value), (xs.flatMap enc)[j]? = some u → w.cell? ⟨b, off + j, none⟩ = some u
  | [], _, _, j, u, hu => by simp at hu
  | x :: r, off, h, j, u, hu => by
    rw [List.flatMap_cons] at hu
    rcases Nat.lt_or_ge j sz with hj | hj
    · rw [List.getElem?_append_left (by rw [hsz]; exact hj)] at hu
      have := h 0 (by simp) j u (by simpa using hu)
      simpa using this
    · rw [List.getElem?_append_right (by rw [hsz]; exact hj), hsz] at hu
      have := rd_flat hsz r (off + sz) (fun k hk i v hv => by
        have := h (k + 1) (by simpa using hk) i v (by simpa using hv)
        rw [show off + sz + (k * sz + i) = off + ((k + 1) * sz + i) by rw [Nat.add_mul]; omega]
        exact this) (j - sz) u hu
      rw [show off + sz + (j - sz) = off + j by omega] at this
      exact this
theorem slE_of {α : Type} {enc : α → List Value} {sz bt : Nat} (hsz : ∀ x, (enc x).length = sz) (hp : 0 < sz) {w : World} {a : Addr} {len cap : Nat} (hl : len ≤ cap) (hm : cap ≤ maxLen) (hb : len * bt ≤ 140737488351232)
    (hx : ∀ i, i < len → ∃ x : α, ∀ j u, (enc x)[j]? = some u → w.cell? (a.add (i * sz + j)) = some u) : ∃ xs : List α, xs.length = len ∧ SlE enc bt w 0 (some a) cap xs := by
  have hc : ∀ i : Fin len, ∃ x : α, ∀ j u, (enc x)[j]? = some u → w.cell? (a.add (i.1 * sz + j)) = some u := fun i => hx i.1 i.2
  refine ⟨List.ofFn fun i => (hc i).choose, by simp, ⟨by simpa using hl, hm, by simpa using hb, fun hne => ?_⟩⟩
  have hlen : 0 < len := by
    rcases Nat.eq_zero_or_pos len with h | h
    · subst h; simp at hne
    · exact h
  obtain ⟨b, off, spot⟩ := a
  have h0 := (hc ⟨0, hlen⟩).choose_spec 0 _ (List.getElem?_eq_getElem (by rw [hsz]; exact hp))
  have hlt := World.block_lt_of_cell? _ _ h0
  have hs : spot = none := by
    have := World.cell?_spot h0
    simpa [Addr.add] using this
  subst hs
  refine ⟨b, off, rfl, Nat.zero_le _, by simpa [Addr.add] using hlt, rd_flat hsz _ off fun k hk i u hu => ?_⟩
  have hkl : k < len := by simpa using hk
  have := (hc ⟨k, hkl⟩).choose_spec i u (by simpa using hu)
  rw [Addr_add_off] at this
  exact this
section
variable {H : Type} {enc : TypeId × Value → H} {P : Program} {w : World} {spare : Nat → Bool} {held : Bool}
theorem struct_int {e : TypeId} {fs : Array Field} {n base : Nat} {cs : List Value} {y : DataW H × List MemPlace} (he : P.underlying e = some (.struct fs)) (h : DataW.trod enc P w base spare held n e cs = some y) (j : Nat) (f : Field)
    (hf : fs[j]? = some f) (ho : f.offset = j) (hc : P.cellsOf f.type = 1) (hi : P.underlying f.type = some (.int .i64)) : ∃ z, cs[j]? = some (.int .i64 z) := by
  obtain ⟨ys, n', hn', hy, hlen, hyl, hg⟩ := DataW.trod_struct he h
  have h1 := hg j f hf
  rw [ho, hc] at h1
  have hj : j < ys.length := by rw [hyl]; exact (Array.getElem?_eq_some_iff.1 hf).1
  rw [List.getElem?_eq_getElem hj] at h1
  obtain ⟨z, hz, _⟩ := DataW.trod_int hi h1
  have h2 := congrArg (fun l => l[0]?) hz
  exact ⟨z, by simpa using h2⟩
theorem ints_in {t e : TypeId} {n : Nat} {v : Value} {y : DataW H × List MemPlace} (ht : P.underlying t = some (.slice e)) (he : P.underlying e = some (.int .i64)) (hc : P.cellsOf e = 1) (hby : P.bytesOf e = 8)
    (h : DataW.trod enc P w 0 spare held n t [v] = some y) (hw : ∀ k ∈ y.1.weights P t, k ≤ reachBytes) : ∃ A c xs, v = .slice A xs.length c ∧ Ints w 0 A c xs := by
  rcases open_ints ht he hc h with ⟨hcs, _⟩ | ⟨a, len, cap, zs, hcs, _, hl, hm, hz, hx, hcell, _⟩
  · simp only [List.cons.injEq, and_true] at hcs
    exact ⟨none, 0, [], hcs, ⟨by simp, by omega, by simp, Rd.nil⟩⟩
  · simp only [List.cons.injEq, and_true] at hcs
    have hzl : len ≤ zs.length := by rw [hz]; split <;> omega
    have hwt := hw (zs.length * 8) (by
      rw [hx]
      simp only [DataW.weights, ht, lits, List.length_map, List.length_take, List.length_drop, hby]
      rw [show min len zs.length + (zs.length - len) = zs.length by omega]
      simp)
    obtain ⟨xs, hxl, hxs⟩ := slE_of (enc := fun n : Int => [Value.int .i64 n]) (sz := 1) (bt := 8) (fun _ => rfl) (by decide) (w := w) (a := a) hl hm (by simp only [reachBytes] at hwt; omega) (fun i hi => ⟨zs.getD i 0, fun j u hu => by
      have hj : j = 0 := by
        have := (List.getElem?_eq_some_iff.1 hu).1
        simp at this
        exact this
      subst hj
      simp at hu
      subst hu
      simpa using hcell i (by omega)⟩)
    exact ⟨some a, cap, xs, by rw [hcs, hxl], hxs⟩
theorem nds_in {t e ti : TypeId} {n : Nat} {v : Value} {y : DataW H × List MemPlace} {f0 f1 f2 f3 : Field} (ht : P.underlying t = some (.slice e)) (he : P.underlying e = some (.struct #[f0, f1, f2, f3])) (hc : P.cellsOf e = 4) (hby : P.bytesOf e = 32)
    (hi : P.underlying ti = some (.int .i64)) (hci : P.cellsOf ti = 1) (t0 : f0.type = ti) (t1 : f1.type = ti) (t2 : f2.type = ti) (t3 : f3.type = ti) (o0 : f0.offset = 0) (o1 : f1.offset = 1) (o2 : f2.offset = 2) (o3 : f3.offset = 3)
    (h : DataW.trod enc P w 0 spare held n t [v] = some y) (hw : ∀ k ∈ y.1.weights P t, k ≤ reachBytes) : ∃ A c xs, v = .slice A xs.length c ∧ Nds w 0 A c xs := by
  rcases open_slice ht h with ⟨hcs, _⟩ | ⟨a, len, cap, m, n', D, Pl, hcs, _, hl, hm, hmm, hx, hel⟩
  · simp only [List.cons.injEq, and_true] at hcs
    exact ⟨none, 0, [], hcs, ⟨by simp, by omega, by simp, Rd.nil⟩⟩
  · simp only [List.cons.injEq, and_true] at hcs
    have hml : len ≤ m := by rw [hmm]; split <;> omega
    have hwt := hw (m * 32) (by
      rw [hx]
      simp only [DataW.weights, ht, List.length_map, List.length_range, hby]
      rw [show len + (m - len) = m by omega]
      simp)
    obtain ⟨xs, hxl, hxs⟩ := slE_of (enc := Nd.cells) (sz := 4) (bt := 32) (fun _ => rfl) (by decide) (w := w) (a := a) hl hm (by simp only [reachBytes] at hwt; omega) (fun i hi' => by
      obtain ⟨cs', hcc, ht'⟩ := hel i (by omega)
      rw [hc] at hcc
      obtain ⟨_, hcl, hat⟩ := World.cells?_some hcc
      obtain ⟨z0, e0⟩ := struct_int he ht' 0 f0 rfl o0 (by rw [t0]; exact hci) (by rw [t0]; exact hi)
      obtain ⟨z1, e1⟩ := struct_int he ht' 1 f1 rfl o1 (by rw [t1]; exact hci) (by rw [t1]; exact hi)
      obtain ⟨z2, e2⟩ := struct_int he ht' 2 f2 rfl o2 (by rw [t2]; exact hci) (by rw [t2]; exact hi)
      obtain ⟨z3, e3⟩ := struct_int he ht' 3 f3 rfl o3 (by rw [t3]; exact hci) (by rw [t3]; exact hi)
      refine ⟨⟨z0, z1, z2, z3⟩, fun j u hu => ?_⟩
      rw [← Go.Deep.add_add]
      match j, hu with
      | 0, hu => rw [hat 0 (by decide), e0]; simpa [Nd.cells] using hu
      | 1, hu => rw [hat 1 (by decide), e1]; simpa [Nd.cells] using hu
      | 2, hu => rw [hat 2 (by decide), e2]; simpa [Nd.cells] using hu
      | 3, hu => rw [hat 3 (by decide), e3]; simpa [Nd.cells] using hu
      | j + 4, hu => simp [Nd.cells] at hu)
    exact ⟨some a, cap, xs, by rw [hcs, hxl], hxs⟩
end
end Go.Proofs.YtoglgeaiiipchabGreatDoor

namespace Go.Proofs.YtoglgeaiiipchabGreatDoor
open Go Go.ChangeShapes Go.WideShapes Go.ChangeAt Go.RowKit Go.Deep Go.Joins
section
variable {H : Type}
theorem bulk_one (d : DataW H) : 1 ≤ Rows.uptoBulk d := by
  cases d with
  | lit l => cases l <;> simp [Rows.uptoBulk]
  | _ => simp [Rows.uptoBulk]
theorem bulk_part {d : DataW H} : ∀ {l : List (DataW H)}, d ∈ l → Rows.uptoBulk d ≤ Rows.uptoBulkAll l
  | x :: r, h => by
    simp only [Rows.uptoBulkAll]
    rcases List.mem_cons.1 h with e | e
    · subst e; omega
    · have := bulk_part e; omega
theorem bulk_len : ∀ l : List (DataW H), l.length ≤ Rows.uptoBulkAll l
  | [] => by simp [Rows.uptoBulkAll]
  | x :: r => by have h1 := bulk_one x; have h2 := bulk_len r; simp only [Rows.uptoBulkAll, List.length_cons]; omega
theorem bulk_sum {α : Type} {f : Nat → List α} {D : Nat → DataW H} : ∀ {l : List Nat}, (∀ i ∈ l, (f i).length ≤ Rows.uptoBulk (D i)) → ((l.map f).map List.length).sum ≤ Rows.uptoBulkAll (l.map D)
  | [], _ => by simp [Rows.uptoBulkAll]
  | i :: r, h => by
    have h1 := h i (by simp)
    have h2 := bulk_sum (f := f) (D := D) (l := r) (fun j hj => h j (List.mem_cons_of_mem _ hj))
    simp only [List.map_cons, List.sum_cons, Rows.uptoBulkAll]
    omega
variable {enc : TypeId × Value → H} {P : Program} {w : World} {spare : Nat → Bool} {held : Bool}
theorem weights_all_mem {e : TypeId} {d : DataW H} {k : Nat} (hk : k ∈ d.weights P e) : ∀ {l : List (DataW H)}, d ∈ l → k ∈ DataW.weightsAll P e l
  | x :: r, h => by
    simp only [DataW.weightsAll, List.mem_append]
    rcases List.mem_cons.1 h with rfl | h
    · exact .inl hk
    · exact .inr (weights_all_mem hk h)
theorem ints_bulk {t e : TypeId} {n : Nat} {v : Value} {y : DataW H × List MemPlace} (ht : P.underlying t = some (.slice e)) (he : P.underlying e = some (.int .i64)) (hc : P.cellsOf e = 1) (hby : P.bytesOf e = 8)
    (h : DataW.trod enc P w 0 spare held n t [v] = some y) (hw : ∀ k ∈ y.1.weights P t, k ≤ reachBytes) : ∃ A c xs, v = .slice A xs.length c ∧ Ints w 0 A c xs ∧ xs.length ≤ Rows.uptoBulk y.1 := by
  obtain ⟨A, c, xs, rfl, hi⟩ := ints_in ht he hc hby h hw
  refine ⟨A, c, xs, rfl, hi, ?_⟩
  rcases open_ints ht he hc h with ⟨hcs, _⟩ | ⟨a, len, cap, zs, hcs, _, hl, hm, hz, hx, hcell, _⟩
  · simp only [List.cons.injEq, and_true, Value.slice.injEq] at hcs
    omega
  · simp only [List.cons.injEq, and_true, Value.slice.injEq] at hcs
    have hzl : len ≤ zs.length := by rw [hz]; split <;> omega
    have h1 := bulk_len (lits (H := H) .i64 (zs.take len))
    rw [hx]
    simp only [Rows.uptoBulk]
    simp only [lits, List.length_map, List.length_take] at h1
    simp only [lits]
    omega
theorem rows_in {t e ti : TypeId} {n : Nat} {v : Value} {y : DataW H × List MemPlace} (ht : P.underlying t = some (.slice e)) (hce : P.cellsOf e = 1) (hbe : P.bytesOf e = 24) (he : P.underlying e = some (.slice ti)) (hi : P.underlying ti = some (.int .i64)) (hc : P.cellsOf ti = 1) (hby : P.bytesOf ti = 8)
    (h : DataW.trod enc P w 0 spare held n t [v] = some y) (hw : ∀ k ∈ y.1.weights P t, k ≤ reachBytes) :
    ∃ (C : Option Addr) (cc : Nat) (vs : List RwS) (ss : List (List Int)), v = .slice C ss.length cc ∧ SlE rwV 24 w 0 C cc vs ∧ vs.length = ss.length ∧ (∀ k, k < ss.length → ∃ D cd, vs.getD k rw0 = (D, (ss.getD k []).length, cd) ∧ Ints w 0 D cd (ss.getD k [])) ∧ (ss.map List.length).sum ≤ Rows.uptoBulk y.1 := by
  rcases open_slice ht h with ⟨hcs, _⟩ | ⟨a, len, cap, m, n', D, Pl, hcs, _, hl, hm, hmm, hx, hel⟩
  · simp only [List.cons.injEq, and_true] at hcs
    exact ⟨none, 0, [], [], hcs, ⟨by simp, by omega, by simp, Rd.nil⟩, rfl, fun k hk => by simp at hk, by simp⟩
  · simp only [List.cons.injEq, and_true] at hcs
    have hml : len ≤ m := by rw [hmm]; split <;> omega
    have hwt := hw (m * 24) (by
      rw [hx]
      simp only [DataW.weights, ht, List.length_map, List.length_range, hbe]
      rw [show len + (m - len) = m by omega]
      simp)
    have each : ∀ i : Fin len, ∃ q : RwS × List Int, w.cell? (a.add (i.1 * 1)) = some (.slice q.1.1 q.1.2.1 q.1.2.2) ∧ q.1.2.1 = q.2.length ∧ Ints w 0 q.1.1 q.1.2.2 q.2 ∧ q.2.length ≤ Rows.uptoBulk (D i.1) := by
      intro ⟨i, hi'⟩
      obtain ⟨cs', hcc, ht'⟩ := hel i (by omega)
      rw [hce] at hcc
      obtain ⟨_, hcl, hat⟩ := World.cells?_some hcc
      match cs', hcl with
      | [u], _ =>
        obtain ⟨A, c, xs, rfl, hI, hb⟩ := ints_bulk he hi hc hby ht' (fun k hk => hw k (by
          rw [hx]
          simp only [DataW.weights, ht, List.mem_cons, List.mem_append]
          exact .inr (.inl (weights_all_mem hk (List.mem_map.2 ⟨i, List.mem_range.2 hi', rfl⟩)))))
        have h0 := hat 0 (by decide)
        rw [show (a.add (i * 1)).add 0 = a.add (i * 1) by simp [Addr.add]] at h0
        exact ⟨((A, xs.length, c), xs), by simpa using h0, rfl, hI, hb⟩
    obtain ⟨f, hf⟩ : ∃ f : Nat → RwS × List Int, ∀ i, i < len → w.cell? (a.add (i * 1)) = some (.slice (f i).1.1 (f i).1.2.1 (f i).1.2.2) ∧ (f i).1.2.1 = (f i).2.length ∧ Ints w 0 (f i).1.1 (f i).1.2.2 (f i).2 ∧ (f i).2.length ≤ Rows.uptoBulk (D i) :=
      ⟨fun i => if h : i < len then (each ⟨i, h⟩).choose else (rw0, []), fun i hi' => by
        simp only [dif_pos hi']
        exact (each ⟨i, hi'⟩).choose_spec⟩
    obtain ⟨vs, hvl, hvs⟩ := slE_of (enc := rwV) (sz := 1) (bt := 24) (fun _ => rfl) (by decide) (w := w) (a := a) hl hm (by simp only [reachBytes] at hwt; omega) (fun i hi' => ⟨(f i).1, fun j u hu => by
      have hj : j = 0 := by
        have := (List.getElem?_eq_some_iff.1 hu).1
        simp [rwV] at this
        exact this
      subst hj
      simp only [rwV, List.getElem?_cons_zero, Option.some.injEq] at hu
      subst hu
      simpa using (hf i hi').1⟩)
    refine ⟨some a, cap, vs, (List.range len).map fun i => (f i).2, by rw [hcs]; simp, hvs, by simp [hvl], fun k hk => ?_, ?_⟩
    · simp only [List.length_map, List.length_range] at hk
      obtain ⟨h1, h2, h3, _⟩ := hf k hk
      have hk' : k < vs.length := by omega
      obtain ⟨b, off, e1, _, _, h5⟩ := SlE.at (fun _ => rfl) (sz := 1) (fun _ => rfl) (by decide) hvs hk'
      have h6 := h5 0 (.slice vs[k].1 vs[k].2.1 vs[k].2.2) (by rfl)
      cases e1
      have h7 : w.cell? ⟨b, off + k, none⟩ = some (.slice vs[k].1 vs[k].2.1 vs[k].2.2) := by simpa using h6
      have h8 : w.cell? ⟨b, off + k, none⟩ = some (.slice (f k).1.1 (f k).1.2.1 (f k).1.2.2) := by
        rw [Addr_add_off, Nat.mul_one] at h1
        exact h1
      rw [h7] at h8
      simp only [Option.some.injEq, Value.slice.injEq] at h8
      have hss : ((List.range len).map fun i => (f i).2).getD k [] = (f k).2 := by simp [List.getD_eq_getElem?_getD, hk]
      refine ⟨(f k).1.1, (f k).1.2.2, ?_, by rw [hss]; exact h3⟩
      rw [hss, List.getD_eq_getElem?_getD, List.getElem?_eq_getElem hk', Option.getD_some, ← h2]
      exact Prod.ext h8.1 (Prod.ext h8.2.1 h8.2.2)
    · have := bulk_sum (f := fun i => (f i).2) (D := D) (l := List.range len) (fun i hi' => (hf i (List.mem_range.1 hi')).2.2.2)
      rw [hx]
      simp only [Rows.uptoBulk]
      omega
theorem raw_sum (m : Mo) (n : Nat) : (moRaw m n).length ≤ (m.ss.map List.length).sum := by
  have key : ∀ (ss : List (List Int)) (n : Nat), ((List.range n).map fun i => (ss.getD i []).length).sum ≤ (ss.map List.length).sum := by
    intro ss
    induction ss with
    | nil =>
      intro n
      have : ∀ l : List Nat, (l.map fun i => (([] : List (List Int)).getD i []).length).sum = 0 := by
        intro l
        induction l with
        | nil => rfl
        | cons x r ih => simpa using ih
      rw [this]
      exact Nat.zero_le _
    | cons x r ih =>
      intro n
      cases n with
      | zero => simp
      | succ n =>
        rw [List.range_succ_eq_map]
        have := ih n
        simp only [List.map_cons, List.map_map, List.sum_cons]
        simp only [Function.comp_def, Nat.succ_eq_add_one, List.getD_cons_succ, List.getD_cons_zero]
        omega
  unfold moRaw
  rw [List.length_flatMap]
  simp only [List.length_map]
  exact key m.ss n
theorem mo_in {t tF tS ti : TypeId} {f0 f1 f2 f3 : Field} {r : Reach} {b0 : Nat} {v : Value} {d : DataW H} {p : List MemPlace} (hs : P.underlying t = some (.struct #[f0, f1, f2, f3])) (hone : oneCellFields P #[f0, f1, f2, f3] = true) (hC : P.cellsOf t = 4)
    (hi : P.underlying ti = some (.int .i64)) (hci : P.cellsOf ti = 1) (hbi : P.bytesOf ti = 8) (hF : P.underlying tF = some (.slice ti)) (hcF : P.cellsOf tF = 1) (hbF : P.bytesOf tF = 24) (hS : P.underlying tS = some (.slice tF))
    (t0 : f0.type = ti) (t1 : f1.type = tF) (t2 : f2.type = tF) (t3 : f3.type = tS)
    (hv : Value.okWide P w r b0 t v) (h : DataW.Trod enc P w 0 spare held t v d p) (hw : ∀ k ∈ d.weights P t, k ≤ reachBytes) :
    ∃ m A B C ca cb cc vs, v = .agg #[.int .i64 m.pr, .slice A m.ls.length ca, .slice B m.fs.length cb, .slice C m.ss.length cc] ∧ MoRd w 0 m A B C ca cb cc vs ∧ ∀ n, (moRaw m n).length ≤ Rows.uptoBulk d := by
  obtain ⟨v0, v1, v2, v3, y0, y1, y2, y3, n, rfl, rfl, rfl, g0, g1, g2, g3⟩ := open_agg4 hs hone hC hv h
  rw [t0] at g0
  rw [t1] at g1
  rw [t2] at g2
  rw [t3] at g3
  obtain ⟨z0, hz0, _⟩ := DataW.trod_int hi g0
  obtain rfl : v0 = .int .i64 z0 := by simpa using hz0
  have hw' : ∀ k, k ∈ y1.1.weights P tF ∨ k ∈ y2.1.weights P tF ∨ k ∈ y3.1.weights P tS → k ≤ reachBytes := fun k hk => hw k (by
    simp only [DataW.weights, hs]
    simp only [List.map_cons, List.map_nil, DataW.weightsEach, List.mem_append, t0, t1, t2, t3]
    simp
    rcases hk with hk | hk | hk
    · exact .inr (.inl hk)
    · exact .inr (.inr (.inl hk))
    · exact .inr (.inr (.inr hk)))
  obtain ⟨A, ca, ls, rfl, hA⟩ := ints_in hF hi hci hbi g1 (fun k hk => hw' k (.inl hk))
  obtain ⟨B, cb, fs, rfl, hB⟩ := ints_in hF hi hci hbi g2 (fun k hk => hw' k (.inr (.inl hk)))
  obtain ⟨C, cc, vs, ss, rfl, hSS, hl, hrow, hb⟩ := rows_in hS hcF hbF hF hi hci hbi g3 (fun k hk => hw' k (.inr (.inr hk)))
  refine ⟨⟨z0, ls, fs, ss⟩, A, B, C, ca, cb, cc, vs, rfl, ⟨hA, hB, hSS, hl, hrow⟩, fun n => Nat.le_trans (raw_sum _ n) (Nat.le_trans hb ?_)⟩
  simp only [Rows.uptoBulk, Rows.uptoBulkAll]
  omega
end
end Go.Proofs.YtoglgeaiiipchabGreatDoor
