/- An automaton among the arguments of a law, opened to a reading. -/
import Derived.Test.YtoglgeaiiipchaaLITM34
import Derived.Test.YtoglgeaiiipchaaLITM19
import Derived.Deep.CutBlock
import Derived.Deep.DeepCutAuto
import Derived.Test.YtoglgeaiiipchaaLITM1
import Derived.WalkKit
import Derived.ProofKit
import Derived.OpenShut
import Derived.ShutString
import Derived.ChangeOld
import Derived.Below
import Derived.Carry
import Derived.SizedLaws
import Derived.Lib.SmallJoins
import Derived.Deep.Slices
import Derived.Deep.Fields
import Derived.Test.YtoglgeaiiipchaaLITM13
set_option linter.unusedSimpArgs false
set_option linter.unusedVariables false
namespace Go.Proofs.Ytoglgeaiiipchaa
open Go Go.RowKit Go.Maps Go.Shelf

def in3W (w : World) (a b : Au) (A B C D E F : Option Addr) (ca cb cc cd ce cf : Nat) (l : La) (G K : Option Addr) (cg ck : Nat) : World := (auW2 w a b A B C D E F ca cb cc cd ce cf).alloc (Obj.cells #[.slice G l.h.length cg, .slice K l.l.length ck] 26)
structure In3 (w W : World) (a b : Au) (A B C D E F : Option Addr) (ca cb cc cd ce cf : Nat) (l : La) (G K : Option Addr) (cg ck : Nat) : Prop where
  below : Below w.heap.size w W
  size : W.heap.size = w.heap.size + 3
  at1 : AuAt W w.heap.size a A B C ca cb cc
  at2 : AuAt W (w.heap.size + 1) b D E F cd ce cf
  la : W.heap[w.heap.size + 2]? = some (.cells #[.slice G l.h.length cg, .slice K l.l.length ck] 26 (0, 0))
theorem in3_is (w : World) (a b : Au) (A B C D E F : Option Addr) (ca cb cc cd ce cf : Nat) (l : La) (G K : Option Addr) (cg ck : Nat) : In3 w (in3W w a b A B C D E F ca cb cc cd ce cf l G K cg ck) a b A B C D E F ca cb cc cd ce cf l G K cg ck := by
  have h := auW2_is w a b A B C D E F ca cb cc cd ce cf
  have hb : Below (auW2 w a b A B C D E F ca cb cc cd ce cf).heap.size (auW2 w a b A B C D E F ca cb cc cd ce cf) (in3W w a b A B C D E F ca cb cc cd ce cf l G K cg ck) := (Below.refl _ _).alloc (Nat.le_refl _) _
  have hn : (in3W w a b A B C D E F ca cb cc cd ce cf l G K cg ck).heap[(auW2 w a b A B C D E F ca cb cc cd ce cf).heap.size]? = _ := World.alloc_heap_new _ _
  rw [h.size] at hn
  exact ⟨Below_on h.below hb h.below.size, by unfold in3W; rw [World.size_alloc, h.size], h.at1.below hb h.at1.lt, h.at2.below hb h.at2.lt, hn⟩
/-- what stands in memory all along -/
structure InM (a b : Au) (l : La) (A B C D E F G K : Option Addr) (ca cb cc cd ce cf cg ck : Nat) (V : Nat) (w W : World) : Prop where
  below : Below w.heap.size w W
  aa : AuAt W V a A B C ca cb cc
  ab : AuAt W (V + 1) b D E F cd ce cf
  la : W.heap[V + 2]? = some (.cells #[.slice G l.h.length cg, .slice K l.l.length ck] 26 (0, 0))
  ra : AuRd W 0 a A B C ca cb cc
  rb : AuRd W 0 b D E F cd ce cf
  rg : Ints W 0 G cg l.h
  rk : Ints W 0 K ck l.l
theorem InM.on {a b : Au} {l : La} {A B C D E F G K : Option Addr} {ca cb cc cd ce cf cg ck : Nat} {V : Nat} {w W W' : World} (h : InM a b l A B C D E F G K ca cb cc cd ce cf cg ck V w W) (hb : Below W.heap.size W W') : InM a b l A B C D E F G K ca cb cc cd ce cf cg ck V w W' :=
  ⟨Below_on h.below hb h.below.size, h.aa.below hb h.aa.lt, h.ab.below hb h.ab.lt, (hb.block _ (Array.getElem?_eq_some_iff.1 h.la).1).trans h.la, h.ra.below hb, h.rb.below hb, h.rg.below hb, h.rk.below hb⟩
theorem InM.start (a b : Au) (l : La) (A B C D E F G K : Option Addr) (ca cb cc cd ce cf cg ck : Nat) (w : World) (ra : AuRd w 0 a A B C ca cb cc) (rb : AuRd w 0 b D E F cd ce cf) (rg : Ints w 0 G cg l.h) (rk : Ints w 0 K ck l.l) :
    InM a b l A B C D E F G K ca cb cc cd ce cf cg ck w.heap.size w (in3W w a b A B C D E F ca cb cc cd ce cf l G K cg ck) := by
  have h := in3_is w a b A B C D E F ca cb cc cd ce cf l G K cg ck
  exact ⟨h.below, h.at1, h.at2, h.la, ra.below h.below, rb.below h.below, rg.below h.below, rk.below h.below⟩
end Go.Proofs.Ytoglgeaiiipchaa

namespace Go.Proofs.Ytoglgeaiiipchaa
open Go Go.RowKit Go.Maps Go.Shelf

/-- what Included answered -/
def IncIs (a b : Au) (found ok : Bool) (best : La) : Prop := if rdErrI a b = 0 then ok = !found ∧ ApIs a b found best else ok = false ∧ best = ⟨[], []⟩
theorem IncIs.few {a b : Au} {found ok : Bool} {best : La} (h : IncIs a b found ok best) : best.h.length ≤ 4000 ∧ best.l.length ≤ 4000 := by
  unfold IncIs at h
  split at h
  · cases found with
    | true => exact ⟨(h.2.some_ rfl).2.2.2.2.2.1, (h.2.some_ rfl).2.2.2.2.2.2⟩
    | false => rw [h.2.none_ rfl]; exact ⟨Nat.zero_le _, Nat.zero_le _⟩
  · rw [h.2]; exact ⟨Nat.zero_le _, Nat.zero_le _⟩
set_option maxRecDepth 100000 in
set_option maxHeartbeats 8000000 in
theorem IncludeTells_ (a b : Au) (l : La) (A B C D E F G K : Option Addr) (ca cb cc cd ce cf cg ck : Nat) (w : World) (ra : AuRd w 0 a A B C ca cb cc) (rb : AuRd w 0 b D E F cd ce cf) (rg : Ints w 0 G cg l.h) (rk : Ints w 0 K ck l.l) :
    Calls Try.prog 6 #[.agg #[.int .i64 a.st, .int .i64 a.le, .slice A a.fs.length ca, .slice B a.gs.length cb, .slice C a.ss.length cc], .agg #[.int .i64 b.st, .int .i64 b.le, .slice D b.fs.length cd, .slice E b.gs.length ce, .slice F b.ss.length cf], .agg #[.slice G l.h.length cg, .slice K l.l.length ck]] w (BoolPost w true) := by
  have HM0 := Lib.hid (InM.start a b l A B C D E F G K ca cb cc cd ce cf cg ck w ra rb rg rk)
  clear ra rb rg rk
  go_enter Try.func6, Try.ntmps6
  go_upto_region 1 with fail
  change Code.wp _ _ _ _ (in3W w a b A B C D E F ca cb cc cd ce cf l G K cg ck)
  generalize in3W w a b A B C D E F ca cb cc cd ce cf l G K cg ck = W0 at *
  obtain ⟨V, hV⟩ : ∃ V, V = w.heap.size := ⟨_, rfl⟩
  rw [← hV] at HM0 ⊢
  clear hV
  obtain ⟨_, c0, c1, c2, c3, c4⟩ := HM0.out.aa
  obtain ⟨_, d0, d1, d2, d3, d4⟩ := HM0.out.ab
  have HIN := Lib.hid (Included_ a b A B C D E F ca cb cc cd ce cf W0 HM0.out.ra HM0.out.rb)
  go_wp2_with fail
  refine HIN.out.mono ?_
  rintro e w1 ⟨⟨found, ok, best, H, L, ch, cl, rfl, hH, hL, hif⟩, hb1⟩
  have hal : Below w1.heap.size w1 (w1.alloc (Obj.cells #[.slice H best.h.length ch, .slice L best.l.length cl] 26)) := (Below.refl _ _).alloc (Nat.le_refl _) _
  have HX := Lib.hid (allocNew w1 (Obj.cells #[.slice H best.h.length ch, .slice L best.l.length cl] 26))
  have HM1 := Lib.hid ((HM0.out.on hb1).on hal)
  have HIF : Hid (IncIs a b found ok best) := hif
  have HIH := Lib.hid ((wy_ints hH (by have := HIF.out.few.1; omega)).below hal)
  have HIL := Lib.hid ((wy_ints hL (by have := HIF.out.few.2; omega)).below hal)
  clear hb1 hal hH hL hif HIN c0 c1 c2 c3 c4 d0 d1 d2 d3 d4 HM0
  go_upto_region 2 with fail
  obtain ⟨X, hX⟩ : ∃ X, X = w1.heap.size := ⟨_, rfl⟩
  rw [← hX] at HX ⊢
  clear hX
  generalize w1.alloc (Obj.cells #[.slice H best.h.length ch, .slice L best.l.length cl] 26) = W1 at *
  have HALL : Hid (∀ W, Below W1.heap.size W1 W → InM a b l A B C D E F G K ca cb cc cd ce cf cg ck V w W ∧ W.heap[X]? = some (.cells #[.slice H best.h.length ch, .slice L best.l.length cl] 26 (0, 0)) ∧ Ints W 0 H ch best.h ∧ Ints W 0 L cl best.l) := fun W hW =>
    ⟨HM1.out.on hW, (hW.block X (Array.getElem?_eq_some_iff.1 HX.out).1).trans HX.out, HIH.out.below hW, HIL.out.below hW⟩
  clear HM1 HX HIH HIL
  have HCA := Lib.hid (CheckAuto_ a A B C ca cb cc W1 (HALL.out W1 (Below.refl _ _)).1.ra)
  obtain ⟨_, c0, c1, c2, c3, c4⟩ := (HALL.out W1 (Below.refl _ _)).1.aa
  go_upto_region 3 with (first
    | (go_at_call 23; refine HCA.out.mono ?_; rintro e w2 ⟨rfl, hb2⟩))
  have HB2 := Lib.hid hb2
  clear hb2 c0 c1 c2 c3 c4 HCA
  go_upto_if 29 with fail
  go_cut [10] (fun v10 wx => v10 = .int .i64 (if ckA a = 0 then ckA b else ckA a) ∧ Hid (Below W1.heap.size W1 wx))
  case first =>
    by_cases h1 : ckA a = 0
    · have HCB := Lib.hid (CheckAuto_ b D E F cd ce cf w2 (HALL.out w2 HB2.out).1.rb)
      obtain ⟨_, d0, d1, d2, d3, d4⟩ := (HALL.out w2 HB2.out).1.ab
      have H1 := Lib.hid h1
      rw [h1]
      clear h1
      go_wp2_with (first
        | (go_at_call 23; refine HCB.out.mono ?_; rintro e w3 ⟨rfl, hb3⟩))
      go_meet
      exact ⟨by rw [if_pos H1.out], Below_on HB2.out hb3 HB2.out.size⟩
    · have h1' : (ckA a == 0) = false := by simp [h1]
      have H1 := Lib.hid h1
      clear h1
      go_wp2_with fail
      go_meet
      exact ⟨by rw [if_neg H1.out], HB2⟩
  case rest =>
    obtain ⟨rfl, HB3⟩ := hcut
    obtain ⟨k1, hk1⟩ : ∃ k, k = if ckA a = 0 then ckA b else ckA a := ⟨_, rfl⟩
    rw [← hk1]
    have HK1 := Lib.hid hk1
    clear hk1 HB2
    generalize wc = w3 at *
    go_upto_region 5 with fail
    go_cut [40] (fun v40 wx => v40 = .bool (k1 == 0 && a.le != b.le) ∧ w3 = wx)
    case first =>
      obtain ⟨_, c0, c1, c2, c3, c4⟩ := (HALL.out _ HB3.out).1.aa
      obtain ⟨_, d0, d1, d2, d3, d4⟩ := (HALL.out _ HB3.out).1.ab
      by_cases h1 : k1 = 0
      · subst h1
        go_wp2_with fail
        go_meet
        exact ⟨rfl, rfl⟩
      · have h1' : (k1 == 0) = false := by simp [h1]
        clear h1
        go_wp2_with fail
        go_meet
        exact ⟨by rw [h1']; rfl, rfl⟩
    case rest =>
      obtain ⟨rfl, rfl⟩ := hcut
      go_upto_if 40 with fail
      go_cut [10] (fun v10 wx => v10 = .int .i64 (if k1 = 0 then (if a.le = b.le then 0 else 1) else k1) ∧ w3 = wx)
      case first =>
        by_cases h1 : k1 = 0
        · by_cases h2 : a.le = b.le
          · have hx : (k1 == 0 && a.le != b.le) = false := by simp [h1, h2]
            have HE : Hid ((if k1 = 0 then (if a.le = b.le then 0 else 1) else k1) = k1) := by show _ = _; rw [if_pos h1, if_pos h2, h1]
            clear h1 h2
            rw [hx]
            go_wp2_with fail
            go_meet
            exact ⟨by rw [HE.out], rfl⟩
          · have hx : (k1 == 0 && a.le != b.le) = true := by simp [h1, h2]
            have HE : Hid ((if k1 = 0 then (if a.le = b.le then 0 else 1) else k1) = 1) := by show _ = _; rw [if_pos h1, if_neg h2]
            clear h1 h2
            rw [hx]
            go_wp2_with fail
            go_meet
            exact ⟨by rw [HE.out], rfl⟩
        · have hx : (k1 == 0 && a.le != b.le) = false := by simp [h1]
          have HE : Hid ((if k1 = 0 then (if a.le = b.le then 0 else 1) else k1) = k1) := by show _ = _; rw [if_neg h1]
          clear h1
          rw [hx]
          go_wp2_with fail
          go_meet
          exact ⟨by rw [HE.out], rfl⟩
      case rest =>
        obtain ⟨rfl, rfl⟩ := hcut
        obtain ⟨k2, hk2⟩ : ∃ k : Int, k = if k1 = 0 then (if a.le = b.le then 0 else 1) else k1 := ⟨_, rfl⟩
        rw [← hk2]
        have HK2 := Lib.hid hk2
        clear hk2
        go_upto_region 7 with fail
        go_cut [57] (fun v57 wx => v57 = .bool (k2 == 0 && !(decide (a.st ≤ 3) && decide (b.st ≤ 3) && decide (a.le ≤ 2))) ∧ w3 = wx)
        case first =>
          obtain ⟨_, c0, c1, c2, c3, c4⟩ := (HALL.out _ HB3.out).1.aa
          obtain ⟨_, d0, d1, d2, d3, d4⟩ := (HALL.out _ HB3.out).1.ab
          by_cases h1 : k2 = 0
          · subst h1
            by_cases h3 : a.st ≤ 3
            · have n3 : decide (3 < a.st) = false := by simp; omega
              by_cases h4 : b.st ≤ 3
              · have n4 : decide (3 < b.st) = false := by simp; omega
                by_cases h5 : a.le ≤ 2
                · have n5 : decide (2 < a.le) = false := by simp; omega
                  have HE : Hid ((!(decide (a.st ≤ 3) && decide (b.st ≤ 3) && decide (a.le ≤ 2))) = false) := by show _ = _; simp [h3, h4, h5]
                  clear h3 h4 h5
                  go_wp2_with fail
                  go_meet
                  exact ⟨by rw [HE.out]; rfl, rfl⟩
                · have n5 : decide (2 < a.le) = true := by simp; omega
                  have HE : Hid ((!(decide (a.st ≤ 3) && decide (b.st ≤ 3) && decide (a.le ≤ 2))) = true) := by show _ = _; simp [h3, h4, h5]
                  clear h3 h4 h5
                  go_wp2_with fail
                  go_meet
                  exact ⟨by rw [HE.out]; rfl, rfl⟩
              · have n4 : decide (3 < b.st) = true := by simp; omega
                have HE : Hid ((!(decide (a.st ≤ 3) && decide (b.st ≤ 3) && decide (a.le ≤ 2))) = true) := by show _ = _; simp [h3, h4]
                clear h3 h4
                go_wp2_with fail
                go_meet
                exact ⟨by rw [HE.out]; rfl, rfl⟩
            · have n3 : decide (3 < a.st) = true := by simp; omega
              have HE : Hid ((!(decide (a.st ≤ 3) && decide (b.st ≤ 3) && decide (a.le ≤ 2))) = true) := by show _ = _; simp [h3]
              clear h3
              go_wp2_with fail
              go_meet
              exact ⟨by rw [HE.out]; rfl, rfl⟩
          · have h1' : (k2 == 0) = false := by simp [h1]
            clear h1
            go_wp2_with fail
            go_meet
            exact ⟨by rw [h1']; rfl, rfl⟩
        case rest =>
          obtain ⟨rfl, rfl⟩ := hcut
          go_upto_if 57 with fail
          go_cut [10] (fun v10 wx => v10 = .int .i64 (rdErrI a b) ∧ w3 = wx)
          case first =>
            have HR : Hid (rdErrI a b = if k2 = 0 then (if a.st ≤ 3 ∧ b.st ≤ 3 ∧ a.le ≤ 2 then 0 else 2) else k2) := by
              show _ = _
              rw [HK2.out, HK1.out]
              unfold rdErrI
              by_cases h1 : ckA a = 0
              · rw [if_pos h1, if_pos h1]
                by_cases h2 : ckA b = 0
                · rw [if_pos h2, if_pos h2]
                  by_cases h3 : a.le = b.le
                  · rw [if_pos h3, if_pos h3, if_pos rfl]
                  · rw [if_neg h3, if_neg h3, if_neg (by decide)]
                · rw [if_neg h2, if_neg h2, if_neg h2]
              · rw [if_neg h1, if_neg h1, if_neg h1, if_neg h1]
            by_cases h1 : k2 = 0
            · by_cases h2 : a.st ≤ 3 ∧ b.st ≤ 3 ∧ a.le ≤ 2
              · have hx : (k2 == 0 && !(decide (a.st ≤ 3) && decide (b.st ≤ 3) && decide (a.le ≤ 2))) = false := by simp [h1, h2.1, h2.2.1, h2.2.2]
                have HE : Hid (rdErrI a b = k2) := by show _ = _; rw [HR.out, if_pos h1, if_pos h2, h1]
                clear h1 h2
                rw [hx]
                go_wp2_with fail
                go_meet
                exact ⟨by rw [HE.out], rfl⟩
              · have hx : (k2 == 0 && !(decide (a.st ≤ 3) && decide (b.st ≤ 3) && decide (a.le ≤ 2))) = true := by
                  rw [h1]
                  by_cases g1 : a.st ≤ 3
                  · by_cases g2 : b.st ≤ 3
                    · have g3 : ¬ a.le ≤ 2 := fun h => h2 ⟨g1, g2, h⟩
                      simp [g1, g2, g3]
                    · simp [g1, g2]
                  · simp [g1]
                have HE : Hid (rdErrI a b = 2) := by show _ = _; rw [HR.out, if_pos h1, if_neg h2]
                clear h1 h2
                rw [hx]
                go_wp2_with fail
                go_meet
                exact ⟨by rw [HE.out], rfl⟩
            · have hx : (k2 == 0 && !(decide (a.st ≤ 3) && decide (b.st ≤ 3) && decide (a.le ≤ 2))) = false := by simp [h1]
              have HE : Hid (rdErrI a b = k2) := by show _ = _; rw [HR.out, if_neg h1]
              clear h1
              rw [hx]
              go_wp2_with fail
              go_meet
              exact ⟨by rw [HE.out], rfl⟩
          case rest =>
            obtain ⟨rfl, rfl⟩ := hcut
            clear HK1 HK2
            go_wp2_with fail
            refine (includeBegun_ w3).mono ?_
            rintro e w4 ⟨rfl, hb4⟩
            have HB4 := Lib.hid (Below_on HB3.out hb4 HB3.out.size)
            clear hb4 HB3
            go_wp2_with fail
            refine (wordBegun_ w4).mono ?_
            rintro e w5 ⟨rfl, hb5⟩
            have HB5 := Lib.hid (Below_on HB4.out hb5 HB4.out.size)
            clear hb5 HB4
            have hif := HIF.out
            unfold IncIs at hif
            by_cases h0 : rdErrI a b = 0
            · have HH0 := Lib.hid h0
              rw [if_pos h0] at hif
              obtain ⟨rfl, hA⟩ := hif
              have HA := Lib.hid hA
              rw [h0]
              clear h0 hA HIF
              obtain ⟨hM, hx, hh, hl⟩ := HALL.out w5 HB5.out
              cases found with
              | true =>
                have HT := Lib.hid (inc_true HH0.out HA.out)
                have HCL := Lib.hid (CheckLasso_ H L ch cl best a.le w5 hh hl)
                rw [HT.out.1] at HCL
                obtain ⟨_, c0, c1, c2, c3, c4⟩ := hM.aa
                obtain ⟨x0, x1, _, _⟩ := la_cell2 hx
                clear hM hx hh hl
                go_wp2_with fail
                refine HCL.out.mono ?_
                rintro e w6 ⟨rfl, hb6⟩
                have HB6 := Lib.hid (Below_on HB5.out hb6 HB5.out.size)
                clear hb6 HB5 HCL c0 c1 c2 c3 c4 x0 x1
                obtain ⟨hM, hx, hh, hl⟩ := HALL.out w6 HB6.out
                have HTK := Lib.hid (Takes_ a A B C H L ca cb cc ch cl best w6 hM.ra hh hl)
                unfold TkPost at HTK
                rw [HT.out.2.2.2.1, HT.out.2.1] at HTK
                obtain ⟨_, c0, c1, c2, c3, c4⟩ := hM.aa
                obtain ⟨x0, x1, _, _⟩ := la_cell2 hx
                clear hM hx hh hl
                go_wp2_with fail
                refine HTK.out.mono ?_
                rintro e w7 ⟨rfl, hb7⟩
                have HB7 := Lib.hid (Below_on HB6.out hb7 HB6.out.size)
                clear hb7 HB6 HTK c0 c1 c2 c3 c4 x0 x1
                obtain ⟨hM, hx, hh, hl⟩ := HALL.out w7 HB7.out
                have HTK := Lib.hid (Takes_ b D E F H L cd ce cf ch cl best w7 hM.rb hh hl)
                unfold TkPost at HTK
                rw [HT.out.2.2.2.2, HT.out.2.2.1] at HTK
                obtain ⟨_, d0, d1, d2, d3, d4⟩ := hM.ab
                obtain ⟨x0, x1, _, _⟩ := la_cell2 hx
                have HBW := Lib.hid hM.below
                clear hM hx hh hl
                go_wp2_with fail
                refine HTK.out.mono ?_
                rintro e w8 ⟨rfl, hb8⟩
                have HP : Hid (BoolPost w true (.returned (.bool true)) w8) := ⟨rfl, Below_on HBW.out hb8 HBW.out.size⟩
                clear hb8 HTK d0 d1 d2 d3 d4 x0 x1
                go_wp2_with fail
                go_ret
                exact HP.out
              | false =>
                have HN := Lib.hid (fun h => Bool.noConfusion (HA.out.iff_.2 h) : ¬ Apart a b)
                have hbe := HA.out.none_ rfl
                subst hbe
                have HTK := Lib.hid (Takes_ a A B C G K ca cb cc cg ck l w5 hM.ra hM.rg hM.rk)
                unfold TkPost at HTK
                obtain ⟨_, c0, c1, c2, c3, c4⟩ := hM.aa
                obtain ⟨l0, l1, _, _⟩ := la_cell2 (V := V + 1 + 1) hM.la
                clear hM hx hh hl
                go_wp2_with fail
                refine HTK.out.mono ?_
                rintro e w6 ⟨rfl, hb6⟩
                have HB6 := Lib.hid (Below_on HB5.out hb6 HB5.out.size)
                clear hb6 HB5 HTK c0 c1 c2 c3 c4 l0 l1
                obtain ⟨hM, hx, hh, hl⟩ := HALL.out w6 HB6.out
                have HTK := Lib.hid (Takes_ b D E F G K cd ce cf cg ck l w6 hM.rb hM.rg hM.rk)
                unfold TkPost at HTK
                rw [(inc_err HH0.out l).1] at HTK
                obtain ⟨_, d0, d1, d2, d3, d4⟩ := hM.ab
                obtain ⟨l0, l1, _, _⟩ := la_cell2 (V := V + 1 + 1) hM.la
                have HBW := Lib.hid hM.below
                clear hM hx hh hl
                have HPQ := Lib.hid (inc_false HH0.out HN.out l)
                generalize tkB a l = p at *
                generalize tkB b l = q at *
                go_wp2_with fail
                refine HTK.out.mono ?_
                rintro e w7 ⟨rfl, hb7⟩
                have HP : Hid (BoolPost w true (.returned (.bool true)) w7) := ⟨rfl, Below_on HBW.out hb7 HBW.out.size⟩
                obtain ⟨x0, x1, _, _⟩ := la_cell2 (HALL.out w7 (Below_on HB6.out hb7 HB6.out.size)).2.1
                clear hb7 HTK d0 d1 d2 d3 d4 l0 l1
                by_cases ht : taErr a l = 0
                · rw [ht]
                  clear ht
                  cases p with
                  | false =>
                    go_wp2_with fail
                    go_ret
                    exact HP.out
                  | true =>
                    obtain rfl := HPQ.out rfl
                    go_wp2_with fail
                    go_ret
                    exact HP.out
                · have ht2 : (taErr a l != 0) = true := by simp [ht]
                  clear ht
                  generalize taErr a l = te at *
                  go_wp2_with fail
                  go_ret
                  exact HP.out
            · rw [if_neg h0] at hif
              obtain ⟨rfl, rfl⟩ := hif
              have hr2 : (rdErrI a b != 0) = true := by simp [h0]
              obtain ⟨hM, hx, hh, hl⟩ := HALL.out w5 HB5.out
              have HP : Hid (BoolPost w true (.returned (.bool true)) w5) := ⟨rfl, hM.below⟩
              obtain ⟨x0, x1, _, _⟩ := la_cell2 hx
              clear hM hx hh hl h0 HIF
              generalize rdErrI a b = rd at *
              go_wp2_with fail
              go_ret
              exact HP.out
end Go.Proofs.Ytoglgeaiiipchaa

namespace Go.Proofs.Ytoglgeaiiipchaa
open Go Go.ChangeShapes Go.WideShapes Go.ChangeAt Go.RowKit Go.Deep Go.Joins

theorem rd_flat {α : Type} {enc : α → List Value} {sz : Nat} (hsz : ∀ x, (enc x).length = sz) {w : World} {b : Nat} : ∀ (xs : List α) (off : Nat),
    (∀ (k : Nat) (hk : k < xs.length) (i : Nat) (u : Value), (enc xs[k])[i]? = some u → w.cell? ⟨b, off + (k * sz + i), none⟩ = some u) →
    ∀ (j : Nat) (u : Value), (xs.flatMap enc)[j]? = some u → w.cell? ⟨b, off + j, none⟩ = some u
  | [], _, _, j, u, hu => by simp at hu
  | x :: r, off, h, j, u, hu => by
    rw [List.flatMap_cons] at hu
    rcases Nat.lt_or_ge j sz with hj | hj
    · rw [List.getElem?_append_left (by rw [hsz]; exact hj)] at hu
      have := h 0 (by simp) j u (by simpa using hu)
      simpa using this
    · rw [List.getElem?_append_right (by rw [hsz]; exact hj), hsz] at hu
      have := rd_flat hsz r (off + sz) (fun k hk i v hv => by
        have := h (k + 1) (by simpa using hk) i v (by simpa using hv)
        rw [show off + sz + (k * sz + i) = off + ((k + 1) * sz + i) by rw [Nat.add_mul]; omega]
        exact this) (j - sz) u hu
      rw [show off + sz + (j - sz) = off + j by omega] at this
      exact this
theorem slE_of {α : Type} {enc : α → List Value} {sz bt : Nat} (hsz : ∀ x, (enc x).length = sz) (hp : 0 < sz) {w : World} {a : Addr} {len cap : Nat} (hl : len ≤ cap) (hm : cap ≤ maxLen) (hb : len * bt ≤ 140737488351232)
    (hx : ∀ i, i < len → ∃ x : α, ∀ j u, (enc x)[j]? = some u → w.cell? (a.add (i * sz + j)) = some u) : ∃ xs : List α, xs.length = len ∧ SlE enc bt w 0 (some a) cap xs := by
  have hc : ∀ i : Fin len, ∃ x : α, ∀ j u, (enc x)[j]? = some u → w.cell? (a.add (i.1 * sz + j)) = some u := fun i => hx i.1 i.2
  refine ⟨List.ofFn fun i => (hc i).choose, by simp, ⟨by simpa using hl, hm, by simpa using hb, fun hne => ?_⟩⟩
  have hlen : 0 < len := by
    rcases Nat.eq_zero_or_pos len with h | h
    · subst h; simp at hne
    · exact h
  obtain ⟨b, off, spot⟩ := a
  have h0 := (hc ⟨0, hlen⟩).choose_spec 0 _ (List.getElem?_eq_getElem (by rw [hsz]; exact hp))
  have hlt := World.block_lt_of_cell? _ _ h0
  have hs : spot = none := by
    have := World.cell?_spot h0
    simpa [Addr.add] using this
  subst hs
  refine ⟨b, off, rfl, Nat.zero_le _, by simpa [Addr.add] using hlt, rd_flat hsz _ off fun k hk i u hu => ?_⟩
  have hkl : k < len := by simpa using hk
  have := (hc ⟨k, hkl⟩).choose_spec i u (by simpa using hu)
  rw [Addr_add_off] at this
  exact this

section
variable {H : Type} {enc : TypeId × Value → H} {P : Program} {w : World} {spare : Nat → Bool} {held : Bool}
theorem struct_int {e : TypeId} {fs : Array Field} {n base : Nat} {cs : List Value} {y : DataW H × List MemPlace} (he : P.underlying e = some (.struct fs)) (h : DataW.trod enc P w base spare held n e cs = some y) (j : Nat) (f : Field)
    (hf : fs[j]? = some f) (ho : f.offset = j) (hc : P.cellsOf f.type = 1) (hi : P.underlying f.type = some (.int .i64)) : ∃ z, cs[j]? = some (.int .i64 z) := by
  obtain ⟨ys, n', hn', hy, hlen, hyl, hg⟩ := DataW.trod_struct he h
  have h1 := hg j f hf
  rw [ho, hc] at h1
  have hj : j < ys.length := by rw [hyl]; exact (Array.getElem?_eq_some_iff.1 hf).1
  rw [List.getElem?_eq_getElem hj] at h1
  obtain ⟨z, hz, _⟩ := DataW.trod_int hi h1
  have h2 := congrArg (fun l => l[0]?) hz
  exact ⟨z, by simpa using h2⟩

/-- a slice of numbers, as a reading -/
theorem ints_in {t e : TypeId} {n : Nat} {v : Value} {y : DataW H × List MemPlace} (ht : P.underlying t = some (.slice e)) (he : P.underlying e = some (.int .i64)) (hc : P.cellsOf e = 1) (hby : P.bytesOf e = 8)
    (h : DataW.trod enc P w 0 spare held n t [v] = some y) (hw : ∀ k ∈ y.1.weights P t, k ≤ reachBytes) : ∃ A c xs, v = .slice A xs.length c ∧ Ints w 0 A c xs := by
  rcases open_ints ht he hc h with ⟨hcs, _⟩ | ⟨a, len, cap, zs, hcs, _, hl, hm, hz, hx, hcell, _⟩
  · simp only [List.cons.injEq, and_true] at hcs
    exact ⟨none, 0, [], hcs, ⟨by simp, by omega, by simp, Rd.nil⟩⟩
  · simp only [List.cons.injEq, and_true] at hcs
    have hzl : len ≤ zs.length := by rw [hz]; split <;> omega
    have hwt := hw (zs.length * 8) (by
      rw [hx]
      simp only [DataW.weights, ht, lits, List.length_map, List.length_take, List.length_drop, hby]
      rw [show min len zs.length + (zs.length - len) = zs.length by omega]
      simp)
    obtain ⟨xs, hxl, hxs⟩ := slE_of (enc := fun n : Int => [Value.int .i64 n]) (sz := 1) (bt := 8) (fun _ => rfl) (by decide) (w := w) (a := a) hl hm (by simp only [reachBytes] at hwt; omega) (fun i hi => ⟨zs.getD i 0, fun j u hu => by
      have hj : j = 0 := by
        have := (List.getElem?_eq_some_iff.1 hu).1
        simp at this
        exact this
      subst hj
      simp at hu
      subst hu
      simpa using hcell i (by omega)⟩)
    exact ⟨some a, cap, xs, by rw [hcs, hxl], hxs⟩
/-- a slice of nodes, as a reading -/
theorem nds_in {t e ti : TypeId} {n : Nat} {v : Value} {y : DataW H × List MemPlace} {f0 f1 f2 f3 : Field} (ht : P.underlying t = some (.slice e)) (he : P.underlying e = some (.struct #[f0, f1, f2, f3])) (hc : P.cellsOf e = 4) (hby : P.bytesOf e = 32)
    (hi : P.underlying ti = some (.int .i64)) (hci : P.cellsOf ti = 1) (t0 : f0.type = ti) (t1 : f1.type = ti) (t2 : f2.type = ti) (t3 : f3.type = ti) (o0 : f0.offset = 0) (o1 : f1.offset = 1) (o2 : f2.offset = 2) (o3 : f3.offset = 3)
    (h : DataW.trod enc P w 0 spare held n t [v] = some y) (hw : ∀ k ∈ y.1.weights P t, k ≤ reachBytes) : ∃ A c xs, v = .slice A xs.length c ∧ Nds w 0 A c xs := by
  rcases open_slice ht h with ⟨hcs, _⟩ | ⟨a, len, cap, m, n', D, Pl, hcs, _, hl, hm, hmm, hx, hel⟩
  · simp only [List.cons.injEq, and_true] at hcs
    exact ⟨none, 0, [], hcs, ⟨by simp, by omega, by simp, Rd.nil⟩⟩
  · simp only [List.cons.injEq, and_true] at hcs
    have hml : len ≤ m := by rw [hmm]; split <;> omega
    have hwt := hw (m * 32) (by
      rw [hx]
      simp only [DataW.weights, ht, List.length_map, List.length_range, hby]
      rw [show len + (m - len) = m by omega]
      simp)
    obtain ⟨xs, hxl, hxs⟩ := slE_of (enc := Nd.cells) (sz := 4) (bt := 32) (fun _ => rfl) (by decide) (w := w) (a := a) hl hm (by simp only [reachBytes] at hwt; omega) (fun i hi' => by
      obtain ⟨cs', hcc, ht'⟩ := hel i (by omega)
      rw [hc] at hcc
      obtain ⟨_, hcl, hat⟩ := World.cells?_some hcc
      obtain ⟨z0, e0⟩ := struct_int he ht' 0 f0 rfl o0 (by rw [t0]; exact hci) (by rw [t0]; exact hi)
      obtain ⟨z1, e1⟩ := struct_int he ht' 1 f1 rfl o1 (by rw [t1]; exact hci) (by rw [t1]; exact hi)
      obtain ⟨z2, e2⟩ := struct_int he ht' 2 f2 rfl o2 (by rw [t2]; exact hci) (by rw [t2]; exact hi)
      obtain ⟨z3, e3⟩ := struct_int he ht' 3 f3 rfl o3 (by rw [t3]; exact hci) (by rw [t3]; exact hi)
      refine ⟨⟨z0, z1, z2, z3⟩, fun j u hu => ?_⟩
      rw [← Go.Deep.add_add]
      match j, hu with
      | 0, hu => rw [hat 0 (by decide), e0]; simpa [Nd.cells] using hu
      | 1, hu => rw [hat 1 (by decide), e1]; simpa [Nd.cells] using hu
      | 2, hu => rw [hat 2 (by decide), e2]; simpa [Nd.cells] using hu
      | 3, hu => rw [hat 3 (by decide), e3]; simpa [Nd.cells] using hu
      | j + 4, hu => simp [Nd.cells] at hu)
    exact ⟨some a, cap, xs, by rw [hcs, hxl], hxs⟩
end
end Go.Proofs.Ytoglgeaiiipchaa

namespace Go.Proofs.Ytoglgeaiiipchaa
open Go Go.ChangeShapes Go.WideShapes Go.ChangeAt Go.RowKit Go.Deep Go.Joins

section
variable {H : Type} {enc : TypeId × Value → H} {P : Program} {w : World} {spare : Nat → Bool} {held : Bool}
theorem array5 {α : Type} {cs : Array α} (h : cs.size = 5) : ∃ c0 c1 c2 c3 c4, cs = #[c0, c1, c2, c3, c4] := by
  obtain ⟨l⟩ := cs
  match l, h with
  | [c0, c1, c2, c3, c4], _ => exact ⟨c0, c1, c2, c3, c4, rfl⟩
/-- one field of a struct of one-cell fields -/
theorem field_in {t : TypeId} {fs : Array Field} {n base : Nat} {cs : List Value} {x : DataW H × List MemPlace} (hs : P.underlying t = some (.struct fs)) (hone : oneCellFields P fs = true) (h : DataW.trod enc P w base spare held n t cs = some x) :
    ∃ (ys : List (DataW H × List MemPlace)) (m : Nat), x.1 = .agg (ys.map Prod.fst) ∧ ys.length = fs.size ∧ ∀ j f, fs[j]? = some f → DataW.trod enc P w base spare held m f.type ((cs.drop j).take 1) = ys[j]? := by
  obtain ⟨ys, n', hn', rfl, hlen, hyl, hg⟩ := DataW.trod_struct hs h
  refine ⟨ys, n', rfl, hyl, fun j f hf => ?_⟩
  obtain ⟨o, k⟩ := hone_of hone j f hf
  have := hg j f hf
  rwa [o, k] at this
/-- a slice of bools, as a reading -/
theorem bools_in {t e : TypeId} {n : Nat} {v : Value} {y : DataW H × List MemPlace} (ht : P.underlying t = some (.slice e)) (he : P.underlying e = some .bool) (hc : P.cellsOf e = 1) (hby : P.bytesOf e = 1)
    (h : DataW.trod enc P w 0 spare held n t [v] = some y) (hw : ∀ k ∈ y.1.weights P t, k ≤ reachBytes) : ∃ A c xs, v = .slice A xs.length c ∧ Bools w 0 A c xs := by
  rcases open_slice ht h with ⟨hcs, _⟩ | ⟨a, len, cap, m, n', D, Pl, hcs, _, hl, hm, hmm, hx, hel⟩
  · simp only [List.cons.injEq, and_true] at hcs
    exact ⟨none, 0, [], hcs, ⟨by simp, by omega, by simp, Rd.nil⟩⟩
  · simp only [List.cons.injEq, and_true] at hcs
    have hml : len ≤ m := by rw [hmm]; split <;> omega
    have hwt := hw (m * 1) (by
      rw [hx]
      simp only [DataW.weights, ht, List.length_map, List.length_range, hby]
      rw [show len + (m - len) = m by omega]
      simp)
    obtain ⟨xs, hxl, hxs⟩ := slE_of (enc := fun b : Bool => [Value.bool b]) (sz := 1) (bt := 1) (fun _ => rfl) (by decide) (w := w) (a := a) hl hm (by simp only [reachBytes] at hwt; omega) (fun i hi' => by
      obtain ⟨cs', hcc, ht'⟩ := hel i (by omega)
      rw [hc] at hcc
      obtain ⟨_, hcl, hat⟩ := World.cells?_some hcc
      obtain ⟨b, hb, _⟩ := DataW.trod_bool he ht'
      refine ⟨b, fun j u hu => ?_⟩
      rw [← Go.Deep.add_add]
      match j, hu with
      | 0, hu => rw [hat 0 (by decide), hb]; simpa using hu
      | j + 1, hu => simp at hu)
    exact ⟨some a, cap, xs, by rw [hcs, hxl], hxs⟩
/-- a slice of steps, as a reading -/
theorem stps_in {t e ti : TypeId} {n : Nat} {v : Value} {y : DataW H × List MemPlace} {f0 f1 f2 : Field} (ht : P.underlying t = some (.slice e)) (he : P.underlying e = some (.struct #[f0, f1, f2])) (hc : P.cellsOf e = 3) (hby : P.bytesOf e = 24)
    (hi : P.underlying ti = some (.int .i64)) (hci : P.cellsOf ti = 1) (t0 : f0.type = ti) (t1 : f1.type = ti) (t2 : f2.type = ti) (o0 : f0.offset = 0) (o1 : f1.offset = 1) (o2 : f2.offset = 2)
    (h : DataW.trod enc P w 0 spare held n t [v] = some y) (hw : ∀ k ∈ y.1.weights P t, k ≤ reachBytes) : ∃ A c xs, v = .slice A xs.length c ∧ Stps w 0 A c xs := by
  rcases open_slice ht h with ⟨hcs, _⟩ | ⟨a, len, cap, m, n', D, Pl, hcs, _, hl, hm, hmm, hx, hel⟩
  · simp only [List.cons.injEq, and_true] at hcs
    exact ⟨none, 0, [], hcs, ⟨by simp, by omega, by simp, Rd.nil⟩⟩
  · simp only [List.cons.injEq, and_true] at hcs
    have hml : len ≤ m := by rw [hmm]; split <;> omega
    have hwt := hw (m * 24) (by
      rw [hx]
      simp only [DataW.weights, ht, List.length_map, List.length_range, hby]
      rw [show len + (m - len) = m by omega]
      simp)
    obtain ⟨xs, hxl, hxs⟩ := slE_of (enc := Stp.cells) (sz := 3) (bt := 24) (fun _ => rfl) (by decide) (w := w) (a := a) hl hm (by simp only [reachBytes] at hwt; omega) (fun i hi' => by
      obtain ⟨cs', hcc, ht'⟩ := hel i (by omega)
      rw [hc] at hcc
      obtain ⟨_, hcl, hat⟩ := World.cells?_some hcc
      obtain ⟨z0, e0⟩ := struct_int he ht' 0 f0 rfl o0 (by rw [t0]; exact hci) (by rw [t0]; exact hi)
      obtain ⟨z1, e1⟩ := struct_int he ht' 1 f1 rfl o1 (by rw [t1]; exact hci) (by rw [t1]; exact hi)
      obtain ⟨z2, e2⟩ := struct_int he ht' 2 f2 rfl o2 (by rw [t2]; exact hci) (by rw [t2]; exact hi)
      refine ⟨⟨z0, z1, z2⟩, fun j u hu => ?_⟩
      rw [← Go.Deep.add_add]
      match j, hu with
      | 0, hu => rw [hat 0 (by decide), e0]; simpa [Stp.cells] using hu
      | 1, hu => rw [hat 1 (by decide), e1]; simpa [Stp.cells] using hu
      | 2, hu => rw [hat 2 (by decide), e2]; simpa [Stp.cells] using hu
      | j + 3, hu => simp [Stp.cells] at hu)
    exact ⟨some a, cap, xs, by rw [hcs, hxl], hxs⟩
/-- an automaton by value, as a reading -/
theorem au_in {t tF tG tS ti tb ts : TypeId} {f0 f1 f2 f3 f4 s0 s1 s2 : Field} {r : Reach} {b0 : Nat} {v : Value} {d : DataW H} {p : List MemPlace} (hs : P.underlying t = some (.struct #[f0, f1, f2, f3, f4])) (hone : oneCellFields P #[f0, f1, f2, f3, f4] = true) (hC : P.cellsOf t = 5)
    (hi : P.underlying ti = some (.int .i64)) (hci : P.cellsOf ti = 1) (hbi : P.bytesOf ti = 8) (hb : P.underlying tb = some .bool) (hcb : P.cellsOf tb = 1) (hbb : P.bytesOf tb = 1) (hss : P.underlying ts = some (.struct #[s0, s1, s2])) (hcs : P.cellsOf ts = 3) (hbs : P.bytesOf ts = 24)
    (t0 : f0.type = ti) (t1 : f1.type = ti) (t2 : f2.type = tF) (t3 : f3.type = tG) (t4 : f4.type = tS) (hF : P.underlying tF = some (.slice ti)) (hG : P.underlying tG = some (.slice tb)) (hS : P.underlying tS = some (.slice ts))
    (u0 : s0.type = ti) (u1 : s1.type = ti) (u2 : s2.type = ti) (o0 : s0.offset = 0) (o1 : s1.offset = 1) (o2 : s2.offset = 2)
    (hv : Value.okWide P w r b0 t v) (h : DataW.Trod enc P w 0 spare held t v d p) (hw : ∀ k ∈ d.weights P t, k ≤ reachBytes) :
    ∃ a A B C ca cb cc, v = .agg #[.int .i64 a.st, .int .i64 a.le, .slice A a.fs.length ca, .slice B a.gs.length cb, .slice C a.ss.length cc] ∧ AuRd w 0 a A B C ca cb cc := by
  obtain ⟨cs, rfl, hsz⟩ := okWide_struct hs hv
  obtain ⟨c0, c1, c2, c3, c4, rfl⟩ := array5 (hsz.trans hC)
  obtain ⟨fuel, hf⟩ := h
  obtain ⟨ys, m, hd, hyl, hy⟩ := field_in hs hone hf
  simp only [Value.cells] at hy
  match ys, hyl with
  | [y0, y1, y2, y3, y4], _ =>
    have e0 := hy 0 f0 rfl
    have e1 := hy 1 f1 rfl
    have e2 := hy 2 f2 rfl
    have e3 := hy 3 f3 rfl
    have e4 := hy 4 f4 rfl
    simp only [t0, t1, t2, t3, t4, List.drop_zero, List.drop_succ_cons, List.take_succ_cons, List.take_zero, List.getElem?_cons_zero, List.getElem?_cons_succ] at e0 e1 e2 e3 e4
    obtain ⟨z0, hz0, _⟩ := DataW.trod_int hi e0
    obtain ⟨z1, hz1, _⟩ := DataW.trod_int hi e1
    have hw' : ∀ k, k ∈ y2.1.weights P tF ∨ k ∈ y3.1.weights P tG ∨ k ∈ y4.1.weights P tS → k ≤ reachBytes := fun k hk => hw k (by
      rw [show d = _ from hd]
      simp only [DataW.weights, hs]
      simp only [List.map_cons, List.map_nil, DataW.weightsEach, List.mem_append, t0, t1, t2, t3, t4]
      simp
      rcases hk with hk | hk | hk
      · exact .inr (.inr (.inl hk))
      · exact .inr (.inr (.inr (.inl hk)))
      · exact .inr (.inr (.inr (.inr hk))))
    obtain ⟨A, ca, fs, rfl, hA⟩ := ints_in hF hi hci hbi e2 (fun k hk => hw' k (.inl hk))
    obtain ⟨B, cb, gs, rfl, hB⟩ := bools_in hG hb hcb hbb e3 (fun k hk => hw' k (.inr (.inl hk)))
    obtain ⟨C, cc, ss, rfl, hSS⟩ := stps_in hS hss hcs hbs hi hci u0 u1 u2 o0 o1 o2 e4 (fun k hk => hw' k (.inr (.inr hk)))
    obtain rfl : c0 = .int .i64 z0 := by simpa using hz0
    obtain rfl : c1 = .int .i64 z1 := by simpa using hz1
    exact ⟨⟨z0, z1, fs, gs, ss⟩, A, B, C, ca, cb, cc, rfl, hA, hB, hSS⟩
end
end Go.Proofs.Ytoglgeaiiipchaa
