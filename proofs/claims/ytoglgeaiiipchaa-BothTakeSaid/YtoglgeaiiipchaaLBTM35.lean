/- Walks: the law's way of counting a pair's steps. -/
import Derived.Test.YtoglgeaiiipchaaLBTM34
import Derived.Test.YtoglgeaiiipchaaLBTM11
import Derived.Test.YtoglgeaiiipchaaLBTM10
set_option linter.unusedSimpArgs false
set_option linter.unusedVariables false
namespace Go.Proofs.Ytoglgeaiiipchaa
open Go Go.RowKit Go.Shelf Go.Sort

def noneW (w : World) : World := (w.alloc (Obj.cells #[.int .i64 1, .int .i64 2, .slice none 0 0, .slice (some ⟨w.heap.size + 1, 0, none⟩) 1 1, .slice none 0 0] 49)).alloc (Obj.cells #[.bool false] 4)
theorem noneW_is (w : World) : AuRd (noneW w) w.heap.size noneA none (some ⟨w.heap.size + 1, 0, none⟩) none 0 1 0 ∧ Below w.heap.size w (noneW w) := by
  refine ⟨⟨⟨by decide, by omega, by decide, Rd.nil⟩, ?_, ⟨by decide, by omega, by decide, Rd.nil⟩⟩, by unfold noneW; go_grown⟩
  refine ⟨by decide, by omega, by decide, fun _ => ⟨_, 0, rfl, by omega, by unfold noneW; simp, fun j u hu => ?_⟩⟩
  match j, hu with
  | 0, hu => simp [noneA] at hu; subst hu; unfold noneW; go_simp
  | j + 1, hu => simp [noneA] at hu
set_option maxRecDepth 100000 in
theorem none0_ (w : World) : Calls Try.prog 57 #[] w fun e w' => ∃ A B C ca cb cc, e = .returned (.agg #[.int .i64 1, .int .i64 2, .slice A 0 ca, .slice B 1 cb, .slice C 0 cc]) ∧ AuRd w' 0 noneA A B C ca cb cc ∧ Below w.heap.size w w' := by
  have HP : Hid (∃ A B C ca cb cc, Ending.returned (.agg #[.int .i64 1, .int .i64 2, .slice none 0 0, .slice (some ⟨w.heap.size + 1, 0, none⟩) 1 1, .slice none 0 0]) = .returned (.agg #[.int .i64 1, .int .i64 2, .slice A 0 ca, .slice B 1 cb, .slice C 0 cc]) ∧ AuRd (noneW w) 0 noneA A B C ca cb cc ∧ Below w.heap.size w (noneW w)) :=
    ⟨_, _, _, _, _, _, rfl, (noneW_is w).1.low (Nat.zero_le _), (noneW_is w).2⟩
  go_enter Try.func57, Try.ntmps57
  go_wp2_with fail
  exact bodyPost_ret (by simp [results, Try.results57, go_sem]) rfl HP.out
theorem EitherOn_ (A B C D E F : Option Addr) (ca cb cc cd ce cf : Nat) (w : World) (ha : AuRd w 0 oneA A B C ca cb cc) (hb : AuRd w 0 noneA D E F cd ce cf) :
    Calls Try.prog 28 #[.agg #[.int .i64 1, .int .i64 2, .slice A 1 ca, .slice B 1 cb, .slice C 1 cc], .agg #[.int .i64 1, .int .i64 2, .slice D 0 cd, .slice E 1 ce, .slice F 0 cf]] w (TnPost w (eitherV oneA noneA) 0) := by
  have h := Either_ oneA noneA A B C D E F ca cb cc cd ce cf w ha hb
  rw [ei_on] at h
  exact h
theorem BothOo_ (A B C D E F : Option Addr) (ca cb cc cd ce cf : Nat) (w : World) (ha : AuRd w 0 oneA A B C ca cb cc) (hb : AuRd w 0 oneA D E F cd ce cf) :
    Calls Try.prog 29 #[.agg #[.int .i64 1, .int .i64 2, .slice A 1 ca, .slice B 1 cb, .slice C 1 cc], .agg #[.int .i64 1, .int .i64 2, .slice D 1 cd, .slice E 1 ce, .slice F 1 cf]] w (TnPost w (bothV oneA oneA) 0) := by
  have h := Both_ oneA oneA A B C D E F ca cb cc cd ce cf w ha hb
  rw [bo_oo] at h
  exact h
theorem SomeYes_ (a : Au) (A B C : Option Addr) (ca cb cc : Nat) (w : World) (hr : AuRd w 0 a A B C ca cb cc) (h0 : ckA a = 0) (u : Nat → Int) (hu : TakesU a u) :
    Calls Try.prog 63 #[.agg #[.int .i64 a.st, .int .i64 a.le, .slice A a.fs.length ca, .slice B a.gs.length cb, .slice C a.ss.length cc]] w fun e w' => ∃ (H L : Option Addr) (ch cl hn ln : Nat), e = .returned (.tuple #[.agg #[.slice H hn ch, .slice L ln cl], .bool true, .int .i64 0]) ∧ 0 < ln ∧ Below w.heap.size w w' := by
  refine (Some_ a A B C ca cb cc w hr).mono ?_
  rintro e w' ⟨⟨H, L, ch, cl, hl, ll, b, rfl, _, _, hif⟩, hb⟩
  obtain ⟨ho, hs⟩ := ckA_zero.1 h0
  cases b with
  | false => exact absurd hu (hif.2.2 h0 u)
  | true =>
    rw [h0]
    exact ⟨H, L, ch, cl, _, _, rfl, (hif.2.fits (ho.fit hs)).2.2, hb⟩
theorem SomeNone_ (A B C : Option Addr) (ca cb cc : Nat) (w : World) (hr : AuRd w 0 noneA A B C ca cb cc) :
    Calls Try.prog 63 #[.agg #[.int .i64 1, .int .i64 2, .slice A 0 ca, .slice B 1 cb, .slice C 0 cc]] w fun e w' => ∃ (H L : Option Addr) (ch cl hn ln : Nat), e = .returned (.tuple #[.agg #[.slice H hn ch, .slice L ln cl], .bool false, .int .i64 0]) ∧ Below w.heap.size w w' := by
  refine (Some_ noneA A B C ca cb cc w hr).mono ?_
  rintro e w' ⟨⟨H, L, ch, cl, hl, ll, b, rfl, _, _, hif⟩, hb⟩
  cases b with
  | true => exact absurd hif.2.takes (noneA_takes _)
  | false => exact ⟨H, L, ch, cl, _, _, by rw [none_ck], hb⟩
theorem TakesEn_ (p : Au) (hp : tkB p zeroL = true ∧ taErr p zeroL = 0) (A B C D E : Option Addr) (ca cb cc cd ce : Nat) (w : World) (hr : AuRd w 0 p A B C ca cb cc) (hh : Ints w 0 D cd []) (hl : Ints w 0 E ce [0]) :
    Calls Try.prog 22 #[.agg #[.int .i64 p.st, .int .i64 p.le, .slice A p.fs.length ca, .slice B p.gs.length cb, .slice C p.ss.length cc], .agg #[.slice D 0 cd, .slice E 1 ce]] w fun e w' => e = .returned (.tuple #[.bool true, .int .i64 0]) ∧ Below w.heap.size w w' := by
  have := Takes_ p A B C D E ca cb cc cd ce zeroL w hr hh hl
  unfold TkPost at this
  rwa [hp.1, hp.2] at this
set_option maxRecDepth 100000 in
set_option maxHeartbeats 4000000 in
theorem bothBegun_ (w : World) : Calls Try.prog 31 #[] w (BoolPost w true) := by
  go_enter Try.func31, Try.ntmps31
  go_wp2_with fail
  refine (one0_ _).mono ?_
  rintro e w1 ⟨A1, B1, C1, ca1, cb1, cc1, rfl, hr1, hb1⟩
  have HR1 := Lib.hid hr1
  have HB1 := Lib.hid hb1
  clear hr1 hb1
  go_wp2_with fail
  refine (none0_ _).mono ?_
  rintro e w2 ⟨A2, B2, C2, ca2, cb2, cc2, rfl, hr2, hb2⟩
  have HR1' := Lib.hid (HR1.out.below hb2)
  have HR2 := Lib.hid hr2
  have HB2 := Lib.hid (Below_on HB1.out hb2 HB1.out.size)
  clear hr2 hb2 HR1 HB1
  go_wp2_with fail
  refine (EitherOn_ _ _ _ _ _ _ _ _ _ _ _ _ _ HR1'.out HR2.out).mono ?_
  rintro e w3 ⟨A3, B3, C3, ca3, cb3, cc3, rfl, hr3, hb3⟩
  have HB3 := Lib.hid (Below_on HB2.out hb3 HB2.out.size)
  have HEN := Lib.hid tk_en
  have HR3 := Lib.hid (hr3.low (Nat.zero_le _))
  clear hr3 hb3 HR1' HR2 HB2
  generalize eitherV oneA noneA = p at *
  have hba : Below w3.heap.size w3 (w3.alloc (Obj.cells #[.int .i64 p.st, .int .i64 p.le, .slice A3 p.fs.length ca3, .slice B3 p.gs.length cb3, .slice C3 p.ss.length cc3] 49)) := (Below.refl _ _).alloc (Nat.le_refl _) _
  have HX : Hid ((w3.alloc (Obj.cells #[.int .i64 p.st, .int .i64 p.le, .slice A3 p.fs.length ca3, .slice B3 p.gs.length cb3, .slice C3 p.ss.length cc3] 49)).heap[w3.heap.size]? = some (.cells #[.int .i64 p.st, .int .i64 p.le, .slice A3 p.fs.length ca3, .slice B3 p.gs.length cb3, .slice C3 p.ss.length cc3] 49 (0, 0))) := World.alloc_heap_new _ _
  have HR4 := Lib.hid (HR3.out.below hba)
  have HB4 := Lib.hid (Below_on HB3.out hba HB3.out.size)
  clear hba HR3 HB3
  go_upto_region 2 with fail
  obtain ⟨X, hX⟩ : ∃ X, X = w3.heap.size := ⟨_, rfl⟩
  rw [← hX] at HX ⊢
  clear hX
  generalize w3.alloc (Obj.cells #[.int .i64 p.st, .int .i64 p.le, .slice A3 p.fs.length ca3, .slice B3 p.gs.length cb3, .slice C3 p.ss.length cc3] 49) = W4 at *
  go_wp2_with fail
  refine (one0_ _).mono ?_
  rintro e w5 ⟨A5, B5, C5, ca5, cb5, cc5, rfl, hr5, hb5⟩
  have HR5 := Lib.hid hr5
  have HB5 := Lib.hid hb5
  clear hr5 hb5
  go_wp2_with fail
  refine (one0_ _).mono ?_
  rintro e w6 ⟨A6, B6, C6, ca6, cb6, cc6, rfl, hr6, hb6⟩
  have HR5' := Lib.hid (HR5.out.below hb6)
  have HR6 := Lib.hid hr6
  have HB6 := Lib.hid (Below_on HB5.out hb6 HB5.out.size)
  clear hr6 hb6 HR5 HB5
  go_wp2_with fail
  refine (BothOo_ _ _ _ _ _ _ _ _ _ _ _ _ _ HR5'.out HR6.out).mono ?_
  rintro e w7 ⟨A7, B7, C7, ca7, cb7, cc7, rfl, hr7, hb7⟩
  have HB7 := Lib.hid (Below_on HB6.out hb7 HB6.out.size)
  have HBO : Hid (ckA (bothV oneA oneA) = 0 ∧ TakesU (bothV oneA oneA) zeroL.at) := ⟨(both_all bo_oo).1, ((both_all bo_oo).2.2.2 _).2 ⟨oneA_takes, oneA_takes⟩⟩
  have HR7 := Lib.hid (hr7.low (Nat.zero_le _))
  clear hr7 hb7 HR5' HR6 HB6
  generalize bothV oneA oneA = q at *
  have hba : Below w7.heap.size w7 (w7.alloc (Obj.cells #[.int .i64 q.st, .int .i64 q.le, .slice A7 q.fs.length ca7, .slice B7 q.gs.length cb7, .slice C7 q.ss.length cc7] 49)) := (Below.refl _ _).alloc (Nat.le_refl _) _
  have HY : Hid ((w7.alloc (Obj.cells #[.int .i64 q.st, .int .i64 q.le, .slice A7 q.fs.length ca7, .slice B7 q.gs.length cb7, .slice C7 q.ss.length cc7] 49)).heap[w7.heap.size]? = some (.cells #[.int .i64 q.st, .int .i64 q.le, .slice A7 q.fs.length ca7, .slice B7 q.gs.length cb7, .slice C7 q.ss.length cc7] 49 (0, 0))) := World.alloc_heap_new _ _
  have HR8 := Lib.hid (HR7.out.below hba)
  have HB8 := Lib.hid (Below_on HB7.out hba HB7.out.size)
  clear hba HR7 HB7
  go_upto_region 3 with fail
  obtain ⟨Y, hY⟩ : ∃ Y, Y = w7.heap.size := ⟨_, rfl⟩
  rw [← hY] at HY ⊢
  clear hY
  generalize w7.alloc (Obj.cells #[.int .i64 q.st, .int .i64 q.le, .slice A7 q.fs.length ca7, .slice B7 q.gs.length cb7, .slice C7 q.ss.length cc7] 49) = W8 at *
  obtain ⟨y0, y1, y2, y3, y4, _⟩ := obj5 HY.out
  go_wp2_with fail
  refine (SomeYes_ q _ _ _ _ _ _ _ HR8.out HBO.out.1 _ HBO.out.2).mono ?_
  rintro e w9 ⟨H9, L9, ch9, cl9, hn9, ln9, rfl, hl9, hb9⟩
  have hal : Below w9.heap.size w9 (w9.alloc (Obj.cells #[.slice H9 hn9 ch9, .slice L9 ln9 cl9] 26)) := (Below.refl _ _).alloc (Nat.le_refl _) _
  have HZ : Hid ((w9.alloc (Obj.cells #[.slice H9 hn9 ch9, .slice L9 ln9 cl9] 26)).heap[w9.heap.size]? = some (.cells #[.slice H9 hn9 ch9, .slice L9 ln9 cl9] 26 (0, 0))) := World.alloc_heap_new _ _
  have HB9 := Lib.hid (Below_on (Below_on HB8.out hb9 HB8.out.size) hal (Nat.le_trans HB8.out.size hb9.size))
  clear hal hb9 y0 y1 y2 y3 y4 HB8 HR8 HY
  go_upto_region 4 with fail
  obtain ⟨Z, hZ⟩ : ∃ Z, Z = w9.heap.size := ⟨_, rfl⟩
  rw [← hZ] at HZ ⊢
  clear hZ
  generalize w9.alloc (Obj.cells #[.slice H9 hn9 ch9, .slice L9 ln9 cl9] 26) = W9 at *
  go_wp2_with fail
  refine (none0_ _).mono ?_
  rintro e w10 ⟨A10, B10, C10, ca10, cb10, cc10, rfl, hr10, hb10⟩
  have HR10 := Lib.hid hr10
  have HB10 := Lib.hid hb10
  clear hr10 hb10
  go_wp2_with fail
  refine (SomeNone_ _ _ _ _ _ _ _ HR10.out).mono ?_
  rintro e w11 ⟨H11, L11, ch11, cl11, hn11, ln11, rfl, hb11⟩
  have hal : Below w11.heap.size w11 (w11.alloc (Obj.cells #[.slice H11 hn11 ch11, .slice L11 ln11 cl11] 26)) := (Below.refl _ _).alloc (Nat.le_refl _) _
  have HB11 := Lib.hid (Below_on (Below_on HB10.out hb11 HB10.out.size) hal (Nat.le_trans HB10.out.size hb11.size))
  clear hal hb11 HR10 HB10
  go_upto_region 5 with fail
  generalize w11.alloc (Obj.cells #[.slice H11 hn11 ch11, .slice L11 ln11 cl11] 26) = W11 at *
  have HXY : Hid (∀ W, Below W11.heap.size W11 W → (W.cell? ⟨X, 0, none⟩ = some (.int .i64 p.st) ∧ W.cell? ⟨X, 1, none⟩ = some (.int .i64 p.le) ∧ W.cell? ⟨X, 2, none⟩ = some (.slice A3 p.fs.length ca3) ∧ W.cell? ⟨X, 3, none⟩ = some (.slice B3 p.gs.length cb3) ∧ W.cell? ⟨X, 4, none⟩ = some (.slice C3 p.ss.length cc3)) ∧ (W.cell? ⟨Z, 0, none⟩ = some (.slice H9 hn9 ch9) ∧ W.cell? ⟨Z, 1, none⟩ = some (.slice L9 ln9 cl9))) := fun W hW => by
    have hx0 := (HB9.out.block X (Array.getElem?_eq_some_iff.1 HX.out).1).trans HX.out
    have hx1 := (HB11.out.block X (Array.getElem?_eq_some_iff.1 hx0).1).trans hx0
    have hx := (hW.block X (Array.getElem?_eq_some_iff.1 hx1).1).trans hx1
    have hz1 := (HB11.out.block Z (Array.getElem?_eq_some_iff.1 HZ.out).1).trans HZ.out
    have hz := (hW.block Z (Array.getElem?_eq_some_iff.1 hz1).1).trans hz1
    obtain ⟨a0, a1, a2, a3, a4, _⟩ := obj5 hx
    obtain ⟨b0, b1, _, _⟩ := la_cells hz
    exact ⟨⟨a0, a1, a2, a3, a4⟩, b0, b1⟩
  have HR11 := Lib.hid ((HR4.out.below HB9.out).below HB11.out)
  have HW : Hid (Below w.heap.size w W11) := Below_on (Below_on HB4.out HB9.out HB4.out.size) HB11.out (Nat.le_trans HB4.out.size HB9.out.size)
  have HL9 := Lib.hid hl9
  obtain ⟨⟨x0, x1, x2, x3, x4⟩, z0, z1⟩ := HXY.out W11 (Below.refl _ _)
  clear HB4 HB9 HB11 HX HZ HR4 HBO hl9
  go_region_held3 (fun w' => (w'.cell? ⟨X, 0, none⟩ = some (.int .i64 p.st) ∧ w'.cell? ⟨X, 1, none⟩ = some (.int .i64 p.le) ∧ w'.cell? ⟨X, 2, none⟩ = some (.slice A3 p.fs.length ca3) ∧ w'.cell? ⟨X, 3, none⟩ = some (.slice B3 p.gs.length cb3) ∧ w'.cell? ⟨X, 4, none⟩ = some (.slice C3 p.ss.length cc3)))
    (first | go_keep | exact (HXY.out _ ((Below.refl _ W11).drew)).1 | exact qq)
    (first
      | (go_at_call 22; refine (TakesEn_ p HEN.out _ _ _ _ _ _ _ _ _ _ _ (HR11.out.below HBA.out) HHA.out HLA.out).mono ?_; rintro e wb ⟨rfl, hbb⟩; have HBB := Lib.hid (Below_on HBA.out hbb HBA.out.size); have qq := (HXY.out _ HBB.out).1)
      | (go_at_call 44; refine (zero0_ _).mono ?_; rintro e wa ⟨Da, Ea, cda, cea, rfl, hha, hla, hba⟩; have HBA := Lib.hid (Below_on ((Below.refl _ W11).drew) hba (Nat.le_refl _)); have HHA := Lib.hid hha; have HLA := Lib.hid hla; have qq := (HXY.out _ HBA.out).1))
  all_goals
    have HP : Hid (BoolPost w true (.returned (.bool (decide (0 < ln9)))) wb) := ⟨by rw [decide_eq_true HL9.out], Below_on HW.out HBB.out HW.out.size⟩
    obtain ⟨_, zz0, zz1⟩ := HXY.out _ HBB.out
    go_wp2_with fail
    go_ret
    exact HP.out
end Go.Proofs.Ytoglgeaiiipchaa

namespace Go.Proofs.Ytoglgeaiiipchaa
open Go Go.RowKit Go.Sort

theorem wrapL {x : Int} (h1 : -9223372036854775808 ≤ x) (h2 : x ≤ 9223372036854775807) : IntKind.i64.wrap x = x := IntWalk.i64_in _ (by omega)
set_option maxRecDepth 100000 in
set_option maxHeartbeats 4000000 in
theorem lawSteps_ (a b : Au) (A B C D E F : Option Addr) (ca cb cc cd ce cf : Nat) (w : World) (ha : AuRd w 0 a A B C ca cb cc) (hb : AuRd w 0 b D E F cd ce cf) (hoa : AuOK a) (hob : AuOK b) :
    Calls Try.prog 30 #[.agg #[.int .i64 a.st, .int .i64 a.le, .slice A a.fs.length ca, .slice B a.gs.length cb, .slice C a.ss.length cc], .agg #[.int .i64 b.st, .int .i64 b.le, .slice D b.fs.length cd, .slice E b.gs.length ce, .slice F b.ss.length cf]] w (IntB w (stepsN a b : Nat)) := by
  have HW := auW2_is w a b A B C D E F ca cb cc cd ce cf
  unfold auW2 auW at HW
  obtain ⟨N, hN⟩ := Int.eq_ofNat_of_zero_le (show 0 ≤ a.le by have := hoa.le1; omega)
  have hN8 : N ≤ 8 := by have := hoa.le2; omega
  have HSN : Hid (lettersTo a b N = stepsN a b) := letters_steps fun s hs => by have := (hoa.sr s hs).2.2; rw [hN] at this; exact this
  have HN := Lib.hid hN
  have hla := hoa.sl
  have hlb := hob.sl
  have HLE := Lib.hid (lettersTo_le a b hla hlb)
  clear hN hoa hob
  go_enter Try.func30, Try.ntmps30
  go_upto_region 1 with fail
  obtain ⟨V, hV⟩ : ∃ V, V = w.heap.size := ⟨_, rfl⟩
  obtain ⟨hbel, hsz, hat1, hat2⟩ := HW
  rw [← hV] at hsz hat1 hat2
  rw [show w.heap.size + 1 = V + 1 by omega, ← hV]
  generalize (w.alloc (Obj.cells #[.int .i64 a.st, .int .i64 a.le, .slice A a.fs.length ca, .slice B a.gs.length cb, .slice C a.ss.length cc] 49)).alloc (Obj.cells #[.int .i64 b.st, .int .i64 b.le, .slice D b.fs.length cd, .slice E b.gs.length ce, .slice F b.ss.length cf] 49) = W0 at *
  have HB0 := Lib.hid hbel
  have HV1 : Hid (∀ W, Below W0.heap.size W0 W → AuAt W V a A B C ca cb cc) := fun W h => hat1.below h (by omega)
  have HV2 : Hid (∀ W, Below W0.heap.size W0 W → AuAt W (V + 1) b D E F cd ce cf) := fun W h => hat2.below h (by omega)
  have HRA : Hid (∀ W, Below W0.heap.size W0 W → Stps W 0 C cc a.ss) := fun W h => (ha.below hbel).ss.below h
  have HRB : Hid (∀ W, Below W0.heap.size W0 W → Stps W 0 F cf b.ss) := fun W h => (hb.below hbel).ss.below h
  clear hbel ha hb hV hsz hat1 hat2
  go_wp2_with fail
  go_loopw [5, 6] (fun v5 v6 wr => ∃ c : Nat, c ≤ N ∧ v5 = .int .i64 (lettersTo a b c : Nat) ∧ v6 = .int .i64 (c : Int) ∧ Hid (Below W0.heap.size W0 wr)) (fun _ v6 _ => N - (intOf v6).toNat)
  case atStart => exact ⟨0, Nat.zero_le _, rfl, rfl, Below.refl _ _⟩
  case round =>
    obtain ⟨c, hc, rfl, rfl, HW⟩ := hrel
    obtain ⟨_, c0, c1, c2, c3, c4⟩ := HV1.out _ HW.out
    have hll := HLE.out c
    by_cases hcN : c < N
    · have q1 : (c : Int) < a.le := by have := HN.out; omega
      have HLS := Lib.hid (lettersTo_succ a b c)
      have HX := Lib.hid hcN
      have hll2 : lettersTo a b c ≤ 864000000 := by omega
      clear hll
      generalize lettersTo a b c = lc at *
      go_upto_block 2 with fail
      go_cut [7] (fun v7 wx => v7 = .int .i64 (cntL a.ss c : Nat) ∧ Hid (Below W0.heap.size W0 wx))
      case first =>
        go_wp2_with fail
        clear c0 c1 c2 c3 c4
        go_loopw [7, 9] (fun v7 v9 wx => ∃ k : Nat, k ≤ a.ss.length ∧ v7 = .int .i64 (cntL (a.ss.take k) c : Nat) ∧ v9 = .int .i64 (k : Int) ∧ Hid (Below W0.heap.size W0 wx)) (fun _ v9 _ => a.ss.length - (intOf v9).toNat)
        case atStart => exact ⟨0, Nat.zero_le _, by simp [cntL], rfl, HW.out⟩
        case round =>
          obtain ⟨k, hk, rfl, rfl, HX⟩ := hrel
          obtain ⟨_, c0, c1, c2, c3, c4⟩ := HV1.out _ HX.out
          have hrd := HRA.out _ HX.out
          have hcl := cntL_le (a.ss.take k) c
          rw [List.length_take] at hcl
          by_cases hka : k < a.ss.length
          · have q2 : (k : Int) < (a.ss.length : Int) := by omega
            have hle := hrd.le
            obtain ⟨sb, so, rfl, _, _, x0, x1, x2⟩ := Stps.at_ hrd hka
            have HCT := Lib.hid (cntL_take a.ss hka c)
            have HXX := Lib.hid hka
            revert x0 x1 x2 HCT
            generalize a.ss[k] = s
            intro x0 x1 x2 HCT
            have hq : cntL (a.ss.take k) c ≤ 6000 := by omega
            clear hcl hrd
            generalize cntL (a.ss.take k) c = q at *
            by_cases hs : s.l = c
            · have hs1 : (s.l == (c : Int)) = true := by simp [hs]
              have HC2 : Hid (cntL (a.ss.take (k + 1)) c = q + 1) := by show _ = _; rw [HCT.out, if_pos hs]
              clear hs HCT
              go_wp2_with fail
              go_roundw
              case rel => exact ⟨k + 1, HXX.out, by rw [HC2.out]; go_num, by go_num, HX.out⟩
              case measure => simp [intOf]; have := HXX.out; omega
            · have hs1 : (s.l == (c : Int)) = false := by simp [hs]
              have HC2 : Hid (cntL (a.ss.take (k + 1)) c = q) := by show _ = _; rw [HCT.out, if_neg hs]; rfl
              clear hs HCT
              go_wp2_with fail
              go_roundw
              case rel => exact ⟨k + 1, HXX.out, by rw [HC2.out], by go_num, HX.out⟩
              case measure => simp [intOf]; have := HXX.out; omega
          · have q2 : ¬ (k : Int) < (a.ss.length : Int) := by omega
            have hkk : a.ss.take k = a.ss := List.take_of_length_le (by omega)
            rw [hkk]
            clear hkk
            go_wp2_with fail
            go_meet
            exact ⟨rfl, HX.out⟩
      case rest =>
        obtain ⟨rfl, HX2⟩ := hcut
        clear c0 c1 c2 c3 c4
        have hqa : cntL a.ss c ≤ 6000 := Nat.le_trans (cntL_le _ _) hla
        go_upto_block 4 with fail
        go_cut [8] (fun v8 wx => v8 = .int .i64 (cntL b.ss c : Nat) ∧ Hid (Below W0.heap.size W0 wx))
        case first =>
          generalize cntL a.ss c = qa at *
          go_wp2_with fail
          go_loopw [8, 10] (fun v8 v10 wx => ∃ k : Nat, k ≤ b.ss.length ∧ v8 = .int .i64 (cntL (b.ss.take k) c : Nat) ∧ v10 = .int .i64 (k : Int) ∧ Hid (Below W0.heap.size W0 wx)) (fun _ v10 _ => b.ss.length - (intOf v10).toNat)
          case atStart => exact ⟨0, Nat.zero_le _, by simp [cntL], rfl, HX2.out⟩
          case round =>
            obtain ⟨k, hk, rfl, rfl, HX3⟩ := hrel
            obtain ⟨_, d0, d1, d2, d3, d4⟩ := HV2.out _ HX3.out
            have hrd := HRB.out _ HX3.out
            have hcl := cntL_le (b.ss.take k) c
            rw [List.length_take] at hcl
            by_cases hka : k < b.ss.length
            · have q2 : (k : Int) < (b.ss.length : Int) := by omega
              have hle := hrd.le
              obtain ⟨sb, so, rfl, _, _, x0, x1, x2⟩ := Stps.at_ hrd hka
              have HCT := Lib.hid (cntL_take b.ss hka c)
              have HXX := Lib.hid hka
              revert x0 x1 x2 HCT
              generalize b.ss[k] = s
              intro x0 x1 x2 HCT
              have hq : cntL (b.ss.take k) c ≤ 6000 := by omega
              clear hcl hrd
              generalize cntL (b.ss.take k) c = q at *
              by_cases hs : s.l = c
              · have hs1 : (s.l == (c : Int)) = true := by simp [hs]
                have HC2 : Hid (cntL (b.ss.take (k + 1)) c = q + 1) := by show _ = _; rw [HCT.out, if_pos hs]
                clear hs HCT
                go_wp2_with fail
                go_roundw
                case rel => exact ⟨k + 1, HXX.out, by rw [HC2.out]; go_num, by go_num, HX3.out⟩
                case measure => simp [intOf]; have := HXX.out; omega
              · have hs1 : (s.l == (c : Int)) = false := by simp [hs]
                have HC2 : Hid (cntL (b.ss.take (k + 1)) c = q) := by show _ = _; rw [HCT.out, if_neg hs]; rfl
                clear hs HCT
                go_wp2_with fail
                go_roundw
                case rel => exact ⟨k + 1, HXX.out, by rw [HC2.out], by go_num, HX3.out⟩
                case measure => simp [intOf]; have := HXX.out; omega
            · have q2 : ¬ (k : Int) < (b.ss.length : Int) := by omega
              have hkk : b.ss.take k = b.ss := List.take_of_length_le (by omega)
              rw [hkk]
              clear hkk
              go_wp2_with fail
              go_meet
              exact ⟨rfl, HX3.out⟩
        case rest =>
          obtain ⟨rfl, HX3⟩ := hcut
          have hqb : cntL b.ss c ≤ 6000 := Nat.le_trans (cntL_le _ _) hlb
          generalize cntL a.ss c = qa at *
          generalize cntL b.ss c = qb at *
          have hmul : 3 * qa * qb ≤ 18000 * 6000 := Nat.mul_le_mul (by omega) hqb
          obtain ⟨P, hP⟩ : ∃ P : Nat, P = 3 * qa * qb := ⟨_, rfl⟩
          have hPi : (3 * (qa : Int)) * (qb : Int) = (P : Int) := by rw [hP]; push_cast; rfl
          rw [← hP] at HLS hmul
          have w1 : IntKind.i64.wrap (3 * (qa : Int)) = 3 * (qa : Int) := wrapL (by omega) (by omega)
          have w2 : IntKind.i64.wrap (3 * (qa : Int) * (qb : Int)) = (P : Int) := by rw [hPi]; exact wrapL (by omega) (by omega)
          have HPI := Lib.hid hPi
          clear hP hPi
          go_wp2_with fail
          go_roundw
          case rel => exact ⟨c + 1, HX.out, by rw [HLS.out]; go_num, by go_num, HX3.out⟩
          case measure => simp [intOf]; have := HX.out; omega
    · have q1 : ¬ (c : Int) < a.le := by have := HN.out; omega
      obtain rfl : c = N := by omega
      have HP : Hid (IntB w (stepsN a b : Nat) (.returned (.int .i64 (lettersTo a b c : Nat))) wr) := ⟨by rw [HSN.out], Below_on HB0.out HW.out HB0.out.size⟩
      generalize lettersTo a b c = lc at *
      go_wp2_with fail
      go_ret
      exact HP.out
end Go.Proofs.Ytoglgeaiiipchaa
