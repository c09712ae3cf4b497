/- Walk: the reference's check of a lasso. -/
import Derived.Test.YtoglgeaiiipchabLBSM35
import Derived.Test.YtoglgeaiiipchabLBSM4
import Derived.Test.YtoglgeaiiipchabLBSM28
import Derived.Test.YtoglgeaiiipchabLBSM1
set_option linter.unusedSimpArgs false
set_option linter.unusedVariables false
namespace Go.Proofs.Ytoglgeaiiipchab
open Go Go.RowKit Go.Shelf Go.Sort

def noneW (w : World) : World := (w.alloc (Obj.cells #[.int .i64 1, .int .i64 2, .slice none 0 0, .slice (some ⟨w.heap.size + 1, 0, none⟩) 1 1, .slice none 0 0] 26)).alloc (Obj.cells #[.bool false] 4)
theorem noneW_is (w : World) : AuRd (noneW w) w.heap.size noneA none (some ⟨w.heap.size + 1, 0, none⟩) none 0 1 0 ∧ Below w.heap.size w (noneW w) := by
  refine ⟨⟨⟨by decide, by omega, by decide, Rd.nil⟩, ?_, ⟨by decide, by omega, by decide, Rd.nil⟩⟩, by unfold noneW; go_grown⟩
  refine ⟨by decide, by omega, by decide, fun _ => ⟨_, 0, rfl, by omega, by unfold noneW; simp, fun j u hu => ?_⟩⟩
  match j, hu with
  | 0, hu => simp [noneA] at hu; subst hu; unfold noneW; go_simp
  | j + 1, hu => simp [noneA] at hu
set_option maxRecDepth 100000 in
theorem none0_ (w : World) : Calls Try.prog 22 #[] w fun e w' => ∃ A B C ca cb cc, e = .returned (.agg #[.int .i64 1, .int .i64 2, .slice A 0 ca, .slice B 1 cb, .slice C 0 cc]) ∧ AuRd w' 0 noneA A B C ca cb cc ∧ Below w.heap.size w w' := by
  have HP : Hid (∃ A B C ca cb cc, Ending.returned (.agg #[.int .i64 1, .int .i64 2, .slice none 0 0, .slice (some ⟨w.heap.size + 1, 0, none⟩) 1 1, .slice none 0 0]) = .returned (.agg #[.int .i64 1, .int .i64 2, .slice A 0 ca, .slice B 1 cb, .slice C 0 cc]) ∧ AuRd (noneW w) 0 noneA A B C ca cb cc ∧ Below w.heap.size w (noneW w)) :=
    ⟨_, _, _, _, _, _, rfl, (noneW_is w).1.low (Nat.zero_le _), (noneW_is w).2⟩
  go_enter Try.func22, Try.ntmps22
  go_wp2_with fail
  exact bodyPost_ret (by simp [results, Try.results22, go_sem]) rfl HP.out
theorem EitherOn_ (A B C D E F : Option Addr) (ca cb cc cd ce cf : Nat) (w : World) (ha : AuRd w 0 oneA A B C ca cb cc) (hb : AuRd w 0 noneA D E F cd ce cf) :
    Calls Try.prog 20 #[.agg #[.int .i64 1, .int .i64 2, .slice A 1 ca, .slice B 1 cb, .slice C 1 cc], .agg #[.int .i64 1, .int .i64 2, .slice D 0 cd, .slice E 1 ce, .slice F 0 cf]] w (TnPost w (eitherV oneA noneA) 0) := by
  have h := Either_ oneA noneA A B C D E F ca cb cc cd ce cf w ha hb
  rw [ei_on] at h
  exact h
theorem BothOo_ (A B C D E F : Option Addr) (ca cb cc cd ce cf : Nat) (w : World) (ha : AuRd w 0 oneA A B C ca cb cc) (hb : AuRd w 0 oneA D E F cd ce cf) :
    Calls Try.prog 23 #[.agg #[.int .i64 1, .int .i64 2, .slice A 1 ca, .slice B 1 cb, .slice C 1 cc], .agg #[.int .i64 1, .int .i64 2, .slice D 1 cd, .slice E 1 ce, .slice F 1 cf]] w (TnPost w (bothV oneA oneA) 0) := by
  have h := Both_ oneA oneA A B C D E F ca cb cc cd ce cf w ha hb
  rw [bo_oo] at h
  exact h
theorem SomeYes_ (a : Au) (A B C : Option Addr) (ca cb cc : Nat) (w : World) (hr : AuRd w 0 a A B C ca cb cc) (h0 : ckA a = 0) (u : Nat → Int) (hu : TakesU a u) :
    Calls Try.prog 5 #[.agg #[.int .i64 a.st, .int .i64 a.le, .slice A a.fs.length ca, .slice B a.gs.length cb, .slice C a.ss.length cc]] w fun e w' => ∃ (H L : Option Addr) (ch cl hn ln : Nat), e = .returned (.tuple #[.agg #[.slice H hn ch, .slice L ln cl], .bool true, .int .i64 0]) ∧ 0 < ln ∧ Below w.heap.size w w' := by
  refine (Some_ a A B C ca cb cc w hr).mono ?_
  rintro e w' ⟨⟨H, L, ch, cl, hl, ll, b, rfl, _, _, hif⟩, hb⟩
  obtain ⟨ho, hs⟩ := ckA_zero.1 h0
  cases b with
  | false => exact absurd hu (hif.2.2 h0 u)
  | true =>
    rw [h0]
    exact ⟨H, L, ch, cl, _, _, rfl, (hif.2.fits (ho.fit hs)).2.2, hb⟩
theorem SomeNone_ (A B C : Option Addr) (ca cb cc : Nat) (w : World) (hr : AuRd w 0 noneA A B C ca cb cc) :
    Calls Try.prog 5 #[.agg #[.int .i64 1, .int .i64 2, .slice A 0 ca, .slice B 1 cb, .slice C 0 cc]] w fun e w' => ∃ (H L : Option Addr) (ch cl hn ln : Nat), e = .returned (.tuple #[.agg #[.slice H hn ch, .slice L ln cl], .bool false, .int .i64 0]) ∧ Below w.heap.size w w' := by
  refine (Some_ noneA A B C ca cb cc w hr).mono ?_
  rintro e w' ⟨⟨H, L, ch, cl, hl, ll, b, rfl, _, _, hif⟩, hb⟩
  cases b with
  | true => exact absurd hif.2.takes (noneA_takes _)
  | false => exact ⟨H, L, ch, cl, _, _, by rw [none_ck], hb⟩
theorem TakesEn_ (p : Au) (hp : tkB p zeroL = true ∧ taErr p zeroL = 0) (A B C D E : Option Addr) (ca cb cc cd ce : Nat) (w : World) (hr : AuRd w 0 p A B C ca cb cc) (hh : Ints w 0 D cd []) (hl : Ints w 0 E ce [0]) :
    Calls Try.prog 9 #[.agg #[.int .i64 p.st, .int .i64 p.le, .slice A p.fs.length ca, .slice B p.gs.length cb, .slice C p.ss.length cc], .agg #[.slice D 0 cd, .slice E 1 ce]] w fun e w' => e = .returned (.tuple #[.bool true, .int .i64 0]) ∧ Below w.heap.size w w' := by
  have := Takes_ p A B C D E ca cb cc cd ce zeroL w hr hh hl
  unfold TkPost at this
  rwa [hp.1, hp.2] at this
set_option maxRecDepth 100000 in
set_option maxHeartbeats 4000000 in
theorem bothBegun_ (w : World) : Calls Try.prog 7 #[] w (BoolPost w true) := by
  go_enter Try.func7, Try.ntmps7
  go_wp2_with fail
  refine (one0_ _).mono ?_
  rintro e w1 ⟨A1, B1, C1, ca1, cb1, cc1, rfl, hr1, hb1⟩
  have HR1 := Lib.hid hr1
  have HB1 := Lib.hid hb1
  clear hr1 hb1
  go_wp2_with fail
  refine (none0_ _).mono ?_
  rintro e w2 ⟨A2, B2, C2, ca2, cb2, cc2, rfl, hr2, hb2⟩
  have HR1' := Lib.hid (HR1.out.below hb2)
  have HR2 := Lib.hid hr2
  have HB2 := Lib.hid (Below_on HB1.out hb2 HB1.out.size)
  clear hr2 hb2 HR1 HB1
  go_wp2_with fail
  refine (EitherOn_ _ _ _ _ _ _ _ _ _ _ _ _ _ HR1'.out HR2.out).mono ?_
  rintro e w3 ⟨A3, B3, C3, ca3, cb3, cc3, rfl, hr3, hb3⟩
  have HB3 := Lib.hid (Below_on HB2.out hb3 HB2.out.size)
  have HEN := Lib.hid tk_en
  have HR3 := Lib.hid (hr3.low (Nat.zero_le _))
  clear hr3 hb3 HR1' HR2 HB2
  generalize eitherV oneA noneA = p at *
  have hba : Below w3.heap.size w3 (w3.alloc (Obj.cells #[.int .i64 p.st, .int .i64 p.le, .slice A3 p.fs.length ca3, .slice B3 p.gs.length cb3, .slice C3 p.ss.length cc3] 26)) := (Below.refl _ _).alloc (Nat.le_refl _) _
  have HX : Hid ((w3.alloc (Obj.cells #[.int .i64 p.st, .int .i64 p.le, .slice A3 p.fs.length ca3, .slice B3 p.gs.length cb3, .slice C3 p.ss.length cc3] 26)).heap[w3.heap.size]? = some (.cells #[.int .i64 p.st, .int .i64 p.le, .slice A3 p.fs.length ca3, .slice B3 p.gs.length cb3, .slice C3 p.ss.length cc3] 26 (0, 0))) := World.alloc_heap_new _ _
  have HR4 := Lib.hid (HR3.out.below hba)
  have HB4 := Lib.hid (Below_on HB3.out hba HB3.out.size)
  clear hba HR3 HB3
  go_upto_region 2 with fail
  obtain ⟨X, hX⟩ : ∃ X, X = w3.heap.size := ⟨_, rfl⟩
  rw [← hX] at HX ⊢
  clear hX
  generalize w3.alloc (Obj.cells #[.int .i64 p.st, .int .i64 p.le, .slice A3 p.fs.length ca3, .slice B3 p.gs.length cb3, .slice C3 p.ss.length cc3] 26) = W4 at *
  go_wp2_with fail
  refine (one0_ _).mono ?_
  rintro e w5 ⟨A5, B5, C5, ca5, cb5, cc5, rfl, hr5, hb5⟩
  have HR5 := Lib.hid hr5
  have HB5 := Lib.hid hb5
  clear hr5 hb5
  go_wp2_with fail
  refine (one0_ _).mono ?_
  rintro e w6 ⟨A6, B6, C6, ca6, cb6, cc6, rfl, hr6, hb6⟩
  have HR5' := Lib.hid (HR5.out.below hb6)
  have HR6 := Lib.hid hr6
  have HB6 := Lib.hid (Below_on HB5.out hb6 HB5.out.size)
  clear hr6 hb6 HR5 HB5
  go_wp2_with fail
  refine (BothOo_ _ _ _ _ _ _ _ _ _ _ _ _ _ HR5'.out HR6.out).mono ?_
  rintro e w7 ⟨A7, B7, C7, ca7, cb7, cc7, rfl, hr7, hb7⟩
  have HB7 := Lib.hid (Below_on HB6.out hb7 HB6.out.size)
  have HBO : Hid (ckA (bothV oneA oneA) = 0 ∧ TakesU (bothV oneA oneA) zeroL.at) := ⟨(both_all bo_oo).1, ((both_all bo_oo).2.2.2 _).2 ⟨oneA_takes, oneA_takes⟩⟩
  have HR7 := Lib.hid (hr7.low (Nat.zero_le _))
  clear hr7 hb7 HR5' HR6 HB6
  generalize bothV oneA oneA = q at *
  have hba : Below w7.heap.size w7 (w7.alloc (Obj.cells #[.int .i64 q.st, .int .i64 q.le, .slice A7 q.fs.length ca7, .slice B7 q.gs.length cb7, .slice C7 q.ss.length cc7] 26)) := (Below.refl _ _).alloc (Nat.le_refl _) _
  have HY : Hid ((w7.alloc (Obj.cells #[.int .i64 q.st, .int .i64 q.le, .slice A7 q.fs.length ca7, .slice B7 q.gs.length cb7, .slice C7 q.ss.length cc7] 26)).heap[w7.heap.size]? = some (.cells #[.int .i64 q.st, .int .i64 q.le, .slice A7 q.fs.length ca7, .slice B7 q.gs.length cb7, .slice C7 q.ss.length cc7] 26 (0, 0))) := World.alloc_heap_new _ _
  have HR8 := Lib.hid (HR7.out.below hba)
  have HB8 := Lib.hid (Below_on HB7.out hba HB7.out.size)
  clear hba HR7 HB7
  go_upto_region 3 with fail
  obtain ⟨Y, hY⟩ : ∃ Y, Y = w7.heap.size := ⟨_, rfl⟩
  rw [← hY] at HY ⊢
  clear hY
  generalize w7.alloc (Obj.cells #[.int .i64 q.st, .int .i64 q.le, .slice A7 q.fs.length ca7, .slice B7 q.gs.length cb7, .slice C7 q.ss.length cc7] 26) = W8 at *
  obtain ⟨y0, y1, y2, y3, y4, _⟩ := obj5 HY.out
  go_wp2_with fail
  refine (SomeYes_ q _ _ _ _ _ _ _ HR8.out HBO.out.1 _ HBO.out.2).mono ?_
  rintro e w9 ⟨H9, L9, ch9, cl9, hn9, ln9, rfl, hl9, hb9⟩
  have hal : Below w9.heap.size w9 (w9.alloc (Obj.cells #[.slice H9 hn9 ch9, .slice L9 ln9 cl9] 28)) := (Below.refl _ _).alloc (Nat.le_refl _) _
  have HZ : Hid ((w9.alloc (Obj.cells #[.slice H9 hn9 ch9, .slice L9 ln9 cl9] 28)).heap[w9.heap.size]? = some (.cells #[.slice H9 hn9 ch9, .slice L9 ln9 cl9] 28 (0, 0))) := World.alloc_heap_new _ _
  have HB9 := Lib.hid (Below_on (Below_on HB8.out hb9 HB8.out.size) hal (Nat.le_trans HB8.out.size hb9.size))
  clear hal hb9 y0 y1 y2 y3 y4 HB8 HR8 HY
  go_upto_region 4 with fail
  obtain ⟨Z, hZ⟩ : ∃ Z, Z = w9.heap.size := ⟨_, rfl⟩
  rw [← hZ] at HZ ⊢
  clear hZ
  generalize w9.alloc (Obj.cells #[.slice H9 hn9 ch9, .slice L9 ln9 cl9] 28) = W9 at *
  go_wp2_with fail
  refine (none0_ _).mono ?_
  rintro e w10 ⟨A10, B10, C10, ca10, cb10, cc10, rfl, hr10, hb10⟩
  have HR10 := Lib.hid hr10
  have HB10 := Lib.hid hb10
  clear hr10 hb10
  go_wp2_with fail
  refine (SomeNone_ _ _ _ _ _ _ _ HR10.out).mono ?_
  rintro e w11 ⟨H11, L11, ch11, cl11, hn11, ln11, rfl, hb11⟩
  have hal : Below w11.heap.size w11 (w11.alloc (Obj.cells #[.slice H11 hn11 ch11, .slice L11 ln11 cl11] 28)) := (Below.refl _ _).alloc (Nat.le_refl _) _
  have HB11 := Lib.hid (Below_on (Below_on HB10.out hb11 HB10.out.size) hal (Nat.le_trans HB10.out.size hb11.size))
  clear hal hb11 HR10 HB10
  go_upto_region 5 with fail
  generalize w11.alloc (Obj.cells #[.slice H11 hn11 ch11, .slice L11 ln11 cl11] 28) = W11 at *
  have HXY : Hid (∀ W, Below W11.heap.size W11 W → (W.cell? ⟨X, 0, none⟩ = some (.int .i64 p.st) ∧ W.cell? ⟨X, 1, none⟩ = some (.int .i64 p.le) ∧ W.cell? ⟨X, 2, none⟩ = some (.slice A3 p.fs.length ca3) ∧ W.cell? ⟨X, 3, none⟩ = some (.slice B3 p.gs.length cb3) ∧ W.cell? ⟨X, 4, none⟩ = some (.slice C3 p.ss.length cc3)) ∧ (W.cell? ⟨Z, 0, none⟩ = some (.slice H9 hn9 ch9) ∧ W.cell? ⟨Z, 1, none⟩ = some (.slice L9 ln9 cl9))) := fun W hW => by
    have hx0 := (HB9.out.block X (Array.getElem?_eq_some_iff.1 HX.out).1).trans HX.out
    have hx1 := (HB11.out.block X (Array.getElem?_eq_some_iff.1 hx0).1).trans hx0
    have hx := (hW.block X (Array.getElem?_eq_some_iff.1 hx1).1).trans hx1
    have hz1 := (HB11.out.block Z (Array.getElem?_eq_some_iff.1 HZ.out).1).trans HZ.out
    have hz := (hW.block Z (Array.getElem?_eq_some_iff.1 hz1).1).trans hz1
    obtain ⟨a0, a1, a2, a3, a4, _⟩ := obj5 hx
    obtain ⟨b0, b1, _, _⟩ := la_cells hz
    exact ⟨⟨a0, a1, a2, a3, a4⟩, b0, b1⟩
  have HR11 := Lib.hid ((HR4.out.below HB9.out).below HB11.out)
  have HW : Hid (Below w.heap.size w W11) := Below_on (Below_on HB4.out HB9.out HB4.out.size) HB11.out (Nat.le_trans HB4.out.size HB9.out.size)
  have HL9 := Lib.hid hl9
  obtain ⟨⟨x0, x1, x2, x3, x4⟩, z0, z1⟩ := HXY.out W11 (Below.refl _ _)
  clear HB4 HB9 HB11 HX HZ HR4 HBO hl9
  go_region_held3 (fun w' => (w'.cell? ⟨X, 0, none⟩ = some (.int .i64 p.st) ∧ w'.cell? ⟨X, 1, none⟩ = some (.int .i64 p.le) ∧ w'.cell? ⟨X, 2, none⟩ = some (.slice A3 p.fs.length ca3) ∧ w'.cell? ⟨X, 3, none⟩ = some (.slice B3 p.gs.length cb3) ∧ w'.cell? ⟨X, 4, none⟩ = some (.slice C3 p.ss.length cc3)))
    (first | go_keep | exact (HXY.out _ ((Below.refl _ W11).drew)).1 | exact qq)
    (first
      | (go_at_call 9; refine (TakesEn_ p HEN.out _ _ _ _ _ _ _ _ _ _ _ (HR11.out.below HBA.out) HHA.out HLA.out).mono ?_; rintro e wb ⟨rfl, hbb⟩; have HBB := Lib.hid (Below_on HBA.out hbb HBA.out.size); have qq := (HXY.out _ HBB.out).1)
      | (go_at_call 24; refine (zero0_ _).mono ?_; rintro e wa ⟨Da, Ea, cda, cea, rfl, hha, hla, hba⟩; have HBA := Lib.hid (Below_on ((Below.refl _ W11).drew) hba (Nat.le_refl _)); have HHA := Lib.hid hha; have HLA := Lib.hid hla; have qq := (HXY.out _ HBA.out).1))
  all_goals
    have HP : Hid (BoolPost w true (.returned (.bool (decide (0 < ln9)))) wb) := ⟨by rw [decide_eq_true HL9.out], Below_on HW.out HBB.out HW.out.size⟩
    obtain ⟨_, zz0, zz1⟩ := HXY.out _ HBB.out
    go_wp2_with fail
    go_ret
    exact HP.out
end Go.Proofs.Ytoglgeaiiipchab

namespace Go.Proofs.Ytoglgeaiiipchab
open Go Go.RowKit

theorem NamesA_ (k : Int) (w : World) : Calls Try.prog 36 #[.int .i64 k] w fun e w' => e = .returned (.bool (nmA k)) ∧ w = w' := by
  go_enter Try.func36, Try.ntmps36
  go_wp2_with (go_at_call 18; refine (between_ _ _ _ _).mono ?_; rintro e w' ⟨rfl, rfl⟩)
  go_ret
  exact ⟨rfl, rfl⟩
theorem NamesB_ (k : Int) (w : World) : Calls Try.prog 37 #[.int .i64 k] w fun e w' => e = .returned (.bool (nmB k)) ∧ w = w' := by
  go_enter Try.func37, Try.ntmps37
  go_wp2
  all_goals (go_ret; exact ⟨ret_bool (by simp_all [nmB]), rfl⟩)
theorem TooMany_ (A : Option Addr) (c : Nat) (f : List Nd) (w : World) (hf : Nds w 0 A c f) :
    Calls Try.prog 35 #[.slice A f.length c] w fun e w' => e = .returned (.bool (tooMany f)) ∧ Below w.heap.size w w' := by
  have hle := hf.le
  have hmx := hf.max
  go_enter Try.func35, Try.ntmps35
  go_wp2
  go_loopw [3, 4] (fun n i wr => ∃ k : Nat, k ≤ f.length ∧ i = .int .i64 k ∧ n = .int .i64 (cntT (f.take k)) ∧ Below w.heap.size w wr) (fun _ i _ => f.length - (intOf i).toNat)
  case atStart => exact ⟨0, Nat.zero_le _, rfl, rfl, Below.refl _ _⟩
  case round =>
    obtain ⟨k, hk, rfl, rfl, hb⟩ := hrel
    have hct := cntT_le f k
    by_cases hlt : k < f.length
    · obtain ⟨b, o, rfl, _, _, hc1, hc2, hc3, hc4⟩ := Nds.at_ (hf.below hb) hlt
      have hs := cntT_take hlt
      have HS := Lib.hid hs
      clear hs
      go_wp2_with (go_at_call 18; refine (between_ _ _ _ _).mono ?_; rintro e w' ⟨rfl, rfl⟩)
      · have ht : isTmp f[k].k = true := by assumption
        go_roundw
        case rel => exact ⟨k + 1, by omega, by go_num, by rw [HS.out, if_pos ht]; go_num, hb⟩
        case measure => simp [intOf]; omega
      · have ht : isTmp f[k].k = false := by assumption
        go_roundw
        case rel => exact ⟨k + 1, by omega, by go_num, by rw [HS.out, if_neg (by simp [ht])]; go_num, hb⟩
        case measure => simp [intOf]; omega
    · have hall : f.take k = f := List.take_of_length_le (by omega)
      have HA := Lib.hid hall
      clear hall
      go_wp2
      all_goals (go_ret; refine ⟨ret_bool ?_, hb⟩; have ha := HA.out; (try rw [ha]); unfold tooMany)
      · rfl
      · rw [decide_eq_true (by assumption)]; rfl

set_option maxRecDepth 100000 in
set_option maxHeartbeats 4000000 in
theorem CheckFormula_ (A : Option Addr) (c : Nat) (f : List Nd) (w : World) (hf : Nds w 0 A c f) :
    Calls Try.prog 12 #[.slice A f.length c] w fun e w' => e = .returned (.int .i64 (ckF f)) ∧ Below w.heap.size w w' := by
  have hle := hf.le
  have hmx := hf.max
  by_cases h0 : f.length = 0
  · have h0' : ((f.length : Int) == 0) = true := by simp [h0]
    go_enter Try.func12, Try.ntmps12
    have H0 := Lib.hid h0
    clear h0
    go_wp2
    go_ret
    exact ⟨ret_int (by rw [ckF, if_pos H0.out]), Below.refl _ _⟩
  · have h0' : ((f.length : Int) == 0) = false := by simpa using h0
    by_cases hm : tooMany f = true
    · go_enter Try.func12, Try.ntmps12
      go_wp2_with (go_at_call 35; refine (TooMany_ _ _ _ _ hf).mono ?_; rintro e w1 ⟨rfl, hb1⟩)
      go_ret
      exact ⟨ret_int (by rw [ckF, if_neg h0, if_pos hm]), hb1⟩
    · have hm' : tooMany f = false := by simpa using hm
      have hfin : ckF f = ckNds (f.drop 0) 0 := by rw [ckF, if_neg h0, if_neg hm]; rfl
      have HF := Lib.hid hfin
      clear hfin hm
      go_enter Try.func12, Try.ntmps12
      go_wp2_with (go_at_call 35; refine (TooMany_ _ _ _ _ hf).mono ?_; rintro e w1 ⟨rfl, hb1⟩)
      go_loopw [3] (fun i wr => ∃ k : Nat, k ≤ f.length ∧ i = .int .i64 k ∧ ckF f = ckNds (f.drop k) k ∧ Below w.heap.size w wr) (fun i _ => f.length - (intOf i).toNat)
      case atStart => exact ⟨0, Nat.zero_le _, rfl, HF.out, hb1⟩
      case round =>
        obtain ⟨k, hk, rfl, hc, hb⟩ := hrel
        have HC := Lib.hid hc
        clear hc
        by_cases hlt : k < f.length
        · obtain ⟨b, o, rfl, _, hbl, hc1, hc2, hc3, hc4⟩ := Nds.at_ (hf.below hb) hlt
          have hst := ckNds_step hlt
          have HS := Lib.hid hst
          clear hst
          go_wp2_with (first | (go_at_call 18; refine (between_ _ _ _ _).mono ?_; rintro e w' ⟨rfl, rfl⟩) | (go_at_call 36; refine (NamesA_ _ _).mono ?_; rintro e w' ⟨rfl, rfl⟩) | (go_at_call 37; refine (NamesB_ _ _).mono ?_; rintro e w' ⟨rfl, rfl⟩))
          all_goals first
            | (go_ret; refine ⟨ret_int ?_, hb.alloc hb.size _⟩; go_tidy; rw [HC.out, HS.out]; simp_all [ndErr, nmN])
            | (go_roundw
               case rel => exact ⟨k + 1, by omega, by go_num, by go_tidy; rw [HC.out, HS.out, if_pos (by simp_all [ndErr, nmN])], hb.alloc hb.size _⟩
               case measure => simp [intOf]; omega)
        · go_wp2
          go_ret
          exact ⟨ret_int (by rw [HC.out, ckNds_end (by omega)]), hb⟩
end Go.Proofs.Ytoglgeaiiipchab

namespace Go.Proofs.Ytoglgeaiiipchab
open Go Go.RowKit

theorem anyB_step {p : Int → Bool} {xs : List Int} {k : Nat} (hk : k < xs.length) : anyB p (xs.drop k) = (p xs[k] || anyB p (xs.drop (k + 1))) := by
  rw [List.drop_eq_getElem_cons hk]; rfl
theorem bad_btw {letters n : Int} : badL letters n = !btw n 0 (letters - 1) := by
  unfold badL btw
  rw [Bool.eq_iff_iff]
  simp
  omega
theorem ret_any {v v' : Value} (h : v = v') : Ending.returned v = Ending.returned v' := by rw [h]

set_option maxRecDepth 100000 in
set_option maxHeartbeats 1000000 in
theorem CheckLasso_ (A B : Option Addr) (ca cb : Nat) (l : La) (letters : Int) (w : World) (hh : Ints w 0 A ca l.h) (hl : Ints w 0 B cb l.l) :
    Calls Try.prog 10 #[.agg #[.slice A l.h.length ca, .slice B l.l.length cb], .int .i64 letters] w fun e w' => e = .returned (.int .i64 (ckL l letters)) ∧ Below w.heap.size w w' := by
  have h1 := hh.le
  have h3 := hl.le
  obtain ⟨i0, hi0, hz0, hz1, hz2⟩ := info_parts infoInt
  have HA := Lib.hid ((Below.refl w.heap.size w).alloc (Nat.le_refl _) (Obj.cells #[Value.slice A l.h.length ca, Value.slice B l.l.length cb] 28))
  go_enter Try.func10, Try.ntmps10
  by_cases h3 : letters < 1 ∨ 8 < letters
  · have HF := Lib.hid (ckL_3 (l := l) h3)
    have hbt : btw letters 1 8 = false := by unfold btw; simp; omega
    go_wp2_with (go_at_call 18; refine (between_ _ _ _ _).mono ?_; rintro e w' ⟨rfl, rfl⟩)
    all_goals (go_ret; exact ⟨ret_int HF.out.symm, HA.out⟩)
  have hbt : btw letters 1 8 = true := by unfold btw; simp; omega
  by_cases h2 : 4000 < (l.h.length : Int) ∨ 4000 < (l.l.length : Int)
  · have HF := Lib.hid (ckL_2 h3 h2)
    go_wp2_with (go_at_call 18; refine (between_ _ _ _ _).mono ?_; rintro e w' ⟨rfl, rfl⟩)
    all_goals (go_ret; exact ⟨ret_int HF.out.symm, HA.out⟩)
  by_cases h1' : l.l.length = 0
  · have HF := Lib.hid (ckL_1 h3 h2 h1')
    have hz : ((l.l.length : Int) == 0) = true := by simp [h1']
    clear h1'
    go_wp2_with (go_at_call 18; refine (between_ _ _ _ _).mono ?_; rintro e w' ⟨rfl, rfl⟩)
    go_ret
    exact ⟨ret_int HF.out.symm, HA.out⟩
  have HF := Lib.hid (ckL_x h3 h2 h1')
  have hz : ((l.l.length : Int) == 0) = false := by simpa using h1'
  have hp : 0 < l.l.length := by omega
  clear h1'
  go_wp2_with (go_at_call 18; refine (between_ _ _ _ _).mono ?_; rintro e w' ⟨rfl, rfl⟩)
  have hmxh := hh.max
  have hmxl := hl.max
  have HA2 := Lib.hid ((HA.out.alloc (by simp) (Obj.cells #[] 3)).drew)
  have HO := Lib.hid (own_drew (own_empty (w := w.alloc (Obj.cells #[Value.slice A l.h.length ca, Value.slice B l.l.length cb] 28)) (base := w.heap.size + 1) 3 1 (by simp)))
  rw [World.size_alloc] at HO
  have HR1 := Lib.hid (hh.rd.below HA2.out (Nat.le_refl _))
  have b1 : 0 + l.h.length ≤ maxLen := by simp only [maxLen]; omega
  have b2 : (0 + l.h.length) * 8 ≤ 140737488355328 := by omega
  have b3 : 0 + l.h.length + l.l.length ≤ maxLen := by simp only [maxLen]; omega
  have b4 : (0 + l.h.length + l.l.length) * 8 ≤ 140737488355328 := by omega
  have b5 : w.heap.size + 1 ≤ ((w.alloc (Obj.cells #[Value.slice A l.h.length ca, Value.slice B l.l.length cb] 28)).alloc (Obj.cells #[] 3)).drew.heap.size := by simp
  go_region_held3 (fun w' => w'.cell? ⟨w.heap.size, 0, none⟩ = some (.slice A l.h.length ca) ∧ w'.cell? ⟨w.heap.size, 1, none⟩ = some (.slice B l.l.length cb))
    (first | go_keep | exact ⟨q0, q1⟩ | exact ⟨q2, q3⟩)
    (first
      | ((refine step_app _ rfl (.tmp 24) (.tmp 26) _ rfl (w.heap.size + 1) 3 i0 _ 1 8 Try.underlying22 hi0 hz0 hz1 hz2 rfl (by decide) (.slice (some ⟨w.heap.size + 1, 0, none⟩) 0 0) 0 [] rfl HO.out A l.h.length ca _ rfl (flatMap_len (sz := 1) (fun _ => rfl) _) HR1.out (ints_oneCell _) b1 b2 b5 ?_); intro v1 w1 hown1 hg1 hat1; have q0 := hg1.cell (a := ⟨w.heap.size, 0, none⟩) (v := .slice A l.h.length ca) (by go_simp) (by simp [Value.ownBlock]); have q1 := hg1.cell (a := ⟨w.heap.size, 1, none⟩) (v := .slice B l.l.length cb) (by go_simp) (by simp [Value.ownBlock]))
      | ((refine step_app _ rfl (.tmp 27) (.tmp 29) _ rfl (w.heap.size + 1) 3 i0 _ 1 8 Try.underlying22 hi0 hz0 hz1 hz2 rfl (by decide) v1 _ _ rfl hown1 B l.l.length cb _ rfl (flatMap_len (sz := 1) (fun _ => rfl) _) (hl.rd.below ((HA2.out.grown hg1 (by simp; omega) (fun k hk => by simp [Value.ownBlock] at hk; omega))) (Nat.le_refl _)) (ints_oneCell _) b3 b4 (by have := hg1.size; simp at this; omega) ?_); intro v2 w2 hown2 hg2 hat2; have q2 := hg2.cell (a := ⟨w.heap.size, 0, none⟩) (v := .slice A l.h.length ca) q0 (own_ne hown1 (by simp)); have q3 := hg2.cell (a := ⟨w.heap.size, 1, none⟩) (v := .slice B l.l.length cb) q1 (own_ne hown1 (by simp))))
  have HB2 := Lib.hid (grownOwn_ (HA2.out.grown hg1 (by simp; omega) (fun k hk => by simp [Value.ownBlock] at hk; omega)) hg2 hown1 (by omega) (by have := hg1.size; simp at this; omega))
  have eL : (0 + l.h.length + l.l.length) = (l.h ++ l.l).length := by simp
  have eX : ([] ++ List.flatMap (fun n : Int => [Value.int .i64 n]) l.h ++ List.flatMap (fun n : Int => [Value.int .i64 n]) l.l) = List.flatMap (fun n : Int => [Value.int .i64 n]) (l.h ++ l.l) := by simp
  rw [eL, eX] at hown2
  clear eL eX
  have hcnt : (l.h ++ l.l).length ≤ 8000 := by simp; omega
  have hany : anyB (badL letters) (l.h ++ l.l) = (anyB (badL letters) l.h || anyB (badL letters) l.l) := by simp [anyB]
  rw [← hany] at HF
  clear hany
  obtain ⟨C, cc, hv2, hall⟩ := SlE.of_own (bt := 8) hown2 (by omega)
  subst hv2
  clear hown2 hg2 hat2 hown1 hg1 hat1 q0 q1 q2 q3 HO HR1 HA HA2 b1 b2 b3 b4 b5
  generalize l.h ++ l.l = xs at *
  go_wp2
  go_loopw [6] (fun i wr => ∃ k : Nat, k ≤ xs.length ∧ i = .int .i64 k ∧ anyB (badL letters) xs = anyB (badL letters) (xs.drop k) ∧ Below w.heap.size w wr ∧ Below w2.heap.size w2 wr) (fun i _ => xs.length - (intOf i).toNat)
  case atStart => exact ⟨0, Nat.zero_le _, rfl, rfl, HB2.out, Below.refl _ _⟩
  case round =>
    obtain ⟨k, hk, rfl, hc, hb, hb2⟩ := hrel
    have HC := Lib.hid hc
    clear hc
    by_cases hlt : k < xs.length
    · obtain ⟨b, o, rfl, _, hbl, hc1⟩ := Ints.at_ (hall.below hb2) hlt
      have hs := anyB_step (p := badL letters) hlt
      have HS := Lib.hid hs
      clear hs
      go_wp2_with (go_at_call 18; refine (between_ _ _ _ _).mono ?_; rintro e w' ⟨rfl, rfl⟩)
      · have ht : badL letters xs[k] = true := by rw [bad_btw]; assumption
        go_ret
        exact ⟨ret_int (by rw [HF.out, HC.out, HS.out, ht]; rfl), hb⟩
      · have ht : badL letters xs[k] = false := by rw [bad_btw]; assumption
        go_roundw
        case rel => exact ⟨k + 1, by omega, by go_num, by rw [HC.out, HS.out, ht]; rfl, hb, hb2⟩
        case measure => simp [intOf]; omega
    · go_wp2
      go_ret
      exact ⟨ret_int (by rw [HF.out, HC.out, List.drop_of_length_le (by omega)]; rfl), hb⟩
end Go.Proofs.Ytoglgeaiiipchab
