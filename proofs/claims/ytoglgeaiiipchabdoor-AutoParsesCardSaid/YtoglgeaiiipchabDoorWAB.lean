/- Walks: the law's autoBegun. -/
import Derived.Test.YtoglgeaiiipchabDoorWTm
import Derived.Test.YtoglgeaiiipchabDoorOn
import Derived.Test.YtoglgeaiiipchabDoorWPt
import Derived.Test.YtoglgeaiiipchabDoorWSA
namespace Go.Proofs.YtoglgeaiiipchabDoor
open Go Go.RowKit

def oneT : List UInt8 := printA oneA
theorem oneT_is : oneT = [115, 116, 97, 116, 101, 115, 32, 49, 32, 108, 101, 116, 116, 101, 114, 115, 32, 50, 10, 102, 105, 114, 115, 116, 32, 48, 10, 103, 111, 111, 100, 32, 48, 10, 48, 32, 48, 32, 48, 10] := by decide +kernel
theorem one_rch : RchS oneA [true] := ⟨rfl, fun q h0 h1 => by
  have : q = 0 := by have : q < 1 := h1; omega
  subst this
  exact ⟨fun _ => .first (by simp [oneA]), fun _ => rfl⟩⟩
theorem one_trim : trimV oneA = oneA := by rw [trim_ok one_ck one_rch]; decide +kernel
theorem PrintOne_ (A B C : Option Addr) (ca cb cc : Nat) (w : World) (hL : LaidOK w) (hr : AuRd w 0 oneA A B C ca cb cc) :
    Calls Tryd.prog 6 #[.agg #[.int .i64 1, .int .i64 2, .slice A 1 ca, .slice B 1 cb, .slice C 1 cc]] w fun e w' => e = .returned (.tuple #[.string (sB oneT), .int .i64 0]) ∧ Below w.heap.size w w' := by
  have := PrintA_ oneA A B C ca cb cc w hL hr
  rwa [show printP oneA = oneT from if_pos one_ck, one_ck] at this
theorem ParseOne_ (w : World) (hL : LaidOK w) : Calls Tryd.prog 14 #[.string (sB oneT)] w fun e w' => ∃ A B C ca cb cc, e = .returned (.tuple #[.agg #[.int .i64 1, .int .i64 2, .slice A 1 ca, .slice B 1 cb, .slice C 1 cc], .int .i64 0, .int .i64 0]) ∧ AuRd w' 0 oneA A B C ca cb cc ∧ Below w.heap.size w w' := by
  have := Parse_ oneT w hL
  rwa [show readA oneT = (oneA, 0, 0) from read_print one_ck (by rw [show printA oneA = oneT from rfl, oneT_is]; decide)] at this
theorem TrimOne_ (A B C : Option Addr) (ca cb cc : Nat) (w : World) (hr : AuRd w 0 oneA A B C ca cb cc) :
    Calls Tryd.prog 7 #[.agg #[.int .i64 1, .int .i64 2, .slice A 1 ca, .slice B 1 cb, .slice C 1 cc]] w fun e w' => ∃ A B C ca cb cc, e = .returned (.tuple #[.agg #[.int .i64 1, .int .i64 2, .slice A 1 ca, .slice B 1 cb, .slice C 1 cc], .int .i64 0]) ∧ AuRd w' 0 oneA A B C ca cb cc ∧ Below w.heap.size w w' := by
  have := Trim_ oneA A B C ca cb cc w hr
  rwa [one_trim, one_ck] at this
theorem CheckOne_ (A B C : Option Addr) (ca cb cc : Nat) (w : World) (hr : AuRd w 0 oneA A B C ca cb cc) :
    Calls Tryd.prog 12 #[.agg #[.int .i64 1, .int .i64 2, .slice A 1 ca, .slice B 1 cb, .slice C 1 cc]] w fun e w' => e = .returned (.int .i64 0) ∧ Below w.heap.size w w' := by
  have := autoCheck_ oneA A B C ca cb cc w hr
  rwa [one_ck] at this
theorem SameOne_ (A B C D E F : Option Addr) (ca cb cc cd ce cf : Nat) (w : World) (ha : AuRd w 0 oneA A B C ca cb cc) (hb : AuRd w 0 oneA D E F cd ce cf) :
    Calls Tryd.prog 16 #[.agg #[.int .i64 1, .int .i64 2, .slice A 1 ca, .slice B 1 cb, .slice C 1 cc], .agg #[.int .i64 1, .int .i64 2, .slice D 1 cd, .slice E 1 ce, .slice F 1 cf]] w fun e w' => e = .returned (.bool true) ∧ Below w.heap.size w w' :=
  SameAuto_ oneA A B C D E F ca cb cc cd ce cf w ha hb
theorem laid_obj (W : World) (o : Obj) : (W.alloc o).heap[W.heap.size]? = some o := by
  show (W.heap.push _)[W.heap.size]? = _
  simp
set_option maxRecDepth 100000 in
set_option maxHeartbeats 4000000 in
theorem autoBegun_ (w : World) (hL : LaidOK w) : Calls Tryd.prog 11 #[] w fun e w' => e = .returned (.bool true) ∧ Below w.heap.size w w' := by
  have HL := Lib.hid (fun W (h : Below w.heap.size w W) => hL.below h (Nat.le_refl _))
  clear hL
  go_enter Tryd.func11, Tryd.ntmps11
  go_wp2_with fail
  refine (one0_ w).mono ?_
  rintro e w1 ⟨A1, B1, C1, ca1, cb1, cc1, rfl, hr1, hb1⟩
  have HB1 := Lib.hid hb1
  have HC1 := Lib.hid (PrintOne_ A1 B1 C1 ca1 cb1 cc1 w1 (HL.out _ hb1) hr1)
  clear hb1 hr1
  go_wp2_with fail
  refine HC1.out.mono ?_
  rintro e w2 ⟨rfl, hb2⟩
  have HB2 := Lib.hid (Below_on HB1.out hb2 HB1.out.size)
  have HC2 := Lib.hid (ParseOne_ w2 (HL.out _ HB2.out))
  clear hb2 HC1 HB1
  go_wp2_with fail
  refine HC2.out.mono ?_
  rintro e w3 ⟨A3, B3, C3, ca3, cb3, cc3, rfl, hr3, hb3⟩
  have hba : Below w3.heap.size w3 (w3.alloc (Obj.cells #[.int .i64 1, .int .i64 2, .slice A3 1 ca3, .slice B3 1 cb3, .slice C3 1 cc3] 26)) := (Below.refl _ _).alloc (Nat.le_refl _) _
  have HB3 : Hid (Below w.heap.size w (w3.alloc (Obj.cells #[.int .i64 1, .int .i64 2, .slice A3 1 ca3, .slice B3 1 cb3, .slice C3 1 cc3] 26))) := Below_on (Below_on HB2.out hb3 HB2.out.size) hba (Nat.le_trans HB2.out.size hb3.size)
  have HR3 := Lib.hid (hr3.below hba)
  have HX := Lib.hid (laid_obj w3 (Obj.cells #[.int .i64 1, .int .i64 2, .slice A3 1 ca3, .slice B3 1 cb3, .slice C3 1 cc3] 26))
  clear hr3 hba hb3 HC2 HB2
  go_wp2_with fail
  obtain ⟨X, hX⟩ : ∃ X, X = w3.heap.size := ⟨_, rfl⟩
  rw [← hX] at HX ⊢
  clear hX
  generalize w3.alloc (Obj.cells #[.int .i64 1, .int .i64 2, .slice A3 1 ca3, .slice B3 1 cb3, .slice C3 1 cc3] 26) = W3 at *
  refine (one0_ W3).mono ?_
  rintro e w4 ⟨A4, B4, C4, ca4, cb4, cc4, rfl, hr4, hb4⟩
  have HB4 := Lib.hid hb4
  have HC4 := Lib.hid (TrimOne_ A4 B4 C4 ca4 cb4 cc4 w4 hr4)
  clear hb4 hr4
  go_wp2_with fail
  refine HC4.out.mono ?_
  rintro e w5 ⟨A5, B5, C5, ca5, cb5, cc5, rfl, hr5, hb5⟩
  have hba : Below w5.heap.size w5 (w5.alloc (Obj.cells #[.int .i64 1, .int .i64 2, .slice A5 1 ca5, .slice B5 1 cb5, .slice C5 1 cc5] 26)) := (Below.refl _ _).alloc (Nat.le_refl _) _
  have HB5 : Hid (Below W3.heap.size W3 (w5.alloc (Obj.cells #[.int .i64 1, .int .i64 2, .slice A5 1 ca5, .slice B5 1 cb5, .slice C5 1 cc5] 26))) := Below_on (Below_on HB4.out hb5 HB4.out.size) hba (Nat.le_trans HB4.out.size hb5.size)
  have HR5 := Lib.hid (hr5.below hba)
  have HY := Lib.hid (laid_obj w5 (Obj.cells #[.int .i64 1, .int .i64 2, .slice A5 1 ca5, .slice B5 1 cb5, .slice C5 1 cc5] 26))
  clear hr5 hba hb5 HC4 HB4
  obtain ⟨Y, hY⟩ : ∃ Y, Y = w5.heap.size := ⟨_, rfl⟩
  go_upto_region 4 with fail
  rw [← hY] at HY ⊢
  clear hY
  generalize w5.alloc (Obj.cells #[.int .i64 1, .int .i64 2, .slice A5 1 ca5, .slice B5 1 cb5, .slice C5 1 cc5] 26) = W5 at *
  have HR3' := Lib.hid (HR3.out.below HB5.out)
  have HXY : Hid (∀ W, Below W5.heap.size W5 W → (W.cell? ⟨X, 0, none⟩ = some (.int .i64 1) ∧ W.cell? ⟨X, 1, none⟩ = some (.int .i64 2) ∧ W.cell? ⟨X, 2, none⟩ = some (.slice A3 1 ca3) ∧ W.cell? ⟨X, 3, none⟩ = some (.slice B3 1 cb3) ∧ W.cell? ⟨X, 4, none⟩ = some (.slice C3 1 cc3)) ∧ (W.cell? ⟨Y, 0, none⟩ = some (.int .i64 1) ∧ W.cell? ⟨Y, 1, none⟩ = some (.int .i64 2) ∧ W.cell? ⟨Y, 2, none⟩ = some (.slice A5 1 ca5) ∧ W.cell? ⟨Y, 3, none⟩ = some (.slice B5 1 cb5) ∧ W.cell? ⟨Y, 4, none⟩ = some (.slice C5 1 cc5))) := fun W hW => by
    have hx := (HB5.out.block X (Array.getElem?_eq_some_iff.1 HX.out).1).trans HX.out
    have h1 := (hW.block X (Array.getElem?_eq_some_iff.1 hx).1).trans hx
    have h2 := (hW.block Y (Array.getElem?_eq_some_iff.1 HY.out).1).trans HY.out
    obtain ⟨a0, a1, a2, a3, a4, _⟩ := obj5 h1
    obtain ⟨b0, b1, b2, b3, b4, _⟩ := obj5 h2
    exact ⟨⟨a0, a1, a2, a3, a4⟩, b0, b1, b2, b3, b4⟩
  have HW5 : Hid (Below w.heap.size w W5) := Below_on HB3.out HB5.out HB3.out.size
  obtain ⟨⟨x0, x1, x2, x3, x4⟩, y0, y1, y2, y3, y4⟩ := HXY.out W5 (Below.refl _ _)
  have e1 : ((sB oneT).toList == [115, 116, 97, 116, 101, 115, 32, 49, 32, 108, 101, 116, 116, 101, 114, 115, 32, 50, 10, 102, 105, 114, 115, 116, 32, 48, 10, 103, 111, 111, 100, 32, 48, 10, 48, 32, 48, 32, 48, 10]) = true := by
    rw [sB_toList, oneT_is]
    rfl
  clear HB3 HR3 HX HY HB5
  go_region_held3 (fun w' => (w'.cell? ⟨X, 0, none⟩ = some (.int .i64 1) ∧ w'.cell? ⟨X, 1, none⟩ = some (.int .i64 2) ∧ w'.cell? ⟨X, 2, none⟩ = some (.slice A3 1 ca3) ∧ w'.cell? ⟨X, 3, none⟩ = some (.slice B3 1 cb3) ∧ w'.cell? ⟨X, 4, none⟩ = some (.slice C3 1 cc3)) ∧ (w'.cell? ⟨Y, 0, none⟩ = some (.int .i64 1) ∧ w'.cell? ⟨Y, 1, none⟩ = some (.int .i64 2) ∧ w'.cell? ⟨Y, 2, none⟩ = some (.slice A5 1 ca5) ∧ w'.cell? ⟨Y, 3, none⟩ = some (.slice B5 1 cb5) ∧ w'.cell? ⟨Y, 4, none⟩ = some (.slice C5 1 cc5)))
    (first | go_keep | exact HXY.out _ ((Below.refl _ W5).drew) | exact qq)
    (first
      | (go_at_call 16; refine (SameOne_ A5 B5 C5 Ae Be Ce ca5 cb5 cc5 cae cbe cce _ (HR5.out.below HBE.out) HRE.out).mono ?_; rintro e wf ⟨rfl, hbf⟩; have HBF := Lib.hid (Below_on HBE.out hbf HBE.out.size); have qq := HXY.out _ HBF.out)
      | (go_at_call 26; refine (one0_ _).mono ?_; rintro e we ⟨Ae, Be, Ce, cae, cbe, cce, rfl, hre, hbe⟩; have HBE := Lib.hid (Below_on HBD.out hbe HBD.out.size); have HRE := Lib.hid hre; have qq := HXY.out _ HBE.out)
      | (go_at_call 16; refine (SameOne_ A3 B3 C3 Ac Bc Cc ca3 cb3 cc3 cac cbc ccc _ (HR3'.out.below HBC.out) HRC.out).mono ?_; rintro e wd ⟨rfl, hbd⟩; have HBD := Lib.hid (Below_on HBC.out hbd HBC.out.size); have qq := HXY.out _ HBD.out)
      | (go_at_call 26; refine (one0_ _).mono ?_; rintro e wc ⟨Ac, Bc, Cc, cac, cbc, ccc, rfl, hrc, hbc⟩; have HBC := Lib.hid (Below_on HBB.out hbc HBB.out.size); have HRC := Lib.hid hrc; have qq := HXY.out _ HBC.out)
      | (go_at_call 12; refine (CheckOne_ Aa Ba Ca caa cba cca _ HRA.out).mono ?_; rintro e wb ⟨rfl, hbb⟩; have HBB := Lib.hid (Below_on HBA.out hbb HBA.out.size); have qq := HXY.out _ HBB.out)
      | (go_at_call 26; refine (one0_ _).mono ?_; rintro e wa ⟨Aa, Ba, Ca, caa, cba, cca, rfl, hra, hba⟩; have HBA := Lib.hid (Below_on ((Below.refl _ W5).drew) hba (Nat.le_refl _)); have HRA := Lib.hid hra; have qq := HXY.out _ HBA.out))
  all_goals
    have HP : Hid (Below w.heap.size w wf) := Below_on HW5.out HBF.out HW5.out.size
    go_wp2_with fail
    go_ret
    exact ⟨rfl, HP.out⟩
end Go.Proofs.YtoglgeaiiipchabDoor
