/- Walks: the law WordSame. -/
import Derived.Test.YtoglgeaiiipchabGreatDoorWBA
import Derived.Test.YtoglgeaiiipchabGreatDoorWAB
import Derived.Test.YtoglgeaiiipchabGreatDoorPLA
namespace Go.Proofs.YtoglgeaiiipchabGreatDoor
open Go Go.RowKit

theorem ckL_zero {l : La} {letters : Int} : ckL l letters = 0 ↔ (1 ≤ letters ∧ letters ≤ 8) ∧ (l.h.length ≤ 4000 ∧ l.l.length ≤ 4000) ∧ l.l.length ≠ 0 ∧ anyB (badL letters) l.h = false ∧ anyB (badL letters) l.l = false := by
  unfold ckL
  split
  · constructor
    · intro h; cases h
    · rintro ⟨h, _⟩; omega
  · split
    · constructor
      · intro h; cases h
      · rintro ⟨_, h, _⟩; omega
    · split
      · constructor
        · intro h; cases h
        · rintro ⟨_, _, h, _⟩; omega
      · split
        · rename_i h
          constructor
          · intro h; cases h
          · rintro ⟨_, _, _, h1, h2⟩; rw [h1, h2] at h; cases h
        · rename_i h
          simp only [Bool.or_eq_true, not_or, Bool.not_eq_true] at h
          exact ⟨fun _ => ⟨by omega, by omega, by omega, h.1, h.2⟩, fun _ => rfl⟩
theorem anyB_false {p : Int → Bool} : ∀ {xs : List Int}, anyB p xs = false ↔ ∀ x ∈ xs, p x = false := by
  intro xs
  unfold anyB
  simp
theorem ckL_least {l : La} {letters : Int} (h : ckL l letters = 0) : ckL (leastOf l) letters = 0 := by
  obtain ⟨h1, h2, h3, h4, h5⟩ := ckL_zero.1 h
  have hp : 0 < l.l.length := by omega
  obtain ⟨q1, q2, q3⟩ := least_le hp
  have hm : ∀ q ∈ (leastOf l).h ++ (leastOf l).l, badL letters q = false := fun q hq => by
    rcases List.mem_append.1 (least_mem hp hq) with h6 | h6
    · exact anyB_false.1 h4 q h6
    · exact anyB_false.1 h5 q h6
  exact ckL_zero.2 ⟨h1, by omega, by omega, anyB_false.2 fun x hx => hm x (List.mem_append_left _ hx), anyB_false.2 fun x hx => hm x (List.mem_append_right _ hx)⟩
set_option maxRecDepth 100000 in
set_option maxHeartbeats 4000000 in
theorem WordSame_ (a : Au) (A B C D E : Option Addr) (ca cb cc cd ce : Nat) (l : La) (i : Int) (w : World) (hr : AuRd w 0 a A B C ca cb cc) (hh : Ints w 0 D cd l.h) (hl : Ints w 0 E ce l.l) (hi : i ≤ 9223372036854775807) (hL : LaidOK w) :
    Calls Tryz.prog 3 #[.agg #[.int .i64 a.st, .int .i64 a.le, .slice A a.fs.length ca, .slice B a.gs.length cb, .slice C a.ss.length cc], .agg #[.slice D l.h.length cd, .slice E l.l.length ce], .int .i64 i] w (BoolPost w true) := by
  have HW := auW_is w a A B C ca cb cc
  have hb0 : Below w.heap.size w ((auW w a A B C ca cb cc).alloc (Obj.cells #[.slice D l.h.length cd, .slice E l.l.length ce] 28)) := HW.below.alloc (by rw [HW.size]; omega) _
  have hV0 : AuAt ((auW w a A B C ca cb cc).alloc (Obj.cells #[.slice D l.h.length cd, .slice E l.l.length ce] 28)) w.heap.size a A B C ca cb cc := HW.at.below ((Below.refl _ _).alloc (Nat.le_refl _) _) (by rw [HW.size]; omega)
  have hY0 : ((auW w a A B C ca cb cc).alloc (Obj.cells #[.slice D l.h.length cd, .slice E l.l.length ce] 28)).heap[w.heap.size + 1]? = some (Obj.cells #[.slice D l.h.length cd, .slice E l.l.length ce] 28) := by
    rw [← HW.size]
    exact laid_obj _ _
  have HLd := Lib.hid (fun W (h : Below w.heap.size w W) => hL.below h (Nat.le_refl _))
  have HR := Lib.hid (fun W (h : Below w.heap.size w W) => hr.below h)
  have HLE := Lib.hid (fun W (hW : Below w.heap.size w W) => Least_ D E cd ce l a.le W (hh.below hW) (hl.below hW))
  have HAT : Hid (∀ W, Below w.heap.size w W → Calls Tryz.prog 10 #[.agg #[.slice D l.h.length cd, .slice E l.l.length ce], .int .i64 a.le, .int .i64 i] W (IntsPost W (atL l a.le i) (atE l a.le i))) := fun W hW => At_ D E cd ce l a.le i W (hh.below hW) (hl.below hW) hi
  have HTA : Hid (∀ W, Below w.heap.size w W → Calls Tryz.prog 11 #[.agg #[.int .i64 a.st, .int .i64 a.le, .slice A a.fs.length ca, .slice B a.gs.length cb, .slice C a.ss.length cc], .agg #[.slice D l.h.length cd, .slice E l.l.length ce]] W (TkPost W a l)) := fun W hW => Takes_ a A B C D E ca cb cc cd ce l W (hr.below hW) (hh.below hW) (hl.below hW)
  have HTR : Hid (∀ W, Below w.heap.size w W → Calls Tryz.prog 12 #[.agg #[.int .i64 a.st, .int .i64 a.le, .slice A a.fs.length ca, .slice B a.gs.length cb, .slice C a.ss.length cc]] W (TrPost W (trimV a) (ckA a))) := fun W hW => Trim_ a A B C ca cb cc W (hr.below hW)
  have HHL := Lib.hid (fun W (hW : Below w.heap.size w W) => And.intro (hh.below hW) (hl.below hW))
  have HIL := Lib.hid hi
  clear HW hL hr hh hl hi
  unfold auW at hb0 hV0 hY0
  go_enter Tryz.func3, Tryz.ntmps3
  go_upto_region 1 with fail
  obtain ⟨V, hV⟩ : ∃ V, V = w.heap.size := ⟨_, rfl⟩
  rw [← hV] at hV0 hY0 ⊢
  have HVV := Lib.hid hV
  generalize (w.alloc (Obj.cells #[.int .i64 a.st, .int .i64 a.le, .slice A a.fs.length ca, .slice B a.gs.length cb, .slice C a.ss.length cc] 26)).alloc (Obj.cells #[.slice D l.h.length cd, .slice E l.l.length ce] 28) = W0 at *
  have HB0 := Lib.hid hb0
  have HST : Hid (∀ W, Below W0.heap.size W0 W → AuAt W V a A B C ca cb cc ∧ W.cell? ⟨V + 1, 0, none⟩ = some (.slice D l.h.length cd) ∧ W.cell? ⟨V + 1, 1, none⟩ = some (.slice E l.l.length ce)) := fun W h => by
    have h1 := (h.block (V + 1) (Array.getElem?_eq_some_iff.1 hY0).1).trans hY0
    exact ⟨hV0.below h hV0.lt, by simp [World.cell?, h1], by simp [World.cell?, h1]⟩
  have HWB := Lib.hid (fun W => wordBegun_ W)
  have HAB := Lib.hid (fun W (h : Below w.heap.size w W) => autoBegun_ W (HLd.out W h))
  clear hb0 hV0 hY0 hV
  go_wp2_with fail
  refine (HWB.out W0).mono ?_
  rintro e w1 ⟨rfl, hb1⟩
  have HB1 := Lib.hid hb1
  clear hb1 HWB
  go_wp2_with fail
  refine (HAB.out _ (Below_on HB0.out HB1.out HB0.out.size)).mono ?_
  rintro e w2 ⟨rfl, hb2⟩
  have HB2 := Lib.hid (Below_on HB1.out hb2 HB1.out.size)
  have HW2 := Lib.hid (Below_on HB0.out HB2.out HB0.out.size)
  obtain ⟨⟨_, c0, c1, c2, c3, c4⟩, y0, y1⟩ := HST.out _ HB2.out
  clear hb2 HAB HB1
  go_wp2_with fail
  refine (HLE.out _ HW2.out).mono ?_
  rintro e w3 ⟨A3, B3, ca3, cb3, rfl, hh3, hl3, hb3⟩
  have HW3 := Lib.hid (Below_on HW2.out hb3 HW2.out.size)
  have HB3 := Lib.hid (Below_on HB2.out hb3 HB2.out.size)
  have HH3 := Lib.hid hh3.zero
  have HL3 := Lib.hid hl3.zero
  clear hb3 hh3 hl3 c0 c1 c2 c3 c4 y0 y1 HW2 HB2
  by_cases hck : ckL l a.le = 0
  · have hp : 0 < l.l.length := by have := (ckL_zero.1 hck).2.2.1; omega
    have HXL : Hid (lstL (leastOf l) a.le = leastOf l) := by
      show _ = _
      unfold lstL
      rw [if_pos (ckL_least hck), least_least hp]
    have HXC : Hid (ckL (leastOf l) a.le = 0) := ckL_least hck
    have hxl := least_le hp
    have HXA : Hid (atL (leastOf l) a.le i = atL l a.le i ∧ atE (leastOf l) a.le i = atE l a.le i) := by
      refine ⟨?_, ?_⟩
      · unfold atL; rw [if_pos (ckL_least hck), if_pos hck, least_at hp]
      · unfold atE; rw [if_pos (ckL_least hck), if_pos hck]
    have HTE : Hid (taErr a l = ckA a ∧ taErr a (leastOf l) = ckA a) := by
      unfold taErr
      rw [hck, ckL_least hck]
      refine ⟨?_, ?_⟩ <;> split <;> simp_all
    have HTK : Hid (tkB a (leastOf l) = tkB a l) := by
      show _ = _
      unfold tkB
      rw [HTE.out.1, HTE.out.2, least_at hp]
    have HTT : Hid (ckA a = 0 → taErr (trimV a) l = 0 ∧ tkB (trimV a) l = tkB a l) := fun h => by
      have e1 : taErr (trimV a) l = 0 := by unfold taErr; rw [if_pos (trim_ck h), trim_le h]; exact hck
      refine ⟨e1, ?_⟩
      unfold tkB
      rw [e1, HTE.out.1, h]
      simp only [beq_self_eq_true, Bool.true_and]
      rw [Bool.eq_iff_iff, takesB_iff, takesB_iff]
      exact trim_takes h l.at
    have hll : lstL l a.le = leastOf l := if_pos hck
    rw [hll] at HH3 HL3 ⊢
    have e1 : (ckL l a.le != 0) = false := by simp [hck]
    rw [hck]
    obtain ⟨x, hx⟩ : ∃ x, x = leastOf l := ⟨_, rfl⟩
    rw [← hx] at HXL HXC hxl HXA HTE HTK HH3 HL3 ⊢
    have HLX : Hid (∀ W, Below w3.heap.size w3 W → Calls Tryz.prog 8 #[.agg #[.slice A3 x.h.length ca3, .slice B3 x.l.length cb3], .int .i64 a.le] W (LePost W x 0)) := fun W h => by
      have := Least_ A3 B3 ca3 cb3 x a.le W (HH3.out.below h) (HL3.out.below h)
      rwa [HXL.out, HXC.out] at this
    have HATX : Hid (∀ W, Below w3.heap.size w3 W → Calls Tryz.prog 10 #[.agg #[.slice A3 x.h.length ca3, .slice B3 x.l.length cb3], .int .i64 a.le, .int .i64 i] W (IntsPost W (atL l a.le i) (atE l a.le i))) := fun W h => by
      have := At_ A3 B3 ca3 cb3 x a.le i W (HH3.out.below h) (HL3.out.below h) HIL.out
      rwa [HXA.out.1, HXA.out.2] at this
    have HTAX : Hid (∀ W, Below w3.heap.size w3 W → Calls Tryz.prog 11 #[.agg #[.int .i64 a.st, .int .i64 a.le, .slice A a.fs.length ca, .slice B a.gs.length cb, .slice C a.ss.length cc], .agg #[.slice A3 x.h.length ca3, .slice B3 x.l.length cb3]] W fun e w' => e = .returned (.tuple #[.bool (tkB a l), .int .i64 (ckA a)]) ∧ Below W.heap.size W w') := fun W h => by
      have := Takes_ a A B C A3 B3 ca cb cc ca3 cb3 x W (HR.out _ (Below_on HW3.out h HW3.out.size)) (HH3.out.below h) (HL3.out.below h)
      unfold TkPost at this
      rwa [HTK.out, HTE.out.2] at this
    have HTAL : Hid (∀ W, Below w.heap.size w W → Calls Tryz.prog 11 #[.agg #[.int .i64 a.st, .int .i64 a.le, .slice A a.fs.length ca, .slice B a.gs.length cb, .slice C a.ss.length cc], .agg #[.slice D l.h.length cd, .slice E l.l.length ce]] W fun e w' => e = .returned (.tuple #[.bool (tkB a l), .int .i64 (ckA a)]) ∧ Below W.heap.size W w') := fun W h => by
      have := HTA.out W h
      unfold TkPost at this
      rwa [HTE.out.1] at this
    have HTAT : Hid (ckA a = 0 → ∀ W A9 B9 C9 ca9 cb9 cc9, Below w.heap.size w W → AuRd W 0 (trimV a) A9 B9 C9 ca9 cb9 cc9 → Calls Tryz.prog 11 #[.agg #[.int .i64 (trimV a).st, .int .i64 (trimV a).le, .slice A9 (trimV a).fs.length ca9, .slice B9 (trimV a).gs.length cb9, .slice C9 (trimV a).ss.length cc9], .agg #[.slice D l.h.length cd, .slice E l.l.length ce]] W fun e w' => e = .returned (.tuple #[.bool (tkB a l), .int .i64 0]) ∧ Below W.heap.size W w') := fun h W A9 B9 C9 ca9 cb9 cc9 hW hR => by
      have := Takes_ (trimV a) A9 B9 C9 D E ca9 cb9 cc9 cd ce l W hR (HHL.out W hW).1 (HHL.out W hW).2
      unfold TkPost at this
      rwa [(HTT.out h).1, (HTT.out h).2] at this
    have HSL : Hid (∀ W A9 B9 ca9 cb9, Below w3.heap.size w3 W → Ints W 0 A9 ca9 x.h → Ints W 0 B9 cb9 x.l → Calls Tryz.prog 9 #[.agg #[.slice A3 x.h.length ca3, .slice B3 x.l.length cb3], .agg #[.slice A9 x.h.length ca9, .slice B9 x.l.length cb9]] W (BoolPost W true)) := fun W A9 B9 ca9 cb9 h h1 h2 => by
      have := SameLasso_ A3 B3 A9 B9 ca3 cb3 ca9 cb9 x x W (HH3.out.below h) (HL3.out.below h) h1 h2
      rwa [show decide (x = x) = true by simp] at this
    have HXF : Hid (∀ W, Below (w3.heap.size + 1) (w3.alloc (Obj.cells #[.slice A3 x.h.length ca3, .slice B3 x.l.length cb3] 28)) W → W.cell? ⟨w3.heap.size, 0, none⟩ = some (.slice A3 x.h.length ca3) ∧ W.cell? ⟨w3.heap.size, 1, none⟩ = some (.slice B3 x.l.length cb3)) := fun W h => by
      have h1 := (h.block w3.heap.size (Nat.lt_succ_self _)).trans (laid_obj w3 _)
      exact ⟨by simp [World.cell?, h1], by simp [World.cell?, h1]⟩
    have hba : Below w3.heap.size w3 (w3.alloc (Obj.cells #[.slice A3 x.h.length ca3, .slice B3 x.l.length cb3] 28)) := (Below.refl _ _).alloc (Nat.le_refl _) _
    have hs4 : (w3.alloc (Obj.cells #[.slice A3 x.h.length ca3, .slice B3 x.l.length cb3] 28)).heap.size = w3.heap.size + 1 := by simp
    have HB4 := Lib.hid hba
    clear hx hck hp hll HXL HXC HXA HTE HTK HTT HTA HLE
    obtain ⟨_, x1⟩ := HXF.out _ (Below.refl _ _)
    go_upto_region 6 with fail
    obtain ⟨X, hX⟩ : ∃ X, X = w3.heap.size := ⟨_, rfl⟩
    rw [← hX] at HXF hs4 ⊢
    clear x1 hba
    generalize w3.alloc (Obj.cells #[.slice A3 x.h.length ca3, .slice B3 x.l.length cb3] 28) = w4 at *
    have HXX : Hid (∀ W, Below w4.heap.size w4 W → W.cell? ⟨X, 0, none⟩ = some (.slice A3 x.h.length ca3) ∧ W.cell? ⟨X, 1, none⟩ = some (.slice B3 x.l.length cb3)) := fun W h => HXF.out W (by rw [← hs4]; exact h)
    have HO3 : Hid (∀ W, Below w4.heap.size w4 W → Below w3.heap.size w3 W ∧ Below W0.heap.size W0 W ∧ Below w.heap.size w W) := fun W h => by
      have h1 := Below_on HB4.out h (by rw [hs4, hX]; omega)
      exact ⟨h1, Below_on HB3.out h1 HB3.out.size, Below_on HW3.out h1 HW3.out.size⟩
    clear HXF hs4 hX
    obtain ⟨x0, x1⟩ := HXX.out _ (Below.refl _ _)
    obtain ⟨k3, k0, kw⟩ := HO3.out w4 (Below.refl _ _)
    obtain ⟨⟨_, c0, c1, c2, c3, c4⟩, y0, y1⟩ := HST.out _ k0
    have HL4 := Lib.hid (HLX.out _ k3)
    clear k3 k0 kw
    go_wp2_with fail
    refine HL4.out.mono ?_
    rintro e w5 ⟨A5, B5, ca5, cb5, rfl, hh5, hl5, hb5⟩
    have hba : Below w5.heap.size w5 (w5.alloc (Obj.cells #[.slice A5 x.h.length ca5, .slice B5 x.l.length cb5] 28)) := (Below.refl _ _).alloc (Nat.le_refl _) _
    have HB6 := Lib.hid (Below_on hb5 hba hb5.size)
    obtain ⟨k3, k0, kw⟩ := HO3.out _ HB6.out
    have HS6 := Lib.hid (HSL.out _ A5 B5 ca5 cb5 k3 (hh5.zero.below hba) (hl5.zero.below hba))
    have hy6 := laid_obj w5 (Obj.cells #[.slice A5 x.h.length ca5, .slice B5 x.l.length cb5] 28)
    have z0 : (w5.alloc (Obj.cells #[.slice A5 x.h.length ca5, .slice B5 x.l.length cb5] 28)).cell? ⟨w5.heap.size, 0, none⟩ = some (.slice A5 x.h.length ca5) := by simp only [World.cell?, hy6]; rfl
    have z1 : (w5.alloc (Obj.cells #[.slice A5 x.h.length ca5, .slice B5 x.l.length cb5] 28)).cell? ⟨w5.heap.size, 1, none⟩ = some (.slice B5 x.l.length cb5) := by simp only [World.cell?, hy6]; rfl
    clear c0 c1 c2 c3 c4 y0 y1 x0 x1 hy6 hh5 hl5 hb5 HL4 hba
    go_upto_region 7 with fail
    obtain ⟨x0, x1⟩ := HXX.out _ HB6.out
    obtain ⟨⟨_, c0, c1, c2, c3, c4⟩, y0, y1⟩ := HST.out _ k0
    clear k3 k0 kw
    generalize w5.alloc (Obj.cells #[.slice A5 x.h.length ca5, .slice B5 x.l.length cb5] 28) = w6 at *
    have q1 : ¬ (l.l.length : Int) < (x.l.length : Int) := by omega
    have q2 : ¬ (l.h.length : Int) < (x.h.length : Int) := by omega
    go_wp2_with fail
    refine HS6.out.mono ?_
    rintro e w7 ⟨rfl, hb7⟩
    have HB7 := Lib.hid (Below_on HB6.out hb7 HB6.out.size)
    have z00 := (hb7.cell (p := ⟨w5.heap.size, 0, none⟩) (World.block_lt_of_cell? _ _ z0)).trans z0
    have z01 := (hb7.cell (p := ⟨w5.heap.size, 1, none⟩) (World.block_lt_of_cell? _ _ z1)).trans z1
    obtain ⟨k3, k0, kw⟩ := HO3.out _ HB7.out
    have HX7 := Lib.hid (HXX.out _ HB7.out)
    have HS7 := Lib.hid (HST.out _ k0)
    have HA7 := Lib.hid (HAT.out _ kw)
    clear c0 c1 c2 c3 c4 y0 y1 x0 x1 hb7 HS6 k3 k0 kw z0 z1 HB6 z00 z01 HLX HSL
    obtain ⟨x0, x1⟩ := HX7.out
    obtain ⟨⟨_, c0, c1, c2, c3, c4⟩, y0, y1⟩ := HS7.out
    generalize atL l a.le i = al at *
    generalize atE l a.le i = ae at *
    go_wp2_with fail
    refine HA7.out.mono ?_
    rintro e w8 ⟨rfl, hb8⟩
    have HB8 := Lib.hid (Below_on HB7.out hb8 HB7.out.size)
    have HALL : Hid (∀ W, Below w4.heap.size w4 W → (W.cell? ⟨X, 0, none⟩ = some (.slice A3 x.h.length ca3) ∧ W.cell? ⟨X, 1, none⟩ = some (.slice B3 x.l.length cb3)) ∧ (AuAt W V a A B C ca cb cc ∧ W.cell? ⟨V + 1, 0, none⟩ = some (.slice D l.h.length cd) ∧ W.cell? ⟨V + 1, 1, none⟩ = some (.slice E l.l.length ce)) ∧ Below w3.heap.size w3 W ∧ Below w.heap.size w W) := fun W h =>
      ⟨HXX.out W h, HST.out W (HO3.out W h).2.1, (HO3.out W h).1, (HO3.out W h).2.2⟩
    clear c0 c1 c2 c3 c4 y0 y1 x0 x1 hb8 HA7 HX7 HS7 HST HXX HO3
    obtain ⟨⟨x0, x1⟩, ⟨⟨_, c0, c1, c2, c3, c4⟩, y0, y1⟩, k3, kw⟩ := HALL.out _ HB8.out
    have HC8 := Lib.hid (HATX.out _ k3)
    clear k3 kw HATX
    go_wp2_with fail
    refine HC8.out.mono ?_
    rintro e w9 ⟨rfl, hb9⟩
    have HB9 := Lib.hid (Below_on HB8.out hb9 HB8.out.size)
    clear c0 c1 c2 c3 c4 y0 y1 x0 x1 hb9 HC8
    obtain ⟨⟨x0, x1⟩, ⟨⟨_, c0, c1, c2, c3, c4⟩, y0, y1⟩, k3, kw⟩ := HALL.out _ HB9.out
    have HC9 := Lib.hid (HTAL.out _ kw)
    clear k3 kw HTAL
    generalize tkB a l = tk at *
    go_wp2_with fail
    refine HC9.out.mono ?_
    rintro e w10 ⟨rfl, hb10⟩
    have HB10 := Lib.hid (Below_on HB9.out hb10 HB9.out.size)
    clear c0 c1 c2 c3 c4 y0 y1 x0 x1 hb10 HC9
    obtain ⟨⟨x0, x1⟩, ⟨⟨_, c0, c1, c2, c3, c4⟩, y0, y1⟩, k3, kw⟩ := HALL.out _ HB10.out
    have HC10 := Lib.hid (HTAX.out _ k3)
    clear k3 kw HTAX
    go_wp2_with fail
    refine HC10.out.mono ?_
    rintro e w11 ⟨rfl, hb11⟩
    have HB11 := Lib.hid (Below_on HB10.out hb11 HB10.out.size)
    clear c0 c1 c2 c3 c4 y0 y1 x0 x1 hb11 HC10
    obtain ⟨⟨x0, x1⟩, ⟨⟨_, c0, c1, c2, c3, c4⟩, y0, y1⟩, k3, kw⟩ := HALL.out _ HB11.out
    have HC11 := Lib.hid (HTR.out _ kw)
    clear k3 kw HTR
    go_wp2_with fail
    refine HC11.out.mono ?_
    rintro e w12 ⟨A9, B9, C9, ca9, cb9, cc9, rfl, hr12, hb12⟩
    have hba : Below w12.heap.size w12 (w12.alloc (Obj.cells #[.int .i64 (trimV a).st, .int .i64 (trimV a).le, .slice A9 (trimV a).fs.length ca9, .slice B9 (trimV a).gs.length cb9, .slice C9 (trimV a).ss.length cc9] 26)) := (Below.refl _ _).alloc (Nat.le_refl _) _
    have HB13 := Lib.hid (Below_on (Below_on HB11.out hb12 HB11.out.size) hba (Nat.le_trans HB11.out.size hb12.size))
    have HR13 := Lib.hid (hr12.below hba)
    have hT := auW_is w12 (trimV a) A9 B9 C9 ca9 cb9 cc9
    unfold auW at hT
    obtain ⟨_, t0, t1, t2, t3, t4⟩ := hT.at
    clear c0 c1 c2 c3 c4 y0 y1 x0 x1 hb12 HC11 hba hr12 hT
    obtain ⟨⟨x0, x1⟩, ⟨⟨_, c0, c1, c2, c3, c4⟩, y0, y1⟩, k3, kw⟩ := HALL.out _ HB13.out
    clear x0 x1 c0 c1 c2 c3 c4 k3
    have HW13 := Lib.hid kw
    by_cases hA : ckA a = 0
    · have HC13 := Lib.hid (HTAT.out hA _ A9 B9 C9 ca9 cb9 cc9 kw HR13.out)
      rw [hA]
      clear kw hA HTAT
      go_wp2_with fail
      refine HC13.out.mono ?_
      rintro e w14 ⟨rfl, hb14⟩
      have HP := Lib.hid (Below_on HW13.out hb14 HW13.out.size)
      clear hb14 HC13 t0 t1 t2 t3 t4 y0 y1
      go_wp2_with fail
      go_ret
      exact ⟨rfl, HP.out⟩
    · have f1 : (ckA a != 0) = true := by simp [hA]
      clear kw hA HTAT
      generalize ckA a = ck at *
      go_wp2_with fail
      go_ret
      exact ⟨rfl, HW13.out⟩
  · have e1 : (ckL l a.le != 0) = true := by simp [hck]
    have hll : lstL l a.le = ⟨[], []⟩ := if_neg hck
    rw [hll]
    have HP : Hid (Below w.heap.size w (w3.alloc (Obj.cells #[.slice A3 0 ca3, .slice B3 0 cb3] 28))) := HW3.out.alloc HW3.out.size _
    clear hck hll HH3 HL3
    generalize ckL l a.le = ck at *
    go_wp2_with fail
    go_ret
    exact ⟨rfl, HP.out⟩
end Go.Proofs.YtoglgeaiiipchabGreatDoor
