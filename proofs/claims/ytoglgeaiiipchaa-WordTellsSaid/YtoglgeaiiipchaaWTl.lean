/- Walks: the law WordTells. -/
import Derived.Test.YtoglgeaiiipchaaWWB2
import Derived.Test.YtoglgeaiiipchaaWCL
import Derived.Test.YtoglgeaiiipchaaWLO
namespace Go.Proofs.Ytoglgeaiiipchaa
open Go Go.RowKit Go.Shelf

theorem set_two {W : World} {Y : Nat} {t : TypeId} {u v : Value} (h : W.heap[Y]? = some (Obj.cells #[u, v] t)) (u' v' : Value) : ((W.setCell ⟨Y, 0, none⟩ u').setCell ⟨Y, 1, none⟩ v').heap[Y]? = some (Obj.cells #[u', v'] t) := by
  have st : ∀ {W : World} {a b : Value} (o : Nat) (x : Value), W.heap[Y]? = some (Obj.cells #[a, b] t) → (W.setCell ⟨Y, o, none⟩ x).heap[Y]? = some (Obj.cells (#[a, b].setIfInBounds o x) t) := by
    intro W a b o x h
    obtain ⟨hlt, hk⟩ := Array.getElem?_eq_some_iff.1 h
    show (W.heap.modify Y _)[Y]? = _
    rw [Array.getElem?_eq_getElem (by rw [Array.size_modify]; exact hlt), Array.getElem_modify_self, hk]
    rfl
  have h1 := st 0 u' h
  exact st 1 v' h1
set_option maxRecDepth 100000 in
set_option maxHeartbeats 2000000 in
theorem WordTells_ (D E : Option Addr) (cd ce : Nat) (l : La) (letters i : Int) (w : World) (hh : Ints w 0 D cd l.h) (hl : Ints w 0 E ce l.l) (hi : i ≤ 9223372036854775807) :
    Calls Try.prog 4 #[.agg #[.slice D l.h.length cd, .slice E l.l.length ce], .int .i64 letters, .int .i64 i] w (BoolPost w true) := by
  have HLE := Lib.hid (fun W (hW : Below w.heap.size w W) => Least_ D E cd ce l letters W (hh.below hW) (hl.below hW))
  have HAT : Hid (∀ W, Below w.heap.size w W → Calls Try.prog 16 #[.agg #[.slice D l.h.length cd, .slice E l.l.length ce], .int .i64 letters, .int .i64 i] W fun e w' => e = .returned (.tuple #[.int .i64 (atL l letters i), .int .i64 (atE l letters i)]) ∧ Below W.heap.size W w') := fun W hW => At_ D E cd ce l letters i W (hh.below hW) (hl.below hW) hi
  have HCL := Lib.hid (fun W (hW : Below w.heap.size w W) => CheckLasso_ D E cd ce l letters W (hh.below hW) (hl.below hW))
  have HWC := Lib.hid (fun W (hW : Below w.heap.size w W) => wordCheck_ D E cd ce l letters W (hh.below hW) (hl.below hW))
  have HLO := Lib.hid (fun W (hW : Below w.heap.size w W) h4 h5 hp => LeastOf_ D E cd ce l W (hh.below hW) (hl.below hW) h4 h5 hp)
  have HLT : Hid (∀ W, Below w.heap.size w W → l.l.length ≠ 0 → 0 ≤ i → Calls Try.prog 18 #[.agg #[.slice D l.h.length cd, .slice E l.l.length ce], .int .i64 i] W fun e w' => e = .returned (.int .i64 (l.at i.toNat)) ∧ Below W.heap.size W w') := fun W hW hne h0 => by
    have := LetterAtB_ D E cd ce l i.toNat W (hh.below hW) (hl.below hW) hne (by omega)
    rwa [Int.toNat_of_nonneg h0] at this
  have HWB := Lib.hid (fun W => wordBegun_ W)
  have HAL : Hid (atL l letters i = if ckL l letters = 0 then (if i < 0 then 0 else l.at i.toNat) else 0) := rfl
  have HAE : Hid (atE l letters i = if ckL l letters = 0 then (if i < 0 then 3 else 0) else ckL l letters) := rfl
  have HLL : Hid (lstL l letters = if ckL l letters = 0 then leastOf l else ⟨[], []⟩) := rfl
  have HFW : Hid (ckL l letters = 0 → l.l.length ≠ 0 ∧ l.h.length ≤ 4000 ∧ l.l.length ≤ 4000) := ckL_few
  clear hh hl
  generalize hal : atL l letters i = al at *
  generalize hae : atE l letters i = ae at *
  generalize hll : lstL l letters = ll at *
  generalize hck : ckL l letters = ck at *
  clear hal hae hll hck
  go_enter Try.func4, Try.ntmps4
  go_wp2_with fail
  have HBA : Hid (Below w.heap.size w (w.alloc (Obj.cells #[.slice D l.h.length cd, .slice E l.l.length ce] 26))) := (Below.refl _ _).alloc (Nat.le_refl _) _
  refine (HLE.out _ HBA.out).mono ?_
  rintro e w1 ⟨A1, B1, ca1, cb1, rfl, hh1, hl1, hb1⟩
  have HB1 : Hid (Below w.heap.size w w1) := Below_on HBA.out hb1 HBA.out.size
  have HC1 : Hid (w1.heap[w.heap.size]? = some (Obj.cells #[.slice D l.h.length cd, .slice E l.l.length ce] 26)) := (hb1.block w.heap.size (by simp)).trans (World.alloc_heap_new _ _)
  have HH1 := Lib.hid hh1.zero
  have HL1 := Lib.hid hl1.zero
  clear hb1 hh1 hl1
  obtain ⟨V, hV⟩ : ∃ V, V = w.heap.size := ⟨_, rfl⟩
  rw [← hV] at HC1 ⊢
  have HVV := Lib.hid hV
  clear hV
  have c0 : w1.cell? ⟨V, 0, none⟩ = some (.slice D l.h.length cd) := by simp [World.cell?, HC1.out]
  have c1 : w1.cell? ⟨V, 1, none⟩ = some (.slice E l.l.length ce) := by simp [World.cell?, HC1.out]
  have hV1 : V < w1.heap.size := (Array.getElem?_eq_some_iff.1 HC1.out).1
  -- behind the least lasso's variable
  have HX1 : Hid ((w1.alloc (Obj.cells #[.slice A1 ll.h.length ca1, .slice B1 ll.l.length cb1] 26)).heap[w1.heap.size]? = some (Obj.cells #[.slice A1 ll.h.length ca1, .slice B1 ll.l.length cb1] 26)) := World.alloc_heap_new _ _
  have hba : Below w1.heap.size w1 (w1.alloc (Obj.cells #[.slice A1 ll.h.length ca1, .slice B1 ll.l.length cb1] 26)) := (Below.refl _ _).alloc (Nat.le_refl _) _
  have HB2 : Hid (Below w.heap.size w (w1.alloc (Obj.cells #[.slice A1 ll.h.length ca1, .slice B1 ll.l.length cb1] 26))) := Below_on HB1.out hba HB1.out.size
  have HC2 : Hid ((w1.alloc (Obj.cells #[.slice A1 ll.h.length ca1, .slice B1 ll.l.length cb1] 26)).heap[V]? = some (Obj.cells #[.slice D l.h.length cd, .slice E l.l.length ce] 26)) := (hba.block V hV1).trans HC1.out
  have HH2 := Lib.hid (HH1.out.below hba)
  have HL2 := Lib.hid (HL1.out.below hba)
  clear hba HH1 HL1 HB1 HC1
  go_wp2_with fail
  refine (HAT.out _ HB2.out).mono ?_
  rintro e w3 ⟨rfl, hb3⟩
  obtain ⟨X, hX⟩ : ∃ X, X = w1.heap.size := ⟨_, rfl⟩
  rw [← hX] at HX1 ⊢
  rw [← hX] at hV1
  have hX2 : X < (w1.alloc (Obj.cells #[.slice A1 ll.h.length ca1, .slice B1 ll.l.length cb1] 26)).heap.size := by simp [hX]
  have HB3 : Hid (Below w.heap.size w w3) := Below_on HB2.out hb3 HB2.out.size
  have HX3 : Hid (w3.heap[X]? = some (Obj.cells #[.slice A1 ll.h.length ca1, .slice B1 ll.l.length cb1] 26)) := (hb3.block X hX2).trans HX1.out
  have HC3 : Hid (w3.heap[V]? = some (Obj.cells #[.slice D l.h.length cd, .slice E l.l.length ce] 26)) := (hb3.block V (by omega)).trans HC2.out
  have HH3 := Lib.hid (HH2.out.below hb3)
  have HL3 := Lib.hid (HL2.out.below hb3)
  have hX3 : X < w3.heap.size := (Array.getElem?_eq_some_iff.1 HX3.out).1
  clear hX hX2 hb3 HX1 HC2 HH2 HL2 HB2 c0 c1 HBA
  -- what stands in every later world
  have HST : Hid (∀ W, Below w3.heap.size w3 W → W.cell? ⟨V, 0, none⟩ = some (.slice D l.h.length cd) ∧ W.cell? ⟨V, 1, none⟩ = some (.slice E l.l.length ce) ∧ W.cell? ⟨X, 0, none⟩ = some (.slice A1 ll.h.length ca1) ∧ W.cell? ⟨X, 1, none⟩ = some (.slice B1 ll.l.length cb1)) := by
    intro W hW
    have h1 := (hW.block V (by omega)).trans HC3.out
    have h2 := (hW.block X hX3).trans HX3.out
    exact ⟨by simp [World.cell?, h1], by simp [World.cell?, h1], by simp [World.cell?, h2], by simp [World.cell?, h2]⟩
  obtain ⟨c0, c1, x0, x1⟩ := HST.out w3 (Below.refl _ _)
  go_wp2_with fail
  refine (HCL.out _ HB3.out).mono ?_
  rintro e w4 ⟨rfl, hb4⟩
  have HB4 := Lib.hid hb4
  have HW4 : Hid (Below w.heap.size w w4) := Below_on HB3.out hb4 HB3.out.size
  clear hb4 c0 c1 x0 x1
  -- the variable for the reference's least lasso
  have hba : Below w4.heap.size w4 (w4.alloc (Obj.cells #[.slice none 0 0, .slice none 0 0] 26)) := (Below.refl _ _).alloc (Nat.le_refl _) _
  have HB5 : Hid (Below w3.heap.size w3 (w4.alloc (Obj.cells #[.slice none 0 0, .slice none 0 0] 26))) := Below_on HB4.out hba HB4.out.size
  have HY5 : Hid ((w4.alloc (Obj.cells #[.slice none 0 0, .slice none 0 0] 26)).heap[w4.heap.size]? = some (Obj.cells #[.slice none 0 0, .slice none 0 0] 26)) := World.alloc_heap_new _ _
  have HW5 : Hid (Below w.heap.size w (w4.alloc (Obj.cells #[.slice none 0 0, .slice none 0 0] 26))) := Below_on HW4.out hba HW4.out.size
  obtain ⟨c0, c1, x0, x1⟩ := HST.out _ HB5.out
  clear hba
  by_cases hc : ck = 0
  · subst hc
    have hcc := HFW.out rfl
    have hll := HLL.out
    rw [if_pos rfl] at hll
    have HLO2 : Hid (∀ W, Below w.heap.size w W → Calls Try.prog 17 #[.agg #[.slice D l.h.length cd, .slice E l.l.length ce]] W (LaPost W ll)) := by
      rw [hll]
      exact fun W hW => HLO.out W hW hcc.2.1 hcc.2.2 (by omega)
    have HNE : Hid (l.l.length ≠ 0) := hcc.1
    have HAL2 : Hid (al = if i < 0 then 0 else l.at i.toNat) := by have := HAL.out; rwa [if_pos rfl] at this
    have HAE2 : Hid (ae = if i < 0 then 3 else 0) := by have := HAE.out; rwa [if_pos rfl] at this
    clear HAL HAE
    clear hcc hll HLL HLO
    go_upto_region 8 with fail
    obtain ⟨Y, hY⟩ : ∃ Y, Y = w4.heap.size := ⟨_, rfl⟩
    rw [← hY] at HY5 ⊢
    have hYw : w3.heap.size ≤ Y := by have := HB4.out.size; omega
    have hY5 : Y < (w4.alloc (Obj.cells #[.slice none 0 0, .slice none 0 0] 26)).heap.size := by simp [hY]
    clear hY HB4 HW4
    generalize w4.alloc (Obj.cells #[.slice none 0 0, .slice none 0 0] 26) = W5 at *
    go_wp2_with fail
    refine (HLO2.out _ HW5.out).mono ?_
    rintro e w6 ⟨A6, B6, ca6, cb6, rfl, hh6, hl6, hb6⟩
    have HB6 : Hid (Below w3.heap.size w3 w6) := Below_on HB5.out hb6 HB5.out.size
    have HY6 : Hid (w6.heap[Y]? = some (Obj.cells #[.slice none 0 0, .slice none 0 0] 26)) := (hb6.block Y hY5).trans HY5.out
    have HHY0 := Lib.hid hh6
    have HLY0 := Lib.hid hl6
    have hY6 : Y < w6.heap.size := (Array.getElem?_eq_some_iff.1 HY6.out).1
    have y0 : w6.cell? ⟨Y, 0, none⟩ = some (.slice none 0 0) := by simp [World.cell?, HY6.out]
    have y1 : w6.cell? ⟨Y, 1, none⟩ = some (.slice none 0 0) := by simp [World.cell?, HY6.out]
    have z0 : w6.frozen? ⟨Y, 0, none⟩ = false := by simp [World.frozen?, HY6.out]
    have z1 : w6.frozen? ⟨Y, 1, none⟩ = false := by simp [World.frozen?, HY6.out]
    have HB7 : Hid (Below w3.heap.size w3 ((w6.setCell ⟨Y, 0, none⟩ (.slice A6 ll.h.length ca6)).setCell ⟨Y, 1, none⟩ (.slice B6 ll.l.length cb6))) := (HB6.out.setCell (p := ⟨Y, 0, none⟩) hYw _).setCell (p := ⟨Y, 1, none⟩) hYw _
    have HY : Hid (((w6.setCell ⟨Y, 0, none⟩ (.slice A6 ll.h.length ca6)).setCell ⟨Y, 1, none⟩ (.slice B6 ll.l.length cb6)).heap[Y]? = some (Obj.cells #[.slice A6 ll.h.length ca6, .slice B6 ll.l.length cb6] 26)) := set_two HY6.out _ _
    have HHY : Hid (Ints ((w6.setCell ⟨Y, 0, none⟩ (.slice A6 ll.h.length ca6)).setCell ⟨Y, 1, none⟩ (.slice B6 ll.l.length cb6)) 0 A6 ca6 ll.h) := (HHY0.out.kept ((Kept.set _ _ _ _ (.inl hY5)).trans (Kept.set _ _ _ _ (.inl hY5)))).zero
    have HLY : Hid (Ints ((w6.setCell ⟨Y, 0, none⟩ (.slice A6 ll.h.length ca6)).setCell ⟨Y, 1, none⟩ (.slice B6 ll.l.length cb6)) 0 B6 cb6 ll.l) := (HLY0.out.kept ((Kept.set _ _ _ _ (.inl hY5)).trans (Kept.set _ _ _ _ (.inl hY5)))).zero
    clear hb6 hh6 hl6 c0 c1 x0 x1 hY5
    have hYl : Y < ((w6.setCell ⟨Y, 0, none⟩ (.slice A6 ll.h.length ca6)).setCell ⟨Y, 1, none⟩ (.slice B6 ll.l.length cb6)).heap.size := (Array.getElem?_eq_some_iff.1 HY.out).1
    go_upto_region 9 with fail
    clear y0 y1 z0 z1 HHY0 HLY0 HY6 HB6 hY6 HY5 HB5 HW5
    generalize (w6.setCell ⟨Y, 0, none⟩ (.slice A6 ll.h.length ca6)).setCell ⟨Y, 1, none⟩ (.slice B6 ll.l.length cb6) = W7 at *
    obtain ⟨c0, c1, x0, x1⟩ := HST.out _ HB7.out
    by_cases hi0 : i < 0
    · have hal := HAL2.out
      have hae := HAE2.out
      rw [if_pos hi0] at hal hae
      subst hal hae
      clear HAL2 HAE2 HLT
      go_wp2_with fail
      refine (HWB.out W7).mono ?_
      rintro e w8 ⟨rfl, hb8⟩
      have HB8 : Hid (Below w3.heap.size w3 w8) := Below_on HB7.out hb8 HB7.out.size
      have HY8 : Hid (w8.heap[Y]? = some (Obj.cells #[.slice A6 ll.h.length ca6, .slice B6 ll.l.length cb6] 26)) := (hb8.block Y hYl).trans HY.out
      have hY8 : Y < w8.heap.size := (Array.getElem?_eq_some_iff.1 HY8.out).1
      have HH8 := Lib.hid (HHY.out.below hb8)
      have HL8 := Lib.hid (HLY.out.below hb8)
      obtain ⟨c0, c1, x0, x1⟩ := HST.out _ HB8.out
      clear hb8
      go_wp2_with fail
      refine (HWC.out _ (Below_on HB3.out HB8.out HB3.out.size)).mono ?_
      rintro e w9 ⟨rfl, hb9⟩
      have HB9 : Hid (Below w3.heap.size w3 w9) := Below_on HB8.out hb9 HB8.out.size
      have HY9 : Hid (w9.heap[Y]? = some (Obj.cells #[.slice A6 ll.h.length ca6, .slice B6 ll.l.length cb6] 26)) := (hb9.block Y hY8).trans HY8.out
      have HH9 := Lib.hid (HH8.out.below hb9)
      have HL9 := Lib.hid (HL8.out.below hb9)
      clear hb9 c0 c1 x0 x1
      obtain ⟨c0, c1, x0, x1⟩ := HST.out _ HB9.out
      have y0 : w9.cell? ⟨Y, 0, none⟩ = some (.slice A6 ll.h.length ca6) := by simp [World.cell?, HY9.out]
      have y1 : w9.cell? ⟨Y, 1, none⟩ = some (.slice B6 ll.l.length cb6) := by simp [World.cell?, HY9.out]
      have HSM := Lib.hid (SameLasso_ A1 B1 A6 B6 ca1 cb1 ca6 cb6 ll ll w9 (HH3.out.below HB9.out) (HL3.out.below HB9.out) HH9.out HL9.out)
      go_wp2_with fail
      refine HSM.out.mono ?_
      rintro e w10 ⟨rfl, hb10⟩
      have HP : Hid (BoolPost w true (.returned (.bool true)) w10) := ⟨rfl, Below_on HB3.out (Below_on HB9.out hb10 HB9.out.size) HB3.out.size⟩
      clear hb10 c0 c1 x0 x1 y0 y1
      go_wp2_with fail
      go_ret
      exact HP.out
    · have hal := HAL2.out
      have hae := HAE2.out
      rw [if_neg hi0] at hal hae
      subst hae
      have HLT2 : Hid (∀ W, Below w.heap.size w W → Calls Try.prog 18 #[.agg #[.slice D l.h.length cd, .slice E l.l.length ce], .int .i64 i] W fun e w' => e = .returned (.int .i64 al) ∧ Below W.heap.size W w') := by
        rw [hal]
        exact fun W hW => HLT.out W hW HNE.out (by omega)
      clear HAL2 HAE2 HLT hal
      go_wp2_with fail
      refine (HLT2.out _ (Below_on HB3.out HB7.out HB3.out.size)).mono ?_
      rintro e W8 ⟨rfl, hbl⟩
      have HB78 : Hid (Below w3.heap.size w3 W8) := Below_on HB7.out hbl HB7.out.size
      have HY' : Hid (W8.heap[Y]? = some (Obj.cells #[.slice A6 ll.h.length ca6, .slice B6 ll.l.length cb6] 26)) := (hbl.block Y hYl).trans HY.out
      have HHY' := Lib.hid (HHY.out.below hbl)
      have HLY' := Lib.hid (HLY.out.below hbl)
      have hYl' : Y < W8.heap.size := (Array.getElem?_eq_some_iff.1 HY'.out).1
      clear hbl c0 c1 x0 x1 HY HHY HLY hYl HB7
      have HY := HY'
      have HHY := HHY'
      have HLY := HLY'
      have hYl := hYl'
      go_wp2_with fail
      refine (HWB.out W8).mono ?_
      rintro e w8 ⟨rfl, hb8⟩
      have HB8 : Hid (Below w3.heap.size w3 w8) := Below_on HB78.out hb8 HB78.out.size
      have HY8 : Hid (w8.heap[Y]? = some (Obj.cells #[.slice A6 ll.h.length ca6, .slice B6 ll.l.length cb6] 26)) := (hb8.block Y hYl).trans HY.out
      have hY8 : Y < w8.heap.size := (Array.getElem?_eq_some_iff.1 HY8.out).1
      have HH8 := Lib.hid (HHY.out.below hb8)
      have HL8 := Lib.hid (HLY.out.below hb8)
      obtain ⟨c0, c1, x0, x1⟩ := HST.out _ HB8.out
      clear hb8
      go_wp2_with fail
      refine (HWC.out _ (Below_on HB3.out HB8.out HB3.out.size)).mono ?_
      rintro e w9 ⟨rfl, hb9⟩
      have HB9 : Hid (Below w3.heap.size w3 w9) := Below_on HB8.out hb9 HB8.out.size
      have HY9 : Hid (w9.heap[Y]? = some (Obj.cells #[.slice A6 ll.h.length ca6, .slice B6 ll.l.length cb6] 26)) := (hb9.block Y hY8).trans HY8.out
      have HH9 := Lib.hid (HH8.out.below hb9)
      have HL9 := Lib.hid (HL8.out.below hb9)
      clear hb9 c0 c1 x0 x1
      obtain ⟨c0, c1, x0, x1⟩ := HST.out _ HB9.out
      have y0 : w9.cell? ⟨Y, 0, none⟩ = some (.slice A6 ll.h.length ca6) := by simp [World.cell?, HY9.out]
      have y1 : w9.cell? ⟨Y, 1, none⟩ = some (.slice B6 ll.l.length cb6) := by simp [World.cell?, HY9.out]
      have HSM := Lib.hid (SameLasso_ A1 B1 A6 B6 ca1 cb1 ca6 cb6 ll ll w9 (HH3.out.below HB9.out) (HL3.out.below HB9.out) HH9.out HL9.out)
      go_wp2_with fail
      refine HSM.out.mono ?_
      rintro e w10 ⟨rfl, hb10⟩
      have HP : Hid (BoolPost w true (.returned (.bool true)) w10) := ⟨rfl, Below_on HB3.out (Below_on HB9.out hb10 HB9.out.size) HB3.out.size⟩
      clear hb10 c0 c1 x0 x1 y0 y1
      go_wp2_with fail
      go_ret
      exact HP.out
  · have hll := HLL.out
    have hal := HAL.out
    have hae := HAE.out
    rw [if_neg hc] at hll hal hae
    subst hll hal hae
    have hck : (ae == 0) = false := by simpa using hc
    go_upto_region 9 with fail
    obtain ⟨Y, hY⟩ : ∃ Y, Y = w4.heap.size := ⟨_, rfl⟩
    rw [← hY] at HY5 ⊢
    have hY5 : Y < (w4.alloc (Obj.cells #[.slice none 0 0, .slice none 0 0] 26)).heap.size := by simp [hY]
    clear hY HB4 HW4 HLO HLT HAT HCL HLE HFW HLL HAL HAE
    generalize w4.alloc (Obj.cells #[.slice none 0 0, .slice none 0 0] 26) = W5 at *
    clear c0 c1 x0 x1
    go_wp2_with fail
    refine (HWB.out W5).mono ?_
    rintro e w8 ⟨rfl, hb8⟩
    have HB8 : Hid (Below w3.heap.size w3 w8) := Below_on HB5.out hb8 HB5.out.size
    have HY8 : Hid (w8.heap[Y]? = some (Obj.cells #[.slice none 0 0, .slice none 0 0] 26)) := (hb8.block Y hY5).trans HY5.out
    have hY8 : Y < w8.heap.size := (Array.getElem?_eq_some_iff.1 HY8.out).1
    obtain ⟨c0, c1, x0, x1⟩ := HST.out _ HB8.out
    clear hb8
    go_wp2_with fail
    refine (HWC.out _ (Below_on HB3.out HB8.out HB3.out.size)).mono ?_
    rintro e w9 ⟨rfl, hb9⟩
    have HB9 : Hid (Below w3.heap.size w3 w9) := Below_on HB8.out hb9 HB8.out.size
    have HY9 : Hid (w9.heap[Y]? = some (Obj.cells #[.slice none 0 0, .slice none 0 0] 26)) := (hb9.block Y hY8).trans HY8.out
    clear hb9 c0 c1 x0 x1
    obtain ⟨c0, c1, x0, x1⟩ := HST.out _ HB9.out
    have y0 : w9.cell? ⟨Y, 0, none⟩ = some (.slice none 0 0) := by simp [World.cell?, HY9.out]
    have y1 : w9.cell? ⟨Y, 1, none⟩ = some (.slice none 0 0) := by simp [World.cell?, HY9.out]
    have HSM := Lib.hid (SameLasso_ A1 B1 none none ca1 cb1 0 0 ⟨[], []⟩ ⟨[], []⟩ w9 (HH3.out.below HB9.out) (HL3.out.below HB9.out) (ints_nil _ _) (ints_nil _ _))
    go_wp2_with fail
    refine HSM.out.mono ?_
    rintro e w10 ⟨rfl, hb10⟩
    have HP : Hid (BoolPost w true (.returned (.bool true)) w10) := ⟨rfl, Below_on HB3.out (Below_on HB9.out hb10 HB9.out.size) HB3.out.size⟩
    clear hb10 c0 c1 x0 x1 y0 y1
    go_wp2_with fail
    go_ret
    exact HP.out
end Go.Proofs.Ytoglgeaiiipchaa
