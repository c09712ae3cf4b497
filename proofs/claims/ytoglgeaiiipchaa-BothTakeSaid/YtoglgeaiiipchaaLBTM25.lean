/- Walks: the reference's SameLasso. -/
import Derived.Test.YtoglgeaiiipchaaLBTM23
import Derived.Test.YtoglgeaiiipchaaLBTM21
import Derived.Test.YtoglgeaiiipchaaLBTM24
import Derived.Maps.RangeWalk
import Derived.Test.YtoglgeaiiipchaaLBTM2
import Derived.Test.YtoglgeaiiipchaaLBTM3
import Derived.Shelf.Abstract
set_option linter.unusedSimpArgs false
set_option linter.unusedVariables false
namespace Go.Proofs.Ytoglgeaiiipchaa
open Go Go.RowKit Go.Maps

theorem ranges_below {W W' : World} {b r n : Nat} {D : DataW Unit} {left : Lit → Bool} {cnt : Nat} (h : W.ranges Try.prog 85 (plainElem (H := Unit) Try.prog 3) b r n D left cnt) (hb : Below W.heap.size W W') : W'.ranges Try.prog 85 (plainElem (H := Unit) Try.prog 3) b r n D left cnt :=
  h.kept (row := none) ⟨hb.os, hb.tape, hb.output, hb.size, fun k hk _ => hb.block k hk⟩ (by simp) (by simp)
theorem wpList_next_spots (w : World) {ops : Array Oper} {rest : List Oper} {o : Oper} {a : Act} {Q : Exit → Act → World → Prop} (hg : o.guard = none) (it : Operand) (hop : o.op = Op.next it false) {M R n : Nat} {L : List (Int × Nat)} {left : Lit → Bool} {cnt : Nat}
    (hit : a.eval it = .pointer (some ⟨R, 0, none⟩)) (hL : ∀ y ∈ L, SpW y) (hsub : ∀ kl, left kl = true → Maps.has (setOf oneU (L.map spKey)) kl = true) (h : w.ranges Try.prog 85 (plainElem (H := Unit) Try.prog 3) M R n (setOf oneU (L.map spKey)) left cnt)
    (hDone : Hid (∀ kl, left kl = false) → wpList Try.prog ops Q rest (a.put o.dst (.tuple #[.bool false])) w)
    (hMore : ∀ (yq : Int) (yp : Nat) (c : Int) (w1 : World) (cnt1 : Nat), Hid ((yq, yp) ∈ L ∧ w1.ranges Try.prog 85 (plainElem (H := Unit) Try.prog 3) M R n (setOf oneU (L.map spKey)) (fun z => left z && !z.sameKey (spKey (yq, yp))) cnt1 ∧ cnt1 < cnt ∧ w.grownBy w1 (some R)) →
      (Instr.entry (.pointer (some ⟨R, 0, none⟩))).run Try.prog w1 = .ok (.tuple #[.agg #[.int .i64 yq, .int .i64 (yp : Int)], .int .i64 c]) w1 → wpList Try.prog ops Q rest (a.put o.dst (.tuple #[.bool true, .agg #[.int .i64 yq, .int .i64 (yp : Int)], .int .i64 c])) w1) :
    wpList Try.prog ops Q (o :: rest) a w :=
  wpList_next_ranges w hg it hop 85 spLaw (plainElem (H := Unit) Try.prog 3) (fun z : Int × Int => Value.agg #[.int .i64 z.1, .int .i64 z.2]) (Value.int .i64) (fun key kl h => by obtain ⟨z, h1, _⟩ := keyOf_spot_inv h; exact ⟨z, h1⟩) (fun v y h => by obtain ⟨c, h1, _⟩ := plainElem_int_inv Try.underlying3 h; exact ⟨c, h1⟩) M R n _ left cnt hit h
    (fun _ h => hDone h) (fun z c kl yy w1 cnt1 hkey hlk hyy hat hrg1 hlt hg1 hs1 hen => by
      obtain ⟨z', h1, h2, h3⟩ := keyOf_spot_inv hkey
      obtain rfl : z = z' := by simpa [Prod.ext_iff] using h1
      obtain ⟨y, hy, hk⟩ := has_key (hsub kl hlk)
      obtain rfl := spot_of_key h3 (hL y hy) (h2.symm.trans hk)
      subst hk
      exact hMore y.1 y.2 c w1 cnt1 ⟨hy, hrg1, hlt, hg1⟩ hen)
theorem fromIs_one (W : World) (lo : Nat) (y : Int × Nat) (h : lo ≤ W.heap.size) : FromIs (W.alloc (Obj.cells #[.int .i64 y.1, .int .i64 (y.2 : Int)] 85)) lo (.slice (some ⟨W.heap.size, 0, none⟩) 1 1) [y] :=
  ⟨rfl, .inr ⟨W.heap.size, 1, _, rfl, h, World.alloc_heap_new _ _, Nat.le_refl _, by decide, rfl, rfl⟩⟩
/-- a spot that again looks for -/
def Round (a : Au) (row : List Int) (back : Nat) (x : Int × Nat) : Prop := back ≤ x.2 ∧ a.good x.1 ∧ Plus (SpE a row back) x x
def Rounds (a : Au) (row : List Int) (back : Nat) (L : List (Int × Nat)) : Prop := ∃ x ∈ L, Round a row back x
structure AgAt (a : Au) (row : List Int) (back : Nat) (w : World) (M R : Nat) (L : List (Int × Nat)) (left : Lit → Bool) (cnt : Nat) (wr : World) : Prop where
  rg : wr.ranges Try.prog 85 (plainElem (H := Unit) Try.prog 3) M R L.length (setOf oneU (L.map spKey)) left cnt
  below : Below w.heap.size w wr
  sub : ∀ kl, left kl = true → Maps.has (setOf oneU (L.map spKey)) kl = true
  done : ∀ y ∈ L, left (spKey y) = false → ¬ Round a row back y
set_option maxRecDepth 100000 in
set_option maxHeartbeats 4000000 in
theorem again_ (a : Au) (A B C D : Option Addr) (ca cb cc cr K V back M : Nat) (row : List Int) (L : List (Int × Nat)) (w0 w : World) (hK : WkAt w0 K V a A B C ca cb cc row D cr back) (hb0 : Below w0.heap.size w0 w)
    (hM : MapAt w M L) (hL : ∀ y ∈ L, SpOk a row y) (ho : AuOK a) (hos : ssSorted a.ss) (hr : row.length ≤ 8000) (hb : back < row.length) :
    Calls Try.prog 51 #[.pointer (some ⟨K, 0, none⟩), .map (some M)] w (SoPost w (Rounds a row back L)) := by
  have HK := Lib.hid (hK.below hb0)
  have HM := Lib.hid hM
  have HL := Lib.hid hL
  have HO := Lib.hid ho
  have HOS := Lib.hid hos
  have HLW : Hid (∀ y ∈ L, SpW y) := fun y hy => (hL y hy).w ho hr
  have hKl := (hK.below hb0).lt
  have HALL := Lib.hid (fun (x : Int × Nat) (hx : SpOk a row x) (W : World) (fv : Value) (hW : Below w.heap.size w W) (hf : FromIs W w.heap.size fv [x]) => all_ a A B C D ca cb cc cr K V back row fv [x] w W HK.out hW hf (fun y hy => by rw [List.mem_singleton.1 hy]; exact hx) ho hos hr hb (by simp))
  clear hK hb0 hM hL hos
  go_enter Try.func51, Try.ntmps51
  go_wp2_with (first
    | (at_range; refine wpList_range_own _ rfl _ 86 rfl 85 3 spLaw Try.underlying86 _ M L.length (setOf oneU (L.map spKey)) rfl HM.out ?_; intro wi hrg0 hg0 hs0)
    | go_in)
  go_frame
  obtain ⟨R, hR⟩ : ∃ R, R = w.heap.size := ⟨_, rfl⟩
  have HAG0 : Hid (AgAt a row back w M R L (Maps.has (setOf oneU (L.map spKey))) (Maps.size (setOf oneU (L.map spKey))) wi) := by
    refine ⟨by rw [hR]; exact hrg0, ⟨hg0.os, hg0.tape, hg0.output, hg0.size, fun k hk => hg0.block k hk (by simp)⟩, fun kl h => h, fun y hy h => ?_⟩
    rw [(MapAt.has HLW.out (HLW.out y hy)).2 hy] at h
    cases h
  rw [← hR]
  have hRw : w.heap.size ≤ R := by omega
  clear hrg0 hg0 hs0 hR
  go_loopw [5, 8, 9] (fun _ _ _ wr => ∃ (left : Lit → Bool) (cnt : Nat), Hid (AgAt a row back w M R L left cnt wr)) (fun _ _ _ wr => wr.rangeLeft M R)
  case atStart => exact ⟨_, _, HAG0.out⟩
  case round =>
    obtain ⟨left, cnt, HAG⟩ := hrel
    have hrg := HAG.out.rg
    go_wp2_with (first
      | (at_next; refine wpList_next_spots _ rfl _ rfl (M := M) (R := R) (L := L) (left := left) (cnt := cnt) rfl HLW.out HAG.out.sub hrg ?_ ?_)
      | go_in)
    · intro HDN
      have HP : Hid (SoPost w (Rounds a row back L) (.returned (.bool false)) wr) :=
        ⟨false, rfl, ⟨fun h => (by cases h), fun ⟨x, hx, hrr⟩ => absurd hrr (HAG.out.done x hx (HDN.out _))⟩, HAG.out.below⟩
      go_wp2
      go_ret
      exact HP.out
    · intro yq yp c w1 cnt1 HY hen
      have hw1 : Below w.heap.size w w1 := HAG.out.below.grown HY.out.2.2.2 HAG.out.below.size (fun k hk => by cases hk; exact hRw)
      have HAW : Hid (Below w1.heap.size w1 (w1.alloc (Obj.cells #[.int .i64 yq, .int .i64 (yp : Int)] 85))) := (Below.refl _ _).alloc (Nat.le_refl _) _
      have HBW : Hid (Below w.heap.size w (w1.alloc (Obj.cells #[.int .i64 yq, .int .i64 (yp : Int)] 85))) := Below_on hw1 HAW.out hw1.size
      have HYO : Hid (SpOk a row (yq, yp)) := HL.out _ HY.out.1
      have HXB : Hid ((w1.alloc (Obj.cells #[.int .i64 yq, .int .i64 (yp : Int)] 85)).heap[w1.heap.size]? = some (Obj.cells #[.int .i64 yq, .int .i64 (yp : Int)] 85)) := World.alloc_heap_new _ _
      have HNX : Hid (∀ W, Below (w1.alloc (Obj.cells #[.int .i64 yq, .int .i64 (yp : Int)] 85)).heap.size (w1.alloc (Obj.cells #[.int .i64 yq, .int .i64 (yp : Int)] 85)) W → ¬ Round a row back (yq, yp) → AgAt a row back w M R L (fun z => left z && !z.sameKey (spKey (yq, yp))) cnt1 W) := by
        intro W hW hno
        refine ⟨ranges_below (HY.out.2.1.alloc _) hW, Below_on HBW.out hW HBW.out.size, fun kl h => HAG.out.sub kl (by simp at h; exact h.1), fun y hy h => ?_⟩
        by_cases hl : left (spKey y) = false
        · exact HAG.out.done y hy hl
        · have hk : (spKey y).sameKey (spKey (yq, yp)) = true := by simpa [hl] using h
          rw [spKey_inj (HLW.out y hy) (HLW.out _ HY.out.1) (WideAt.sameKey_eq hk)]
          exact hno
      have HME : Hid (∀ W, Below (w1.alloc (Obj.cells #[.int .i64 yq, .int .i64 (yp : Int)] 85)).heap.size (w1.alloc (Obj.cells #[.int .i64 yq, .int .i64 (yp : Int)] 85)) W → W.rangeLeft M R < wr.rangeLeft M R) := fun W hW => by
        rw [(ranges_below (HY.out.2.1.alloc _) hW).left_eq, HAG.out.rg.left_eq]
        exact HY.out.2.2.1
      clear hw1 hrg
      go_wp2
      obtain ⟨Xb, hXb⟩ : ∃ X, X = w1.heap.size := ⟨_, rfl⟩
      rw [← hXb] at HXB ⊢
      clear HAW hXb hen
      generalize w1.alloc (Obj.cells #[.int .i64 yq, .int .i64 (yp : Int)] 85) = W2 at *
      obtain ⟨Q, rfl⟩ := Int.eq_ofNat_of_zero_le HYO.out.1
      have HQ : Hid (Q < a.gs.length) := by
        have h1 := HYO.out.2.1
        have h2 := HO.out.gl
        simp only at h1
        show Q < _
        omega
      obtain ⟨hKK, k3, k5, k6, k7, _, hrd, _⟩ := HK.out.below HBW.out
      have y0 : W2.cell? ⟨Xb, 0, none⟩ = some (.int .i64 (Q : Int)) := by simp [World.cell?, HXB.out]
      have y1 : W2.cell? ⟨Xb, 1, none⟩ = some (.int .i64 (yp : Int)) := by simp [World.cell?, HXB.out]
      have hXl : Xb < W2.heap.size := (Array.getElem?_eq_some_iff.1 HXB.out).1
      obtain ⟨bB, oB, hBB, _, hbl, g1⟩ := Bools.at_ hrd.gs HQ.out
      subst hBB
      have hQl : Q < a.gs.length := HQ.out
      have hcb : a.gs.length ≤ cb := hrd.gs.le
      obtain ⟨gv, hgv⟩ : ∃ g, g = a.gs[Q]'hQl := ⟨_, rfl⟩
      rw [← hgv] at g1
      have HGV : Hid (a.good (Q : Int) ↔ gv = true) := by
        show _ ↔ _
        unfold Au.good
        rw [Int.toNat_natCast, List.getD_eq_getElem?_getD, List.getElem?_eq_getElem hQl, hgv]
        exact ⟨fun h => h.2, fun h => ⟨by omega, h⟩⟩
      clear hgv hrd
      by_cases hyb : yp < back
      · have hyb2 : ((yp : Int) < (back : Int)) = True := by simp; exact hyb
        have hd : decide ((yp : Int) < (back : Int)) = true := by simp; exact hyb
        have HNR : Hid (¬ Round a row back ((Q : Int), yp)) := fun h => by have := h.1; simp only at this; omega
        go_quiet (fail)
        have HN2 := Lib.hid (HNX.out _ (below_drewN (Below.refl _ _) nq) HNR.out)
        have HM2 := Lib.hid (HME.out _ (below_drewN (Below.refl _ _) nq))
        clear k3 k5 k6 k7 y0 y1 g1 hKK hXl hbl HNX HME HXB HBW
        generalize W2.drewN nq = W3 at *
        go_wp2_with fail
        go_roundw
        case rel => exact ⟨_, cnt1, HN2.out⟩
        case measure => exact HM2.out
      · have hd : decide ((yp : Int) < (back : Int)) = false := by simp; omega
        cases gv with
        | false =>
          have HNR : Hid (¬ Round a row back ((Q : Int), yp)) := fun h => by have := HGV.out.1 h.2.1; cases this
          go_quiet (fail)
          have HN2 := Lib.hid (HNX.out _ (below_drewN (Below.refl _ _) nq) HNR.out)
          have HM2 := Lib.hid (HME.out _ (below_drewN (Below.refl _ _) nq))
          clear k3 k5 k6 k7 y0 y1 g1 hKK hXl hbl HNX HME HXB HBW
          generalize W2.drewN nq = W3 at *
          go_wp2_with fail
          go_roundw
          case rel => exact ⟨_, cnt1, HN2.out⟩
          case measure => exact HM2.out
        | true =>
          have HRD : Hid (Plus (SpE a row back) ((Q : Int), yp) ((Q : Int), yp) ↔ Round a row back ((Q : Int), yp)) := ⟨fun h => ⟨by show back ≤ yp; omega, HGV.out.2 rfl, h⟩, fun h => h.2.2⟩
          have HYL := Lib.hid HY.out.1
          go_quiet (fail)
          have HW3 : Hid (Below W2.heap.size W2 (W2.drewN nq)) := below_drewN (Below.refl _ _) nq
          have HBW3 : Hid (Below w.heap.size w (W2.drewN nq)) := below_drewN HBW.out nq
          have HXB3 : Hid ((W2.drewN nq).heap[Xb]? = some (Obj.cells #[.int .i64 (Q : Int), .int .i64 (yp : Int)] 85)) := HXB.out
          clear k3 k5 k6 k7 y0 y1 g1 hKK hXl hbl HXB HBW
          generalize W2.drewN nq = W3 at *
          have y0 : W3.cell? ⟨Xb, 0, none⟩ = some (.int .i64 (Q : Int)) := by simp [World.cell?, HXB3.out]
          have y1 : W3.cell? ⟨Xb, 1, none⟩ = some (.int .i64 (yp : Int)) := by simp [World.cell?, HXB3.out]
          have hXl : Xb < W3.heap.size := (Array.getElem?_eq_some_iff.1 HXB3.out).1
          have hw3 : w.heap.size ≤ W3.heap.size := HBW3.out.size
          have HCALL : Hid (∀ Wd, Below W3.heap.size W3 Wd → Wd.heap.size = W3.heap.size → Calls Try.prog 50 #[.pointer (some ⟨K, 0, none⟩), .slice (some ⟨W3.heap.size, 0, none⟩) 1 1] (Wd.alloc (Obj.cells #[.int .i64 (Q : Int), .int .i64 (yp : Int)] 85)) fun e w4 => ∃ (M2 : Nat) (c : Int), e = .returned (.map (some M2)) ∧ Below W3.heap.size W3 w4 ∧ (Instr.lookup 86 (.map (some M2)) (.agg #[.int .i64 (Q : Int), .int .i64 (yp : Int)]) false).run Try.prog w4 = .ok (.int .i64 c) w4 ∧ Hid ((c = 1 ∨ c = 0) ∧ (c = 1 ↔ Plus (SpE a row back) ((Q : Int), yp) ((Q : Int), yp)))) := by
            intro Wd hd1 hd2
            have hwd : Below w.heap.size w (Wd.alloc (Obj.cells #[.int .i64 (Q : Int), .int .i64 (yp : Int)] 85)) := (Below_on HBW3.out hd1 hw3).alloc (by omega) _
            have hf := fromIs_one Wd w.heap.size ((Q : Int), yp) (by omega)
            rw [hd2] at hf
            refine (HALL.out ((Q : Int), yp) HYO.out _ _ hwd hf).mono ?_
            rintro e w4 ⟨M2, L2, rfl, _, hm2, hok2, _, hiff, hg2, _⟩
            obtain ⟨c, hrun, hat, _⟩ := World.ownsMap.lookup_int hm2 spLaw Try.underlying86 Try.underlying3 (zeroInt _) (spKeyOf (HLW.out _ HYL.out))
            rw [MapAt.at_ (fun y hy => (hok2 y hy).w HO.out hr) (HLW.out _ HYL.out)] at hat
            have hc : (if ((Q : Int), yp) ∈ L2 then (1 : Int) else 0) = c := by injection hat with e; injection e with _ e
            refine ⟨M2, c, rfl, ?_, hrun, ?_⟩
            · refine Below.grown (hd1.alloc (by omega) _) hg2 (by simp; omega) (fun k hk => ?_)
              simp [Value.ownBlock] at hk
              omega
            · by_cases hin : ((Q : Int), yp) ∈ L2
              · rw [if_pos hin] at hc
                obtain ⟨x, hx, hp⟩ := (hiff _).1 hin
                rw [List.mem_singleton.1 hx] at hp
                exact ⟨.inl hc.symm, fun _ => hp, fun _ => hc.symm⟩
              · rw [if_neg hin] at hc
                exact ⟨.inr hc.symm, fun h => by omega, fun hp => absurd ((hiff _).2 ⟨_, List.mem_singleton.2 rfl, hp⟩) hin⟩
          go_wp2_with fail
          go_region_held3 (fun w' => w'.cell? ⟨Xb, 0, none⟩ = some (.int .i64 (Q : Int)) ∧ w'.cell? ⟨Xb, 1, none⟩ = some (.int .i64 (yp : Int)))
            (first | go_keep | exact ⟨z0, z1⟩)
            ((go_at_call 50; refine (HCALL.out _ (Below.refl _ _).drew rfl).mono ?_; rintro e w4 ⟨M2, c4, rfl, hb4, hrun4, HC4⟩; have z0 := (hb4.cell (p := ⟨Xb, 0, none⟩) hXl).trans y0; have z1 := (hb4.cell (p := ⟨Xb, 1, none⟩) hXl).trans y1))
          all_goals
            have HB5 : Hid (Below W2.heap.size W2 w4) := Below_on HW3.out hb4 HW3.out.size
            have HBW5 : Hid (Below w.heap.size w w4) := Below_on HBW3.out hb4 hw3
            clear hb4 hrun4 y0 y1 z0 z1 hXl HXB3 HCALL
            by_cases hc1 : c4 = 1
            · have HP : Hid (SoPost w (Rounds a row back L) (.returned (.bool true)) w4) :=
                ⟨true, rfl, ⟨fun _ => ⟨_, HYL.out, HRD.out.1 (HC4.out.2.1 hc1)⟩, fun _ => rfl⟩, HBW5.out⟩
              subst hc1
              go_wp2_with fail
              go_ret
              exact HP.out
            · have hc0 : c4 = 0 := HC4.out.1.resolve_left hc1
              have HN2 := Lib.hid (HNX.out _ HB5.out (fun h => hc1 (HC4.out.2.2 (HRD.out.2 h))))
              have HM2 := Lib.hid (HME.out _ HB5.out)
              subst hc0
              clear hc1
              go_wp2_with fail
              go_roundw
              case rel => exact ⟨_, cnt1, HN2.out⟩
              case measure => exact HM2.out
end Go.Proofs.Ytoglgeaiiipchaa

namespace Go.Proofs.Ytoglgeaiiipchaa

/-- is a loop itself, so much further on? -/
def turnsV (xs : List Int) (n : Nat) : Bool := (List.range xs.length).all fun i => xs.getD ((i + n) % xs.length) 0 == xs.getD i 0
theorem turnsV_iff {xs : List Int} {n : Nat} : turnsV xs n = true ↔ ∀ i, i < xs.length → xs.getD ((i + n) % xs.length) 0 = xs.getD i 0 := by
  unfold turnsV
  rw [List.all_eq_true]
  constructor
  · intro h i hi
    simpa using h i (List.mem_range.2 hi)
  · intro h i hi
    simpa using h i (List.mem_range.1 hi)
theorem turnsV_all {xs : List Int} {n : Nat} (h : turnsV xs n = true) (hp : 0 < xs.length) (i : Nat) : xs.getD ((i + n) % xs.length) 0 = xs.getD (i % xs.length) 0 := by
  have := turnsV_iff.1 h (i % xs.length) (Nat.mod_lt _ hp)
  rw [Nat.mod_add_mod] at this
  exact this
theorem turnsV_len (xs : List Int) : turnsV xs xs.length = true := turnsV_iff.2 fun i hi => by
  rw [Nat.add_mod_right, Nat.mod_eq_of_lt hi]
theorem turnsV_mul {xs : List Int} {n : Nat} (h : turnsV xs n = true) (hp : 0 < xs.length) (k i : Nat) : xs.getD ((i + n * k) % xs.length) 0 = xs.getD (i % xs.length) 0 := by
  induction k with
  | zero => rfl
  | succ k ih => rw [Nat.mul_succ, ← Nat.add_assoc, turnsV_all h hp, ih]
/-- the least turn divides the loop -/
theorem turnsV_dvd {xs : List Int} {n : Nat} (h : turnsV xs n = true) (hp : 0 < xs.length) (hn : 0 < n) (hmin : ∀ m, 0 < m → m < n → turnsV xs m = false) : xs.length % n = 0 := by
  rcases Nat.eq_zero_or_pos (xs.length % n) with h0 | h0
  · exact h0
  · exfalso
    have hlt := Nat.mod_lt xs.length hn
    have hf := hmin _ h0 hlt
    have ht : turnsV xs (xs.length % n) = true := turnsV_iff.2 fun i hi => by
      have h1 := turnsV_mul h hp (xs.length / n) (i + xs.length % n)
      rw [Nat.add_assoc, Nat.mod_add_div, Nat.add_mod_right, Nat.mod_eq_of_lt hi] at h1
      exact h1.symm
    rw [ht] at hf
    cases hf
/-- the first n from k on, of at most L, that turns -/
def firstTurn (P : Nat → Bool) (L : Nat) : Nat → Nat → Nat
  | 0, _ => L
  | m + 1, k => if L ≤ k then L else if P k then k else firstTurn P L m (k + 1)
theorem firstTurn_congr {P Q : Nat → Bool} {L : Nat} : ∀ (m k : Nat), 0 < k → (∀ j, 0 < j → j < k → P j = false) → (∀ j, j < L → 0 < j → (∀ i, 0 < i → i < j → P i = false) → Q j = P j) → firstTurn Q L m k = firstTurn P L m k
  | 0, k, _, _, _ => rfl
  | m + 1, k, hk, hmin, he => by
    unfold firstTurn
    by_cases h : L ≤ k
    · rw [if_pos h, if_pos h]
    · rw [if_neg h, if_neg h, he k (by omega) hk hmin]
      cases hp : P k with
      | true => rfl
      | false =>
        simp only [Bool.false_eq_true, if_false]
        exact firstTurn_congr m (k + 1) (by omega) (fun j h1 h2 => by
          rcases Nat.lt_or_ge j k with h3 | h3
          · exact hmin j h1 h3
          · have : j = k := by omega
            rw [this]; exact hp) he
/-- the length of the least loop -/
def leastN (l : La) : Nat := firstTurn (turnsV l.l) l.l.length l.l.length 1
theorem leastN_prog (l : La) (hp : 0 < l.l.length) : firstTurn (fun n => decide (l.l.length % n = 0) && turnsV l.l n) l.l.length l.l.length 1 = leastN l := by
  unfold leastN
  refine firstTurn_congr _ 1 (by decide) (fun j h1 h2 => absurd h2 (by omega)) fun j hj h0 hmin => ?_
  cases ht : turnsV l.l j with
  | false => simp
  | true => simp [turnsV_dvd ht hp h0 hmin]
/-- how much of the head stays -/
def downK (f : Nat → Int) (n : Nat) : Nat → Nat
  | 0 => 0
  | k + 1 => if f k = f (k + n) then downK f n k else k + 1
theorem downK_le (f : Nat → Int) (n : Nat) : ∀ k, downK f n k ≤ k
  | 0 => Nat.le_refl _
  | k + 1 => by
    unfold downK
    split
    · have := downK_le f n k; omega
    · omega
def leastOf (l : La) : La := ⟨(List.range (downK l.at (leastN l) l.h.length)).map l.at, (List.range (leastN l)).map fun i => l.at (downK l.at (leastN l) l.h.length + i)⟩
end Go.Proofs.Ytoglgeaiiipchaa

namespace Go.Proofs.Ytoglgeaiiipchaa

theorem firstTurn_spec {P : Nat → Bool} {L : Nat} (hL : P L = true) : ∀ (m k : Nat), 0 < k → k ≤ L → L ≤ m + k → (∀ j, 0 < j → j < k → P j = false) →
    0 < firstTurn P L m k ∧ firstTurn P L m k ≤ L ∧ P (firstTurn P L m k) = true ∧ ∀ j, 0 < j → j < firstTurn P L m k → P j = false
  | 0, k, hk, h1, h2, hmin => by
    have : k = L := by omega
    subst this
    exact ⟨hk, Nat.le_refl _, hL, hmin⟩
  | m + 1, k, hk, h1, h2, hmin => by
    unfold firstTurn
    split
    · have : k = L := by omega
      subst this
      exact ⟨hk, Nat.le_refl _, hL, hmin⟩
    · split
      · rename_i hp
        exact ⟨hk, h1, hp, hmin⟩
      · rename_i hp
        exact firstTurn_spec hL m (k + 1) (by omega) (by omega) (by omega) fun j h3 h4 => by
          rcases Nat.lt_or_ge j k with h5 | h5
          · exact hmin j h3 h5
          · have : j = k := by omega
            subst this
            simpa using hp
theorem leastN_spec {l : La} (hp : 0 < l.l.length) : 0 < leastN l ∧ leastN l ≤ l.l.length ∧ turnsV l.l (leastN l) = true ∧ ∀ j, 0 < j → j < leastN l → turnsV l.l j = false :=
  firstTurn_spec (turnsV_len l.l) _ 1 (by decide) (by omega) (by omega) fun j h1 h2 => absurd h2 (by omega)
theorem downK_on {f : Nat → Int} {n : Nat} : ∀ {k i : Nat}, downK f n k ≤ i → i < k → f i = f (i + n)
  | 0, i, _, h => absurd h (by omega)
  | k + 1, i, h1, h2 => by
    unfold downK at h1
    split at h1
    · rename_i he
      rcases Nat.lt_or_ge i k with h3 | h3
      · exact downK_on h1 h3
      · have : i = k := by omega
        subst this
        exact he
    · omega
theorem downK_idem {f : Nat → Int} {n : Nat} : ∀ k, downK f n (downK f n k) = downK f n k
  | 0 => rfl
  | k + 1 => by
    by_cases he : f k = f (k + n)
    · have : downK f n (k + 1) = downK f n k := by rw [downK, if_pos he]
      rw [this]
      exact downK_idem k
    · have : downK f n (k + 1) = k + 1 := by rw [downK, if_neg he]
      rw [this, this]
theorem La.at_loopM {l : La} {i : Nat} (h : l.h.length ≤ i) : l.at i = l.l.getD ((i - l.h.length) % l.l.length) 0 := by
  unfold La.at
  rw [if_neg (by omega)]
/-- from a place of the head's end on, the word goes round by so much just if the loop does -/
theorem turns_at {l : La} (hp : 0 < l.l.length) {n : Nat} : turnsV l.l n = true ↔ ∀ i, l.h.length ≤ i → l.at (i + n) = l.at i := by
  constructor
  · intro h i hi
    rw [La.at_loopM hi, La.at_loopM (by omega), show i + n - l.h.length = i - l.h.length + n by omega]
    exact turnsV_all h hp _
  · intro h
    refine turnsV_iff.2 fun i hi => ?_
    have := h (l.h.length + i) (by omega)
    rw [La.at_loopM (by omega), La.at_loopM (by omega), show l.h.length + i + n - l.h.length = i + n by omega, show l.h.length + i - l.h.length = i by omega, Nat.mod_eq_of_lt hi] at this
    exact this
def leastK (l : La) : Nat := downK l.at (leastN l) l.h.length
theorem least_round {l : La} (hp : 0 < l.l.length) {i : Nat} (h : leastK l ≤ i) : l.at (i + leastN l) = l.at i := by
  rcases Nat.lt_or_ge i l.h.length with h1 | h1
  · exact (downK_on h h1).symm
  · exact (turns_at hp).1 (leastN_spec hp).2.2.1 i h1
theorem least_rounds {l : La} (hp : 0 < l.l.length) {i : Nat} (h : leastK l ≤ i) : ∀ m, l.at (i + leastN l * m) = l.at i
  | 0 => rfl
  | m + 1 => by rw [Nat.mul_succ, ← Nat.add_assoc, least_round hp (by omega), least_rounds hp h m]
theorem leastOf_eq (l : La) : leastOf l = ⟨(List.range (leastK l)).map l.at, (List.range (leastN l)).map fun i => l.at (leastK l + i)⟩ := rfl
theorem leastOf_lens (l : La) : (leastOf l).h.length = leastK l ∧ (leastOf l).l.length = leastN l := by simp [leastOf_eq]
theorem getD_mapR (f : Nat → Int) {n i : Nat} (h : i < n) : ((List.range n).map f).getD i 0 = f i := by
  rw [List.getD_eq_getElem?_getD, List.getElem?_map, List.getElem?_range h]
  rfl
/-- it is the same word -/
theorem least_at {l : La} (hp : 0 < l.l.length) : (leastOf l).at = l.at := by
  funext i
  obtain ⟨h1, h2⟩ := leastOf_lens l
  obtain ⟨n0, _⟩ := leastN_spec hp
  by_cases h : i < leastK l
  · unfold La.at
    rw [h1, if_pos h, leastOf_eq, getD_mapR _ h]
    rfl
  · rw [La.at_loopM (by omega), h1, h2]
    show ((List.range (leastN l)).map fun i => l.at (leastK l + i)).getD ((i - leastK l) % leastN l) 0 = _
    rw [getD_mapR _ (Nat.mod_lt _ n0)]
    have := least_rounds hp (i := leastK l + (i - leastK l) % leastN l) (by omega) ((i - leastK l) / leastN l)
    rw [Nat.add_assoc, Nat.mod_add_div, show leastK l + (i - leastK l) = i by omega] at this
    exact this.symm
theorem least_le {l : La} (hp : 0 < l.l.length) : (leastOf l).h.length ≤ l.h.length ∧ (leastOf l).l.length ≤ l.l.length ∧ 0 < (leastOf l).l.length := by
  obtain ⟨h1, h2⟩ := leastOf_lens l
  obtain ⟨n0, n1, _⟩ := leastN_spec hp
  have := downK_le l.at (leastN l) l.h.length
  unfold leastK at h1
  omega
/-- its least is itself -/
theorem least_least {l : La} (hp : 0 < l.l.length) : leastOf (leastOf l) = leastOf l := by
  obtain ⟨h1, h2⟩ := leastOf_lens l
  obtain ⟨n0, n1, n2, n3⟩ := leastN_spec hp
  have hpx : 0 < (leastOf l).l.length := by omega
  obtain ⟨m0, m1, m2, m3⟩ := leastN_spec hpx
  have hk : leastK l ≤ l.h.length := downK_le _ _ _
  have hN : leastN (leastOf l) = leastN l := by
    rcases Nat.lt_or_ge (leastN (leastOf l)) (leastN l) with h3 | h3
    · exfalso
      have h4 := (turns_at hpx).1 m2
      rw [least_at hp, h1] at h4
      have h5 := n3 _ m0 h3
      rw [(turns_at hp).2 fun i hi => h4 i (by omega)] at h5
      cases h5
    · omega
  have hK : leastK (leastOf l) = leastK l := by
    unfold leastK
    rw [hN, least_at hp, h1]
    exact downK_idem _
  rw [leastOf_eq (leastOf l), hN, hK, least_at hp]
  rfl
theorem La.at_mem {l : La} (hp : 0 < l.l.length) (i : Nat) : l.at i ∈ l.h ++ l.l := by
  unfold La.at
  split
  · rename_i h
    rw [List.getD_eq_getElem?_getD, List.getElem?_eq_getElem h]
    exact List.mem_append_left _ (List.getElem_mem h)
  · have h := Nat.mod_lt (i - l.h.length) hp
    rw [List.getD_eq_getElem?_getD, List.getElem?_eq_getElem h]
    exact List.mem_append_right _ (List.getElem_mem h)
theorem least_mem {l : La} (hp : 0 < l.l.length) {q : Int} (h : q ∈ (leastOf l).h ++ (leastOf l).l) : q ∈ l.h ++ l.l := by
  rw [leastOf_eq] at h
  rcases List.mem_append.1 h with h | h
  · obtain ⟨i, _, rfl⟩ := List.mem_map.1 h
    exact La.at_mem hp i
  · obtain ⟨i, _, rfl⟩ := List.mem_map.1 h
    exact La.at_mem hp _
end Go.Proofs.Ytoglgeaiiipchaa

namespace Go.Proofs.Ytoglgeaiiipchaa
open Go Go.RowKit

theorem same_from {xs ys : List Int} (hl : xs.length = ys.length) (h : ∀ i, i < xs.length → xs.getD i 0 = ys.getD i 0) : xs = ys := by
  refine List.ext_getElem hl fun i h1 h2 => ?_
  have := h i h1
  rwa [getD_at h1, getD_at h2] at this
set_option maxRecDepth 100000 in
theorem SameInts_ (A B : Option Addr) (ca cb : Nat) (xs ys : List Int) (w : World) (hx : Ints w 0 A ca xs) (hy : Ints w 0 B cb ys) :
    Calls Try.prog 47 #[.slice A xs.length ca, .slice B ys.length cb] w (BoolPost w (decide (xs = ys))) := by
  have h1 := hx.le
  have h2 := hx.max
  have h3 := hy.le
  by_cases hl : xs.length = ys.length
  · have hl1 : ((xs.length : Int) != (ys.length : Int)) = false := by simp [hl]
    have HLL := Lib.hid hl
    clear hl
    go_enter Try.func47, Try.ntmps47
    go_wp2_with fail
    go_loopw [5] (fun i wr => ∃ k : Nat, k ≤ xs.length ∧ i = .int .i64 k ∧ Below w.heap.size w wr ∧ Hid (∀ i, i < k → xs.getD i 0 = ys.getD i 0)) (fun i _ => xs.length - (intOf i).toNat)
    case atStart => exact ⟨0, Nat.zero_le _, rfl, Below.refl _ _, fun i h => absurd h (by omega)⟩
    case round =>
      obtain ⟨k, hk, rfl, hb, HA⟩ := hrel
      have HB := Lib.hid hb
      by_cases hlt : k < xs.length
      · have hlt2 : k < ys.length := by have := HLL.out; omega
        obtain ⟨b, o, rfl, _, _, hc⟩ := Ints.at_ (hx.below hb) hlt
        obtain ⟨b', o', rfl, _, _, hc'⟩ := Ints.at_ (hy.below hb) hlt2
        have E1 := Lib.hid (getD_at hlt)
        have E2 := Lib.hid (getD_at hlt2)
        clear hb
        generalize xs[k] = x at *
        generalize ys[k] = y at *
        by_cases hxy : x = y
        · have hxy1 : (x != y) = false := by simp [hxy]
          have HXY := Lib.hid hxy
          clear hxy
          go_wp2_with fail
          go_quiet (fail)
          have HB3 := Lib.hid (below_drewN HB.out nq)
          go_wp2_with fail
          go_roundw
          case rel =>
            refine ⟨k + 1, by omega, by go_num, HB3.out, fun i hi => ?_⟩
            rcases Nat.lt_or_ge i k with h | h
            · exact HA.out i h
            · obtain rfl : i = k := by omega
              rw [E1.out, E2.out, HXY.out]
          case measure => simp [intOf]; omega
        · have hxy1 : (x != y) = true := by simpa using hxy
          have HF : Hid (decide (xs = ys) = false) := decide_eq_false fun h => hxy (by rw [← E1.out, ← E2.out, h])
          clear hxy
          go_wp2_with fail
          go_quiet (fail)
          have HB3 := Lib.hid (below_drewN HB.out nq)
          go_wp2_with fail
          go_ret
          exact ⟨ret_bool HF.out.symm, HB3.out⟩
      · have HF : Hid (decide (xs = ys) = true) := decide_eq_true (same_from HLL.out fun i hi => HA.out i (by omega))
        go_wp2_with fail
        go_ret
        exact ⟨ret_bool HF.out.symm, HB.out⟩
  · have hl1 : ((xs.length : Int) != (ys.length : Int)) = true := by
      simp only [bne_iff_ne, ne_eq]
      omega
    have HF : Hid (decide (xs = ys) = false) := decide_eq_false fun h => hl (by rw [h])
    clear hl
    go_enter Try.func47, Try.ntmps47
    go_wp2_with fail
    go_ret
    exact ⟨ret_bool HF.out.symm, Below.refl _ _⟩
end Go.Proofs.Ytoglgeaiiipchaa

namespace Go.Proofs.Ytoglgeaiiipchaa
open Go Go.RowKit Go.Shelf

theorem turnsV_from {xs : List Int} {n j : Nat} (h : ∀ i, i < j → xs.getD ((i + n) % xs.length) 0 = xs.getD i 0) (hj : j = xs.length) : turnsV xs n = true := turnsV_iff.2 fun i hi => h i (by omega)
theorem turnsV_no {xs : List Int} {n i : Nat} (hi : i < xs.length) (h : xs.getD ((i + n) % xs.length) 0 ≠ xs.getD i 0) : turnsV xs n = false := by
  cases e : turnsV xs n with
  | false => rfl
  | true => exact absurd (turnsV_iff.1 e i hi) h

set_option maxRecDepth 100000 in
set_option maxHeartbeats 1000000 in
theorem turns_ (A : Option Addr) (c : Nat) (xs : List Int) (n : Nat) (w : World) (hx : Ints w 0 A c xs) (hn : n ≤ 1000000) (hxl : xs.length ≤ 1000000) :
    Calls Try.prog 42 #[.slice A xs.length c, .int .i64 n] w (BoolPost w (turnsV xs n)) := by
  have h1 := hx.le
  go_enter Try.func42, Try.ntmps42
  go_wp2_with fail
  go_loopw [9] (fun i wr => ∃ k : Nat, k ≤ xs.length ∧ i = .int .i64 k ∧ Below w.heap.size w wr ∧ Hid (∀ i, i < k → xs.getD ((i + n) % xs.length) 0 = xs.getD i 0)) (fun i _ => xs.length - (intOf i).toNat)
  case atStart => exact ⟨0, Nat.zero_le _, rfl, Below.refl _ _, fun i h => absurd h (by omega)⟩
  case round =>
    obtain ⟨k, hk, rfl, hb, HA⟩ := hrel
    have HB := Lib.hid hb
    by_cases hlt : k < xs.length
    · obtain ⟨b, o, rfl, _, hbl, hc⟩ := Ints.at_ (hx.below hb) hlt
      have hm : (k + n) % xs.length < xs.length := Nat.mod_lt _ (by omega)
      obtain ⟨b', o', hA', _, _, hc'⟩ := Ints.at_ (hx.below hb) hm
      obtain ⟨rfl, rfl⟩ : b = b' ∧ o = o' := by simpa using hA'
      have e1 := getD_at hlt
      have e2 := getD_at hm
      have E1 := Lib.hid e1
      have E2 := Lib.hid e2
      clear e1 e2 hb hA'
      have hz : ((xs.length : Int) == 0) = false := by
        simp only [beq_eq_false_iff_ne, ne_eq]
        omega
      have hk5 : k ≤ 1000000 := by omega
      have e3 : ((k : Int) + (n : Int)).tmod (xs.length : Int) = (((k + n) % xs.length : Nat) : Int) := by
        rw [Int.tmod_eq_emod_of_nonneg (by omega)]
        simp
      generalize xs[k] = x at *
      generalize xs[(k + n) % xs.length] = y at *
      obtain ⟨m, hmm⟩ : ∃ m, m = (k + n) % xs.length := ⟨_, rfl⟩
      rw [← hmm] at hm hc' e3 E2
      have HM := Lib.hid hmm
      clear hmm
      by_cases hxy : y = x
      · have hxy1 : (y != x) = false := by simp [hxy]
        have HK : Hid (∀ i, i < k + 1 → xs.getD ((i + n) % xs.length) 0 = xs.getD i 0) := by
          intro i hi
          rcases Nat.lt_or_ge i k with h | h
          · exact HA.out i h
          · obtain rfl : i = k := by omega
            rw [← HM.out, E1.out, E2.out, hxy]
        clear hxy
        go_wp2_with fail
        exact ⟨⟨k + 1, by omega, by go_num, HB.out, HK⟩, by simp [intOf]; omega⟩
      · have hxy1 : (y != x) = true := by simpa using hxy
        have HF : Hid (turnsV xs n = false) := turnsV_no hlt (by rw [← HM.out, E1.out, E2.out]; exact hxy)
        clear hxy
        go_wp2_with fail
        go_ret
        exact ⟨ret_bool HF.out.symm, HB.out⟩
    · have HF : Hid (turnsV xs n = true) := turnsV_from HA.out (by omega)
      go_wp2_with fail
      go_ret
      exact ⟨ret_bool HF.out.symm, HB.out⟩
end Go.Proofs.Ytoglgeaiiipchaa

namespace Go.Proofs.Ytoglgeaiiipchaa
open Go Go.RowKit Go.Shelf

/-- two lassos in variables -/
def la2W (w : World) (A B C D : Option Addr) (ca cb cc cd : Nat) (l m : La) : World :=
  (w.alloc (Obj.cells #[Value.slice A l.h.length ca, Value.slice B l.l.length cb] 26)).alloc (Obj.cells #[Value.slice C m.h.length cc, Value.slice D m.l.length cd] 26)
structure La2W (w W : World) (A B C D : Option Addr) (ca cb cc cd : Nat) (l m : La) : Prop where
  below : Below w.heap.size w W
  size : W.heap.size = w.heap.size + 1 + 1
  l0 : W.cell? ⟨w.heap.size, 0, none⟩ = some (.slice A l.h.length ca)
  l1 : W.cell? ⟨w.heap.size, 1, none⟩ = some (.slice B l.l.length cb)
  m0 : W.cell? ⟨w.heap.size + 1, 0, none⟩ = some (.slice C m.h.length cc)
  m1 : W.cell? ⟨w.heap.size + 1, 1, none⟩ = some (.slice D m.l.length cd)
theorem la2W_is (w : World) (A B C D : Option Addr) (ca cb cc cd : Nat) (l m : La) : La2W w (la2W w A B C D ca cb cc cd l m) A B C D ca cb cc cd l m := by
  unfold la2W
  refine ⟨by go_grown, by simp, ?_, ?_, ?_, ?_⟩ <;> go_simp

set_option maxRecDepth 100000 in
set_option maxHeartbeats 1000000 in
theorem SameLasso_ (A B C D : Option Addr) (ca cb cc cd : Nat) (l m : La) (w : World) (hh : Ints w 0 A ca l.h) (hl : Ints w 0 B cb l.l) (gh : Ints w 0 C cc m.h) (gl : Ints w 0 D cd m.l) :
    Calls Try.prog 21 #[.agg #[.slice A l.h.length ca, .slice B l.l.length cb], .agg #[.slice C m.h.length cc, .slice D m.l.length cd]] w (BoolPost w (decide (l = m))) := by
  have HW := Lib.hid (la2W_is w A B C D ca cb cc cd l m)
  have HH := Lib.hid (hh.below HW.out.below)
  have HL := Lib.hid (hl.below HW.out.below)
  have GH := Lib.hid (gh.below HW.out.below)
  have GL := Lib.hid (gl.below HW.out.below)
  have HD : Hid (decide (l = m) = (decide (l.h = m.h) && decide (l.l = m.l))) := by
    show decide (l = m) = _
    cases l
    cases m
    simp
  generalize decide (l = m) = vv at *
  clear hh hl gh gl
  go_enter Try.func21, Try.ntmps21
  go_wp2_with fail
  change Calls _ _ _ (la2W w A B C D ca cb cc cd l m) _
  generalize la2W w A B C D ca cb cc cd l m = W0 at *
  have hs := HW.out.size
  refine (SameInts_ A C ca cc l.h m.h W0 HH.out GH.out).mono ?_
  rintro e w1 ⟨rfl, hb1⟩
  have HB1 := Lib.hid (Below_on HW.out.below hb1 HW.out.below.size)
  have c1 := (cell_on3 hb1 (b := w.heap.size) (o := 1) (by omega)).trans HW.out.l1
  have c2 := (cell_on3 hb1 (b := w.heap.size + 1) (o := 1) (by omega)).trans HW.out.m1
  have HS := Lib.hid (SameInts_ B D cb cd l.l m.l w1 (HL.out.below hb1) (GL.out.below hb1))
  clear hb1 hs
  by_cases h1 : l.h = m.h
  · have h1' : decide (l.h = m.h) = true := decide_eq_true h1
    rw [h1'] at HD ⊢
    clear h1 h1'
    go_wp2_with fail
    refine HS.out.mono ?_
    rintro e w2 ⟨rfl, hb2⟩
    have HB2 := Lib.hid (Below_on HB1.out hb2 HB1.out.size)
    have HF : Hid (vv = decide (l.l = m.l)) := by
      show vv = _
      rw [HD.out]
      simp
    generalize decide (l.l = m.l) = v2 at *
    clear hb2
    go_wp2_with fail
    go_ret
    exact ⟨ret_bool HF.out.symm, HB2.out⟩
  · have h1' : decide (l.h = m.h) = false := decide_eq_false h1
    rw [h1'] at HD ⊢
    have HF : Hid (vv = false) := by
      show vv = _
      rw [HD.out]
      rfl
    clear h1 h1'
    go_wp2_with fail
    go_ret
    exact ⟨ret_bool HF.out.symm, HB1.out⟩
end Go.Proofs.Ytoglgeaiiipchaa
