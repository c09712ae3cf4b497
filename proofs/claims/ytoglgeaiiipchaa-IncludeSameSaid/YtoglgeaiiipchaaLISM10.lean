/- Walks: include.lives. -/
import Derived.Test.YtoglgeaiiipchaaLISM9
set_option linter.unusedSimpArgs false
set_option linter.unusedVariables false
namespace Go.Proofs.Ytoglgeaiiipchaa
open Go Go.RowKit Go.Shelf

/-- joined, n of nine cells -/
structure MxN (O Y : Bx) (n : Nat) (C : Bx) : Prop where
  len : C.length = 9
  eq : ∀ i j, i < 3 → j < 3 → bg C i j = if 3 * i + j < n then max (bg O i j) (bg Y i j) else bg O i j
theorem MxN.zero {O : Bx} (Y : Bx) (h : O.length = 9) : MxN O Y 0 O := ⟨h, fun i j _ _ => by rw [if_neg (by omega)]⟩
theorem MxN.on {O Y C : Bx} {i j : Nat} (h : MxN O Y (3 * i + j) C) (hi : i < 3) (hj : j < 3) : MxN O Y (3 * i + (j + 1)) (C.set (i * 3 + j) (max (bg C i j) (bg Y i j))) :=
  ⟨by simp [h.len], fun a b ha hb => by
    rw [bg_set h.len hi hj ha hb]
    by_cases he : a = i ∧ b = j
    · obtain ⟨rfl, rfl⟩ := he
      rw [if_pos ⟨rfl, rfl⟩, if_pos (by omega), h.eq a b ha hb, if_neg (by omega)]
    · rw [if_neg he, h.eq a b ha hb]
      have : 3 * a + b < 3 * i + (j + 1) ↔ 3 * a + b < 3 * i + j := by omega
      simp only [this]⟩
theorem MxN.liv {X O C : Bx} {n : Nat} (h : MxN O (behB O X) 9 C) (hn : 1 ≤ n) (hl : LivB X n O) (hx : ∀ i j, i < 3 → j < 3 → bg X i j ≤ 2) : LivB X (n + 1) C :=
  hl.more hn hx (behB_is O X) h.len fun i j hi hj => by rw [h.eq i j hi hj, if_pos (by omega)]
def lvP (O : Bx) (n i : Nat) : Prop := ∃ k, k < 3 ∧ 3 * i + k < n ∧ (i = k ∨ 0 < bg O i k) ∧ bg O k k = 2
theorem lvP_zero (O : Bx) : bits3 (lvP O 0) = 0 := bits3_none fun j hj => by rintro ⟨a, b, c, d, e⟩; omega
theorem lvP_yes {O : Bx} {i k : Nat} (hi : i < 3) (hk : k < 3) (h1 : i = k ∨ 0 < bg O i k) (h2 : bg O k k = 2) : bits3 (lvP O (3 * i + (k + 1))) = bits3 (lvP O (3 * i + k)) ||| 2 ^ i := by
  refine bits3_or hi fun j hj => ⟨?_, ?_⟩
  · rintro ⟨a, b, c, d, e⟩
    by_cases h : j = i
    · exact .inr h
    · exact .inl ⟨a, b, by omega, d, e⟩
  · rintro (⟨a, b, c, d, e⟩ | rfl)
    · exact ⟨a, b, by omega, d, e⟩
    · exact ⟨k, hk, by omega, h1, h2⟩
theorem lvP_no {O : Bx} {i k : Nat} (hk : k < 3) (h : ¬ ((i = k ∨ 0 < bg O i k) ∧ bg O k k = 2)) : bits3 (lvP O (3 * i + (k + 1))) = bits3 (lvP O (3 * i + k)) := by
  refine bits3_congr fun j hj => ⟨?_, ?_⟩
  · rintro ⟨a, b, c, d, e⟩
    refine ⟨a, b, ?_, d, e⟩
    apply Classical.byContradiction
    intro hn
    obtain rfl : j = i := by omega
    obtain rfl : a = k := by omega
    exact h ⟨d, e⟩
  · rintro ⟨a, b, c, d, e⟩; exact ⟨a, b, by omega, d, e⟩
theorem lvP_all {X O : Bx} (h : LivB X 4 O) : bits3 (lvP O 9) = livesN X := bits3_congr fun j hj => by
  rw [← h.lives hj]
  exact ⟨fun ⟨a, b, c, d, e⟩ => ⟨a, b, d, e⟩, fun ⟨a, b, d, e⟩ => ⟨a, b, by omega, d, e⟩⟩
theorem mx2 (b x : Nat) : (if b < x then (x : Int) else (b : Int)) = ((max b x : Nat) : Int) := by
  split <;> omega
structure LvM (w0 w : World) (V1 V3 : Nat) (X O : Bx) : Prop where
  x : URow 128 w V1 X
  o : URow 128 w V3 O
  below : Below w0.heap.size w0 w
  d : V1 ≠ V3
  l3 : w0.heap.size ≤ V3
theorem LvM.on {w0 w w' : World} {V1 V3 : Nat} {X O : Bx} (h : LvM w0 w V1 V3 X O) (hb : Below w.heap.size w w') : LvM w0 w' V1 V3 X O :=
  ⟨h.x.below hb h.x.lt, h.o.below hb h.o.lt, Below_on h.below hb h.below.size, h.d, h.l3⟩
theorem LvM.set {w0 w : World} {V1 V3 : Nat} {X O : Bx} (h : LvM w0 w V1 V3 X O) (n v : Nat) : LvM w0 (w.setCell ⟨V3, n, none⟩ (.int .u8 (v : Int))).drew V1 V3 X (O.set n v) :=
  ⟨h.x.set_far h.d _, h.o.set_ n v, (h.below.setCell (p := ⟨V3, n, none⟩) h.l3 _).drew, h.d, h.l3⟩
theorem urow_put9_far {t : TypeId} {w : World} {g V : Nat} {B : List Nat} (h : URow t w V B) (hd : V ≠ g) (o0 o1 o2 o3 o4 o5 o6 o7 o8 : Nat) : URow t (put9 w g o0 o1 o2 o3 o4 o5 o6 o7 o8) V B :=
  ((((((((h.set_far (p := ⟨g, 0, none⟩) hd _).set_far (p := ⟨g, 1, none⟩) hd _).set_far (p := ⟨g, 2, none⟩) hd _).set_far (p := ⟨g, 3, none⟩) hd _).set_far (p := ⟨g, 4, none⟩) hd _).set_far (p := ⟨g, 5, none⟩) hd _).set_far (p := ⟨g, 6, none⟩) hd _).set_far (p := ⟨g, 7, none⟩) hd _).set_far (p := ⟨g, 8, none⟩) hd _
theorem lvm_put9 {w0 w : World} {V1 V3 : Nat} {X O : Bx} (h : LvM w0 w V1 V3 X O) (hl : O.length = 9) (o0 o1 o2 o3 o4 o5 o6 o7 o8 : Nat) : LvM w0 (put9 w V3 o0 o1 o2 o3 o4 o5 o6 o7 o8) V1 V3 X [o0, o1, o2, o3, o4, o5, o6, o7, o8] :=
  ⟨urow_put9_far h.x h.d _ _ _ _ _ _ _ _ _, h.o.put9 hl _ _ _ _ _ _ _ _ _, below_put9 h.below h.l3 _ _ _ _ _ _ _ _ _, h.d, h.l3⟩
set_option maxRecDepth 100000 in
set_option maxHeartbeats 4000000 in
theorem lives_ (X : Bx) (hX : X.length = 9) (hle : ∀ i j, i < 3 → j < 3 → bg X i j ≤ 2) (w : World) : Calls Try.prog 108 #[.agg (boxC X)] w fun e w' => e = .returned (.int .i64 (livesN X : Nat)) ∧ Below w.heap.size w w' := by
  have HLE := Lib.hid hle
  have HX1 := Lib.hid (URow.new 128 w X)
  have HB1 : Hid (Below w.heap.size w (w.alloc (Obj.cells (boxC X) 128))) := (Below.refl _ _).alloc (Nat.le_refl _) _
  have HS1 : Hid ((w.alloc (Obj.cells (boxC X) 128)).heap.size = w.heap.size + 1) := by show _ = _; simp
  have HL1 : Hid (LivB X 1 X) := LivB.first hX hle
  have HXL := Lib.hid hX
  clear hle hX
  go_enter Try.func108, Try.ntmps108
  go_upto_region 1 with fail
  obtain ⟨V1, h1⟩ : ∃ V, V = w.heap.size := ⟨_, rfl⟩
  rw [← h1] at HX1 ⊢
  have H1 := Lib.hid h1
  clear h1
  generalize w.alloc (Obj.cells (boxC X) 128) = W1 at *
  obtain ⟨x0, x1, x2, x3, x4, x5, x6, x7, x8, hxe, c0, c1, c2, c3, c4, c5, c6, c7, c8⟩ := HX1.out.nine HXL.out
  have HXE := Lib.hid hxe
  clear hxe
  go_upto_region 2 with fail
  have HM : Hid (LvM w (W1.alloc (Obj.cells #[.int .u8 (x0 : Int), .int .u8 (x1 : Int), .int .u8 (x2 : Int), .int .u8 (x3 : Int), .int .u8 (x4 : Int), .int .u8 (x5 : Int), .int .u8 (x6 : Int), .int .u8 (x7 : Int), .int .u8 (x8 : Int)] 128)) V1 W1.heap.size X X) := by
    have hb : Below W1.heap.size W1 (W1.alloc (Obj.cells #[.int .u8 (x0 : Int), .int .u8 (x1 : Int), .int .u8 (x2 : Int), .int .u8 (x3 : Int), .int .u8 (x4 : Int), .int .u8 (x5 : Int), .int .u8 (x6 : Int), .int .u8 (x7 : Int), .int .u8 (x8 : Int)] 128)) := (Below.refl _ _).alloc (Nat.le_refl _) _
    have := HS1.out
    have := H1.out
    refine ⟨HX1.out.below hb HX1.out.lt, ?_, Below_on HB1.out hb HB1.out.size, by omega, by omega⟩
    have hn := URow.new 128 W1 X
    rw [HXE.out] at hn ⊢
    exact hn
  obtain ⟨V3, h3⟩ : ∃ V, V = W1.heap.size := ⟨_, rfl⟩
  rw [← h3] at HM ⊢
  clear c0 c1 c2 c3 c4 c5 c6 c7 c8 h3 HX1 HB1 HS1 H1
  generalize W1.alloc (Obj.cells #[.int .u8 (x0 : Int), .int .u8 (x1 : Int), .int .u8 (x2 : Int), .int .u8 (x3 : Int), .int .u8 (x4 : Int), .int .u8 (x5 : Int), .int .u8 (x6 : Int), .int .u8 (x7 : Int), .int .u8 (x8 : Int)] 128) = W2 at *
  go_wp2_with fail
  go_loopw [11] (fun v11 wr => ∃ r : Nat, r ≤ 3 ∧ v11 = .int .i64 (r : Int) ∧ ∃ O, Hid (LivB X (r + 1) O) ∧ Hid (LvM w wr V1 V3 X O)) (fun v11 _ => 3 - (intOf v11).toNat)
  case atStart => exact ⟨0, by omega, rfl, _, HL1, HM⟩
  case round =>
    clear HL1 HM
    obtain ⟨r, hr, rfl, O, HL, HM⟩ := hrel
    by_cases hr3 : r < 3
    · have qr : (r : Int) < 3 := by omega
      have HR := Lib.hid hr3
      obtain ⟨o0, o1, o2, o3, o4, o5, o6, o7, o8, hoe, c0, c1, c2, c3, c4, c5, c6, c7, c8⟩ := HM.out.o.nine HL.out.len
      obtain ⟨p0, p1, p2, p3, p4, p5, p6, p7, p8, hpe, d0, d1, d2, d3, d4, d5, d6, d7, d8⟩ := HM.out.x.nine HXL.out
      have HC : Hid (Calls Try.prog 109 #[.agg #[.int .u8 (o0 : Int), .int .u8 (o1 : Int), .int .u8 (o2 : Int), .int .u8 (o3 : Int), .int .u8 (o4 : Int), .int .u8 (o5 : Int), .int .u8 (o6 : Int), .int .u8 (o7 : Int), .int .u8 (o8 : Int)], .agg #[.int .u8 (p0 : Int), .int .u8 (p1 : Int), .int .u8 (p2 : Int), .int .u8 (p3 : Int), .int .u8 (p4 : Int), .int .u8 (p5 : Int), .int .u8 (p6 : Int), .int .u8 (p7 : Int), .int .u8 (p8 : Int)]] wr fun e w' => e = .returned (.agg (boxC (behB O X))) ∧ Below wr.heap.size wr w') := by
        have := behind_ O X HL.out.len HXL.out wr
        rw [hoe, hpe] at this ⊢
        exact this
      obtain ⟨y0, y1, y2, y3, y4, y5, y6, y7, y8, hye⟩ := list9 (behB_is O X).len
      have HYE := Lib.hid hye
      rw [hye] at HC
      clear hoe hpe hye
      go_wp2_with fail
      refine HC.out.mono ?_
      rintro e w1 ⟨rfl, hb1⟩
      have HM1 := Lib.hid (HM.out.on hb1)
      rw [show boxC [y0, y1, y2, y3, y4, y5, y6, y7, y8] = #[.int .u8 (y0 : Int), .int .u8 (y1 : Int), .int .u8 (y2 : Int), .int .u8 (y3 : Int), .int .u8 (y4 : Int), .int .u8 (y5 : Int), .int .u8 (y6 : Int), .int .u8 (y7 : Int), .int .u8 (y8 : Int)] from rfl]
      clear c0 c1 c2 c3 c4 c5 c6 c7 c8 d0 d1 d2 d3 d4 d5 d6 d7 d8 hb1 HC HM
      go_upto_region 5 with fail
      have HM2 : Hid (LvM w (w1.alloc (Obj.cells #[.int .u8 (y0 : Int), .int .u8 (y1 : Int), .int .u8 (y2 : Int), .int .u8 (y3 : Int), .int .u8 (y4 : Int), .int .u8 (y5 : Int), .int .u8 (y6 : Int), .int .u8 (y7 : Int), .int .u8 (y8 : Int)] 128)) V1 V3 X O) := HM1.out.on ((Below.refl _ _).alloc (Nat.le_refl _) _)
      have HY2 : Hid (URow 128 (w1.alloc (Obj.cells #[.int .u8 (y0 : Int), .int .u8 (y1 : Int), .int .u8 (y2 : Int), .int .u8 (y3 : Int), .int .u8 (y4 : Int), .int .u8 (y5 : Int), .int .u8 (y6 : Int), .int .u8 (y7 : Int), .int .u8 (y8 : Int)] 128)) w1.heap.size (behB O X)) := by
        show URow _ _ _ _
        rw [HYE.out]
        exact URow.new 128 w1 [y0, y1, y2, y3, y4, y5, y6, y7, y8]
      have HV34 : Hid (V3 < w1.heap.size) := HM1.out.o.lt
      obtain ⟨V4, h4⟩ : ∃ V, V = w1.heap.size := ⟨_, rfl⟩
      rw [← h4] at HY2 HV34 ⊢
      clear h4 HM1
      generalize w1.alloc (Obj.cells #[.int .u8 (y0 : Int), .int .u8 (y1 : Int), .int .u8 (y2 : Int), .int .u8 (y3 : Int), .int .u8 (y4 : Int), .int .u8 (y5 : Int), .int .u8 (y6 : Int), .int .u8 (y7 : Int), .int .u8 (y8 : Int)] 128) = w2 at *
      have HN0 := Lib.hid (MxN.zero (behB O X) HL.out.len)
      have HYL := Lib.hid (behB_is O X).len
      have HLC : Hid (∀ C, MxN O (behB O X) 9 C → LivB X (r + 1 + 1) C) := fun C hC => hC.liv (by omega) HL.out HLE.out
      have HMO : Hid (∃ C, MxN O (behB O X) 0 C ∧ LvM w w2 V1 V3 X C) := ⟨O, HN0.out, HM2.out⟩
      clear HM2 HN0 HYE HL
      generalize behB O X = Y at *
      go_wp2_with fail
      go_loopw [16] (fun v16 wr => ∃ i : Nat, i ≤ 3 ∧ v16 = .int .i64 (i : Int) ∧ ∃ C, Hid (MxN O Y (3 * i) C) ∧ Hid (LvM w wr V1 V3 X C) ∧ Hid (URow 128 wr V4 Y)) (fun v16 _ => 3 - (intOf v16).toNat)
      case atStart =>
        obtain ⟨C, h1, h2⟩ := HMO.out
        exact ⟨0, by omega, rfl, C, h1, h2, HY2⟩
      case round =>
        clear HMO HY2
        obtain ⟨i, hi, rfl, C, HN, HM, HY⟩ := hrel
        by_cases hi3 : i < 3
        · have qi : (i : Int) < 3 := by omega
          have HI := Lib.hid hi3
          go_wp2_with fail
          go_loopw [19] (fun v19 wr => ∃ j : Nat, j ≤ 3 ∧ v19 = .int .i64 (j : Int) ∧ ∃ C, Hid (MxN O Y (3 * i + j) C) ∧ Hid (LvM w wr V1 V3 X C) ∧ Hid (URow 128 wr V4 Y)) (fun v19 _ => 3 - (intOf v19).toNat)
          case atStart => exact ⟨0, by omega, rfl, C, HN, HM, HY⟩
          case round =>
            clear HN HM HY
            obtain ⟨j, hj, rfl, C, HN, HM, HY⟩ := hrel
            by_cases hj3 : j < 3
            · have qj : (j : Int) < 3 := by omega
              have HJ := Lib.hid hj3
              obtain ⟨o1, o2⟩ := HM.out.o.at_ HN.out.len hi3 hj3
              obtain ⟨o3, _⟩ := HY.out.at_ HYL.out hi3 hj3
              have HN2 := Lib.hid (HN.out.on hi3 hj3)
              have HM2 := Lib.hid (HM.out.set (i * 3 + j) (max (bg C i j) (bg Y i j)))
              have HY2 : Hid (URow 128 (wr.setCell ⟨V3, i * 3 + j, none⟩ (.int .u8 ((max (bg C i j) (bg Y i j) : Nat) : Int))).drew V4 Y) := HY.out.set_far (p := ⟨V3, i * 3 + j, none⟩) (by have := HV34.out; show V4 ≠ V3; omega) _
              generalize bg C i j = b1 at *
              generalize bg Y i j = b2 at *
              go_wp2_with fail
              go_region
              rw [mx2]
              clear o1 o2 o3 HM HN HY
              go_wp2_with fail
              go_roundw
              case rel => exact ⟨j + 1, HJ.out, by go_num, _, HN2, HM2, HY2⟩
              case measure => simp [intOf]; have := HJ.out; omega
            · obtain rfl : j = 3 := by omega
              go_wp2_with fail
              go_roundw
              case rel => exact ⟨i + 1, HI.out, by go_num, C, HN, HM, HY⟩
              case measure => simp [intOf]; have := HI.out; omega
        · obtain rfl : i = 3 := by omega
          have HLN := Lib.hid (HLC.out C HN.out)
          go_wp2_with fail
          go_roundw
          case rel => exact ⟨r + 1, HR.out, by go_num, C, HLN, HM⟩
          case measure => simp [intOf]; have := HR.out; omega
    · have hr3' : r = 3 := by omega
      have qr : ¬ (r : Int) < 3 := by omega
      have HMO : Hid (∃ O, LivB X 4 O ∧ LvM w wr V1 V3 X O) := ⟨O, by subst hr3'; exact HL.out, HM.out⟩
      clear HL HM hr3' hr hr3
      go_wp2_with fail
      go_loopw [40] (fun v40 wr => ∃ r : Nat, r ≤ 3 ∧ v40 = .int .i64 (r : Int) ∧ ∃ O, Hid (LivB X 4 O) ∧ Hid (LvM w wr V1 V3 X O)) (fun v40 _ => 3 - (intOf v40).toNat)
      case atStart =>
        obtain ⟨O, h1, h2⟩ := HMO.out
        exact ⟨0, by omega, rfl, O, h1, h2⟩
      case round =>
        clear HMO
        obtain ⟨r, hr, rfl, O, HL, HM⟩ := hrel
        by_cases hr3 : r < 3
        · have qr : (r : Int) < 3 := by omega
          have HR := Lib.hid hr3
          obtain ⟨o0, o1, o2, o3, o4, o5, o6, o7, o8, hoe, c0, c1, c2, c3, c4, c5, c6, c7, c8⟩ := HM.out.o.nine HL.out.len
          have HC : Hid (Calls Try.prog 120 #[.agg #[.int .u8 (o0 : Int), .int .u8 (o1 : Int), .int .u8 (o2 : Int), .int .u8 (o3 : Int), .int .u8 (o4 : Int), .int .u8 (o5 : Int), .int .u8 (o6 : Int), .int .u8 (o7 : Int), .int .u8 (o8 : Int)]] wr (ClPost wr O)) := by
            have := closed_ O HL.out.len wr
            rw [hoe] at this ⊢
            exact this
          clear hoe
          go_wp2_with fail
          refine HC.out.mono ?_
          rintro e w1 ⟨⟨C, rfl, hK⟩, hb1⟩
          have HM1 := Lib.hid (HM.out.on hb1)
          have HLN := Lib.hid (hK.k X 4 HL.out)
          obtain ⟨y0, y1, y2, y3, y4, y5, y6, y7, y8, rfl⟩ := list9 hK.len
          obtain ⟨z0, z1, z2, z3, z4, z5, z6, z7, z8, e0, f0, e1, f1, e2, f2, e3, f3, e4, f4, e5, f5, e6, f6, e7, f7, e8, f8⟩ := HM1.out.o.is9 HL.out.len
          have HM2 := Lib.hid (lvm_put9 HM1.out HL.out.len y0 y1 y2 y3 y4 y5 y6 y7 y8)
          unfold put9 at HM2
          rw [show boxC [y0, y1, y2, y3, y4, y5, y6, y7, y8] = #[.int .u8 (y0 : Int), .int .u8 (y1 : Int), .int .u8 (y2 : Int), .int .u8 (y3 : Int), .int .u8 (y4 : Int), .int .u8 (y5 : Int), .int .u8 (y6 : Int), .int .u8 (y7 : Int), .int .u8 (y8 : Int)] from rfl]
          clear c0 c1 c2 c3 c4 c5 c6 c7 c8 hb1 HC HM HM1 hK HL
          go_wp2_with fail
          go_roundw
          case rel => exact ⟨r + 1, HR.out, by go_num, _, HLN, HM2⟩
          case measure => simp [intOf]; have := HR.out; omega
        · have qr' : ¬ (r : Int) < 3 := by omega
          have HA := Lib.hid (lvP_all HL.out)
          clear hr hr3
          have H0 := Lib.hid (lvP_zero O)
          go_wp2_with fail
          go_loopw [7, 45] (fun v7 v45 wr' => ∃ i : Nat, i ≤ 3 ∧ v45 = .int .i64 (i : Int) ∧ v7 = .int .i64 ((bits3 (lvP O (3 * i)) : Nat) : Int) ∧ wr' = wr) (fun _ v45 _ => 3 - (intOf v45).toNat)
          case atStart => exact ⟨0, by omega, rfl, by rw [Nat.mul_zero, H0.out]; rfl, rfl⟩
          case round =>
            obtain ⟨i, hi, rfl, rfl, rfl⟩ := hrel
            by_cases hi3 : i < 3
            · have qi : (i : Int) < 3 := by omega
              have HI := Lib.hid hi3
              go_wp2_with fail
              go_loopw [7, 48] (fun v7 v48 wr' => ∃ k : Nat, k ≤ 3 ∧ v48 = .int .i64 (k : Int) ∧ v7 = .int .i64 ((bits3 (lvP O (3 * i + k)) : Nat) : Int) ∧ wr' = wr) (fun _ v48 _ => 3 - (intOf v48).toNat)
              case atStart => exact ⟨0, by omega, rfl, rfl, rfl⟩
              case round =>
                obtain ⟨k, hk, rfl, rfl, rfl⟩ := hrel
                by_cases hk3 : k < 3
                · have qk : (k : Int) < 3 := by omega
                  have HK := Lib.hid hk3
                  obtain ⟨o1, _⟩ := HM.out.o.at_ HL.out.len hi3 hk3
                  obtain ⟨o2, _⟩ := HM.out.o.at_ HL.out.len hk3 hk3
                  have hw := wrap_pow3 hi3
                  have HO := Lib.hid (bit3_or (n := bits3 (lvP O (3 * i + k))) (bits3_lt _) hi3)
                  by_cases hn : (i = k ∨ 0 < bg O i k) ∧ bg O k k = 2
                  · have HE := Lib.hid (lvP_yes hi3 hk3 hn.1 hn.2)
                    obtain ⟨hn1, hn2⟩ := hn
                    rw [hn2] at o2
                    by_cases hik : i = k
                    · subst hik
                      have q1 : ((i : Int) == (i : Int)) = true := by simp
                      clear hn1 hn2 o1
                      go_wp2_with fail
                      go_roundw
                      case rel => exact ⟨_ + 1, HK.out, by go_num, by rw [HO.out, HE.out], trivial⟩
                      case measure => simp [intOf]; have := HK.out; omega
                    · have q1 : ((i : Int) == (k : Int)) = false := by simp; omega
                      have q2 : (0 : Int) < (bg O i k : Int) := by omega
                      clear hn1 hn2 hik
                      go_wp2_with fail
                      go_roundw
                      case rel => exact ⟨_ + 1, HK.out, by go_num, by rw [HO.out, HE.out], trivial⟩
                      case measure => simp [intOf]; have := HK.out; omega
                  · have HE := Lib.hid (lvP_no (O := O) (i := i) hk3 hn)
                    have HNN := Lib.hid hn
                    by_cases hik : i = k
                    · subst hik
                      have q1 : ((i : Int) == (i : Int)) = true := by simp
                      have q3 : (((bg O i i : Nat) : Int) == 2) = false := by simp; exact fun h => hn ⟨.inl rfl, by omega⟩
                      clear hn HNN
                      go_wp2_with fail
                      go_roundw
                      case rel => exact ⟨_ + 1, HK.out, by go_num, by rw [HE.out], trivial⟩
                      case measure => simp [intOf]; have := HK.out; omega
                    · have q1 : ((i : Int) == (k : Int)) = false := by simp; omega
                      by_cases hp : 0 < bg O i k
                      · have q2 : (0 : Int) < (bg O i k : Int) := by omega
                        have q3 : (((bg O k k : Nat) : Int) == 2) = false := by simp; exact fun h => hn ⟨.inr hp, by omega⟩
                        clear hn hik HNN hp
                        go_wp2_with fail
                        go_roundw
                        case rel => exact ⟨_ + 1, HK.out, by go_num, by rw [HE.out], trivial⟩
                        case measure => simp [intOf]; have := HK.out; omega
                      · have q2 : ¬ (0 : Int) < (bg O i k : Int) := by omega
                        clear hn hik HNN hp
                        go_wp2_with fail
                        go_roundw
                        case rel => exact ⟨_ + 1, HK.out, by go_num, by rw [HE.out], trivial⟩
                        case measure => simp [intOf]; have := HK.out; omega
                · obtain rfl : k = 3 := by omega
                  go_wp2_with fail
                  go_roundw
                  case rel => exact ⟨i + 1, HI.out, by go_num, rfl, trivial⟩
                  case measure => simp [intOf]; have := HI.out; omega
            · obtain rfl : i = 3 := by omega
              go_wp2_with fail
              go_ret
              exact ⟨ret_int (by rw [← HA.out]), HM.out.below⟩
end Go.Proofs.Ytoglgeaiiipchaa
