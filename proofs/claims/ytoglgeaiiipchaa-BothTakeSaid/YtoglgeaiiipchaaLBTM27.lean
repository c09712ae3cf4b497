/- Walks: the reference's LeastOf. -/
import Derived.Test.YtoglgeaiiipchaaLBTM25
import Derived.Test.YtoglgeaiiipchaaLBTM26
import Derived.Test.YtoglgeaiiipchaaLBTM1
import Derived.Test.YtoglgeaiiipchaaLBTM3
import Derived.Test.YtoglgeaiiipchaaLBTM4
import Derived.Deep.RegionLaw
import Derived.Deep.CutBlock
import Derived.Deep.DeepCutAuto
set_option linter.unusedSimpArgs false
set_option linter.unusedVariables false
namespace Go.Proofs.Ytoglgeaiiipchaa
open Go Go.RowKit Go.Shelf Go.Sort

theorem at_loop {l : La} (hp : 0 < l.l.length) (i : Nat) : l.at (l.h.length + i) = l.l.getD (i % l.l.length) 0 := by
  unfold La.at
  rw [if_neg (by omega), show l.h.length + i - l.h.length = i by omega]
theorem same_iff {l : La} (hp : 0 < l.l.length) {n : Nat} : turnsV l.l n = true ↔ ∀ i, i < l.l.length → l.at (l.h.length + i) = l.at (l.h.length + i + n) := by
  rw [turnsV_iff]
  constructor
  · intro h i hi
    rw [Nat.add_assoc, at_loop hp, at_loop hp, h i hi, Nat.mod_eq_of_lt hi]
  · intro h i hi
    have := h i hi
    rw [Nat.add_assoc, at_loop hp, at_loop hp, Nat.mod_eq_of_lt hi] at this
    exact this.symm
theorem LetterAtI_ (A B : Option Addr) (ca cb : Nat) (l : La) (p n : Nat) (w : World) (hh : Ints w 0 A ca l.h) (hl : Ints w 0 B cb l.l) (hne : l.l.length ≠ 0) (hp : p ≤ 1000000) (hn : n ≤ 1000000) :
    Calls Try.prog 18 #[.agg #[.slice A l.h.length ca, .slice B l.l.length cb], .int .i64 ((p : Int) + (n : Int))] w fun e w' => e = .returned (.int .i64 (l.at (p + n))) ∧ Below w.heap.size w w' := by
  have := LetterAtB_ A B ca cb l (p + n) w hh hl hne (by omega)
  rwa [show ((p + n : Nat) : Int) = (p : Int) + (n : Int) by omega] at this
theorem LetterAtM_ (A B : Option Addr) (ca cb : Nat) (l : La) (k : Nat) (w : World) (hh : Ints w 0 A ca l.h) (hl : Ints w 0 B cb l.l) (hne : l.l.length ≠ 0) (h0 : 0 < k) (hk : k ≤ 1000000) :
    Calls Try.prog 18 #[.agg #[.slice A l.h.length ca, .slice B l.l.length cb], .int .i64 ((k : Int) - 1)] w fun e w' => e = .returned (.int .i64 (l.at (k - 1))) ∧ Below w.heap.size w w' := by
  have := LetterAtB_ A B ca cb l (k - 1) w hh hl hne (by omega)
  rwa [show ((k - 1 : Nat) : Int) = (k : Int) - 1 by omega] at this
theorem LetterAtN_ (A B : Option Addr) (ca cb : Nat) (l : La) (k n : Nat) (w : World) (hh : Ints w 0 A ca l.h) (hl : Ints w 0 B cb l.l) (hne : l.l.length ≠ 0) (h0 : 0 < k) (hk : k ≤ 1000000) (hn : n ≤ 1000000) :
    Calls Try.prog 18 #[.agg #[.slice A l.h.length ca, .slice B l.l.length cb], .int .i64 ((k : Int) - 1 + (n : Int))] w fun e w' => e = .returned (.int .i64 (l.at (k - 1 + n))) ∧ Below w.heap.size w w' := by
  have := LetterAtB_ A B ca cb l (k - 1 + n) w hh hl hne (by omega)
  rwa [show ((k - 1 + n : Nat) : Int) = (k : Int) - 1 + (n : Int) by omega] at this
def LaPost (w : World) (m : La) (e : Ending) (w' : World) : Prop :=
  ∃ A B ca cb, e = .returned (.agg #[.slice A m.h.length ca, .slice B m.l.length cb]) ∧ Ints w' w.heap.size A ca m.h ∧ Ints w' w.heap.size B cb m.l ∧ Below w.heap.size w w'
/-- the world in which a lasso and a lasso to hand back stand in variables -/
def loW (w : World) (A B : Option Addr) (ca cb : Nat) (l : La) : World := (w.alloc (Obj.cells #[Value.slice A l.h.length ca, Value.slice B l.l.length cb] 26)).alloc (Obj.cells #[Value.slice none 0 0, Value.slice none 0 0] 26)
structure LoW (w W : World) (A B : Option Addr) (ca cb : Nat) (l : La) : Prop where
  below : Below w.heap.size w W
  size : W.heap.size = w.heap.size + 1 + 1
  l0 : W.cell? ⟨w.heap.size, 0, none⟩ = some (.slice A l.h.length ca)
  l1 : W.cell? ⟨w.heap.size, 1, none⟩ = some (.slice B l.l.length cb)
  r0 : W.cell? ⟨w.heap.size + 1, 0, none⟩ = some (.slice none 0 0)
  r1 : W.cell? ⟨w.heap.size + 1, 1, none⟩ = some (.slice none 0 0)
  f0 : W.frozen? ⟨w.heap.size + 1, 0, none⟩ = false
  f1 : W.frozen? ⟨w.heap.size + 1, 1, none⟩ = false
theorem loW_is (w : World) (A B : Option Addr) (ca cb : Nat) (l : La) : LoW w (loW w A B ca cb l) A B ca cb l := by
  unfold loW
  refine ⟨by go_grown, by simp, ?_, ?_, ?_, ?_, ?_, ?_⟩ <;> go_simp
theorem leastN_here {P : Nat → Bool} {L : Nat} : ∀ (m k n : Nat), 0 < k → k ≤ n → n ≤ L → L ≤ k + m → (∀ j, k ≤ j → j < n → P j = false) → (n < L → P n = true) → firstTurn P L m k = n
  | 0, k, n, _, h1, h2, h3, _, _ => by unfold firstTurn; omega
  | m + 1, k, n, h0, h1, h2, h3, hn, hp => by
    unfold firstTurn
    by_cases h : L ≤ k
    · rw [if_pos h]; omega
    · rw [if_neg h]
      by_cases hkn : k = n
      · subst hkn
        rw [hp (by omega)]
        rfl
      · rw [hn k (Nat.le_refl _) (by omega)]
        simp only [Bool.false_eq_true, if_false]
        exact leastN_here m (k + 1) n (by omega) (by omega) h2 (by omega) (fun j h4 h5 => hn j (by omega) h5) hp

/-- the world in which the answer stands in a variable -/
def outW (w : World) : World := w.alloc (Obj.cells #[Value.slice none 0 0, Value.slice none 0 0] 26)
structure OutW (w W : World) (B G : Nat) : Prop where
  le : B ≤ G
  below : Below w.heap.size w W
  size : W.heap.size = G + 1
  c0 : W.cell? ⟨G, 0, none⟩ = some (.slice none 0 0)
  c1 : W.cell? ⟨G, 1, none⟩ = some (.slice none 0 0)
  f0 : W.frozen? ⟨G, 0, none⟩ = false
  f1 : W.frozen? ⟨G, 1, none⟩ = false
theorem outW_is (w : World) (B : Nat) (h : B ≤ w.heap.size) : OutW w (outW w) B w.heap.size := by
  unfold outW
  refine ⟨h, by go_grown, by simp, ?_, ?_, ?_, ?_⟩ <;> go_simp
theorem lo_end {w W0 w10 wr : World} {V G H2 k n c c' : Nat} {l : La} {T T' : Option Addr} {v0 v1 : Value} (hV : V = w.heap.size) (hb : Below V w W0) (hG : V + 1 < G)
    {v0W : World} (h9 : OutV v0W 3 G (G + 1) 0 1 v0 k (vals l.at 0 k) T c w10) (hH : H2 = w10.heap.size) (h11 : OutV w10 3 G H2 1 0 v1 n (vals l.at k n) T' c' wr) (hb11 : Below W0.heap.size W0 wr) (hV2 : V + 1 < W0.heap.size)
    (hn : leastN l = n) (hk : downK l.at n l.h.length = k) (hk4 : k ≤ 4000) (hn4 : n ≤ 4000) :
    LaPost w (leastOf l) (.returned (.agg #[.slice T k c, .slice T' n c'])) ((wr.setCell ⟨V + 1, 0, none⟩ (.slice T k c)).setCell ⟨V + 1, 1, none⟩ (.slice T' n c')) := by
  have i1 := ints_of_vals h9.own (by omega)
  have i2 := ints_of_vals h11.own (by omega)
  have e : leastOf l = ⟨valsL l.at 0 k, valsL l.at k n⟩ := by
    unfold leastOf valsL
    rw [hn, hk]
    simp
  have hl1 : (valsL l.at 0 k).length = k := by simp [valsL]
  have hl2 : (valsL l.at k n).length = n := by simp [valsL]
  have hlt := h11.lt
  have hle := h11.le
  rw [e]
  refine ⟨T, T', c, c', by simp only [hl1, hl2], ?_, ?_, ?_⟩
  · have h1 := i1.kept (w' := wr) (by rw [← hH]; exact h11.kept)
    have h2 := h1.kept (Kept.set _ _ _ (p := ⟨V + 1, 0, none⟩) (.slice T k c) (.inl (by show V + 1 < _; omega)))
    exact (h2.kept (Kept.set _ _ _ (p := ⟨V + 1, 1, none⟩) (.slice T' n c') (.inl (by show V + 1 < _; omega)))).low (by omega)
  · have h2 := i2.kept (Kept.set _ _ _ (p := ⟨V + 1, 0, none⟩) (.slice T k c) (.inl (by show V + 1 < _; omega)))
    exact (h2.kept (Kept.set _ _ _ (p := ⟨V + 1, 1, none⟩) (.slice T' n c') (.inl (by show V + 1 < _; omega)))).low (by omega)
  · rw [← hV]
    exact (((hb.trans (hb11.mono (by omega))).setCell (p := ⟨V + 1, 0, none⟩) (by show V ≤ V + 1; omega) _).setCell (p := ⟨V + 1, 1, none⟩) (by show V ≤ V + 1; omega) _)
theorem lo_cells {wr : World} {X : Nat} {a b u v : Value} (h0 : wr.cell? ⟨X, 0, none⟩ = some a) (h1 : wr.cell? ⟨X, 1, none⟩ = some b) :
    ((wr.setCell ⟨X, 0, none⟩ u).setCell ⟨X, 1, none⟩ v).cell? ⟨X, 0, none⟩ = some u ∧ ((wr.setCell ⟨X, 0, none⟩ u).setCell ⟨X, 1, none⟩ v).cell? ⟨X, 1, none⟩ = some v := by
  constructor
  · exact (World.cell?_setCell_other _ ⟨X, 1, none⟩ ⟨X, 0, none⟩ _ (by simp)).trans (World.cell?_setCell_same' _ _ _ (by rw [h0]; rfl))
  · exact World.cell?_setCell_same' _ _ _ (by rw [World.cell?_setCell_other _ ⟨X, 0, none⟩ ⟨X, 1, none⟩ _ (by simp), h1]; rfl)
set_option maxRecDepth 100000 in
set_option maxHeartbeats 2000000 in
theorem LeastOf_ (A B : Option Addr) (ca cb : Nat) (l : La) (w : World) (hh : Ints w 0 A ca l.h) (hl : Ints w 0 B cb l.l) (h4 : l.h.length ≤ 4000) (h5 : l.l.length ≤ 4000) (hp : 0 < l.l.length) :
    Calls Try.prog 17 #[.agg #[.slice A l.h.length ca, .slice B l.l.length cb]] w (LaPost w (leastOf l)) := by
  have HW := Lib.hid (loW_is w A B ca cb l)
  have HH := Lib.hid (hh.below HW.out.below)
  have HL := Lib.hid (hl.below HW.out.below)
  have hcph := hh.le
  have hcpl := hl.le
  have hcqh := hh.cap
  have hcql := hl.cap
  clear hh hl
  go_enter Try.func17, Try.ntmps17
  go_wp2_with fail
  change Code.wp _ _ _ _ (loW w A B ca cb l)
  generalize loW w A B ca cb l = W0 at *
  obtain ⟨V, hV⟩ : ∃ V, V = w.heap.size := ⟨_, rfl⟩
  have HWV : Hid (Below V w W0 ∧ V + 1 < W0.heap.size ∧ W0.cell? ⟨V, 0, none⟩ = some (.slice A l.h.length ca) ∧ W0.cell? ⟨V, 1, none⟩ = some (.slice B l.l.length cb) ∧
      W0.cell? ⟨V + 1, 0, none⟩ = some (.slice none 0 0) ∧ W0.cell? ⟨V + 1, 1, none⟩ = some (.slice none 0 0) ∧ W0.frozen? ⟨V + 1, 0, none⟩ = false ∧ W0.frozen? ⟨V + 1, 1, none⟩ = false) := by
    rw [hV]
    exact ⟨HW.out.below, by have := HW.out.size; omega, HW.out.l0, HW.out.l1, HW.out.r0, HW.out.r1, HW.out.f0, HW.out.f1⟩
  rw [← hV]
  have HV := Lib.hid hV
  clear hV HW
  have hV2 := HWV.out.2.1
  have hV1 : V < W0.heap.size := by omega
  obtain ⟨i0, hi0, hz0, hz1, hz2⟩ := info_parts infoInt
  go_loopw [4] (fun n wr => ∃ k : Nat, 0 < k ∧ k ≤ l.l.length ∧ n = .int .i64 k ∧ Below W0.heap.size W0 wr ∧ Hid (∀ j, 0 < j → j < k → turnsV l.l j = false)) (fun n _ => l.l.length - (intOf n).toNat)
  case atStart => exact ⟨1, by omega, by omega, rfl, Below.refl _ _, fun j h1 h2 => absurd h2 (by omega)⟩
  case round =>
    obtain ⟨n, hn0, hn, rfl, hb, HMIN⟩ := hrel
    have HB := Lib.hid hb
    have c0 := (cell_on3 hb (b := V) (o := 0) (by omega)).trans HWV.out.2.2.1
    have c1 := (cell_on3 hb (b := V) (o := 1) (by omega)).trans HWV.out.2.2.2.1
    clear hb
    go_wp2_with fail
    obtain ⟨wo, rfl⟩ : ∃ wo : World, wo = wr := ⟨_, rfl⟩
    go_loopw [5, 6] (fun s i wr => ∃ (j : Nat) (b : Bool), j ≤ l.l.length ∧ i = .int .i64 ((l.h.length + j : Nat) : Int) ∧ s = .bool b ∧ Below W0.heap.size W0 wr ∧ Hid (b = true → ∀ i, i < j → l.at (l.h.length + i) = l.at (l.h.length + i + n)) ∧ Hid (b = false → turnsV l.l n = false)) (fun _ i _ => l.h.length + l.l.length - (intOf i).toNat)
    case atStart => exact ⟨0, true, by omega, rfl, rfl, HB.out, fun _ i h => absurd h (by omega), fun h => by cases h⟩
    case round =>
      obtain ⟨j, b, hj, rfl, rfl, hb, HT, HF⟩ := hrel
      have HB1 := Lib.hid hb
      have d0 := (cell_on3 hb (b := V) (o := 0) (by omega)).trans HWV.out.2.2.1
      have d1 := (cell_on3 hb (b := V) (o := 1) (by omega)).trans HWV.out.2.2.2.1
      have hwz : V + 1 < wr.heap.size := by have := hb.size; omega
      clear hb
      by_cases hjl : j < l.l.length
      · have hlt1 : ((l.h.length + j : Nat) : Int) < (l.h.length : Int) + (l.l.length : Int) := by omega
        cases b with
        | true =>
          obtain ⟨p, hpp⟩ : ∃ p, p = l.h.length + j := ⟨_, rfl⟩
          rw [← hpp] at hlt1 ⊢
          have hplt : p ≤ 8000 := by omega
          have hnlt : n ≤ 4000 := by omega
          have HPP := Lib.hid hpp
          clear hpp
          have C1 := Lib.hid (regrown_call (w := wr) fun W hW => LetterAtB_ A B ca cb l p W (HH.out.below (HB1.out.trans (hW.mono HB1.out.size))) (HL.out.below (HB1.out.trans (hW.mono HB1.out.size))) (by omega) (by omega))
          have C2 := Lib.hid (regrown_call (w := wr) fun W hW => LetterAtI_ A B ca cb l p n W (HH.out.below (HB1.out.trans (hW.mono HB1.out.size))) (HL.out.below (HB1.out.trans (hW.mono HB1.out.size))) (by omega) (by omega) (by omega))
          have e0 := cell_regrown d0
          have e1 := cell_regrown d1
          obtain ⟨x, hx⟩ : ∃ x, x = l.at p := ⟨_, rfl⟩
          obtain ⟨y, hy⟩ : ∃ y, y = l.at (p + n) := ⟨_, rfl⟩
          rw [← hx] at C1
          rw [← hy] at C2
          have HX := Lib.hid hx
          have HY := Lib.hid hy
          clear hx hy
          go_wp2_with fail
          refine wp_region_quiet_below (by kernel_rfl) (by kernel_rfl) ?_
          repeat (go_big_quiet_step (first | with_reducible exact C1.out _ _ | with_reducible exact C2.out _ _))
          refine wpQuiet_nil ?_
          intro _ hw'
          obtain ⟨⟨dq, osq⟩, hw''⟩ := hw'
          subst hw''
          have HB2 := Lib.hid (regrown_on HB1.out HB1.out.size dq osq)
          clear e0 e1
          generalize grow (redrawn wr dq) osq = w2 at *
          go_wp2_with fail
          go_roundw
          case rel =>
            refine ⟨j + 1, x == y, by omega, ?_, rfl, HB2.out, fun h => ?_, fun h => ?_⟩
            · have := HPP.out
              rw [show ((l.h.length + (j + 1) : Nat) : Int) = (p : Int) + 1 by omega]
            · intro i hi
              rcases Nat.lt_or_ge i j with h1 | h1
              · exact HT.out trivial i h1
              · obtain rfl : i = j := by omega
                rw [← HPP.out, ← HX.out, ← HY.out]
                simpa using h
            · cases ht : turnsV l.l n with
              | false => rfl
              | true =>
                have := (same_iff hp).1 ht j hjl
                rw [← HPP.out, ← HX.out, ← HY.out] at this
                rw [this] at h
                simp at h
          case measure =>
            have := HPP.out
            simp [intOf]
            omega
        | false =>
          have hnl : n < l.l.length := by
            rcases Nat.lt_or_ge n l.l.length with h | h
            · exact h
            · have e : n = l.l.length := by omega
              have := HF.out rfl
              rw [e, turnsV_len] at this
              cases this
          go_wp2_with fail
          go_roundw
          case rel =>
            refine ⟨n + 1, by omega, by omega, by go_num, HB1.out, fun i h1 h2 => ?_⟩
            rcases Nat.lt_or_ge i n with h3 | h3
            · exact HMIN.out i h1 h3
            · obtain rfl : i = n := by omega
              exact HF.out (by first | trivial | rfl)
          case measure => simp [intOf]; omega
      · have hjl2 : ¬ ((l.h.length + j : Nat) : Int) < (l.h.length : Int) + (l.l.length : Int) := by omega
        cases b with
        | false =>
          have hnl : n < l.l.length := by
            rcases Nat.lt_or_ge n l.l.length with h | h
            · exact h
            · have e : n = l.l.length := by omega
              have := HF.out rfl
              rw [e, turnsV_len] at this
              cases this
          go_wp2_with fail
          go_roundw
          case rel =>
            refine ⟨n + 1, by omega, by omega, by go_num, HB1.out, fun i h1 h2 => ?_⟩
            rcases Nat.lt_or_ge i n with h3 | h3
            · exact HMIN.out i h1 h3
            · obtain rfl : i = n := by omega
              exact HF.out (by first | trivial | rfl)
          case measure => simp [intOf]; omega
        | true =>
          have HL1 : Hid (leastN l = n) := leastN_here _ 1 n (by decide) hn0 hn (by omega) (fun i h1 h2 => HMIN.out i h1 h2) (fun _ => (same_iff hp).2 fun i hi => HT.out rfl i (by omega))
          clear HT HF
          go_upto_block 4 with fail
          go_cut [7] (fun s wx => ∃ k : Nat, k ≤ l.h.length ∧ s = .int .i64 k ∧ Below W0.heap.size W0 wx ∧ Hid (downK l.at n l.h.length = k))
          case first =>
            go_wp2_with fail
            obtain ⟨w3, rfl⟩ : ∃ w3 : World, w3 = wr := ⟨_, rfl⟩
            go_loopw [7] (fun s wr => ∃ k : Nat, k ≤ l.h.length ∧ s = .int .i64 k ∧ Below W0.heap.size W0 wr ∧ Hid (downK l.at n k = downK l.at n l.h.length)) (fun s _ => (intOf s).toNat)
            case atStart => exact ⟨_, Nat.le_refl _, rfl, HB1.out, rfl⟩
            case round =>
              obtain ⟨k, hk, rfl, hb, HK⟩ := hrel
              have HB4 := Lib.hid hb
              have f0 := (cell_on3 hb (b := V) (o := 0) (by omega)).trans HWV.out.2.2.1
              have f1 := (cell_on3 hb (b := V) (o := 1) (by omega)).trans HWV.out.2.2.2.1
              have hwz4 : V + 1 < wr.heap.size := by have := hb.size; omega
              clear hb d0 d1 c0 c1
              by_cases hk0 : 0 < k
              · have C1 := Lib.hid (regrown_call (w := wr) fun W hW => LetterAtM_ A B ca cb l k W (HH.out.below (HB4.out.trans (hW.mono HB4.out.size))) (HL.out.below (HB4.out.trans (hW.mono HB4.out.size))) (by omega) hk0 (by omega))
                have C2 := Lib.hid (regrown_call (w := wr) fun W hW => LetterAtN_ A B ca cb l k n W (HH.out.below (HB4.out.trans (hW.mono HB4.out.size))) (HL.out.below (HB4.out.trans (hW.mono HB4.out.size))) (by omega) hk0 (by omega) (by omega))
                have e0 := cell_regrown f0
                have e1 := cell_regrown f1
                obtain ⟨x, hx⟩ : ∃ x, x = l.at (k - 1) := ⟨_, rfl⟩
                obtain ⟨y, hy⟩ : ∃ y, y = l.at (k - 1 + n) := ⟨_, rfl⟩
                rw [← hx] at C1
                rw [← hy] at C2
                have HX := Lib.hid hx
                have HY := Lib.hid hy
                clear hx hy
                have hk4 : k ≤ 4000 := by omega
                have hn4 : n ≤ 4000 := by omega
                go_wp2_with fail
                refine wp_region_quiet_below (by kernel_rfl) (by kernel_rfl) ?_
                repeat (go_big_quiet_step (first | with_reducible exact C1.out _ _ | with_reducible exact C2.out _ _))
                refine wpQuiet_nil ?_
                intro _ hw'
                obtain ⟨⟨dq, osq⟩, hw''⟩ := hw'
                subst hw''
                have HB5 := Lib.hid (regrown_on HB4.out HB4.out.size dq osq)
                clear e0 e1 f0 f1
                generalize grow (redrawn wr dq) osq = w5 at *
                by_cases hxy : x = y
                · have hxy1 : (x == y) = true := by simpa using hxy
                  have HXY := Lib.hid hxy
                  clear hxy
                  go_wp2_with fail
                  go_roundw
                  case rel =>
                    refine ⟨k - 1, by omega, ?_, HB5.out, ?_⟩
                    · rw [show ((k - 1 : Nat) : Int) = (k : Int) - 1 by omega]
                    · show _ = _
                      rw [← HK.out]
                      obtain ⟨m, rfl⟩ : ∃ m, k = m + 1 := ⟨k - 1, by omega⟩
                      have h1 := HX.out
                      have h2 := HY.out
                      rw [Nat.add_sub_cancel] at h1 h2 ⊢
                      conv => rhs; unfold downK
                      rw [if_pos (by rw [← h1, ← h2]; exact HXY.out)]
                  case measure =>
                    have e : ((k : Int) - 1) = ((k - 1 : Nat) : Int) := by omega
                    simp only [intOf]
                    omega
                · have hxy1 : (x == y) = false := by simpa using hxy
                  have HKF : Hid (downK l.at n l.h.length = k) := by
                    show _ = _
                    rw [← HK.out]
                    obtain ⟨m, rfl⟩ : ∃ m, k = m + 1 := ⟨k - 1, by omega⟩
                    have h1 := HX.out
                    have h2 := HY.out
                    rw [Nat.add_sub_cancel] at h1 h2
                    unfold downK
                    rw [if_neg (by rw [← h1, ← h2]; exact hxy)]
                  clear hxy HX HY HK C1 C2
                  go_wp2_with fail
                  go_meet
                  exact ⟨k, hk, rfl, HB5.out, HKF⟩
              · have hk00 : k = 0 := by omega
                have HKF : Hid (downK l.at n l.h.length = k) := by
                  show _ = _
                  rw [← HK.out, hk00]
                  rfl
                have hk02 : decide (0 < k) = false := decide_eq_false hk0
                clear HK hk00
                go_wp2_with fail
                refine wp_region_quiet_below (by kernel_rfl) (by kernel_rfl) ?_
                repeat (go_big_quiet_step (fail))
                refine wpQuiet_nil ?_
                intro _ hw'
                obtain ⟨⟨dq, osq⟩, hw''⟩ := hw'
                subst hw''
                have HB5 := Lib.hid (regrown_on HB4.out HB4.out.size dq osq)
                clear f0 f1
                generalize grow (redrawn wr dq) osq = w5 at *
                go_wp2_with fail
                go_meet
                exact ⟨k, hk, rfl, HB5.out, HKF⟩
          case rest =>
            obtain ⟨k, hk, rfl, hb5, HKF⟩ := hcut
            obtain ⟨w5, rfl⟩ : ∃ w5 : World, w5 = wc := ⟨_, rfl⟩
            have hk4 : k ≤ 4000 := by omega
            have hn4 : n ≤ 4000 := by omega
            have hwz5 : V + 1 < w5.heap.size := by have := hb5.size; omega
            have HOUT := Lib.hid (outW_is w5 W0.heap.size hb5.size)
            have HB5 := Lib.hid hb5
            clear hb5 d0 d1 c0 c1
            go_wp2_with fail
            change Code.wp _ _ _ _ (outW w5)
            obtain ⟨G, hG⟩ : ∃ G, G = w5.heap.size := ⟨_, rfl⟩
            rw [← hG] at HOUT ⊢
            have HBG : Hid (Below W0.heap.size W0 (outW w5)) := Below_on HB5.out HOUT.out.below HB5.out.size
            generalize outW w5 = W6 at *
            have HO0 : Hid (OutV W6 3 G (G + 1) 0 1 (.slice none 0 0) 0 (vals l.at 0 0) none 0 W6) := ⟨Below.refl _ _, Kept.refl _ _ _, by omega, by have := HOUT.out.size; omega, World.ownsRow_nil _ _ _ _, HOUT.out.c0, HOUT.out.c1, HOUT.out.f0, HOUT.out.f1⟩
            have hGV : V + 1 < G := by omega
            have hGW : W0.heap.size ≤ G := HOUT.out.le
            clear hwz5
            clear hG HOUT HB5
            go_loopw [9] (fun s wr => ∃ (i : Nat) (T : Option Addr) (c : Nat), i ≤ k ∧ s = .int .i64 i ∧ Hid (OutV W6 3 G (G + 1) 0 1 (.slice none 0 0) i (vals l.at 0 i) T c wr)) (fun s _ => k - (intOf s).toNat)
            case atStart => exact ⟨0, none, 0, Nat.zero_le _, rfl, HO0.out⟩
            case round =>
              obtain ⟨i, T, c, hi, rfl, HV9⟩ := hrel
              have HB9 : Hid (Below W0.heap.size W0 wr) := Below_on HBG.out (HV9.out.below.mono hGW) (by omega)
              have c3 := (cell_on3 HB9.out (b := V) (o := 0) hV1).trans HWV.out.2.2.1
              have c4 := (cell_on3 HB9.out (b := V) (o := 1) hV1).trans HWV.out.2.2.2.1
              have c5 := HV9.out.c
              by_cases hik : i < k
              · obtain ⟨x9, hx9⟩ : ∃ x, x = l.at i := ⟨_, rfl⟩
                have C9 := Lib.hid (fun W hW => LetterAtB_ A B ca cb l i W (HH.out.below (HB9.out.trans ((show Below wr.heap.size wr W from hW).mono HB9.out.size))) (HL.out.below (HB9.out.trans ((show Below wr.heap.size wr W from hW).mono HB9.out.size))) (by omega) (by omega))
                rw [← hx9] at C9
                have HX9 := Lib.hid hx9
                obtain ⟨cells, hcells⟩ : ∃ c, c = vals l.at 0 i := ⟨_, rfl⟩
                rw [← hcells] at HV9
                have HC9 := Lib.hid hcells
                have m1 : i + 1 ≤ maxLen := by simp only [maxLen]; omega
                have m2 : (i + 1) * 8 ≤ 140737488355328 := by omega
                clear hx9 hcells
                go_wp2_with fail
                go_region_law (first
                  | (refine step_app (w7.alloc (Obj.cells #[.int .i64 x9] 3)) rfl (.tmp 69) (.tmp 73) _ rfl (G + 1) 3 i0 _ 1 8 Try.underlying24 hi0 hz0 hz1 hz2 rfl (by decide) (.slice T i c) i cells (by go_simp) HOWN9.out (some ⟨w7.heap.size, 0, none⟩) 1 1 [.int .i64 x9] (by go_simp) rfl HRD9.out (by simp [Value.oneCell']) m1 m2 hbase9 ?_; intro v9 w9 hown9 hg9 hat9; obtain ⟨A9, c9, hv9, _⟩ := own_form hown9; subst hv9; obtain ⟨q5, q6⟩ := q9 w9 hg9)
                  | (go_simp; go_at_call 18; refine (C9.out _ (Below.refl _ _).drew).mono ?_; rintro e w7 ⟨rfl, hb7'⟩; have hb7 : Below wr.heap.size wr w7 := (Below.refl _ wr).drew.trans hb7'; obtain ⟨q1, HOWN9, HRD9, hbase9, q4, q4n, q9⟩ := fld_mid #[.int .i64 x9] (by omega) (by have := HV9.out.lt; have := HV9.out.le; omega) HV9.out.le HV9.out.own HV9.out.c HV9.out.f hb7))
                all_goals
                  have HN9 := Lib.hid (HV9.out.step hb7 hown9 hg9 (by decide) q5)
                  clear hown9 hg9 hat9 q5 q6 q4 q4n q9 q1 hbase9 hb7 hb7'
                  go_wp2_with fail
                  go_roundw
                  case rel => exact ⟨i + 1, A9, c9, by omega, by go_num, by rw [vals_succ, Nat.zero_add, ← HX9.out, ← HC9.out]; exact HN9.out⟩
                  case measure => simp [intOf]; omega
              · obtain rfl : i = k := by omega
                have HH9 : Hid (∃ H2, H2 = wr.heap.size ∧ OutV wr 3 G H2 1 0 (.slice T i c) 0 (vals l.at i 0) none 0 wr) :=
                  ⟨_, rfl, Below.refl _ _, Kept.refl _ _ _, by have := HV9.out.lt; have := HV9.out.le; omega, Nat.le_refl _, World.ownsRow_nil _ _ _ _, HV9.out.c', HV9.out.c, HV9.out.f', HV9.out.f⟩
                go_wp2_with fail
                obtain ⟨w10, rfl⟩ : ∃ w10 : World, w10 = wr := ⟨_, rfl⟩
                obtain ⟨H2, hH2, ho10⟩ := HH9.out
                have HO10 := Lib.hid ho10
                have HH2 := Lib.hid hH2
                clear hH2 ho10 HH9
                go_loopw [10] (fun s wr => ∃ (m : Nat) (T' : Option Addr) (c' : Nat), m ≤ n ∧ s = .int .i64 ((i + m : Nat) : Int) ∧ Hid (OutV w10 3 G H2 1 0 (.slice T i c) m (vals l.at i m) T' c' wr)) (fun s _ => i + n - (intOf s).toNat)
                case atStart => exact ⟨0, none, 0, Nat.zero_le _, rfl, HO10.out⟩
                case round =>
                  obtain ⟨m, T', c', hm, rfl, HV11⟩ := hrel
                  clear c3 c4 c5
                  have HB11 : Hid (Below W0.heap.size W0 wr) := Below_on HB9.out (HV11.out.below.mono hGW) (Nat.le_refl _)
                  have c3 := (cell_on3 HB11.out (b := V) (o := 0) hV1).trans HWV.out.2.2.1
                  have c4 := (cell_on3 HB11.out (b := V) (o := 1) hV1).trans HWV.out.2.2.2.1
                  have c5 := HV11.out.c
                  have c6 := HV11.out.c'
                  obtain ⟨p, hpp⟩ : ∃ p, p = i + m := ⟨_, rfl⟩
                  rw [← hpp]
                  have hp8 : p ≤ 8000 := by omega
                  by_cases him : m < n
                  · have hlt9 : p < i + n := by omega
                    have HPP := Lib.hid hpp
                    obtain ⟨x9, hx9⟩ : ∃ x, x = l.at p := ⟨_, rfl⟩
                    have C9 := Lib.hid (fun W hW => LetterAtB_ A B ca cb l p W (HH.out.below (HB11.out.trans ((show Below wr.heap.size wr W from hW).mono HB11.out.size))) (HL.out.below (HB11.out.trans ((show Below wr.heap.size wr W from hW).mono HB11.out.size))) (by omega) (by omega))
                    rw [← hx9] at C9
                    have HX9 := Lib.hid hx9
                    obtain ⟨cells, hcells⟩ : ∃ c, c = vals l.at i m := ⟨_, rfl⟩
                    rw [← hcells] at HV11
                    have HC9 := Lib.hid hcells
                    have m1 : m + 1 ≤ maxLen := by simp only [maxLen]; omega
                    have m2 : (m + 1) * 8 ≤ 140737488355328 := by omega
                    clear hx9 hcells hpp hp8
                    go_wp2_with fail
                    go_region_law (first
                      | (refine step_app (w7.alloc (Obj.cells #[.int .i64 x9] 3)) rfl (.tmp 85) (.tmp 89) _ rfl H2 3 i0 _ 1 8 Try.underlying24 hi0 hz0 hz1 hz2 rfl (by decide) (.slice T' m c') m cells (by go_simp) HOWN9.out (some ⟨w7.heap.size, 0, none⟩) 1 1 [.int .i64 x9] (by go_simp) rfl HRD9.out (by simp [Value.oneCell']) m1 m2 hbase9 ?_; intro v9 w9 hown9 hg9 hat9; obtain ⟨A9, c9, hv9, _⟩ := own_form hown9; subst hv9; obtain ⟨q5, q6⟩ := q9 w9 hg9)
                      | (go_simp; go_at_call 18; refine (C9.out _ (Below.refl _ _).drew).mono ?_; rintro e w7 ⟨rfl, hb7'⟩; have hb7 : Below wr.heap.size wr w7 := (Below.refl _ wr).drew.trans hb7'; obtain ⟨q1, HOWN9, HRD9, hbase9, q4, q4n, q9⟩ := fld_mid #[.int .i64 x9] HV11.out.lt (by have := HV11.out.lt; have := HV11.out.le; omega) HV11.out.le HV11.out.own HV11.out.c HV11.out.f hb7))
                    all_goals
                      have HN9 := Lib.hid (HV11.out.step hb7 hown9 hg9 (by decide) q5)
                      clear hown9 hg9 hat9 q5 q6 q4 q4n q9 q1 hbase9 hb7 hb7'
                      go_wp2_with fail
                      go_roundw
                      case rel =>
                        have := HPP.out
                        exact ⟨m + 1, A9, c9, by omega, by rw [show ((i + (m + 1) : Nat) : Int) = (p : Int) + 1 by omega], by rw [vals_succ, ← HPP.out, ← HX9.out, ← HC9.out]; exact HN9.out⟩
                      case measure =>
                        have := HPP.out
                        simp [intOf]
                        omega
                  · have hlt9 : ¬ (p : Int) < (i : Int) + (n : Int) := by omega
                    obtain rfl : m = n := by omega
                    have HPP := Lib.hid hpp
                    clear hpp
                    have g0 := (cell_on3 HB11.out (b := V + 1) (o := 0) hV2).trans HWV.out.2.2.2.2.1
                    have g1 := (cell_on3 HB11.out (b := V + 1) (o := 1) hV2).trans HWV.out.2.2.2.2.2.1
                    have z0 := (HB11.out.frozen (p := ⟨V + 1, 0, none⟩) hV2).trans HWV.out.2.2.2.2.2.2.1
                    have z1 := (HB11.out.frozen (p := ⟨V + 1, 1, none⟩) hV2).trans HWV.out.2.2.2.2.2.2.2
                    have HEND : Hid (LaPost w (leastOf l) (.returned (.agg #[.slice T i c, .slice T' m c'])) ((wr.setCell ⟨V + 1, 0, none⟩ (.slice T i c)).setCell ⟨V + 1, 1, none⟩ (.slice T' m c'))) :=
                      lo_end HV.out HWV.out.1 hGV HV9.out HH2.out HV11.out HB11.out hV2 HL1.out HKF.out hk4 hn4
                    have HCC := Lib.hid (lo_cells (u := .slice T i c) (v := .slice T' m c') g0 g1)
                    clear him hm hik hi
                    go_wp2_with fail
                    have r0 := HCC.out.1
                    have r1 := HCC.out.2
                    exact bodyPost_ret (v := .agg #[.slice T i c, .slice T' m c']) (by simp [results, Try.results17, go_sem, r0, r1]) rfl HEND.out
end Go.Proofs.Ytoglgeaiiipchaa
