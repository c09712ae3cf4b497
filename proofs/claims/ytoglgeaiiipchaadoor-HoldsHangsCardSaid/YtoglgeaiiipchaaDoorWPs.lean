/- Walks: the program's parser: sign, need, put. -/
import Derived.Test.YtoglgeaiiipchaaDoorWNa
import Derived.Test.YtoglgeaiiipchaaDoorQB
import Derived.Test.YtoglgeaiiipchaaDoorFld
import Derived.Deep.RegionLaw
namespace Go.Proofs.YtoglgeaiiipchaaDoor
open Go Go.RowKit Go.Sort

structure PsAt (X : Nat) (S : ByteArray) (i : Nat) (o : List Nd) (W : World) : Prop where
  lt : X < W.heap.size
  c0 : W.cell? ⟨X, 0, none⟩ = some (.string S)
  c1 : W.cell? ⟨X, 1, none⟩ = some (.int .i64 (i : Int))
  f1 : W.frozen? ⟨X, 1, none⟩ = false
  f2 : W.frozen? ⟨X, 2, none⟩ = false
  own : ∃ T c, W.cell? ⟨X, 2, none⟩ = some (.slice T o.length c) ∧ W.ownsRow (X + 1) 45 4 (.slice T o.length c) o.length (o.flatMap Nd.cells)
theorem PsAt.below {X : Nat} {S : ByteArray} {i : Nat} {o : List Nd} {W W' : World} (h : PsAt X S i o W) (hb : Below W.heap.size W W') : PsAt X S i o W' := by
  obtain ⟨T, c, h1, h2⟩ := h.own
  exact ⟨Nat.lt_of_lt_of_le h.lt hb.size, (hb.cell (p := ⟨X, 0, none⟩) h.lt).trans h.c0, (hb.cell (p := ⟨X, 1, none⟩) h.lt).trans h.c1, (hb.frozen (p := ⟨X, 1, none⟩) h.lt).trans h.f1, (hb.frozen (p := ⟨X, 2, none⟩) h.lt).trans h.f2,
    T, c, (hb.cell (p := ⟨X, 2, none⟩) h.lt).trans h1, own_below h2 hb⟩
theorem PsAt.to {X : Nat} {S : ByteArray} {i : Nat} {o : List Nd} {W : World} (h : PsAt X S i o W) (j : Nat) : PsAt X S j o (W.setCell ⟨X, 1, none⟩ (.int .i64 (j : Int))) := by
  obtain ⟨T, c, h1, h2⟩ := h.own
  refine ⟨by simpa [World.setCell] using h.lt, ?_, ?_, ?_, ?_, T, c, ?_, ?_⟩
  · exact (World.cell?_setCell_other _ ⟨X, 1, none⟩ ⟨X, 0, none⟩ _ (by simp)).trans h.c0
  · exact World.cell?_setCell_same' _ _ _ (by rw [h.c1]; rfl)
  · rw [World.frozen?_setCell]; exact h.f1
  · rw [World.frozen?_setCell]; exact h.f2
  · exact (World.cell?_setCell_other _ ⟨X, 1, none⟩ ⟨X, 2, none⟩ _ (by simp)).trans h1
  · exact ownsRow_setCell_below h2 (Nat.lt_succ_self X) _
theorem set_below {X o : Nat} {W : World} (v : Value) : Below X W (W.setCell ⟨X, o, none⟩ v) := (Below.refl X W).setCell (p := ⟨X, o, none⟩) (Nat.le_refl _) _
def placeP (j : Nat) : Ending := .panicked [{ v := .iface 69 (.int .i64 (j : Int)), recovered := false }]
set_option maxRecDepth 100000 in
theorem sign_at (X : Nat) (s : List UInt8) (S : ByteArray) (hS : S.size = s.length) (hG : ∀ (i : Nat) (h : i < S.size), S[i]'h = chr s i) (hs : s.length ≤ 100000) (i : Nat) (o : List Nd) (W : World) (hp : PsAt X S i o W) :
    Calls Tryd.prog 58 #[.pointer (some ⟨X, 0, none⟩)] W fun e w' => e = .returned (.int .u8 ((chr s i).toNat : Int)) ∧ Below W.heap.size W w' := by
  obtain ⟨hx, c0, c1, -, -, -⟩ := hp
  by_cases hlt : i < s.length
  · have b0' : (i : Int) < (s.length : Int) := by omega
    have b0 : i < S.size := by omega
    have g0 := hG i b0
    clear hG
    generalize chr s i = ch at *
    go_enter Tryd.func58, Tryd.ntmps58
    go_wp2_with fail
    go_quiet (fail)
    go_wp2_with fail
    go_quiet (fail)
    go_wp2_with fail
    go_ret
    exact ⟨rfl, below_drewN (below_drewN (Below.refl _ _) _) _⟩
  · have hz : Hid (chr s i = 0) := by
      show _ = _
      unfold chr
      rw [List.getD_eq_getElem?_getD, List.getElem?_eq_none (by omega)]
      rfl
    have b1 : (s.length : Int) ≤ (i : Int) := by omega
    have b2 : decide ((i : Int) < (s.length : Int)) = false := by simp; omega
    clear hG
    go_enter Tryd.func58, Tryd.ntmps58
    go_wp2_with fail
    go_quiet (fail)
    go_wp2_with fail
    go_ret
    exact ⟨by rw [hz.out]; rfl, below_drewN (Below.refl _ _) _⟩
def NeedPost (X : Nat) (S : ByteArray) (o : List Nd) (W : World) (r : Except Nat Nat) (e : Ending) (w' : World) : Prop :=
  Below X W w' ∧ match r with
  | .ok j => e = .returned (.tuple #[]) ∧ PsAt X S j o w'
  | .error j => e = placeP j
theorem needs_drop {s r : List UInt8} {k i : Nat} (hk : k < r.length) : needs s (r.drop k) (i + k) = if i + k < s.length ∧ chr s (i + k) = chr r k then needs s (r.drop (k + 1)) (i + k + 1) else .error (i + k) := by
  have : chr r k = r[k] := by
    unfold chr
    rw [List.getD_eq_getElem?_getD, List.getElem?_eq_getElem hk]
    rfl
  rw [List.drop_eq_getElem_cons hk, this]
  rfl
set_option maxRecDepth 100000 in
set_option maxHeartbeats 1000000 in
theorem need_ (X : Nat) (s : List UInt8) (S : ByteArray) (hS : S.size = s.length) (hG : ∀ (i : Nat) (h : i < S.size), S[i]'h = chr s i) (hs : s.length ≤ 100000) (r : List UInt8) (R : ByteArray) (hR : R.size = r.length) (hGR : ∀ (i : Nat) (h : i < R.size), R[i]'h = chr r i) (hr : r.length ≤ 100)
    (i : Nat) (o : List Nd) (W : World) (hi : i ≤ s.length) (hp : PsAt X S i o W) :
    Calls Tryd.prog 59 #[.pointer (some ⟨X, 0, none⟩), .string R] W (NeedPost X S o W (needs s r i)) := by
  have HP := Lib.hid hp
  have HGR := Lib.hid hGR
  have HSG := Lib.hid (fun i o W hp => sign_at X s S hS hG hs i o W hp)
  clear hp hG hGR
  go_enter Tryd.func59, Tryd.ntmps59
  go_wp2_with fail
  go_loopw [7] (fun s7 wr => ∃ k : Nat, k ≤ r.length ∧ i + k ≤ s.length ∧ s7 = .int .i64 (k : Int) ∧ Hid (PsAt X S (i + k) o wr ∧ Below X W wr ∧ needs s r i = needs s (r.drop k) (i + k))) (fun s7 _ => r.length - (intOf s7).toNat)
  case atStart => exact ⟨0, Nat.zero_le _, hi, rfl, HP.out, Below.refl _ _, rfl⟩
  case round =>
    obtain ⟨k, hk, hik, rfl, HR⟩ := hrel
    by_cases hlt : k < r.length
    · have q1 : (k : Int) < (r.length : Int) := by omega
      have q2 : k < R.size := by omega
      have g1 := HGR.out k q2
      have HN : Hid (needs s r i = if i + k < s.length ∧ chr s (i + k) = chr r k then needs s (r.drop (k + 1)) (i + k + 1) else .error (i + k)) := HR.out.2.2.trans (needs_drop hlt)
      have HSI := Lib.hid (regrown_call (w := wr) fun W2 h2 => HSG.out (i + k) o W2 (HR.out.1.below h2))
      obtain ⟨hx, c0, c1, f1, f2, -⟩ := HR.out.1
      obtain ⟨p, hpe⟩ : ∃ p, p = i + k := ⟨_, rfl⟩
      rw [← hpe] at HN HSI hik c1
      have HPE := Lib.hid hpe
      clear hpe
      have e1 := cell_regrown (w := wr) (a := ⟨X, 1, none⟩) (v := .int .i64 (p : Int)) c1
      have e0 := cell_regrown (w := wr) (a := ⟨X, 0, none⟩) (v := .string S) c0
      have HBX : Hid (∀ w', Below wr.heap.size wr w' → PsAt X S p o w' ∧ Below X W w') := fun w' hb => by rw [HPE.out]; exact ⟨HR.out.1.below hb, Below_on HR.out.2.1 hb (Nat.le_of_lt HR.out.1.lt)⟩
      clear HSG HP
      by_cases hc : chr s p = chr r k
      · rw [hc] at HSI
        rw [hc] at HN
        generalize chr r k = ch at *
        have hd : ((ch.toNat : Int) != (ch.toNat : Int)) = false := by simp
        by_cases he : p = s.length
        · have HN2 : Hid (needs s r i = .error p) := by rw [HN.out, if_neg (fun h => by omega)]; rfl
          have hq : ((p : Int) == (s.length : Int)) = true := by simp [he]
          clear he HN
          go_upto_region 3 with fail
          refine wp_region_quiet_below (by kernel_rfl) (by kernel_rfl) ?_
          repeat (go_big_quiet_step (first | with_reducible exact HSI.out _ _))
          refine wpQuiet_nil ?_
          intro _ hw'
          obtain ⟨⟨dq, osq⟩, hw''⟩ := hw'
          subst hw''
          have HB4 := Lib.hid (HBX.out _ (below_regrown wr dq osq))
          clear e0 e1 c0 c1 f1 f2 HSI HBX
          generalize grow (redrawn wr dq) osq = w4 at *
          have c1 := HB4.out.1.c1
          go_wp2_with fail
          exact ⟨rfl, HB4.out.2, by rw [HN2.out]; rfl⟩
        · have HN2 : Hid (needs s r i = needs s (r.drop (k + 1)) (p + 1)) := by rw [HN.out, if_pos ⟨by omega, rfl⟩]; rfl
          have hq : ((p : Int) == (s.length : Int)) = false := by simp; omega
          have hpl : p + 1 ≤ s.length := by omega
          have d1 : IntKind.i64.wrap ((p : Int) + 1) = (p : Int) + 1 := IntWalk.i64_in _ (by omega)
          clear he HN
          go_upto_region 3 with fail
          refine wp_region_quiet_below (by kernel_rfl) (by kernel_rfl) ?_
          repeat (go_big_quiet_step (first | with_reducible exact HSI.out _ _))
          refine wpQuiet_nil ?_
          intro _ hw'
          obtain ⟨⟨dq, osq⟩, hw''⟩ := hw'
          subst hw''
          have HB4 := Lib.hid (HBX.out _ (below_regrown wr dq osq))
          clear e0 e1 c0 c1 f1 f2 HSI HBX
          generalize grow (redrawn wr dq) osq = w4 at *
          have c1 := HB4.out.1.c1
          have f1 := HB4.out.1.f1
          have HT : Hid (PsAt X S (i + (k + 1)) o (w4.setCell ⟨X, 1, none⟩ (.int .i64 ((p : Int) + 1)))) := by
            have := HB4.out.1.to (p + 1)
            rw [show i + (k + 1) = p + 1 by have := HPE.out; omega]
            exact this
          have HT2 : Hid (Below X W (w4.setCell ⟨X, 1, none⟩ (.int .i64 ((p : Int) + 1)))) := HB4.out.2.trans (set_below _)
          go_wp2_with fail
          go_roundw
          case rel => exact ⟨k + 1, by omega, by have := HPE.out; omega, by go_num, HT.out, HT2.out, by rw [HN2.out, show p + 1 = i + (k + 1) by have := HPE.out; omega]⟩
          case measure => simp [intOf]; omega
      · have HN2 : Hid (needs s r i = .error p) := by rw [HN.out, if_neg (fun h => hc h.2)]; rfl
        have hq : (((chr s p).toNat : Int) != ((chr r k).toNat : Int)) = true := (neForms hc).1
        clear HN
        generalize chr r k = ch at *
        generalize chr s p = ch2 at *
        clear hc
        go_upto_region 3 with fail
        refine wp_region_quiet_below (by kernel_rfl) (by kernel_rfl) ?_
        repeat (go_big_quiet_step (first | with_reducible exact HSI.out _ _))
        refine wpQuiet_nil ?_
        intro _ hw'
        obtain ⟨⟨dq, osq⟩, hw''⟩ := hw'
        subst hw''
        have HB4 := Lib.hid (HBX.out _ (below_regrown wr dq osq))
        clear e0 e1 c0 c1 f1 f2 HSI HBX
        generalize grow (redrawn wr dq) osq = w4 at *
        have c1 := HB4.out.1.c1
        go_wp2_with fail
        exact ⟨rfl, HB4.out.2, by rw [HN2.out]; rfl⟩
    · have HN2 : Hid (needs s r i = .ok (i + k)) := by
        show _ = _
        rw [HR.out.2.2, List.drop_of_length_le (by omega)]
        rfl
      have HRB := Lib.hid HR.out.2.1
      have HRA := Lib.hid HR.out.1
      have q1 : ¬ (k : Int) < (r.length : Int) := by omega
      clear HR
      go_wp2_with fail
      go_end0
      exact ⟨HRB.out, by rw [HN2.out]; exact ⟨rfl, HRA.out⟩⟩
def PutPost (X : Nat) (S : ByteArray) (i : Nat) (o : List Nd) (W : World) (e : Ending) (w' : World) : Prop :=
  e = .returned (.int .i64 ((o.length : Int) - 1)) ∧ PsAt X S i o w' ∧ Below X W w'
set_option maxRecDepth 100000 in
set_option maxHeartbeats 1000000 in
theorem put_ (X : Nat) (S : ByteArray) (i : Nat) (o : List Nd) (x : Nd) (W : World) (hl : o.length ≤ 100000) (hp : PsAt X S i o W) :
    Calls Tryd.prog 60 #[.pointer (some ⟨X, 0, none⟩), .agg #[.int .i64 x.k, .int .i64 x.a, .int .i64 x.b, .int .i64 x.n]] W (PutPost X S i (o ++ [x]) W) := by
  obtain ⟨k, a, b, n⟩ := x
  simp only
  have HP0 := Lib.hid hp
  have hb1 : Below W.heap.size W (W.alloc (Obj.cells #[.int .i64 k, .int .i64 a, .int .i64 b, .int .i64 n] 45)) := (Below.refl _ _).alloc (Nat.le_refl _) _
  have HP1 := Lib.hid (hp.below hb1)
  have HB1 := Lib.hid hb1
  have hx0 : (W.alloc (Obj.cells #[.int .i64 k, .int .i64 a, .int .i64 b, .int .i64 n] 45)).cell? ⟨W.heap.size, 0, none⟩ = some (.int .i64 k) := by go_simp
  have hx1 : (W.alloc (Obj.cells #[.int .i64 k, .int .i64 a, .int .i64 b, .int .i64 n] 45)).cell? ⟨W.heap.size, 1, none⟩ = some (.int .i64 a) := by go_simp
  have hx2 : (W.alloc (Obj.cells #[.int .i64 k, .int .i64 a, .int .i64 b, .int .i64 n] 45)).cell? ⟨W.heap.size, 2, none⟩ = some (.int .i64 b) := by go_simp
  have hx3 : (W.alloc (Obj.cells #[.int .i64 k, .int .i64 a, .int .i64 b, .int .i64 n] 45)).cell? ⟨W.heap.size, 3, none⟩ = some (.int .i64 n) := by go_simp
  go_enter Tryd.func60, Tryd.ntmps60
  go_upto_region 1 with fail
  have hxl : W.heap.size < (W.alloc (Obj.cells #[.int .i64 k, .int .i64 a, .int .i64 b, .int .i64 n] 45)).heap.size := by simp
  generalize W.alloc (Obj.cells #[.int .i64 k, .int .i64 a, .int .i64 b, .int .i64 n] 45) = w1 at *
  obtain ⟨hx, -, -, -, f2, T, c, c2, hown⟩ := HP1.out
  have hO : NOwn (X + 1) w1.drew (Value.slice T o.length c).ownBlock w1.drew (.slice T o.length c) o := NOwn.refl (own_drew hown)
  obtain ⟨T3, c3, w3, hr3, ho3, hg3⟩ := hO.app ⟨k, a, b, n⟩ (by omega) (by show X + 1 ≤ w1.heap.size; omega)
  have hcap := (hO.form (by omega))
  have HR3 := Lib.hid hr3
  have HO3 := Lib.hid ho3
  have HG3 := Lib.hid hg3
  have hne : some X ≠ (Value.slice T o.length c).ownBlock := own_ne hown (Nat.lt_succ_self X)
  have HE : Hid (∀ w9 : World, w9 = w3.setCell ⟨X, 2, none⟩ (.slice T3 (o.length + 1) c3) → PsAt X S i (o ++ [⟨k, a, b, n⟩]) w9 ∧ Below X W w9) := by
    rintro w9 rfl
    have hd : Below w1.heap.size w1 w1.drew := (Below.refl _ _).drew
    have hpd := HP1.out.below hd
    have hl2 : (o ++ [(⟨k, a, b, n⟩ : Nd)]).length = o.length + 1 := by simp
    have hlt3 : X < w3.heap.size := Nat.lt_of_lt_of_le hpd.lt hg3.size
    refine ⟨⟨by simpa [World.setCell] using hlt3, ?_, ?_, ?_, ?_, T3, c3, ?_, ?_⟩, ?_⟩
    · exact (World.cell?_setCell_other _ ⟨X, 2, none⟩ ⟨X, 0, none⟩ _ (by simp)).trans (hg3.cell hpd.c0 hne)
    · exact (World.cell?_setCell_other _ ⟨X, 2, none⟩ ⟨X, 1, none⟩ _ (by simp)).trans (hg3.cell hpd.c1 hne)
    · rw [World.frozen?_setCell]; exact (hg3.frozen_far ⟨X, 1, none⟩ hpd.lt hne).trans hpd.f1
    · rw [World.frozen?_setCell]; exact (hg3.frozen_far ⟨X, 2, none⟩ hpd.lt hne).trans hpd.f2
    · rw [hl2]; exact World.cell?_setCell_same' _ _ _ (by rw [hg3.cell c2 hne]; rfl)
    · exact ownsRow_setCell_below (by have := ho3.own; rwa [hl2] at this ⊢) (Nat.lt_succ_self X) _
    · have h1 : Below X W w1.drew := (HB1.out.mono (Nat.le_of_lt HP0.out.lt)).drew
      exact (h1.grown hg3 (Nat.le_of_lt hpd.lt) (fun k hk => by have := (hown.lt k hk).1; omega)).trans (set_below _)
  have c2d : w1.drew.cell? ⟨X, 2, none⟩ = some (.slice T o.length c) := c2
  have c23 : w3.cell? ⟨X, 2, none⟩ = some (.slice T o.length c) := hg3.cell c2d hne
  have f23 : w3.frozen? ⟨X, 2, none⟩ = false := (hg3.frozen_far ⟨X, 2, none⟩ hx hne).trans f2
  clear hr3 ho3 hg3 hO hown
  obtain ⟨A0, cc0, hv0, hn0⟩ := hcap
  obtain ⟨rfl, _, rfl⟩ : T = A0 ∧ o.length = o.length ∧ c = cc0 := by simpa using hv0
  have hle := hn0.le
  have hcp := hn0.cap
  clear hn0 hv0 hne hb1
  go_region_law ((refine step_appRun rfl (.tmp 9) (.tmp 11) _ _ rfl (.slice T o.length c) (.slice (some ⟨w1.heap.size, 0, none⟩) 1 1) (.slice T3 (o.length + 1) c3) (by go_simp) (by go_simp) HR3.out ?_))
  all_goals
    have HE2 := Lib.hid (HE.out _ rfl)
    have c9 : (w3.setCell ⟨X, 2, none⟩ (.slice T3 (o.length + 1) c3)).cell? ⟨X, 2, none⟩ = some (.slice T3 (o.length + 1) c3) := World.cell?_setCell_same' _ _ _ (by rw [c23]; rfl)
    clear HE HR3 HO3 HG3 hx0 hx1 hx2 hx3 c2 c2d c23 f2 f23
    generalize w3.setCell ⟨X, 2, none⟩ (.slice T3 (o.length + 1) c3) = w9 at *
    go_simp
    go_wp2_with fail
    go_ret
    exact ⟨ret_int (by simp), HE2.out.1, HE2.out.2⟩
end Go.Proofs.YtoglgeaiiipchaaDoor
