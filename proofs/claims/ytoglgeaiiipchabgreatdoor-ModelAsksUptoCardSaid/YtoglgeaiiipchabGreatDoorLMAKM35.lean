import Derived.Test.YtoglgeaiiipchabGreatDoorLMAKM34
import Derived.Test.YtoglgeaiiipchabGreatDoorLMAKM3
import Derived.Test.YtoglgeaiiipchabGreatDoorLMAKM4
import Derived.Deep.RegionLaw
import Derived.Maps.OwnSet
import Derived.Maps.Keyed
import Derived.Maps.Views
set_option linter.unusedSimpArgs false
set_option linter.unusedVariables false
namespace Go.Proofs.YtoglgeaiiipchabGreatDoor
open Go Go.RowKit Go.Sort
structure PsAt (X : Nat) (S : ByteArray) (i : Nat) (o : List Nd) (W : World) : Prop where
  lt : X < W.heap.size
  c0 : W.cell? ⟨X, 0, none⟩ = some (.string S)
  c1 : W.cell? ⟨X, 1, none⟩ = some (.int .i64 (i : Int))
  f1 : W.frozen? ⟨X, 1, none⟩ = false
  f2 : W.frozen? ⟨X, 2, none⟩ = false
  own : ∃ T c, W.cell? ⟨X, 2, none⟩ = some (.slice T o.length c) ∧ W.ownsRow (X + 1) 90 4 (.slice T o.length c) o.length (o.flatMap Nd.cells)
theorem PsAt.below {X : Nat} {S : ByteArray} {i : Nat} {o : List Nd} {W W' : World} (h : PsAt X S i o W) (hb : Below W.heap.size W W') : PsAt X S i o W' := by
  obtain ⟨T, c, h1, h2⟩ := h.own
  exact ⟨Nat.lt_of_lt_of_le h.lt hb.size, (hb.cell (p := ⟨X, 0, none⟩) h.lt).trans h.c0, (hb.cell (p := ⟨X, 1, none⟩) h.lt).trans h.c1, (hb.frozen (p := ⟨X, 1, none⟩) h.lt).trans h.f1, (hb.frozen (p := ⟨X, 2, none⟩) h.lt).trans h.f2,
    T, c, (hb.cell (p := ⟨X, 2, none⟩) h.lt).trans h1, own_below h2 hb⟩
theorem PsAt.to {X : Nat} {S : ByteArray} {i : Nat} {o : List Nd} {W : World} (h : PsAt X S i o W) (j : Nat) : PsAt X S j o (W.setCell ⟨X, 1, none⟩ (.int .i64 (j : Int))) := by
  obtain ⟨T, c, h1, h2⟩ := h.own
  refine ⟨by simpa [World.setCell] using h.lt, ?_, ?_, ?_, ?_, T, c, ?_, ?_⟩
  · exact (World.cell?_setCell_other _ ⟨X, 1, none⟩ ⟨X, 0, none⟩ _ (by simp)).trans h.c0
  · exact World.cell?_setCell_same' _ _ _ (by rw [h.c1]; rfl)
  · rw [World.frozen?_setCell]; exact h.f1
  · rw [World.frozen?_setCell]; exact h.f2
  · exact (World.cell?_setCell_other _ ⟨X, 1, none⟩ ⟨X, 2, none⟩ _ (by simp)).trans h1
  · exact ownsRow_setCell_below h2 (Nat.lt_succ_self X) _
theorem set_below {X o : Nat} {W : World} (v : Value) : Below X W (W.setCell ⟨X, o, none⟩ v) := (Below.refl X W).setCell (p := ⟨X, o, none⟩) (Nat.le_refl _) _
def placeP (j : Nat) : Ending := .panicked [{ v := .iface 167 (.int .i64 (j : Int)), recovered := false }]
set_option maxRecDepth 100000 in
theorem sign_at (X : Nat) (s : List UInt8) (S : ByteArray) (hS : S.size = s.length) (hG : ∀ (i : Nat) (h : i < S.size), S[i]'h = chr s i) (hs : s.length ≤ 100000) (i : Nat) (o : List Nd) (W : World) (hp : PsAt X S i o W) :
    Calls Tryz.prog 139 #[.pointer (some ⟨X, 0, none⟩)] W fun e w' => e = .returned (.int .u8 ((chr s i).toNat : Int)) ∧ Below W.heap.size W w' := by
  obtain ⟨hx, c0, c1, -, -, -⟩ := hp
  by_cases hlt : i < s.length
  · have b0' : (i : Int) < (s.length : Int) := by omega
    have b0 : i < S.size := by omega
    have g0 := hG i b0
    clear hG
    generalize chr s i = ch at *
    go_enter Tryz.func139, Tryz.ntmps139
    go_wp2_with fail
    go_quiet (fail)
    go_wp2_with fail
    go_quiet (fail)
    go_wp2_with fail
    go_ret
    exact ⟨rfl, below_drewN (below_drewN (Below.refl _ _) _) _⟩
  · have hz : Hid (chr s i = 0) := by
      show _ = _
      unfold chr
      rw [List.getD_eq_getElem?_getD, List.getElem?_eq_none (by omega)]
      rfl
    have b1 : (s.length : Int) ≤ (i : Int) := by omega
    have b2 : decide ((i : Int) < (s.length : Int)) = false := by simp; omega
    clear hG
    go_enter Tryz.func139, Tryz.ntmps139
    go_wp2_with fail
    go_quiet (fail)
    go_wp2_with fail
    go_ret
    exact ⟨by rw [hz.out]; rfl, below_drewN (Below.refl _ _) _⟩
def NeedPost (X : Nat) (S : ByteArray) (o : List Nd) (W : World) (r : Except Nat Nat) (e : Ending) (w' : World) : Prop :=
  Below X W w' ∧ match r with
  | .ok j => e = .returned (.tuple #[]) ∧ PsAt X S j o w'
  | .error j => e = placeP j
theorem needs_drop {s r : List UInt8} {k i : Nat} (hk : k < r.length) : needs s (r.drop k) (i + k) = if i + k < s.length ∧ chr s (i + k) = chr r k then needs s (r.drop (k + 1)) (i + k + 1) else .error (i + k) := by
  have : chr r k = r[k] := by
    unfold chr
    rw [List.getD_eq_getElem?_getD, List.getElem?_eq_getElem hk]
    rfl
  rw [List.drop_eq_getElem_cons hk, this]
  rfl
set_option maxRecDepth 100000 in
set_option maxHeartbeats 1000000 in
theorem need_ (X : Nat) (s : List UInt8) (S : ByteArray) (hS : S.size = s.length) (hG : ∀ (i : Nat) (h : i < S.size), S[i]'h = chr s i) (hs : s.length ≤ 100000) (r : List UInt8) (R : ByteArray) (hR : R.size = r.length) (hGR : ∀ (i : Nat) (h : i < R.size), R[i]'h = chr r i) (hr : r.length ≤ 100)
    (i : Nat) (o : List Nd) (W : World) (hi : i ≤ s.length) (hp : PsAt X S i o W) :
    Calls Tryz.prog 140 #[.pointer (some ⟨X, 0, none⟩), .string R] W (NeedPost X S o W (needs s r i)) := by
  have HP := Lib.hid hp
  have HGR := Lib.hid hGR
  have HSG := Lib.hid (fun i o W hp => sign_at X s S hS hG hs i o W hp)
  clear hp hG hGR
  go_enter Tryz.func140, Tryz.ntmps140
  go_wp2_with fail
  go_loopw [7] (fun s7 wr => ∃ k : Nat, k ≤ r.length ∧ i + k ≤ s.length ∧ s7 = .int .i64 (k : Int) ∧ Hid (PsAt X S (i + k) o wr ∧ Below X W wr ∧ needs s r i = needs s (r.drop k) (i + k))) (fun s7 _ => r.length - (intOf s7).toNat)
  case atStart => exact ⟨0, Nat.zero_le _, hi, rfl, HP.out, Below.refl _ _, rfl⟩
  case round =>
    obtain ⟨k, hk, hik, rfl, HR⟩ := hrel
    by_cases hlt : k < r.length
    · have q1 : (k : Int) < (r.length : Int) := by omega
      have q2 : k < R.size := by omega
      have g1 := HGR.out k q2
      have HN : Hid (needs s r i = if i + k < s.length ∧ chr s (i + k) = chr r k then needs s (r.drop (k + 1)) (i + k + 1) else .error (i + k)) := HR.out.2.2.trans (needs_drop hlt)
      have HSI := Lib.hid (regrown_call (w := wr) fun W2 h2 => HSG.out (i + k) o W2 (HR.out.1.below h2))
      obtain ⟨hx, c0, c1, f1, f2, -⟩ := HR.out.1
      obtain ⟨p, hpe⟩ : ∃ p, p = i + k := ⟨_, rfl⟩
      rw [← hpe] at HN HSI hik c1
      have HPE := Lib.hid hpe
      clear hpe
      have e1 := cell_regrown (w := wr) (a := ⟨X, 1, none⟩) (v := .int .i64 (p : Int)) c1
      have e0 := cell_regrown (w := wr) (a := ⟨X, 0, none⟩) (v := .string S) c0
      have HBX : Hid (∀ w', Below wr.heap.size wr w' → PsAt X S p o w' ∧ Below X W w') := fun w' hb => by rw [HPE.out]; exact ⟨HR.out.1.below hb, Below_on HR.out.2.1 hb (Nat.le_of_lt HR.out.1.lt)⟩
      clear HSG HP
      by_cases hc : chr s p = chr r k
      · rw [hc] at HSI
        rw [hc] at HN
        generalize chr r k = ch at *
        have hd : ((ch.toNat : Int) != (ch.toNat : Int)) = false := by simp
        by_cases he : p = s.length
        · have HN2 : Hid (needs s r i = .error p) := by rw [HN.out, if_neg (fun h => by omega)]; rfl
          have hq : ((p : Int) == (s.length : Int)) = true := by simp [he]
          clear he HN
          go_upto_region 3 with fail
          refine wp_region_quiet_below (by kernel_rfl) (by kernel_rfl) ?_
          repeat (go_big_quiet_step (first | with_reducible exact HSI.out _ _))
          refine wpQuiet_nil ?_
          intro _ hw'
          obtain ⟨⟨dq, osq⟩, hw''⟩ := hw'
          subst hw''
          have HB4 := Lib.hid (HBX.out _ (below_regrown wr dq osq))
          clear e0 e1 c0 c1 f1 f2 HSI HBX
          generalize grow (redrawn wr dq) osq = w4 at *
          have c1 := HB4.out.1.c1
          go_wp2_with fail
          exact ⟨rfl, HB4.out.2, by rw [HN2.out]; rfl⟩
        · have HN2 : Hid (needs s r i = needs s (r.drop (k + 1)) (p + 1)) := by rw [HN.out, if_pos ⟨by omega, rfl⟩]; rfl
          have hq : ((p : Int) == (s.length : Int)) = false := by simp; omega
          have hpl : p + 1 ≤ s.length := by omega
          have d1 : IntKind.i64.wrap ((p : Int) + 1) = (p : Int) + 1 := IntWalk.i64_in _ (by omega)
          clear he HN
          go_upto_region 3 with fail
          refine wp_region_quiet_below (by kernel_rfl) (by kernel_rfl) ?_
          repeat (go_big_quiet_step (first | with_reducible exact HSI.out _ _))
          refine wpQuiet_nil ?_
          intro _ hw'
          obtain ⟨⟨dq, osq⟩, hw''⟩ := hw'
          subst hw''
          have HB4 := Lib.hid (HBX.out _ (below_regrown wr dq osq))
          clear e0 e1 c0 c1 f1 f2 HSI HBX
          generalize grow (redrawn wr dq) osq = w4 at *
          have c1 := HB4.out.1.c1
          have f1 := HB4.out.1.f1
          have HT : Hid (PsAt X S (i + (k + 1)) o (w4.setCell ⟨X, 1, none⟩ (.int .i64 ((p : Int) + 1)))) := by
            have := HB4.out.1.to (p + 1)
            rw [show i + (k + 1) = p + 1 by have := HPE.out; omega]
            exact this
          have HT2 : Hid (Below X W (w4.setCell ⟨X, 1, none⟩ (.int .i64 ((p : Int) + 1)))) := HB4.out.2.trans (set_below _)
          go_wp2_with fail
          go_roundw
          case rel => exact ⟨k + 1, by omega, by have := HPE.out; omega, by go_num, HT.out, HT2.out, by rw [HN2.out, show p + 1 = i + (k + 1) by have := HPE.out; omega]⟩
          case measure => simp [intOf]; omega
      · have HN2 : Hid (needs s r i = .error p) := by rw [HN.out, if_neg (fun h => hc h.2)]; rfl
        have hq : (((chr s p).toNat : Int) != ((chr r k).toNat : Int)) = true := (neForms hc).1
        clear HN
        generalize chr r k = ch at *
        generalize chr s p = ch2 at *
        clear hc
        go_upto_region 3 with fail
        refine wp_region_quiet_below (by kernel_rfl) (by kernel_rfl) ?_
        repeat (go_big_quiet_step (first | with_reducible exact HSI.out _ _))
        refine wpQuiet_nil ?_
        intro _ hw'
        obtain ⟨⟨dq, osq⟩, hw''⟩ := hw'
        subst hw''
        have HB4 := Lib.hid (HBX.out _ (below_regrown wr dq osq))
        clear e0 e1 c0 c1 f1 f2 HSI HBX
        generalize grow (redrawn wr dq) osq = w4 at *
        have c1 := HB4.out.1.c1
        go_wp2_with fail
        exact ⟨rfl, HB4.out.2, by rw [HN2.out]; rfl⟩
    · have HN2 : Hid (needs s r i = .ok (i + k)) := by
        show _ = _
        rw [HR.out.2.2, List.drop_of_length_le (by omega)]
        rfl
      have HRB := Lib.hid HR.out.2.1
      have HRA := Lib.hid HR.out.1
      have q1 : ¬ (k : Int) < (r.length : Int) := by omega
      clear HR
      go_wp2_with fail
      go_end0
      exact ⟨HRB.out, by rw [HN2.out]; exact ⟨rfl, HRA.out⟩⟩
def PutPost (X : Nat) (S : ByteArray) (i : Nat) (o : List Nd) (W : World) (e : Ending) (w' : World) : Prop :=
  e = .returned (.int .i64 ((o.length : Int) - 1)) ∧ PsAt X S i o w' ∧ Below X W w'
set_option maxRecDepth 100000 in
set_option maxHeartbeats 1000000 in
theorem put_ (X : Nat) (S : ByteArray) (i : Nat) (o : List Nd) (x : Nd) (W : World) (hl : o.length ≤ 100000) (hp : PsAt X S i o W) :
    Calls Tryz.prog 141 #[.pointer (some ⟨X, 0, none⟩), .agg #[.int .i64 x.k, .int .i64 x.a, .int .i64 x.b, .int .i64 x.n]] W (PutPost X S i (o ++ [x]) W) := by
  obtain ⟨k, a, b, n⟩ := x
  simp only
  have HP0 := Lib.hid hp
  have hb1 : Below W.heap.size W (W.alloc (Obj.cells #[.int .i64 k, .int .i64 a, .int .i64 b, .int .i64 n] 90)) := (Below.refl _ _).alloc (Nat.le_refl _) _
  have HP1 := Lib.hid (hp.below hb1)
  have HB1 := Lib.hid hb1
  have hx0 : (W.alloc (Obj.cells #[.int .i64 k, .int .i64 a, .int .i64 b, .int .i64 n] 90)).cell? ⟨W.heap.size, 0, none⟩ = some (.int .i64 k) := by go_simp
  have hx1 : (W.alloc (Obj.cells #[.int .i64 k, .int .i64 a, .int .i64 b, .int .i64 n] 90)).cell? ⟨W.heap.size, 1, none⟩ = some (.int .i64 a) := by go_simp
  have hx2 : (W.alloc (Obj.cells #[.int .i64 k, .int .i64 a, .int .i64 b, .int .i64 n] 90)).cell? ⟨W.heap.size, 2, none⟩ = some (.int .i64 b) := by go_simp
  have hx3 : (W.alloc (Obj.cells #[.int .i64 k, .int .i64 a, .int .i64 b, .int .i64 n] 90)).cell? ⟨W.heap.size, 3, none⟩ = some (.int .i64 n) := by go_simp
  go_enter Tryz.func141, Tryz.ntmps141
  go_upto_region 1 with fail
  have hxl : W.heap.size < (W.alloc (Obj.cells #[.int .i64 k, .int .i64 a, .int .i64 b, .int .i64 n] 90)).heap.size := by simp
  generalize W.alloc (Obj.cells #[.int .i64 k, .int .i64 a, .int .i64 b, .int .i64 n] 90) = w1 at *
  obtain ⟨hx, -, -, -, f2, T, c, c2, hown⟩ := HP1.out
  have hO : NOwn (X + 1) w1.drew (Value.slice T o.length c).ownBlock w1.drew (.slice T o.length c) o := NOwn.refl (own_drew hown)
  obtain ⟨T3, c3, w3, hr3, ho3, hg3⟩ := hO.app ⟨k, a, b, n⟩ (by omega) (by show X + 1 ≤ w1.heap.size; omega)
  have hcap := (hO.form (by omega))
  have HR3 := Lib.hid hr3
  have HO3 := Lib.hid ho3
  have HG3 := Lib.hid hg3
  have hne : some X ≠ (Value.slice T o.length c).ownBlock := own_ne hown (Nat.lt_succ_self X)
  have HE : Hid (∀ w9 : World, w9 = w3.setCell ⟨X, 2, none⟩ (.slice T3 (o.length + 1) c3) → PsAt X S i (o ++ [⟨k, a, b, n⟩]) w9 ∧ Below X W w9) := by
    rintro w9 rfl
    have hd : Below w1.heap.size w1 w1.drew := (Below.refl _ _).drew
    have hpd := HP1.out.below hd
    have hl2 : (o ++ [(⟨k, a, b, n⟩ : Nd)]).length = o.length + 1 := by simp
    have hlt3 : X < w3.heap.size := Nat.lt_of_lt_of_le hpd.lt hg3.size
    refine ⟨⟨by simpa [World.setCell] using hlt3, ?_, ?_, ?_, ?_, T3, c3, ?_, ?_⟩, ?_⟩
    · exact (World.cell?_setCell_other _ ⟨X, 2, none⟩ ⟨X, 0, none⟩ _ (by simp)).trans (hg3.cell hpd.c0 hne)
    · exact (World.cell?_setCell_other _ ⟨X, 2, none⟩ ⟨X, 1, none⟩ _ (by simp)).trans (hg3.cell hpd.c1 hne)
    · rw [World.frozen?_setCell]; exact (hg3.frozen_far ⟨X, 1, none⟩ hpd.lt hne).trans hpd.f1
    · rw [World.frozen?_setCell]; exact (hg3.frozen_far ⟨X, 2, none⟩ hpd.lt hne).trans hpd.f2
    · rw [hl2]; exact World.cell?_setCell_same' _ _ _ (by rw [hg3.cell c2 hne]; rfl)
    · exact ownsRow_setCell_below (by have := ho3.own; rwa [hl2] at this ⊢) (Nat.lt_succ_self X) _
    · have h1 : Below X W w1.drew := (HB1.out.mono (Nat.le_of_lt HP0.out.lt)).drew
      exact (h1.grown hg3 (Nat.le_of_lt hpd.lt) (fun k hk => by have := (hown.lt k hk).1; omega)).trans (set_below _)
  have c2d : w1.drew.cell? ⟨X, 2, none⟩ = some (.slice T o.length c) := c2
  have c23 : w3.cell? ⟨X, 2, none⟩ = some (.slice T o.length c) := hg3.cell c2d hne
  have f23 : w3.frozen? ⟨X, 2, none⟩ = false := (hg3.frozen_far ⟨X, 2, none⟩ hx hne).trans f2
  clear hr3 ho3 hg3 hO hown
  obtain ⟨A0, cc0, hv0, hn0⟩ := hcap
  obtain ⟨rfl, _, rfl⟩ : T = A0 ∧ o.length = o.length ∧ c = cc0 := by simpa using hv0
  have hle := hn0.le
  have hcp := hn0.cap
  clear hn0 hv0 hne hb1
  go_region_law ((refine step_appRun rfl (.tmp 9) (.tmp 11) _ _ rfl (.slice T o.length c) (.slice (some ⟨w1.heap.size, 0, none⟩) 1 1) (.slice T3 (o.length + 1) c3) (by go_simp) (by go_simp) HR3.out ?_))
  all_goals
    have HE2 := Lib.hid (HE.out _ rfl)
    have c9 : (w3.setCell ⟨X, 2, none⟩ (.slice T3 (o.length + 1) c3)).cell? ⟨X, 2, none⟩ = some (.slice T3 (o.length + 1) c3) := World.cell?_setCell_same' _ _ _ (by rw [c23]; rfl)
    clear HE HR3 HO3 HG3 hx0 hx1 hx2 hx3 c2 c2d c23 f2 f23
    generalize w3.setCell ⟨X, 2, none⟩ (.slice T3 (o.length + 1) c3) = w9 at *
    go_simp
    go_wp2_with fail
    go_ret
    exact ⟨ret_int (by simp), HE2.out.1, HE2.out.2⟩
end Go.Proofs.YtoglgeaiiipchabGreatDoor

namespace Go.Proofs.YtoglgeaiiipchabGreatDoor
open Go Go.RowKit Go.Sort
def PNodePost (X : Nat) (S : ByteArray) (o : List Nd) (W : World) (r : Except Nat (Fm × Nat)) (e : Ending) (w' : World) : Prop :=
  Below X W w' ∧ match r with
  | .ok (t, j) => e = .returned (.int .i64 (((t.flat o).length : Int) - 1)) ∧ PsAt X S j (t.flat o) w'
  | .error j => e = placeP j
def pairQ (s : List UInt8) (m i : Nat) : Except Nat (Fm × Nat) := match prs s m i with | .error e => .error e | .ok (a, j) => pairR s m a j
theorem byteKey (c : UInt8) : keyOf Tryz.prog 5 (.int .u8 (c.toNat : Int)) = some (.int .u8 (c.toNat : Int)) := Maps.keyOf_int_mk Tryz.underlying5 (by have := UInt8.toNat_lt c; simp [Lit.wf, IntKind.min, IntKind.max, IntKind.signed, IntKind.bits]; omega)
theorem signs_at (c : UInt8) : (((((DataW.map (H := Unit) []).put (.int .u8 38) (.lit (.int .i64 4))).put (.int .u8 124) (.lit (.int .i64 5))).put (.int .u8 85) (.lit (.int .i64 7))).put (.int .u8 82) (.lit (.int .i64 8))).atKey (.int .u8 (c.toNat : Int)) (.lit (.int .i64 0)) = .lit (.int .i64 (kndAt c)) := by
  by_cases h1 : c = 38
  · subst h1; rfl
  · by_cases h2 : c = 124
    · subst h2; rfl
    · by_cases h3 : c = 85
      · subst h3; rfl
      · by_cases h4 : c = 82
        · subst h4; rfl
        · have q1 := (neForms h1).2.2.1
          have q2 := (neForms h2).2.2.1
          have q3 := (neForms h3).2.2.1
          have q4 := (neForms h4).2.2.1
          have hk : kndAt c = 0 := by unfold kndAt; rw [if_neg h1, if_neg h2, if_neg h3, if_neg h4]
          rw [hk]
          have e4 : Lit.int .u8 (c.toNat : Int) ≠ Lit.int .u8 82 := fun h' => q4 (by injection h')
          have e3 : Lit.int .u8 (c.toNat : Int) ≠ Lit.int .u8 85 := fun h' => q3 (by injection h')
          have e2 : Lit.int .u8 (c.toNat : Int) ≠ Lit.int .u8 124 := fun h' => q2 (by injection h')
          have e1 : Lit.int .u8 (c.toNat : Int) ≠ Lit.int .u8 38 := fun h' => q1 (by injection h')
          rw [Maps.atKey_put_other e4, Maps.atKey_put_other e3, Maps.atKey_put_other e2, Maps.atKey_put_other e1]
          rfl
theorem signsMap (w : World) : ∃ w1 w2 w3 w4 : World,
    (Instr.mapUpdate 223 (.map (some w.heap.size)) (.int .u8 38) (.int .i64 4)).run Tryz.prog (w.alloc (.map #[] 0)) = .ok () w1 ∧
    (Instr.mapUpdate 223 (.map (some w.heap.size)) (.int .u8 124) (.int .i64 5)).run Tryz.prog w1 = .ok () w2 ∧
    (Instr.mapUpdate 223 (.map (some w.heap.size)) (.int .u8 85) (.int .i64 7)).run Tryz.prog w2 = .ok () w3 ∧
    (Instr.mapUpdate 223 (.map (some w.heap.size)) (.int .u8 82) (.int .i64 8)).run Tryz.prog w3 = .ok () w4 ∧
    Below w.heap.size w w4 ∧ w.heap.size < w4.heap.size ∧ ∀ (W : World) (c : UInt8), Below w4.heap.size w4 W →
      (Instr.lookup 223 (.map (some w.heap.size)) (.int .u8 (c.toNat : Int)) false).run Tryz.prog W = .ok (.int .i64 (kndAt c)) W := by
  have K := Maps.int_keyed (P := Tryz.prog) Tryz.underlying5
  have hv : ∀ a : Int, (Lit.int .i64 a).wf = true → plainElem (H := Unit) Tryz.prog 3 (.int .i64 a) = some (.lit (.int .i64 a), []) := fun a h => plainElem_int Tryz.underlying3 h
  have o0 : (w.alloc (.map #[] 0)).ownsMap Tryz.prog 5 (plainElem (H := Unit) Tryz.prog 3) w.heap.size 0 (.map []) := World.ownsMap_made _ _ _ _
  obtain ⟨w1, r1, o1, g1⟩ := o0.update K Tryz.underlying223 (by decide) (byteKey 38) (hv 4 (by decide))
  obtain ⟨w2, r2, o2, g2⟩ := o1.update K Tryz.underlying223 (by decide) (byteKey 124) (hv 5 (by decide))
  obtain ⟨w3, r3, o3, g3⟩ := o2.update K Tryz.underlying223 (by decide) (byteKey 85) (hv 7 (by decide))
  obtain ⟨w4, r4, o4, g4⟩ := o3.update K Tryz.underlying223 (by decide) (byteKey 82) (hv 8 (by decide))
  have HB : Below w.heap.size w w4 := by
    have h0 : Below w.heap.size w (w.alloc (.map #[] 0)) := (Below.refl _ _).alloc (Nat.le_refl _) _
    have f : ∀ {A B : World}, Below w.heap.size w A → A.grownBy B (some w.heap.size) → Below w.heap.size w B := fun h g => h.grown g h.size (fun k e => by cases e; exact Nat.le_refl _)
    exact f (f (f (f h0 g1) g2) g3) g4
  refine ⟨w1, w2, w3, w4, r1, r2, r3, r4, HB, o4.lt, fun W c hb => ?_⟩
  have o5 := o4.kept (below_grown (row := none) hb) (by simp)
  obtain ⟨x, r5, h5, -⟩ := o5.lookup_int K Tryz.underlying223 Tryz.underlying3 (by kernel_rfl) (byteKey c)
  rw [r5]
  have := (signs_at c).symm.trans h5
  simp only [DataW.lit.injEq, Lit.int.injEq, true_and] at this
  rw [this]
theorem need1_ (X : Nat) (s : List UInt8) (S : ByteArray) (hS : S.size = s.length) (hG : ∀ (i : Nat) (h : i < S.size), S[i]'h = chr s i) (hs : s.length ≤ 100000) (c : UInt8) (i : Nat) (o : List Nd) (W : World) (hi : i ≤ s.length) (hp : PsAt X S i o W) :
    Calls Tryz.prog 140 #[.pointer (some ⟨X, 0, none⟩), .string ⟨#[c]⟩] W (NeedPost X S o W (needs s [c] i)) :=
  need_ X s S hS hG hs [c] ⟨#[c]⟩ rfl (fun i h => by have h' : i < 1 := h; obtain rfl : i = 0 := (by omega); rfl) (by simp) i o W hi hp
set_option maxRecDepth 100000 in
set_option maxHeartbeats 2000000 in
theorem pair_ (X : Nat) (s : List UInt8) (S : ByteArray) (hS : S.size = s.length) (hG : ∀ (i : Nat) (h : i < S.size), S[i]'h = chr s i) (hs : s.length ≤ 100000) (m : Nat)
    (IH : ∀ (i : Nat) (o : List Nd) (W : World), i ≤ s.length → s.length - i < m → o.length ≤ i → PsAt X S i o W → Calls Tryz.prog 111 #[.pointer (some ⟨X, 0, none⟩)] W (PNodePost X S o W (prs s m i)))
    (i : Nat) (o : List Nd) (W : World) (hi : i ≤ s.length) (hm : s.length - i < m) (ho : o.length ≤ i) (hp : PsAt X S i o W) :
    Calls Tryz.prog 142 #[.pointer (some ⟨X, 0, none⟩)] W (PNodePost X S o W (pairQ s m i)) := by
  have HC := Lib.hid (IH i o W hi hm ho hp)
  have HIH := Lib.hid IH
  have HN1 := Lib.hid (need1_ X s S hS hG hs)
  have HSG := Lib.hid (fun i o W hp => sign_at X s S hS hG hs i o W hp)
  have hmm := @run_makeMap Tryz.prog
  clear hG hp IH
  go_enter Tryz.func142, Tryz.ntmps142
  go_wp2_with fail
  refine HC.out.mono ?_
  cases hr : prs s m i with
  | error j =>
    have HQ : Hid (pairQ s m i = .error j) := by unfold Hid pairQ; rw [hr]
    rintro e w1 ⟨hb1, rfl⟩
    have HB1 := Lib.hid hb1
    clear hb1 HC
    simp only [placeP]
    go_wp2_with fail
    exact ⟨rfl, HB1.out, by rw [HQ.out]; rfl⟩
  | ok q =>
    obtain ⟨a, j⟩ := q
    have HQ : Hid (pairQ s m i = pairR s m a j) := by unfold Hid pairQ; rw [hr]
    obtain ⟨p2, p5, p6⟩ : j ≤ s.length ∧ i ≤ j ∧ (a.flat o).length ≤ j := by
      obtain ⟨p1, _, _, p2⟩ := prs_ok _ _ hr
      have p3 := size_show a
      have p4 := a.flat_len o
      omega
    have HE : Hid (∀ k b, (Fm.bi k a b).flat o = b.flat (a.flat o) ++ [⟨k, ((a.flat o).length : Int) - 1, ((b.flat (a.flat o)).length : Int) - 1, 0⟩]) := fun _ _ => rfl
    rintro e w1 ⟨hb1, rfl, hp1⟩
    generalize a.flat o = o1 at *
    have HB1 := Lib.hid hb1
    have HP1 := Lib.hid hp1
    have HN := Lib.hid (HN1.out 32 j o1 w1 p2 hp1)
    clear hb1 hp1 HC hr
    go_wp2_with fail
    refine HN.out.mono ?_
    by_cases hc1 : j < s.length ∧ chr s j = 32
    · rw [needs_good hc1.1 hc1.2]
      rintro e w2 ⟨hb2, rfl, hp2⟩
      have HB2 := Lib.hid (HB1.out.trans hb2)
      have HP2 := Lib.hid hp2
      obtain ⟨m1, m2, m3, m4, r1, r2, r3, r4, hbm, hml, hlk⟩ := signsMap w2
      have hp3 := hp2.below hbm
      have HB3 := Lib.hid (Below_on HB2.out hbm (Nat.le_of_lt hp2.lt))
      have HC3 := Lib.hid (HSG.out (j + 1) o1 m4 hp3)
      have HLK := Lib.hid hlk
      have HP3 := Lib.hid hp3
      clear hb2 hp2 HN hp3 hlk hbm HP1 HB1 HP2
      go_wp2_with fail
      refine HC3.out.mono ?_
      rintro e w5 ⟨rfl, hb5⟩
      have HB5 := Lib.hid (Below_on HB3.out hb5 (Nat.le_of_lt HP3.out.lt))
      have HP5 := Lib.hid (HP3.out.below hb5)
      have hk := HLK.out w5 (chr s (j + 1)) hb5
      obtain ⟨kn, hkn⟩ : ∃ kn : Int, kn = kndAt (chr s (j + 1)) := ⟨_, rfl⟩
      rw [← hkn] at hk
      have HKN := Lib.hid hkn
      clear hkn hb5 HC3 HP3 HLK r1 r2 r3 r4 hmm hml
      have c1 := HP5.out.c1
      by_cases hk0 : kn = 0
      · have HR : Hid (pairQ s m i = .error (j + 1)) := by
          show _ = _
          rw [HQ.out]
          exact pairR_e2 hc1 (fun h => h.2 (HKN.out ▸ hk0))
        have hq : (kn == 0) = true := by simp [hk0]
        clear hk0
        go_wp2_with fail
        exact ⟨rfl, HB5.out, by rw [HR.out]; rfl⟩
      · have hl1 : j + 1 < s.length := by
          rcases Nat.lt_or_ge (j + 1) s.length with h | h
          · exact h
          · refine absurd ?_ hk0
            rw [HKN.out]
            have : chr s (j + 1) = 0 := by
              unfold chr
              rw [List.getD_eq_getElem?_getD, List.getElem?_eq_none (by omega)]
              rfl
            rw [this]
            rfl
        have hq : (kn == 0) = false := by simp [hk0]
        have d1 : IntKind.i64.wrap (((j + 1 : Nat) : Int) + 1) = ((j + 1 : Nat) : Int) + 1 := IntWalk.i64_in _ (by omega)
        have f1 := HP5.out.f1
        have HP6 : Hid (PsAt X S (j + 2) o1 (w5.setCell ⟨X, 1, none⟩ (.int .i64 (((j + 1 : Nat) : Int) + 1)))) := HP5.out.to (j + 2)
        have HB6 : Hid (Below X W (w5.setCell ⟨X, 1, none⟩ (.int .i64 (((j + 1 : Nat) : Int) + 1)))) := HB5.out.trans (set_below _)
        generalize ((j + 1 : Nat) : Int) = jj at *
        go_wp2_with fail
        generalize w5.setCell ⟨X, 1, none⟩ (.int .i64 (jj + 1)) = w6 at *
        clear hk c1 f1 hq d1 HB5 HP5
        have HN6 := Lib.hid (HN1.out 32 (j + 2) o1 w6 (by omega) HP6.out)
        refine HN6.out.mono ?_
        have hk1 : kndAt (chr s (j + 1)) ≠ 0 := HKN.out ▸ hk0
        by_cases hc2 : j + 2 < s.length ∧ chr s (j + 2) = 32
        · rw [needs_good hc2.1 hc2.2]
          have HQE : Hid (pairQ s m i = pairE s a kn (prs s m (j + 3))) := by
            show _ = _
            rw [HQ.out, HKN.out]
            exact pairR_ok hc1 hl1 hk1 hc2
          rintro e w7 ⟨hb7, rfl, hp7⟩
          have HB7 := Lib.hid (HB6.out.trans hb7)
          have HC7 := Lib.hid (HIH.out (j + 3) o1 w7 (by omega) (by omega) (by omega) hp7)
          clear hb7 hp7 HN6 HP6 HB6
          go_wp2_with fail
          refine HC7.out.mono ?_
          cases hr2 : prs s m (j + 3) with
          | error e2 =>
            have HR : Hid (pairQ s m i = .error e2) := by show _ = _; rw [HQE.out, hr2]; rfl
            rintro e w8 ⟨hb8, rfl⟩
            have HB8 := Lib.hid (HB7.out.trans hb8)
            clear hb8 HC7
            simp only [placeP]
            go_wp2_with fail
            exact ⟨rfl, HB8.out, by rw [HR.out]; rfl⟩
          | ok q2 =>
            obtain ⟨b, j3⟩ := q2
            obtain ⟨z2, z5, z6⟩ : j3 ≤ s.length ∧ j + 3 ≤ j3 ∧ (b.flat o1).length ≤ j3 := by
              obtain ⟨r1, _, _, r2⟩ := prs_ok _ _ hr2
              have r3 := size_show b
              have r4 := b.flat_len o1
              omega
            rintro e w8 ⟨hb8, rfl, hp8⟩
            have HE2 : Hid ((Fm.bi kn a b).flat o = b.flat o1 ++ [⟨kn, (o1.length : Int) - 1, ((b.flat o1).length : Int) - 1, 0⟩]) := HE.out kn b
            generalize b.flat o1 = o2 at *
            have HB8 := Lib.hid (HB7.out.trans hb8)
            have HN8 := Lib.hid (HN1.out 41 j3 o2 w8 z2 hp8)
            clear hb8 hp8 HC7
            go_wp2_with fail
            refine HN8.out.mono ?_
            by_cases hc3 : j3 < s.length ∧ chr s j3 = 41
            · rw [needs_good hc3.1 hc3.2]
              have HR : Hid (pairQ s m i = .ok (.bi kn a b, j3 + 1)) := by
                show _ = _
                rw [HQE.out, hr2]
                unfold pairE
                simp only [needs_good (r := []) hc3.1 hc3.2]
                rfl
              rintro e w9 ⟨hb9, rfl, hp9⟩
              have HB9 := Lib.hid (HB8.out.trans hb9)
              have HPU := Lib.hid (put_ X S (j3 + 1) o2 ⟨kn, (o1.length : Int) - 1, (o2.length : Int) - 1, 0⟩ w9 (by omega) hp9)
              clear hb9 hp9 HN8
              go_wp2_with fail
              refine HPU.out.mono ?_
              rintro e w10 ⟨rfl, hp10, hb10⟩
              have HB10 := Lib.hid (HB9.out.trans hb10)
              have HP10 := Lib.hid hp10
              clear hb10 hp10 HPU
              generalize o2 ++ [(⟨kn, (o1.length : Int) - 1, (o2.length : Int) - 1, 0⟩ : Nd)] = o3 at *
              go_wp2_with fail
              go_ret
              exact ⟨HB10.out, by rw [HR.out]; exact ⟨by rw [HE2.out]; rfl, by rw [HE2.out]; exact HP10.out⟩⟩
            · have HR : Hid (pairQ s m i = .error j3) := by
                show _ = _
                rw [HQE.out, hr2]
                unfold pairE
                simp only [needs_bad (r := []) (c := 41) hc3]
              rw [needs_bad hc3]
              rintro e w9 ⟨hb9, rfl⟩
              have HB9 := Lib.hid (HB8.out.trans hb9)
              clear hb9 HN8
              simp only [placeP]
              go_wp2_with fail
              exact ⟨rfl, HB9.out, by rw [HR.out]; rfl⟩
        · have HR : Hid (pairQ s m i = .error (j + 2)) := by
            show _ = _
            rw [HQ.out]
            exact pairR_e3 hc1 hl1 hk1 hc2
          rw [needs_bad hc2]
          rintro e w7 ⟨hb7, rfl⟩
          have HB7 := Lib.hid (HB6.out.trans hb7)
          clear hb7 HN6
          simp only [placeP]
          go_wp2_with fail
          exact ⟨rfl, HB7.out, by rw [HR.out]; rfl⟩
    · have HR : Hid (pairQ s m i = .error j) := by
        show _ = _
        rw [HQ.out]
        unfold pairR
        rw [needs_bad hc1]
      rw [needs_bad hc1]
      rintro e w2 ⟨hb2, rfl⟩
      have HB2 := Lib.hid (HB1.out.trans hb2)
      clear hb2 HN
      simp only [placeP]
      go_wp2_with fail
      exact ⟨rfl, HB2.out, by rw [HR.out]; rfl⟩
end Go.Proofs.YtoglgeaiiipchabGreatDoor
