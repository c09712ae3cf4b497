/- Walks: the program's parser: pair. -/
import Derived.Test.YtoglgeaiiipchaaDoorWPs
import Derived.Maps.OwnSet
import Derived.Maps.Keyed
import Derived.Maps.Views
namespace Go.Proofs.YtoglgeaiiipchaaDoor
open Go Go.RowKit Go.Sort

def PNodePost (X : Nat) (S : ByteArray) (o : List Nd) (W : World) (r : Except Nat (Fm × Nat)) (e : Ending) (w' : World) : Prop :=
  Below X W w' ∧ match r with
  | .ok (t, j) => e = .returned (.int .i64 (((t.flat o).length : Int) - 1)) ∧ PsAt X S j (t.flat o) w'
  | .error j => e = placeP j
def pairQ (s : List UInt8) (m i : Nat) : Except Nat (Fm × Nat) := match prs s m i with | .error e => .error e | .ok (a, j) => pairR s m a j
theorem byteKey (c : UInt8) : keyOf Tryd.prog 5 (.int .u8 (c.toNat : Int)) = some (.int .u8 (c.toNat : Int)) := Maps.keyOf_int_mk Tryd.underlying5 (by have := UInt8.toNat_lt c; simp [Lit.wf, IntKind.min, IntKind.max, IntKind.signed, IntKind.bits]; omega)
theorem signs_at (c : UInt8) : (((((DataW.map (H := Unit) []).put (.int .u8 38) (.lit (.int .i64 4))).put (.int .u8 124) (.lit (.int .i64 5))).put (.int .u8 85) (.lit (.int .i64 7))).put (.int .u8 82) (.lit (.int .i64 8))).atKey (.int .u8 (c.toNat : Int)) (.lit (.int .i64 0)) = .lit (.int .i64 (kndAt c)) := by
  by_cases h1 : c = 38
  · subst h1; rfl
  · by_cases h2 : c = 124
    · subst h2; rfl
    · by_cases h3 : c = 85
      · subst h3; rfl
      · by_cases h4 : c = 82
        · subst h4; rfl
        · have q1 := (neForms h1).2.2.1
          have q2 := (neForms h2).2.2.1
          have q3 := (neForms h3).2.2.1
          have q4 := (neForms h4).2.2.1
          have hk : kndAt c = 0 := by unfold kndAt; rw [if_neg h1, if_neg h2, if_neg h3, if_neg h4]
          rw [hk]
          have e4 : Lit.int .u8 (c.toNat : Int) ≠ Lit.int .u8 82 := fun h' => q4 (by injection h')
          have e3 : Lit.int .u8 (c.toNat : Int) ≠ Lit.int .u8 85 := fun h' => q3 (by injection h')
          have e2 : Lit.int .u8 (c.toNat : Int) ≠ Lit.int .u8 124 := fun h' => q2 (by injection h')
          have e1 : Lit.int .u8 (c.toNat : Int) ≠ Lit.int .u8 38 := fun h' => q1 (by injection h')
          rw [Maps.atKey_put_other e4, Maps.atKey_put_other e3, Maps.atKey_put_other e2, Maps.atKey_put_other e1]
          rfl
/-- the map of the signs, as it is made: a run for each operation -/
theorem signsMap (w : World) : ∃ w1 w2 w3 w4 : World,
    (Instr.mapUpdate 88 (.map (some w.heap.size)) (.int .u8 38) (.int .i64 4)).run Tryd.prog (w.alloc (.map #[] 0)) = .ok () w1 ∧
    (Instr.mapUpdate 88 (.map (some w.heap.size)) (.int .u8 124) (.int .i64 5)).run Tryd.prog w1 = .ok () w2 ∧
    (Instr.mapUpdate 88 (.map (some w.heap.size)) (.int .u8 85) (.int .i64 7)).run Tryd.prog w2 = .ok () w3 ∧
    (Instr.mapUpdate 88 (.map (some w.heap.size)) (.int .u8 82) (.int .i64 8)).run Tryd.prog w3 = .ok () w4 ∧
    Below w.heap.size w w4 ∧ w.heap.size < w4.heap.size ∧ ∀ (W : World) (c : UInt8), Below w4.heap.size w4 W →
      (Instr.lookup 88 (.map (some w.heap.size)) (.int .u8 (c.toNat : Int)) false).run Tryd.prog W = .ok (.int .i64 (kndAt c)) W := by
  have K := Maps.int_keyed (P := Tryd.prog) Tryd.underlying5
  have hv : ∀ a : Int, (Lit.int .i64 a).wf = true → plainElem (H := Unit) Tryd.prog 3 (.int .i64 a) = some (.lit (.int .i64 a), []) := fun a h => plainElem_int Tryd.underlying3 h
  have o0 : (w.alloc (.map #[] 0)).ownsMap Tryd.prog 5 (plainElem (H := Unit) Tryd.prog 3) w.heap.size 0 (.map []) := World.ownsMap_made _ _ _ _
  obtain ⟨w1, r1, o1, g1⟩ := o0.update K Tryd.underlying88 (by decide) (byteKey 38) (hv 4 (by decide))
  obtain ⟨w2, r2, o2, g2⟩ := o1.update K Tryd.underlying88 (by decide) (byteKey 124) (hv 5 (by decide))
  obtain ⟨w3, r3, o3, g3⟩ := o2.update K Tryd.underlying88 (by decide) (byteKey 85) (hv 7 (by decide))
  obtain ⟨w4, r4, o4, g4⟩ := o3.update K Tryd.underlying88 (by decide) (byteKey 82) (hv 8 (by decide))
  have HB : Below w.heap.size w w4 := by
    have h0 : Below w.heap.size w (w.alloc (.map #[] 0)) := (Below.refl _ _).alloc (Nat.le_refl _) _
    have f : ∀ {A B : World}, Below w.heap.size w A → A.grownBy B (some w.heap.size) → Below w.heap.size w B := fun h g => h.grown g h.size (fun k e => by cases e; exact Nat.le_refl _)
    exact f (f (f (f h0 g1) g2) g3) g4
  refine ⟨w1, w2, w3, w4, r1, r2, r3, r4, HB, o4.lt, fun W c hb => ?_⟩
  have o5 := o4.kept (below_grown (row := none) hb) (by simp)
  obtain ⟨x, r5, h5, -⟩ := o5.lookup_int K Tryd.underlying88 Tryd.underlying3 (by kernel_rfl) (byteKey c)
  rw [r5]
  have := (signs_at c).symm.trans h5
  simp only [DataW.lit.injEq, Lit.int.injEq, true_and] at this
  rw [this]
/-- need at one sign, for the pair -/
theorem need1_ (X : Nat) (s : List UInt8) (S : ByteArray) (hS : S.size = s.length) (hG : ∀ (i : Nat) (h : i < S.size), S[i]'h = chr s i) (hs : s.length ≤ 100000) (c : UInt8) (i : Nat) (o : List Nd) (W : World) (hi : i ≤ s.length) (hp : PsAt X S i o W) :
    Calls Tryd.prog 59 #[.pointer (some ⟨X, 0, none⟩), .string ⟨#[c]⟩] W (NeedPost X S o W (needs s [c] i)) :=
  need_ X s S hS hG hs [c] ⟨#[c]⟩ rfl (fun i h => by have h' : i < 1 := h; obtain rfl : i = 0 := (by omega); rfl) (by simp) i o W hi hp
set_option maxRecDepth 100000 in
set_option maxHeartbeats 2000000 in
theorem pair_ (X : Nat) (s : List UInt8) (S : ByteArray) (hS : S.size = s.length) (hG : ∀ (i : Nat) (h : i < S.size), S[i]'h = chr s i) (hs : s.length ≤ 100000) (m : Nat)
    (IH : ∀ (i : Nat) (o : List Nd) (W : World), i ≤ s.length → s.length - i < m → o.length ≤ i → PsAt X S i o W → Calls Tryd.prog 43 #[.pointer (some ⟨X, 0, none⟩)] W (PNodePost X S o W (prs s m i)))
    (i : Nat) (o : List Nd) (W : World) (hi : i ≤ s.length) (hm : s.length - i < m) (ho : o.length ≤ i) (hp : PsAt X S i o W) :
    Calls Tryd.prog 61 #[.pointer (some ⟨X, 0, none⟩)] W (PNodePost X S o W (pairQ s m i)) := by
  have HC := Lib.hid (IH i o W hi hm ho hp)
  have HIH := Lib.hid IH
  have HN1 := Lib.hid (need1_ X s S hS hG hs)
  have HSG := Lib.hid (fun i o W hp => sign_at X s S hS hG hs i o W hp)
  have hmm := @run_makeMap Tryd.prog
  clear hG hp IH
  go_enter Tryd.func61, Tryd.ntmps61
  go_wp2_with fail
  refine HC.out.mono ?_
  cases hr : prs s m i with
  | error j =>
    have HQ : Hid (pairQ s m i = .error j) := by unfold Hid pairQ; rw [hr]
    rintro e w1 ⟨hb1, rfl⟩
    have HB1 := Lib.hid hb1
    clear hb1 HC
    simp only [placeP]
    go_wp2_with fail
    exact ⟨rfl, HB1.out, by rw [HQ.out]; rfl⟩
  | ok q =>
    obtain ⟨a, j⟩ := q
    have HQ : Hid (pairQ s m i = pairR s m a j) := by unfold Hid pairQ; rw [hr]
    obtain ⟨p2, p5, p6⟩ : j ≤ s.length ∧ i ≤ j ∧ (a.flat o).length ≤ j := by
      obtain ⟨p1, _, _, p2⟩ := prs_ok _ _ hr
      have p3 := size_show a
      have p4 := a.flat_len o
      omega
    have HE : Hid (∀ k b, (Fm.bi k a b).flat o = b.flat (a.flat o) ++ [⟨k, ((a.flat o).length : Int) - 1, ((b.flat (a.flat o)).length : Int) - 1, 0⟩]) := fun _ _ => rfl
    rintro e w1 ⟨hb1, rfl, hp1⟩
    generalize a.flat o = o1 at *
    have HB1 := Lib.hid hb1
    have HP1 := Lib.hid hp1
    have HN := Lib.hid (HN1.out 32 j o1 w1 p2 hp1)
    clear hb1 hp1 HC hr
    go_wp2_with fail
    refine HN.out.mono ?_
    by_cases hc1 : j < s.length ∧ chr s j = 32
    · rw [needs_good hc1.1 hc1.2]
      rintro e w2 ⟨hb2, rfl, hp2⟩
      have HB2 := Lib.hid (HB1.out.trans hb2)
      have HP2 := Lib.hid hp2
      obtain ⟨m1, m2, m3, m4, r1, r2, r3, r4, hbm, hml, hlk⟩ := signsMap w2
      have hp3 := hp2.below hbm
      have HB3 := Lib.hid (Below_on HB2.out hbm (Nat.le_of_lt hp2.lt))
      have HC3 := Lib.hid (HSG.out (j + 1) o1 m4 hp3)
      have HLK := Lib.hid hlk
      have HP3 := Lib.hid hp3
      clear hb2 hp2 HN hp3 hlk hbm HP1 HB1 HP2
      go_wp2_with fail
      refine HC3.out.mono ?_
      rintro e w5 ⟨rfl, hb5⟩
      have HB5 := Lib.hid (Below_on HB3.out hb5 (Nat.le_of_lt HP3.out.lt))
      have HP5 := Lib.hid (HP3.out.below hb5)
      have hk := HLK.out w5 (chr s (j + 1)) hb5
      obtain ⟨kn, hkn⟩ : ∃ kn : Int, kn = kndAt (chr s (j + 1)) := ⟨_, rfl⟩
      rw [← hkn] at hk
      have HKN := Lib.hid hkn
      clear hkn hb5 HC3 HP3 HLK r1 r2 r3 r4 hmm hml
      have c1 := HP5.out.c1
      by_cases hk0 : kn = 0
      · have HR : Hid (pairQ s m i = .error (j + 1)) := by
          show _ = _
          rw [HQ.out]
          exact pairR_e2 hc1 (fun h => h.2 (HKN.out ▸ hk0))
        have hq : (kn == 0) = true := by simp [hk0]
        clear hk0
        go_wp2_with fail
        exact ⟨rfl, HB5.out, by rw [HR.out]; rfl⟩
      · have hl1 : j + 1 < s.length := by
          rcases Nat.lt_or_ge (j + 1) s.length with h | h
          · exact h
          · refine absurd ?_ hk0
            rw [HKN.out]
            have : chr s (j + 1) = 0 := by
              unfold chr
              rw [List.getD_eq_getElem?_getD, List.getElem?_eq_none (by omega)]
              rfl
            rw [this]
            rfl
        have hq : (kn == 0) = false := by simp [hk0]
        have d1 : IntKind.i64.wrap (((j + 1 : Nat) : Int) + 1) = ((j + 1 : Nat) : Int) + 1 := IntWalk.i64_in _ (by omega)
        have f1 := HP5.out.f1
        have HP6 : Hid (PsAt X S (j + 2) o1 (w5.setCell ⟨X, 1, none⟩ (.int .i64 (((j + 1 : Nat) : Int) + 1)))) := HP5.out.to (j + 2)
        have HB6 : Hid (Below X W (w5.setCell ⟨X, 1, none⟩ (.int .i64 (((j + 1 : Nat) : Int) + 1)))) := HB5.out.trans (set_below _)
        generalize ((j + 1 : Nat) : Int) = jj at *
        go_wp2_with fail
        generalize w5.setCell ⟨X, 1, none⟩ (.int .i64 (jj + 1)) = w6 at *
        clear hk c1 f1 hq d1 HB5 HP5
        have HN6 := Lib.hid (HN1.out 32 (j + 2) o1 w6 (by omega) HP6.out)
        refine HN6.out.mono ?_
        have hk1 : kndAt (chr s (j + 1)) ≠ 0 := HKN.out ▸ hk0
        by_cases hc2 : j + 2 < s.length ∧ chr s (j + 2) = 32
        · rw [needs_good hc2.1 hc2.2]
          have HQE : Hid (pairQ s m i = pairE s a kn (prs s m (j + 3))) := by
            show _ = _
            rw [HQ.out, HKN.out]
            exact pairR_ok hc1 hl1 hk1 hc2
          rintro e w7 ⟨hb7, rfl, hp7⟩
          have HB7 := Lib.hid (HB6.out.trans hb7)
          have HC7 := Lib.hid (HIH.out (j + 3) o1 w7 (by omega) (by omega) (by omega) hp7)
          clear hb7 hp7 HN6 HP6 HB6
          go_wp2_with fail
          refine HC7.out.mono ?_
          cases hr2 : prs s m (j + 3) with
          | error e2 =>
            have HR : Hid (pairQ s m i = .error e2) := by show _ = _; rw [HQE.out, hr2]; rfl
            rintro e w8 ⟨hb8, rfl⟩
            have HB8 := Lib.hid (HB7.out.trans hb8)
            clear hb8 HC7
            simp only [placeP]
            go_wp2_with fail
            exact ⟨rfl, HB8.out, by rw [HR.out]; rfl⟩
          | ok q2 =>
            obtain ⟨b, j3⟩ := q2
            obtain ⟨z2, z5, z6⟩ : j3 ≤ s.length ∧ j + 3 ≤ j3 ∧ (b.flat o1).length ≤ j3 := by
              obtain ⟨r1, _, _, r2⟩ := prs_ok _ _ hr2
              have r3 := size_show b
              have r4 := b.flat_len o1
              omega
            rintro e w8 ⟨hb8, rfl, hp8⟩
            have HE2 : Hid ((Fm.bi kn a b).flat o = b.flat o1 ++ [⟨kn, (o1.length : Int) - 1, ((b.flat o1).length : Int) - 1, 0⟩]) := HE.out kn b
            generalize b.flat o1 = o2 at *
            have HB8 := Lib.hid (HB7.out.trans hb8)
            have HN8 := Lib.hid (HN1.out 41 j3 o2 w8 z2 hp8)
            clear hb8 hp8 HC7
            go_wp2_with fail
            refine HN8.out.mono ?_
            by_cases hc3 : j3 < s.length ∧ chr s j3 = 41
            · rw [needs_good hc3.1 hc3.2]
              have HR : Hid (pairQ s m i = .ok (.bi kn a b, j3 + 1)) := by
                show _ = _
                rw [HQE.out, hr2]
                unfold pairE
                simp only [needs_good (r := []) hc3.1 hc3.2]
                rfl
              rintro e w9 ⟨hb9, rfl, hp9⟩
              have HB9 := Lib.hid (HB8.out.trans hb9)
              have HPU := Lib.hid (put_ X S (j3 + 1) o2 ⟨kn, (o1.length : Int) - 1, (o2.length : Int) - 1, 0⟩ w9 (by omega) hp9)
              clear hb9 hp9 HN8
              go_wp2_with fail
              refine HPU.out.mono ?_
              rintro e w10 ⟨rfl, hp10, hb10⟩
              have HB10 := Lib.hid (HB9.out.trans hb10)
              have HP10 := Lib.hid hp10
              clear hb10 hp10 HPU
              generalize o2 ++ [(⟨kn, (o1.length : Int) - 1, (o2.length : Int) - 1, 0⟩ : Nd)] = o3 at *
              go_wp2_with fail
              go_ret
              exact ⟨HB10.out, by rw [HR.out]; exact ⟨by rw [HE2.out]; rfl, by rw [HE2.out]; exact HP10.out⟩⟩
            · have HR : Hid (pairQ s m i = .error j3) := by
                show _ = _
                rw [HQE.out, hr2]
                unfold pairE
                simp only [needs_bad (r := []) (c := 41) hc3]
              rw [needs_bad hc3]
              rintro e w9 ⟨hb9, rfl⟩
              have HB9 := Lib.hid (HB8.out.trans hb9)
              clear hb9 HN8
              simp only [placeP]
              go_wp2_with fail
              exact ⟨rfl, HB9.out, by rw [HR.out]; rfl⟩
        · have HR : Hid (pairQ s m i = .error (j + 2)) := by
            show _ = _
            rw [HQ.out]
            exact pairR_e3 hc1 hl1 hk1 hc2
          rw [needs_bad hc2]
          rintro e w7 ⟨hb7, rfl⟩
          have HB7 := Lib.hid (HB6.out.trans hb7)
          clear hb7 HN6
          simp only [placeP]
          go_wp2_with fail
          exact ⟨rfl, HB7.out, by rw [HR.out]; rfl⟩
    · have HR : Hid (pairQ s m i = .error j) := by
        show _ = _
        rw [HQ.out]
        unfold pairR
        rw [needs_bad hc1]
      rw [needs_bad hc1]
      rintro e w2 ⟨hb2, rfl⟩
      have HB2 := Lib.hid (HB1.out.trans hb2)
      clear hb2 HN
      simp only [placeP]
      go_wp2_with fail
      exact ⟨rfl, HB2.out, by rw [HR.out]; rfl⟩
end Go.Proofs.YtoglgeaiiipchaaDoor
