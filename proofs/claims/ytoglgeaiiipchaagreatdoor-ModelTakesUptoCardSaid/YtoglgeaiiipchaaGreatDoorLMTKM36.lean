import Derived.Test.YtoglgeaiiipchaaGreatDoorLMTKM35
import Derived.Maps.OwnSet
import Derived.Maps.Keyed
import Derived.Maps.Views
set_option linter.unusedSimpArgs false
set_option linter.unusedVariables false
namespace Go.Proofs.YtoglgeaiiipchaaGreatDoor
open Go Go.RowKit Go.Sort
def PNodePost (X : Nat) (S : ByteArray) (o : List Nd) (W : World) (r : Except Nat (Fm × Nat)) (e : Ending) (w' : World) : Prop :=
  Below X W w' ∧ match r with
  | .ok (t, j) => e = .returned (.int .i64 (((t.flat o).length : Int) - 1)) ∧ PsAt X S j (t.flat o) w'
  | .error j => e = placeP j
def pairQ (s : List UInt8) (m i : Nat) : Except Nat (Fm × Nat) := match prs s m i with | .error e => .error e | .ok (a, j) => pairR s m a j
theorem byteKey (c : UInt8) : keyOf Tryz.prog 5 (.int .u8 (c.toNat : Int)) = some (.int .u8 (c.toNat : Int)) := Maps.keyOf_int_mk Tryz.underlying5 (by have := UInt8.toNat_lt c; simp [Lit.wf, IntKind.min, IntKind.max, IntKind.signed, IntKind.bits]; omega)
theorem signs_at (c : UInt8) : (((((DataW.map (H := Unit) []).put (.int .u8 38) (.lit (.int .i64 4))).put (.int .u8 124) (.lit (.int .i64 5))).put (.int .u8 85) (.lit (.int .i64 7))).put (.int .u8 82) (.lit (.int .i64 8))).atKey (.int .u8 (c.toNat : Int)) (.lit (.int .i64 0)) = .lit (.int .i64 (kndAt c)) := by
  by_cases h1 : c = 38
  · subst h1; rfl
  · by_cases h2 : c = 124
    · subst h2; rfl
    · by_cases h3 : c = 85
      · subst h3; rfl
      · by_cases h4 : c = 82
        · subst h4; rfl
        · have q1 := (neForms h1).2.2.1
          have q2 := (neForms h2).2.2.1
          have q3 := (neForms h3).2.2.1
          have q4 := (neForms h4).2.2.1
          have hk : kndAt c = 0 := by unfold kndAt; rw [if_neg h1, if_neg h2, if_neg h3, if_neg h4]
          rw [hk]
          have e4 : Lit.int .u8 (c.toNat : Int) ≠ Lit.int .u8 82 := fun h' => q4 (by injection h')
          have e3 : Lit.int .u8 (c.toNat : Int) ≠ Lit.int .u8 85 := fun h' => q3 (by injection h')
          have e2 : Lit.int .u8 (c.toNat : Int) ≠ Lit.int .u8 124 := fun h' => q2 (by injection h')
          have e1 : Lit.int .u8 (c.toNat : Int) ≠ Lit.int .u8 38 := fun h' => q1 (by injection h')
          rw [Maps.atKey_put_other e4, Maps.atKey_put_other e3, Maps.atKey_put_other e2, Maps.atKey_put_other e1]
          rfl
theorem signsMap (w : World) : ∃ w1 w2 w3 w4 : World,
    (Instr.mapUpdate 240 (.map (some w.heap.size)) (.int .u8 38) (.int .i64 4)).run Tryz.prog (w.alloc (.map #[] 0)) = .ok () w1 ∧
    (Instr.mapUpdate 240 (.map (some w.heap.size)) (.int .u8 124) (.int .i64 5)).run Tryz.prog w1 = .ok () w2 ∧
    (Instr.mapUpdate 240 (.map (some w.heap.size)) (.int .u8 85) (.int .i64 7)).run Tryz.prog w2 = .ok () w3 ∧
    (Instr.mapUpdate 240 (.map (some w.heap.size)) (.int .u8 82) (.int .i64 8)).run Tryz.prog w3 = .ok () w4 ∧
    Below w.heap.size w w4 ∧ w.heap.size < w4.heap.size ∧ ∀ (W : World) (c : UInt8), Below w4.heap.size w4 W →
      (Instr.lookup 240 (.map (some w.heap.size)) (.int .u8 (c.toNat : Int)) false).run Tryz.prog W = .ok (.int .i64 (kndAt c)) W := by
  have K := Maps.int_keyed (P := Tryz.prog) Tryz.underlying5
  have hv : ∀ a : Int, (Lit.int .i64 a).wf = true → plainElem (H := Unit) Tryz.prog 3 (.int .i64 a) = some (.lit (.int .i64 a), []) := fun a h => plainElem_int Tryz.underlying3 h
  have o0 : (w.alloc (.map #[] 0)).ownsMap Tryz.prog 5 (plainElem (H := Unit) Tryz.prog 3) w.heap.size 0 (.map []) := World.ownsMap_made _ _ _ _
  obtain ⟨w1, r1, o1, g1⟩ := o0.update K Tryz.underlying240 (by decide) (byteKey 38) (hv 4 (by decide))
  obtain ⟨w2, r2, o2, g2⟩ := o1.update K Tryz.underlying240 (by decide) (byteKey 124) (hv 5 (by decide))
  obtain ⟨w3, r3, o3, g3⟩ := o2.update K Tryz.underlying240 (by decide) (byteKey 85) (hv 7 (by decide))
  obtain ⟨w4, r4, o4, g4⟩ := o3.update K Tryz.underlying240 (by decide) (byteKey 82) (hv 8 (by decide))
  have HB : Below w.heap.size w w4 := by
    have h0 : Below w.heap.size w (w.alloc (.map #[] 0)) := (Below.refl _ _).alloc (Nat.le_refl _) _
    have f : ∀ {A B : World}, Below w.heap.size w A → A.grownBy B (some w.heap.size) → Below w.heap.size w B := fun h g => h.grown g h.size (fun k e => by cases e; exact Nat.le_refl _)
    exact f (f (f (f h0 g1) g2) g3) g4
  refine ⟨w1, w2, w3, w4, r1, r2, r3, r4, HB, o4.lt, fun W c hb => ?_⟩
  have o5 := o4.kept (below_grown (row := none) hb) (by simp)
  obtain ⟨x, r5, h5, -⟩ := o5.lookup_int K Tryz.underlying240 Tryz.underlying3 (by kernel_rfl) (byteKey c)
  rw [r5]
  have := (signs_at c).symm.trans h5
  simp only [DataW.lit.injEq, Lit.int.injEq, true_and] at this
  rw [this]
theorem need1_ (X : Nat) (s : List UInt8) (S : ByteArray) (hS : S.size = s.length) (hG : ∀ (i : Nat) (h : i < S.size), S[i]'h = chr s i) (hs : s.length ≤ 100000) (c : UInt8) (i : Nat) (o : List Nd) (W : World) (hi : i ≤ s.length) (hp : PsAt X S i o W) :
    Calls Tryz.prog 165 #[.pointer (some ⟨X, 0, none⟩), .string ⟨#[c]⟩] W (NeedPost X S o W (needs s [c] i)) :=
  need_ X s S hS hG hs [c] ⟨#[c]⟩ rfl (fun i h => by have h' : i < 1 := h; obtain rfl : i = 0 := (by omega); rfl) (by simp) i o W hi hp
set_option maxRecDepth 100000 in
set_option maxHeartbeats 2000000 in
theorem pair_ (X : Nat) (s : List UInt8) (S : ByteArray) (hS : S.size = s.length) (hG : ∀ (i : Nat) (h : i < S.size), S[i]'h = chr s i) (hs : s.length ≤ 100000) (m : Nat)
    (IH : ∀ (i : Nat) (o : List Nd) (W : World), i ≤ s.length → s.length - i < m → o.length ≤ i → PsAt X S i o W → Calls Tryz.prog 140 #[.pointer (some ⟨X, 0, none⟩)] W (PNodePost X S o W (prs s m i)))
    (i : Nat) (o : List Nd) (W : World) (hi : i ≤ s.length) (hm : s.length - i < m) (ho : o.length ≤ i) (hp : PsAt X S i o W) :
    Calls Tryz.prog 167 #[.pointer (some ⟨X, 0, none⟩)] W (PNodePost X S o W (pairQ s m i)) := by
  have HC := Lib.hid (IH i o W hi hm ho hp)
  have HIH := Lib.hid IH
  have HN1 := Lib.hid (need1_ X s S hS hG hs)
  have HSG := Lib.hid (fun i o W hp => sign_at X s S hS hG hs i o W hp)
  have hmm := @run_makeMap Tryz.prog
  clear hG hp IH
  go_enter Tryz.func167, Tryz.ntmps167
  go_wp2_with fail
  refine HC.out.mono ?_
  cases hr : prs s m i with
  | error j =>
    have HQ : Hid (pairQ s m i = .error j) := by unfold Hid pairQ; rw [hr]
    rintro e w1 ⟨hb1, rfl⟩
    have HB1 := Lib.hid hb1
    clear hb1 HC
    simp only [placeP]
    go_wp2_with fail
    exact ⟨rfl, HB1.out, by rw [HQ.out]; rfl⟩
  | ok q =>
    obtain ⟨a, j⟩ := q
    have HQ : Hid (pairQ s m i = pairR s m a j) := by unfold Hid pairQ; rw [hr]
    obtain ⟨p2, p5, p6⟩ : j ≤ s.length ∧ i ≤ j ∧ (a.flat o).length ≤ j := by
      obtain ⟨p1, _, _, p2⟩ := prs_ok _ _ hr
      have p3 := size_show a
      have p4 := a.flat_len o
      omega
    have HE : Hid (∀ k b, (Fm.bi k a b).flat o = b.flat (a.flat o) ++ [⟨k, ((a.flat o).length : Int) - 1, ((b.flat (a.flat o)).length : Int) - 1, 0⟩]) := fun _ _ => rfl
    rintro e w1 ⟨hb1, rfl, hp1⟩
    generalize a.flat o = o1 at *
    have HB1 := Lib.hid hb1
    have HP1 := Lib.hid hp1
    have HN := Lib.hid (HN1.out 32 j o1 w1 p2 hp1)
    clear hb1 hp1 HC hr
    go_wp2_with fail
    refine HN.out.mono ?_
    by_cases hc1 : j < s.length ∧ chr s j = 32
    · rw [needs_good hc1.1 hc1.2]
      rintro e w2 ⟨hb2, rfl, hp2⟩
      have HB2 := Lib.hid (HB1.out.trans hb2)
      have HP2 := Lib.hid hp2
      obtain ⟨m1, m2, m3, m4, r1, r2, r3, r4, hbm, hml, hlk⟩ := signsMap w2
      have hp3 := hp2.below hbm
      have HB3 := Lib.hid (Below_on HB2.out hbm (Nat.le_of_lt hp2.lt))
      have HC3 := Lib.hid (HSG.out (j + 1) o1 m4 hp3)
      have HLK := Lib.hid hlk
      have HP3 := Lib.hid hp3
      clear hb2 hp2 HN hp3 hlk hbm HP1 HB1 HP2
      go_wp2_with fail
      refine HC3.out.mono ?_
      rintro e w5 ⟨rfl, hb5⟩
      have HB5 := Lib.hid (Below_on HB3.out hb5 (Nat.le_of_lt HP3.out.lt))
      have HP5 := Lib.hid (HP3.out.below hb5)
      have hk := HLK.out w5 (chr s (j + 1)) hb5
      obtain ⟨kn, hkn⟩ : ∃ kn : Int, kn = kndAt (chr s (j + 1)) := ⟨_, rfl⟩
      rw [← hkn] at hk
      have HKN := Lib.hid hkn
      clear hkn hb5 HC3 HP3 HLK r1 r2 r3 r4 hmm hml
      have c1 := HP5.out.c1
      by_cases hk0 : kn = 0
      · have HR : Hid (pairQ s m i = .error (j + 1)) := by
          show _ = _
          rw [HQ.out]
          exact pairR_e2 hc1 (fun h => h.2 (HKN.out ▸ hk0))
        have hq : (kn == 0) = true := by simp [hk0]
        clear hk0
        go_wp2_with fail
        exact ⟨rfl, HB5.out, by rw [HR.out]; rfl⟩
      · have hl1 : j + 1 < s.length := by
          rcases Nat.lt_or_ge (j + 1) s.length with h | h
          · exact h
          · refine absurd ?_ hk0
            rw [HKN.out]
            have : chr s (j + 1) = 0 := by
              unfold chr
              rw [List.getD_eq_getElem?_getD, List.getElem?_eq_none (by omega)]
              rfl
            rw [this]
            rfl
        have hq : (kn == 0) = false := by simp [hk0]
        have d1 : IntKind.i64.wrap (((j + 1 : Nat) : Int) + 1) = ((j + 1 : Nat) : Int) + 1 := IntWalk.i64_in _ (by omega)
        have f1 := HP5.out.f1
        have HP6 : Hid (PsAt X S (j + 2) o1 (w5.setCell ⟨X, 1, none⟩ (.int .i64 (((j + 1 : Nat) : Int) + 1)))) := HP5.out.to (j + 2)
        have HB6 : Hid (Below X W (w5.setCell ⟨X, 1, none⟩ (.int .i64 (((j + 1 : Nat) : Int) + 1)))) := HB5.out.trans (set_below _)
        generalize ((j + 1 : Nat) : Int) = jj at *
        go_wp2_with fail
        generalize w5.setCell ⟨X, 1, none⟩ (.int .i64 (jj + 1)) = w6 at *
        clear hk c1 f1 hq d1 HB5 HP5
        have HN6 := Lib.hid (HN1.out 32 (j + 2) o1 w6 (by omega) HP6.out)
        refine HN6.out.mono ?_
        have hk1 : kndAt (chr s (j + 1)) ≠ 0 := HKN.out ▸ hk0
        by_cases hc2 : j + 2 < s.length ∧ chr s (j + 2) = 32
        · rw [needs_good hc2.1 hc2.2]
          have HQE : Hid (pairQ s m i = pairE s a kn (prs s m (j + 3))) := by
            show _ = _
            rw [HQ.out, HKN.out]
            exact pairR_ok hc1 hl1 hk1 hc2
          rintro e w7 ⟨hb7, rfl, hp7⟩
          have HB7 := Lib.hid (HB6.out.trans hb7)
          have HC7 := Lib.hid (HIH.out (j + 3) o1 w7 (by omega) (by omega) (by omega) hp7)
          clear hb7 hp7 HN6 HP6 HB6
          go_wp2_with fail
          refine HC7.out.mono ?_
          cases hr2 : prs s m (j + 3) with
          | error e2 =>
            have HR : Hid (pairQ s m i = .error e2) := by show _ = _; rw [HQE.out, hr2]; rfl
            rintro e w8 ⟨hb8, rfl⟩
            have HB8 := Lib.hid (HB7.out.trans hb8)
            clear hb8 HC7
            simp only [placeP]
            go_wp2_with fail
            exact ⟨rfl, HB8.out, by rw [HR.out]; rfl⟩
          | ok q2 =>
            obtain ⟨b, j3⟩ := q2
            obtain ⟨z2, z5, z6⟩ : j3 ≤ s.length ∧ j + 3 ≤ j3 ∧ (b.flat o1).length ≤ j3 := by
              obtain ⟨r1, _, _, r2⟩ := prs_ok _ _ hr2
              have r3 := size_show b
              have r4 := b.flat_len o1
              omega
            rintro e w8 ⟨hb8, rfl, hp8⟩
            have HE2 : Hid ((Fm.bi kn a b).flat o = b.flat o1 ++ [⟨kn, (o1.length : Int) - 1, ((b.flat o1).length : Int) - 1, 0⟩]) := HE.out kn b
            generalize b.flat o1 = o2 at *
            have HB8 := Lib.hid (HB7.out.trans hb8)
            have HN8 := Lib.hid (HN1.out 41 j3 o2 w8 z2 hp8)
            clear hb8 hp8 HC7
            go_wp2_with fail
            refine HN8.out.mono ?_
            by_cases hc3 : j3 < s.length ∧ chr s j3 = 41
            · rw [needs_good hc3.1 hc3.2]
              have HR : Hid (pairQ s m i = .ok (.bi kn a b, j3 + 1)) := by
                show _ = _
                rw [HQE.out, hr2]
                unfold pairE
                simp only [needs_good (r := []) hc3.1 hc3.2]
                rfl
              rintro e w9 ⟨hb9, rfl, hp9⟩
              have HB9 := Lib.hid (HB8.out.trans hb9)
              have HPU := Lib.hid (put_ X S (j3 + 1) o2 ⟨kn, (o1.length : Int) - 1, (o2.length : Int) - 1, 0⟩ w9 (by omega) hp9)
              clear hb9 hp9 HN8
              go_wp2_with fail
              refine HPU.out.mono ?_
              rintro e w10 ⟨rfl, hp10, hb10⟩
              have HB10 := Lib.hid (HB9.out.trans hb10)
              have HP10 := Lib.hid hp10
              clear hb10 hp10 HPU
              generalize o2 ++ [(⟨kn, (o1.length : Int) - 1, (o2.length : Int) - 1, 0⟩ : Nd)] = o3 at *
              go_wp2_with fail
              go_ret
              exact ⟨HB10.out, by rw [HR.out]; exact ⟨by rw [HE2.out]; rfl, by rw [HE2.out]; exact HP10.out⟩⟩
            · have HR : Hid (pairQ s m i = .error j3) := by
                show _ = _
                rw [HQE.out, hr2]
                unfold pairE
                simp only [needs_bad (r := []) (c := 41) hc3]
              rw [needs_bad hc3]
              rintro e w9 ⟨hb9, rfl⟩
              have HB9 := Lib.hid (HB8.out.trans hb9)
              clear hb9 HN8
              simp only [placeP]
              go_wp2_with fail
              exact ⟨rfl, HB9.out, by rw [HR.out]; rfl⟩
        · have HR : Hid (pairQ s m i = .error (j + 2)) := by
            show _ = _
            rw [HQ.out]
            exact pairR_e3 hc1 hl1 hk1 hc2
          rw [needs_bad hc2]
          rintro e w7 ⟨hb7, rfl⟩
          have HB7 := Lib.hid (HB6.out.trans hb7)
          clear hb7 HN6
          simp only [placeP]
          go_wp2_with fail
          exact ⟨rfl, HB7.out, by rw [HR.out]; rfl⟩
    · have HR : Hid (pairQ s m i = .error j) := by
        show _ = _
        rw [HQ.out]
        unfold pairR
        rw [needs_bad hc1]
      rw [needs_bad hc1]
      rintro e w2 ⟨hb2, rfl⟩
      have HB2 := Lib.hid (HB1.out.trans hb2)
      clear hb2 HN
      simp only [placeP]
      go_wp2_with fail
      exact ⟨rfl, HB2.out, by rw [HR.out]; rfl⟩
end Go.Proofs.YtoglgeaiiipchaaGreatDoor

namespace Go.Proofs.YtoglgeaiiipchaaGreatDoor
open Go Go.RowKit Go.Sort
theorem needT_ (X : Nat) (s : List UInt8) (S : ByteArray) (hS : S.size = s.length) (hG : ∀ (i : Nat) (h : i < S.size), S[i]'h = chr s i) (hs : s.length ≤ 100000) (i : Nat) (o : List Nd) (W : World) (hi : i ≤ s.length) (hp : PsAt X S i o W) :
    Calls Tryz.prog 165 #[.pointer (some ⟨X, 0, none⟩), .string ⟨#[116, 114, 117, 101]⟩] W (NeedPost X S o W (needs s [116, 114, 117, 101] i)) :=
  need_ X s S hS hG hs [116, 114, 117, 101] ⟨#[116, 114, 117, 101]⟩ rfl (fun i h => by
    have h' : i < 4 := h
    rcases (show i = 0 ∨ i = 1 ∨ i = 2 ∨ i = 3 by omega) with rfl | rfl | rfl | rfl <;> rfl) (by simp) i o W hi hp
set_option maxRecDepth 100000 in
set_option maxHeartbeats 2000000 in
theorem pnode_ (X : Nat) (s : List UInt8) (S : ByteArray) (hS : S.size = s.length) (hG : ∀ (i : Nat) (h : i < S.size), S[i]'h = chr s i) (hs : s.length ≤ 100000) : ∀ (m i : Nat) (o : List Nd) (W : World), i ≤ s.length → s.length - i < m → o.length ≤ i → PsAt X S i o W →
    Calls Tryz.prog 140 #[.pointer (some ⟨X, 0, none⟩)] W (PNodePost X S o W (prs s m i)) := by
  intro m
  induction m with
  | zero => intro i o W h1 h2; omega
  | succ m ih =>
    intro i o W hi hm ho hp
    have HIH := Lib.hid ih
    have HPA := Lib.hid (pair_ X s S hS hG hs m ih)
    have HT := Lib.hid (needT_ X s S hS hG hs)
    have HSG := Lib.hid (fun i o W hp => sign_at X s S hS hG hs i o W hp)
    have HC := Lib.hid (HSG.out i o W hp)
    have HP := Lib.hid hp
    clear hG hp ih
    go_enter Tryz.func140, Tryz.ntmps140
    go_wp2_with fail
    refine HC.out.mono ?_
    rintro e w1 ⟨rfl, hb1⟩
    have HP1 := Lib.hid (HP.out.below hb1)
    have HB1 : Hid (Below X W w1) := hb1.mono (Nat.le_of_lt HP.out.lt)
    clear hb1 HC HP
    obtain ⟨-, c0, c1, -, -, -⟩ := HP1.out
    by_cases hlt : i < s.length
    · have hq : ((i : Int) == (s.length : Int)) = false := by simp; omega
      have b1 : ¬ (s.length ≤ i) := by omega
      have d1 : IntKind.i64.wrap ((i : Int) + 1) = (i : Int) + 1 := IntWalk.i64_in _ (by omega)
      by_cases h116 : chr s i = 116
      · rw [h116]
        have HQ : Hid (prs s (m + 1) i = ttRes (needs s [116, 114, 117, 101] i)) := by
          show _ = _
          unfold prs
          rw [if_neg b1, if_pos h116]
          cases needs s [116, 114, 117, 101] i <;> rfl
        go_wp2_with fail
        go_quiet (fail)
        have HP2 : Hid (∀ n, PsAt X S i o (w1.drewN n)) := fun n => HP1.out.below (below_drewN (Below.refl _ _) n)
        have HB2' : Hid (∀ n, Below X W (w1.drewN n)) := fun n => below_drewN HB1.out n
        have HPX := Lib.hid (HP2.out nq)
        have HBX := Lib.hid (HB2'.out nq)
        clear HP2 HB2' c0 c1 HP1 HB1
        generalize w1.drewN nq = w2 at *
        have HP2 := HPX
        have HB2 := HBX
        clear HPX HBX
        have c1 := HP2.out.c1
        have f1 := HP2.out.f1
        go_wp2_with fail
        have HN := Lib.hid (HT.out i o w2 hi HP2.out)
        refine HN.out.mono ?_
        cases hn : needs s [116, 114, 117, 101] i with
        | error j =>
          have HR : Hid (prs s (m + 1) i = .error j) := by show _ = _; rw [HQ.out, hn]; rfl
          rintro e w3 ⟨hb3, rfl⟩
          have HB3 := Lib.hid (HB2.out.trans hb3)
          clear hb3 HN
          simp only [placeP]
          go_wp2_with fail
          exact ⟨rfl, HB3.out, by rw [HR.out]; rfl⟩
        | ok j =>
          have HR : Hid (prs s (m + 1) i = .ok (.tt, j)) := by show _ = _; rw [HQ.out, hn]; rfl
          rintro e w3 ⟨hb3, rfl, hp3⟩
          have HB3 := Lib.hid (HB2.out.trans hb3)
          have HPU := Lib.hid (put_ X S j o ⟨1, 0, 0, 0⟩ w3 (by omega) hp3)
          have HE : Hid (Fm.flat .tt o = o ++ [⟨1, 0, 0, 0⟩]) := rfl
          clear hb3 hp3 HN
          go_wp2_with fail
          refine HPU.out.mono ?_
          rintro e w9 ⟨rfl, hp9, hb9⟩
          have HB9 := Lib.hid (HB3.out.trans hb9)
          have HP9 := Lib.hid hp9
          clear hp9 hb9 HPU
          go_wp2_with fail
          go_ret
          exact ⟨HB9.out, by rw [HR.out]; exact ⟨by rw [HE.out]; exact ret_int (by simp), by rw [HE.out]; exact HP9.out⟩⟩
      · by_cases h112 : chr s i = 112
        · rw [h112]
          go_wp2_with fail
          go_quiet (fail)
          have HP2 : Hid (∀ n, PsAt X S i o (w1.drewN n)) := fun n => HP1.out.below (below_drewN (Below.refl _ _) n)
          have HB2' : Hid (∀ n, Below X W (w1.drewN n)) := fun n => below_drewN HB1.out n
          have HPX := Lib.hid (HP2.out nq)
          have HBX := Lib.hid (HB2'.out nq)
          clear HP2 HB2' c0 c1 HP1 HB1
          generalize w1.drewN nq = w2 at *
          have HP2 := HPX
          have HB2 := HBX
          clear HPX HBX
          have c1 := HP2.out.c1
          have f1 := HP2.out.f1
          have HPS : Hid (PsAt X S (i + 1) o (w2.setCell ⟨X, 1, none⟩ (.int .i64 ((i : Int) + 1)))) := HP2.out.to (i + 1)
          have HBS : Hid (Below X W (w2.setCell ⟨X, 1, none⟩ (.int .i64 ((i : Int) + 1)))) := HB2.out.trans (set_below _)
          go_wp2_with fail
          clear c1 f1 HP2 HB2
          generalize w2.setCell ⟨X, 1, none⟩ (.int .i64 ((i : Int) + 1)) = w3 at *
          have HP3 := HPS
          have HB3 := HBS
          clear HPS HBS
          have hxx : (chr s (i + 1)).toNat < 256 := UInt8.toNat_lt _
          have HC3 := Lib.hid (HSG.out (i + 1) o w3 HP3.out)
          refine HC3.out.mono ?_
          rintro e w4 ⟨rfl, hb4⟩
          have HP4 := Lib.hid (HP3.out.below hb4)
          have HB4 := Lib.hid (Below_on HB3.out hb4 (Nat.le_of_lt HP3.out.lt))
          clear hb4 HC3 HP3 HB3
          obtain ⟨x, hx⟩ : ∃ x : Nat, x = (chr s (i + 1)).toNat := ⟨_, rfl⟩
          rw [← hx] at hxx ⊢
          have e6 : IntKind.i64.wrap (x : Int) = (x : Int) := IntWalk.i64_in _ (by omega)
          have e7 : IntKind.i64.wrap ((x : Int) - 48) = (x : Int) - 48 := IntWalk.i64_in _ (by omega)
          have c1' := HP4.out.c1
          have f1' := HP4.out.f1
          by_cases hd : 48 ≤ x ∧ x ≤ 57
          · have hl2 : i + 1 < s.length := by
              rcases Nat.lt_or_ge (i + 1) s.length with h | h
              · exact h
              · have : chr s (i + 1) = 0 := by
                  unfold chr
                  rw [List.getD_eq_getElem?_getD, List.getElem?_eq_none (by omega)]
                  rfl
                rw [this] at hx
                have : x = 0 := hx
                omega
            have HR : Hid (prs s (m + 1) i = .ok (.pr ((x : Int) - 48), i + 2)) := by
              show _ = _
              unfold prs
              rw [if_neg b1, if_neg h116, if_pos h112, if_pos ⟨hl2, by rw [UInt8.le_iff_toNat_le, ← hx]; exact hd.1, by rw [UInt8.le_iff_toNat_le, ← hx]; exact hd.2⟩, ← hx]
            have q1 : ¬ ((x : Int) - 48 < 0) := by omega
            have q2 : ¬ ((9 : Int) < (x : Int) - 48) := by omega
            have q3 : decide ((x : Int) - 48 < 0) = false := by simp; omega
            have q4 : decide ((9 : Int) < (x : Int) - 48) = false := by simp; omega
            have d2 : IntKind.i64.wrap ((i : Int) + 1 + 1) = (i : Int) + 1 + 1 := IntWalk.i64_in _ (by omega)
            have HP5 : Hid (PsAt X S (i + 2) o (w4.setCell ⟨X, 1, none⟩ (.int .i64 ((i : Int) + 1 + 1)))) := HP4.out.to (i + 2)
            have HB5 : Hid (Below X W (w4.setCell ⟨X, 1, none⟩ (.int .i64 ((i : Int) + 1 + 1)))) := HB4.out.trans (set_below _)
            have HE : Hid (Fm.flat (.pr ((x : Int) - 48)) o = o ++ [⟨2, 0, 0, (x : Int) - 48⟩]) := rfl
            have c1'' : w4.cell? ⟨X, 1, none⟩ = some (.int .i64 ((i : Int) + 1)) := c1'
            clear hx hd c1'
            go_wp2_with fail
            generalize w4.setCell ⟨X, 1, none⟩ (.int .i64 ((i : Int) + 1 + 1)) = w3 at *
            have HPU := Lib.hid (put_ X S (i + 2) o ⟨2, 0, 0, (x : Int) - 48⟩ w3 (by omega) HP5.out)
            have HB3 := HB5
            clear HP5 HB5 HP4 HB4
            go_wp2_with fail
            refine HPU.out.mono ?_
            rintro e w9 ⟨rfl, hp9, hb9⟩
            have HB9 := Lib.hid (HB3.out.trans hb9)
            have HP9 := Lib.hid hp9
            clear hp9 hb9 HPU
            go_wp2_with fail
            go_ret
            exact ⟨HB9.out, by rw [HR.out]; exact ⟨by rw [HE.out]; exact ret_int (by simp), by rw [HE.out]; exact HP9.out⟩⟩
          · have HR : Hid (prs s (m + 1) i = .error (i + 1)) := by
              show _ = _
              unfold prs
              rw [if_neg b1, if_neg h116, if_pos h112, if_neg (fun h => hd ⟨by have := h.2.1; rw [UInt8.le_iff_toNat_le, ← hx] at this; exact this, by have := h.2.2; rw [UInt8.le_iff_toNat_le, ← hx] at this; exact this⟩)]
            clear hx
            have c1'' : w4.cell? ⟨X, 1, none⟩ = some (.int .i64 ((i : Int) + 1)) := c1'
            clear c1'
            by_cases hz : (x : Int) - 48 < 0
            · have q3 : decide ((x : Int) - 48 < 0) = true := by simp; omega
              clear hd
              go_wp2_with fail
              exact ⟨rfl, HB4.out, by rw [HR.out]; rfl⟩
            · have q2 : (9 : Int) < (x : Int) - 48 := by omega
              have q3 : decide ((x : Int) - 48 < 0) = false := by simp; omega
              have q4 : decide ((9 : Int) < (x : Int) - 48) = true := by simp; omega
              clear hd
              go_wp2_with fail
              exact ⟨rfl, HB4.out, by rw [HR.out]; rfl⟩
        · by_cases h33 : chr s i = 33
          · rw [h33]
            go_wp2_with fail
            go_quiet (fail)
            have HP2 : Hid (∀ n, PsAt X S i o (w1.drewN n)) := fun n => HP1.out.below (below_drewN (Below.refl _ _) n)
            have HB2' : Hid (∀ n, Below X W (w1.drewN n)) := fun n => below_drewN HB1.out n
            have HPX := Lib.hid (HP2.out nq)
            have HBX := Lib.hid (HB2'.out nq)
            clear HP2 HB2' c0 c1 HP1 HB1
            generalize w1.drewN nq = w2 at *
            have HP2 := HPX
            have HB2 := HBX
            clear HPX HBX
            have c1 := HP2.out.c1
            have f1 := HP2.out.f1
            have HPS : Hid (PsAt X S (i + 1) o (w2.setCell ⟨X, 1, none⟩ (.int .i64 ((i : Int) + 1)))) := HP2.out.to (i + 1)
            have HBS : Hid (Below X W (w2.setCell ⟨X, 1, none⟩ (.int .i64 ((i : Int) + 1)))) := HB2.out.trans (set_below _)
            go_wp2_with fail
            clear c1 f1 HP2 HB2
            generalize w2.setCell ⟨X, 1, none⟩ (.int .i64 ((i : Int) + 1)) = w3 at *
            have HP3 := HPS
            have HB3 := HBS
            clear HPS HBS
            have HC3 := Lib.hid (HIH.out (i + 1) o w3 (by omega) (by omega) (by omega) HP3.out)
            refine HC3.out.mono ?_
            cases hr : prs s m (i + 1) with
            | error j =>
              have HR : Hid (prs s (m + 1) i = .error j) := by
                show _ = _
                unfold prs
                rw [if_neg b1, if_neg h116, if_neg h112, if_pos h33, hr]
              rintro e w4 ⟨hb4, rfl⟩
              have HB4 := Lib.hid (HB3.out.trans hb4)
              clear hb4 HC3
              simp only [placeP]
              go_wp2_with fail
              exact ⟨rfl, HB4.out, by rw [HR.out]; rfl⟩
            | ok q =>
              obtain ⟨a, j⟩ := q
              have HR : Hid (prs s (m + 1) i = .ok (.no a, j)) := by
                show _ = _
                unfold prs
                rw [if_neg b1, if_neg h116, if_neg h112, if_pos h33, hr]
              obtain ⟨p2, p5, p6⟩ : j ≤ s.length ∧ i + 1 ≤ j ∧ (a.flat o).length ≤ j := by
                obtain ⟨p1, _, _, p2⟩ := prs_ok _ _ hr
                have p3 := size_show a
                have p4 := a.flat_len o
                omega
              have HE : Hid ((Fm.no a).flat o = a.flat o ++ [⟨3, ((a.flat o).length : Int) - 1, 0, 0⟩]) := rfl
              rintro e w4 ⟨hb4, rfl, hp4⟩
              generalize a.flat o = o1 at *
              have HB3 := Lib.hid (HB3.out.trans hb4)
              have HPU := Lib.hid (put_ X S j o1 ⟨3, (o1.length : Int) - 1, 0, 0⟩ w4 (by omega) hp4)
              clear hb4 hp4 HC3
              go_wp2_with fail
              refine HPU.out.mono ?_
              rintro e w9 ⟨rfl, hp9, hb9⟩
              have HB9 := Lib.hid (HB3.out.trans hb9)
              have HP9 := Lib.hid hp9
              clear hp9 hb9 HPU
              go_wp2_with fail
              go_ret
              exact ⟨HB9.out, by rw [HR.out]; exact ⟨by rw [HE.out]; exact ret_int (by simp), by rw [HE.out]; exact HP9.out⟩⟩
          · by_cases h88 : chr s i = 88
            · rw [h88]
              go_wp2_with fail
              go_quiet (fail)
              have HP2 : Hid (∀ n, PsAt X S i o (w1.drewN n)) := fun n => HP1.out.below (below_drewN (Below.refl _ _) n)
              have HB2' : Hid (∀ n, Below X W (w1.drewN n)) := fun n => below_drewN HB1.out n
              have HPX := Lib.hid (HP2.out nq)
              have HBX := Lib.hid (HB2'.out nq)
              clear HP2 HB2' c0 c1 HP1 HB1
              generalize w1.drewN nq = w2 at *
              have HP2 := HPX
              have HB2 := HBX
              clear HPX HBX
              have c1 := HP2.out.c1
              have f1 := HP2.out.f1
              have HPS : Hid (PsAt X S (i + 1) o (w2.setCell ⟨X, 1, none⟩ (.int .i64 ((i : Int) + 1)))) := HP2.out.to (i + 1)
              have HBS : Hid (Below X W (w2.setCell ⟨X, 1, none⟩ (.int .i64 ((i : Int) + 1)))) := HB2.out.trans (set_below _)
              go_wp2_with fail
              clear c1 f1 HP2 HB2
              generalize w2.setCell ⟨X, 1, none⟩ (.int .i64 ((i : Int) + 1)) = w3 at *
              have HP3 := HPS
              have HB3 := HBS
              clear HPS HBS
              have HC3 := Lib.hid (HIH.out (i + 1) o w3 (by omega) (by omega) (by omega) HP3.out)
              refine HC3.out.mono ?_
              cases hr : prs s m (i + 1) with
              | error j =>
                have HR : Hid (prs s (m + 1) i = .error j) := by
                  show _ = _
                  unfold prs
                  rw [if_neg b1, if_neg h116, if_neg h112, if_neg h33, if_pos h88, hr]
                rintro e w4 ⟨hb4, rfl⟩
                have HB4 := Lib.hid (HB3.out.trans hb4)
                clear hb4 HC3
                simp only [placeP]
                go_wp2_with fail
                exact ⟨rfl, HB4.out, by rw [HR.out]; rfl⟩
              | ok q =>
                obtain ⟨a, j⟩ := q
                have HR : Hid (prs s (m + 1) i = .ok (.nx a, j)) := by
                  show _ = _
                  unfold prs
                  rw [if_neg b1, if_neg h116, if_neg h112, if_neg h33, if_pos h88, hr]
                obtain ⟨p2, p5, p6⟩ : j ≤ s.length ∧ i + 1 ≤ j ∧ (a.flat o).length ≤ j := by
                  obtain ⟨p1, _, _, p2⟩ := prs_ok _ _ hr
                  have p3 := size_show a
                  have p4 := a.flat_len o
                  omega
                have HE : Hid ((Fm.nx a).flat o = a.flat o ++ [⟨6, ((a.flat o).length : Int) - 1, 0, 0⟩]) := rfl
                rintro e w4 ⟨hb4, rfl, hp4⟩
                generalize a.flat o = o1 at *
                have HB3 := Lib.hid (HB3.out.trans hb4)
                have HPU := Lib.hid (put_ X S j o1 ⟨6, (o1.length : Int) - 1, 0, 0⟩ w4 (by omega) hp4)
                clear hb4 hp4 HC3
                go_wp2_with fail
                refine HPU.out.mono ?_
                rintro e w9 ⟨rfl, hp9, hb9⟩
                have HB9 := Lib.hid (HB3.out.trans hb9)
                have HP9 := Lib.hid hp9
                clear hp9 hb9 HPU
                go_wp2_with fail
                go_ret
                exact ⟨HB9.out, by rw [HR.out]; exact ⟨by rw [HE.out]; exact ret_int (by simp), by rw [HE.out]; exact HP9.out⟩⟩
            · by_cases h40 : chr s i = 40
              · rw [h40]
                go_wp2_with fail
                go_quiet (fail)
                have HP2 : Hid (∀ n, PsAt X S i o (w1.drewN n)) := fun n => HP1.out.below (below_drewN (Below.refl _ _) n)
                have HB2' : Hid (∀ n, Below X W (w1.drewN n)) := fun n => below_drewN HB1.out n
                have HPX := Lib.hid (HP2.out nq)
                have HBX := Lib.hid (HB2'.out nq)
                clear HP2 HB2' c0 c1 HP1 HB1
                generalize w1.drewN nq = w2 at *
                have HP2 := HPX
                have HB2 := HBX
                clear HPX HBX
                have c1 := HP2.out.c1
                have f1 := HP2.out.f1
                have HPS : Hid (PsAt X S (i + 1) o (w2.setCell ⟨X, 1, none⟩ (.int .i64 ((i : Int) + 1)))) := HP2.out.to (i + 1)
                have HBS : Hid (Below X W (w2.setCell ⟨X, 1, none⟩ (.int .i64 ((i : Int) + 1)))) := HB2.out.trans (set_below _)
                go_wp2_with fail
                clear c1 f1 HP2 HB2
                generalize w2.setCell ⟨X, 1, none⟩ (.int .i64 ((i : Int) + 1)) = w3 at *
                have HP3 := HPS
                have HB3 := HBS
                clear HPS HBS
                have HR : Hid (prs s (m + 1) i = pairQ s m (i + 1)) := by
                  show _ = _
                  unfold pairQ
                  cases hr : prs s m (i + 1) with
                  | error j =>
                    unfold prs
                    rw [if_neg b1, if_neg h116, if_neg h112, if_neg h33, if_neg h88, if_pos h40, hr]
                  | ok q =>
                    obtain ⟨a, j⟩ := q
                    exact prs_pair hlt h40 hr
                have HC3 := Lib.hid (HPA.out (i + 1) o w3 (by omega) (by omega) (by omega) HP3.out)
                refine HC3.out.mono ?_
                cases hpq : pairQ s m (i + 1) with
                | error j =>
                  have HR2 : Hid (prs s (m + 1) i = .error j) := by show _ = _; rw [HR.out, hpq]
                  rintro e w4 ⟨hb4, rfl⟩
                  have HB4 := Lib.hid (HB3.out.trans hb4)
                  clear hb4 HC3
                  simp only [placeP]
                  go_wp2_with fail
                  exact ⟨rfl, HB4.out, by rw [HR2.out]; rfl⟩
                | ok q =>
                  obtain ⟨t, j⟩ := q
                  have HR2 : Hid (prs s (m + 1) i = .ok (t, j)) := by show _ = _; rw [HR.out, hpq]
                  rintro e w4 ⟨hb4, rfl, hp4⟩
                  have HB4 := Lib.hid (HB3.out.trans hb4)
                  have HP4 := Lib.hid hp4
                  clear hb4 hp4 HC3
                  go_wp2_with fail
                  go_ret
                  exact ⟨HB4.out, by rw [HR2.out]; exact ⟨rfl, HP4.out⟩⟩
              · have HR : Hid (prs s (m + 1) i = .error i) := by
                  show _ = _
                  unfold prs
                  rw [if_neg b1, if_neg h116, if_neg h112, if_neg h33, if_neg h88, if_neg h40]
                obtain ⟨x, hx⟩ : ∃ x : Nat, x = (chr s i).toNat := ⟨_, rfl⟩
                have z116 : ((x : Int) == 116) = false := by rw [hx]; exact (neForms (a := chr s i) (n := 116) h116).2.1
                have z112 : ((x : Int) == 112) = false := by rw [hx]; exact (neForms (a := chr s i) (n := 112) h112).2.1
                have z33 : ((x : Int) == 33) = false := by rw [hx]; exact (neForms (a := chr s i) (n := 33) h33).2.1
                have z88 : ((x : Int) == 88) = false := by rw [hx]; exact (neForms (a := chr s i) (n := 88) h88).2.1
                have z40 : ((x : Int) == 40) = false := by rw [hx]; exact (neForms (a := chr s i) (n := 40) h40).2.1
                rw [← hx]
                clear hx h116 h112 h33 h88 h40
                go_wp2_with fail
                go_quiet (fail)
                have HP2 : Hid (∀ n, PsAt X S i o (w1.drewN n)) := fun n => HP1.out.below (below_drewN (Below.refl _ _) n)
                have HB2' : Hid (∀ n, Below X W (w1.drewN n)) := fun n => below_drewN HB1.out n
                have HPX := Lib.hid (HP2.out nq)
                have HBX := Lib.hid (HB2'.out nq)
                clear HP2 HB2' c0 c1 HP1 HB1
                generalize w1.drewN nq = w2 at *
                have HP2 := HPX
                have HB2 := HBX
                clear HPX HBX
                have c1 := HP2.out.c1
                have f1 := HP2.out.f1
                go_wp2_with fail
                exact ⟨rfl, HB2.out, by rw [HR.out]; rfl⟩
    · have HR : Hid (prs s (m + 1) i = .error i) := by
        show _ = _
        unfold prs
        rw [if_pos (by omega), show s.length = i by omega]
      have hq : ((i : Int) == (s.length : Int)) = true := by simp; omega
      generalize chr s i = ch at *
      go_wp2_with fail
      go_quiet (fail)
      have HP2 : Hid (∀ n, PsAt X S i o (w1.drewN n)) := fun n => HP1.out.below (below_drewN (Below.refl _ _) n)
      have HB2' : Hid (∀ n, Below X W (w1.drewN n)) := fun n => below_drewN HB1.out n
      have HPX := Lib.hid (HP2.out nq)
      have HBX := Lib.hid (HB2'.out nq)
      clear HP2 HB2' c0 c1 HP1 HB1
      generalize w1.drewN nq = w2 at *
      have HP2 := HPX
      have HB2 := HBX
      clear HPX HBX
      have c1 := HP2.out.c1
      have f1 := HP2.out.f1
      go_wp2_with fail
      exact ⟨rfl, HB2.out, by rw [HR.out]; rfl⟩
end Go.Proofs.YtoglgeaiiipchaaGreatDoor
