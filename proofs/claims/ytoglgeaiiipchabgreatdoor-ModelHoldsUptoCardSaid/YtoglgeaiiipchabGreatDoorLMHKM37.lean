import Derived.Test.YtoglgeaiiipchabGreatDoorLMHKM36
import Derived.Test.YtoglgeaiiipchabGreatDoorLMHKM23
import Derived.Defers
import Derived.Recover
import Derived.Laws.Pointers
set_option linter.unusedSimpArgs false
set_option linter.unusedVariables false
namespace Go.Proofs.YtoglgeaiiipchabGreatDoor
open Go Go.RowKit Go.Sort
theorem needT_ (X : Nat) (s : List UInt8) (S : ByteArray) (hS : S.size = s.length) (hG : ∀ (i : Nat) (h : i < S.size), S[i]'h = chr s i) (hs : s.length ≤ 100000) (i : Nat) (o : List Nd) (W : World) (hi : i ≤ s.length) (hp : PsAt X S i o W) :
    Calls Tryz.prog 140 #[.pointer (some ⟨X, 0, none⟩), .string ⟨#[116, 114, 117, 101]⟩] W (NeedPost X S o W (needs s [116, 114, 117, 101] i)) :=
  need_ X s S hS hG hs [116, 114, 117, 101] ⟨#[116, 114, 117, 101]⟩ rfl (fun i h => by
    have h' : i < 4 := h
    rcases (show i = 0 ∨ i = 1 ∨ i = 2 ∨ i = 3 by omega) with rfl | rfl | rfl | rfl <;> rfl) (by simp) i o W hi hp
set_option maxRecDepth 100000 in
set_option maxHeartbeats 2000000 in
theorem pnode_ (X : Nat) (s : List UInt8) (S : ByteArray) (hS : S.size = s.length) (hG : ∀ (i : Nat) (h : i < S.size), S[i]'h = chr s i) (hs : s.length ≤ 100000) : ∀ (m i : Nat) (o : List Nd) (W : World), i ≤ s.length → s.length - i < m → o.length ≤ i → PsAt X S i o W →
    Calls Tryz.prog 111 #[.pointer (some ⟨X, 0, none⟩)] W (PNodePost X S o W (prs s m i)) := by
  intro m
  induction m with
  | zero => intro i o W h1 h2; omega
  | succ m ih =>
    intro i o W hi hm ho hp
    have HIH := Lib.hid ih
    have HPA := Lib.hid (pair_ X s S hS hG hs m ih)
    have HT := Lib.hid (needT_ X s S hS hG hs)
    have HSG := Lib.hid (fun i o W hp => sign_at X s S hS hG hs i o W hp)
    have HC := Lib.hid (HSG.out i o W hp)
    have HP := Lib.hid hp
    clear hG hp ih
    go_enter Tryz.func111, Tryz.ntmps111
    go_wp2_with fail
    refine HC.out.mono ?_
    rintro e w1 ⟨rfl, hb1⟩
    have HP1 := Lib.hid (HP.out.below hb1)
    have HB1 : Hid (Below X W w1) := hb1.mono (Nat.le_of_lt HP.out.lt)
    clear hb1 HC HP
    obtain ⟨-, c0, c1, -, -, -⟩ := HP1.out
    by_cases hlt : i < s.length
    · have hq : ((i : Int) == (s.length : Int)) = false := by simp; omega
      have b1 : ¬ (s.length ≤ i) := by omega
      have d1 : IntKind.i64.wrap ((i : Int) + 1) = (i : Int) + 1 := IntWalk.i64_in _ (by omega)
      by_cases h116 : chr s i = 116
      · rw [h116]
        have HQ : Hid (prs s (m + 1) i = ttRes (needs s [116, 114, 117, 101] i)) := by
          show _ = _
          unfold prs
          rw [if_neg b1, if_pos h116]
          cases needs s [116, 114, 117, 101] i <;> rfl
        go_wp2_with fail
        go_quiet (fail)
        have HP2 : Hid (∀ n, PsAt X S i o (w1.drewN n)) := fun n => HP1.out.below (below_drewN (Below.refl _ _) n)
        have HB2' : Hid (∀ n, Below X W (w1.drewN n)) := fun n => below_drewN HB1.out n
        have HPX := Lib.hid (HP2.out nq)
        have HBX := Lib.hid (HB2'.out nq)
        clear HP2 HB2' c0 c1 HP1 HB1
        generalize w1.drewN nq = w2 at *
        have HP2 := HPX
        have HB2 := HBX
        clear HPX HBX
        have c1 := HP2.out.c1
        have f1 := HP2.out.f1
        go_wp2_with fail
        have HN := Lib.hid (HT.out i o w2 hi HP2.out)
        refine HN.out.mono ?_
        cases hn : needs s [116, 114, 117, 101] i with
        | error j =>
          have HR : Hid (prs s (m + 1) i = .error j) := by show _ = _; rw [HQ.out, hn]; rfl
          rintro e w3 ⟨hb3, rfl⟩
          have HB3 := Lib.hid (HB2.out.trans hb3)
          clear hb3 HN
          simp only [placeP]
          go_wp2_with fail
          exact ⟨rfl, HB3.out, by rw [HR.out]; rfl⟩
        | ok j =>
          have HR : Hid (prs s (m + 1) i = .ok (.tt, j)) := by show _ = _; rw [HQ.out, hn]; rfl
          rintro e w3 ⟨hb3, rfl, hp3⟩
          have HB3 := Lib.hid (HB2.out.trans hb3)
          have HPU := Lib.hid (put_ X S j o ⟨1, 0, 0, 0⟩ w3 (by omega) hp3)
          have HE : Hid (Fm.flat .tt o = o ++ [⟨1, 0, 0, 0⟩]) := rfl
          clear hb3 hp3 HN
          go_wp2_with fail
          refine HPU.out.mono ?_
          rintro e w9 ⟨rfl, hp9, hb9⟩
          have HB9 := Lib.hid (HB3.out.trans hb9)
          have HP9 := Lib.hid hp9
          clear hp9 hb9 HPU
          go_wp2_with fail
          go_ret
          exact ⟨HB9.out, by rw [HR.out]; exact ⟨by rw [HE.out]; exact ret_int (by simp), by rw [HE.out]; exact HP9.out⟩⟩
      · by_cases h112 : chr s i = 112
        · rw [h112]
          go_wp2_with fail
          go_quiet (fail)
          have HP2 : Hid (∀ n, PsAt X S i o (w1.drewN n)) := fun n => HP1.out.below (below_drewN (Below.refl _ _) n)
          have HB2' : Hid (∀ n, Below X W (w1.drewN n)) := fun n => below_drewN HB1.out n
          have HPX := Lib.hid (HP2.out nq)
          have HBX := Lib.hid (HB2'.out nq)
          clear HP2 HB2' c0 c1 HP1 HB1
          generalize w1.drewN nq = w2 at *
          have HP2 := HPX
          have HB2 := HBX
          clear HPX HBX
          have c1 := HP2.out.c1
          have f1 := HP2.out.f1
          have HPS : Hid (PsAt X S (i + 1) o (w2.setCell ⟨X, 1, none⟩ (.int .i64 ((i : Int) + 1)))) := HP2.out.to (i + 1)
          have HBS : Hid (Below X W (w2.setCell ⟨X, 1, none⟩ (.int .i64 ((i : Int) + 1)))) := HB2.out.trans (set_below _)
          go_wp2_with fail
          clear c1 f1 HP2 HB2
          generalize w2.setCell ⟨X, 1, none⟩ (.int .i64 ((i : Int) + 1)) = w3 at *
          have HP3 := HPS
          have HB3 := HBS
          clear HPS HBS
          have hxx : (chr s (i + 1)).toNat < 256 := UInt8.toNat_lt _
          have HC3 := Lib.hid (HSG.out (i + 1) o w3 HP3.out)
          refine HC3.out.mono ?_
          rintro e w4 ⟨rfl, hb4⟩
          have HP4 := Lib.hid (HP3.out.below hb4)
          have HB4 := Lib.hid (Below_on HB3.out hb4 (Nat.le_of_lt HP3.out.lt))
          clear hb4 HC3 HP3 HB3
          obtain ⟨x, hx⟩ : ∃ x : Nat, x = (chr s (i + 1)).toNat := ⟨_, rfl⟩
          rw [← hx] at hxx ⊢
          have e6 : IntKind.i64.wrap (x : Int) = (x : Int) := IntWalk.i64_in _ (by omega)
          have e7 : IntKind.i64.wrap ((x : Int) - 48) = (x : Int) - 48 := IntWalk.i64_in _ (by omega)
          have c1' := HP4.out.c1
          have f1' := HP4.out.f1
          by_cases hd : 48 ≤ x ∧ x ≤ 57
          · have hl2 : i + 1 < s.length := by
              rcases Nat.lt_or_ge (i + 1) s.length with h | h
              · exact h
              · have : chr s (i + 1) = 0 := by
                  unfold chr
                  rw [List.getD_eq_getElem?_getD, List.getElem?_eq_none (by omega)]
                  rfl
                rw [this] at hx
                have : x = 0 := hx
                omega
            have HR : Hid (prs s (m + 1) i = .ok (.pr ((x : Int) - 48), i + 2)) := by
              show _ = _
              unfold prs
              rw [if_neg b1, if_neg h116, if_pos h112, if_pos ⟨hl2, by rw [UInt8.le_iff_toNat_le, ← hx]; exact hd.1, by rw [UInt8.le_iff_toNat_le, ← hx]; exact hd.2⟩, ← hx]
            have q1 : ¬ ((x : Int) - 48 < 0) := by omega
            have q2 : ¬ ((9 : Int) < (x : Int) - 48) := by omega
            have q3 : decide ((x : Int) - 48 < 0) = false := by simp; omega
            have q4 : decide ((9 : Int) < (x : Int) - 48) = false := by simp; omega
            have d2 : IntKind.i64.wrap ((i : Int) + 1 + 1) = (i : Int) + 1 + 1 := IntWalk.i64_in _ (by omega)
            have HP5 : Hid (PsAt X S (i + 2) o (w4.setCell ⟨X, 1, none⟩ (.int .i64 ((i : Int) + 1 + 1)))) := HP4.out.to (i + 2)
            have HB5 : Hid (Below X W (w4.setCell ⟨X, 1, none⟩ (.int .i64 ((i : Int) + 1 + 1)))) := HB4.out.trans (set_below _)
            have HE : Hid (Fm.flat (.pr ((x : Int) - 48)) o = o ++ [⟨2, 0, 0, (x : Int) - 48⟩]) := rfl
            have c1'' : w4.cell? ⟨X, 1, none⟩ = some (.int .i64 ((i : Int) + 1)) := c1'
            clear hx hd c1'
            go_wp2_with fail
            generalize w4.setCell ⟨X, 1, none⟩ (.int .i64 ((i : Int) + 1 + 1)) = w3 at *
            have HPU := Lib.hid (put_ X S (i + 2) o ⟨2, 0, 0, (x : Int) - 48⟩ w3 (by omega) HP5.out)
            have HB3 := HB5
            clear HP5 HB5 HP4 HB4
            go_wp2_with fail
            refine HPU.out.mono ?_
            rintro e w9 ⟨rfl, hp9, hb9⟩
            have HB9 := Lib.hid (HB3.out.trans hb9)
            have HP9 := Lib.hid hp9
            clear hp9 hb9 HPU
            go_wp2_with fail
            go_ret
            exact ⟨HB9.out, by rw [HR.out]; exact ⟨by rw [HE.out]; exact ret_int (by simp), by rw [HE.out]; exact HP9.out⟩⟩
          · have HR : Hid (prs s (m + 1) i = .error (i + 1)) := by
              show _ = _
              unfold prs
              rw [if_neg b1, if_neg h116, if_pos h112, if_neg (fun h => hd ⟨by have := h.2.1; rw [UInt8.le_iff_toNat_le, ← hx] at this; exact this, by have := h.2.2; rw [UInt8.le_iff_toNat_le, ← hx] at this; exact this⟩)]
            clear hx
            have c1'' : w4.cell? ⟨X, 1, none⟩ = some (.int .i64 ((i : Int) + 1)) := c1'
            clear c1'
            by_cases hz : (x : Int) - 48 < 0
            · have q3 : decide ((x : Int) - 48 < 0) = true := by simp; omega
              clear hd
              go_wp2_with fail
              exact ⟨rfl, HB4.out, by rw [HR.out]; rfl⟩
            · have q2 : (9 : Int) < (x : Int) - 48 := by omega
              have q3 : decide ((x : Int) - 48 < 0) = false := by simp; omega
              have q4 : decide ((9 : Int) < (x : Int) - 48) = true := by simp; omega
              clear hd
              go_wp2_with fail
              exact ⟨rfl, HB4.out, by rw [HR.out]; rfl⟩
        · by_cases h33 : chr s i = 33
          · rw [h33]
            go_wp2_with fail
            go_quiet (fail)
            have HP2 : Hid (∀ n, PsAt X S i o (w1.drewN n)) := fun n => HP1.out.below (below_drewN (Below.refl _ _) n)
            have HB2' : Hid (∀ n, Below X W (w1.drewN n)) := fun n => below_drewN HB1.out n
            have HPX := Lib.hid (HP2.out nq)
            have HBX := Lib.hid (HB2'.out nq)
            clear HP2 HB2' c0 c1 HP1 HB1
            generalize w1.drewN nq = w2 at *
            have HP2 := HPX
            have HB2 := HBX
            clear HPX HBX
            have c1 := HP2.out.c1
            have f1 := HP2.out.f1
            have HPS : Hid (PsAt X S (i + 1) o (w2.setCell ⟨X, 1, none⟩ (.int .i64 ((i : Int) + 1)))) := HP2.out.to (i + 1)
            have HBS : Hid (Below X W (w2.setCell ⟨X, 1, none⟩ (.int .i64 ((i : Int) + 1)))) := HB2.out.trans (set_below _)
            go_wp2_with fail
            clear c1 f1 HP2 HB2
            generalize w2.setCell ⟨X, 1, none⟩ (.int .i64 ((i : Int) + 1)) = w3 at *
            have HP3 := HPS
            have HB3 := HBS
            clear HPS HBS
            have HC3 := Lib.hid (HIH.out (i + 1) o w3 (by omega) (by omega) (by omega) HP3.out)
            refine HC3.out.mono ?_
            cases hr : prs s m (i + 1) with
            | error j =>
              have HR : Hid (prs s (m + 1) i = .error j) := by
                show _ = _
                unfold prs
                rw [if_neg b1, if_neg h116, if_neg h112, if_pos h33, hr]
              rintro e w4 ⟨hb4, rfl⟩
              have HB4 := Lib.hid (HB3.out.trans hb4)
              clear hb4 HC3
              simp only [placeP]
              go_wp2_with fail
              exact ⟨rfl, HB4.out, by rw [HR.out]; rfl⟩
            | ok q =>
              obtain ⟨a, j⟩ := q
              have HR : Hid (prs s (m + 1) i = .ok (.no a, j)) := by
                show _ = _
                unfold prs
                rw [if_neg b1, if_neg h116, if_neg h112, if_pos h33, hr]
              obtain ⟨p2, p5, p6⟩ : j ≤ s.length ∧ i + 1 ≤ j ∧ (a.flat o).length ≤ j := by
                obtain ⟨p1, _, _, p2⟩ := prs_ok _ _ hr
                have p3 := size_show a
                have p4 := a.flat_len o
                omega
              have HE : Hid ((Fm.no a).flat o = a.flat o ++ [⟨3, ((a.flat o).length : Int) - 1, 0, 0⟩]) := rfl
              rintro e w4 ⟨hb4, rfl, hp4⟩
              generalize a.flat o = o1 at *
              have HB3 := Lib.hid (HB3.out.trans hb4)
              have HPU := Lib.hid (put_ X S j o1 ⟨3, (o1.length : Int) - 1, 0, 0⟩ w4 (by omega) hp4)
              clear hb4 hp4 HC3
              go_wp2_with fail
              refine HPU.out.mono ?_
              rintro e w9 ⟨rfl, hp9, hb9⟩
              have HB9 := Lib.hid (HB3.out.trans hb9)
              have HP9 := Lib.hid hp9
              clear hp9 hb9 HPU
              go_wp2_with fail
              go_ret
              exact ⟨HB9.out, by rw [HR.out]; exact ⟨by rw [HE.out]; exact ret_int (by simp), by rw [HE.out]; exact HP9.out⟩⟩
          · by_cases h88 : chr s i = 88
            · rw [h88]
              go_wp2_with fail
              go_quiet (fail)
              have HP2 : Hid (∀ n, PsAt X S i o (w1.drewN n)) := fun n => HP1.out.below (below_drewN (Below.refl _ _) n)
              have HB2' : Hid (∀ n, Below X W (w1.drewN n)) := fun n => below_drewN HB1.out n
              have HPX := Lib.hid (HP2.out nq)
              have HBX := Lib.hid (HB2'.out nq)
              clear HP2 HB2' c0 c1 HP1 HB1
              generalize w1.drewN nq = w2 at *
              have HP2 := HPX
              have HB2 := HBX
              clear HPX HBX
              have c1 := HP2.out.c1
              have f1 := HP2.out.f1
              have HPS : Hid (PsAt X S (i + 1) o (w2.setCell ⟨X, 1, none⟩ (.int .i64 ((i : Int) + 1)))) := HP2.out.to (i + 1)
              have HBS : Hid (Below X W (w2.setCell ⟨X, 1, none⟩ (.int .i64 ((i : Int) + 1)))) := HB2.out.trans (set_below _)
              go_wp2_with fail
              clear c1 f1 HP2 HB2
              generalize w2.setCell ⟨X, 1, none⟩ (.int .i64 ((i : Int) + 1)) = w3 at *
              have HP3 := HPS
              have HB3 := HBS
              clear HPS HBS
              have HC3 := Lib.hid (HIH.out (i + 1) o w3 (by omega) (by omega) (by omega) HP3.out)
              refine HC3.out.mono ?_
              cases hr : prs s m (i + 1) with
              | error j =>
                have HR : Hid (prs s (m + 1) i = .error j) := by
                  show _ = _
                  unfold prs
                  rw [if_neg b1, if_neg h116, if_neg h112, if_neg h33, if_pos h88, hr]
                rintro e w4 ⟨hb4, rfl⟩
                have HB4 := Lib.hid (HB3.out.trans hb4)
                clear hb4 HC3
                simp only [placeP]
                go_wp2_with fail
                exact ⟨rfl, HB4.out, by rw [HR.out]; rfl⟩
              | ok q =>
                obtain ⟨a, j⟩ := q
                have HR : Hid (prs s (m + 1) i = .ok (.nx a, j)) := by
                  show _ = _
                  unfold prs
                  rw [if_neg b1, if_neg h116, if_neg h112, if_neg h33, if_pos h88, hr]
                obtain ⟨p2, p5, p6⟩ : j ≤ s.length ∧ i + 1 ≤ j ∧ (a.flat o).length ≤ j := by
                  obtain ⟨p1, _, _, p2⟩ := prs_ok _ _ hr
                  have p3 := size_show a
                  have p4 := a.flat_len o
                  omega
                have HE : Hid ((Fm.nx a).flat o = a.flat o ++ [⟨6, ((a.flat o).length : Int) - 1, 0, 0⟩]) := rfl
                rintro e w4 ⟨hb4, rfl, hp4⟩
                generalize a.flat o = o1 at *
                have HB3 := Lib.hid (HB3.out.trans hb4)
                have HPU := Lib.hid (put_ X S j o1 ⟨6, (o1.length : Int) - 1, 0, 0⟩ w4 (by omega) hp4)
                clear hb4 hp4 HC3
                go_wp2_with fail
                refine HPU.out.mono ?_
                rintro e w9 ⟨rfl, hp9, hb9⟩
                have HB9 := Lib.hid (HB3.out.trans hb9)
                have HP9 := Lib.hid hp9
                clear hp9 hb9 HPU
                go_wp2_with fail
                go_ret
                exact ⟨HB9.out, by rw [HR.out]; exact ⟨by rw [HE.out]; exact ret_int (by simp), by rw [HE.out]; exact HP9.out⟩⟩
            · by_cases h40 : chr s i = 40
              · rw [h40]
                go_wp2_with fail
                go_quiet (fail)
                have HP2 : Hid (∀ n, PsAt X S i o (w1.drewN n)) := fun n => HP1.out.below (below_drewN (Below.refl _ _) n)
                have HB2' : Hid (∀ n, Below X W (w1.drewN n)) := fun n => below_drewN HB1.out n
                have HPX := Lib.hid (HP2.out nq)
                have HBX := Lib.hid (HB2'.out nq)
                clear HP2 HB2' c0 c1 HP1 HB1
                generalize w1.drewN nq = w2 at *
                have HP2 := HPX
                have HB2 := HBX
                clear HPX HBX
                have c1 := HP2.out.c1
                have f1 := HP2.out.f1
                have HPS : Hid (PsAt X S (i + 1) o (w2.setCell ⟨X, 1, none⟩ (.int .i64 ((i : Int) + 1)))) := HP2.out.to (i + 1)
                have HBS : Hid (Below X W (w2.setCell ⟨X, 1, none⟩ (.int .i64 ((i : Int) + 1)))) := HB2.out.trans (set_below _)
                go_wp2_with fail
                clear c1 f1 HP2 HB2
                generalize w2.setCell ⟨X, 1, none⟩ (.int .i64 ((i : Int) + 1)) = w3 at *
                have HP3 := HPS
                have HB3 := HBS
                clear HPS HBS
                have HR : Hid (prs s (m + 1) i = pairQ s m (i + 1)) := by
                  show _ = _
                  unfold pairQ
                  cases hr : prs s m (i + 1) with
                  | error j =>
                    unfold prs
                    rw [if_neg b1, if_neg h116, if_neg h112, if_neg h33, if_neg h88, if_pos h40, hr]
                  | ok q =>
                    obtain ⟨a, j⟩ := q
                    exact prs_pair hlt h40 hr
                have HC3 := Lib.hid (HPA.out (i + 1) o w3 (by omega) (by omega) (by omega) HP3.out)
                refine HC3.out.mono ?_
                cases hpq : pairQ s m (i + 1) with
                | error j =>
                  have HR2 : Hid (prs s (m + 1) i = .error j) := by show _ = _; rw [HR.out, hpq]
                  rintro e w4 ⟨hb4, rfl⟩
                  have HB4 := Lib.hid (HB3.out.trans hb4)
                  clear hb4 HC3
                  simp only [placeP]
                  go_wp2_with fail
                  exact ⟨rfl, HB4.out, by rw [HR2.out]; rfl⟩
                | ok q =>
                  obtain ⟨t, j⟩ := q
                  have HR2 : Hid (prs s (m + 1) i = .ok (t, j)) := by show _ = _; rw [HR.out, hpq]
                  rintro e w4 ⟨hb4, rfl, hp4⟩
                  have HB4 := Lib.hid (HB3.out.trans hb4)
                  have HP4 := Lib.hid hp4
                  clear hb4 hp4 HC3
                  go_wp2_with fail
                  go_ret
                  exact ⟨HB4.out, by rw [HR2.out]; exact ⟨rfl, HP4.out⟩⟩
              · have HR : Hid (prs s (m + 1) i = .error i) := by
                  show _ = _
                  unfold prs
                  rw [if_neg b1, if_neg h116, if_neg h112, if_neg h33, if_neg h88, if_neg h40]
                obtain ⟨x, hx⟩ : ∃ x : Nat, x = (chr s i).toNat := ⟨_, rfl⟩
                have z116 : ((x : Int) == 116) = false := by rw [hx]; exact (neForms (a := chr s i) (n := 116) h116).2.1
                have z112 : ((x : Int) == 112) = false := by rw [hx]; exact (neForms (a := chr s i) (n := 112) h112).2.1
                have z33 : ((x : Int) == 33) = false := by rw [hx]; exact (neForms (a := chr s i) (n := 33) h33).2.1
                have z88 : ((x : Int) == 88) = false := by rw [hx]; exact (neForms (a := chr s i) (n := 88) h88).2.1
                have z40 : ((x : Int) == 40) = false := by rw [hx]; exact (neForms (a := chr s i) (n := 40) h40).2.1
                rw [← hx]
                clear hx h116 h112 h33 h88 h40
                go_wp2_with fail
                go_quiet (fail)
                have HP2 : Hid (∀ n, PsAt X S i o (w1.drewN n)) := fun n => HP1.out.below (below_drewN (Below.refl _ _) n)
                have HB2' : Hid (∀ n, Below X W (w1.drewN n)) := fun n => below_drewN HB1.out n
                have HPX := Lib.hid (HP2.out nq)
                have HBX := Lib.hid (HB2'.out nq)
                clear HP2 HB2' c0 c1 HP1 HB1
                generalize w1.drewN nq = w2 at *
                have HP2 := HPX
                have HB2 := HBX
                clear HPX HBX
                have c1 := HP2.out.c1
                have f1 := HP2.out.f1
                go_wp2_with fail
                exact ⟨rfl, HB2.out, by rw [HR.out]; rfl⟩
    · have HR : Hid (prs s (m + 1) i = .error i) := by
        show _ = _
        unfold prs
        rw [if_pos (by omega), show s.length = i by omega]
      have hq : ((i : Int) == (s.length : Int)) = true := by simp; omega
      generalize chr s i = ch at *
      go_wp2_with fail
      go_quiet (fail)
      have HP2 : Hid (∀ n, PsAt X S i o (w1.drewN n)) := fun n => HP1.out.below (below_drewN (Below.refl _ _) n)
      have HB2' : Hid (∀ n, Below X W (w1.drewN n)) := fun n => below_drewN HB1.out n
      have HPX := Lib.hid (HP2.out nq)
      have HBX := Lib.hid (HB2'.out nq)
      clear HP2 HB2' c0 c1 HP1 HB1
      generalize w1.drewN nq = w2 at *
      have HP2 := HPX
      have HB2 := HBX
      clear HPX HBX
      have c1 := HP2.out.c1
      have f1 := HP2.out.f1
      go_wp2_with fail
      exact ⟨rfl, HB2.out, by rw [HR.out]; rfl⟩
end Go.Proofs.YtoglgeaiiipchabGreatDoor

namespace Go.Proofs.YtoglgeaiiipchabGreatDoor
open Go Go.RowKit Go.Sort
theorem catch_idle (p q r : Addr) (w : World) :
    CallsD Tryz.prog 110 #[.pointer (some p), .pointer (some q), .pointer (some r)] .returning w fun e u' w' => e = .returned (.tuple #[]) ∧ u' = .returning ∧ w' = w := by
  refine callsD_of_wpS Tryz.func110 rfl fun c₀ cs hu => ?_
  apply wpS_seq
  apply wpS_region
  simp [wpOpsS, go_sem, recoverD, hu, Tryz.ntmps110, Exit.thenS]
  apply wpS_seq
  apply wpS_region
  simp [wpOpsS, go_sem, recoverD, hu, Tryz.ntmps110, Exit.thenS]
  refine wpS_cond (t := false) (by simp [Act.eval, Array.replicate]) ?_
  simp only [Bool.false_eq_true, if_false]
  refine wpS_of_wp (wp_skip ?_)
  cases c₀
  simp_all [bodyPostS, results, Tryz.results110]
set_option maxRecDepth 100000 in
theorem catch_panicking (V : Nat) (v0 : Value) (x1 x2 j : Int) (w : World) (c0 : w.cell? ⟨V, 0, none⟩ = some v0) (c1 : w.cell? ⟨V + 1, 0, none⟩ = some (.int .i64 x1)) (c2 : w.cell? ⟨V + 2, 0, none⟩ = some (.int .i64 x2))
    (f0 : w.frozen? ⟨V, 0, none⟩ = false) (f1 : w.frozen? ⟨V + 1, 0, none⟩ = false) (f2 : w.frozen? ⟨V + 2, 0, none⟩ = false) :
    CallsD Tryz.prog 110 #[.pointer (some ⟨V, 0, none⟩), .pointer (some ⟨V + 1, 0, none⟩), .pointer (some ⟨V + 2, 0, none⟩)] (.panicking [{ v := .iface 167 (.int .i64 j), recovered := false }]) w fun e u' w' =>
      e = .returned (.tuple #[]) ∧ u' = .panicking [{ v := .iface 167 (.int .i64 j), recovered := true }] ∧ w' = ((w.setCell ⟨V, 0, none⟩ (.slice none 0 0)).setCell ⟨V + 1, 0, none⟩ (.int .i64 j)).setCell ⟨V + 2, 0, none⟩ (.int .i64 1) := by
  refine callsD_of_wpS Tryz.func110 rfl fun c₀ cs hu => ?_
  apply wpS_seq
  apply wpS_region
  simp [wpOpsS, go_sem, recoverD, hu, Tryz.ntmps110, Exit.thenS]
  apply wpS_seq
  apply wpS_region
  simp [wpOpsS, go_sem, recoverD, hu, Tryz.ntmps110, Exit.thenS]
  refine wpS_cond (t := true) (by simp [Act.eval, Array.replicate]) ?_
  simp only [if_true]
  refine wpS_of_wp ?_
  have hta : ∀ w : World, (Instr.typeAssert (.iface 167 (.int .i64 j)) 20 167 true).run Tryz.prog w = .ok (.tuple #[.int .i64 j, .bool true]) w := fun _ => by kernel_rfl
  simp only [Array.replicate_succ, Array.replicate_zero, List.push_toArray, List.append_toArray, List.nil_append, List.cons_append, List.setIfInBounds_toArray, List.set_cons_zero, List.set_cons_succ]
  clear hu
  go_wp2_with fail
  simp [bodyPostS, results, Tryz.results110]
def parseV (s : List UInt8) : List Nd × Int × Int :=
  match prs s (s.length + 1) 0 with
  | .error j => ([], (j : Int), 1)
  | .ok (t, j) => if j < s.length then ([], (j : Int), 1) else (t.flat [], 0, 0)
def ParsePost (w : World) (r : List Nd × Int × Int) (e : Ending) (w' : World) : Prop :=
  ∃ A c, e = .returned (.tuple #[.slice A r.1.length c, .int .i64 r.2.1, .int .i64 r.2.2]) ∧ Nds w' w.heap.size A c r.1 ∧ Below w.heap.size w w'
structure ResAt (V : Nat) (v : Value) (a b : Int) (W : World) : Prop where
  c0 : W.cell? ⟨V, 0, none⟩ = some v
  c1 : W.cell? ⟨V + 1, 0, none⟩ = some (.int .i64 a)
  c2 : W.cell? ⟨V + 2, 0, none⟩ = some (.int .i64 b)
  f0 : W.frozen? ⟨V, 0, none⟩ = false
  f1 : W.frozen? ⟨V + 1, 0, none⟩ = false
  f2 : W.frozen? ⟨V + 2, 0, none⟩ = false
theorem ResAt.below {V : Nat} {v : Value} {a b : Int} {W W' : World} (h : ResAt V v a b W) (hb : Below (V + 3) W W') : ResAt V v a b W' :=
  ⟨(hb.cell (p := ⟨V, 0, none⟩) (by show V < _; omega)).trans h.c0, (hb.cell (p := ⟨V + 1, 0, none⟩) (by show V + 1 < _; omega)).trans h.c1, (hb.cell (p := ⟨V + 2, 0, none⟩) (by show V + 2 < _; omega)).trans h.c2,
    (hb.frozen (p := ⟨V, 0, none⟩) (by show V < _; omega)).trans h.f0, (hb.frozen (p := ⟨V + 1, 0, none⟩) (by show V + 1 < _; omega)).trans h.f1, (hb.frozen (p := ⟨V + 2, 0, none⟩) (by show V + 2 < _; omega)).trans h.f2⟩
theorem ResAt.set {V : Nat} {v : Value} {a b : Int} {W : World} (h : ResAt V v a b W) (v' : Value) (a' b' : Int) :
    ResAt V v' a' b' (((W.setCell ⟨V, 0, none⟩ v').setCell ⟨V + 1, 0, none⟩ (.int .i64 a')).setCell ⟨V + 2, 0, none⟩ (.int .i64 b')) := by
  obtain ⟨c0, c1, c2, f0, f1, f2⟩ := h
  have n1 : V ≠ V + 1 := by omega
  have n2 : V ≠ V + 2 := by omega
  have n3 : V + 1 ≠ V + 2 := by omega
  refine ⟨?_, ?_, ?_, ?_, ?_, ?_⟩
  · rw [World.cell?_setCell_other _ ⟨V + 2, 0, none⟩ ⟨V, 0, none⟩ _ (by simp), World.cell?_setCell_other _ ⟨V + 1, 0, none⟩ ⟨V, 0, none⟩ _ (by simp)]
    exact World.cell?_setCell_same' _ _ _ (by rw [c0]; rfl)
  · rw [World.cell?_setCell_other _ ⟨V + 2, 0, none⟩ ⟨V + 1, 0, none⟩ _ (by simp)]
    exact World.cell?_setCell_same' _ _ _ (by rw [World.cell?_setCell_other _ ⟨V, 0, none⟩ ⟨V + 1, 0, none⟩ _ (by simp), c1]; rfl)
  · exact World.cell?_setCell_same' _ _ _ (by rw [World.cell?_setCell_other _ ⟨V + 1, 0, none⟩ ⟨V + 2, 0, none⟩ _ (by simp), World.cell?_setCell_other _ ⟨V, 0, none⟩ ⟨V + 2, 0, none⟩ _ (by simp), c2]; rfl)
  · simp only [World.frozen?_setCell]; exact f0
  · simp only [World.frozen?_setCell]; exact f1
  · simp only [World.frozen?_setCell]; exact f2
theorem set3_below {V B : Nat} {w W : World} (h : Below B w W) (hB : B ≤ V) (u v x : Value) : Below B w (((W.setCell ⟨V, 0, none⟩ u).setCell ⟨V + 1, 0, none⟩ v).setCell ⟨V + 2, 0, none⟩ x) :=
  ((h.setCell (p := ⟨V, 0, none⟩) hB _).setCell (p := ⟨V + 1, 0, none⟩) (by show B ≤ V + 1; omega) _).setCell (p := ⟨V + 2, 0, none⟩) (by show B ≤ V + 2; omega) _
set_option maxRecDepth 100000 in
set_option maxHeartbeats 1000000 in
theorem parse_ (s : List UInt8) (S : ByteArray) (hS : S.size = s.length) (hG : ∀ (i : Nat) (h : i < S.size), S[i]'h = chr s i) (hs : s.length ≤ 2000) (w : World) :
    Calls Tryz.prog 81 #[.string S] w (ParsePost w (parseV s)) := by
  have hmf : ∀ (fn : Fn) (first cap : Array Value) (w : World), (Instr.makeFunc fn first cap).run Tryz.prog w = .ok (.func fn first cap) w := fun _ _ _ _ => rfl
  have HPN := Lib.hid (fun X W hp => pnode_ X s S hS hG (by omega) (s.length + 1) 0 [] W (Nat.zero_le _) (by omega) (Nat.le_refl _) hp)
  clear hG
  go_enter_defers Tryz.func81, Tryz.ntmps81
  go_wp2_with fail
  have H4 : Hid (PsAt (w.heap.size + 1 + 1 + 1) S 0 [] ((((w.alloc (Obj.cells #[Value.slice none 0 0] 48)).alloc (Obj.cells #[Value.int IntKind.i64 0] 3)).alloc (Obj.cells #[Value.int IntKind.i64 0] 30)).alloc (Obj.cells #[Value.string S, Value.int IntKind.i64 0, Value.slice none 0 0] 171))) :=
    ⟨by simp, by go_simp, by go_simp, by go_simp, by go_simp, none, 0, by go_simp, World.ownsRow_nil _ _ _ _⟩
  have HB4 : Hid (Below w.heap.size w ((((w.alloc (Obj.cells #[Value.slice none 0 0] 48)).alloc (Obj.cells #[Value.int IntKind.i64 0] 3)).alloc (Obj.cells #[Value.int IntKind.i64 0] 30)).alloc (Obj.cells #[Value.string S, Value.int IntKind.i64 0, Value.slice none 0 0] 171))) := by show Below _ _ _; go_grown
  have HR4 : Hid (ResAt w.heap.size (.slice none 0 0) 0 0 ((((w.alloc (Obj.cells #[Value.slice none 0 0] 48)).alloc (Obj.cells #[Value.int IntKind.i64 0] 3)).alloc (Obj.cells #[Value.int IntKind.i64 0] 30)).alloc (Obj.cells #[Value.string S, Value.int IntKind.i64 0, Value.slice none 0 0] 171))) :=
    ⟨by go_simp, by go_simp, by go_simp, by go_simp, by go_simp, by go_simp⟩
  generalize (((w.alloc (Obj.cells #[Value.slice none 0 0] 48)).alloc (Obj.cells #[Value.int IntKind.i64 0] 3)).alloc (Obj.cells #[Value.int IntKind.i64 0] 30)).alloc (Obj.cells #[Value.string S, Value.int IntKind.i64 0, Value.slice none 0 0] 171) = w4 at *
  have HC4 := Lib.hid (HPN.out _ _ H4.out)
  refine HC4.out.mono ?_
  cases hr : prs s (s.length + 1) 0 with
  | error j =>
    have HQ : Hid (parseV s = ([], (j : Int), 1)) := by unfold Hid parseV; rw [hr]
    rintro e w5 ⟨hb5, rfl⟩
    have HR5 := Lib.hid (HR4.out.below (hb5.mono (Nat.le_of_eq rfl)))
    have HB5 := Lib.hid (HB4.out.trans (hb5.mono (by omega)))
    clear hb5 HC4 HR4 H4
    simp only [placeP]
    obtain ⟨c0, c1, c2, f0, f1, f2⟩ := HR5.out
    refine leaves_cons (f := 110) (args := #[.pointer (some ⟨w.heap.size, 0, none⟩), .pointer (some ⟨w.heap.size + 1, 0, none⟩), .pointer (some ⟨w.heap.size + 2, 0, none⟩)]) (by simp) (by simp [go_sem]) ?_
    refine (catch_panicking w.heap.size (.slice none 0 0) 0 0 j _ c0 c1 c2 f0 f1 f2).mono ?_
    rintro e u' w'' ⟨rfl, rfl, rfl⟩
    obtain ⟨d0, d1, d2, -, -, -⟩ := HR5.out.set (.slice none 0 0) j 1
    have HB6 := Lib.hid (set3_below HB5.out (Nat.le_refl _) (.slice none 0 0) (.int .i64 (j : Int)) (.int .i64 1))
    clear c0 c1 c2 f0 f1 f2
    generalize ((w5.setCell ⟨w.heap.size, 0, none⟩ (.slice none 0 0)).setCell ⟨w.heap.size + 1, 0, none⟩ (.int .i64 (j : Int))).setCell ⟨w.heap.size + 2, 0, none⟩ (.int .i64 1) = w6 at *
    simp [Leaves, settle, results, Tryz.results81, go_sem, d0, d1, d2]
    rw [HQ.out]
    exact ⟨none, 0, rfl, Nds.none _ _, HB6.out⟩
  | ok q =>
    obtain ⟨t, j⟩ := q
    obtain ⟨p2, p6⟩ : j ≤ s.length ∧ (t.flat []).length ≤ 100000 := by
      obtain ⟨p1, _, _, p2⟩ := prs_ok _ _ hr
      have p3 := size_show t
      have p4 := t.flat_len []
      simp at p4
      omega
    rintro e w5 ⟨hb5, rfl, hp5⟩
    have HR5 := Lib.hid (HR4.out.below (hb5.mono (Nat.le_of_eq rfl)))
    have HB5 := Lib.hid (HB4.out.trans (hb5.mono (by omega)))
    have x1 := hp5.c1
    obtain ⟨T, c, x2, hown⟩ := hp5.own
    have HN := Lib.hid (show ∃ A c', Value.slice T (t.flat []).length c = .slice A (t.flat []).length c' ∧ Nds w5 (w.heap.size + 1 + 1 + 1 + 1) A c' (t.flat []) from SlE.of_own hown (by omega))
    clear hb5 HC4 HR4 H4 hp5 hown
    by_cases hj : j < s.length
    · have HQ : Hid (parseV s = ([], (j : Int), 1)) := by unfold Hid parseV; rw [hr]; simp [hj]
      have hq : decide ((j : Int) < (s.length : Int)) = true := by simp; omega
      have hq2 : (j : Int) < (s.length : Int) := by omega
      clear hj
      go_wp2_with fail
      obtain ⟨c0, c1, c2, f0, f1, f2⟩ := HR5.out
      refine leaves_cons (f := 110) (args := #[.pointer (some ⟨w.heap.size, 0, none⟩), .pointer (some ⟨w.heap.size + 1, 0, none⟩), .pointer (some ⟨w.heap.size + 2, 0, none⟩)]) (by simp) (by simp [go_sem]) ?_
      refine (catch_panicking w.heap.size (.slice none 0 0) 0 0 j _ c0 c1 c2 f0 f1 f2).mono ?_
      rintro e u' w'' ⟨rfl, rfl, rfl⟩
      obtain ⟨d0, d1, d2, -, -, -⟩ := HR5.out.set (.slice none 0 0) j 1
      have HB6 := Lib.hid (set3_below HB5.out (Nat.le_refl _) (.slice none 0 0) (.int .i64 (j : Int)) (.int .i64 1))
      clear c0 c1 c2 f0 f1 f2
      generalize ((w5.setCell ⟨w.heap.size, 0, none⟩ (.slice none 0 0)).setCell ⟨w.heap.size + 1, 0, none⟩ (.int .i64 (j : Int))).setCell ⟨w.heap.size + 2, 0, none⟩ (.int .i64 1) = w6 at *
      simp [Leaves, settle, results, Tryz.results81, go_sem, d0, d1, d2]
      rw [HQ.out]
      exact ⟨none, 0, rfl, Nds.none _ _, HB6.out⟩
    · have HQ : Hid (parseV s = (t.flat [], 0, 0)) := by unfold Hid parseV; rw [hr]; simp [hj]
      have hq : decide ((j : Int) < (s.length : Int)) = false := by simp; omega
      have hq2 : ¬ (j : Int) < (s.length : Int) := by omega
      clear hj
      generalize t.flat [] = o at *
      obtain ⟨c0, c1, c2, f0, f1, f2⟩ := HR5.out
      go_wp2_with fail
      refine leaves_cons (f := 110) (args := #[.pointer (some ⟨w.heap.size, 0, none⟩), .pointer (some ⟨w.heap.size + 1, 0, none⟩), .pointer (some ⟨w.heap.size + 2, 0, none⟩)]) (by simp) (by simp [go_sem]) ?_
      refine (catch_idle ⟨w.heap.size, 0, none⟩ ⟨w.heap.size + 1, 0, none⟩ ⟨w.heap.size + 2, 0, none⟩ _).mono ?_
      rintro e u' w'' ⟨rfl, rfl, rfl⟩
      obtain ⟨d0, d1, d2, -, -, -⟩ := HR5.out.set (.slice T o.length c) 0 0
      have HB6 := Lib.hid (set3_below HB5.out (Nat.le_refl _) (.slice T o.length c) (.int .i64 0) (.int .i64 0))
      have HN6 : Hid (∃ A c', Value.slice T o.length c = .slice A o.length c' ∧ Nds (((w5.setCell ⟨w.heap.size, 0, none⟩ (.slice T o.length c)).setCell ⟨w.heap.size + 1, 0, none⟩ (.int .i64 0)).setCell ⟨w.heap.size + 2, 0, none⟩ (.int .i64 0)) w.heap.size A c' o) := by
        obtain ⟨A, c', h1, h2⟩ := HN.out
        refine ⟨A, c', h1, ?_⟩
        have h3 := h2.kept (Kept.set _ _ _ (p := ⟨w.heap.size, 0, none⟩) (.slice T o.length c) (.inl (by show w.heap.size < _; omega)))
        have h4 := h3.kept (Kept.set _ _ _ (p := ⟨w.heap.size + 1, 0, none⟩) (.int .i64 0) (.inl (by show w.heap.size + 1 < _; omega)))
        exact (h4.kept (Kept.set _ _ _ (p := ⟨w.heap.size + 2, 0, none⟩) (.int .i64 0) (.inl (by show w.heap.size + 2 < _; omega)))).low (by omega)
      clear c0 c1 c2 f0 f1 f2 HN x1 x2
      simp only [Nat.add_assoc, Nat.reduceAdd] at *
      generalize ((w5.setCell ⟨w.heap.size, 0, none⟩ (.slice T o.length c)).setCell ⟨w.heap.size + 1, 0, none⟩ (.int .i64 0)).setCell ⟨w.heap.size + 2, 0, none⟩ (.int .i64 0) = w6 at *
      simp [Leaves, settle, results, Tryz.results81, go_sem, d0, d1, d2]
      rw [HQ.out]
      obtain ⟨A, c', h1, h2⟩ := HN6.out
      exact ⟨A, c', by rw [h1], h2, HB6.out⟩
end Go.Proofs.YtoglgeaiiipchabGreatDoor

namespace Go.Proofs.YtoglgeaiiipchabGreatDoor
open Go Go.RowKit Go.Sort
def readV (s : List UInt8) : List Nd × Int × Int :=
  if 2000 < s.length then ([], 0, 2)
  else if (parseV s).2.2 = 0 then (if ckF (parseV s).1 = 0 then ((parseV s).1, 0, 0) else ([], 0, ckF (parseV s).1))
  else ([], (parseV s).2.1, 1)
theorem parseV_cases (s : List UInt8) : ((parseV s).2.2 = 0 ∧ (parseV s).2.1 = 0) ∨ ((parseV s).2.2 = 1 ∧ (parseV s).1 = []) := by
  unfold parseV
  cases prs s (s.length + 1) 0 with
  | error j => exact .inr ⟨rfl, rfl⟩
  | ok q =>
    obtain ⟨t, j⟩ := q
    simp only
    split
    · exact .inr ⟨rfl, rfl⟩
    · exact .inl ⟨rfl, rfl⟩
set_option maxRecDepth 100000 in
theorem Parse_ (s : List UInt8) (S : ByteArray) (hS : S.size = s.length) (hG : ∀ (i : Nat) (h : i < S.size), S[i]'h = chr s i) (w : World) :
    Calls Tryz.prog 42 #[.string S] w (ParsePost w (readV s)) := by
  by_cases hl : 2000 < s.length
  · have HR : Hid (readV s = ([], 0, 2)) := by unfold Hid readV; rw [if_pos hl]
    have hq : (2000 : Int) < (s.length : Int) := by omega
    clear hG
    go_enter Tryz.func42, Tryz.ntmps42
    go_wp2_with fail
    go_ret3
    rw [HR.out]
    exact ⟨none, 0, rfl, Nds.none _ _, Below.refl _ _⟩
  · have hq : ¬ (2000 : Int) < (s.length : Int) := by omega
    have HP := Lib.hid (parse_ s S hS hG (by omega) w)
    have HC := Lib.hid (parseV_cases s)
    have HR : Hid (readV s = if (parseV s).2.2 = 0 then (if ckF (parseV s).1 = 0 then ((parseV s).1, 0, 0) else ([], 0, ckF (parseV s).1)) else ([], (parseV s).2.1, 1)) := by unfold Hid readV; rw [if_neg hl]
    clear hG hl
    generalize parseV s = r at *
    obtain ⟨o, a, b⟩ := r
    go_enter Tryz.func42, Tryz.ntmps42
    go_wp2_with fail
    refine HP.out.mono ?_
    rintro e w1 ⟨A, c, rfl, hn, hb⟩
    have HN := Lib.hid hn
    have HB := Lib.hid hb
    have hle := hn.le
    have hcp := hn.cap
    have HK := Lib.hid (formulaCheck_ A c o w1 hn.zero)
    clear hn hb HP
    simp only at hle hcp ⊢
    rcases HC.out with ⟨hb0, ha0⟩ | ⟨hb1, ho⟩
    · obtain rfl : b = 0 := hb0
      obtain rfl : a = 0 := ha0
      go_wp2_with fail
      refine HK.out.mono ?_
      rintro e w2 ⟨rfl, hb2⟩
      have HB2 := Lib.hid (Below_on HB.out hb2 HB.out.size)
      have HN2 := Lib.hid (HN.out.below hb2)
      clear hb2 HK
      by_cases hc : ckF o = 0
      · have HR2 : Hid (readV s = (o, 0, 0)) := by show _ = _; rw [HR.out]; simp [hc]
        have e2 : (ckF o != 0) = false := by simp [hc]
        clear hc
        go_wp2_with fail
        go_ret3
        rw [HR2.out]
        exact ⟨A, c, rfl, HN2.out, HB2.out⟩
      · have HR2 : Hid (readV s = ([], 0, ckF o)) := by show _ = _; rw [HR.out]; simp [hc]
        have e2 : (ckF o != 0) = true := by simpa using hc
        clear hc
        go_wp2_with fail
        go_ret3
        rw [HR2.out]
        exact ⟨none, 0, rfl, Nds.none _ _, HB2.out⟩
    · obtain rfl : b = 1 := hb1
      obtain rfl : o = [] := ho
      have HR2 : Hid (readV s = ([], a, 1)) := by show _ = _; rw [HR.out]; simp
      go_wp2_with fail
      go_ret3
      rw [HR2.out]
      exact ⟨none, 0, rfl, Nds.none _ _, HB.out⟩
end Go.Proofs.YtoglgeaiiipchabGreatDoor
