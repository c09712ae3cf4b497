import Derived.Test.YtoglgeaiiipchabGreatDoorLMAKM35
set_option linter.unusedSimpArgs false
set_option linter.unusedVariables false
namespace Go.Proofs.YtoglgeaiiipchabGreatDoor
open Go Go.RowKit Go.Sort
theorem needT_ (X : Nat) (s : List UInt8) (S : ByteArray) (hS : S.size = s.length) (hG : ∀ (i : Nat) (h : i < S.size), S[i]'h = chr s i) (hs : s.length ≤ 100000) (i : Nat) (o : List Nd) (W : World) (hi : i ≤ s.length) (hp : PsAt X S i o W) :
    Calls Tryz.prog 140 #[.pointer (some ⟨X, 0, none⟩), .string ⟨#[116, 114, 117, 101]⟩] W (NeedPost X S o W (needs s [116, 114, 117, 101] i)) :=
  need_ X s S hS hG hs [116, 114, 117, 101] ⟨#[116, 114, 117, 101]⟩ rfl (fun i h => by
    have h' : i < 4 := h
    rcases (show i = 0 ∨ i = 1 ∨ i = 2 ∨ i = 3 by omega) with rfl | rfl | rfl | rfl <;> rfl) (by simp) i o W hi hp
set_option maxRecDepth 100000 in
set_option maxHeartbeats 2000000 in
theorem pnode_ (X : Nat) (s : List UInt8) (S : ByteArray) (hS : S.size = s.length) (hG : ∀ (i : Nat) (h : i < S.size), S[i]'h = chr s i) (hs : s.length ≤ 100000) : ∀ (m i : Nat) (o : List Nd) (W : World), i ≤ s.length → s.length - i < m → o.length ≤ i → PsAt X S i o W →
    Calls Tryz.prog 111 #[.pointer (some ⟨X, 0, none⟩)] W (PNodePost X S o W (prs s m i)) := by
  intro m
  induction m with
  | zero => intro i o W h1 h2; omega
  | succ m ih =>
    intro i o W hi hm ho hp
    have HIH := Lib.hid ih
    have HPA := Lib.hid (pair_ X s S hS hG hs m ih)
    have HT := Lib.hid (needT_ X s S hS hG hs)
    have HSG := Lib.hid (fun i o W hp => sign_at X s S hS hG hs i o W hp)
    have HC := Lib.hid (HSG.out i o W hp)
    have HP := Lib.hid hp
    clear hG hp ih
    go_enter Tryz.func111, Tryz.ntmps111
    go_wp2_with fail
    refine HC.out.mono ?_
    rintro e w1 ⟨rfl, hb1⟩
    have HP1 := Lib.hid (HP.out.below hb1)
    have HB1 : Hid (Below X W w1) := hb1.mono (Nat.le_of_lt HP.out.lt)
    clear hb1 HC HP
    obtain ⟨-, c0, c1, -, -, -⟩ := HP1.out
    by_cases hlt : i < s.length
    · have hq : ((i : Int) == (s.length : Int)) = false := by simp; omega
      have b1 : ¬ (s.length ≤ i) := by omega
      have d1 : IntKind.i64.wrap ((i : Int) + 1) = (i : Int) + 1 := IntWalk.i64_in _ (by omega)
      by_cases h116 : chr s i = 116
      · rw [h116]
        have HQ : Hid (prs s (m + 1) i = ttRes (needs s [116, 114, 117, 101] i)) := by
          show _ = _
          unfold prs
          rw [if_neg b1, if_pos h116]
          cases needs s [116, 114, 117, 101] i <;> rfl
        go_wp2_with fail
        go_quiet (fail)
        have HP2 : Hid (∀ n, PsAt X S i o (w1.drewN n)) := fun n => HP1.out.below (below_drewN (Below.refl _ _) n)
        have HB2' : Hid (∀ n, Below X W (w1.drewN n)) := fun n => below_drewN HB1.out n
        have HPX := Lib.hid (HP2.out nq)
        have HBX := Lib.hid (HB2'.out nq)
        clear HP2 HB2' c0 c1 HP1 HB1
        generalize w1.drewN nq = w2 at *
        have HP2 := HPX
        have HB2 := HBX
        clear HPX HBX
        have c1 := HP2.out.c1
        have f1 := HP2.out.f1
        go_wp2_with fail
        have HN := Lib.hid (HT.out i o w2 hi HP2.out)
        refine HN.out.mono ?_
        cases hn : needs s [116, 114, 117, 101] i with
        | error j =>
          have HR : Hid (prs s (m + 1) i = .error j) := by show _ = _; rw [HQ.out, hn]; rfl
          rintro e w3 ⟨hb3, rfl⟩
          have HB3 := Lib.hid (HB2.out.trans hb3)
          clear hb3 HN
          simp only [placeP]
          go_wp2_with fail
          exact ⟨rfl, HB3.out, by rw [HR.out]; rfl⟩
        | ok j =>
          have HR : Hid (prs s (m + 1) i = .ok (.tt, j)) := by show _ = _; rw [HQ.out, hn]; rfl
          rintro e w3 ⟨hb3, rfl, hp3⟩
          have HB3 := Lib.hid (HB2.out.trans hb3)
          have HPU := Lib.hid (put_ X S j o ⟨1, 0, 0, 0⟩ w3 (by omega) hp3)
          have HE : Hid (Fm.flat .tt o = o ++ [⟨1, 0, 0, 0⟩]) := rfl
          clear hb3 hp3 HN
          go_wp2_with fail
          refine HPU.out.mono ?_
          rintro e w9 ⟨rfl, hp9, hb9⟩
          have HB9 := Lib.hid (HB3.out.trans hb9)
          have HP9 := Lib.hid hp9
          clear hp9 hb9 HPU
          go_wp2_with fail
          go_ret
          exact ⟨HB9.out, by rw [HR.out]; exact ⟨by rw [HE.out]; exact ret_int (by simp), by rw [HE.out]; exact HP9.out⟩⟩
      · by_cases h112 : chr s i = 112
        · rw [h112]
          go_wp2_with fail
          go_quiet (fail)
          have HP2 : Hid (∀ n, PsAt X S i o (w1.drewN n)) := fun n => HP1.out.below (below_drewN (Below.refl _ _) n)
          have HB2' : Hid (∀ n, Below X W (w1.drewN n)) := fun n => below_drewN HB1.out n
          have HPX := Lib.hid (HP2.out nq)
          have HBX := Lib.hid (HB2'.out nq)
          clear HP2 HB2' c0 c1 HP1 HB1
          generalize w1.drewN nq = w2 at *
          have HP2 := HPX
          have HB2 := HBX
          clear HPX HBX
          have c1 := HP2.out.c1
          have f1 := HP2.out.f1
          have HPS : Hid (PsAt X S (i + 1) o (w2.setCell ⟨X, 1, none⟩ (.int .i64 ((i : Int) + 1)))) := HP2.out.to (i + 1)
          have HBS : Hid (Below X W (w2.setCell ⟨X, 1, none⟩ (.int .i64 ((i : Int) + 1)))) := HB2.out.trans (set_below _)
          go_wp2_with fail
          clear c1 f1 HP2 HB2
          generalize w2.setCell ⟨X, 1, none⟩ (.int .i64 ((i : Int) + 1)) = w3 at *
          have HP3 := HPS
          have HB3 := HBS
          clear HPS HBS
          have hxx : (chr s (i + 1)).toNat < 256 := UInt8.toNat_lt _
          have HC3 := Lib.hid (HSG.out (i + 1) o w3 HP3.out)
          refine HC3.out.mono ?_
          rintro e w4 ⟨rfl, hb4⟩
          have HP4 := Lib.hid (HP3.out.below hb4)
          have HB4 := Lib.hid (Below_on HB3.out hb4 (Nat.le_of_lt HP3.out.lt))
          clear hb4 HC3 HP3 HB3
          obtain ⟨x, hx⟩ : ∃ x : Nat, x = (chr s (i + 1)).toNat := ⟨_, rfl⟩
          rw [← hx] at hxx ⊢
          have e6 : IntKind.i64.wrap (x : Int) = (x : Int) := IntWalk.i64_in _ (by omega)
          have e7 : IntKind.i64.wrap ((x : Int) - 48) = (x : Int) - 48 := IntWalk.i64_in _ (by omega)
          have c1' := HP4.out.c1
          have f1' := HP4.out.f1
          by_cases hd : 48 ≤ x ∧ x ≤ 57
          · have hl2 : i + 1 < s.length := by
              rcases Nat.lt_or_ge (i + 1) s.length with h | h
              · exact h
              · have : chr s (i + 1) = 0 := by
                  unfold chr
                  rw [List.getD_eq_getElem?_getD, List.getElem?_eq_none (by omega)]
                  rfl
                rw [this] at hx
                have : x = 0 := hx
                omega
            have HR : Hid (prs s (m + 1) i = .ok (.pr ((x : Int) - 48), i + 2)) := by
              show _ = _
              unfold prs
              rw [if_neg b1, if_neg h116, if_pos h112, if_pos ⟨hl2, by rw [UInt8.le_iff_toNat_le, ← hx]; exact hd.1, by rw [UInt8.le_iff_toNat_le, ← hx]; exact hd.2⟩, ← hx]
            have q1 : ¬ ((x : Int) - 48 < 0) := by omega
            have q2 : ¬ ((9 : Int) < (x : Int) - 48) := by omega
            have q3 : decide ((x : Int) - 48 < 0) = false := by simp; omega
            have q4 : decide ((9 : Int) < (x : Int) - 48) = false := by simp; omega
            have d2 : IntKind.i64.wrap ((i : Int) + 1 + 1) = (i : Int) + 1 + 1 := IntWalk.i64_in _ (by omega)
            have HP5 : Hid (PsAt X S (i + 2) o (w4.setCell ⟨X, 1, none⟩ (.int .i64 ((i : Int) + 1 + 1)))) := HP4.out.to (i + 2)
            have HB5 : Hid (Below X W (w4.setCell ⟨X, 1, none⟩ (.int .i64 ((i : Int) + 1 + 1)))) := HB4.out.trans (set_below _)
            have HE : Hid (Fm.flat (.pr ((x : Int) - 48)) o = o ++ [⟨2, 0, 0, (x : Int) - 48⟩]) := rfl
            have c1'' : w4.cell? ⟨X, 1, none⟩ = some (.int .i64 ((i : Int) + 1)) := c1'
            clear hx hd c1'
            go_wp2_with fail
            generalize w4.setCell ⟨X, 1, none⟩ (.int .i64 ((i : Int) + 1 + 1)) = w3 at *
            have HPU := Lib.hid (put_ X S (i + 2) o ⟨2, 0, 0, (x : Int) - 48⟩ w3 (by omega) HP5.out)
            have HB3 := HB5
            clear HP5 HB5 HP4 HB4
            go_wp2_with fail
            refine HPU.out.mono ?_
            rintro e w9 ⟨rfl, hp9, hb9⟩
            have HB9 := Lib.hid (HB3.out.trans hb9)
            have HP9 := Lib.hid hp9
            clear hp9 hb9 HPU
            go_wp2_with fail
            go_ret
            exact ⟨HB9.out, by rw [HR.out]; exact ⟨by rw [HE.out]; exact ret_int (by simp), by rw [HE.out]; exact HP9.out⟩⟩
          · have HR : Hid (prs s (m + 1) i = .error (i + 1)) := by
              show _ = _
              unfold prs
              rw [if_neg b1, if_neg h116, if_pos h112, if_neg (fun h => hd ⟨by have := h.2.1; rw [UInt8.le_iff_toNat_le, ← hx] at this; exact this, by have := h.2.2; rw [UInt8.le_iff_toNat_le, ← hx] at this; exact this⟩)]
            clear hx
            have c1'' : w4.cell? ⟨X, 1, none⟩ = some (.int .i64 ((i : Int) + 1)) := c1'
            clear c1'
            by_cases hz : (x : Int) - 48 < 0
            · have q3 : decide ((x : Int) - 48 < 0) = true := by simp; omega
              clear hd
              go_wp2_with fail
              exact ⟨rfl, HB4.out, by rw [HR.out]; rfl⟩
            · have q2 : (9 : Int) < (x : Int) - 48 := by omega
              have q3 : decide ((x : Int) - 48 < 0) = false := by simp; omega
              have q4 : decide ((9 : Int) < (x : Int) - 48) = true := by simp; omega
              clear hd
              go_wp2_with fail
              exact ⟨rfl, HB4.out, by rw [HR.out]; rfl⟩
        · by_cases h33 : chr s i = 33
          · rw [h33]
            go_wp2_with fail
            go_quiet (fail)
            have HP2 : Hid (∀ n, PsAt X S i o (w1.drewN n)) := fun n => HP1.out.below (below_drewN (Below.refl _ _) n)
            have HB2' : Hid (∀ n, Below X W (w1.drewN n)) := fun n => below_drewN HB1.out n
            have HPX := Lib.hid (HP2.out nq)
            have HBX := Lib.hid (HB2'.out nq)
            clear HP2 HB2' c0 c1 HP1 HB1
            generalize w1.drewN nq = w2 at *
            have HP2 := HPX
            have HB2 := HBX
            clear HPX HBX
            have c1 := HP2.out.c1
            have f1 := HP2.out.f1
            have HPS : Hid (PsAt X S (i + 1) o (w2.setCell ⟨X, 1, none⟩ (.int .i64 ((i : Int) + 1)))) := HP2.out.to (i + 1)
            have HBS : Hid (Below X W (w2.setCell ⟨X, 1, none⟩ (.int .i64 ((i : Int) + 1)))) := HB2.out.trans (set_below _)
            go_wp2_with fail
            clear c1 f1 HP2 HB2
            generalize w2.setCell ⟨X, 1, none⟩ (.int .i64 ((i : Int) + 1)) = w3 at *
            have HP3 := HPS
            have HB3 := HBS
            clear HPS HBS
            have HC3 := Lib.hid (HIH.out (i + 1) o w3 (by omega) (by omega) (by omega) HP3.out)
            refine HC3.out.mono ?_
            cases hr : prs s m (i + 1) with
            | error j =>
              have HR : Hid (prs s (m + 1) i = .error j) := by
                show _ = _
                unfold prs
                rw [if_neg b1, if_neg h116, if_neg h112, if_pos h33, hr]
              rintro e w4 ⟨hb4, rfl⟩
              have HB4 := Lib.hid (HB3.out.trans hb4)
              clear hb4 HC3
              simp only [placeP]
              go_wp2_with fail
              exact ⟨rfl, HB4.out, by rw [HR.out]; rfl⟩
            | ok q =>
              obtain ⟨a, j⟩ := q
              have HR : Hid (prs s (m + 1) i = .ok (.no a, j)) := by
                show _ = _
                unfold prs
                rw [if_neg b1, if_neg h116, if_neg h112, if_pos h33, hr]
              obtain ⟨p2, p5, p6⟩ : j ≤ s.length ∧ i + 1 ≤ j ∧ (a.flat o).length ≤ j := by
                obtain ⟨p1, _, _, p2⟩ := prs_ok _ _ hr
                have p3 := size_show a
                have p4 := a.flat_len o
                omega
              have HE : Hid ((Fm.no a).flat o = a.flat o ++ [⟨3, ((a.flat o).length : Int) - 1, 0, 0⟩]) := rfl
              rintro e w4 ⟨hb4, rfl, hp4⟩
              generalize a.flat o = o1 at *
              have HB3 := Lib.hid (HB3.out.trans hb4)
              have HPU := Lib.hid (put_ X S j o1 ⟨3, (o1.length : Int) - 1, 0, 0⟩ w4 (by omega) hp4)
              clear hb4 hp4 HC3
              go_wp2_with fail
              refine HPU.out.mono ?_
              rintro e w9 ⟨rfl, hp9, hb9⟩
              have HB9 := Lib.hid (HB3.out.trans hb9)
              have HP9 := Lib.hid hp9
              clear hp9 hb9 HPU
              go_wp2_with fail
              go_ret
              exact ⟨HB9.out, by rw [HR.out]; exact ⟨by rw [HE.out]; exact ret_int (by simp), by rw [HE.out]; exact HP9.out⟩⟩
          · by_cases h88 : chr s i = 88
            · rw [h88]
              go_wp2_with fail
              go_quiet (fail)
              have HP2 : Hid (∀ n, PsAt X S i o (w1.drewN n)) := fun n => HP1.out.below (below_drewN (Below.refl _ _) n)
              have HB2' : Hid (∀ n, Below X W (w1.drewN n)) := fun n => below_drewN HB1.out n
              have HPX := Lib.hid (HP2.out nq)
              have HBX := Lib.hid (HB2'.out nq)
              clear HP2 HB2' c0 c1 HP1 HB1
              generalize w1.drewN nq = w2 at *
              have HP2 := HPX
              have HB2 := HBX
              clear HPX HBX
              have c1 := HP2.out.c1
              have f1 := HP2.out.f1
              have HPS : Hid (PsAt X S (i + 1) o (w2.setCell ⟨X, 1, none⟩ (.int .i64 ((i : Int) + 1)))) := HP2.out.to (i + 1)
              have HBS : Hid (Below X W (w2.setCell ⟨X, 1, none⟩ (.int .i64 ((i : Int) + 1)))) := HB2.out.trans (set_below _)
              go_wp2_with fail
              clear c1 f1 HP2 HB2
              generalize w2.setCell ⟨X, 1, none⟩ (.int .i64 ((i : Int) + 1)) = w3 at *
              have HP3 := HPS
              have HB3 := HBS
              clear HPS HBS
              have HC3 := Lib.hid (HIH.out (i + 1) o w3 (by omega) (by omega) (by omega) HP3.out)
              refine HC3.out.mono ?_
              cases hr : prs s m (i + 1) with
              | error j =>
                have HR : Hid (prs s (m + 1) i = .error j) := by
                  show _ = _
                  unfold prs
                  rw [if_neg b1, if_neg h116, if_neg h112, if_neg h33, if_pos h88, hr]
                rintro e w4 ⟨hb4, rfl⟩
                have HB4 := Lib.hid (HB3.out.trans hb4)
                clear hb4 HC3
                simp only [placeP]
                go_wp2_with fail
                exact ⟨rfl, HB4.out, by rw [HR.out]; rfl⟩
              | ok q =>
                obtain ⟨a, j⟩ := q
                have HR : Hid (prs s (m + 1) i = .ok (.nx a, j)) := by
                  show _ = _
                  unfold prs
                  rw [if_neg b1, if_neg h116, if_neg h112, if_neg h33, if_pos h88, hr]
                obtain ⟨p2, p5, p6⟩ : j ≤ s.length ∧ i + 1 ≤ j ∧ (a.flat o).length ≤ j := by
                  obtain ⟨p1, _, _, p2⟩ := prs_ok _ _ hr
                  have p3 := size_show a
                  have p4 := a.flat_len o
                  omega
                have HE : Hid ((Fm.nx a).flat o = a.flat o ++ [⟨6, ((a.flat o).length : Int) - 1, 0, 0⟩]) := rfl
                rintro e w4 ⟨hb4, rfl, hp4⟩
                generalize a.flat o = o1 at *
                have HB3 := Lib.hid (HB3.out.trans hb4)
                have HPU := Lib.hid (put_ X S j o1 ⟨6, (o1.length : Int) - 1, 0, 0⟩ w4 (by omega) hp4)
                clear hb4 hp4 HC3
                go_wp2_with fail
                refine HPU.out.mono ?_
                rintro e w9 ⟨rfl, hp9, hb9⟩
                have HB9 := Lib.hid (HB3.out.trans hb9)
                have HP9 := Lib.hid hp9
                clear hp9 hb9 HPU
                go_wp2_with fail
                go_ret
                exact ⟨HB9.out, by rw [HR.out]; exact ⟨by rw [HE.out]; exact ret_int (by simp), by rw [HE.out]; exact HP9.out⟩⟩
            · by_cases h40 : chr s i = 40
              · rw [h40]
                go_wp2_with fail
                go_quiet (fail)
                have HP2 : Hid (∀ n, PsAt X S i o (w1.drewN n)) := fun n => HP1.out.below (below_drewN (Below.refl _ _) n)
                have HB2' : Hid (∀ n, Below X W (w1.drewN n)) := fun n => below_drewN HB1.out n
                have HPX := Lib.hid (HP2.out nq)
                have HBX := Lib.hid (HB2'.out nq)
                clear HP2 HB2' c0 c1 HP1 HB1
                generalize w1.drewN nq = w2 at *
                have HP2 := HPX
                have HB2 := HBX
                clear HPX HBX
                have c1 := HP2.out.c1
                have f1 := HP2.out.f1
                have HPS : Hid (PsAt X S (i + 1) o (w2.setCell ⟨X, 1, none⟩ (.int .i64 ((i : Int) + 1)))) := HP2.out.to (i + 1)
                have HBS : Hid (Below X W (w2.setCell ⟨X, 1, none⟩ (.int .i64 ((i : Int) + 1)))) := HB2.out.trans (set_below _)
                go_wp2_with fail
                clear c1 f1 HP2 HB2
                generalize w2.setCell ⟨X, 1, none⟩ (.int .i64 ((i : Int) + 1)) = w3 at *
                have HP3 := HPS
                have HB3 := HBS
                clear HPS HBS
                have HR : Hid (prs s (m + 1) i = pairQ s m (i + 1)) := by
                  show _ = _
                  unfold pairQ
                  cases hr : prs s m (i + 1) with
                  | error j =>
                    unfold prs
                    rw [if_neg b1, if_neg h116, if_neg h112, if_neg h33, if_neg h88, if_pos h40, hr]
                  | ok q =>
                    obtain ⟨a, j⟩ := q
                    exact prs_pair hlt h40 hr
                have HC3 := Lib.hid (HPA.out (i + 1) o w3 (by omega) (by omega) (by omega) HP3.out)
                refine HC3.out.mono ?_
                cases hpq : pairQ s m (i + 1) with
                | error j =>
                  have HR2 : Hid (prs s (m + 1) i = .error j) := by show _ = _; rw [HR.out, hpq]
                  rintro e w4 ⟨hb4, rfl⟩
                  have HB4 := Lib.hid (HB3.out.trans hb4)
                  clear hb4 HC3
                  simp only [placeP]
                  go_wp2_with fail
                  exact ⟨rfl, HB4.out, by rw [HR2.out]; rfl⟩
                | ok q =>
                  obtain ⟨t, j⟩ := q
                  have HR2 : Hid (prs s (m + 1) i = .ok (t, j)) := by show _ = _; rw [HR.out, hpq]
                  rintro e w4 ⟨hb4, rfl, hp4⟩
                  have HB4 := Lib.hid (HB3.out.trans hb4)
                  have HP4 := Lib.hid hp4
                  clear hb4 hp4 HC3
                  go_wp2_with fail
                  go_ret
                  exact ⟨HB4.out, by rw [HR2.out]; exact ⟨rfl, HP4.out⟩⟩
              · have HR : Hid (prs s (m + 1) i = .error i) := by
                  show _ = _
                  unfold prs
                  rw [if_neg b1, if_neg h116, if_neg h112, if_neg h33, if_neg h88, if_neg h40]
                obtain ⟨x, hx⟩ : ∃ x : Nat, x = (chr s i).toNat := ⟨_, rfl⟩
                have z116 : ((x : Int) == 116) = false := by rw [hx]; exact (neForms (a := chr s i) (n := 116) h116).2.1
                have z112 : ((x : Int) == 112) = false := by rw [hx]; exact (neForms (a := chr s i) (n := 112) h112).2.1
                have z33 : ((x : Int) == 33) = false := by rw [hx]; exact (neForms (a := chr s i) (n := 33) h33).2.1
                have z88 : ((x : Int) == 88) = false := by rw [hx]; exact (neForms (a := chr s i) (n := 88) h88).2.1
                have z40 : ((x : Int) == 40) = false := by rw [hx]; exact (neForms (a := chr s i) (n := 40) h40).2.1
                rw [← hx]
                clear hx h116 h112 h33 h88 h40
                go_wp2_with fail
                go_quiet (fail)
                have HP2 : Hid (∀ n, PsAt X S i o (w1.drewN n)) := fun n => HP1.out.below (below_drewN (Below.refl _ _) n)
                have HB2' : Hid (∀ n, Below X W (w1.drewN n)) := fun n => below_drewN HB1.out n
                have HPX := Lib.hid (HP2.out nq)
                have HBX := Lib.hid (HB2'.out nq)
                clear HP2 HB2' c0 c1 HP1 HB1
                generalize w1.drewN nq = w2 at *
                have HP2 := HPX
                have HB2 := HBX
                clear HPX HBX
                have c1 := HP2.out.c1
                have f1 := HP2.out.f1
                go_wp2_with fail
                exact ⟨rfl, HB2.out, by rw [HR.out]; rfl⟩
    · have HR : Hid (prs s (m + 1) i = .error i) := by
        show _ = _
        unfold prs
        rw [if_pos (by omega), show s.length = i by omega]
      have hq : ((i : Int) == (s.length : Int)) = true := by simp; omega
      generalize chr s i = ch at *
      go_wp2_with fail
      go_quiet (fail)
      have HP2 : Hid (∀ n, PsAt X S i o (w1.drewN n)) := fun n => HP1.out.below (below_drewN (Below.refl _ _) n)
      have HB2' : Hid (∀ n, Below X W (w1.drewN n)) := fun n => below_drewN HB1.out n
      have HPX := Lib.hid (HP2.out nq)
      have HBX := Lib.hid (HB2'.out nq)
      clear HP2 HB2' c0 c1 HP1 HB1
      generalize w1.drewN nq = w2 at *
      have HP2 := HPX
      have HB2 := HBX
      clear HPX HBX
      have c1 := HP2.out.c1
      have f1 := HP2.out.f1
      go_wp2_with fail
      exact ⟨rfl, HB2.out, by rw [HR.out]; rfl⟩
end Go.Proofs.YtoglgeaiiipchabGreatDoor
