/- Walks: the reference's SameFormula and NegateOf. -/
import Derived.Test.YtoglgeaiiipchaaDoorWRd
namespace Go.Proofs.YtoglgeaiiipchaaDoor
open Go Go.RowKit Go.Sort

theorem same_all {f g : List Nd} (hl : f.length = g.length) (h : ∀ i, i < f.length → f[i]? = g[i]?) : f = g := by
  apply List.ext_getElem?
  intro i
  rcases Nat.lt_or_ge i f.length with h1 | h1
  · exact h i h1
  · rw [List.getElem?_eq_none h1, List.getElem?_eq_none (by omega)]
set_option maxRecDepth 100000 in
set_option maxHeartbeats 1000000 in
theorem SameFormula_ (A B : Option Addr) (ca cb : Nat) (f g : List Nd) (w : World) (hf : Nds w 0 A ca f) (hg : Nds w 0 B cb g) :
    Calls Tryd.prog 14 #[.slice A f.length ca, .slice B g.length cb] w fun e w' => e = .returned (.bool (decide (f = g))) ∧ Below w.heap.size w w' := by
  have hfl := hf.le
  have hgl := hg.le
  have hfc := hf.cap
  have hgc := hg.cap
  have HF := Lib.hid hf
  have HG := Lib.hid hg
  clear hf hg
  by_cases hl : f.length = g.length
  · have hq : ((f.length : Int) != (g.length : Int)) = false := by simp [hl]
    go_enter Tryd.func14, Tryd.ntmps14
    have HL := Lib.hid hl
    clear hl
    go_wp2_with fail
    go_loopw [5] (fun s5 wr => ∃ k : Nat, k ≤ f.length ∧ s5 = .int .i64 (k : Int) ∧ Hid (Below w.heap.size w wr ∧ ∀ i, i < k → f[i]? = g[i]?)) (fun s5 _ => f.length - (intOf s5).toNat)
    case atStart => exact ⟨0, Nat.zero_le _, rfl, Below.refl _ _, fun i h => absurd h (by omega)⟩
    case round =>
      obtain ⟨k, hk, rfl, HR⟩ := hrel
      by_cases hlt : k < f.length
      · have hlt2 : k < g.length := by have := HL.out; omega
        have q1 : (k : Int) < (f.length : Int) := by omega
        have q2 : (k : Int) < (g.length : Int) := by omega
        obtain ⟨b, o, rfl, _, hbl, c0, c1, c2, c3⟩ := Nds.at_ (HF.out.below HR.out.1) hlt
        obtain ⟨b', o', rfl, _, hbl', e0, e1, e2, e3⟩ := Nds.at_ (HG.out.below HR.out.1) hlt2
        have HX : Hid (f[k]? = some f[k]) := List.getElem?_eq_getElem hlt
        have HY : Hid (g[k]? = some g[k]) := List.getElem?_eq_getElem hlt2
        generalize f[k] = x at *
        generalize g[k] = y at *
        by_cases hxy : x = y
        · subst hxy
          have HA : Hid (∀ i, i < k + 1 → f[i]? = g[i]?) := fun i hi => by
            rcases Nat.lt_or_ge i k with h | h
            · exact HR.out.2 i h
            · obtain rfl : i = k := by omega
              rw [HX.out, HY.out]
          have HB := Lib.hid HR.out.1
          clear HX HY HR
          obtain ⟨x1, x2, x3, x4⟩ := x
          simp only at c0 c1 c2 c3 e0 e1 e2 e3
          go_wp2_with fail
          go_quiet (fail)
          go_wp2_with fail
          go_roundw
          case rel => exact ⟨k + 1, by omega, by go_num, below_drewN HB.out _, HA.out⟩
          case measure => simp [intOf]; omega
        · have HN : Hid (decide (f = g) = false) := by
            show _ = _
            simp only [decide_eq_false_iff_not]
            intro h
            have h1 := HX.out
            rw [h, HY.out] at h1
            exact hxy (Option.some.inj h1).symm
          have HB := Lib.hid HR.out.1
          clear HX HY HR
          obtain ⟨x1, x2, x3, x4⟩ := x
          obtain ⟨y1, y2, y3, y4⟩ := y
          simp only at c0 c1 c2 c3 e0 e1 e2 e3
          have hd : x1 ≠ y1 ∨ (x1 = y1 ∧ x2 ≠ y2) ∨ (x1 = y1 ∧ x2 = y2 ∧ x3 ≠ y3) ∨ (x1 = y1 ∧ x2 = y2 ∧ x3 = y3 ∧ x4 ≠ y4) := by
            by_cases h1 : x1 = y1
            · by_cases h2 : x2 = y2
              · by_cases h3 : x3 = y3
                · by_cases h4 : x4 = y4
                  · exact absurd (by rw [h1, h2, h3, h4]) hxy
                  · exact .inr (.inr (.inr ⟨h1, h2, h3, h4⟩))
                · exact .inr (.inr (.inl ⟨h1, h2, h3⟩))
              · exact .inr (.inl ⟨h1, h2⟩)
            · exact .inl h1
          clear hxy
          rcases hd with h1 | ⟨rfl, h1⟩ | ⟨rfl, rfl, h1⟩ | ⟨rfl, rfl, rfl, h1⟩
          all_goals
            go_wp2_with fail
            go_quiet (fail)
            go_wp2_with fail
            go_ret
            exact ⟨ret_bool HN.out.symm, below_drewN HB.out _⟩
      · have HN : Hid (decide (f = g) = true) := by
          show _ = _
          simp only [decide_eq_true_eq]
          exact same_all HL.out (fun i hi => HR.out.2 i (by omega))
        have q1 : ¬ (k : Int) < (f.length : Int) := by omega
        have HB := Lib.hid HR.out.1
        clear HR
        go_wp2_with fail
        go_ret
        exact ⟨ret_bool HN.out.symm, HB.out⟩
  · have hq : ((f.length : Int) != (g.length : Int)) = true := by simp; omega
    have HN : Hid (decide (f = g) = false) := by
      show _ = _
      simp only [decide_eq_false_iff_not]
      exact fun h => hl (by rw [h])
    clear hl
    go_enter Tryd.func14, Tryd.ntmps14
    go_wp2_with fail
    go_ret
    exact ⟨ret_bool HN.out.symm, Below.refl _ _⟩
set_option maxRecDepth 100000 in
theorem NegateOf_ (F : Option Addr) (fc : Nat) (f : List Nd) (w : World) (hf : Nds w 0 F fc f) (hc : ckF f = 0) :
    Calls Tryd.prog 11 #[.slice F f.length fc] w (NegPost w (negF f) (negE f)) := by
  have ho := ckF_zero.1 hc
  have hn := ho.pos
  have hlt : f.length - 1 < f.length := by omega
  have hfew : f.length ≤ 12 := by
    have := ho.few
    unfold tooMany at this
    simp only [Bool.or_eq_false_iff, decide_eq_false_iff_not] at this
    omega
  have hsz : (((treeAt f (f.length - 1)).neg true).show).length ≤ 60000 := by
    have h1 := show_few ho hlt
    have h2 := negshow_len (treeAt f (f.length - 1)) true
    rw [sb_size] at h1
    omega
  have hle := hf.le
  have hcp := hf.cap
  obtain ⟨T, hT⟩ : ∃ T : Fm, T = (treeAt f (f.length - 1)).neg true := ⟨_, rfl⟩
  have HNT : Hid (Calls Tryd.prog 29 #[.slice F f.length fc, .int .i64 ((f.length : Int) - 1), .bool true] w fun e w' => e = .returned (.string (sb T.show)) ∧ Below w.heap.size w w') := by
    have := NegText_ f F fc w hf ho (f.length - 1) hlt true w (Below.refl _ _)
    rw [← hT] at this
    rwa [show ((f.length - 1 : Nat) : Int) = (f.length : Int) - 1 by omega] at this
  rw [← hT] at hsz
  have hok : T.ok := by rw [hT]; exact Fm.neg_ok (treeAt_ok ho _ hlt) _
  have hpr : prs T.show (T.show.length + 1) 0 = .ok (T, T.show.length) := by
    have := prs_show T hok (T.show.length + 1) 0 (s := T.show) (by omega) (by omega) ⟨[], by simp⟩
    simpa using this
  have HPR := Lib.hid hpr
  have HNA : Hid (∀ W, Calls Tryd.prog 28 #[.slice none 0 0, .string (sb T.show), .int .i64 0] W (NaPost W.heap.size [] (.slice none 0 0) W (.ok (T, T.show.length)))) := fun W => by
    have := nodeAt_ T.show (by omega) (sb T.show) (sb_size _) (sb_get _) W.heap.size (T.show.length + 1) 0 [] W (.slice none 0 0) (Nat.zero_le _) (by omega) (Nat.le_refl _) (Nat.le_refl _) (World.ownsRow_nil _ _ _ _)
    rwa [hpr] at this
  have hlen : (T.flat []).length ≤ 100000 := by
    have p3 := size_show T
    have p4 := T.flat_len []
    simp at p4
    omega
  have HM : Hid (tooMany (negO f) = tooMany (T.flat []) ∧ (tooMany (negO f) = false → negO f = T.flat [])) := by
    rw [hT]
    exact ⟨Fm.negV_many _ _ _, fun h => Fm.negV_few _ _ _ h⟩
  have HP : Hid (negF f = if tooMany (negO f) = true then [] else negO f) := by unfold Hid negF; rw [if_pos hc]
  have HE : Hid (negE f = if tooMany (negO f) = true then 2 else 0) := by unfold Hid negE; rw [if_pos hc]
  clear hT hc ho hok hpr hsz hf
  go_enter Tryd.func11, Tryd.ntmps11
  go_wp2_with fail
  refine HNT.out.mono ?_
  rintro e w1 ⟨rfl, hb1⟩
  have HB1 := Lib.hid hb1
  have HC1 := Lib.hid (HNA.out w1)
  clear hb1 HNT HNA
  go_wp2_with fail
  refine HC1.out.mono ?_
  rintro e w2 ⟨v, rfl, hown⟩
  obtain ⟨A, c, rfl, hn⟩ := hown.form (by omega)
  have HB2 := Lib.hid (Below_on HB1.out ((Below.refl w1.heap.size w1).grown hown.gr (Nat.le_refl _) (fun k hk => by simp [Value.ownBlock] at hk)) HB1.out.size)
  have HN2 := Lib.hid (hn.low HB1.out.size)
  have HTM := Lib.hid (TooMany_ A c (T.flat []) w2 hn.zero)
  have hle2 := hn.le
  have hcp2 := hn.cap
  clear hown hn HC1
  generalize T.flat [] = o at *
  go_wp2_with fail
  refine HTM.out.mono ?_
  rintro e w3 ⟨rfl, hb3⟩
  have HB3 := Lib.hid (Below_on HB2.out hb3 HB2.out.size)
  have HN3 := Lib.hid (HN2.out.below hb3)
  clear hb3 HTM
  by_cases hm : tooMany o = true
  · have hm2 : tooMany (negO f) = true := HM.out.1.trans hm
    have HP2 : Hid (negF f = []) := by rw [HP.out, if_pos hm2]; rfl
    have HE2 : Hid (negE f = 2) := by rw [HE.out, if_pos hm2]; rfl
    clear hm2
    go_wp2_with fail
    go_ret2
    exact ⟨none, 0, by rw [HP2.out, HE2.out]; rfl, by rw [HP2.out]; exact Nds.none _ _, HB3.out⟩
  · have hm' : tooMany o = false := by simpa using hm
    have hm2 : tooMany (negO f) = false := HM.out.1.trans hm'
    have HP2 : Hid (negF f = o) := by rw [HP.out, if_neg (by simp [hm2]), HM.out.2 hm2]; rfl
    have HE2 : Hid (negE f = 0) := by rw [HE.out, if_neg (by simp [hm2])]; rfl
    clear hm2 hm
    go_wp2_with fail
    go_ret2
    exact ⟨A, c, by rw [HP2.out, HE2.out]; rfl, by rw [HP2.out]; exact HN3.out, HB3.out⟩
end Go.Proofs.YtoglgeaiiipchaaDoor
