import Derived.Test.YtoglgeaiiipchabGreatDoorLMAKM33
import Derived.Test.YtoglgeaiiipchabGreatDoorLMAKM6
import Derived.Test.YtoglgeaiiipchabGreatDoorLMAKM22
set_option linter.unusedSimpArgs false
set_option linter.unusedVariables false
namespace Go.Proofs.YtoglgeaiiipchabGreatDoor
open Go Go.RowKit
theorem size_show (t : Fm) : t.size ≤ t.show.length := by
  induction t with
  | tt => simp [Fm.size, Fm.show]
  | pr n => simp [Fm.size, Fm.show]
  | no a ih => simp [Fm.size, Fm.show]; omega
  | nx a ih => simp [Fm.size, Fm.show]; omega
  | bi k x y ihx ihy => simp [Fm.size, Fm.show]; omega
def NaPost (base : Nat) (o : List Nd) (v : Value) (W : World) (r : Except Nat (Fm × Nat)) (e : Ending) (w' : World) : Prop :=
  match r with
  | .ok (t, j) => ∃ v', e = .returned (.tuple #[v', .int .i64 (j : Int), .bool true]) ∧ NOwn base W v.ownBlock w' v' (t.flat o)
  | .error j => e = .returned (.tuple #[.slice none 0 0, .int .i64 (j : Int), .bool false]) ∧ W.grownBy w' v.ownBlock
theorem sb_get (s : List UInt8) (i : Nat) (h : i < (sb s).size) : (sb s)[i]'h = chr s i := by
  have h' : i < s.length := by rw [sb_size] at h; exact h
  unfold chr
  rw [List.getD_eq_getElem?_getD, List.getElem?_eq_getElem h']
  rfl
theorem needs_bad {s r : List UInt8} {c : UInt8} {i : Nat} (h : ¬ (i < s.length ∧ chr s i = c)) : needs s (c :: r) i = .error i := by
  unfold needs
  rw [if_neg h]
theorem needs_good {s r : List UInt8} {c : UInt8} {i : Nat} (h : i < s.length) (h' : chr s i = c) : needs s (c :: r) i = needs s r (i + 1) := by
  conv => lhs; unfold needs
  rw [if_pos ⟨h, h'⟩]
theorem below_grown {w w' : World} {row : Option Nat} (hb : Below w.heap.size w w') : w.grownBy w' row := ⟨hb.os, hb.tape, hb.output, hb.size, fun k hk _ => hb.block k hk⟩
theorem neForms {a n : UInt8} (h : ¬ a = n) : ((a.toNat : Int) != (n.toNat : Int)) = true ∧ ((a.toNat : Int) == (n.toNat : Int)) = false ∧ ¬ (a.toNat : Int) = (n.toNat : Int) ∧ ¬ a.toNat = n.toNat := by
  have h0 : ¬ a.toNat = n.toNat := fun h' => h (UInt8.toNat_inj.1 h')
  have h1 : ¬ (a.toNat : Int) = (n.toNat : Int) := fun h' => h0 (by omega)
  exact ⟨by simpa using h1, by simpa using h1, h1, h0⟩
theorem na_bad {j : Int} {k : Nat} (h : j = (k : Int)) : Ending.returned (.tuple #[.slice none 0 0, .int .i64 j, .bool false]) = Ending.returned (.tuple #[.slice none 0 0, .int .i64 (k : Int), .bool false]) := by rw [h]
theorem na_ok {v : Value} {j : Int} {k : Nat} (h : j = (k : Int)) : Ending.returned (.tuple #[v, .int .i64 j, .bool true]) = Ending.returned (.tuple #[v, .int .i64 (k : Int), .bool true]) := by rw [h]
def ttRes (r : Except Nat Nat) : Except Nat (Fm × Nat) := match r with | .error e => .error e | .ok j => .ok (.tt, j)
def pairE (s : List UInt8) (a : Fm) (kn : Int) (r : Except Nat (Fm × Nat)) : Except Nat (Fm × Nat) :=
  match r with
  | .error e => .error e
  | .ok (b, j3) => match needs s [41] j3 with | .error e => .error e | .ok j4 => .ok (.bi kn a b, j4)
def pairR (s : List UInt8) (m : Nat) (a : Fm) (j : Nat) : Except Nat (Fm × Nat) :=
  match needs s [32] j with
  | .error e => .error e
  | .ok j1 =>
    if j1 < s.length ∧ kndAt (chr s j1) ≠ 0 then
      (match needs s [32] (j1 + 1) with
      | .error e => .error e
      | .ok j2 => pairE s a (kndAt (chr s j1)) (prs s m j2))
    else .error j1
theorem prs_pair {s : List UInt8} {m i j : Nat} {a : Fm} (hlt : i < s.length) (h40 : chr s i = 40) (hr : prs s m (i + 1) = .ok (a, j)) : prs s (m + 1) i = pairR s m a j := by
  unfold prs pairR
  rw [if_neg (by omega), if_neg (by rw [h40]; decide), if_neg (by rw [h40]; decide), if_neg (by rw [h40]; decide), if_neg (by rw [h40]; decide), if_pos h40, hr]
  simp only
  cases needs s [32] j with
  | error e => rfl
  | ok j1 =>
    simp only
    by_cases h : j1 < s.length ∧ kndAt (chr s j1) ≠ 0
    · rw [if_pos h, if_pos h]
      cases needs s [32] (j1 + 1) with
      | error e => rfl
      | ok j2 =>
        simp only
        unfold pairE
        cases prs s m j2 with
        | error e => rfl
        | ok q =>
          obtain ⟨b, j3⟩ := q
          simp only
          cases needs s [41] j3 <;> rfl
    · rw [if_neg h, if_neg h]
theorem pairR_e2 {s : List UInt8} {m j : Nat} {a : Fm} (h1 : j < s.length ∧ chr s j = 32) (h2 : ¬ (j + 1 < s.length ∧ kndAt (chr s (j + 1)) ≠ 0)) : pairR s m a j = .error (j + 1) := by
  unfold pairR
  rw [needs_good h1.1 h1.2]
  simp only [needs]
  rw [if_neg h2]
theorem pairR_e3 {s : List UInt8} {m j : Nat} {a : Fm} (h1 : j < s.length ∧ chr s j = 32) (h2 : j + 1 < s.length) (h3 : kndAt (chr s (j + 1)) ≠ 0) (h4 : ¬ (j + 2 < s.length ∧ chr s (j + 2) = 32)) : pairR s m a j = .error (j + 2) := by
  unfold pairR
  rw [needs_good h1.1 h1.2]
  have : needs s [32] (j + 1 + 1) = .error (j + 2) := needs_bad h4
  simp only [needs] at this ⊢
  rw [if_pos ⟨h2, h3⟩, this]
theorem pairR_ok {s : List UInt8} {m j : Nat} {a : Fm} (h1 : j < s.length ∧ chr s j = 32) (h2 : j + 1 < s.length) (h3 : kndAt (chr s (j + 1)) ≠ 0) (h4 : j + 2 < s.length ∧ chr s (j + 2) = 32) :
    pairR s m a j = pairE s a (kndAt (chr s (j + 1))) (prs s m (j + 3)) := by
  unfold pairR
  rw [needs_good h1.1 h1.2]
  have : needs s [32] (j + 1 + 1) = .ok (j + 3) := (needs_good h4.1 h4.2).trans rfl
  simp only [needs] at this ⊢
  rw [if_pos ⟨h2, h3⟩, this]
def pk (kn : Int) (n : Nat) : Int := if kn ≠ 0 ∧ kn < n then kn else 0
theorem pk_no {kn : Int} {n : Nat} (h : kn ≠ (n : Int)) : pk kn (n + 1) = pk kn n := by
  unfold pk
  by_cases h1 : kn ≠ 0 ∧ kn < n
  · rw [if_pos h1, if_pos (by omega)]
  · rw [if_neg h1, if_neg (by omega)]
theorem knd_le (c : UInt8) : (kndAt c = 0 ∨ 4 ≤ kndAt c) ∧ kndAt c ≤ 8 := by
  unfold kndAt
  split
  · decide
  · split
    · decide
    · split
      · decide
      · split <;> decide
theorem pk_4 {c : UInt8} : pk (kndAt c) 4 = 0 := by
  have := knd_le c
  unfold pk
  rw [if_neg (by omega)]
theorem pk_9 {c : UInt8} : pk (kndAt c) 9 = kndAt c := by
  have := knd_le c
  unfold pk
  by_cases h : kndAt c = 0
  · rw [if_neg (by omega), h]
  · rw [if_pos (by omega)]
theorem knd_6 {c : UInt8} : kndAt c ≠ ((6 : Nat) : Int) := by unfold kndAt; (repeat' split) <;> decide
theorem knd_4 {c : UInt8} (h : ¬ c = 38) : kndAt c ≠ ((4 : Nat) : Int) := by unfold kndAt; rw [if_neg h]; (repeat' split) <;> decide
theorem knd_5 {c : UInt8} (h : ¬ c = 124) : kndAt c ≠ ((5 : Nat) : Int) := by unfold kndAt; rw [if_neg h]; (repeat' split) <;> decide
theorem knd_7 {c : UInt8} (h : ¬ c = 85) : kndAt c ≠ ((7 : Nat) : Int) := by unfold kndAt; rw [if_neg h]; (repeat' split) <;> decide
theorem knd_8 {c : UInt8} (h : ¬ c = 82) : kndAt c ≠ ((8 : Nat) : Int) := by unfold kndAt; rw [if_neg h]; (repeat' split) <;> decide
theorem below_own {base : Nat} {W w3 wr : World} {row : Option Nat} {v : Value} {o : List Nd} (h : NOwn base W row w3 v o) (hb : Below w3.heap.size w3 wr) : W.grownBy wr row := (h.below hb).gr
set_option maxRecDepth 100000 in
set_option maxHeartbeats 2000000 in
theorem nodeAt_ (s : List UInt8) (hs : s.length ≤ 100000) (S : ByteArray) (hS : S.size = s.length) (hG : ∀ (i : Nat) (h : i < S.size), S[i]'h = chr s i) (base : Nat) : ∀ (m i : Nat) (o : List Nd) (W : World) (v : Value), i ≤ s.length → s.length - i < m → o.length ≤ i → base ≤ W.heap.size →
    W.ownsRow base 90 4 v o.length (o.flatMap Nd.cells) →
    Calls Tryz.prog 47 #[v, .string S, .int .i64 i] W (NaPost base o v W (prs s m i)) := by
  intro m
  induction m with
  | zero => intro i o W v h1 h2; omega
  | succ m ih =>
    intro i o W v hi hm ho hbW hown0
    have hown : NOwn base W v.ownBlock W v o := NOwn.refl hown0
    obtain ⟨T, c0, rfl, hnds⟩ := hown.form (by omega)
    have hole := hnds.le
    have hocp := hnds.cap
    have IH := Lib.hid ih
    have HO := Lib.hid hown
    have HG := Lib.hid hG
    clear hnds hown hown0 ih hG
    by_cases hlt : i < s.length
    · have HPR : Hid (prs s (m + 1) i = prs s (m + 1) i) := rfl
      have g0 := HG.out i (by omega)
      have b0 : i < S.size := by omega
      have b0' : (i : Int) < (s.length : Int) := by omega
      have b1 : ¬ (s.length ≤ i) := by omega
      by_cases h116 : chr s i = 116
      · have HP : Hid (prs s (m + 1) i = ttRes (needs s [116, 114, 117, 101] i)) := by
          show _ = _
          unfold prs
          rw [if_neg b1, if_pos h116]
          cases needs s [116, 114, 117, 101] i <;> rfl
        rw [h116] at g0
        rw [HP.out]
        clear HP HPR
        go_enter Tryz.func47, Tryz.ntmps47
        go_wp2_with fail
        go_loopw [9] (fun s9 wr => ∃ k : Nat, k ≤ 4 ∧ s9 = .int .i64 (k : Int) ∧ Below W.heap.size W wr ∧ Hid (needs s [116, 114, 117, 101] i = needs s (([116, 114, 117, 101] : List UInt8).drop k) (i + k))) (fun s9 _ => 4 - (intOf s9).toNat)
        case atStart => exact ⟨0, by omega, rfl, Below.refl _ _, rfl⟩
        case round =>
          obtain ⟨k, hk, rfl, hbr, HN⟩ := hrel
          rcases (show k = 0 ∨ k = 1 ∨ k = 2 ∨ k = 3 ∨ k = 4 by omega) with rfl | rfl | rfl | rfl | rfl
          · go_wp2_with fail
            go_quiet (fail)
            go_wp2_with fail
            go_roundw
            case rel => exact ⟨1, by omega, by go_num, by show Below _ _ _; exact below_drewN hbr _, by show _ = _; rw [HN.out]; exact needs_good hlt h116⟩
            case measure => simp [intOf]
          · have e1 : IntKind.i64.wrap ((i : Int) + 1) = (i : Int) + 1 := IntWalk.i64_in _ (by omega)
            have e0 : 0 ≤ (i : Int) + 1 := by omega
            have e3 : ((i : Int) + 1).toNat = i + 1 := by omega
            by_cases hl2 : i + 1 < s.length
            · have e2 : (i : Int) + 1 < (s.length : Int) := by omega
              have e4 : i + 1 < S.size := by omega
              have e5 : decide ((s.length : Int) ≤ (i : Int) + 1) = false := by simp; omega
              have g1 := HG.out (i + 1) e4
              by_cases hc : chr s (i + 1) = 114
              · rw [hc] at g1
                go_wp2_with fail
                go_quiet (fail)
                go_wp2_with fail
                go_roundw
                case rel => exact ⟨2, by omega, by go_num, by show Below _ _ _; exact below_drewN hbr _, by show _ = _; rw [HN.out]; exact needs_good hl2 hc⟩
                case measure => simp [intOf]
              · have HR : Hid (ttRes (needs s [116, 114, 117, 101] i) = .error (i + 1)) := by
                  show _ = _
                  rw [HN.out]
                  show ttRes (needs s (114 :: _) (i + 1)) = _
                  rw [needs_bad (fun h => hc h.2)]
                  rfl
                have hq : (((chr s (i + 1)).toNat : Int) != (((⟨#[116, 114, 117, 101]⟩ : ByteArray)[1]'(by decide)).toNat : Int)) = true := (neForms (a := chr s (i + 1)) (n := 114) hc).1
                generalize chr s (i + 1) = ch at *
                go_wp2_with fail
                go_quiet (fail)
                go_wp2_with fail
                go_ret3
                rw [HR.out]
                exact ⟨na_bad (by omega), below_grown (below_drewN hbr _)⟩
            · have HR : Hid (ttRes (needs s [116, 114, 117, 101] i) = .error (i + 1)) := by
                show _ = _
                rw [HN.out]
                show ttRes (needs s (114 :: _) (i + 1)) = _
                rw [needs_bad (fun h => hl2 h.1)]
                rfl
              have e2 : (s.length : Int) ≤ (i : Int) + 1 := by omega
              have e6 : decide ((s.length : Int) ≤ (i : Int) + 1) = true := by simp; omega
              go_wp2_with fail
              go_quiet (fail)
              go_wp2_with fail
              go_ret3
              rw [HR.out]
              exact ⟨na_bad (by omega), below_grown (below_drewN hbr _)⟩
          · have e1 : IntKind.i64.wrap ((i : Int) + 2) = (i : Int) + 2 := IntWalk.i64_in _ (by omega)
            have e0 : 0 ≤ (i : Int) + 2 := by omega
            have e3 : ((i : Int) + 2).toNat = i + 2 := by omega
            by_cases hl2 : i + 2 < s.length
            · have e2 : (i : Int) + 2 < (s.length : Int) := by omega
              have e4 : i + 2 < S.size := by omega
              have e5 : decide ((s.length : Int) ≤ (i : Int) + 2) = false := by simp; omega
              have g1 := HG.out (i + 2) e4
              by_cases hc : chr s (i + 2) = 117
              · rw [hc] at g1
                go_wp2_with fail
                go_quiet (fail)
                go_wp2_with fail
                go_roundw
                case rel => exact ⟨3, by omega, by go_num, by show Below _ _ _; exact below_drewN hbr _, by show _ = _; rw [HN.out]; exact needs_good hl2 hc⟩
                case measure => simp [intOf]
              · have HR : Hid (ttRes (needs s [116, 114, 117, 101] i) = .error (i + 2)) := by
                  show _ = _
                  rw [HN.out]
                  show ttRes (needs s (117 :: _) (i + 2)) = _
                  rw [needs_bad (fun h => hc h.2)]
                  rfl
                have hq : (((chr s (i + 2)).toNat : Int) != (((⟨#[116, 114, 117, 101]⟩ : ByteArray)[2]'(by decide)).toNat : Int)) = true := (neForms (a := chr s (i + 2)) (n := 117) hc).1
                generalize chr s (i + 2) = ch at *
                go_wp2_with fail
                go_quiet (fail)
                go_wp2_with fail
                go_ret3
                rw [HR.out]
                exact ⟨na_bad (by omega), below_grown (below_drewN hbr _)⟩
            · have HR : Hid (ttRes (needs s [116, 114, 117, 101] i) = .error (i + 2)) := by
                show _ = _
                rw [HN.out]
                show ttRes (needs s (117 :: _) (i + 2)) = _
                rw [needs_bad (fun h => hl2 h.1)]
                rfl
              have e2 : (s.length : Int) ≤ (i : Int) + 2 := by omega
              have e6 : decide ((s.length : Int) ≤ (i : Int) + 2) = true := by simp; omega
              go_wp2_with fail
              go_quiet (fail)
              go_wp2_with fail
              go_ret3
              rw [HR.out]
              exact ⟨na_bad (by omega), below_grown (below_drewN hbr _)⟩
          · have e1 : IntKind.i64.wrap ((i : Int) + 3) = (i : Int) + 3 := IntWalk.i64_in _ (by omega)
            have e0 : 0 ≤ (i : Int) + 3 := by omega
            have e3 : ((i : Int) + 3).toNat = i + 3 := by omega
            by_cases hl2 : i + 3 < s.length
            · have e2 : (i : Int) + 3 < (s.length : Int) := by omega
              have e4 : i + 3 < S.size := by omega
              have e5 : decide ((s.length : Int) ≤ (i : Int) + 3) = false := by simp; omega
              have g1 := HG.out (i + 3) e4
              by_cases hc : chr s (i + 3) = 101
              · rw [hc] at g1
                go_wp2_with fail
                go_quiet (fail)
                go_wp2_with fail
                go_roundw
                case rel => exact ⟨4, by omega, by go_num, by show Below _ _ _; exact below_drewN hbr _, by show _ = _; rw [HN.out]; exact needs_good hl2 hc⟩
                case measure => simp [intOf]
              · have HR : Hid (ttRes (needs s [116, 114, 117, 101] i) = .error (i + 3)) := by
                  show _ = _
                  rw [HN.out]
                  show ttRes (needs s (101 :: _) (i + 3)) = _
                  rw [needs_bad (fun h => hc h.2)]
                  rfl
                have hq : (((chr s (i + 3)).toNat : Int) != (((⟨#[116, 114, 117, 101]⟩ : ByteArray)[3]'(by decide)).toNat : Int)) = true := (neForms (a := chr s (i + 3)) (n := 101) hc).1
                generalize chr s (i + 3) = ch at *
                go_wp2_with fail
                go_quiet (fail)
                go_wp2_with fail
                go_ret3
                rw [HR.out]
                exact ⟨na_bad (by omega), below_grown (below_drewN hbr _)⟩
            · have HR : Hid (ttRes (needs s [116, 114, 117, 101] i) = .error (i + 3)) := by
                show _ = _
                rw [HN.out]
                show ttRes (needs s (101 :: _) (i + 3)) = _
                rw [needs_bad (fun h => hl2 h.1)]
                rfl
              have e2 : (s.length : Int) ≤ (i : Int) + 3 := by omega
              have e6 : decide ((s.length : Int) ≤ (i : Int) + 3) = true := by simp; omega
              go_wp2_with fail
              go_quiet (fail)
              go_wp2_with fail
              go_ret3
              rw [HR.out]
              exact ⟨na_bad (by omega), below_grown (below_drewN hbr _)⟩
          · have e1 : IntKind.i64.wrap ((i : Int) + 4) = (i : Int) + 4 := IntWalk.i64_in _ (by omega)
            have HR : Hid (ttRes (needs s [116, 114, 117, 101] i) = .ok (.tt, i + 4)) := by show _ = _; rw [HN.out]; rfl
            obtain ⟨T3, c3, w3, hr3, ho3, hg3⟩ := (HO.out.below hbr).app ⟨1, 0, 0, 0⟩ (by omega) (Nat.le_trans hbW hbr.size)
            have HR3 := Lib.hid hr3
            have HO3 := Lib.hid ho3
            clear hr3 ho3 hg3
            go_wp2_with (at_builtin; refine wpList_appRun rfl (.tmp 55) (.tmp 57) _ _ rfl (.slice T o.length c0) (.slice (some ⟨wr.heap.size, 0, none⟩) 1 1) (.slice T3 (o.length + 1) c3) (by go_simp) (by go_simp) HR3.out ?_)
            go_ret3
            rw [HR.out]
            exact ⟨_, na_ok (by omega), HO3.out⟩
      · by_cases h112 : chr s i = 112
        · rw [h112] at g0
          have e1 : IntKind.i64.wrap ((i : Int) + 1) = (i : Int) + 1 := IntWalk.i64_in _ (by omega)
          have e0 : 0 ≤ (i : Int) + 1 := by omega
          have e3 : ((i : Int) + 1).toNat = i + 1 := by omega
          have e9 : IntKind.i64.wrap ((i : Int) + 2) = (i : Int) + 2 := IntWalk.i64_in _ (by omega)
          by_cases hl2 : i + 1 < s.length
          · have e2 : (i : Int) + 1 < (s.length : Int) := by omega
            have e4 : i + 1 < S.size := by omega
            have e5 : decide ((s.length : Int) ≤ (i : Int) + 1) = false := by simp; omega
            have g1 := HG.out (i + 1) e4
            obtain ⟨x, hx⟩ : ∃ x : Nat, x = (chr s (i + 1)).toNat := ⟨_, rfl⟩
            have hx2 : x < 256 := by have := UInt8.toNat_lt (chr s (i + 1)); omega
            have e6 : IntKind.i64.wrap (x : Int) = (x : Int) := IntWalk.i64_in _ (by omega)
            have e7 : IntKind.i64.wrap ((x : Int) - 48) = (x : Int) - 48 := IntWalk.i64_in _ (by omega)
            by_cases hd : 48 ≤ x ∧ x ≤ 57
            · have HP : Hid (prs s (m + 1) i = .ok (.pr ((x : Int) - 48), i + 2)) := by
                show _ = _
                unfold prs
                rw [if_neg b1, if_neg h116, if_pos h112, if_pos ⟨hl2, by rw [UInt8.le_iff_toNat_le, ← hx]; exact hd.1, by rw [UInt8.le_iff_toNat_le, ← hx]; exact hd.2⟩, ← hx]
              have g2 : S[i + 1].toNat = x := by rw [g1, hx]
              have hbt : btw (x : Int) 48 57 = true := (btw_iff _ _ _).2 (by omega)
              clear hx g1
              obtain ⟨T3, c3, w3, hr3, ho3, hg3⟩ := HO.out.app ⟨2, 0, 0, (x : Int) - 48⟩ (by omega) hbW
              have HR3 := Lib.hid hr3
              have HO3 := Lib.hid ho3
              clear hr3 ho3 hg3
              go_enter Tryz.func47, Tryz.ntmps47
              go_wp2_with (first | (go_at_call 44; refine (between_ _ _ _ _).mono ?_; rintro e w' ⟨rfl, rfl⟩) | (at_builtin; refine wpList_appRun rfl (.tmp 79) (.tmp 87) _ _ rfl (.slice T o.length c0) (.slice (some ⟨W.heap.size, 0, none⟩) 1 1) (.slice T3 (o.length + 1) c3) (by go_simp) (by go_simp) HR3.out ?_))
              go_ret3
              rw [HP.out]
              exact ⟨_, na_ok (by omega), HO3.out⟩
            · have HP : Hid (prs s (m + 1) i = .error (i + 1)) := by
                show _ = _
                unfold prs
                rw [if_neg b1, if_neg h116, if_pos h112, if_neg (fun h => hd ⟨by have := h.2.1; rw [UInt8.le_iff_toNat_le, ← hx] at this; exact this, by have := h.2.2; rw [UInt8.le_iff_toNat_le, ← hx] at this; exact this⟩)]
              have g2 : S[i + 1].toNat = x := by rw [g1, hx]
              have hbt : btw (x : Int) 48 57 = false := by
                cases hb : btw (x : Int) 48 57 with
                | false => rfl
                | true => exact absurd ((btw_iff _ _ _).1 hb) (by omega)
              clear hx g1
              go_enter Tryz.func47, Tryz.ntmps47
              go_wp2_with (go_at_call 44; refine (between_ _ _ _ _).mono ?_; rintro e w' ⟨rfl, rfl⟩)
              go_ret3
              rw [HP.out]
              exact ⟨na_bad (by omega), World.grownBy.refl _ _⟩
          · have HP : Hid (prs s (m + 1) i = .error (i + 1)) := by
              show _ = _
              unfold prs
              rw [if_neg b1, if_neg h116, if_pos h112, if_neg (fun h => hl2 h.1)]
            have e2 : (s.length : Int) ≤ (i : Int) + 1 := by omega
            have e6 : decide ((s.length : Int) ≤ (i : Int) + 1) = true := by simp; omega
            go_enter Tryz.func47, Tryz.ntmps47
            go_wp2_with fail
            go_ret3
            rw [HP.out]
            exact ⟨na_bad (by omega), World.grownBy.refl _ _⟩
        · by_cases h33 : chr s i = 33
          · rw [h33] at g0
            have e1 : IntKind.i64.wrap ((i : Int) + 1) = (i : Int) + 1 := IntWalk.i64_in _ (by omega)
            have HC : Hid (Calls Tryz.prog 47 #[.slice T o.length c0, .string S, .int .i64 ((i : Int) + 1)] W (NaPost base o (.slice T o.length c0) W (prs s m (i + 1)))) := IH.out (i + 1) o W _ (by omega) (by omega) (by omega) hbW HO.out.own
            go_enter Tryz.func47, Tryz.ntmps47
            go_wp2_with fail
            refine HC.out.mono ?_
            cases hr : prs s m (i + 1) with
            | error j =>
              have HP : Hid (prs s (m + 1) i = .error j) := by
                show _ = _
                unfold prs
                rw [if_neg b1, if_neg h116, if_neg h112, if_pos h33, hr]
              rintro e w3 ⟨rfl, hg3⟩
              have HG3 := Lib.hid hg3
              clear hg3
              go_wp2_with fail
              go_ret3
              rw [HP.out]
              exact ⟨rfl, HG3.out⟩
            | ok q =>
              obtain ⟨a, j⟩ := q
              have HP : Hid (prs s (m + 1) i = .ok (.no a, j)) := by
                show _ = _
                unfold prs
                rw [if_neg b1, if_neg h116, if_neg h112, if_pos h33, hr]
              obtain ⟨p2, p5, p6⟩ : j ≤ s.length ∧ i + 1 ≤ j ∧ (a.flat o).length ≤ j := by
                obtain ⟨p1, _, _, p2⟩ := prs_ok _ _ hr
                have p3 := size_show a
                have p4 := a.flat_len o
                omega
              rintro e w3 ⟨v3, rfl, hown3⟩
              have HE : Hid ((Fm.no a).flat o = a.flat o ++ [⟨3, ((a.flat o).length : Int) - 1, 0, 0⟩]) := rfl
              generalize a.flat o = o3 at *
              obtain ⟨T3, c3, rfl, hn3⟩ := hown3.form (by omega)
              have hl3 := hn3.le
              have hc3 := hn3.cap
              obtain ⟨T4, c4, w4, hr4, ho4, hg4⟩ := hown3.app ⟨3, (o3.length : Int) - 1, 0, 0⟩ (by omega) (Nat.le_trans hbW hown3.gr.size)
              have HR4 := Lib.hid hr4
              have HO4 := Lib.hid ho4
              clear hr4 ho4 hg4 hown3 hn3 HC
              go_wp2_with (at_builtin; refine wpList_appRun rfl (.tmp 110) (.tmp 116) _ _ rfl (.slice T3 o3.length c3) (.slice (some ⟨w3.heap.size, 0, none⟩) 1 1) (.slice T4 (o3.length + 1) c4) (by go_simp) (by go_simp) HR4.out ?_)
              go_ret3
              rw [HP.out]
              exact ⟨_, rfl, by rw [HE.out]; exact HO4.out⟩
          · by_cases h88 : chr s i = 88
            · rw [h88] at g0
              have e1 : IntKind.i64.wrap ((i : Int) + 1) = (i : Int) + 1 := IntWalk.i64_in _ (by omega)
              have HC : Hid (Calls Tryz.prog 47 #[.slice T o.length c0, .string S, .int .i64 ((i : Int) + 1)] W (NaPost base o (.slice T o.length c0) W (prs s m (i + 1)))) := IH.out (i + 1) o W _ (by omega) (by omega) (by omega) hbW HO.out.own
              go_enter Tryz.func47, Tryz.ntmps47
              go_wp2_with fail
              refine HC.out.mono ?_
              cases hr : prs s m (i + 1) with
              | error j =>
                have HP : Hid (prs s (m + 1) i = .error j) := by
                  show _ = _
                  unfold prs
                  rw [if_neg b1, if_neg h116, if_neg h112, if_neg h33, if_pos h88, hr]
                rintro e w3 ⟨rfl, hg3⟩
                have HG3 := Lib.hid hg3
                clear hg3
                go_wp2_with fail
                go_ret3
                rw [HP.out]
                exact ⟨rfl, HG3.out⟩
              | ok q =>
                obtain ⟨a, j⟩ := q
                have HP : Hid (prs s (m + 1) i = .ok (.nx a, j)) := by
                  show _ = _
                  unfold prs
                  rw [if_neg b1, if_neg h116, if_neg h112, if_neg h33, if_pos h88, hr]
                obtain ⟨p2, p5, p6⟩ : j ≤ s.length ∧ i + 1 ≤ j ∧ (a.flat o).length ≤ j := by
                  obtain ⟨p1, _, _, p2⟩ := prs_ok _ _ hr
                  have p3 := size_show a
                  have p4 := a.flat_len o
                  omega
                rintro e w3 ⟨v3, rfl, hown3⟩
                have HE : Hid ((Fm.nx a).flat o = a.flat o ++ [⟨6, ((a.flat o).length : Int) - 1, 0, 0⟩]) := rfl
                generalize a.flat o = o3 at *
                obtain ⟨T3, c3, rfl, hn3⟩ := hown3.form (by omega)
                have hl3 := hn3.le
                have hc3 := hn3.cap
                obtain ⟨T4, c4, w4, hr4, ho4, hg4⟩ := hown3.app ⟨6, (o3.length : Int) - 1, 0, 0⟩ (by omega) (Nat.le_trans hbW hown3.gr.size)
                have HR4 := Lib.hid hr4
                have HO4 := Lib.hid ho4
                clear hr4 ho4 hg4 hown3 hn3 HC
                go_wp2_with (at_builtin; refine wpList_appRun rfl (.tmp 110) (.tmp 116) _ _ rfl (.slice T3 o3.length c3) (.slice (some ⟨w3.heap.size, 0, none⟩) 1 1) (.slice T4 (o3.length + 1) c4) (by go_simp) (by go_simp) HR4.out ?_)
                go_ret3
                rw [HP.out]
                exact ⟨_, rfl, by rw [HE.out]; exact HO4.out⟩
            · by_cases h40 : chr s i = 40
              · rw [h40] at g0
                have e1 : IntKind.i64.wrap ((i : Int) + 1) = (i : Int) + 1 := IntWalk.i64_in _ (by omega)
                have HC : Hid (Calls Tryz.prog 47 #[.slice T o.length c0, .string S, .int .i64 ((i : Int) + 1)] W (NaPost base o (.slice T o.length c0) W (prs s m (i + 1)))) := IH.out (i + 1) o W _ (by omega) (by omega) (by omega) hbW HO.out.own
                go_enter Tryz.func47, Tryz.ntmps47
                go_wp2_with fail
                refine HC.out.mono ?_
                cases hr : prs s m (i + 1) with
                | error j =>
                  have HP : Hid (prs s (m + 1) i = .error j) := by
                    show _ = _
                    unfold prs
                    rw [if_neg b1, if_neg h116, if_neg h112, if_neg h33, if_neg h88, if_pos h40, hr]
                  rintro e w3 ⟨rfl, hg3⟩
                  have HG3 := Lib.hid hg3
                  clear hg3
                  go_wp2_with fail
                  go_ret3
                  rw [HP.out]
                  exact ⟨rfl, HG3.out⟩
                | ok q =>
                  obtain ⟨a, j⟩ := q
                  have HP : Hid (prs s (m + 1) i = pairR s m a j) := prs_pair hlt h40 hr
                  obtain ⟨p2, p5, p6⟩ : j ≤ s.length ∧ i + 1 ≤ j ∧ (a.flat o).length ≤ j := by
                    obtain ⟨p1, _, _, p2⟩ := prs_ok _ _ hr
                    have p3 := size_show a
                    have p4 := a.flat_len o
                    omega
                  rintro e w3 ⟨v3, rfl, hown3⟩
                  have HE : Hid (∀ k b, (Fm.bi k a b).flat o = b.flat (a.flat o) ++ [⟨k, ((a.flat o).length : Int) - 1, ((b.flat (a.flat o)).length : Int) - 1, 0⟩]) := fun _ _ => rfl
                  generalize a.flat o = o3 at *
                  obtain ⟨T3, c3, rfl, hn3⟩ := hown3.form (by omega)
                  have hl3 := hn3.le
                  have hc3 := hn3.cap
                  have HO3 := Lib.hid hown3
                  have HB3 : Hid (base ≤ w3.heap.size) := Nat.le_trans hbW hown3.gr.size
                  clear hown3 hn3 HC g0 b0 b0' b1 e1 h116 h112 h33 h88 h40 hr
                  go_wp2_with fail
                  obtain ⟨kn, hkn⟩ : ∃ kn : Int, kn = kndAt (chr s (j + 1)) := ⟨_, rfl⟩
                  have HKN := Lib.hid hkn
                  clear hkn
                  go_loopw [15, 18, 19] (fun s15 s18 s19 wr => ∃ n p : Nat, n ≤ 3 ∧ p = j + n ∧ s19 = .int .i64 (n : Int) ∧ s15 = .int .i64 (p : Int) ∧ s18 = .int .i64 (if n ≤ 1 then 0 else kn) ∧ Hid (Below w3.heap.size w3 wr) ∧ Hid ((0 < n → j < s.length ∧ chr s j = 32) ∧ (1 < n → j + 1 < s.length ∧ kn ≠ 0) ∧ (2 < n → j + 2 < s.length ∧ chr s (j + 2) = 32))) (fun _ _ s19 _ => 3 - (intOf s19).toNat)
                  case atStart => exact ⟨0, j, by omega, rfl, rfl, rfl, rfl, Below.refl _ _, fun h => absurd h (by omega), fun h => absurd h (by omega), fun h => absurd h (by omega)⟩
                  case round =>
                    obtain ⟨n, p, hn, hp, rfl, rfl, rfl, HBR, HF⟩ := hrel
                    have hpj : j ≤ p ∧ p ≤ j + 3 := by omega
                    have HPJ := Lib.hid hp
                    clear hp
                    have d1 : IntKind.i64.wrap ((p : Int) + 1) = (p : Int) + 1 := IntWalk.i64_in _ (by omega)
                    rcases (show n = 0 ∨ n = 1 ∨ n = 2 ∨ n = 3 by omega) with rfl | rfl | rfl | rfl
                    · simp only [show (0 : Nat) ≤ 1 by omega, if_true]
                      by_cases hl : p < s.length
                      · have q1 : ¬ (s.length : Int) ≤ (p : Int) := by omega
                        have q2 : (p : Int) < (s.length : Int) := by omega
                        have q3 : p < S.size := by omega
                        have g1 := HG.out p q3
                        by_cases hc : chr s p = 32
                        · rw [hc] at g1
                          have HF2 : Hid ((0 < 1 → j < s.length ∧ chr s j = 32) ∧ (1 < 1 → j + 1 < s.length ∧ kn ≠ 0) ∧ (2 < 1 → j + 2 < s.length ∧ chr s (j + 2) = 32)) := by
                            exact ⟨fun _ => by rw [show p = j from HPJ.out] at hl hc; exact ⟨hl, hc⟩, fun h => absurd h (by omega), fun h => absurd h (by omega)⟩
                          go_wp2_with fail
                          go_roundw
                          case rel => exact ⟨1, p + 1, by omega, by have := HPJ.out; omega, by go_num, by go_num, by simp, HBR, HF2⟩
                          case measure => simp [intOf]
                        · have HR : Hid (pairR s m a j = .error p) := by
                            show _ = _
                            unfold pairR
                            rw [show p = j from HPJ.out] at hc ⊢
                            rw [needs_bad (fun h => hc h.2)]
                          have hq : (((chr s p).toNat : Int) != 32) = true := (neForms (a := chr s p) (n := 32) hc).1
                          generalize chr s p = ch at *
                          go_wp2_with fail
                          go_ret3
                          rw [HP.out, HR.out]
                          exact ⟨rfl, below_own HO3.out HBR.out⟩
                      · have HR : Hid (pairR s m a j = .error p) := by
                          show _ = _
                          unfold pairR
                          rw [show p = j from HPJ.out] at hl ⊢
                          rw [needs_bad (fun h => hl h.1)]
                        have q1 : (s.length : Int) ≤ (p : Int) := by omega
                        go_wp2_with fail
                        go_ret3
                        rw [HP.out, HR.out]
                        exact ⟨rfl, below_own HO3.out HBR.out⟩
                    · simp only [show (1 : Nat) ≤ 1 by omega, if_true]
                      by_cases hl : p < s.length
                      · have q1 : ¬ (s.length : Int) ≤ (p : Int) := by omega
                        have q2 : (p : Int) < (s.length : Int) := by omega
                        have q3 : p < S.size := by omega
                        have g1 := HG.out p q3
                        have hkp : kn = kndAt (chr s p) := by rw [HKN.out, HPJ.out]
                        have HR : Hid (kn = 0 → pairR s m a j = .error p) := fun h => by
                          rw [HPJ.out]
                          exact pairR_e2 (HF.out.1 (by omega)) (fun h' => h'.2 (by rw [← HKN.out]; exact h))
                        have HF2 : Hid (kn ≠ 0 → (0 < 2 → j < s.length ∧ chr s j = 32) ∧ (1 < 2 → j + 1 < s.length ∧ kn ≠ 0) ∧ (2 < 2 → j + 2 < s.length ∧ chr s (j + 2) = 32)) := fun h => ⟨fun _ => HF.out.1 (by omega), fun _ => by rw [HPJ.out] at hl; exact ⟨hl, h⟩, fun h => absurd h (by omega)⟩
                        generalize chr s p = ch at *
                        go_wp2_with fail
                        go_loopw [18, 20] (fun s18 s20 wx => ∃ n : Nat, 4 ≤ n ∧ n ≤ 9 ∧ s20 = .int .i64 (n : Int) ∧ s18 = .int .i64 (pk kn n) ∧ Hid (Below w3.heap.size w3 wx)) (fun _ s20 _ => 9 - (intOf s20).toNat)
                        case atStart => exact ⟨4, by omega, by omega, rfl, by rw [hkp, pk_4], HBR⟩
                        case round =>
                          obtain ⟨n, hn4, hn9, rfl, rfl, HBW⟩ := hrel
                          rcases (show n = 4 ∨ n = 5 ∨ n = 6 ∨ n = 7 ∨ n = 8 ∨ n = 9 by omega) with rfl | rfl | rfl | rfl | rfl | rfl
                          · by_cases hc : ch = 38
                            · have HK : Hid (pk kn 5 = 4) := by show _ = _; rw [hkp, hc]; rfl
                              have hq : ((ch.toNat : Int) == (((⟨#[38, 124, 46, 85, 82]⟩ : ByteArray)[0]'(by decide)).toNat : Int)) = true := by rw [hc]; rfl
                              generalize pk kn 4 = z at *
                              clear hkp HR HF2 hc
                              go_wp2_with fail
                              go_quiet (fail)
                              go_wp2_with fail
                              go_roundw
                              case rel => exact ⟨5, by omega, by omega, by go_num, by rw [HK.out]; rfl, below_drewN HBW.out _⟩
                              case measure => simp [intOf]
                            · have HK : Hid (pk kn 5 = pk kn 4) := pk_no (by rw [hkp]; exact knd_4 hc)
                              have hq : ((ch.toNat : Int) == (((⟨#[38, 124, 46, 85, 82]⟩ : ByteArray)[0]'(by decide)).toNat : Int)) = false := (neForms (a := ch) (n := 38) hc).2.1
                              generalize pk kn 4 = z at *
                              clear hc
                              go_wp2_with fail
                              go_quiet (fail)
                              go_wp2_with fail
                              go_roundw
                              case rel => exact ⟨5, by omega, by omega, by go_num, by rw [HK.out], below_drewN HBW.out _⟩
                              case measure => simp [intOf]
                          · by_cases hc : ch = 124
                            · have HK : Hid (pk kn 6 = 5) := by show _ = _; rw [hkp, hc]; rfl
                              have hq : ((ch.toNat : Int) == (((⟨#[38, 124, 46, 85, 82]⟩ : ByteArray)[1]'(by decide)).toNat : Int)) = true := by rw [hc]; rfl
                              generalize pk kn 5 = z at *
                              clear hkp HR HF2 hc
                              go_wp2_with fail
                              go_quiet (fail)
                              go_wp2_with fail
                              go_roundw
                              case rel => exact ⟨6, by omega, by omega, by go_num, by rw [HK.out]; rfl, below_drewN HBW.out _⟩
                              case measure => simp [intOf]
                            · have HK : Hid (pk kn 6 = pk kn 5) := pk_no (by rw [hkp]; exact knd_5 hc)
                              have hq : ((ch.toNat : Int) == (((⟨#[38, 124, 46, 85, 82]⟩ : ByteArray)[1]'(by decide)).toNat : Int)) = false := (neForms (a := ch) (n := 124) hc).2.1
                              generalize pk kn 5 = z at *
                              clear hc
                              go_wp2_with fail
                              go_quiet (fail)
                              go_wp2_with fail
                              go_roundw
                              case rel => exact ⟨6, by omega, by omega, by go_num, by rw [HK.out], below_drewN HBW.out _⟩
                              case measure => simp [intOf]
                          · have HK : Hid (pk kn 7 = pk kn 6) := pk_no (by rw [hkp]; exact knd_6)
                            generalize pk kn 6 = z at *
                            go_wp2_with fail
                            go_quiet (fail)
                            go_wp2_with fail
                            go_roundw
                            case rel => exact ⟨7, by omega, by omega, by go_num, by rw [HK.out], below_drewN HBW.out _⟩
                            case measure => simp [intOf]
                          · by_cases hc : ch = 85
                            · have HK : Hid (pk kn 8 = 7) := by show _ = _; rw [hkp, hc]; rfl
                              have hq : ((ch.toNat : Int) == (((⟨#[38, 124, 46, 85, 82]⟩ : ByteArray)[3]'(by decide)).toNat : Int)) = true := by rw [hc]; rfl
                              generalize pk kn 7 = z at *
                              clear hkp HR HF2 hc
                              go_wp2_with fail
                              go_quiet (fail)
                              go_wp2_with fail
                              go_roundw
                              case rel => exact ⟨8, by omega, by omega, by go_num, by rw [HK.out]; rfl, below_drewN HBW.out _⟩
                              case measure => simp [intOf]
                            · have HK : Hid (pk kn 8 = pk kn 7) := pk_no (by rw [hkp]; exact knd_7 hc)
                              have hq : ((ch.toNat : Int) == (((⟨#[38, 124, 46, 85, 82]⟩ : ByteArray)[3]'(by decide)).toNat : Int)) = false := (neForms (a := ch) (n := 85) hc).2.1
                              generalize pk kn 7 = z at *
                              clear hc
                              go_wp2_with fail
                              go_quiet (fail)
                              go_wp2_with fail
                              go_roundw
                              case rel => exact ⟨8, by omega, by omega, by go_num, by rw [HK.out], below_drewN HBW.out _⟩
                              case measure => simp [intOf]
                          · by_cases hc : ch = 82
                            · have HK : Hid (pk kn 9 = 8) := by show _ = _; rw [hkp, hc]; rfl
                              have hq : ((ch.toNat : Int) == (((⟨#[38, 124, 46, 85, 82]⟩ : ByteArray)[4]'(by decide)).toNat : Int)) = true := by rw [hc]; rfl
                              generalize pk kn 8 = z at *
                              clear hkp HR HF2 hc
                              go_wp2_with fail
                              go_quiet (fail)
                              go_wp2_with fail
                              go_roundw
                              case rel => exact ⟨9, by omega, by omega, by go_num, by rw [HK.out]; rfl, below_drewN HBW.out _⟩
                              case measure => simp [intOf]
                            · have HK : Hid (pk kn 9 = pk kn 8) := pk_no (by rw [hkp]; exact knd_8 hc)
                              have hq : ((ch.toNat : Int) == (((⟨#[38, 124, 46, 85, 82]⟩ : ByteArray)[4]'(by decide)).toNat : Int)) = false := (neForms (a := ch) (n := 82) hc).2.1
                              generalize pk kn 8 = z at *
                              clear hc
                              go_wp2_with fail
                              go_quiet (fail)
                              go_wp2_with fail
                              go_roundw
                              case rel => exact ⟨9, by omega, by omega, by go_num, by rw [HK.out], below_drewN HBW.out _⟩
                              case measure => simp [intOf]
                          · have hpk : pk kn 9 = kn := by rw [hkp]; exact pk_9
                            rw [hpk]
                            clear hpk
                            by_cases hk0 : kn = 0
                            · have HR2 := Lib.hid (HR.out hk0)
                              have hk1 : (kn == 0) = true := by simp [hk0]
                              clear hkp hk0 HR HF2
                              go_wp2_with fail
                              go_ret3
                              rw [HP.out, HR2.out]
                              exact ⟨rfl, below_own HO3.out HBW.out⟩
                            · have HF3 := Lib.hid (HF2.out hk0)
                              have hk1 : (kn == 0) = false := by simp [hk0]
                              clear hkp HR HF2 hk0
                              go_wp2_with fail
                              go_roundw
                              case rel => exact ⟨2, p + 1, by omega, by have := HPJ.out; omega, by go_num, by go_num, by simp, HBW, HF3⟩
                              case measure => simp [intOf]
                      · have HR : Hid (pairR s m a j = .error p) := by
                          show _ = _
                          rw [HPJ.out] at hl ⊢
                          exact pairR_e2 (HF.out.1 (by omega)) (fun h => hl h.1)
                        have q1 : (s.length : Int) ≤ (p : Int) := by omega
                        go_wp2_with fail
                        go_ret3
                        rw [HP.out, HR.out]
                        exact ⟨rfl, below_own HO3.out HBR.out⟩
                    · simp only [show ¬ (2 : Nat) ≤ 1 by omega, if_false]
                      by_cases hl : p < s.length
                      · have q1 : ¬ (s.length : Int) ≤ (p : Int) := by omega
                        have q2 : (p : Int) < (s.length : Int) := by omega
                        have q3 : p < S.size := by omega
                        have g1 := HG.out p q3
                        by_cases hc : chr s p = 32
                        · rw [hc] at g1
                          have HF2 : Hid ((0 < 3 → j < s.length ∧ chr s j = 32) ∧ (1 < 3 → j + 1 < s.length ∧ kn ≠ 0) ∧ (2 < 3 → j + 2 < s.length ∧ chr s (j + 2) = 32)) := by
                            exact ⟨fun _ => HF.out.1 (by omega), fun _ => HF.out.2.1 (by omega), fun _ => by rw [HPJ.out] at hl hc; exact ⟨hl, hc⟩⟩
                          go_wp2_with fail
                          go_roundw
                          case rel => exact ⟨3, p + 1, by omega, by have := HPJ.out; omega, by go_num, by go_num, by simp, HBR, HF2⟩
                          case measure => simp [intOf]
                        · have HR : Hid (pairR s m a j = .error p) := by
                            show _ = _
                            rw [HPJ.out] at hc ⊢
                            exact pairR_e3 (HF.out.1 (by omega)) (HF.out.2.1 (by omega)).1 (HKN.out ▸ (HF.out.2.1 (by omega)).2) (fun h => hc h.2)
                          have hq : (((chr s p).toNat : Int) != 32) = true := (neForms (a := chr s p) (n := 32) hc).1
                          generalize chr s p = ch at *
                          go_wp2_with fail
                          go_ret3
                          rw [HP.out, HR.out]
                          exact ⟨rfl, below_own HO3.out HBR.out⟩
                      · have HR : Hid (pairR s m a j = .error p) := by
                          show _ = _
                          rw [HPJ.out] at hl ⊢
                          exact pairR_e3 (HF.out.1 (by omega)) (HF.out.2.1 (by omega)).1 (HKN.out ▸ (HF.out.2.1 (by omega)).2) (fun h => hl h.1)
                        have q1 : (s.length : Int) ≤ (p : Int) := by omega
                        go_wp2_with fail
                        go_ret3
                        rw [HP.out, HR.out]
                        exact ⟨rfl, below_own HO3.out HBR.out⟩
                    · simp only [show ¬ (3 : Nat) ≤ 1 by omega, if_false]
                      have t1 := HF.out.1 (by omega)
                      have t2 := HF.out.2.1 (by omega)
                      have t3 := HF.out.2.2 (by omega)
                      have HP2 : Hid (pairR s m a j = pairE s a kn (prs s m p)) := by show _ = _; rw [HPJ.out, HKN.out]; exact pairR_ok t1 t2.1 (HKN.out ▸ t2.2) t3
                      have HOR := Lib.hid (HO3.out.below HBR.out)
                      have HCR : Hid (Calls Tryz.prog 47 #[.slice T3 o3.length c3, .string S, .int .i64 (p : Int)] wr (NaPost base o3 (.slice T3 o3.length c3) wr (prs s m p))) := IH.out p o3 wr _ (by omega) (by omega) (by omega) (Nat.le_trans HB3.out HBR.out.size) HOR.out.own
                      have HBRw : Hid (base ≤ wr.heap.size) := Nat.le_trans HB3.out HBR.out.size
                      clear HF t1 t2 t3
                      go_wp2_with fail
                      refine HCR.out.mono ?_
                      cases hr : prs s m p with
                      | error e2 =>
                        rintro e w4 ⟨rfl, hg4⟩
                        have HG4 : Hid (W.grownBy w4 (Value.slice T o.length c0).ownBlock) := HOR.out.gr.andThen hg4 (fun z hz => by rcases HOR.out.bl z hz with h | h; exact .inr h; exact .inl h)
                        clear hg4
                        go_wp2_with fail
                        go_ret3
                        rw [HP.out, HP2.out, hr]
                        exact ⟨rfl, HG4.out⟩
                      | ok q2 =>
                        obtain ⟨b, j3⟩ := q2
                        obtain ⟨r2, r5, r6⟩ : j3 ≤ s.length ∧ p ≤ j3 ∧ (b.flat o3).length ≤ j3 := by
                          obtain ⟨r1, _, _, r2⟩ := prs_ok _ _ hr
                          have r3 := size_show b
                          have r4 := b.flat_len o3
                          omega
                        rintro e w4 ⟨v4, rfl, hown4⟩
                        have HE2 : Hid ((Fm.bi kn a b).flat o = b.flat o3 ++ [⟨kn, (o3.length : Int) - 1, ((b.flat o3).length : Int) - 1, 0⟩]) := HE.out kn b
                        generalize b.flat o3 = o4 at *
                        obtain ⟨T4, c4, rfl, hn4⟩ := hown4.form (by omega)
                        have hl4 := hn4.le
                        have hc4 := hn4.cap
                        have HO4 := Lib.hid (HOR.out.call hown4)
                        have HBW4 : Hid (base ≤ w4.heap.size) := Nat.le_trans HBRw.out hown4.gr.size
                        have d3 : IntKind.i64.wrap ((j3 : Int) + 1) = (j3 : Int) + 1 := IntWalk.i64_in _ (by omega)
                        clear hown4 hn4 HCR HE
                        by_cases hl : j3 < s.length
                        · have q1 : decide ((s.length : Int) ≤ (j3 : Int)) = false := by simp; omega
                          have q2 : (j3 : Int) < (s.length : Int) := by omega
                          have q3 : j3 < S.size := by omega
                          have g1 := HG.out j3 q3
                          by_cases hc : chr s j3 = 41
                          · rw [hc] at g1
                            have HR : Hid (pairE s a kn (.ok (b, j3)) = .ok (.bi kn a b, j3 + 1)) := by show _ = _; unfold pairE; simp only [needs_good (r := []) hl hc]; rfl
                            obtain ⟨T5, c5, w5, hr5, ho5, hg5⟩ := HO4.out.app ⟨kn, (o3.length : Int) - 1, (o4.length : Int) - 1, 0⟩ (by omega) HBW4.out
                            have HR5 := Lib.hid hr5
                            have HO5 := Lib.hid ho5
                            clear hr5 ho5 hg5
                            go_wp2_with (at_builtin; refine wpList_appRun rfl (.tmp 195) (.tmp 202) _ _ rfl (.slice T4 o4.length c4) (.slice (some ⟨w4.heap.size, 0, none⟩) 1 1) (.slice T5 (o4.length + 1) c5) (by go_simp) (by go_simp) HR5.out ?_)
                            go_ret3
                            rw [HP.out, HP2.out, hr, HR.out]
                            exact ⟨_, na_ok (by omega), by rw [HE2.out]; exact HO5.out⟩
                          · have HR : Hid (pairE s a kn (.ok (b, j3)) = .error j3) := by show _ = _; unfold pairE; simp only [needs_bad (r := []) (fun h : _ ∧ chr s j3 = 41 => hc h.2)]
                            have hq : (((chr s j3).toNat : Int) != 41) = true := (neForms (a := chr s j3) (n := 41) hc).1
                            generalize chr s j3 = ch at *
                            go_wp2_with fail
                            go_ret3
                            rw [HP.out, HP2.out, hr, HR.out]
                            exact ⟨rfl, HO4.out.gr⟩
                        · have HR : Hid (pairE s a kn (.ok (b, j3)) = .error j3) := by show _ = _; unfold pairE; simp only [needs_bad (r := []) (c := 41) (fun h => hl h.1)]
                          have q1 : decide ((s.length : Int) ≤ (j3 : Int)) = true := by simp; omega
                          have q2 : (s.length : Int) ≤ (j3 : Int) := by omega
                          go_wp2_with fail
                          go_ret3
                          rw [HP.out, HP2.out, hr, HR.out]
                          exact ⟨rfl, HO4.out.gr⟩
              · have HP : Hid (prs s (m + 1) i = .error i) := by
                  show _ = _
                  unfold prs
                  rw [if_neg b1, if_neg h116, if_neg h112, if_neg h33, if_neg h88, if_neg h40]
                obtain ⟨x, hx⟩ : ∃ x : Nat, x = (chr s i).toNat := ⟨_, rfl⟩
                have z116 : ((x : Int) == 116) = false := by rw [hx]; exact (neForms (a := chr s i) (n := 116) h116).2.1
                have z112 : ((x : Int) == 112) = false := by rw [hx]; exact (neForms (a := chr s i) (n := 112) h112).2.1
                have z33 : ((x : Int) == 33) = false := by rw [hx]; exact (neForms (a := chr s i) (n := 33) h33).2.1
                have z88 : ((x : Int) == 88) = false := by rw [hx]; exact (neForms (a := chr s i) (n := 88) h88).2.1
                have z40 : ((x : Int) == 40) = false := by rw [hx]; exact (neForms (a := chr s i) (n := 40) h40).2.1
                have g2 : S[i].toNat = x := by rw [g0, hx]
                clear hx g0 h116 h112 h33 h88 h40
                go_enter Tryz.func47, Tryz.ntmps47
                go_wp2_with fail
                go_ret3
                rw [HP.out]
                exact ⟨rfl, World.grownBy.refl _ _⟩
    · have HP : Hid (prs s (m + 1) i = .error s.length) := by
        show _ = _
        unfold prs
        rw [if_pos (by omega)]
      have b1 : (s.length : Int) ≤ (i : Int) := by omega
      go_enter Tryz.func47, Tryz.ntmps47
      go_wp2_with fail
      go_ret3
      rw [HP.out]
      exact ⟨rfl, World.grownBy.refl _ _⟩
end Go.Proofs.YtoglgeaiiipchabGreatDoor
