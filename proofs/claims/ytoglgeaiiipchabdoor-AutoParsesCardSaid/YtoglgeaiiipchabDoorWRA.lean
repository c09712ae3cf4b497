/- Walks: the reference's ReadAuto. -/
import Derived.Test.YtoglgeaiiipchabDoorPrA
import Derived.Test.YtoglgeaiiipchabDoorCuA
import Derived.Test.YtoglgeaiiipchabDoorWCA
namespace Go.Proofs.YtoglgeaiiipchabDoor
open Go Go.RowKit Go.Sort

/-- what a line of the text does -/
def RdRel (W0 : World) (G : Nat) (r : Option Au) (b : Bool) (W : World) : Prop := Below G W0 W ∧ match r with
  | some a' => b = true ∧ PaM W0 G a' W
  | none => b = false
theorem StrRd.of_own {w : World} {lo : Nat} {v : Value} {xs : List (List UInt8)} (h : StrOwn w lo v xs) (hl : xs.length ≤ 1000000) : ∃ B c, v = .slice B xs.length c ∧ StrRd w B c xs := by
  obtain ⟨A, c, rfl, h1, h2, h3⟩ := own_form h
  exact ⟨A, c, rfl, h1, h2, fun hne => by
    obtain ⟨b, off, hA, _, hb, hc⟩ := h3.1 hne
    exact ⟨b, off, hA, Nat.zero_le _, hb, hc⟩⟩
theorem split_len {c : UInt8} : ∀ {s : List UInt8}, ∀ x ∈ splitL c s, x.length ≤ s.length
  | [], x, h => by simp [splitL] at h; simp [h]
  | y :: r, x, h => by
    have ih := split_len (c := c) (s := r)
    rw [splitL_cons] at h
    split at h
    · rcases List.mem_cons.1 h with rfl | h
      · simp
      · have := ih x h; simp; omega
    · split at h
      · simp at h; subst h; simp
      · rename_i p q hp
        rcases List.mem_cons.1 h with rfl | h
        · have := ih p (by rw [hp]; simp); simp; omega
        · have := ih x (by rw [hp]; simp [h]); simp; omega
def hdX : List (List UInt8) → Option Au
  | [p, q, r, s] => if p = bStates ∧ r = bLetters then (match und q, und s with | some n, some m => if 1 ≤ n ∧ n ≤ 300 then some ⟨n, m, [], List.replicate n.toNat false, []⟩ else none | _, _ => none) else none
  | _ => none
def wdX (w : List UInt8) : List (List UInt8) → Option (List Int)
  | [] => none
  | h :: r => if h = w then undL r else none
theorem hdX_no {l : List (List UInt8)} (h : l.length ≠ 4) : hdX l = none := by
  match l, h with
  | [], _ => rfl
  | [_], _ => rfl
  | [_, _], _ => rfl
  | [_, _, _], _ => rfl
  | [_, _, _, _], h => exact absurd rfl h
  | _ :: _ :: _ :: _ :: _ :: _, _ => rfl
set_option maxRecDepth 100000 in
set_option maxHeartbeats 8000000 in
theorem ReadAuto_ (s : List UInt8) (w : World) : Calls Tryd.prog 15 #[.string (sB s)] w (PaPost w (readA s)) := by
  have hb0 : Below w.heap.size w (w.alloc (Obj.cells #[.int .i64 0, .int .i64 0, .slice none 0 0, .slice none 0 0, .slice none 0 0] 26)) := (Below.refl _ _).alloc (Nat.le_refl _) _
  have hobj : (w.alloc (Obj.cells #[.int .i64 0, .int .i64 0, .slice none 0 0, .slice none 0 0, .slice none 0 0] 26)).heap[w.heap.size]? = some (.cells #[.int .i64 0, .int .i64 0, .slice none 0 0, .slice none 0 0, .slice none 0 0] 26 (0, 0)) := by
    show (w.heap.push _)[w.heap.size]? = _
    simp
  have hsz : (w.alloc (Obj.cells #[.int .i64 0, .int .i64 0, .slice none 0 0, .slice none 0 0, .slice none 0 0] 26)).heap.size = w.heap.size + 1 := by simp
  go_enter Tryd.func15, Tryd.ntmps15
  go_upto_region 1 with fail
  obtain ⟨R, hR⟩ : ∃ R, R = w.heap.size := ⟨_, rfl⟩
  rw [← hR] at hobj hb0 hsz ⊢
  have HRR := Lib.hid hR
  generalize w.alloc (Obj.cells #[.int .i64 0, .int .i64 0, .slice none 0 0, .slice none 0 0, .slice none 0 0] 26) = W0 at *
  have HZ : Hid (∀ W, Below W0.heap.size W0 W → W.heap[R]? = some (.cells #[.int .i64 0, .int .i64 0, .slice none 0 0, .slice none 0 0, .slice none 0 0] 26 (0, 0))) := fun W h => (h.block R (by omega)).trans hobj
  have HE : Hid (∀ W, Below W0.heap.size W0 W → ∀ v0 v1 v2 v3 v4, Below R w (set5 W R v0 v1 v2 v3 v4)) := fun W h v0 v1 v2 v3 v4 => below_set5 (Below_on hb0 h (by omega)) (Nat.le_refl _) _ _ _ _ _
  have HNUL : Hid (∀ W, Below W0.heap.size W0 W → ∀ (n : Nat) (e : Int), readA s = (nulA, n, e) → PaPost w (readA s) (.returned (.tuple #[zeroA, .int .i64 n, .int .i64 e])) (set5 W R (.int .i64 0) (.int .i64 0) (.slice none 0 0) (.slice none 0 0) (.slice none 0 0))) := fun W h n e hr => by
    rw [hr]
    exact ⟨none, none, none, 0, 0, 0, rfl, nul_rd _, by rw [← HRR.out]; exact HE.out _ h _ _ _ _ _⟩
  have HOW : Hid (∀ W, Below W0.heap.size W0 W → ∀ v0 v1 v2 v3 v4, (set5 W R v0 v1 v2 v3 v4).heap[R]? = some (.cells #[v0, v1, v2, v3, v4] 26 (0, 0))) := fun W h v0 v1 v2 v3 v4 => set5_heap (HZ.out W h) _ _ _ _ _
  have HSZ := Lib.hid hsz
  clear hR hb0 hobj hsz
  by_cases hlen : 100000 < s.length
  · as_aux_lemma =>
    have q1 : (100000 : Int) < ((sB s).size : Int) := by rw [sB_size]; omega
    have HR : Hid (PaPost w (readA s) (.returned (.tuple #[zeroA, .int .i64 0, .int .i64 2])) _) := HNUL.out W0 (Below.refl _ _) 0 2 (by unfold readA; rw [if_pos hlen])
    have HOO := Lib.hid (HOW.out W0 (Below.refl _ _) (.int .i64 0) (.int .i64 0) (.slice none 0 0) (.slice none 0 0) (.slice none 0 0))
    obtain ⟨c0, c1, c2, c3, c4, f0, f1, f2, f3, f4⟩ := obj5 (HZ.out W0 (Below.refl _ _))
    clear hlen
    go_wp2_with (guard_target =~ bodyPost _ _ _ _ _ _; exact bodyPost_ret (retPa Tryd.results15 _ _ R rfl rfl rfl HOO.out) rfl HR.out)
  · have q1 : ¬ (100000 : Int) < ((sB s).size : Int) := by rw [sB_size]; omega
    have HLE := Lib.hid hlen
    have HCU := Lib.hid (CutR_ s 10 W0 (by omega))
    have hsl : s.length ≤ 100000 := by omega
    have HLN : Hid ((splitL 10 s).length ≤ 100001) := by have := splitL_len 10 s; show _ ≤ _; omega
    have HLX : Hid (∀ x ∈ splitL 10 s, x.length ≤ 100000) := fun x hx => by have := split_len x hx; omega
    have HL0 : Hid (0 < (splitL 10 s).length) := List.length_pos_iff.2 (splitL_ne _ _)
    have HRN : Hid (∀ n, rdGo nulA 0 (splitL 10 s) = .inl n → readA s = (nulA, n, 1)) := fun n h => readA_no hlen h
    have HRO : Hid (∀ a, rdGo nulA 0 (splitL 10 s) = .inr a → readA s = if ckA a = 0 then (a, 0, 0) else (nulA, 0, ckA a)) := fun a h => readA_ok hlen h
    clear hlen
    generalize splitL 10 s = ls at *
    go_wp2_with fail
    refine HCU.out.mono ?_
    rintro e w1 ⟨v, rfl, hown, hb1⟩
    obtain ⟨LB, lc, rfl, hrd⟩ := StrRd.of_own hown (by have := HLN.out; omega)
    have HRD := Lib.hid hrd
    have HB1 := Lib.hid hb1
    have hP0 := PaM.new w1
    have hbz : Below w1.heap.size w1 (w1.alloc (Obj.cells #[.int .i64 0, .int .i64 0, .slice none 0 0, .slice none 0 0, .slice none 0 0] 26)) := (Below.refl _ _).alloc (Nat.le_refl _) _
    clear hown hrd hb1 q1 HCU
    go_upto_block 0 with fail
    obtain ⟨G, hG⟩ : ∃ G, G = w1.heap.size := ⟨_, rfl⟩
    rw [← hG] at hP0 ⊢
    have HG := Lib.hid hG
    have HP0 := Lib.hid hP0
    have HLS : Hid (∀ W, Below G w1 W → StrRd W LB lc ls) := fun W h => HRD.out.below (by rw [← HG.out]; exact h)
    have HUP : Hid (∀ W, Below G w1 W → Below W0.heap.size W0 W) := fun W h => HB1.out.trans (h.mono (by rw [hG]; exact HB1.out.size))
    clear hG hP0 hbz
    generalize w1.alloc (Obj.cells #[.int .i64 0, .int .i64 0, .slice none 0 0, .slice none 0 0, .slice none 0 0] 26) = W1 at *
    go_wp2_with fail
    go_loopw [7] (fun v7 wr => ∃ (k : Nat) (a : Au), v7 = .int .i64 (k : Int) ∧ k < ls.length ∧ a.ss.length ≤ k ∧ Hid (PaM w1 G a wr) ∧ Hid (Inv a k) ∧ Hid (rdGo nulA 0 ls = rdGo a k (ls.drop k))) (fun v7 _ => 100002 - (intOf v7).toNat)
    case atStart => exact ⟨0, nulA, rfl, HL0.out, by simp [nulA], HP0.out, rfl, rfl⟩
    case round =>
      obtain ⟨k, a, rfl, hk, hak, HP, HI, HG0⟩ := hrel
      have hnn := HLN.out
      have q1 : (k : Int) < (ls.length : Int) := by omega
      obtain ⟨lb, lo, rfl, hlb, y0⟩ := (HLS.out _ HP.out.below).at_ hk
      have q2 : IntKind.i64.wrap ((ls.length : Int) - 1) = (ls.length : Int) - 1 := IntWalk.i64_in _ (by omega)
      have hlc := (HLS.out _ HP.out.below).1
      have hlm := (HLS.out _ HP.out.below).2.1
      have hdr : ls.drop k = ls[k] :: ls.drop (k + 1) := List.drop_eq_getElem_cons hk
      have hxl := HLX.out _ (List.getElem_mem hk)
      obtain ⟨x, hx⟩ : ∃ x, x = ls[k] := ⟨_, rfl⟩
      rw [← hx] at y0 hdr hxl
      clear hx
      rw [hdr] at HG0
      clear hdr
      have hlast : ls.drop (k + 1) = [] ↔ ls.length ≤ k + 1 := by rw [List.drop_eq_nil_iff]
      by_cases hex : 3 ≤ k ∧ k + 1 = ls.length ∧ x = []
      · obtain ⟨h3, h1, rfl⟩ := hex
        have HGR : Hid (rdGo nulA 0 ls = .inr a) := HG0.out.trans (by rw [hlast.2 (by omega)]; exact if_pos ⟨h3, rfl⟩)
        have HRR2 := Lib.hid (HRO.out _ HGR.out)
        obtain ⟨A, B, C, ca, cb, cc, ho, hrd⟩ := HP.out.rd
        have HRD2 := Lib.hid hrd
        have HO := Lib.hid ho
        have HCK := Lib.hid (CheckAuto_ a A B C ca cb cc wr (HRD2.out.low (Nat.zero_le _)))
        have e3 : (3 : Int) ≤ (k : Int) := by omega
        have e4 : ((k : Int) == (ls.length : Int) - 1) = true := by simp; omega
        have e5 : (sB []).toList.isEmpty = true := by rw [sB_empty]; rfl
        obtain ⟨c0, c1, c2, c3, c4, f0, f1, f2, f3, f4⟩ := obj5 ho
        as_aux_lemma =>
        clear hrd ho HG0 HGR hlast h3 h1
        go_wp2_with fail
        refine HCK.out.mono ?_
        rintro e w2 ⟨rfl, hb2⟩
        have HB2 := Lib.hid (HUP.out _ (Below_on HP.out.below hb2 (Nat.le_of_lt HP.out.lt)))
        have hGl := HP.out.lt
        have hRG : R < G := by have := HSZ.out; have := HB1.out.size; have := HG.out; omega
        clear c0 c1 c2 c3 c4 f0 f1 f2 f3 f4 y0
        by_cases hck : ckA a = 0
        · as_aux_lemma =>
          have hck1 : (ckA a != 0) = false := by simp [hck]
          obtain ⟨c0, c1, c2, c3, c4, f0, f1, f2, f3, f4⟩ := obj5 ((hb2.block G hGl).trans HO.out)
          obtain ⟨d0, d1, d2, d3, d4, g0, g1, g2, g3, g4⟩ := obj5 (HZ.out w2 HB2.out)
          have HR : Hid (PaPost w (readA s) (.returned (.tuple #[.agg #[.int .i64 a.st, .int .i64 a.le, .slice A a.fs.length ca, .slice B a.gs.length cb, .slice C a.ss.length cc], .int .i64 0, .int .i64 (ckA a)])) (set5 w2 R (.int .i64 a.st) (.int .i64 a.le) (.slice A a.fs.length ca) (.slice B a.gs.length cb) (.slice C a.ss.length cc))) := by
            rw [HRR2.out, if_pos hck, hck]
            exact ⟨A, B, C, ca, cb, cc, rfl, ((HRD2.out.below hb2).set5_ (by omega) _ _ _ _ _).low (Nat.zero_le _), by rw [← HRR.out]; exact HE.out _ HB2.out _ _ _ _ _⟩
          have HOO := Lib.hid (HOW.out w2 HB2.out (.int .i64 a.st) (.int .i64 a.le) (.slice A a.fs.length ca) (.slice B a.gs.length cb) (.slice C a.ss.length cc))
          clear hb2 hck
          generalize ckA a = ck at *
          go_wp2_with (guard_target =~ bodyPost _ _ _ _ _ _; exact bodyPost_ret (retPa Tryd.results15 _ _ R rfl rfl rfl HOO.out) rfl HR.out)
        · as_aux_lemma =>
          have hck1 : (ckA a != 0) = true := by simp [hck]
          obtain ⟨d0, d1, d2, d3, d4, g0, g1, g2, g3, g4⟩ := obj5 (HZ.out w2 HB2.out)
          have HR : Hid (PaPost w (readA s) (.returned (.tuple #[zeroA, .int .i64 0, .int .i64 (ckA a)])) _) := HNUL.out w2 HB2.out 0 (ckA a) (by rw [HRR2.out, if_neg hck])
          have HOO := Lib.hid (HOW.out w2 HB2.out (.int .i64 0) (.int .i64 0) (.slice none 0 0) (.slice none 0 0) (.slice none 0 0))
          clear hb2 hck
          generalize ckA a = ck at *
          go_wp2_with (guard_target =~ bodyPost _ _ _ _ _ _; exact bodyPost_ret (retPa Tryd.results15 _ _ R rfl rfl rfl HOO.out) rfl HR.out)
      · have HEX := Lib.hid hex
        clear hex
        have HCX := Lib.hid (fun W => CutR_ x 32 W (by omega))
        go_upto_region 8 with fail
        go_cut [49] (fun v49 wc => v49 = .bool false ∧ wc = wr)
        case first =>
          by_cases h3 : 3 ≤ k
          · have e3 : (3 : Int) ≤ (k : Int) := by omega
            by_cases h1 : k + 1 = ls.length
            · have e4 : ((k : Int) == (ls.length : Int) - 1) = true := by simp; omega
              have e5 : (sB x).toList.isEmpty = false := by
                rw [sB_empty]
                have : x ≠ [] := fun e => HEX.out ⟨h3, h1, e⟩
                cases x with
                | nil => exact absurd rfl this
                | cons y r => rfl
              clear h1 h3
              go_wp2_with (guard_target =~ Met _ _ _; go_meet; exact ⟨rfl, rfl⟩)
            · have e4 : ((k : Int) == (ls.length : Int) - 1) = false := by simp; omega
              clear h1 h3
              go_wp2_with (guard_target =~ Met _ _ _; go_meet; exact ⟨rfl, rfl⟩)
          · have e3 : ¬ (3 : Int) ≤ (k : Int) := by omega
            clear h3
            go_wp2_with (guard_target =~ Met _ _ _; go_meet; exact ⟨rfl, rfl⟩)
        case rest =>
          obtain ⟨rfl, rfl⟩ := hcut
          obtain ⟨b, hb⟩ : ∃ b, b = decide ((k : Int) < (ls.length : Int) - 1) := ⟨_, rfl⟩
          have HB : Hid (b = decide (ls.drop (k + 1) ≠ [])) := by
            show _ = _
            rw [hb]
            apply decide_eq_decide.2
            rw [ne_eq, hlast]
            omega
          go_wp2_with fail
          refine (HCX.out _).mono ?_
          rintro e w2 ⟨v, rfl, hown, hb2⟩
          obtain ⟨XB, xc, rfl, hrd⟩ := StrRd.of_own hown (by have := splitL_len 32 x; omega)
          have HP2 := Lib.hid (HP.out.on hb2)
          have HXR := Lib.hid hrd
          have HXN : Hid ((splitL 32 x).length ≤ 100001) := by have := splitL_len 32 x; show _ ≤ _; omega
          have HXX : Hid (∀ y ∈ splitL 32 x, y.length ≤ 100000) := fun y hy => by have := split_len y hy; omega
          have HX0 : Hid (0 < (splitL 32 x).length) := List.length_pos_iff.2 (splitL_ne _ _)
          clear hown hrd hb2 y0 hlb HCX
          go_upto_block 2 with fail
          rw [← hb]
          clear hb q1 q2
          have HG1 := Lib.hid HG0
          clear HG0 HP
          obtain ⟨XL, hXL⟩ : ∃ XL, XL = splitL 32 x := ⟨_, rfl⟩
          rw [← hXL] at HXR HXN HXX HX0 ⊢
          have HXL := Lib.hid hXL
          clear hXL
          go_cut [9] (fun s9 wc => ∃ b', s9 = .bool b' ∧ Hid (RdRel w1 G (if b = true then rdLine a k x else none) b' wc))
          case first =>
            have hxn := HXN.out
            have hx0 := HX0.out
            have hxc := HXR.out.1
            have hxm := HXR.out.2.1
            have HF : Hid (∀ W, Below w2.heap.size w2 W → RdRel w1 G none false W) := fun W hW => ⟨Below_on HP2.out.below hW (Nat.le_of_lt HP2.out.lt), rfl⟩
            by_cases hk0 : k = 0
            · as_aux_lemma =>
              have k0 : ((k : Int) == 0) = true := by simp; omega
              have HRL : Hid (rdLine a k x = hdX XL) := by
                subst hk0
                show hdOf x = _
                rw [HXL.out]
                rfl
              have HAK : Hid (a = nulA) := by subst hk0; exact HI.out
              clear hk0
              cases b with
              | false =>
                go_wp2_with (guard_target =~ Met _ _ _; go_meet; exact ⟨false, rfl, HF.out _ (Below.refl _ _)⟩)
              | true =>
                by_cases h4 : XL.length = 4
                · obtain ⟨p, q, r, t, rfl⟩ : ∃ p q r t, XL = [p, q, r, t] := by
                    match XL, h4 with
                    | [p, q, r, t], _ => exact ⟨p, q, r, t, rfl⟩
                  obtain ⟨xb, xo, rfl, hxb, z0⟩ := HXR.out.at_ (k := 0) (by simp)
                  obtain ⟨xb', xo', hx1, _, z1⟩ := HXR.out.at_ (k := 1) (by simp)
                  obtain ⟨rfl, rfl⟩ : xb = xb' ∧ xo = xo' := by simpa using hx1
                  obtain ⟨xb', xo', hx2, _, z2⟩ := HXR.out.at_ (k := 2) (by simp)
                  obtain ⟨rfl, rfl⟩ : xb = xb' ∧ xo = xo' := by simpa using hx2
                  obtain ⟨xb', xo', hx3, _, z3⟩ := HXR.out.at_ (k := 3) (by simp)
                  obtain ⟨rfl, rfl⟩ : xb = xb' ∧ xo = xo' := by simpa using hx3
                  simp only [List.getElem_cons_zero, List.getElem_cons_succ, Nat.add_zero] at z0 z1 z2 z3
                  clear hx1 hx2 hx3 h4
                  simp only [List.length_cons, List.length_nil, Nat.zero_add, Nat.reduceAdd] at hxc hxn ⊢
                  have t0 := sB_toList p
                  have t2 := sB_toList r
                  by_cases hp : p = [115, 116, 97, 116, 101, 115]
                  · by_cases hr : r = [108, 101, 116, 116, 101, 114, 115]
                    · as_aux_lemma =>
                      have HRL2 : Hid (rdLine a k x = match und q, und t with | some n, some m => if 1 ≤ n ∧ n ≤ 300 then some ⟨n, m, [], List.replicate n.toNat false, []⟩ else none | _, _ => none) := HRL.out.trans (if_pos ⟨hp, hr⟩)
                      have hr1 : (r == [108, 101, 116, 116, 101, 114, 115]) = true := by simp [hr]
                      have hp1 : (p == [115, 116, 97, 116, 101, 115]) = true := by simp [hp]
                      have HU1 := Lib.hid (Undigit_ q w2 (Nat.le_trans (HXX.out q (by simp)) (by decide)))
                      have HU2 := Lib.hid (fun W => Undigit_ t W (Nat.le_trans (HXX.out t (by simp)) (by decide)))
                      have HXB := Lib.hid hxb
                      clear hp hr hxb
                      go_wp2_with fail
                      refine HU1.out.mono ?_
                      rintro e w3 ⟨v1, b1, rfl, hb3, hm1⟩
                      dsimp only
                      have HM1 := Lib.hid hm1
                      have HB3 := Lib.hid hb3
                      have z3' := (hb3.cell (p := ⟨xb, xo + 3, none⟩) HXB.out).trans z3
                      clear z0 z1 z2 z3 hb3 hm1 HU1 t0 t2 hp1 hr1
                      go_wp2_with fail
                      refine (HU2.out _).mono ?_
                      rintro e w4 ⟨v2, b2, rfl, hb4, hm2⟩
                      dsimp only
                      have HM2 := Lib.hid hm2
                      have HBW := Lib.hid (Below_on HB3.out hb4 HB3.out.size)
                      clear z3' hb4 hm2 HU2
                      cases b1 with
                      | false =>
                        have HN : Hid (rdLine a k x = none) := by
                          show _ = _
                          rw [HRL2.out]
                          have h1 := HM1.out
                          cases hu : und q with
                          | none => rfl
                          | some n => rw [hu] at h1; cases h1.2
                        go_wp2_with (guard_target =~ Met _ _ _; go_meet; exact ⟨false, rfl, by show RdRel _ _ _ _ _; rw [if_pos rfl, HN.out]; exact HF.out _ HBW.out⟩)
                      | true =>
                        cases b2 with
                        | false =>
                          have HN : Hid (rdLine a k x = none) := by
                            show _ = _
                            rw [HRL2.out]
                            have h1 := HM2.out
                            cases hu : und t with
                            | none => cases und q <;> rfl
                            | some n => rw [hu] at h1; cases h1.2
                          go_wp2_with (guard_target =~ Met _ _ _; go_meet; exact ⟨false, rfl, by show RdRel _ _ _ _ _; rw [if_pos rfl, HN.out]; exact HF.out _ HBW.out⟩)
                        | true =>
                          have hu1 : und q = some v1 := by
                            have h1 := HM1.out
                            cases hu : und q with
                            | none => rw [hu] at h1; cases h1
                            | some n => rw [hu] at h1; rw [h1.1]
                          have hu2 : und t = some v2 := by
                            have h1 := HM2.out
                            cases hu : und t with
                            | none => rw [hu] at h1; cases h1
                            | some n => rw [hu] at h1; rw [h1.1]
                          have HRL3 : Hid (rdLine a k x = if 1 ≤ v1 ∧ v1 ≤ 300 then some ⟨v1, v2, [], List.replicate v1.toNat false, []⟩ else none) := by
                            show _ = _
                            rw [HRL2.out, hu1, hu2]
                          have HBT := Lib.hid (between_ v1 1 300 w4)
                          clear hu1 hu2 HRL2
                          by_cases hv : 1 ≤ v1 ∧ v1 ≤ 300
                          · have hbt : btw v1 1 300 = true := (btw_iff _ _ _).2 hv
                            rw [hbt] at HBT
                            obtain ⟨N, rfl⟩ := Int.eq_ofNat_of_zero_le (show 0 ≤ v1 by omega)
                            have hN : N ≤ 300 := by omega
                            have hmk := run_makeBools (N : Int) N rfl (by omega)
                            have HR4 : Hid (rdLine a k x = some ⟨N, v2, [], List.replicate N false, []⟩) := HRL3.out.trans (if_pos hv)
                            have HAL : Hid (Below w4.heap.size w4 (w4.alloc (Obj.cells (madeCells #[Value.bool false] N) 4))) := (Below.refl _ _).alloc (Nat.le_refl _) _
                            have HBW5 := Lib.hid (Below_on HBW.out HAL.out HBW.out.size)
                            have HPM : Hid (PaM w1 G ⟨N, v2, [], List.replicate N false, []⟩ (set5 (w4.alloc (Obj.cells (madeCells #[Value.bool false] N) 4)) G (.int .i64 N) (.int .i64 v2) (.slice none 0 0) (.slice (some ⟨w4.heap.size, 0, none⟩) N N) (.slice none 0 0))) := by
                              have := HP2.out.head (a' := ⟨N, v2, [], List.replicate N false, []⟩) HBW5.out HBW.out.size (BRow.new w4 N) rfl rfl (by simpa using hN)
                              exact (by simpa using this : PaM _ _ _ _)
                            obtain ⟨A, ca, gv, sv, ho⟩ := (HP2.out.on HBW5.out).cells
                            obtain ⟨c0, c1, c2, c3, c4, f0, f1, f2, f3, f4⟩ := obj5 ho
                            clear ho hv hbt HRL3
                            go_wp2_with fail
                            refine HBT.out.mono ?_
                            rintro e w5 ⟨rfl, rfl⟩
                            dsimp only
                            go_wp2_with (guard_target =~ Met _ _ _; go_meet; exact ⟨true, rfl, by show RdRel _ _ _ _ _; rw [if_pos rfl, HR4.out]; exact ⟨HPM.out.below, rfl, HPM.out⟩⟩)
                          · have hbt : btw v1 1 300 = false := by
                              cases h : btw v1 1 300 with
                              | false => rfl
                              | true => exact absurd ((btw_iff _ _ _).1 h) hv
                            rw [hbt] at HBT
                            have HN : Hid (rdLine a k x = none) := HRL3.out.trans (if_neg hv)
                            clear hv hbt HRL3
                            go_wp2_with fail
                            refine HBT.out.mono ?_
                            rintro e w5 ⟨rfl, rfl⟩
                            dsimp only
                            go_wp2_with (guard_target =~ Met _ _ _; go_meet; exact ⟨false, rfl, by show RdRel _ _ _ _ _; rw [if_pos rfl, HN.out]; exact HF.out _ HBW.out⟩)
                    · have hr1 : (r == [108, 101, 116, 116, 101, 114, 115]) = false := by simp [hr]
                      have HN : Hid (rdLine a k x = none) := by show _ = _; rw [HRL.out]; exact if_neg fun h => hr h.2
                      have hp1 : (p == [115, 116, 97, 116, 101, 115]) = true := by simp [hp]
                      clear hp hr
                      go_wp2_with (guard_target =~ Met _ _ _; go_meet; exact ⟨false, rfl, by show RdRel _ _ _ _ _; rw [if_pos rfl, HN.out]; exact HF.out _ (Below.refl _ _)⟩)
                  · have hp1 : (p == [115, 116, 97, 116, 101, 115]) = false := by simp [hp]
                    have HN : Hid (rdLine a k x = none) := by show _ = _; rw [HRL.out]; exact if_neg fun h => hp h.1
                    clear hp
                    go_wp2_with (guard_target =~ Met _ _ _; go_meet; exact ⟨false, rfl, by show RdRel _ _ _ _ _; rw [if_pos rfl, HN.out]; exact HF.out _ (Below.refl _ _)⟩)
                · have h4' : ((XL.length : Int) == 4) = false := by simp; omega
                  have hN : rdLine a k x = none := by
                    rw [HRL.out]
                    exact hdX_no h4
                  have HN := Lib.hid hN
                  clear hN h4
                  go_wp2_with (guard_target =~ Met _ _ _; go_meet; exact ⟨false, rfl, by show RdRel _ _ _ _ _; rw [if_pos rfl, HN.out]; exact HF.out _ (Below.refl _ _)⟩)
            · by_cases hk1 : k = 1
              · as_aux_lemma =>
                have k0 : ((k : Int) == 0) = false := by simp; omega
                have k1 : ((k : Int) == 1) = true := by simp; omega
                have HIN : Hid (a.ss = []) := by subst hk1; exact HI.out.2.2
                have HRL : Hid (rdLine a k x = (wdX bFirst XL).map fun l => { a with fs := l }) := by
                  subst hk1
                  show (wordN bFirst x).map _ = _
                  rw [HXL.out]
                  rfl
                obtain ⟨h, r, hhr⟩ : ∃ h r, XL = h :: r := by
                  cases XL with
                  | nil => simp at hx0
                  | cons h r => exact ⟨h, r, rfl⟩
                have HU : Hid (Calls Tryd.prog 36 #[.slice XB XL.length xc, .int .i64 1] w2 (UlPost w2 r)) := by
                  have := Undigits_ XL XB xc 1 w2 HXR.out hx0 (by omega) (fun y hy => Nat.le_trans (HXX.out y hy) (by decide))
                  rwa [hhr] at this ⊢
                obtain ⟨xb, xo, rfl, hxb, z0⟩ := HXR.out.at_ (k := 0) hx0
                have hh0 : XL[0]'hx0 = h := by simp [hhr]
                rw [hh0] at z0
                have HW : Hid (wdX bFirst XL = if h = bFirst then undL r else none) := by show _ = _; rw [hhr]; rfl
                have HXB := Lib.hid hxb
                have t0 := sB_toList h
                simp only [Nat.add_zero] at z0
                clear hk0 hk1 hh0 hhr hxb
                go_wp2_with fail
                refine HU.out.mono ?_
                rintro e w3 ⟨A1, c1', ns, b2, rfl, hi, hb3, hm⟩
                dsimp only
                have HM := Lib.hid hm
                have HII := Lib.hid hi
                have HB3 := Lib.hid hb3
                have HP3 := Lib.hid (HP2.out.on hb3)
                have z0' := (hb3.cell (p := ⟨xb, xo, none⟩) HXB.out).trans z0
                obtain ⟨A, ca, gv, sv, ho⟩ := HP3.out.cells
                obtain ⟨c0, c1, c2, c3, c4, f0, f1, f2, f3, f4⟩ := obj5 ho
                have HFF : Hid (∀ v, RdRel w1 G none false (w3.setCell ⟨G, 2, none⟩ v)) := fun v => ⟨HP3.out.below.setCell (p := ⟨G, 2, none⟩) (Nat.le_refl _) v, rfl⟩
                clear z0 hi hb3 hm HU ho
                cases b with
                | false =>
                  go_wp2_with (guard_target =~ Met _ _ _; go_meet; exact ⟨false, rfl, HFF.out _⟩)
                | true =>
                  by_cases hh : h = [102, 105, 114, 115, 116]
                  · have h1 : (h == [102, 105, 114, 115, 116]) = true := by simp [hh]
                    have HR2 : Hid (rdLine a k x = (undL r).map fun l => { a with fs := l }) := by show _ = _; rw [HRL.out, HW.out, if_pos (show h = bFirst from hh)]
                    clear hh
                    cases b2 with
                    | false =>
                      have HN : Hid (rdLine a k x = none) := by
                        show _ = _
                        rw [HR2.out]
                        have h2 := HM.out
                        cases hu : undL r with
                        | none => rfl
                        | some n => rw [hu] at h2; cases h2.2
                      go_wp2_with (guard_target =~ Met _ _ _; go_meet; exact ⟨false, rfl, by show RdRel _ _ _ _ _; rw [if_pos rfl, HN.out]; exact HFF.out _⟩)
                    | true =>
                      have HS : Hid (rdLine a k x = some { a with fs := ns }) := by
                        show _ = _
                        rw [HR2.out]
                        have h2 := HM.out
                        cases hu : undL r with
                        | none => rw [hu] at h2; cases h2
                        | some n => rw [hu] at h2; rw [h2.1]; rfl
                      go_wp2_with (guard_target =~ Met _ _ _; go_meet; exact ⟨true, rfl, by show RdRel _ _ _ _ _; rw [if_pos rfl, HS.out]; exact ⟨HP3.out.below.setCell (p := ⟨G, 2, none⟩) (Nat.le_refl _) _, rfl, HP2.out.first HIN.out HB3.out HII.out⟩⟩)
                  · have h1 : (h == [102, 105, 114, 115, 116]) = false := by simp [hh]
                    have HN : Hid (rdLine a k x = none) := by show _ = _; rw [HRL.out, HW.out, if_neg (show ¬ h = bFirst from hh)]; rfl
                    clear hh
                    go_wp2_with (guard_target =~ Met _ _ _; go_meet; exact ⟨false, rfl, by show RdRel _ _ _ _ _; rw [if_pos rfl, HN.out]; exact HFF.out _⟩)
              · by_cases hk2 : k = 2
                · as_aux_lemma =>
                  have k0 : ((k : Int) == 0) = false := by simp; omega
                  have k1 : ((k : Int) == 1) = false := by simp; omega
                  have k2 : ((k : Int) == 2) = true := by simp; omega
                  have HIN : Hid (1 ≤ a.st ∧ (a.gs.length : Int) = a.st) := by
                    subst hk2
                    obtain ⟨i1, i2, _⟩ : 1 ≤ a.st ∧ a.gs = List.replicate a.st.toNat false ∧ a.ss = [] := HI.out
                    refine ⟨i1, ?_⟩
                    rw [i2, List.length_replicate]; omega
                  have HWN : Hid (wordN bGood x = wdX bGood XL) := by show _ = _; rw [HXL.out]; rfl
                  have HRL : Hid (rdLine a k x = match wordN bGood x with | none => none | some l => (goodsOf a.st a.gs (-1) l).map fun g => { a with gs := g }) := by
                    subst hk2
                    rfl
                  obtain ⟨h, r, hhr⟩ : ∃ h r, XL = h :: r := by
                    cases XL with
                    | nil => simp at hx0
                    | cons h r => exact ⟨h, r, rfl⟩
                  have HU : Hid (Calls Tryd.prog 36 #[.slice XB XL.length xc, .int .i64 1] w2 (UlPost w2 r)) := by
                    have := Undigits_ XL XB xc 1 w2 HXR.out hx0 (by omega) (fun y hy => Nat.le_trans (HXX.out y hy) (by decide))
                    rwa [hhr] at this ⊢
                  obtain ⟨xb, xo, rfl, hxb, z0⟩ := HXR.out.at_ (k := 0) hx0
                  have hh0 : XL[0]'hx0 = h := by simp [hhr]
                  rw [hh0] at z0
                  have HW : Hid (wdX bGood XL = if h = bGood then undL r else none) := by show _ = _; rw [hhr]; rfl
                  have HXB := Lib.hid hxb
                  have t0 := sB_toList h
                  simp only [Nat.add_zero] at z0
                  clear hk0 hk1 hk2 hh0 hhr hxb
                  go_wp2_with fail
                  refine HU.out.mono ?_
                  rintro e w3 ⟨A1, c1', ns, b2, rfl, hi, hb3, hm⟩
                  dsimp only
                  have HM := Lib.hid hm
                  have HII := Lib.hid hi
                  have HB3 := Lib.hid hb3
                  have HP3 := Lib.hid (HP2.out.on hb3)
                  have z0' := (hb3.cell (p := ⟨xb, xo, none⟩) HXB.out).trans z0
                  obtain ⟨ok0, hok0⟩ : ∃ o, o = (b && (decide (h = bGood)) && b2) := ⟨_, rfl⟩
                  have HOK1 : Hid (ok0 = true → b = true ∧ wordN bGood x = some ns) := fun ho => by
                    rw [hok0] at ho
                    simp only [Bool.and_eq_true, decide_eq_true_eq] at ho
                    refine ⟨ho.1.1, ?_⟩
                    rw [HWN.out, HW.out, if_pos ho.1.2]
                    have h2 := HM.out
                    cases hu : undL r with
                    | none => rw [hu] at h2; rw [h2] at ho; cases ho.2
                    | some n => rw [hu] at h2; rw [h2.1]
                  have HOK0 : Hid (ok0 = false → (if b = true then rdLine a k x else none) = none) := fun ho => by
                    cases b with
                    | false => rfl
                    | true =>
                      rw [if_pos rfl, HRL.out, HWN.out, HW.out]
                      by_cases hh : h = bGood
                      · rw [if_pos hh]
                        have h2 := HM.out
                        cases hu : undL r with
                        | none => rfl
                        | some n => rw [hu] at h2; rw [hok0, h2.2, decide_eq_true hh] at ho; cases ho
                      · rw [if_neg hh]
                  clear z0 hi hb3 hm HU
                  go_upto_region 30 with fail
                  go_cut [9] (fun v9 wc => v9 = .bool ok0 ∧ wc = w3)
                  case first =>
                    by_cases hh : h = [103, 111, 111, 100]
                    · have h1 : (h == [103, 111, 111, 100]) = true := by simp [hh]
                      rw [decide_eq_true (show h = bGood from hh)] at hok0
                      clear hh
                      cases b <;> cases b2
                      all_goals
                        obtain rfl : ok0 = _ := hok0
                        go_wp2_with (guard_target =~ Met _ _ _; go_meet; exact ⟨rfl, rfl⟩)
                    · have h1 : (h == [103, 111, 111, 100]) = false := by simp [hh]
                      rw [decide_eq_false (show ¬ h = bGood from hh)] at hok0
                      clear hh
                      cases b <;> cases b2
                      all_goals
                        obtain rfl : ok0 = _ := hok0
                        go_wp2_with (guard_target =~ Met _ _ _; go_meet; exact ⟨rfl, rfl⟩)
                  case rest =>
                    obtain ⟨rfl, rfl⟩ := hcut
                    clear hok0 z0' t0
                    obtain ⟨A, ca, gv, sv, base, o1, o2, o3, o4, o5, o6, o7, o8⟩ := HP3.out.obj
                    obtain ⟨g, rfl, hGg, hgb, hrow⟩ : ∃ g, gv = .slice (some ⟨g, 0, none⟩) a.gs.length a.gs.length ∧ G < g ∧ g < base ∧ BRow wc g a.gs := by
                      rcases o6 with ⟨_, h⟩ | h
                      · have := HIN.out; rw [h] at this; simp at this; omega
                      · exact h
                    have HO1 := Lib.hid o1
                    have HRW := Lib.hid hrow
                    have HGG := Lib.hid hGg
                    have hgl := HP3.out.gl
                    have hst := HIN.out.2
                    have HNN : Hid (ok0 = true → ∀ y ∈ ns, 0 ≤ y) := fun ho y hy => ((wordN_some (HOK1.out ho).2).2 y hy).1
                    have HEND : Hid (∀ (okb : Bool) (wr : World) (xs : List Bool), wc.grownBy wr (some g) → (okb = true → ok0 = true ∧ goodsOf a.st a.gs (-1) ns = some xs ∧ BRow wr g xs) → (okb = false → (if b = true then rdLine a k x else none) = none) → RdRel w1 G (if b = true then rdLine a k x else none) okb wr) := fun okb wr xs hgr ht hf => by
                      have hbel : Below G w1 wr := HP3.out.below.grown hgr (Nat.le_of_lt HP3.out.lt) (fun k hk => by have := HGG.out; simp at hk; omega)
                      cases okb with
                      | false => rw [hf rfl]; exact ⟨hbel, rfl⟩
                      | true =>
                        obtain ⟨h1, h2, h3⟩ := ht rfl
                        obtain ⟨rfl, h4⟩ := HOK1.out h1
                        rw [if_pos rfl, HRL.out, h4]
                        simp only [h2, Option.map_some]
                        exact ⟨hbel, rfl, HP3.out.good HGG.out hgr h3 (goodsOf_len h2) ⟨_, _, _, HO1.out⟩ HRW.out⟩
                    have HFAIL : Hid (ok0 = true → goodsOf a.st a.gs (-1) ns = none → (if b = true then rdLine a k x else none) = none) := fun ho hg => by
                      obtain ⟨rfl, h4⟩ := HOK1.out ho
                      rw [if_pos rfl, HRL.out, h4]
                      simp only [hg, Option.map_none]
                    clear o1 o2 o3 o4 o5 o6 o7 o8 hrow hgb HM HW HWN
                    have hil := HII.out.le
                    have hic := HII.out.cap
                    go_wp2_with fail
                    go_loopw [9, 18] (fun v9 v18 wr => ∃ (kk : Nat) (okb : Bool), v9 = .bool okb ∧ v18 = .int .i64 (kk : Int) ∧ kk ≤ ns.length ∧ Hid (wc.grownBy wr (some g)) ∧ Hid (okb = true → ok0 = true ∧ ∃ xs, goodsOf a.st a.gs (-1) (ns.take kk) = some xs ∧ BRow wr g xs) ∧ Hid (okb = false → (if b = true then rdLine a k x else none) = none)) (fun _ v18 _ => ns.length - (intOf v18).toNat)
                    case atStart => exact ⟨0, ok0, rfl, rfl, Nat.zero_le _, World.grownBy.refl _ _, fun h => ⟨h, a.gs, rfl, HRW.out⟩, HOK0.out⟩
                    case round =>
                      obtain ⟨kk, okb, rfl, rfl, hkk, HGR, HT, HFF⟩ := hrel
                      by_cases hkl : kk < ns.length
                      · have q1 : (kk : Int) < (ns.length : Int) := by omega
                        cases okb with
                        | false =>
                          have HR := Lib.hid (HEND.out false wr [] HGR.out (fun h => by cases h) HFF.out)
                          go_wp2_with (guard_target =~ Met _ _ _; go_meet; exact ⟨false, rfl, HR.out⟩)
                        | true =>
                          obtain ⟨ho, xs, HS0, HB0⟩ := HT.out rfl
                          have HO0 := Lib.hid ho
                          have HBB := Lib.hid HB0
                          have hxl : xs.length = a.gs.length := goodsOf_len HS0
                          obtain ⟨nb, no, rfl, _, _, y0⟩ := Ints.at_ (Ints.grown_bool HII.out HRW.out HGR.out) hkl
                          have HTK := Lib.hid (goodsOf_take (n := ns[kk]) HS0 hkl rfl)
                          have hn0 := HNN.out ho _ (List.getElem_mem hkl)
                          obtain ⟨y, hy⟩ : ∃ y, y = ns[kk] := ⟨_, rfl⟩
                          rw [← hy] at y0 HTK hn0
                          obtain ⟨y, rfl⟩ := Int.eq_ofNat_of_zero_le hn0
                          obtain ⟨c0, _, _, c3, _, _, _, _, f3, _⟩ := obj5 ((HGR.out.block G HP3.out.lt (fun e => by have := HGG.out; simp at e; omega)).trans HO1.out)
                          have HX := Lib.hid hkl
                          clear hn0 hy HT HS0 HB0 ho
                          by_cases h1 : (y : Int) < a.st
                          · by_cases hkz : kk = 0
                            · subst hkz
                              have hd : decide ((y : Int) < a.st) = true := by simpa using h1
                              have HS2 : Hid (goodsOf a.st a.gs (-1) (ns.take 1) = some (xs.set y true)) := by
                                have := HTK.out
                                rw [if_pos ⟨by rw [if_pos rfl]; omega, h1⟩] at this
                                exact this
                              have hyg : y < a.gs.length := by omega
                              simp only [Nat.add_zero] at y0
                              clear HTK
                              as_aux_lemma =>
                              go_wp2_with fail
                              go_quiet (fail)
                              have HG2 := Lib.hid (grown_grown HGR.out (show wr.grownBy (wr.drewN nq) (some g) from ⟨rfl, rfl, rfl, Nat.le_refl _, fun _ _ _ => rfl⟩))
                              have HB2 : Hid (BRow (wr.drewN nq) g xs) := HBB.out
                              have y0w : (wr.drewN nq).cell? ⟨nb, no, none⟩ = some (.int .i64 (y : Int)) := y0
                              have c3w : (wr.drewN nq).cell? ⟨G, 3, none⟩ = some (.slice (some ⟨g, 0, none⟩) a.gs.length a.gs.length) := c3
                              clear y0 c0 c3 f3 hd
                              generalize wr.drewN nq = wq at *
                              obtain ⟨z1, z2⟩ := HB2.out.getD_ (i := y) (by omega) false
                              have HB3 := Lib.hid (show BRow (wq.drew.setCell ⟨g, y, none⟩ (.bool true)) g (xs.set y true) from (show BRow wq.drew g xs from HB2.out).set_ y true)
                              have HG3 := Lib.hid (grown_grown (grown_grown HG2.out (show wq.grownBy wq.drew (some g) from ⟨rfl, rfl, rfl, Nat.le_refl _, fun _ _ _ => rfl⟩)) (grown_set wq.drew g y (.bool true)))
                              have hygi : (y : Int) < (a.gs.length : Int) := by omega
                              go_wp2_with fail
                              go_region
                              all_goals
                                go_wp2_with fail
                                go_roundw
                                case rel => exact ⟨0 + 1, true, rfl, by go_num, HX.out, HG3.out, fun _ => ⟨HO0.out, _, HS2.out, HB3.out⟩, fun h => (by cases h)⟩
                                case measure => simp [intOf]; have := HX.out; omega
                            · have hk1 : 1 ≤ kk := by omega
                              obtain ⟨nb2, no2, he, _, _, y1⟩ := Ints.at_ (Ints.grown_bool HII.out HRW.out HGR.out) (k := kk - 1) (by omega)
                              obtain ⟨rfl, rfl⟩ : nb = nb2 ∧ no = no2 := by simpa using he
                              have hgd : ns.getD (kk - 1) 0 = ns[kk - 1]'(by omega) := by rw [List.getD_eq_getElem?_getD, List.getElem?_eq_getElem]; rfl
                              obtain ⟨z, hz⟩ : ∃ z, z = ns[kk - 1]'(by omega) := ⟨_, rfl⟩
                              rw [← hz] at y1 hgd
                              rw [if_neg hkz, hgd] at HTK
                              have hk9 : ((kk : Int) == 0) = false := by simp; omega
                              have hd : decide ((y : Int) < a.st) = true := by simpa using h1
                              clear hz hgd he hkz
                              by_cases h2 : z < (y : Int)
                              · have hd2 : decide ((y : Int) > z) = true := by simpa using h2
                                have HS2 : Hid (goodsOf a.st a.gs (-1) (ns.take (kk + 1)) = some (xs.set y true)) := by
                                  have := HTK.out
                                  rw [if_pos ⟨h2, h1⟩] at this
                                  exact this
                                have hyg : y < a.gs.length := by omega
                                clear HTK
                                as_aux_lemma =>
                                go_wp2_with fail
                                go_quiet (fail)
                                have HG2 := Lib.hid (grown_grown HGR.out (show wr.grownBy (wr.drewN nq) (some g) from ⟨rfl, rfl, rfl, Nat.le_refl _, fun _ _ _ => rfl⟩))
                                have HB2 : Hid (BRow (wr.drewN nq) g xs) := HBB.out
                                have y0w : (wr.drewN nq).cell? ⟨nb, no + kk, none⟩ = some (.int .i64 (y : Int)) := y0
                                have c3w : (wr.drewN nq).cell? ⟨G, 3, none⟩ = some (.slice (some ⟨g, 0, none⟩) a.gs.length a.gs.length) := c3
                                clear y0 c0 c3 f3 hd
                                generalize wr.drewN nq = wq at *
                                obtain ⟨z1, z2⟩ := HB2.out.getD_ (i := y) (by omega) false
                                have HB3 := Lib.hid (show BRow (wq.drew.setCell ⟨g, y, none⟩ (.bool true)) g (xs.set y true) from (show BRow wq.drew g xs from HB2.out).set_ y true)
                                have HG3 := Lib.hid (grown_grown (grown_grown HG2.out (show wq.grownBy wq.drew (some g) from ⟨rfl, rfl, rfl, Nat.le_refl _, fun _ _ _ => rfl⟩)) (grown_set wq.drew g y (.bool true)))
                                have hygi : (y : Int) < (a.gs.length : Int) := by omega
                                go_wp2_with fail
                                go_region
                                all_goals
                                  go_wp2_with fail
                                  go_roundw
                                  case rel => exact ⟨kk + 1, true, rfl, by go_num, HX.out, HG3.out, fun _ => ⟨HO0.out, _, HS2.out, HB3.out⟩, fun h => (by cases h)⟩
                                  case measure => simp [intOf]; have := HX.out; omega
                              · have hd2 : decide ((y : Int) > z) = false := by simpa using h2
                                have HN := Lib.hid (HFAIL.out HO0.out (by have := HTK.out; rwa [if_neg (fun h => h2 h.1)] at this))
                                clear HTK
                                as_aux_lemma =>
                                go_wp2_with fail
                                go_quiet (fail)
                                have HG2 := Lib.hid (grown_grown HGR.out (show wr.grownBy (wr.drewN nq) (some g) from ⟨rfl, rfl, rfl, Nat.le_refl _, fun _ _ _ => rfl⟩))
                                clear y0 c0 c3 f3
                                generalize wr.drewN nq = wq at *
                                go_wp2_with fail
                                go_roundw
                                case rel => exact ⟨kk + 1, false, rfl, by go_num, HX.out, HG2.out, fun h => (by cases h), fun _ => HN.out⟩
                                case measure => simp [intOf]; have := HX.out; omega
                          · have hd : decide ((y : Int) < a.st) = false := by simpa using h1
                            have HN := Lib.hid (HFAIL.out HO0.out (by have := HTK.out; rwa [if_neg (fun h => h1 h.2)] at this))
                            clear HTK
                            as_aux_lemma =>
                            go_wp2_with fail
                            go_quiet (fail)
                            have HG2 := Lib.hid (grown_grown HGR.out (show wr.grownBy (wr.drewN nq) (some g) from ⟨rfl, rfl, rfl, Nat.le_refl _, fun _ _ _ => rfl⟩))
                            clear y0 c0 c3 f3
                            generalize wr.drewN nq = wq at *
                            go_wp2_with fail
                            go_roundw
                            case rel => exact ⟨kk + 1, false, rfl, by go_num, HX.out, HG2.out, fun h => (by cases h), fun _ => HN.out⟩
                            case measure => simp [intOf]; have := HX.out; omega
                      · have q1 : ¬ (kk : Int) < (ns.length : Int) := by omega
                        have HR : Hid (RdRel w1 G (if b = true then rdLine a k x else none) okb wr) := by
                          cases okb with
                          | false => exact HEND.out false wr [] HGR.out (fun h => by cases h) HFF.out
                          | true =>
                            obtain ⟨h1, xs, h2, h3⟩ := HT.out rfl
                            rw [List.take_of_length_le (by omega)] at h2
                            exact HEND.out true wr xs HGR.out (fun _ => ⟨h1, h2, h3⟩) (fun h => by cases h)
                        go_wp2_with (guard_target =~ Met _ _ _; go_meet; exact ⟨okb, rfl, HR.out⟩)
                · as_aux_lemma =>
                  have k0 : ((k : Int) == 0) = false := by simp; omega
                  have k1 : ((k : Int) == 1) = false := by simp; omega
                  have k2 : ((k : Int) == 2) = false := by simp; omega
                  have hss : a.ss.length < 200000 := by omega
                  have HRL : Hid (rdLine a k x = match undL XL with | some [f, l, t] => some { a with ss := a.ss ++ [⟨f, l, t⟩] } | _ => none) := by
                    show _ = _
                    rw [HXL.out]
                    obtain ⟨j, rfl⟩ : ∃ j, k = j + 3 := ⟨k - 3, by omega⟩
                    rfl
                  have HU : Hid (Calls Tryd.prog 36 #[.slice XB XL.length xc, .int .i64 0] w2 (UlPost w2 XL)) :=
                    Undigits_ XL XB xc 0 w2 HXR.out (Nat.zero_le _) (by omega) (fun y hy => Nat.le_trans (HXX.out y hy) (by decide))
                  clear hk0 hk1 hk2
                  go_wp2_with fail
                  refine HU.out.mono ?_
                  rintro e w3 ⟨A1, c1', ns, b2, rfl, hi, hb3, hm⟩
                  dsimp only
                  have HBW := Lib.hid hb3
                  have HFN : Hid (rdLine a k x = none → RdRel w1 G (if b = true then rdLine a k x else none) false w3) := fun h => by
                    rw [h, ite_self]
                    exact HF.out _ HBW.out
                  cases b with
                  | false =>
                    clear hi hb3 hm HU
                    go_wp2_with (guard_target =~ Met _ _ _; go_meet; exact ⟨false, rfl, HF.out _ HBW.out⟩)
                  | true =>
                  cases b2 with
                  | false =>
                    have hn : rdLine a k x = none := by
                      rw [HRL.out]
                      cases hu : undL XL with
                      | none => rfl
                      | some m => rw [hu] at hm; cases hm.2
                    have HN := Lib.hid (HFN.out hn)
                    clear hi hb3 hm HU hn
                    go_wp2_with (guard_target =~ Met _ _ _; go_meet; exact ⟨false, rfl, HN.out⟩)
                  | true =>
                    have hn : undL XL = some ns := by
                      cases hu : undL XL with
                      | none => rw [hu] at hm; cases hm
                      | some m => rw [hu] at hm; rw [hm.1]
                    by_cases h3 : ns.length = 3
                    · obtain ⟨f, l, t, rfl⟩ : ∃ f l t, ns = [f, l, t] := by
                        match ns, h3 with
                        | [f, l, t], _ => exact ⟨f, l, t, rfl⟩
                      have hdw : Below w3.heap.size w3 w3.drew := (Below.refl _ _).drew
                      obtain ⟨gb, go_, rfl, hgW, hgl, z0⟩ := Ints.at_ (hi.below hdw) (k := 0) (by simp)
                      obtain ⟨gb', go', hgg, _, _, z1⟩ := Ints.at_ (hi.below hdw) (k := 1) (by simp)
                      obtain ⟨rfl, rfl⟩ : gb = gb' ∧ go_ = go' := by simpa using hgg
                      obtain ⟨gb', go', hgg2, _, _, z2⟩ := Ints.at_ (hi.below hdw) (k := 2) (by simp)
                      obtain ⟨rfl, rfl⟩ : gb = gb' ∧ go_ = go' := by simpa using hgg2
                      simp only [List.getElem_cons_zero, List.getElem_cons_succ, Nat.add_zero] at z0 z1 z2
                      have hcl := hi.le
                      simp only [List.length_cons, List.length_nil, Nat.zero_add, Nat.reduceAdd] at hcl ⊢
                      have HP1 := Lib.hid (HP2.out.on hb3)
                      obtain ⟨A, ca, gv, T, c, o1, hlc2, hcm, T3, c3, w5, hrun, q4, f4, hgr, -, hPM⟩ := (HP1.out.on hdw).step ⟨f, l, t⟩ hss
                      have hTb : ∀ k, (Value.slice T a.ss.length c).ownBlock = some k → k < w2.heap.size := by
                        obtain ⟨A9, ca9, gv9, T9, c9, o9, _, _, _, _, _, _, _, _, _, hlt9, _⟩ := HP2.out.step ⟨f, l, t⟩ hss
                        have h2 := (hdw.block G HP1.out.lt).trans ((hb3.block G HP2.out.lt).trans o9)
                        rw [o1] at h2
                        simp at h2
                        obtain ⟨_, _, hT, hc⟩ := h2
                        rw [hT, hc]
                        exact hlt9
                      obtain ⟨c0, c1, c2, c3', c4, f0, f1, f2, f3, f4'⟩ := obj5 o1
                      have HR : Hid (RdRel w1 G (if true = true then rdLine a k x else none) true (w5.setCell ⟨G, 4, none⟩ (.slice T3 (a.ss.length + 1) c3))) := by
                        show RdRel _ _ _ _ _
                        rw [if_pos rfl, HRL.out, hn]
                        exact ⟨hPM.below, rfl, hPM⟩
                      have HRUN : Hid ((Builtin.append_ #[24, 24] 24 #[.slice T a.ss.length c, .slice (some ⟨w3.heap.size, 0, none⟩) 1 1]).run Tryd.prog (w3.alloc (Obj.cells #[.int .i64 f, .int .i64 l, .int .i64 t] 54)).drew = .ok (.slice T3 (a.ss.length + 1) c3) w5) := hrun
                      clear hm HU hi hb3 hn h3 hdw hgg hgg2 o1 hrun hPM c0 c1 c2 c3' f0 f1 f2 f3
                      have hGl : G < w3.drew.heap.size := HP1.out.lt
                      have c5 : (w3.alloc (Obj.cells #[.int .i64 f, .int .i64 l, .int .i64 t] 54)).drew.cell? ⟨G, 4, none⟩ = some (.slice T a.ss.length c) := ((((Below.refl _ w3).alloc (Nat.le_refl _) _).drew).cell (p := ⟨G, 4, none⟩) hGl).trans c4
                      have hb6 : Below w3.heap.size w3 (w3.alloc (Obj.cells #[.int .i64 f, .int .i64 l, .int .i64 t] 54)).drew := ((Below.refl _ w3).alloc (Nat.le_refl _) _).drew
                      have hne : some gb ≠ (Value.slice T a.ss.length c).ownBlock := fun e => by have := hTb gb e.symm; omega
                      have z06 := (hb6.cell (p := ⟨gb, go_, none⟩) hgl).trans z0
                      have z16 := (hb6.cell (p := ⟨gb, go_ + 1, none⟩) hgl).trans z1
                      have z26 := (hb6.cell (p := ⟨gb, go_ + 2, none⟩) hgl).trans z2
                      have z05 := hgr.cell z06 hne
                      have z15 := hgr.cell z16 hne
                      have z25 := hgr.cell z26 hne
                      clear hgr hb6 hne hTb
                      go_upto_region 15 with fail
                      refine wp_region_Z (fun w' => w'.cell? ⟨G, 4, none⟩ = some (.slice T a.ss.length c) ∧ w'.cell? ⟨gb, go_, none⟩ = some (.int .i64 f) ∧ w'.cell? ⟨gb, go_ + 1, none⟩ = some (.int .i64 l) ∧ w'.cell? ⟨gb, go_ + 2, none⟩ = some (.int .i64 t)) 15 (by kernel_rfl) ?_
                      refine wpAnyZ_take (i := 0) (v := ?v0) rfl (by kernel_rfl) (by kernel_rfl) (by kernel_rfl) (by kernel_rfl) (by kernel_rfl) (fun _ _ _ h => h) (Or.inl ⟨by rfl, ?hy0⟩) ⟨c4, z0, z1, z2⟩ ?rest0
                      case hy0 => (intro w' hw'; obtain ⟨h0, h1, h2, h3⟩ := hw'; go_simp; (try with_reducible rfl))
                      (try simp only [Act.put, List.setIfInBounds_toArray, List.set_cons_zero, List.set_cons_succ])
                      refine wpAnyZ_take (i := 1) (v := ?v1) rfl (by kernel_rfl) (by kernel_rfl) (by kernel_rfl) (by kernel_rfl) (by kernel_rfl) (fun _ _ _ h => h) (Or.inl ⟨by rfl, ?hy1⟩) ⟨c4, z0, z1, z2⟩ ?rest1
                      case hy1 => (intro w' hw'; obtain ⟨h0, h1, h2, h3⟩ := hw'; go_simp; (try with_reducible rfl))
                      (try simp only [Act.put, List.setIfInBounds_toArray, List.set_cons_zero, List.set_cons_succ])
                      refine wpAnyZ_take (i := 2) (v := ?v2) rfl (by kernel_rfl) (by kernel_rfl) (by kernel_rfl) (by kernel_rfl) (by kernel_rfl) (fun _ _ _ h => h) (Or.inl ⟨by rfl, ?hy2⟩) ⟨c4, z0, z1, z2⟩ ?rest2
                      case hy2 => (intro w' hw'; obtain ⟨h0, h1, h2, h3⟩ := hw'; go_simp; (try with_reducible rfl))
                      (try simp only [Act.put, List.setIfInBounds_toArray, List.set_cons_zero, List.set_cons_succ])
                      refine wpAnyZ_take (i := 3) (v := ?v3) rfl (by kernel_rfl) (by kernel_rfl) (by kernel_rfl) (by kernel_rfl) (by kernel_rfl) (fun _ _ _ h => h) (Or.inl ⟨by rfl, ?hy3⟩) ⟨c4, z0, z1, z2⟩ ?rest3
                      case hy3 => (intro w' hw'; obtain ⟨h0, h1, h2, h3⟩ := hw'; go_simp; (try with_reducible rfl))
                      (try simp only [Act.put, List.setIfInBounds_toArray, List.set_cons_zero, List.set_cons_succ])
                      refine wpAnyZ_take (i := 4) (v := ?v4) rfl (by kernel_rfl) (by kernel_rfl) (by kernel_rfl) (by kernel_rfl) (by kernel_rfl) (fun _ _ _ h => h) (Or.inl ⟨by rfl, ?hy4⟩) ⟨c4, z0, z1, z2⟩ ?rest4
                      case hy4 => (intro w' hw'; obtain ⟨h0, h1, h2, h3⟩ := hw'; go_simp; (try with_reducible rfl))
                      (try simp only [Act.put, List.setIfInBounds_toArray, List.set_cons_zero, List.set_cons_succ])
                      refine wpAnyZ_take (i := 5) (v := ?v5) rfl (by kernel_rfl) (by kernel_rfl) (by kernel_rfl) (by kernel_rfl) (by kernel_rfl) (fun _ _ _ h => h) (Or.inl ⟨by rfl, ?hy5⟩) ⟨c4, z0, z1, z2⟩ ?rest5
                      case hy5 => (intro w' hw'; obtain ⟨h0, h1, h2, h3⟩ := hw'; go_simp; (try with_reducible rfl))
                      (try simp only [Act.put, List.setIfInBounds_toArray, List.set_cons_zero, List.set_cons_succ])
                      refine wpAnyZ_take (i := 6) (v := ?v6) rfl (by kernel_rfl) (by kernel_rfl) (by kernel_rfl) (by kernel_rfl) (by kernel_rfl) (fun _ _ _ h => h) (Or.inl ⟨by rfl, ?hy6⟩) ⟨c4, z0, z1, z2⟩ ?rest6
                      case hy6 => (intro w' hw'; obtain ⟨h0, h1, h2, h3⟩ := hw'; go_simp; (try with_reducible rfl))
                      (try simp only [Act.put, List.setIfInBounds_toArray, List.set_cons_zero, List.set_cons_succ])
                      refine wpAnyZ_take (i := 7) (v := ?v7) rfl (by kernel_rfl) (by kernel_rfl) (by kernel_rfl) (by kernel_rfl) (by kernel_rfl) (fun _ _ _ h => h) (Or.inl ⟨by rfl, ?hy7⟩) ⟨c4, z0, z1, z2⟩ ?rest7
                      case hy7 => (intro w' hw'; obtain ⟨h0, h1, h2, h3⟩ := hw'; go_simp; (try with_reducible rfl))
                      (try simp only [Act.put, List.setIfInBounds_toArray, List.set_cons_zero, List.set_cons_succ])
                      refine wpAnyZ_take (i := 8) (v := ?v8) rfl (by kernel_rfl) (by kernel_rfl) (by kernel_rfl) (by kernel_rfl) (by kernel_rfl) (fun _ _ _ h => h) (Or.inl ⟨by rfl, ?hy8⟩) ⟨c4, z0, z1, z2⟩ ?rest8
                      case hy8 => (intro w' hw'; obtain ⟨h0, h1, h2, h3⟩ := hw'; go_simp; (try with_reducible rfl))
                      (try simp only [Act.put, List.setIfInBounds_toArray, List.set_cons_zero, List.set_cons_succ])
                      refine wpAnyZ_take (i := 9) (v := ?v9) rfl (by kernel_rfl) (by kernel_rfl) (by kernel_rfl) (by kernel_rfl) (by kernel_rfl) (fun _ _ _ h => h) (Or.inl ⟨by rfl, ?hy9⟩) ⟨c4, z0, z1, z2⟩ ?rest9
                      case hy9 => (intro w' hw'; obtain ⟨h0, h1, h2, h3⟩ := hw'; go_simp; (try with_reducible rfl))
                      (try simp only [Act.put, List.setIfInBounds_toArray, List.set_cons_zero, List.set_cons_succ])
                      refine wpAnyZ_take (i := 10) (v := ?v10) rfl (by kernel_rfl) (by kernel_rfl) (by kernel_rfl) (by kernel_rfl) (by kernel_rfl) (fun _ _ _ h => h) (Or.inl ⟨by rfl, ?hy10⟩) ⟨c4, z0, z1, z2⟩ ?rest10
                      case hy10 => (intro w' hw'; obtain ⟨h0, h1, h2, h3⟩ := hw'; go_simp; (try with_reducible rfl))
                      (try simp only [Act.put, List.setIfInBounds_toArray, List.set_cons_zero, List.set_cons_succ])
                      refine wpAnyZ_take (i := 11) (v := ?v11) rfl (by kernel_rfl) (by kernel_rfl) (by kernel_rfl) (by kernel_rfl) (by kernel_rfl) (fun _ _ _ h => h) (Or.inl ⟨by rfl, ?hy11⟩) ⟨c4, z0, z1, z2⟩ ?rest11
                      case hy11 => (intro w' hw'; obtain ⟨h0, h1, h2, h3⟩ := hw'; go_simp; (try with_reducible rfl))
                      (try simp only [Act.put, List.setIfInBounds_toArray, List.set_cons_zero, List.set_cons_succ])
                      refine wpAnyZ_one (i := 12) rfl (by kernel_rfl) (fun K hK => ?_)
                      go_simp
                      refine hK.out _ _ (.inr ⟨c5, z06, z16, z26⟩) ?_
                      clear hK K
                      (try simp only [Act.put, List.setIfInBounds_toArray, List.set_cons_zero, List.set_cons_succ])
                      refine wpAnyZ_one (i := 13) rfl (by kernel_rfl) (fun K hK => ?_)
                      refine step_appR rfl (.tmp 77) (.tmp 88) _ _ rfl (.slice T a.ss.length c) (.slice (some ⟨w3.heap.size, 0, none⟩) 1 1) (.slice T3 (a.ss.length + 1) c3) (by go_simp) (by go_simp) HRUN.out ?_
                      refine hK.out _ _ (.inr ⟨q4, z05, z15, z25⟩) ?_
                      clear hK K
                      (try simp only [Act.put, List.setIfInBounds_toArray, List.set_cons_zero, List.set_cons_succ])
                      refine wpAnyZ_take (i := 14) (v := ?v14) rfl (by kernel_rfl) (by kernel_rfl) (by kernel_rfl) (by kernel_rfl) (by kernel_rfl) (fun _ _ _ h => h) (Or.inl ⟨by rfl, ?hy14⟩) ⟨q4, z05, z15, z25⟩ ?rest14
                      case hy14 => (intro w' hw'; obtain ⟨h0, h1, h2, h3⟩ := hw'; go_simp; (try with_reducible rfl))
                      (try simp only [Act.put, List.setIfInBounds_toArray, List.set_cons_zero, List.set_cons_succ])
                      refine wpAnyZ_one (i := 15) rfl (by kernel_rfl) (fun K hK => ?_)
                      go_simp
                      refine hK.out _ _ (.inl rfl) ?_
                      clear hK K
                      refine wpAnyZ_done (by kernel_rfl) ?_ _
                      go_wp2_with (guard_target =~ Met _ _ _; go_meet; exact ⟨true, rfl, HR.out⟩)
                    · have e4 : ((ns.length : Int) == 3) = false := by simp; omega
                      have hr : rdLine a k x = none := by
                        rw [HRL.out, hn]
                        split
                        · rename_i hh
                          simp at hh
                          rw [hh] at h3
                          simp at h3
                        · rfl
                      have HN := Lib.hid (HFN.out hr)
                      clear hm HU hi hb3 hn hr h3
                      go_wp2_with (guard_target =~ Met _ _ _; go_meet; exact ⟨false, rfl, HN.out⟩)
          case rest =>
            obtain ⟨b', rfl, HRE⟩ := hcut
            cases b' with
            | false =>
              have HBW : Hid (Below G w1 wc) := HRE.out.1
              have HB3 := Lib.hid (HUP.out _ HBW.out)
              have HGR : Hid (rdGo nulA 0 ls = .inl (k + 1)) := by
                refine HG1.out.trans ?_
                have h2 := HRE.out.2
                cases hbb : b with
                | false =>
                  have : ls.drop (k + 1) = [] := by have := HB.out; rw [hbb] at this; simpa using this.symm
                  rw [this]
                  refine if_neg fun hh => HEX.out ⟨hh.1, ?_, hh.2⟩
                  have := hlast.1 this
                  omega
                | true =>
                  have h3 : ls.drop (k + 1) ≠ [] := by have := HB.out; rw [hbb] at this; simpa using this.symm
                  rw [hbb, if_pos rfl] at h2
                  cases hd : rdLine a k x with
                  | none => exact rdGo_fail hd h3
                  | some a' => rw [hd] at h2; cases h2.1
              obtain ⟨d0, d1, d2, d3, d4, g0, g1, g2, g3, g4⟩ := obj5 (HZ.out wc HB3.out)
              have HR : Hid (PaPost w (readA s) (.returned (.tuple #[zeroA, .int .i64 ((k : Int) + 1), .int .i64 1])) _) := HNUL.out wc HB3.out (k + 1) 1 (HRN.out _ HGR.out)
              have HOO := Lib.hid (HOW.out wc HB3.out (.int .i64 0) (.int .i64 0) (.slice none 0 0) (.slice none 0 0) (.slice none 0 0))
              have d5 : IntKind.i64.wrap ((k : Int) + 1) = (k : Int) + 1 := IntWalk.i64_in _ (by omega)
              go_wp2_with (guard_target =~ bodyPost _ _ _ _ _ _; exact bodyPost_ret (retPa Tryd.results15 _ _ R rfl rfl rfl HOO.out) rfl HR.out)
            | true =>
              obtain ⟨a', hd, hbt, hPM⟩ : ∃ a', rdLine a k x = some a' ∧ b = true ∧ PaM w1 G a' wc := by
                have h2 := HRE.out.2
                cases hbb : b with
                | false => rw [hbb, if_neg (by decide)] at h2; cases h2
                | true =>
                  rw [hbb, if_pos rfl] at h2
                  cases hd : rdLine a k x with
                  | none => rw [hd] at h2; cases h2
                  | some a' => rw [hd] at h2; exact ⟨a', rfl, rfl, h2.2⟩
              have HPM := Lib.hid hPM
              have HI2 : Hid (Inv a' (k + 1)) := (rd_back HI.out hd).1
              have hss := rd_ss HI.out hd
              have h3 : ls.drop (k + 1) ≠ [] := by have := HB.out; rw [hbt] at this; simpa using this.symm
              have hk2 : k + 1 < ls.length := by have := mt hlast.2 h3; omega
              have HGR : Hid (rdGo nulA 0 ls = rdGo a' (k + 1) (ls.drop (k + 1))) := HG1.out.trans (rdGo_step hd h3)
              have d5 : IntKind.i64.wrap ((k : Int) + 1) = (k : Int) + 1 := IntWalk.i64_in _ (by omega)
              clear hPM hd h3 hlast
              go_wp2_with fail
              go_roundw
              case rel => exact ⟨k + 1, a', by go_num, hk2, by omega, HPM.out, HI2.out, HGR.out⟩
              case measure => simp [intOf]; omega
end Go.Proofs.YtoglgeaiiipchabDoor
