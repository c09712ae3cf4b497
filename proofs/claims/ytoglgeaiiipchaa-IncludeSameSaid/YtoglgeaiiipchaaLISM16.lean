/- Walks: include's search for heads. -/
import Derived.Test.YtoglgeaiiipchaaLISM13
import Derived.Test.YtoglgeaiiipchaaLISM15
import Derived.Deep.LoopGhost
set_option linter.unusedSimpArgs false
set_option linter.unusedVariables false
namespace Go.Proofs.Ytoglgeaiiipchaa
open Go Go.RowKit Go.Maps

structure HdPost (a b : Au) (LS : List Bp) (w : World) (e : Ending) (w' : World) : Prop where
  is : ∃ (Mo : Nat) (R : List LO) (p : Nat), e = .returned (.map (some Mo)) ∧ GAt 137 s2L slE slD w' Mo (R.map loM) ∧ w.heap.size ≤ Mo ∧ Hds a b LS (R.map hdP) p 0 ∧ R.length ≤ p ∧ ∀ o ∈ R, WyAt w' w.heap.size o.2.2 o.2.1
  below : Below w.heap.size w w'
theorem HdS.pop {w0 W : World} {Mo : Nat} {v v2 : Value} {R : List LO} {p : Nat} (h : HdS w0 W Mo v R p) (hp : p < R.length) (hq : GQ 137 s2C 2 W w0.heap.size v2 ((R.drop (p + 1)).map hdK)) : HdS w0 W Mo v2 R (p + 1) := ⟨h.mem.queue hq, h.below, hp⟩
theorem HdS.start {w W3 : World} {Mo ka kb : Nat} {k : Nat × Nat} (hK : k = (ka, kb)) (h : HdM w.heap.size W3 Mo (.slice none 0 0) [(((ka : Int), (kb : Int)), none, 0, 0)] [] []) (hb : Below w.heap.size w W3) :
    HdS w (W3.alloc (Obj.cells #[.int .i64 (ka : Int), .int .i64 (kb : Int)] 137)) Mo (.slice (some ⟨W3.heap.size, 0, none⟩) 1 1) [(k, [], (none, 0, 0))] 0 := by
  subst hK
  have hbq : Below W3.heap.size W3 (W3.alloc (Obj.cells #[.int .i64 (ka : Int), .int .i64 (kb : Int)] 137)) := (Below.refl _ _).alloc (Nat.le_refl _) _
  have h3 := h.on hbq
  have hq : GQ 137 s2C 2 (W3.alloc (Obj.cells #[.int .i64 (ka : Int), .int .i64 (kb : Int)] 137)) w.heap.size (.slice (some ⟨W3.heap.size, 0, none⟩) 1 1) [((ka : Int), (kb : Int))] :=
    .inr ⟨W3.heap.size, 0, 1, _, rfl, hb.size, allocNew W3 _, Nat.le_refl _, by simp, by simp [maxLen], fun j u hj => by
      rw [Nat.zero_add]
      simpa [s2C] using hj⟩
  exact ⟨⟨h3.out, hq, fun s hs => by
    obtain rfl : s = ((none, 0, 0), []) := by simpa [hdW] using hs
    exact GQ.nil_, h3.bM⟩, Below_on hb hbq hb.size, Nat.zero_le _⟩
set_option maxRecDepth 100000 in
set_option maxHeartbeats 8000000 in
theorem heads_ (a b : Au) (fa : AuFit a) (fb : AuFit b) (a3 : a.st ≤ 3) (b3 : b.st ≤ 3) (LS : List Bp) (hL : LetOK a b LS) (hl8 : LS.length ≤ 8) (Vs : Nat) (A : Option Addr) (c : Nat) (w : World) (hs : w.cell? ⟨Vs, 0, none⟩ = some (.slice A LS.length c)) (hVs : Vs < w.heap.size) (hr : Bps w 0 A c LS) :
    Calls Try.prog 92 #[.pointer (some ⟨Vs, 0, none⟩), .int .i64 ((hset a [] : Nat) : Int), .int .i64 ((hset b [] : Nat) : Int)] w (HdPost a b LS w) := by
  have hmm := @run_makeMap Try.prog
  have hlc := hr.le
  have hcc := hr.cap
  have HFA := Lib.hid fa
  have HFB := Lib.hid fb
  have HA3 := Lib.hid a3
  have HB3 := Lib.hid b3
  have HL := Lib.hid hL
  have HL8 := Lib.hid hl8
  have HC : Hid (∀ W, Below w.heap.size w W → W.cell? ⟨Vs, 0, none⟩ = some (.slice A LS.length c)) := fun W hb => (hb.cell (p := ⟨Vs, 0, none⟩) hVs).trans hs
  have HR : Hid (∀ W, Below w.heap.size w W → Bps W 0 A c LS) := fun W hb => hr.below hb
  have HH0 := Lib.hid (Hds.first a b LS)
  have HK8 := Lib.hid (hkey_lt a b [])
  have HKE : Hid (hkey a b [] = (hset a [], hset b [])) := rfl
  generalize hset a [] = ka at *
  generalize hset b [] = kb at *
  clear fa fb a3 b3 hL hl8 hs hr hVs
  -- the map's first entry
  have hb1 : Below w.heap.size w (w.alloc (Obj.cells #[.int .i64 (ka : Int), .int .i64 (kb : Int)] 137)) := (Below.refl _ _).alloc (Nat.le_refl _) _
  have hs1 : (w.alloc (Obj.cells #[.int .i64 (ka : Int), .int .i64 (kb : Int)] 137)).heap.size = w.heap.size + 1 := by simp
  have hz1 := allocNew w (Obj.cells #[.int .i64 (ka : Int), .int .i64 (kb : Int)] 137)
  go_enter Try.func92, Try.ntmps92
  go_upto_region 2 with fail
  generalize w.alloc (Obj.cells #[.int .i64 (ka : Int), .int .i64 (kb : Int)] 137) = W1 at *
  obtain ⟨V7, hV7⟩ : ∃ V, V = w.heap.size := ⟨_, rfl⟩
  rw [← hV7] at hz1 ⊢
  have hb2 : Below W1.heap.size W1 (W1.alloc (Obj.map #[] 0)) := (Below.refl _ _).alloc (Nat.le_refl _) _
  have hM0 : HdM w.heap.size (W1.alloc (Obj.map #[] 0)) W1.heap.size (.slice none 0 0) [] [] [] := ⟨GAt.made W1, GQ.nil_, fun s hs => by simp at hs, by omega⟩
  obtain ⟨W3, hrun, hM3, hg3⟩ := hM0.put (by simp) (x := ((ka : Int), (kb : Int))) ⟨WalkArith.wf_i64 (by have := HK8.out; rw [HKE.out] at this; simp only at this; omega), WalkArith.wf_i64 (by have := HK8.out; rw [HKE.out] at this; simp only at this; omega)⟩ (none, 0, 0)
  have hrun' : (Instr.mapUpdate 132 (.map (some W1.heap.size)) (.agg #[.int .i64 (ka : Int), .int .i64 (kb : Int)]) (.slice none 0 0)).run Try.prog (W1.alloc (Obj.map #[] 0)) = .ok () W3 := hrun
  have hz3 : W3.heap[V7]? = some (.cells #[.int .i64 (ka : Int), .int .i64 (kb : Int)] 137 (0, 0)) := keep_map hg3 hM0.out.block ((hb2.block V7 (by omega)).trans hz1)
  have hb3 : Below w.heap.size w W3 := by
    have h := Below_on hb1 hb2 (by omega)
    exact h.grown hg3 (by simp; omega) fun k hk => by obtain rfl := Option.some.inj hk; omega
  have HV7 := Lib.hid hV7
  have HS1 := Lib.hid hs1
  have HM3 := Lib.hid hM3
  have HZ3 := Lib.hid hz3
  have HB3W := Lib.hid hb3
  have HBM : Hid (w.heap.size ≤ W1.heap.size) := by show _ ≤ _; omega
  obtain ⟨c0, c1, _, _⟩ := nt_c ((hb2.block V7 (by omega)).trans hz1)
  obtain ⟨d0, d1, _, _⟩ := nt_c hz3
  clear hrun hM0 hM3 hg3 hb3 hb2 hb1 hV7 hs1 hz1 hz3
  obtain ⟨Mo, hMo⟩ : ∃ V, V = W1.heap.size := ⟨_, rfl⟩
  rw [← hMo] at HM3 HBM hrun'
  have hmm1 : (Instr.makeMap 132 none).run Try.prog W1 = .ok (.map (some Mo)) (W1.alloc (Obj.map #[] 0)) := by rw [hMo]; exact hmm _ _
  clear hmm hMo
  generalize W1.alloc (Obj.map #[] 0) = W2 at *
  go_upto_region 4 with fail
  clear c0 c1 d0 d1 hrun' hmm1
  have HST := Lib.hid (HdS.start HKE.out HM3.out HB3W.out)
  have HK8' : Hid ((hkey a b []).1 < 8 ∧ (hkey a b []).2 < 8) := HK8.out
  clear HM3 HZ3 HB3W HV7 HS1
  generalize (W3.alloc (Obj.cells #[.int .i64 (ka : Int), .int .i64 (kb : Int)] 137)) = W4 at *
  go_wp2_with fail
  go_loopg [9] 64 (fun k v9 wr => ∃ v R p, v9 = v ∧ p + k = 64 ∧ Hid (HdS w wr Mo v R p) ∧ Hid (Hds a b LS (R.map hdP) p 0))
  case atStart => exact ⟨_, _, 0, rfl, rfl, HST, HH0⟩
  case round =>
    clear HST HH0
    obtain ⟨v, R, p, rfl, hpk, HS, HH⟩ := hrel
    by_cases hpl : p < R.length
    · have HPL := Lib.hid hpl
      have HKB : Hid (64 - (p + 1) < gk ∧ p + 1 + (64 - (p + 1)) = 64) := by
        have := HH.out.few
        rw [List.length_map] at this
        constructor <;> omega
      have hqq := HS.out.mem.q
      rw [List.drop_eq_getElem_cons hpl, List.map_cons] at hqq
      have HEP : Hid (R[p]? = some R[p]) := List.getElem?_eq_getElem hpl
      obtain ⟨g, off, cap, rfl, hcap, hcap2, hcx, hq2⟩ := hqq.pop s2C_len
      generalize R[p] = E at *
      obtain ⟨⟨k0, k1⟩, Ew, Ae, ne, ce⟩ := E
      have x0 := hcx 0 _ rfl
      have x1 := hcx 1 _ rfl
      rw [Nat.add_zero] at x0
      simp only [hdK] at x0 x1
      obtain ⟨ln, hln⟩ : ∃ l, l = ((R.drop (p + 1)).map hdK).length := ⟨_, rfl⟩
      rw [← hln] at hcap hq2 hqq HS ⊢
      have q0 : (0 : Int) < (ln : Int) + 1 := by omega
      clear hcx hln
      go_upto_region 6 with fail
      have hbk : Below wr.heap.size wr (wr.alloc (Obj.cells #[.int .i64 (k0 : Int), .int .i64 (k1 : Int)] 137)) := (Below.refl _ _).alloc (Nat.le_refl _) _
      have hzk := allocNew wr (Obj.cells #[.int .i64 (k0 : Int), .int .i64 (k1 : Int)] 137)
      have HGZ : Hid (g < wr.heap.size) := (hqq.lt g rfl).2
      have HS1 := Lib.hid (HS.out.on hbk)
      have HQ2 := Lib.hid (hq2.on hbk)
      obtain ⟨Zk, hZk⟩ : ∃ Z, Z = wr.heap.size := ⟨_, rfl⟩
      rw [← hZk] at hzk HGZ ⊢
      have HZK := Lib.hid hzk
      clear hzk hbk hZk x0 x1 q0 hqq hq2 HS
      generalize wr.alloc (Obj.cells #[.int .i64 (k0 : Int), .int .i64 (k1 : Int)] 137) = W1 at *
      go_cut [9] (fun s9 wx => ∃ v2, s9 = v2 ∧ Hid (HdS w wx Mo v2 R (p + 1)) ∧ Hid (wx.heap[Zk]? = some (Obj.cells #[.int .i64 (k0 : Int), .int .i64 (k1 : Int)] 137 (0, 0))) ∧ Hid (∀ k, v2.ownBlock = some k → k ≠ Zk))
      case first =>
        by_cases hc1 : cap = 1
        · subst hc1
          have hd0 : ln = 0 := by omega
          have hq3 := HQ2.out
          rw [if_pos rfl] at hq3
          subst hd0
          have HP := Lib.hid (HS1.out.pop HPL.out hq3)
          clear hq3 hcap hcap2
          go_wp2_with fail
          go_meet
          exact ⟨_, rfl, HP, HZK, fun k hk => by obtain rfl := Option.some.inj hk; exact Nat.ne_of_lt HGZ.out⟩
        · have hq3 := HQ2.out
          rw [if_neg hc1] at hq3
          have HP := Lib.hid (HS1.out.pop HPL.out hq3)
          clear hq3
          go_wp2_with fail
          go_meet
          exact ⟨_, rfl, HP, HZK, fun k hk => by obtain rfl := Option.some.inj hk; exact Nat.ne_of_lt HGZ.out⟩
      case rest =>
        obtain ⟨v2, rfl, HS2, HZ2, HNE⟩ := hcut
        have c0 := HC.out wc HS2.out.below
        clear HQ2 HS1 HZK hcap hcap2 HGZ
        generalize wc = W2 at *
        go_wp2_with fail
        clear c0
        have HPR := Lib.hid HPL.out
        go_loopw [9, 37] (fun v9 v37 wr => ∃ n : Nat, n ≤ LS.length ∧ v37 = .int .i64 (n : Int) ∧ ∃ v R, v9 = v ∧ Hid (HdS w wr Mo v R (p + 1)) ∧ Hid (wr.heap[Zk]? = some (Obj.cells #[.int .i64 (k0 : Int), .int .i64 (k1 : Int)] 137 (0, 0))) ∧ Hid (∀ k, v.ownBlock = some k → k ≠ Zk) ∧ Hid (Hds a b LS (R.map hdP) p n) ∧ Hid (R[p]? = some ((k0, k1), Ew, Ae, ne, ce))) (fun _ v37 _ => LS.length - (intOf v37).toNat)
        case atStart => exact ⟨0, Nat.zero_le _, rfl, _, R, rfl, HS2, HZ2, HNE, HH, HEP⟩
        case round =>
          clear HS2 HZ2 HNE HH HEP HPR HPL
          obtain ⟨n, hn, rfl, v, R, hv, HS, HZ, HNE, HH, HEP⟩ := hrel
          have hv' := hv.symm
          subst hv'
          clear hv
          by_cases hnl : n < LS.length
          · have qn : (n : Int) < (LS.length : Int) := by omega
            have HN := Lib.hid hnl
            obtain ⟨bA, oA, rfl, _, hrng⟩ := (HR.out wr HS.out.below).range hnl
            have HOK := Lib.hid (HL.out.ok hnl)
            have HGD : Hid (LS.getD n bx0 = LS[n]) := getD_lt hnl
            generalize LS[n] = X at *
            have hla := there_new wr #[.int .u8 0, .int .u8 0, .int .u8 0, .int .u8 0, .int .u8 0, .int .u8 0, .int .u8 0, .int .u8 0, .int .u8 0, .int .u8 0, .int .u8 0, .int .u8 0, .int .u8 0, .int .u8 0, .int .u8 0, .int .u8 0, .int .u8 0, .int .u8 0] 131
            go_upto_block 3 with fail
            go_cut [9] (fun s9 wx => ∃ v R, s9 = v ∧ HdS w wx Mo v R (p + 1) ∧ wx.heap[Zk]? = some (Obj.cells #[.int .i64 (k0 : Int), .int .i64 (k1 : Int)] 137 (0, 0)) ∧ (∀ k, v.ownBlock = some k → k ≠ Zk) ∧ Hds a b LS (R.map hdP) p (n + 1) ∧ R[p]? = some ((k0, k1), Ew, Ae, ne, ce))
            case first =>
              go_upto_region 10 with (first
                | (refine wpList_load_mid rfl 131 (.tmp 40) rfl bA (oA + n * 18) rfl (bpC X) _ hrng Try.underlying131 rfl (infoBp18 X) ?_)
                | (refine wpList_store_mid rfl 131 (.tmp 12) (.tmp 41) rfl wr.heap.size 0 (bpC X).toArray rfl rfl hla infoBoxes (all_oneCell_toArray (bpC_one X)) ?_))
              simp only [Act.put]
              clear hla hrng
              obtain ⟨hz, hzb, hzs⟩ := newRow wr #[.int .u8 0, .int .u8 0, .int .u8 0, .int .u8 0, .int .u8 0, .int .u8 0, .int .u8 0, .int .u8 0, .int .u8 0, .int .u8 0, .int .u8 0, .int .u8 0, .int .u8 0, .int .u8 0, .int .u8 0, .int .u8 0, .int .u8 0, .int .u8 0] (bpC X).toArray.toList 131 rfl
              replace hz : _ = some (Obj.cells (bpC X).toArray 131 (0, 0)) := hz
              obtain ⟨Zx, hZx⟩ : ∃ Z, Z = wr.heap.size := ⟨_, rfl⟩
              have hzb2 := hzb
              rw [← hZx] at hz hzb hzs ⊢
              have HS1 : Hid (HdS w ((wr.alloc (Obj.cells #[.int .u8 0, .int .u8 0, .int .u8 0, .int .u8 0, .int .u8 0, .int .u8 0, .int .u8 0, .int .u8 0, .int .u8 0, .int .u8 0, .int .u8 0, .int .u8 0, .int .u8 0, .int .u8 0, .int .u8 0, .int .u8 0, .int .u8 0, .int .u8 0] 131)).setCells Zx 0 (bpC X).toArray.toList) Mo v R (p + 1)) := HS.out.on (by rw [hZx]; exact hzb2)
              have HZ1 : Hid (((wr.alloc (Obj.cells #[.int .u8 0, .int .u8 0, .int .u8 0, .int .u8 0, .int .u8 0, .int .u8 0, .int .u8 0, .int .u8 0, .int .u8 0, .int .u8 0, .int .u8 0, .int .u8 0, .int .u8 0, .int .u8 0, .int .u8 0, .int .u8 0, .int .u8 0, .int .u8 0] 131)).setCells Zx 0 (bpC X).toArray.toList).heap[Zk]? = some (Obj.cells #[.int .i64 (k0 : Int), .int .i64 (k1 : Int)] 137 (0, 0))) := (hzb.block Zk (by rw [hZx]; exact (Array.getElem?_eq_some_iff.1 HZ.out).1)).trans HZ.out
              have HZX := Lib.hid hz
              clear hz hzb hzs hZx HS HZ hzb2
              generalize (wr.alloc (Obj.cells #[.int .u8 0, .int .u8 0, .int .u8 0, .int .u8 0, .int .u8 0, .int .u8 0, .int .u8 0, .int .u8 0, .int .u8 0, .int .u8 0, .int .u8 0, .int .u8 0, .int .u8 0, .int .u8 0, .int .u8 0, .int .u8 0, .int .u8 0, .int .u8 0] 131)).setCells Zx 0 (bpC X).toArray.toList = Wb at *
              have hpR : p < (R.map hdP).length := by rw [List.length_map]; exact (List.getElem?_eq_some_iff.1 HEP.out).1
              have hEg : (R.map hdP)[p] = ((k0, k1), Ew) := by
                rw [List.getElem_map, (List.getElem?_eq_some_iff.1 HEP.out).2]; rfl
              have hw := HH.out.w p hpR
              rw [hEg] at hw
              simp only at hw
              have HHW := Lib.hid hw
              have HK8 : Hid (k0 < 8 ∧ k1 < 8) := by have := hkey_lt a b Ew; rw [← hw.2.1] at this; exact this
              have HPR : Hid (p < (R.map hdP).length ∧ (R.map hdP).length ≤ 64) := ⟨hpR, HH.out.few⟩
              have HEG : Hid (∀ h : p < (R.map hdP).length, (R.map hdP)[p] = ((k0, k1), Ew)) := fun _ => hEg
              clear hpR hEg hw
              obtain ⟨t0, ht0⟩ : ∃ t, t = stepN k0 X.1 := ⟨_, rfl⟩
              obtain ⟨t1, ht1⟩ : ∃ t, t = stepN k1 X.2 := ⟨_, rfl⟩
              have HT0 : Hid (t0 < 8 ∧ t1 < 8) := by rw [ht0, ht1]; exact ⟨bits3_lt _, bits3_lt _⟩
              have HTK : Hid (hkey a b (Ew ++ [(n : Int)]) = (t0, t1)) := by
                show _ = _
                rw [hkey_snoc HFA.out HFB.out HA3.out HB3.out HL.out HN.out, ← HHW.out.2.1, HGD.out, ht0, ht1]; rfl
              have HTS : Hid (stepP (k0, k1) (LS.getD n bx0) = (t0, t1)) := by show _ = _; rw [HGD.out, ht0, ht1]; rfl
              have HT1 : Hid (∀ W : World, Calls Try.prog 110 #[.int .i64 (k0 : Int), .agg (bx9 X.1).toArray] W fun e w' => e = .returned (.int .i64 (t0 : Int)) ∧ Below W.heap.size W w') := fun W => by
                have h := step_ k0 X.1 HK8.out.1 HOK.out.l1 W
                rw [bx9_arr HOK.out.l1, ← ht0] at h
                exact h
              have HT2 : Hid (∀ W : World, Calls Try.prog 110 #[.int .i64 (k1 : Int), .agg (bx9 X.2).toArray] W fun e w' => e = .returned (.int .i64 (t1 : Int)) ∧ Below W.heap.size W w') := fun W => by
                have h := step_ k1 X.2 HK8.out.2 HOK.out.l2 W
                rw [bx9_arr HOK.out.l2, ← ht1] at h
                exact h
              clear ht0 ht1
              have HSS : Hid (∀ W, Below Wb.heap.size Wb W → W.heap[Zk]? = some (Obj.cells #[.int .i64 (k0 : Int), .int .i64 (k1 : Int)] 137 (0, 0)) ∧ W.heap[Zx]? = some (Obj.cells (bpC X).toArray 131 (0, 0))) := fun W hb => ⟨nt_z HZ1.out hb, nt_z HZX.out hb⟩
              go_cut [13] (fun s13 wx => ∃ Zt, s13 = .pointer (some ⟨Zt, 0, none⟩) ∧ wx.heap[Zt]? = some (Obj.cells #[.int .i64 (t0 : Int), .int .i64 (t1 : Int)] 137 (0, 0)) ∧ Below Wb.heap.size Wb wx ∧ Wb.heap.size ≤ Zt)
              case first =>
                refine wp_region_held_drew (S := fun w' => w'.heap[Zk]? = some (Obj.cells #[.int .i64 (k0 : Int), .int .i64 (k1 : Int)] 137 (0, 0)) ∧ w'.heap[Zx]? = some (Obj.cells (bpC X).toArray 131 (0, 0))) (by kernel_rfl) (HSS.out _ (Below.refl _ _).drew) ?_
                intro hS
                have bb : Below Wb.heap.size Wb Wb.drew := (Below.refl _ _).drew
                generalize Wb.drew = Wd at *
                refine wpAnyH_take (i := 0) (v := .pointer (some ⟨Zk, 0, none⟩)) rfl (by kernel_rfl) (by kernel_rfl) (by kernel_rfl) (fun _ _ _ h => h) (Or.inl ⟨by rfl, fun w _ => by go_simp⟩) hS ?_
                simp only [Act.put, List.setIfInBounds_toArray, List.set_cons_zero, List.set_cons_succ]
                refine wpAnyH_take (i := 1) (v := .int .i64 (k0 : Int)) rfl (by kernel_rfl) (by kernel_rfl) (by kernel_rfl) (fun _ _ _ h => h) (Or.inl ⟨by rfl, fun w hw => by have h18 := (nt_c hw.1).1; go_simp⟩) hS ?_
                simp only [Act.put, List.setIfInBounds_toArray, List.set_cons_zero, List.set_cons_succ]
                refine wpAnyH_take (i := 2) (v := .pointer (some ⟨Zx, 0, none⟩)) rfl (by kernel_rfl) (by kernel_rfl) (by kernel_rfl) (fun _ _ _ h => h) (Or.inl ⟨by rfl, fun w _ => by go_simp⟩) hS ?_
                simp only [Act.put, List.setIfInBounds_toArray, List.set_cons_zero, List.set_cons_succ]
                refine wpAnyH_take (i := 3) (v := .agg (bx9 X.1).toArray) rfl (by kernel_rfl) (by kernel_rfl) (by kernel_rfl) (fun _ _ _ h => h) (yieldsIf_load_mid (by rfl) 128 (.tmp 44) rfl Zx 0 (by go_simp) (bx9 X.1) _ (fun w hw => rx0 (X := X) hw.2) Try.underlying128 rfl (infoBox9 X.1)) hS ?_
                simp only [Act.put, List.setIfInBounds_toArray, List.set_cons_zero, List.set_cons_succ]
                refine wpAnyH_take (i := 5) (v := .pointer (some ⟨Zk, 1, none⟩)) rfl (by kernel_rfl) (by kernel_rfl) (by kernel_rfl) (fun _ _ _ h => h) (Or.inl ⟨by rfl, fun w _ => by go_simp⟩) hS ?_
                simp only [Act.put, List.setIfInBounds_toArray, List.set_cons_zero, List.set_cons_succ]
                refine wpAnyH_take (i := 6) (v := .int .i64 (k1 : Int)) rfl (by kernel_rfl) (by kernel_rfl) (by kernel_rfl) (fun _ _ _ h => h) (Or.inl ⟨by rfl, fun w hw => by have h18 := (nt_c hw.1).2.1; go_simp⟩) hS ?_
                simp only [Act.put, List.setIfInBounds_toArray, List.set_cons_zero, List.set_cons_succ]
                refine wpAnyH_take (i := 7) (v := .pointer (some ⟨Zx, 9, none⟩)) rfl (by kernel_rfl) (by kernel_rfl) (by kernel_rfl) (fun _ _ _ h => h) (Or.inl ⟨by rfl, fun w _ => by go_simp⟩) hS ?_
                simp only [Act.put, List.setIfInBounds_toArray, List.set_cons_zero, List.set_cons_succ]
                refine wpAnyH_take (i := 8) (v := .agg (bx9 X.2).toArray) rfl (by kernel_rfl) (by kernel_rfl) (by kernel_rfl) (fun _ _ _ h => h) (yieldsIf_load_mid (by rfl) 128 (.tmp 49) rfl Zx 9 (by go_simp) (bx9 X.2) _ (fun w hw => rx9 (X := X) hw.2) Try.underlying128 rfl (infoBox9 X.2)) hS ?_
                simp only [Act.put, List.setIfInBounds_toArray, List.set_cons_zero, List.set_cons_succ]
                refine wpAnyH_ready (rs := [4, 11]) (by kernel_rfl) (by simp) ?_
                refine (AllReadyH.cons rfl (fun K' hK => ?_) (AllReadyH.cons rfl (fun K' hK => ?_) AllReadyH.nil))
                · go_simp
                  go_at_call 110
                  refine (HT1.out _).mono ?_
                  rintro e v1 ⟨rfl, hb⟩
                  have bn := nt_b bb hb
                  clear bb hS
                  have bb := bn
                  clear bn hb
                  refine hK.out _ _ (HSS.out _ bb) (fun hS => ?_)
                  clear hK K'
                  try simp only [Act.put, List.setIfInBounds_toArray, List.set_cons_zero, List.set_cons_succ]
                  refine wpAnyH_ready (rs := [9, 11]) (by kernel_rfl) (by simp) ?_
                  refine (AllReadyH.cons rfl (fun K' hK => ?_) (AllReadyH.cons rfl (fun K' hK => ?_) AllReadyH.nil))
                  · go_simp
                    go_at_call 110
                    refine (HT2.out _).mono ?_
                    rintro e v2 ⟨rfl, hb⟩
                    have bn := nt_b bb hb
                    clear bb hS
                    have bb := bn
                    clear bn hb
                    refine hK.out _ _ (HSS.out _ bb) (fun hS => ?_)
                    clear hK K'
                    try simp only [Act.put, List.setIfInBounds_toArray, List.set_cons_zero, List.set_cons_succ]
                    refine wpAnyH_take (i := 10) (v := .agg #[.int .i64 (t0 : Int), .int .i64 (t1 : Int)]) rfl (by kernel_rfl) (by kernel_rfl) (by kernel_rfl) (fun _ _ _ h => h) (Or.inl ⟨by rfl, fun w _ => by go_simp⟩) hS ?_
                    simp only [Act.put, List.setIfInBounds_toArray, List.set_cons_zero, List.set_cons_succ]
                    refine wpAnyH_ready (rs := [11]) (by kernel_rfl) (by simp) ?_
                    refine (AllReadyH.cons rfl (fun K' hK => ?_) AllReadyH.nil)
                    · go_simp
                      have hz := allocNew v2 (Obj.cells #[.int .i64 0, .int .i64 0] 137)
                      have bn := nt_d bb (Obj.cells #[.int .i64 0, .int .i64 0] 137)
                      have hZ := bb.size
                      have hne : Zk ≠ v2.heap.size ∧ Zx ≠ v2.heap.size := ⟨Nat.ne_of_lt (Array.getElem?_eq_some_iff.1 hS.1).1, Nat.ne_of_lt (Array.getElem?_eq_some_iff.1 hS.2).1⟩
                      clear bb hS
                      have bb := bn
                      clear bn
                      refine hK.out _ _ (HSS.out _ bb) (fun hS => ?_)
                      clear hK K'
                      obtain ⟨Zt, hZe⟩ : ∃ Z, Z = v2.heap.size := ⟨_, rfl⟩
                      rw [← hZe] at hz hZ hne ⊢
                      clear hZe
                      generalize v2.alloc (Obj.cells #[.int .i64 0, .int .i64 0] 137) = v3 at *
                      try simp only [Act.put, List.setIfInBounds_toArray, List.set_cons_zero, List.set_cons_succ]
                      refine wpAnyH_ready (rs := [12]) (by kernel_rfl) (by simp) ?_
                      refine AllReadyH.cons rfl (fun K' hK => ?_) AllReadyH.nil
                      obtain ⟨e0, e1, g0, g1⟩ := nt_c hz
                      go_simp
                      refine hK.out _ _ ⟨nt_s hS.1 hne.1 _ _, nt_s hS.2 hne.2 _ _⟩ (fun hS => ?_)
                      refine wpAnyH_done (by kernel_rfl) ?_ _
                      go_wp2_with fail
                      go_meet
                      exact ⟨Zt, rfl, nt_w hz _ _, nt_u bb hZ _ _, hZ⟩
                  · go_simp
                    have hz := allocNew v1 (Obj.cells #[.int .i64 0, .int .i64 0] 137)
                    have bn := nt_d bb (Obj.cells #[.int .i64 0, .int .i64 0] 137)
                    have hZ := bb.size
                    have hne : Zk ≠ v1.heap.size ∧ Zx ≠ v1.heap.size := ⟨Nat.ne_of_lt (Array.getElem?_eq_some_iff.1 hS.1).1, Nat.ne_of_lt (Array.getElem?_eq_some_iff.1 hS.2).1⟩
                    clear bb hS
                    have bb := bn
                    clear bn
                    refine hK.out _ _ (HSS.out _ bb) (fun hS => ?_)
                    clear hK K'
                    obtain ⟨Zt, hZe⟩ : ∃ Z, Z = v1.heap.size := ⟨_, rfl⟩
                    rw [← hZe] at hz hZ hne ⊢
                    clear hZe
                    generalize v1.alloc (Obj.cells #[.int .i64 0, .int .i64 0] 137) = v4 at *
                    try simp only [Act.put, List.setIfInBounds_toArray, List.set_cons_zero, List.set_cons_succ]
                    refine wpAnyH_ready (rs := [9]) (by kernel_rfl) (by simp) ?_
                    refine (AllReadyH.cons rfl (fun K' hK => ?_) AllReadyH.nil)
                    · go_simp
                      go_at_call 110
                      refine (HT2.out _).mono ?_
                      rintro e v5 ⟨rfl, hb⟩
                      have bn := nt_b bb hb
                      have hzn := nt_z hz hb
                      clear hz
                      have hz := hzn
                      clear hzn
                      clear bb hS
                      have bb := bn
                      clear bn hb
                      refine hK.out _ _ (HSS.out _ bb) (fun hS => ?_)
                      clear hK K'
                      try simp only [Act.put, List.setIfInBounds_toArray, List.set_cons_zero, List.set_cons_succ]
                      refine wpAnyH_take (i := 10) (v := .agg #[.int .i64 (t0 : Int), .int .i64 (t1 : Int)]) rfl (by kernel_rfl) (by kernel_rfl) (by kernel_rfl) (fun _ _ _ h => h) (Or.inl ⟨by rfl, fun w _ => by go_simp⟩) hS ?_
                      simp only [Act.put, List.setIfInBounds_toArray, List.set_cons_zero, List.set_cons_succ]
                      refine wpAnyH_ready (rs := [12]) (by kernel_rfl) (by simp) ?_
                      refine AllReadyH.cons rfl (fun K' hK => ?_) AllReadyH.nil
                      obtain ⟨e0, e1, g0, g1⟩ := nt_c hz
                      go_simp
                      refine hK.out _ _ ⟨nt_s hS.1 hne.1 _ _, nt_s hS.2 hne.2 _ _⟩ (fun hS => ?_)
                      refine wpAnyH_done (by kernel_rfl) ?_ _
                      go_wp2_with fail
                      go_meet
                      exact ⟨Zt, rfl, nt_w hz _ _, nt_u bb hZ _ _, hZ⟩
                · go_simp
                  have hz := allocNew Wd (Obj.cells #[.int .i64 0, .int .i64 0] 137)
                  have bn := nt_d bb (Obj.cells #[.int .i64 0, .int .i64 0] 137)
                  have hZ := bb.size
                  have hne : Zk ≠ Wd.heap.size ∧ Zx ≠ Wd.heap.size := ⟨Nat.ne_of_lt (Array.getElem?_eq_some_iff.1 hS.1).1, Nat.ne_of_lt (Array.getElem?_eq_some_iff.1 hS.2).1⟩
                  clear bb hS
                  have bb := bn
                  clear bn
                  refine hK.out _ _ (HSS.out _ bb) (fun hS => ?_)
                  clear hK K'
                  obtain ⟨Zt, hZe⟩ : ∃ Z, Z = Wd.heap.size := ⟨_, rfl⟩
                  rw [← hZe] at hz hZ hne ⊢
                  clear hZe
                  generalize Wd.alloc (Obj.cells #[.int .i64 0, .int .i64 0] 137) = v6 at *
                  try simp only [Act.put, List.setIfInBounds_toArray, List.set_cons_zero, List.set_cons_succ]
                  refine wpAnyH_ready (rs := [4]) (by kernel_rfl) (by simp) ?_
                  refine (AllReadyH.cons rfl (fun K' hK => ?_) AllReadyH.nil)
                  · go_simp
                    go_at_call 110
                    refine (HT1.out _).mono ?_
                    rintro e v7 ⟨rfl, hb⟩
                    have bn := nt_b bb hb
                    have hzn := nt_z hz hb
                    clear hz
                    have hz := hzn
                    clear hzn
                    clear bb hS
                    have bb := bn
                    clear bn hb
                    refine hK.out _ _ (HSS.out _ bb) (fun hS => ?_)
                    clear hK K'
                    try simp only [Act.put, List.setIfInBounds_toArray, List.set_cons_zero, List.set_cons_succ]
                    refine wpAnyH_ready (rs := [9]) (by kernel_rfl) (by simp) ?_
                    refine (AllReadyH.cons rfl (fun K' hK => ?_) AllReadyH.nil)
                    · go_simp
                      go_at_call 110
                      refine (HT2.out _).mono ?_
                      rintro e v8 ⟨rfl, hb⟩
                      have bn := nt_b bb hb
                      have hzn := nt_z hz hb
                      clear hz
                      have hz := hzn
                      clear hzn
                      clear bb hS
                      have bb := bn
                      clear bn hb
                      refine hK.out _ _ (HSS.out _ bb) (fun hS => ?_)
                      clear hK K'
                      try simp only [Act.put, List.setIfInBounds_toArray, List.set_cons_zero, List.set_cons_succ]
                      refine wpAnyH_take (i := 10) (v := .agg #[.int .i64 (t0 : Int), .int .i64 (t1 : Int)]) rfl (by kernel_rfl) (by kernel_rfl) (by kernel_rfl) (fun _ _ _ h => h) (Or.inl ⟨by rfl, fun w _ => by go_simp⟩) hS ?_
                      simp only [Act.put, List.setIfInBounds_toArray, List.set_cons_zero, List.set_cons_succ]
                      refine wpAnyH_ready (rs := [12]) (by kernel_rfl) (by simp) ?_
                      refine AllReadyH.cons rfl (fun K' hK => ?_) AllReadyH.nil
                      obtain ⟨e0, e1, g0, g1⟩ := nt_c hz
                      go_simp
                      refine hK.out _ _ ⟨nt_s hS.1 hne.1 _ _, nt_s hS.2 hne.2 _ _⟩ (fun hS => ?_)
                      refine wpAnyH_done (by kernel_rfl) ?_ _
                      go_wp2_with fail
                      go_meet
                      exact ⟨Zt, rfl, nt_w hz _ _, nt_u bb hZ _ _, hZ⟩
              case rest =>
                obtain ⟨Zt, rfl, hzt, hbt, hZt⟩ := hcut
                have HS5 := Lib.hid (HS1.out.on hbt)
                have HZ5 := Lib.hid (nt_z HZ1.out hbt)
                have HZT := Lib.hid hzt
                have HTZ : Hid (Zt ≠ Zk) := by have := (Array.getElem?_eq_some_iff.1 HZ1.out).1; show _ ≠ _; omega
                have HTV : Hid (∀ k, v.ownBlock = some k → k ≠ Zt) := fun k hk => by have := (HS1.out.mem.q.lt k hk).2; omega
                clear hzt hbt hZt HS1 HZ1 HZX HSS HT1 HT2 HOK
                generalize wc = Wb at *
                obtain ⟨z0, z1, _, _⟩ := nt_c HZT.out
                have HDW : Hid ((∀ o ∈ R.map loM, S2W o.1) ∧ ((R.map loM).map Prod.fst).Nodup) := by
                  have h8 : ∀ e ∈ R, e.1.1 < 8 ∧ e.1.2 < 8 := fun e he => by
                    obtain ⟨i, hi, rfl⟩ := List.getElem_of_mem he
                    have h := (HH.out.w i (by rw [List.length_map]; exact hi)).2.1
                    rw [List.getElem_map] at h
                    have h2 := hkey_lt a b (hdP R[i]).2
                    rw [← h] at h2
                    exact h2
                  refine ⟨fun o ho => ?_, ?_⟩
                  · obtain ⟨e, he, rfl⟩ := List.mem_map.1 ho
                    obtain ⟨h1, h2⟩ := h8 e he
                    exact ⟨WalkArith.wf_i64 (n := ((e.1.1 : Nat) : Int)) (by omega), WalkArith.wf_i64 (n := ((e.1.2 : Nat) : Int)) (by omega)⟩
                  · have hn := HH.out.nd
                    have e : (R.map loM).map Prod.fst = ((R.map hdP).map Prod.fst).map fun k : Nat × Nat => (((k.1 : Nat) : Int), ((k.2 : Nat) : Int)) := by
                      rw [List.map_map, List.map_map, List.map_map]; rfl
                    rw [e]
                    unfold List.Nodup at hn ⊢
                    rw [List.pairwise_map]
                    refine hn.imp fun {a b} hne he => hne ?_
                    simp only [Prod.mk.injEq] at he
                    exact Prod.ext (by omega) (by omega)
                have HTW : Hid (S2W (((t0 : Nat) : Int), ((t1 : Nat) : Int))) := ⟨WalkArith.wf_i64 (by have := HT0.out; omega), WalkArith.wf_i64 (by have := HT0.out; omega)⟩
                by_cases hin : (t0, t1) ∈ (R.map hdP).map Prod.fst
                · have HLT : Hid (Hds a b LS (R.map hdP) p (n + 1)) := HH.out.letter HPR.out.1 (by rw [HEG.out HPR.out.1, HTS.out]; exact hin)
                  obtain ⟨s', hs'⟩ : ∃ s', ((((t0 : Nat) : Int), ((t1 : Nat) : Int)), s') ∈ R.map loM := by
                    rw [List.map_map] at hin
                    obtain ⟨e, he, h1⟩ := List.mem_map.1 hin
                    have h1 : e.1 = (t0, t1) := h1
                    exact ⟨e.2.2, List.mem_map.2 ⟨e, he, by simp only [loM, h1]⟩⟩
                  have hlk : (Instr.lookup 132 (.map (some Mo)) (.agg #[.int .i64 (t0 : Int), .int .i64 (t1 : Int)]) true).run Try.prog Wb = .ok (.tuple #[.slice s'.1 s'.2.1 s'.2.2, .bool true]) Wb := s2K.hit HS5.out.mem.out HDW.out.1 HDW.out.2 HTW.out hs'
                  clear hin hs'
                  go_wp2_with fail
                  go_meet
                  exact ⟨v, R, rfl, HS5.out, HZ5.out, HNE.out, HLT.out, HEP.out⟩
                · have HIN := Lib.hid hin
                  have hlk : (Instr.lookup 132 (.map (some Mo)) (.agg #[.int .i64 (t0 : Int), .int .i64 (t1 : Int)]) true).run Try.prog Wb = .ok (.tuple #[.slice none 0 0, .bool false]) Wb := s2K.miss HS5.out.mem.out HDW.out.1 HTW.out (fun h => hin (by
                    rw [List.map_map] at h ⊢
                    obtain ⟨e, he, h1⟩ := List.mem_map.1 h
                    refine List.mem_map.2 ⟨e, he, ?_⟩
                    have h1 : ((((e.1.1 : Nat) : Int), ((e.1.2 : Nat) : Int)) : S2) = (((t0 : Nat) : Int), ((t1 : Nat) : Int)) := h1
                    simp only [Prod.mk.injEq] at h1
                    exact Prod.ext (by show e.1.1 = t0; omega) (by show e.1.2 = t1; omega)))
                  clear hin
                  go_upto_region 13 with fail
                  clear z0 z1 hlk
                  have HEM : Hid (WyAt Wb w.heap.size (Ae, ne, ce) Ew) := HS5.out.mem.ws ((Ae, ne, ce), Ew) (List.mem_map.2 ⟨_, List.mem_of_getElem? HEP.out, rfl⟩)
                  have HE64 : Hid (Ew.length ≤ 64) := by have := HHW.out.2.2; have := HPR.out; show _ ≤ _; omega
                  obtain ⟨A', c', he, hsl⟩ := HEM.out.read (bt := 8) (by have := HE64.out; omega)
                  obtain ⟨rfl, rfl, rfl⟩ : Ae = A' ∧ ne = Ew.length ∧ ce = c' := by simpa [slV] using he
                  have HEW : Hid (∀ W, Below Wb.heap.size Wb W → Rd W 0 Ae (Ew.flatMap inC)) := fun W hb => (hsl.zero.below hb).rd
                  have HEL : Hid (Ew.length ≤ 1000000000) := by have := HE64.out; show _ ≤ _; omega
                  have HEL1 : Hid (Ew.length + 1 ≤ 1000000000) := by have := HE64.out; show _ ≤ _; omega
                  have HLO : Hid (w.heap.size ≤ Wb.heap.size) := HS5.out.below.size
                  clear he hsl HEM
                  obtain ⟨S13, hS13⟩ : ∃ S : World → Prop, S = fun w' => (∃ D', HdM w.heap.size w' Mo v D' ((R.drop (p + 1)).map hdK) (R.map hdW) ∧ (∀ o ∈ D', S2W o.1) ∧ (D'.map Prod.fst).Nodup ∧ ((((k0 : Nat) : Int), ((k1 : Nat) : Int)), (Ae, Ew.length, ce)) ∈ D') ∧ w'.heap[Zt]? = some (Obj.cells #[.int .i64 (t0 : Int), .int .i64 (t1 : Int)] 137 (0, 0)) ∧ w'.heap[Zk]? = some (Obj.cells #[.int .i64 (k0 : Int), .int .i64 (k1 : Int)] 137 (0, 0)) := ⟨_, rfl⟩
                  have HS13 : Hid (∀ w', S13 w' → (∃ D', HdM w.heap.size w' Mo v D' ((R.drop (p + 1)).map hdK) (R.map hdW) ∧ (∀ o ∈ D', S2W o.1) ∧ (D'.map Prod.fst).Nodup ∧ ((((k0 : Nat) : Int), ((k1 : Nat) : Int)), (Ae, Ew.length, ce)) ∈ D') ∧ w'.heap[Zt]? = some (Obj.cells #[.int .i64 (t0 : Int), .int .i64 (t1 : Int)] 137 (0, 0)) ∧ w'.heap[Zk]? = some (Obj.cells #[.int .i64 (k0 : Int), .int .i64 (k1 : Int)] 137 (0, 0))) := fun w' h => by rw [hS13] at h; exact h
                  have HEK : Hid (((((k0 : Nat) : Int), ((k1 : Nat) : Int)), (Ae, Ew.length, ce)) ∈ R.map loM) := List.mem_map.2 ⟨_, List.mem_of_getElem? HEP.out, rfl⟩
                  have HSS : Hid (∀ W, Below Wb.heap.size Wb W → S13 W) := fun W hb => by
                    rw [hS13]
                    exact ⟨⟨_, HS5.out.mem.on hb, HDW.out.1, HDW.out.2, HEK.out⟩, nt_z HZT.out hb, nt_z HZ5.out hb⟩
                  have HLK : Hid (∀ w', S13 w' → (Instr.lookup 132 (.map (some Mo)) (.agg #[.int .i64 (k0 : Int), .int .i64 (k1 : Int)]) false).run Try.prog w' = .ok (.slice Ae Ew.length ce) w') := fun w' h => by
                    obtain ⟨⟨D', h1, h2, h3, h4⟩, _⟩ := HS13.out w' h
                    exact s2K.get h1.out h2 h3 ⟨WalkArith.wf_i64 (by have := HK8.out; omega), WalkArith.wf_i64 (by have := HK8.out; omega)⟩ h4
                  have HPUT : Hid (∀ W, Below Wb.heap.size Wb W → ∀ (A : Option Addr) (c : Nat), WyAt W w.heap.size (A, Ew.length + 1, c) (Ew ++ [(n : Int)]) → ∃ W', (Instr.mapUpdate 132 (.map (some Mo)) (.agg #[.int .i64 (t0 : Int), .int .i64 (t1 : Int)]) (.slice A (Ew.length + 1) c)).run Try.prog W = .ok () W' ∧ S13 W' ∧
                      ∃ s, HdM w.heap.size W' Mo v (R.map loM ++ [((((t0 : Nat) : Int), ((t1 : Nat) : Int)), s)]) ((R.drop (p + 1)).map hdK) ((s, Ew ++ [(n : Int)]) :: R.map hdW) ∧ Below w.heap.size w W' ∧ W'.heap[Zt]? = some (Obj.cells #[.int .i64 (t0 : Int), .int .i64 (t1 : Int)] 137 (0, 0)) ∧ W'.heap[Zk]? = some (Obj.cells #[.int .i64 (k0 : Int), .int .i64 (k1 : Int)] 137 (0, 0))) := fun W hb A c hw => by
                    have hm := (HS5.out.mem.on hb).add hw
                    obtain ⟨W', h1, h2, h3⟩ := hm.put (by have := HPR.out.2; rw [List.length_map] at this ⊢; omega) HTW.out (A, Ew.length + 1, c)
                    have k1 := keep_map h3 hm.out.block (nt_z HZT.out hb)
                    have k2 := keep_map h3 hm.out.block (nt_z HZ5.out hb)
                    have kb : Below w.heap.size w W' := (Below_on HS5.out.below hb HS5.out.below.size).grown h3 (Nat.le_trans HS5.out.below.size hb.size) fun k hk => by obtain rfl := Option.some.inj hk; exact hm.bM
                    refine ⟨W', h1, ?_, (A, Ew.length + 1, c), h2, kb, k1, k2⟩
                    rw [hS13]
                    refine ⟨⟨_, h2.sub (fun s hs => List.mem_cons_of_mem _ hs), fun o ho => ?_, ?_, List.mem_append_left _ HEK.out⟩, k1, k2⟩
                    · rcases List.mem_append.1 ho with h | h
                      · exact HDW.out.1 o h
                      · rw [List.mem_singleton.1 h]; exact HTW.out
                    · rw [List.map_append, List.nodup_append]
                      refine ⟨HDW.out.2, by simp, fun x hx y hy => ?_⟩
                      obtain rfl : y = (((t0 : Nat) : Int), ((t1 : Nat) : Int)) := by simpa using hy
                      rintro rfl
                      refine HIN.out ?_
                      rw [List.map_map] at hx ⊢
                      obtain ⟨e, he, h1⟩ := List.mem_map.1 hx
                      refine List.mem_map.2 ⟨e, he, ?_⟩
                      have h1 : ((((e.1.1 : Nat) : Int), ((e.1.2 : Nat) : Int)) : S2) = (((t0 : Nat) : Int), ((t1 : Nat) : Int)) := h1
                      simp only [Prod.mk.injEq] at h1
                      exact Prod.ext (by show e.1.1 = t0; omega) (by show e.1.2 = t1; omega)
                  clear hS13
                  go_cut [] (fun wx => ∃ s, HdM w.heap.size wx Mo v (R.map loM ++ [((((t0 : Nat) : Int), ((t1 : Nat) : Int)), s)]) ((R.drop (p + 1)).map hdK) ((s, Ew ++ [(n : Int)]) :: R.map hdW) ∧ Below w.heap.size w wx ∧ wx.heap[Zt]? = some (Obj.cells #[.int .i64 (t0 : Int), .int .i64 (t1 : Int)] 137 (0, 0)) ∧ wx.heap[Zk]? = some (Obj.cells #[.int .i64 (k0 : Int), .int .i64 (k1 : Int)] 137 (0, 0)))
                  case first =>
                    refine wp_region_held_drew (S := S13) (by kernel_rfl) (HSS.out _ (Below.refl _ _).drew) ?_
                    intro hS
                    have bb : Below Wb.heap.size Wb Wb.drew := (Below.refl _ _).drew
                    generalize Wb.drew = Wd at *
                    refine wpAnyH_take (i := 0) (v := .map (some Mo)) rfl (by kernel_rfl) (by kernel_rfl) (by kernel_rfl) (fun _ _ _ h => h) (Or.inl ⟨by rfl, fun w _ => by go_simp⟩) hS ?_
                    simp only [Act.put, List.setIfInBounds_toArray, List.set_cons_zero, List.set_cons_succ]
                    refine wpAnyH_take (i := 1) (v := .agg #[.int .i64 (t0 : Int), .int .i64 (t1 : Int)]) rfl (by kernel_rfl) (by kernel_rfl) (by kernel_rfl) (fun _ _ _ h => h) (Or.inl ⟨by rfl, fun w hw => by obtain ⟨h18, h19, _, _⟩ := nt_c ((HS13.out w hw).2.1); go_simp⟩) hS ?_
                    simp only [Act.put, List.setIfInBounds_toArray, List.set_cons_zero, List.set_cons_succ]
                    refine wpAnyH_take (i := 3) (v := .map (some Mo)) rfl (by kernel_rfl) (by kernel_rfl) (by kernel_rfl) (fun _ _ _ h => h) (Or.inl ⟨by rfl, fun w _ => by go_simp⟩) hS ?_
                    simp only [Act.put, List.setIfInBounds_toArray, List.set_cons_zero, List.set_cons_succ]
                    refine wpAnyH_take (i := 4) (v := .agg #[.int .i64 (k0 : Int), .int .i64 (k1 : Int)]) rfl (by kernel_rfl) (by kernel_rfl) (by kernel_rfl) (fun _ _ _ h => h) (Or.inl ⟨by rfl, fun w hw => by obtain ⟨h18, h19, _, _⟩ := nt_c ((HS13.out w hw).2.2); go_simp⟩) hS ?_
                    simp only [Act.put, List.setIfInBounds_toArray, List.set_cons_zero, List.set_cons_succ]
                    refine wpAnyH_take (i := 5) (v := .slice Ae Ew.length ce) rfl (by kernel_rfl) (by kernel_rfl) (by kernel_rfl) (fun _ _ _ h => h) (Or.inl ⟨by rfl, fun w hw => by have h18 := HLK.out w hw; go_simp⟩) hS ?_
                    simp only [Act.put, List.setIfInBounds_toArray, List.set_cons_zero, List.set_cons_succ]
                    refine wpAnyH_take (i := 7) (v := .int .i64 (n : Int)) rfl (by kernel_rfl) (by kernel_rfl) (by kernel_rfl) (fun _ _ _ h => h) (Or.inl ⟨by rfl, fun w _ => by go_simp⟩) hS ?_
                    simp only [Act.put, List.setIfInBounds_toArray, List.set_cons_zero, List.set_cons_succ]
                    refine wpAnyH_ready (rs := [2, 8]) (by kernel_rfl) (by simp) ?_
                    refine (AllReadyH.cons rfl (fun K' hK => ?_) (AllReadyH.cons rfl (fun K' hK => ?_) AllReadyH.nil))
                    · go_simp
                      have hb : Below Wd.heap.size Wd (Wd.alloc (Obj.cells #[] 3)) := (Below.refl _ _).alloc (Nat.le_refl _) _
                      have n14 := lo_14 Wd Wb.heap.size bb.size
                      have bn := nt_b bb hb
                      clear bb hS
                      have bb := bn
                      clear bn
                      clear hb
                      have h14 := n14
                      clear n14
                      refine hK.out _ _ (HSS.out _ bb) (fun hS => ?_)
                      clear hK K'
                      obtain ⟨Ba, hBa⟩ : ∃ Z, Z = Wd.heap.size := ⟨_, rfl⟩
                      rw [← hBa] at h14 ⊢
                      clear hBa
                      generalize Wd.alloc (Obj.cells #[] 3) = y1 at *
                      try simp only [Act.put, List.setIfInBounds_toArray, List.set_cons_zero, List.set_cons_succ]
                      refine wpAnyH_ready (rs := [6, 8]) (by kernel_rfl) (by simp) ?_
                      refine (AllReadyH.cons rfl (fun K' hK => ?_) (AllReadyH.cons rfl (fun K' hK => ?_) AllReadyH.nil))
                      · obtain ⟨A17, c17, y2, hrun, h17, hg⟩ := lo_app0 h14 (HEW.out _ bb) bb.size HEL.out
                        have hb : Below Wb.heap.size y1 y2 := (Below.refl _ _).grown hg bb.size (fun k hk => by obtain rfl := Option.some.inj hk; exact (h14.lt _ rfl).1)
                        have bn := bb.trans hb
                        refine step_appRun rfl (.tmp 63) (.tmp 66) _ _ rfl (.slice (some ⟨Ba, 0, none⟩) 0 0) (.slice Ae Ew.length ce) (.slice A17 Ew.length c17) (by go_simp) (by go_simp) hrun ?_
                        clear hrun bb hS hg hb h14
                        have bb := bn
                        clear bn
                        refine hK.out _ _ (HSS.out _ bb) (fun hS => ?_)
                        clear hK K'
                        try simp only [Act.put, List.setIfInBounds_toArray, List.set_cons_zero, List.set_cons_succ]
                        refine wpAnyH_ready (rs := [8]) (by kernel_rfl) (by simp) ?_
                        refine (AllReadyH.cons rfl (fun K' hK => ?_) AllReadyH.nil)
                        · go_simp
                          have hb : Below y2.heap.size y2 (y2.alloc (Obj.cells #[.int .i64 (n : Int)] 3)) := (Below.refl _ _).alloc (Nat.le_refl _) _
                          have n19 := lo_19 y2 (n : Int)
                          have bn := nt_b bb hb
                          have nh17 := own_below h17 hb
                          clear bb hS h17
                          have bb := bn
                          have h17 := nh17
                          clear bn nh17
                          clear hb
                          have h19 := n19
                          clear n19
                          refine hK.out _ _ (HSS.out _ bb) (fun hS => ?_)
                          clear hK K'
                          obtain ⟨Bn, hBn⟩ : ∃ Z, Z = y2.heap.size := ⟨_, rfl⟩
                          rw [← hBn] at h19 ⊢
                          clear hBn
                          generalize y2.alloc (Obj.cells #[.int .i64 (n : Int)] 3) = y3 at *
                          try simp only [Act.put, List.setIfInBounds_toArray, List.set_cons_zero, List.set_cons_succ]
                          refine wpAnyH_ready (rs := [9]) (by kernel_rfl) (by simp) ?_
                          refine (AllReadyH.cons rfl (fun K' hK => ?_) AllReadyH.nil)
                          · obtain ⟨A20, c20, y4, hrun, h20, hg⟩ := lo_app1 h17 h19 bb.size HEL1.out
                            have bn : Below Wb.heap.size Wb y4 := bb.grown hg bb.size (fun k hk => (h17.lt k hk).1)
                            refine step_appRun rfl (.tmp 67) (.tmp 69) _ _ rfl (.slice A17 Ew.length c17) (.slice (some ⟨Bn, 0, none⟩) 1 1) (.slice A20 (Ew.length + 1) c20) (by go_simp) (by go_simp) hrun ?_
                            clear hrun bb hS hg h17 h19
                            have bb := bn
                            clear bn
                            refine hK.out _ _ (HSS.out _ bb) (fun hS => ?_)
                            clear hK K'
                            try simp only [Act.put, List.setIfInBounds_toArray, List.set_cons_zero, List.set_cons_succ]
                            refine wpAnyH_ready (rs := [10]) (by kernel_rfl) (by simp) ?_
                            refine (AllReadyH.cons rfl (fun K' hK => ?_) AllReadyH.nil)
                            · obtain ⟨y5, hrun, hs13, hfin⟩ := HPUT.out y4 bb A20 c20 (h20.low HLO.out)
                              go_simp
                              refine hK.out _ _ hs13 (fun hS => ?_)
                              clear hK K'
                              refine wpAnyH_done (by kernel_rfl) ?_ _
                              go_wp2_with fail
                              go_meet
                              exact hfin
                      · have hnb : y1.heap.size ≠ Ba := (Nat.ne_of_lt (h14.lt _ rfl).2).symm
                        go_simp
                        have hb : Below y1.heap.size y1 (y1.alloc (Obj.cells #[.int .i64 (n : Int)] 3)) := (Below.refl _ _).alloc (Nat.le_refl _) _
                        have n19 := lo_19 y1 (n : Int)
                        have bn := nt_b bb hb
                        have nh14 := own_below h14 hb
                        clear bb hS h14
                        have bb := bn
                        have h14 := nh14
                        clear bn nh14
                        clear hb
                        have h19 := n19
                        clear n19
                        refine hK.out _ _ (HSS.out _ bb) (fun hS => ?_)
                        clear hK K'
                        obtain ⟨Bn, hBn⟩ : ∃ Z, Z = y1.heap.size := ⟨_, rfl⟩
                        rw [← hBn] at h19 hnb ⊢
                        clear hBn
                        generalize y1.alloc (Obj.cells #[.int .i64 (n : Int)] 3) = y6 at *
                        try simp only [Act.put, List.setIfInBounds_toArray, List.set_cons_zero, List.set_cons_succ]
                        refine wpAnyH_ready (rs := [6]) (by kernel_rfl) (by simp) ?_
                        refine (AllReadyH.cons rfl (fun K' hK => ?_) AllReadyH.nil)
                        · obtain ⟨A17, c17, y7, hrun, h17, hg⟩ := lo_app0 h14 (HEW.out _ bb) bb.size HEL.out
                          have hb : Below Wb.heap.size y6 y7 := (Below.refl _ _).grown hg bb.size (fun k hk => by obtain rfl := Option.some.inj hk; exact (h14.lt _ rfl).1)
                          have bn := bb.trans hb
                          have nh19 := lo_rd h19 hg hnb
                          refine step_appRun rfl (.tmp 63) (.tmp 66) _ _ rfl (.slice (some ⟨Ba, 0, none⟩) 0 0) (.slice Ae Ew.length ce) (.slice A17 Ew.length c17) (by go_simp) (by go_simp) hrun ?_
                          clear hrun bb hS hg hb h14
                          have bb := bn
                          clear bn
                          clear h19
                          have h19 := nh19
                          clear nh19
                          refine hK.out _ _ (HSS.out _ bb) (fun hS => ?_)
                          clear hK K'
                          try simp only [Act.put, List.setIfInBounds_toArray, List.set_cons_zero, List.set_cons_succ]
                          refine wpAnyH_ready (rs := [9]) (by kernel_rfl) (by simp) ?_
                          refine (AllReadyH.cons rfl (fun K' hK => ?_) AllReadyH.nil)
                          · obtain ⟨A20, c20, y8, hrun, h20, hg⟩ := lo_app1 h17 h19 bb.size HEL1.out
                            have bn : Below Wb.heap.size Wb y8 := bb.grown hg bb.size (fun k hk => (h17.lt k hk).1)
                            refine step_appRun rfl (.tmp 67) (.tmp 69) _ _ rfl (.slice A17 Ew.length c17) (.slice (some ⟨Bn, 0, none⟩) 1 1) (.slice A20 (Ew.length + 1) c20) (by go_simp) (by go_simp) hrun ?_
                            clear hrun bb hS hg h17 h19
                            have bb := bn
                            clear bn
                            refine hK.out _ _ (HSS.out _ bb) (fun hS => ?_)
                            clear hK K'
                            try simp only [Act.put, List.setIfInBounds_toArray, List.set_cons_zero, List.set_cons_succ]
                            refine wpAnyH_ready (rs := [10]) (by kernel_rfl) (by simp) ?_
                            refine (AllReadyH.cons rfl (fun K' hK => ?_) AllReadyH.nil)
                            · obtain ⟨y9, hrun, hs13, hfin⟩ := HPUT.out y8 bb A20 c20 (h20.low HLO.out)
                              go_simp
                              refine hK.out _ _ hs13 (fun hS => ?_)
                              clear hK K'
                              refine wpAnyH_done (by kernel_rfl) ?_ _
                              go_wp2_with fail
                              go_meet
                              exact hfin
                    · go_simp
                      have hb : Below Wd.heap.size Wd (Wd.alloc (Obj.cells #[.int .i64 (n : Int)] 3)) := (Below.refl _ _).alloc (Nat.le_refl _) _
                      have n19 := lo_19 Wd (n : Int)
                      have bn := nt_b bb hb
                      clear bb hS
                      have bb := bn
                      clear bn
                      clear hb
                      have h19 := n19
                      clear n19
                      refine hK.out _ _ (HSS.out _ bb) (fun hS => ?_)
                      clear hK K'
                      obtain ⟨Bn, hBn⟩ : ∃ Z, Z = Wd.heap.size := ⟨_, rfl⟩
                      rw [← hBn] at h19 ⊢
                      clear hBn
                      generalize Wd.alloc (Obj.cells #[.int .i64 (n : Int)] 3) = y10 at *
                      try simp only [Act.put, List.setIfInBounds_toArray, List.set_cons_zero, List.set_cons_succ]
                      refine wpAnyH_ready (rs := [2]) (by kernel_rfl) (by simp) ?_
                      refine (AllReadyH.cons rfl (fun K' hK => ?_) AllReadyH.nil)
                      · have hnb : Bn ≠ y10.heap.size := Nat.ne_of_lt (lo_lt h19)
                        go_simp
                        have hb : Below y10.heap.size y10 (y10.alloc (Obj.cells #[] 3)) := (Below.refl _ _).alloc (Nat.le_refl _) _
                        have n14 := lo_14 y10 Wb.heap.size bb.size
                        have bn := nt_b bb hb
                        have nh19 := Rd.below h19 hb (Nat.le_refl _)
                        clear bb hS h19
                        have bb := bn
                        have h19 := nh19
                        clear bn nh19
                        clear hb
                        have h14 := n14
                        clear n14
                        refine hK.out _ _ (HSS.out _ bb) (fun hS => ?_)
                        clear hK K'
                        obtain ⟨Ba, hBa⟩ : ∃ Z, Z = y10.heap.size := ⟨_, rfl⟩
                        rw [← hBa] at h14 hnb ⊢
                        clear hBa
                        generalize y10.alloc (Obj.cells #[] 3) = y11 at *
                        try simp only [Act.put, List.setIfInBounds_toArray, List.set_cons_zero, List.set_cons_succ]
                        refine wpAnyH_ready (rs := [6]) (by kernel_rfl) (by simp) ?_
                        refine (AllReadyH.cons rfl (fun K' hK => ?_) AllReadyH.nil)
                        · obtain ⟨A17, c17, y12, hrun, h17, hg⟩ := lo_app0 h14 (HEW.out _ bb) bb.size HEL.out
                          have hb : Below Wb.heap.size y11 y12 := (Below.refl _ _).grown hg bb.size (fun k hk => by obtain rfl := Option.some.inj hk; exact (h14.lt _ rfl).1)
                          have bn := bb.trans hb
                          have nh19 := lo_rd h19 hg hnb
                          refine step_appRun rfl (.tmp 63) (.tmp 66) _ _ rfl (.slice (some ⟨Ba, 0, none⟩) 0 0) (.slice Ae Ew.length ce) (.slice A17 Ew.length c17) (by go_simp) (by go_simp) hrun ?_
                          clear hrun bb hS hg hb h14
                          have bb := bn
                          clear bn
                          clear h19
                          have h19 := nh19
                          clear nh19
                          refine hK.out _ _ (HSS.out _ bb) (fun hS => ?_)
                          clear hK K'
                          try simp only [Act.put, List.setIfInBounds_toArray, List.set_cons_zero, List.set_cons_succ]
                          refine wpAnyH_ready (rs := [9]) (by kernel_rfl) (by simp) ?_
                          refine (AllReadyH.cons rfl (fun K' hK => ?_) AllReadyH.nil)
                          · obtain ⟨A20, c20, y13, hrun, h20, hg⟩ := lo_app1 h17 h19 bb.size HEL1.out
                            have bn : Below Wb.heap.size Wb y13 := bb.grown hg bb.size (fun k hk => (h17.lt k hk).1)
                            refine step_appRun rfl (.tmp 67) (.tmp 69) _ _ rfl (.slice A17 Ew.length c17) (.slice (some ⟨Bn, 0, none⟩) 1 1) (.slice A20 (Ew.length + 1) c20) (by go_simp) (by go_simp) hrun ?_
                            clear hrun bb hS hg h17 h19
                            have bb := bn
                            clear bn
                            refine hK.out _ _ (HSS.out _ bb) (fun hS => ?_)
                            clear hK K'
                            try simp only [Act.put, List.setIfInBounds_toArray, List.set_cons_zero, List.set_cons_succ]
                            refine wpAnyH_ready (rs := [10]) (by kernel_rfl) (by simp) ?_
                            refine (AllReadyH.cons rfl (fun K' hK => ?_) AllReadyH.nil)
                            · obtain ⟨y14, hrun, hs13, hfin⟩ := HPUT.out y13 bb A20 c20 (h20.low HLO.out)
                              go_simp
                              refine hK.out _ _ hs13 (fun hS => ?_)
                              clear hK K'
                              refine wpAnyH_done (by kernel_rfl) ?_ _
                              go_wp2_with fail
                              go_meet
                              exact hfin
                  case rest =>
                    obtain ⟨s, hm, hbw, hzt, hzk⟩ := hcut
                    clear HSS HLK HPUT HS13 HS5 HZ5 HZT HEW HEL HEL1
                    obtain ⟨y0, y1, _, _⟩ := nt_c hzt
                    have hbn : Below wc.heap.size wc (wc.alloc (Obj.cells #[.int .i64 (t0 : Int), .int .i64 (t1 : Int)] 137)) := (Below.refl _ _).alloc (Nat.le_refl _) _
                    have hql : ((R.drop (p + 1)).map hdK).length ≤ 64 := by have := HPR.out.2; rw [List.length_map] at this ⊢; rw [List.length_drop]; omega
                    obtain ⟨A9, c9, W9, hrun, hm9, hg9, hown⟩ := (hm.on hbn).app (by omega) (((t0 : Nat) : Int), ((t1 : Nat) : Int)) (allocNew wc _) (by have := hbw.size; simp; omega)
                    obtain ⟨lq, hlq⟩ : ∃ l, l = ((R.drop (p + 1)).map hdK).length := ⟨_, rfl⟩
                    rw [← hlq] at hrun hm9 hown
                    have HRUN := Lib.hid hrun
                    have HFIN : Hid (∃ v R, (.slice A9 (lq + 1) c9 : Value) = v ∧ HdS w W9 Mo v R (p + 1) ∧ W9.heap[Zk]? = some (Obj.cells #[.int .i64 (k0 : Int), .int .i64 (k1 : Int)] 137 (0, 0)) ∧ (∀ k, v.ownBlock = some k → k ≠ Zk) ∧ Hds a b LS (R.map hdP) p (n + 1) ∧ R[p]? = some ((k0, k1), Ew, Ae, Ew.length, ce)) := by
                      have hpl : p < R.length := (List.getElem?_eq_some_iff.1 HEP.out).1
                      have hle : p + 1 ≤ R.length := hpl
                      have hlen : (Ew ++ [(n : Int)]).length ≤ (R.map hdP).length := by
                        rw [List.length_append, List.length_singleton]
                        have := HHW.out.2.2
                        have := HPR.out.1
                        omega
                      have hadd := HH.out.add (w := Ew ++ [(n : Int)]) (LtrIn.snoc.2 ⟨HHW.out.1, by omega, by have := HN.out; omega⟩) (by rw [HTK.out]; exact HIN.out) hlen HPR.out.1
                      rw [HTK.out] at hadd
                      have e2 : (R ++ [((t0, t1), Ew ++ [(n : Int)], s)]).map hdP = R.map hdP ++ [((t0, t1), Ew ++ [(n : Int)])] := by rw [List.map_append]; rfl
                      have hp2 : p < (R.map hdP ++ [((t0, t1), Ew ++ [(n : Int)])]).length := by rw [List.length_append]; have := HPR.out.1; omega
                      refine ⟨_, R ++ [((t0, t1), Ew ++ [(n : Int)], s)], rfl, ⟨?_, ?_, by rw [List.length_append]; omega⟩, ?_, ?_, ?_, ?_⟩
                      · rw [List.map_append, List.drop_append_of_le_length hle, List.map_append, List.map_append]
                        exact hm9.sub fun t ht => by
                          rcases List.mem_append.1 ht with h | h
                          · exact List.mem_cons_of_mem _ h
                          · rw [List.mem_singleton.1 h]; exact List.mem_cons_self ..
                      · exact (Below_on hbw hbn hbw.size).grown hg9 (by have := hbw.size; simp; omega) fun k hk => (hm.q.lt k hk).1
                      · refine (hg9.block Zk (by have := (Array.getElem?_eq_some_iff.1 hzk).1; simp; omega) (fun e => HNE.out Zk e.symm rfl)).trans (nt_z hzk hbn)
                      · intro k hk
                        rcases hown k hk with h | h
                        · exact HNE.out k h
                        · have := (Array.getElem?_eq_some_iff.1 hzk).1
                          simp at h
                          omega
                      · rw [e2]
                        refine hadd.letter hp2 ?_
                        have hg : (R.map hdP ++ [((t0, t1), Ew ++ [(n : Int)])])[p] = ((k0, k1), Ew) := by rw [List.getElem_append_left HPR.out.1]; exact HEG.out HPR.out.1
                        rw [hg, HTS.out, List.map_append]
                        exact List.mem_append_right _ (List.mem_singleton.2 rfl)
                      · rw [List.getElem?_append_left hpl]; exact HEP.out
                    clear hrun hm9 hg9 hown hm hbw hzt hzk hbn hql hlq
                    go_wp2_with (at_builtin; refine wpList_appRun rfl (.tmp 71) (.tmp 73) _ _ rfl _ _ _ rfl rfl HRUN.out ?_)
                    go_meet
                    exact HFIN.out
            case rest =>
              obtain ⟨v', R', rfl, k1', k2', k3', k4', k5'⟩ := hcut
              have K1 := Lib.hid k1'
              have K2 := Lib.hid k2'
              have K3 := Lib.hid k3'
              have K4 := Lib.hid k4'
              have K5 := Lib.hid k5'
              clear k1' k2' k3' k4' k5' hla hrng
              go_wp2_with fail
              go_roundw
              case rel => exact ⟨n + 1, HN.out, by go_num, _, R', rfl, K1, K2, K3, K4, K5⟩
              case measure => simp [intOf]; have := HN.out; omega
          · have qn : ¬ (n : Int) < (LS.length : Int) := by omega
            have hnn : n = LS.length := by omega
            have HHN : Hid (Hds a b LS (R.map hdP) (p + 1) 0) := Hds.next (by rw [← hnn]; exact HH.out)
            clear hnn
            go_wp2_with fail
            go_roundg (64 - (p + 1))
            case measure => exact HKB.out.1
            case rel => exact ⟨_, R, p + 1, rfl, HKB.out.2, HS, HHN⟩
    · have hd0 : R.drop p = [] := List.drop_of_length_le (by omega)
      have hq := HS.out.mem.q
      rw [hd0] at hq
      obtain ⟨A9, c9, rfl, _, _⟩ := hq.form
      have HP : Hid (HdPost a b LS w (.returned (.map (some Mo))) wr) := ⟨⟨Mo, R, p, rfl, HS.out.mem.out, HBM.out, HH.out, by omega, fun o ho => HS.out.mem.ws (o.2.2, o.2.1) (List.mem_map.2 ⟨o, ho, rfl⟩)⟩, HS.out.below⟩
      clear hq hd0
      go_wp2_with fail
      go_ret
      exact HP.out
end Go.Proofs.Ytoglgeaiiipchaa
