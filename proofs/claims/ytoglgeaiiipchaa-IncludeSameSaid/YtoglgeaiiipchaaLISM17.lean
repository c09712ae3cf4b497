/- Walks: include's search for loops. -/
import Derived.Test.YtoglgeaiiipchaaLISM12
import Derived.Deep.LoopGhost
set_option linter.unusedSimpArgs false
set_option linter.unusedVariables false
namespace Go.Proofs.Ytoglgeaiiipchaa
open Go Go.RowKit Go.Maps

structure LoPost (LS : List Bp) (w : World) (e : Ending) (w' : World) : Prop where
  is : ∃ (Mo : Nat) (OL : List LO) (R : List (Bp × List Int)) (p : Nat), e = .returned (.map (some Mo)) ∧ GAt 137 s2L slE slD w' Mo (OL.map loM) ∧ w.heap.size ≤ Mo ∧ OL.map loP = outsOf R ∧ Bfs LS R p 0 ∧ R.length ≤ p ∧ BfsA LS R LS.length ∧ (∀ o ∈ OL, WyAt w' w.heap.size o.2.2 o.2.1) ∧ ∀ o ∈ OL, o.2.1.length ≤ 387420489
  below : Below w.heap.size w w'
set_option maxRecDepth 100000 in
set_option maxHeartbeats 40000000 in
theorem loops_ (a b : Au) (fa : AuFit a) (fb : AuFit b) (a3 : a.st ≤ 3) (b3 : b.st ≤ 3) (LS : List Bp) (hL : LetOK a b LS) (hl8 : LS.length ≤ 8) (Vs : Nat) (A : Option Addr) (c : Nat) (w : World) (hs : w.cell? ⟨Vs, 0, none⟩ = some (.slice A LS.length c)) (hVs : Vs < w.heap.size) (hr : Bps w 0 A c LS) :
    Calls Try.prog 91 #[.pointer (some ⟨Vs, 0, none⟩)] w (LoPost LS w) := by
  have hmm := @run_makeMap Try.prog
  have hlc := hr.le
  have hcc := hr.cap
  have HST := Lib.hid (LpS.start w)
  have HFA := Lib.hid fa
  have HFB := Lib.hid fb
  have HA3 := Lib.hid a3
  have HB3 := Lib.hid b3
  have HL := Lib.hid hL
  have HL8 := Lib.hid hl8
  have HC : Hid (∀ W, Below w.heap.size w W → W.cell? ⟨Vs, 0, none⟩ = some (.slice A LS.length c)) := fun W hb => (hb.cell (p := ⟨Vs, 0, none⟩) hVs).trans hs
  have HR : Hid (∀ W, Below w.heap.size w W → Bps W 0 A c LS) := fun W hb => hr.below hb
  clear fa fb a3 b3 hL hl8 hs hr hVs
  go_enter Try.func91, Try.ntmps91
  go_upto_region 5 with fail
  obtain ⟨Mo, h0⟩ : ∃ V, V = w.heap.size := ⟨_, rfl⟩
  obtain ⟨Vo, h1⟩ : ∃ V, V = w.heap.size + 1 := ⟨_, rfl⟩
  obtain ⟨Mm, h2⟩ : ∃ V, V = w.heap.size + 1 + 1 := ⟨_, rfl⟩
  obtain ⟨Vm, h3⟩ : ∃ V, V = w.heap.size + 1 + 1 + 1 := ⟨_, rfl⟩
  obtain ⟨Vl, h4⟩ : ∃ V, V = w.heap.size + 1 + 1 + 1 + 1 := ⟨_, rfl⟩
  rw [← h4, ← h3, ← h2, ← h1, ← h0] at HST ⊢
  have HMO := Lib.hid (Nat.le_of_eq h0.symm)
  clear h0 h1 h2 h3 h4 hmm
  generalize ((((w.alloc (Obj.map #[] 0)).alloc (Obj.cells #[.map (some Mo)] 132)).alloc (Obj.map #[] 0)).alloc (Obj.cells #[.map (some Mm)] 149)).alloc (Obj.cells #[.slice none 0 0] 150) = W0 at *
  have c0 := HC.out W0 HST.out.below
  go_wp2_with fail
  clear c0
  go_loopw [20] (fun v20 wr => ∃ n : Nat, n ≤ LS.length ∧ v20 = .int .i64 (n : Int) ∧ ∃ v R OL, Hid (LpS w wr Vm Vl Vo Mm Mo v R 0 OL) ∧ Hid (Bfs LS (R.map enP) 0 0) ∧ Hid (BfsA LS (R.map enP) n) ∧ Hid (∀ e ∈ R.map enP, e.2.length ≤ 1) ∧ Hid (LenOK R)) (fun v20 _ => LS.length - (intOf v20).toNat)
  case atStart => exact ⟨0, Nat.zero_le _, rfl, _, _, _, HST, Lib.hid (Bfs.nil LS), fun n hn => absurd hn (Nat.not_lt_zero _), fun e he => by simp at he, fun i hi => absurd hi (Nat.not_lt_zero _)⟩
  case round =>
    clear HST
    obtain ⟨n, hn, rfl, v, R, OL, HS, HBF, HBA, HLE, HLN⟩ := hrel
    by_cases hnl : n < LS.length
    · have qn : (n : Int) < (LS.length : Int) := by omega
      have HN := Lib.hid hnl
      obtain ⟨bA, oA, rfl, _, hrng⟩ := (HR.out wr HS.out.below).range hnl
      have HOK := Lib.hid (HL.out.ok hnl)
      have HGD : Hid (LS.getD n bx0 = LS[n]) := getD_lt hnl
      generalize LS[n] = X at *
      have hla := there_new wr #[.int .u8 0, .int .u8 0, .int .u8 0, .int .u8 0, .int .u8 0, .int .u8 0, .int .u8 0, .int .u8 0, .int .u8 0, .int .u8 0, .int .u8 0, .int .u8 0, .int .u8 0, .int .u8 0, .int .u8 0, .int .u8 0, .int .u8 0, .int .u8 0] 131
      go_upto_region 8 with (first
        | (refine wpList_load_mid rfl 131 (.tmp 23) rfl bA (oA + n * 18) rfl (bpC X) _ hrng Try.underlying131 rfl (infoBp18 X) ?_)
        | (refine wpList_store_mid rfl 131 (.tmp 8) (.tmp 24) rfl wr.heap.size 0 (bpC X).toArray rfl rfl hla infoBoxes (all_oneCell_toArray (bpC_one X)) ?_))
      clear hla hrng
      obtain ⟨hz, hzb, hzs⟩ := newRow wr #[.int .u8 0, .int .u8 0, .int .u8 0, .int .u8 0, .int .u8 0, .int .u8 0, .int .u8 0, .int .u8 0, .int .u8 0, .int .u8 0, .int .u8 0, .int .u8 0, .int .u8 0, .int .u8 0, .int .u8 0, .int .u8 0, .int .u8 0, .int .u8 0] (bpC X).toArray.toList 131 rfl
      replace hz : _ = some (Obj.cells (bpC X).toArray 131 (0, 0)) := hz
      obtain ⟨Zx, hZx⟩ : ∃ Z, Z = wr.heap.size := ⟨_, rfl⟩
      rw [← hZx] at hz hzb hzs ⊢
      have HS1 := Lib.hid (HS.out.on (by rw [← hZx]; exact hzb))
      have hrx := range_row hz
      clear hz hzb hzs hZx HS
      generalize (wr.alloc (Obj.cells #[.int .u8 0, .int .u8 0, .int .u8 0, .int .u8 0, .int .u8 0, .int .u8 0, .int .u8 0, .int .u8 0, .int .u8 0, .int .u8 0, .int .u8 0, .int .u8 0, .int .u8 0, .int .u8 0, .int .u8 0, .int .u8 0, .int .u8 0, .int .u8 0] 131)).setCells Zx 0 (bpC X).toArray.toList = W1 at *
      have hb2 : Below W1.heap.size W1 (W1.alloc (Obj.cells #[.int .i64 (n : Int)] 3)) := (Below.refl _ _).alloc (Nat.le_refl _) _
      have HNT := Lib.hid (noteC_ (HS1.out.on hb2) HOK.out.l1 HOK.out.l2 HOK.out.le HOK.out.w (fun e he => (HBF.out.ok HFA.out HFB.out HA3.out HB3.out HL.out _ (List.mem_map_of_mem he)).w) (by have := HBF.out.nd; rw [List.map_map] at this; exact this) (by have := HBF.out.few HFA.out HFB.out HA3.out HB3.out HL.out; rw [List.length_map] at this; omega) (way1 W1 w.heap.size (n : Int) HS1.out.below.size))
      clear hb2
      go_wp2_with (refine wpList_load_mid rfl 131 (.tmp 8) rfl Zx 0 rfl (bpC X) _ hrx Try.underlying131 rfl (infoBp18 X) ?_)
      refine HNT.out.mono ?_
      rintro e w3 ⟨rfl, hk, hor⟩
      have HNX : Hid (∃ v R OL, LpS w w3 Vm Vl Vo Mm Mo v R 0 OL ∧ Bfs LS (R.map enP) 0 0 ∧ BfsA LS (R.map enP) (n + 1) ∧ (∀ e ∈ R.map enP, e.2.length ≤ 1) ∧ LenOK R) := by
        have hkm : ∀ R : List En, (R.map enP).map Prod.fst = R.map Prod.fst := fun R => by rw [List.map_map]; rfl
        rcases hor with ⟨h1, h2⟩ | ⟨h1, v', OL', h2, _⟩
        · exact ⟨v, R, OL, h2, HBF.out, bfsA_old HBA.out (by rw [HGD.out, hkm]; exact h1) HLE.out, HLE.out, HLN.out⟩
        · refine ⟨v', _, OL', h2, ?_⟩
          have hln := HLN.out.snoc (e := (X, [(n : Int)], some ⟨W1.heap.size, 0, none⟩, 1, 1)) (by simp)
          rw [← HGD.out] at hln
          rw [List.map_append, ← HGD.out]
          show Bfs LS (R.map enP ++ [(LS.getD n bx0, [(n : Int)])]) 0 0 ∧ BfsA LS (R.map enP ++ [(LS.getD n bx0, [(n : Int)])]) (n + 1) ∧ _
          refine ⟨HBF.out.first HLE.out HN.out (by rw [HGD.out, hkm]; exact h1), bfsA_new HBA.out (by simp), fun e he => ?_, hln⟩
          rcases List.mem_append.1 he with he | he
          · exact HLE.out e he
          · rw [List.mem_singleton.1 he]; exact Nat.le_refl _
      clear hk hor HNT hrx
      go_wp2_with fail
      go_roundw
      case rel =>
        obtain ⟨v, R, OL, h1, h2, h3, h4, h5⟩ := HNX.out
        exact ⟨n + 1, HN.out, by go_num, v, R, OL, h1, h2, h3, h4, h5⟩
      case measure => simp [intOf]; have := HN.out; omega
    · have qn : ¬ (n : Int) < (LS.length : Int) := by omega
      have hne : n = LS.length := by omega
      have HBA' : Hid (BfsA LS (R.map enP) LS.length) := by rw [← hne]; exact HBA.out
      clear hne
      clear HBA HLE hnl hn
      go_wp2_with fail
      go_loopg [] 387420489 (fun k wr => ∃ v R OL p, p + k = 387420489 ∧ Hid (LpS w wr Vm Vl Vo Mm Mo v R p OL) ∧ Hid (Bfs LS (R.map enP) p 0) ∧ Hid (BfsA LS (R.map enP) LS.length) ∧ Hid (LenOK R))
      case atStart => exact ⟨v, R, OL, 0, rfl, HS, HBF, HBA', HLN⟩
      case round =>
        clear HS HBF HBA' HLN
        obtain ⟨v, R, OL, p, hpk, HS, HBF, HBA, HLN⟩ := hrel
        have HCL := Lib.hid HS.out.mem.cl
        have l0 : wr.cell? ⟨Vl, 0, none⟩ = some v := by simp [World.cell?, HCL.out]
        have l1 : wr.frozen? ⟨Vl, 0, none⟩ = false := by simp [World.frozen?, HCL.out]
        by_cases hpl : p < R.length
        · have HPL := Lib.hid hpl
          have HKB : Hid (387420489 - (p + 1) < gk ∧ p + 1 + (387420489 - (p + 1)) = 387420489) := by
            have := HBF.out.few HFA.out HFB.out HA3.out HB3.out HL.out
            rw [List.length_map] at this
            constructor <;> omega
          have hqq := HS.out.mem.q
          rw [List.drop_eq_getElem_cons hpl] at hqq
          have HEP : Hid (R[p]? = some R[p]) := List.getElem?_eq_getElem hpl
          have HEW : Hid (WyAt wr w.heap.size R[p].2.2 R[p].2.1) := HS.out.mem.ws _ (List.mem_map.2 ⟨R[p], List.getElem_mem hpl, rfl⟩)
          obtain ⟨g, off, cap, rfl, hcap, hcap2, hcx, hq2⟩ := hqq.pop enC_len
          generalize R[p] = E at *
          have hrng : wr.rangeAt g off (enC E) := hcx
          have hla := there_new wr #[.int .u8 0, .int .u8 0, .int .u8 0, .int .u8 0, .int .u8 0, .int .u8 0, .int .u8 0, .int .u8 0, .int .u8 0, .int .u8 0, .int .u8 0, .int .u8 0, .int .u8 0, .int .u8 0, .int .u8 0, .int .u8 0, .int .u8 0, .int .u8 0, .slice none 0 0] 152
          obtain ⟨ln, hln⟩ : ∃ l, l = (R.drop (p + 1)).length := ⟨_, rfl⟩
          rw [← hln] at hcap hq2 hqq l0 HS HCL
          have HLQ := Lib.hid hln
          clear hln
          have q0 : (0 : Int) < (ln : Int) + 1 := by omega
          go_upto_region 12 with (first
            | (refine wpList_load_mid rfl 152 (.tmp 35) rfl g off rfl (enC E) _ hrng Try.underlying152 rfl (infoOne19 E) ?_)
            | (refine wpList_store_mid rfl 152 (.tmp 9) (.tmp 36) rfl wr.heap.size 0 (enC E).toArray rfl rfl hla (infoOne19 E) (all_oneCell_toArray (enC_one E)) ?_))
          simp only [Act.put]
          clear hla hrng hcx q0 l0 l1
          obtain ⟨hz, hzb, hzs⟩ := newRow wr #[.int .u8 0, .int .u8 0, .int .u8 0, .int .u8 0, .int .u8 0, .int .u8 0, .int .u8 0, .int .u8 0, .int .u8 0, .int .u8 0, .int .u8 0, .int .u8 0, .int .u8 0, .int .u8 0, .int .u8 0, .int .u8 0, .int .u8 0, .int .u8 0, .slice none 0 0] (enC E).toArray.toList 152 rfl
          replace hz : _ = some (Obj.cells (enC E).toArray 152 (0, 0)) := hz
          have HGZ : Hid (g < wr.heap.size) := (hqq.lt g rfl).2
          obtain ⟨Zo, hZo⟩ : ∃ Z, Z = wr.heap.size := ⟨_, rfl⟩
          rw [← hZo] at hz hzb hzs HGZ ⊢
          have hzb' : Below wr.heap.size wr ((wr.alloc (Obj.cells #[.int .u8 0, .int .u8 0, .int .u8 0, .int .u8 0, .int .u8 0, .int .u8 0, .int .u8 0, .int .u8 0, .int .u8 0, .int .u8 0, .int .u8 0, .int .u8 0, .int .u8 0, .int .u8 0, .int .u8 0, .int .u8 0, .int .u8 0, .int .u8 0, .slice none 0 0] 152)).setCells Zo 0 (enC E).toArray.toList) := by rw [← hZo]; exact hzb
          have HS1 := Lib.hid (HS.out.on hzb')
          have HQ2 := Lib.hid (hq2.on hzb')
          have HZ := Lib.hid hz
          have hVZ : Hid (Zo ≠ Vl) := by
            have := (Array.getElem?_eq_some_iff.1 HCL.out).1
            show _ ≠ _; omega
          clear hz hzb hzs hZo HS hzb' hq2 hqq HCL HEW
          generalize (wr.alloc (Obj.cells #[.int .u8 0, .int .u8 0, .int .u8 0, .int .u8 0, .int .u8 0, .int .u8 0, .int .u8 0, .int .u8 0, .int .u8 0, .int .u8 0, .int .u8 0, .int .u8 0, .int .u8 0, .int .u8 0, .int .u8 0, .int .u8 0, .int .u8 0, .int .u8 0, .slice none 0 0] 152)).setCells Zo 0 (enC E).toArray.toList = W1 at *
          have HCL := Lib.hid HS1.out.mem.cl
          have l0 : W1.cell? ⟨Vl, 0, none⟩ = some (.slice (some ⟨g, off, none⟩) (ln + 1) cap) := by simp [World.cell?, HCL.out]
          have l1 : W1.frozen? ⟨Vl, 0, none⟩ = false := by simp [World.frozen?, HCL.out]
          go_cut [] (fun wx => ∃ v2, Hid (LpS w wx Vm Vl Vo Mm Mo v2 R (p + 1) OL) ∧ Hid (wx.heap[Zo]? = some (Obj.cells (enC E).toArray 152 (0, 0))) ∧ Hid (∀ k, v2.ownBlock = some k → k ≠ Zo))
          case first =>
            have HZ2 : Hid (∀ v2, (W1.setCell ⟨Vl, 0, none⟩ v2).heap[Zo]? = some (Obj.cells (enC E).toArray 152 (0, 0))) := fun v2 => (Below.heap_setCell W1 ⟨Vl, 0, none⟩ v2 Zo hVZ.out).trans HZ.out
            by_cases hc1 : cap = 1
            · subst hc1
              have hd0 : ln = 0 := by omega
              have hq3 := HQ2.out
              rw [if_pos rfl, hd0] at hq3
              have HP := Lib.hid (HS1.out.pop HPL.out hq3)
              rw [hd0] at l0
              clear hq3 hcap hcap2
              go_wp2_with fail
              go_meet
              exact ⟨_, HP, HZ2.out _, fun k hk => by obtain rfl := Option.some.inj hk; exact Nat.ne_of_lt HGZ.out⟩
            · have hq3 := HQ2.out
              rw [if_neg hc1] at hq3
              have HP := Lib.hid (HS1.out.pop HPL.out hq3)
              clear hq3
              go_wp2_with fail
              go_meet
              exact ⟨_, HP, HZ2.out _, fun k hk => by obtain rfl := Option.some.inj hk; exact Nat.ne_of_lt HGZ.out⟩
          case rest =>
            obtain ⟨v2, HS2, HZ2, HNE⟩ := hcut
            have c0 := HC.out wc HS2.out.below
            clear l0 l1 HCL HQ2 HS1 HZ hcap hcap2 HGZ
            generalize wc = W2 at *
            go_wp2_with fail
            clear c0
            have HPR := Lib.hid HPL.out
            go_loopw [44] (fun v44 wr => ∃ n : Nat, n ≤ LS.length ∧ v44 = .int .i64 (n : Int) ∧ ∃ v R OL, Hid (LpS w wr Vm Vl Vo Mm Mo v R (p + 1) OL) ∧ Hid (wr.heap[Zo]? = some (Obj.cells (enC E).toArray 152 (0, 0))) ∧ Hid (∀ k, v.ownBlock = some k → k ≠ Zo) ∧ Hid (Bfs LS (R.map enP) p n) ∧ Hid (BfsA LS (R.map enP) LS.length) ∧ Hid (R[p]? = some E) ∧ Hid (LenOK R)) (fun v44 _ => LS.length - (intOf v44).toNat)
            case atStart => exact ⟨0, Nat.zero_le _, rfl, v2, R, OL, HS2, HZ2, HNE, HBF, HBA, HEP, HLN⟩
            case round =>
              clear HS2 HZ2 HNE HBF HBA HEP HPR HPL HLN
              obtain ⟨n, hn, rfl, v, R, OL, HS, HZ, HNE, HBF, HBA, HEP, HLN⟩ := hrel
              by_cases hnl : n < LS.length
              · have qn : (n : Int) < (LS.length : Int) := by omega
                have HN := Lib.hid hnl
                obtain ⟨bA, oA, rfl, _, hrng⟩ := (HR.out wr HS.out.below).range hnl
                have HOK := Lib.hid (HL.out.ok hnl)
                have HGD : Hid (LS.getD n bx0 = LS[n]) := getD_lt hnl
                generalize LS[n] = X at *
                have hla := there_new wr #[.int .u8 0, .int .u8 0, .int .u8 0, .int .u8 0, .int .u8 0, .int .u8 0, .int .u8 0, .int .u8 0, .int .u8 0, .int .u8 0, .int .u8 0, .int .u8 0, .int .u8 0, .int .u8 0, .int .u8 0, .int .u8 0, .int .u8 0, .int .u8 0] 131
                go_upto_block 5 with fail
                go_cut [] (fun wx => ∃ v R OL, LpS w wx Vm Vl Vo Mm Mo v R (p + 1) OL ∧ wx.heap[Zo]? = some (Obj.cells (enC E).toArray 152 (0, 0)) ∧ (∀ k, v.ownBlock = some k → k ≠ Zo) ∧ Bfs LS (R.map enP) p (n + 1) ∧ BfsA LS (R.map enP) LS.length ∧ R[p]? = some E ∧ LenOK R)
                case first =>
                  go_upto_region 16 with (first
                    | (refine wpList_load_mid rfl 131 (.tmp 47) rfl bA (oA + n * 18) rfl (bpC X) _ hrng Try.underlying131 rfl (infoBp18 X) ?_)
                    | (refine wpList_store_mid rfl 131 (.tmp 11) (.tmp 48) rfl wr.heap.size 0 (bpC X).toArray rfl rfl hla infoBoxes (all_oneCell_toArray (bpC_one X)) ?_))
                  simp only [Act.put]
                  clear hla hrng
                  obtain ⟨hz, hzb, hzs⟩ := newRow wr #[.int .u8 0, .int .u8 0, .int .u8 0, .int .u8 0, .int .u8 0, .int .u8 0, .int .u8 0, .int .u8 0, .int .u8 0, .int .u8 0, .int .u8 0, .int .u8 0, .int .u8 0, .int .u8 0, .int .u8 0, .int .u8 0, .int .u8 0, .int .u8 0] (bpC X).toArray.toList 131 rfl
                  replace hz : _ = some (Obj.cells (bpC X).toArray 131 (0, 0)) := hz
                  obtain ⟨Zx, hZx⟩ : ∃ Z, Z = wr.heap.size := ⟨_, rfl⟩
                  have hzb2 := hzb
                  rw [← hZx] at hz hzb hzs ⊢
                  have HS1 : Hid (LpS w ((wr.alloc (Obj.cells #[.int .u8 0, .int .u8 0, .int .u8 0, .int .u8 0, .int .u8 0, .int .u8 0, .int .u8 0, .int .u8 0, .int .u8 0, .int .u8 0, .int .u8 0, .int .u8 0, .int .u8 0, .int .u8 0, .int .u8 0, .int .u8 0, .int .u8 0, .int .u8 0] 131)).setCells Zx 0 (bpC X).toArray.toList) Vm Vl Vo Mm Mo v R (p + 1) OL) := HS.out.on (by rw [hZx]; exact hzb2)
                  have HZ1 : Hid (((wr.alloc (Obj.cells #[.int .u8 0, .int .u8 0, .int .u8 0, .int .u8 0, .int .u8 0, .int .u8 0, .int .u8 0, .int .u8 0, .int .u8 0, .int .u8 0, .int .u8 0, .int .u8 0, .int .u8 0, .int .u8 0, .int .u8 0, .int .u8 0, .int .u8 0, .int .u8 0] 131)).setCells Zx 0 (bpC X).toArray.toList).heap[Zo]? = some (Obj.cells (enC E).toArray 152 (0, 0))) := (hzb.block Zo (by rw [hZx]; exact (Array.getElem?_eq_some_iff.1 HZ.out).1)).trans HZ.out
                  have HZX := Lib.hid hz
                  clear hz hzb hzs hZx HS HZ hzb2
                  generalize (wr.alloc (Obj.cells #[.int .u8 0, .int .u8 0, .int .u8 0, .int .u8 0, .int .u8 0, .int .u8 0, .int .u8 0, .int .u8 0, .int .u8 0, .int .u8 0, .int .u8 0, .int .u8 0, .int .u8 0, .int .u8 0, .int .u8 0, .int .u8 0, .int .u8 0, .int .u8 0] 131)).setCells Zx 0 (bpC X).toArray.toList = Wb at *
                  have HEM : Hid (WyAt Wb w.heap.size E.2.2 E.2.1) := HS1.out.mem.ws (E.2.2, E.2.1) (List.mem_map.2 ⟨E, List.mem_of_getElem? HEP.out, rfl⟩)
                  have HLE2 : Hid (E.2.1.length ≤ 387420490) := by
                    have h1 := (List.getElem?_eq_some_iff.1 HEP.out)
                    obtain ⟨h2, h3⟩ := h1
                    have h4 := HLN.out p h2
                    rw [h3] at h4
                    have h5 := HBF.out.few HFA.out HFB.out HA3.out HB3.out HL.out
                    rw [List.length_map] at h5
                    show _ ≤ _; omega
                  have HBE : Hid (BpOK E.1) := HBF.out.ok HFA.out HFB.out HA3.out HB3.out HL.out (enP E) (List.mem_map.2 ⟨E, List.mem_of_getElem? HEP.out, rfl⟩)
                  obtain ⟨EX, Ew, Ae, ne, ce⟩ := E
                  obtain ⟨A', c', he, hsl⟩ := HEM.out.read (bt := 8) (by have := HLE2.out; simp only at this ⊢; omega)
                  obtain ⟨rfl, rfl, rfl⟩ : Ae = A' ∧ ne = Ew.length ∧ ce = c' := by simpa [slV] using he
                  have HEW : Hid (∀ W, Below Wb.heap.size Wb W → Rd W 0 Ae (Ew.flatMap inC)) := fun W hb => (hsl.zero.below hb).rd
                  have HEL : Hid (Ew.length ≤ 1000000000) := by have := HLE2.out; simp only at this; show _ ≤ _; omega
                  have HEL1 : Hid (Ew.length + 1 ≤ 1000000000) := by have := HLE2.out; simp only at this; show _ ≤ _; omega
                  clear he hsl
                  have HSS : Hid (∀ W, Below Wb.heap.size Wb W → W.heap[Zo]? = some (Obj.cells (enC (EX, Ew, Ae, Ew.length, ce)).toArray 152 (0, 0)) ∧ W.heap[Zx]? = some (Obj.cells (bpC X).toArray 131 (0, 0))) := fun W hb => ⟨nt_z HZ1.out hb, nt_z HZX.out hb⟩
                  have HB1 : Hid (∀ W : World, Calls Try.prog 109 #[.agg (bx9 EX.1).toArray, .agg (bx9 X.1).toArray] W fun e w' => e = .returned (.agg (bx9 (behB EX.1 X.1)).toArray) ∧ Below W.heap.size W w') := fun W => behC_ HBE.out.l1 HOK.out.l1 W
                  have HB2 : Hid (∀ W : World, Calls Try.prog 109 #[.agg (bx9 EX.2).toArray, .agg (bx9 X.2).toArray] W fun e w' => e = .returned (.agg (bx9 (behB EX.2 X.2)).toArray) ∧ Below W.heap.size W w') := fun W => behC_ HBE.out.l2 HOK.out.l2 W
                  obtain ⟨Y, hY⟩ : ∃ Y, Y = bb EX X := ⟨_, rfl⟩
                  have HBL : Hid (∀ (ρ : Operand → Value) (o : Oper), o.op = .build 131 #[(0, .tmp 55), (1, .tmp 61)] → ρ (.tmp 55) = .agg (bx9 (behB EX.1 X.1)).toArray → ρ (.tmp 61) = .agg (bx9 (behB EX.2 X.2)).toArray → ∀ w, (execOp ρ o).run Try.prog w = .ok (.value (.agg (bpC Y).toArray)) w) := fun ρ o h1 h2 h3 w => by
                    rw [hY]
                    exact bld_run h1 h2 h3 w
                  have HYO : Hid (BpOK Y) := by
                    have h0 := HBF.out.ok HFA.out HFB.out HA3.out HB3.out HL.out
                    obtain ⟨w1, w2, w3⟩ := HBF.out.w p (by rw [List.length_map]; exact (List.getElem?_eq_some_iff.1 HEP.out).1)
                    have hEg : (R.map enP)[p]'(by rw [List.length_map]; exact (List.getElem?_eq_some_iff.1 HEP.out).1) = (EX, Ew) := by
                      rw [List.getElem_map, (List.getElem?_eq_some_iff.1 HEP.out).2]; rfl
                    rw [hEg] at w1 w2 w3
                    simp only at w1 w2 w3
                    have h1 : bxW LS (Ew ++ [(n : Int)]) = Y := by rw [bxW_snoc LS w1, ← w3, hY, Int.toNat_natCast, HGD.out]
                    obtain ⟨b1, b2⟩ := bxW_box HFA.out HFB.out HA3.out HB3.out HL.out Ew.length (Ew ++ [(n : Int)]) (by simp) (LtrIn.snoc.2 ⟨w2, by omega, by have := HN.out; omega⟩)
                    rw [h1] at b1 b2
                    exact .of b1 b2
                  have HYE : Hid (bb EX (LS.getD n bx0) = Y) := by show _ = _; rw [HGD.out, hY]
                  have HLO : Hid (w.heap.size ≤ Wb.heap.size) := HS1.out.below.size
                  have HNT : Hid (∀ W, Below Wb.heap.size Wb W → ∀ (A : Option Addr) (c : Nat), WyAt W w.heap.size (A, Ew.length + 1, c) (Ew ++ [(n : Int)]) → Calls Try.prog 107 #[.agg (bpC Y).toArray, .slice A (Ew.length + 1) c, .pointer (some ⟨Vm, 0, none⟩), .pointer (some ⟨Vl, 0, none⟩), .pointer (some ⟨Vo, 0, none⟩)] W (fun e w' => e = .returned (.tuple #[]) ∧ KpL Vl Mm Mo v.ownBlock W w' ∧ ((Y ∈ R.map Prod.fst ∧ LpS w w' Vm Vl Vo Mm Mo v R (p + 1) OL) ∨
                      (Y ∉ R.map Prod.fst ∧ ∃ v' OL', LpS w w' Vm Vl Vo Mm Mo v' (R ++ [(Y, Ew ++ [(n : Int)], (A, Ew.length + 1, c))]) (p + 1) OL' ∧ ∀ k, v'.ownBlock = some k → v.ownBlock = some k ∨ W.heap.size ≤ k)))) := fun W hb A c hw =>
                    noteC_ (HS1.out.on hb) HYO.out.l1 HYO.out.l2 HYO.out.le HYO.out.w (fun e he => (HBF.out.ok HFA.out HFB.out HA3.out HB3.out HL.out _ (List.mem_map_of_mem he)).w) (by have := HBF.out.nd; rw [List.map_map] at this; exact this) (by have := HBF.out.few HFA.out HFB.out HA3.out HB3.out HL.out; rw [List.length_map] at this; omega) hw
                  have HFIN : Hid (∀ W W', Below Wb.heap.size Wb W → ∀ (s : Sl), KpL Vl Mm Mo v.ownBlock W W' → ((Y ∈ R.map Prod.fst ∧ LpS w W' Vm Vl Vo Mm Mo v R (p + 1) OL) ∨
                      (Y ∉ R.map Prod.fst ∧ ∃ v' OL', LpS w W' Vm Vl Vo Mm Mo v' (R ++ [(Y, Ew ++ [(n : Int)], s)]) (p + 1) OL' ∧ ∀ k, v'.ownBlock = some k → v.ownBlock = some k ∨ W.heap.size ≤ k)) →
                      (W'.heap[Zo]? = some (Obj.cells (enC (EX, Ew, Ae, Ew.length, ce)).toArray 152 (0, 0)) ∧ W'.heap[Zx]? = some (Obj.cells (bpC X).toArray 131 (0, 0))) ∧
                      ∃ v R OL, LpS w W' Vm Vl Vo Mm Mo v R (p + 1) OL ∧ W'.heap[Zo]? = some (Obj.cells (enC (EX, Ew, Ae, Ew.length, ce)).toArray 152 (0, 0)) ∧ (∀ k, v.ownBlock = some k → k ≠ Zo) ∧ Bfs LS (R.map enP) p (n + 1) ∧ BfsA LS (R.map enP) LS.length ∧ R[p]? = some (EX, Ew, Ae, Ew.length, ce) ∧ LenOK R) := fun W W' hb s hk hor => by
                    have hS := HS1.out.on hb
                    have hx := hS.keepB hk (HSS.out W hb).2
                    have h := LpS.next (E := (EX, Ew, Ae, Ew.length, ce)) (s := s) HFA.out HFB.out HA3.out HB3.out HL.out hS HBF.out HBA.out HEP.out HLN.out HN.out (HSS.out W hb).1 HNE.out hk (by
                      show (bb EX (LS.getD n bx0) ∈ _ ∧ _) ∨ (bb EX (LS.getD n bx0) ∉ _ ∧ _)
                      rw [HYE.out]
                      exact hor)
                    obtain ⟨v', R', OL', k1, k2, k3⟩ := h
                    exact ⟨⟨k2, hx⟩, v', R', OL', k1, k2, k3⟩
                  clear HEM HLE2 HBE hY HYO HYE HS1 HZ1 HZX HBF HBA HEP HLN HNE HOK HGD
                  refine wp_region_held_drew (S := fun w' => w'.heap[Zo]? = some (Obj.cells (enC (EX, Ew, Ae, Ew.length, ce)).toArray 152 (0, 0)) ∧ w'.heap[Zx]? = some (Obj.cells (bpC X).toArray 131 (0, 0))) (by kernel_rfl) (HSS.out _ (Below.refl _ _).drew) ?_
                  intro hS
                  have bb : Below Wb.heap.size Wb Wb.drew := (Below.refl _ _).drew
                  generalize Wb.drew = Wd at *
                  refine wpAnyH_take (i := 0) (v := .func (.func 107) #[] #[.pointer (some ⟨Vm, 0, none⟩), .pointer (some ⟨Vl, 0, none⟩), .pointer (some ⟨Vo, 0, none⟩)]) rfl (by kernel_rfl) (by kernel_rfl) (by kernel_rfl) (fun _ _ _ h => h) (Or.inl ⟨by rfl, fun w _ => by go_simp⟩) hS ?_
                  simp only [Act.put, List.setIfInBounds_toArray, List.set_cons_zero, List.set_cons_succ]
                  refine wpAnyH_take (i := 1) (v := .pointer (some ⟨Zo, 0, none⟩)) rfl (by kernel_rfl) (by kernel_rfl) (by kernel_rfl) (fun _ _ _ h => h) (Or.inl ⟨by rfl, fun w _ => by go_simp⟩) hS ?_
                  simp only [Act.put, List.setIfInBounds_toArray, List.set_cons_zero, List.set_cons_succ]
                  refine wpAnyH_take (i := 2) (v := .pointer (some ⟨Zo, 0, none⟩)) rfl (by kernel_rfl) (by kernel_rfl) (by kernel_rfl) (fun _ _ _ h => h) (Or.inl ⟨by rfl, fun w _ => by go_simp⟩) hS ?_
                  simp only [Act.put, List.setIfInBounds_toArray, List.set_cons_zero, List.set_cons_succ]
                  refine wpAnyH_take (i := 3) (v := .agg (bx9 EX.1).toArray) rfl (by kernel_rfl) (by kernel_rfl) (by kernel_rfl) (fun _ _ _ h => h) (yieldsIf_load_mid (by rfl) 128 (.tmp 51) rfl Zo 0 (by go_simp) (bx9 EX.1) _ (fun w hw => ro0 (X := EX) (wd := Ew) (A := Ae) (n := Ew.length) (c := ce) hw.1) Try.underlying128 rfl (infoBox9 EX.1)) hS ?_
                  simp only [Act.put, List.setIfInBounds_toArray, List.set_cons_zero, List.set_cons_succ]
                  refine wpAnyH_take (i := 4) (v := .pointer (some ⟨Zx, 0, none⟩)) rfl (by kernel_rfl) (by kernel_rfl) (by kernel_rfl) (fun _ _ _ h => h) (Or.inl ⟨by rfl, fun w _ => by go_simp⟩) hS ?_
                  simp only [Act.put, List.setIfInBounds_toArray, List.set_cons_zero, List.set_cons_succ]
                  refine wpAnyH_take (i := 5) (v := .agg (bx9 X.1).toArray) rfl (by kernel_rfl) (by kernel_rfl) (by kernel_rfl) (fun _ _ _ h => h) (yieldsIf_load_mid (by rfl) 128 (.tmp 53) rfl Zx 0 (by go_simp) (bx9 X.1) _ (fun w hw => rx0 (X := X) hw.2) Try.underlying128 rfl (infoBox9 X.1)) hS ?_
                  simp only [Act.put, List.setIfInBounds_toArray, List.set_cons_zero, List.set_cons_succ]
                  refine wpAnyH_take (i := 7) (v := .pointer (some ⟨Zo, 0, none⟩)) rfl (by kernel_rfl) (by kernel_rfl) (by kernel_rfl) (fun _ _ _ h => h) (Or.inl ⟨by rfl, fun w _ => by go_simp⟩) hS ?_
                  simp only [Act.put, List.setIfInBounds_toArray, List.set_cons_zero, List.set_cons_succ]
                  refine wpAnyH_take (i := 8) (v := .pointer (some ⟨Zo, 9, none⟩)) rfl (by kernel_rfl) (by kernel_rfl) (by kernel_rfl) (fun _ _ _ h => h) (Or.inl ⟨by rfl, fun w _ => by go_simp⟩) hS ?_
                  simp only [Act.put, List.setIfInBounds_toArray, List.set_cons_zero, List.set_cons_succ]
                  refine wpAnyH_take (i := 9) (v := .agg (bx9 EX.2).toArray) rfl (by kernel_rfl) (by kernel_rfl) (by kernel_rfl) (fun _ _ _ h => h) (yieldsIf_load_mid (by rfl) 128 (.tmp 57) rfl Zo 9 (by go_simp) (bx9 EX.2) _ (fun w hw => ro9 (X := EX) (wd := Ew) (A := Ae) (n := Ew.length) (c := ce) hw.1) Try.underlying128 rfl (infoBox9 EX.2)) hS ?_
                  simp only [Act.put, List.setIfInBounds_toArray, List.set_cons_zero, List.set_cons_succ]
                  refine wpAnyH_take (i := 10) (v := .pointer (some ⟨Zx, 9, none⟩)) rfl (by kernel_rfl) (by kernel_rfl) (by kernel_rfl) (fun _ _ _ h => h) (Or.inl ⟨by rfl, fun w _ => by go_simp⟩) hS ?_
                  simp only [Act.put, List.setIfInBounds_toArray, List.set_cons_zero, List.set_cons_succ]
                  refine wpAnyH_take (i := 11) (v := .agg (bx9 X.2).toArray) rfl (by kernel_rfl) (by kernel_rfl) (by kernel_rfl) (fun _ _ _ h => h) (yieldsIf_load_mid (by rfl) 128 (.tmp 59) rfl Zx 9 (by go_simp) (bx9 X.2) _ (fun w hw => rx9 (X := X) hw.2) Try.underlying128 rfl (infoBox9 X.2)) hS ?_
                  simp only [Act.put, List.setIfInBounds_toArray, List.set_cons_zero, List.set_cons_succ]
                  refine wpAnyH_take (i := 15) (v := .pointer (some ⟨Zo, 18, none⟩)) rfl (by kernel_rfl) (by kernel_rfl) (by kernel_rfl) (fun _ _ _ h => h) (Or.inl ⟨by rfl, fun w _ => by go_simp⟩) hS ?_
                  simp only [Act.put, List.setIfInBounds_toArray, List.set_cons_zero, List.set_cons_succ]
                  refine wpAnyH_take (i := 16) (v := .slice Ae Ew.length ce) rfl (by kernel_rfl) (by kernel_rfl) (by kernel_rfl) (fun _ _ _ h => h) (Or.inl ⟨by rfl, fun w hw => by have h18 := ro18 (X := EX) (wd := Ew) (A := Ae) (n := Ew.length) (c := ce) hw.1; go_simp⟩) hS ?_
                  simp only [Act.put, List.setIfInBounds_toArray, List.set_cons_zero, List.set_cons_succ]
                  refine wpAnyH_take (i := 18) (v := .int .i64 (n : Int)) rfl (by kernel_rfl) (by kernel_rfl) (by kernel_rfl) (fun _ _ _ h => h) (Or.inl ⟨by rfl, fun w _ => by go_simp⟩) hS ?_
                  simp only [Act.put, List.setIfInBounds_toArray, List.set_cons_zero, List.set_cons_succ]
                  refine wpAnyH_ready (rs := [6, 14, 19]) (by kernel_rfl) (by simp) ?_
                  refine (AllReadyH.cons rfl (fun K' hK => ?_) (AllReadyH.cons rfl (fun K' hK => ?_) (AllReadyH.cons rfl (fun K' hK => ?_) AllReadyH.nil)))
                  · go_simp
                    go_at_call 109
                    refine (HB1.out _).mono ?_
                    rintro e v1 ⟨rfl, hb⟩
                    have bn := nt_b bb hb
                    clear bb hS
                    have bb := bn
                    clear bn
                    clear hb
                    refine hK.out _ _ (HSS.out _ bb) (fun hS => ?_)
                    clear hK K'
                    try simp only [Act.put, List.setIfInBounds_toArray, List.set_cons_zero, List.set_cons_succ]
                    refine wpAnyH_ready (rs := [12, 14, 19]) (by kernel_rfl) (by simp) ?_
                    refine (AllReadyH.cons rfl (fun K' hK => ?_) (AllReadyH.cons rfl (fun K' hK => ?_) (AllReadyH.cons rfl (fun K' hK => ?_) AllReadyH.nil)))
                    · go_simp
                      go_at_call 109
                      refine (HB2.out _).mono ?_
                      rintro e v2 ⟨rfl, hb⟩
                      have bn := nt_b bb hb
                      clear bb hS
                      have bb := bn
                      clear bn
                      clear hb
                      refine hK.out _ _ (HSS.out _ bb) (fun hS => ?_)
                      clear hK K'
                      try simp only [Act.put, List.setIfInBounds_toArray, List.set_cons_zero, List.set_cons_succ]
                      refine wpAnyH_take (i := 13) (v := .agg (bpC Y).toArray) rfl (by kernel_rfl) (by kernel_rfl) (by kernel_rfl) (fun _ _ _ h => h) (Or.inl ⟨by rfl, fun w _ => HBL.out _ _ rfl (by go_simp) (by go_simp) w⟩) hS ?_
                      simp only [Act.put, List.setIfInBounds_toArray, List.set_cons_zero, List.set_cons_succ]
                      refine wpAnyH_ready (rs := [14, 19]) (by kernel_rfl) (by simp) ?_
                      refine (AllReadyH.cons rfl (fun K' hK => ?_) (AllReadyH.cons rfl (fun K' hK => ?_) AllReadyH.nil))
                      · go_simp
                        have hb : Below v2.heap.size v2 (v2.alloc (Obj.cells #[] 3)) := (Below.refl _ _).alloc (Nat.le_refl _) _
                        have n14 := lo_14 v2 Wb.heap.size bb.size
                        have bn := nt_b bb hb
                        clear bb hS
                        have bb := bn
                        clear bn
                        clear hb
                        have hZ14 : Wb.heap.size ≤ v2.heap.size := n14.lt _ rfl |>.1
                        have h14 := n14
                        clear n14
                        refine hK.out _ _ (HSS.out _ bb) (fun hS => ?_)
                        clear hK K'
                        obtain ⟨Ba, hBa⟩ : ∃ Z, Z = v2.heap.size := ⟨_, rfl⟩
                        rw [← hBa] at h14 hZ14 ⊢
                        clear hBa
                        generalize v2.alloc (Obj.cells #[] 3) = v3 at *
                        try simp only [Act.put, List.setIfInBounds_toArray, List.set_cons_zero, List.set_cons_succ]
                        refine wpAnyH_ready (rs := [17, 19]) (by kernel_rfl) (by simp) ?_
                        refine (AllReadyH.cons rfl (fun K' hK => ?_) (AllReadyH.cons rfl (fun K' hK => ?_) AllReadyH.nil))
                        · obtain ⟨A17, c17, v4, hrun, h17, hg⟩ := lo_app0 h14 (HEW.out _ bb) bb.size HEL.out
                          have hb : Below Wb.heap.size v3 v4 := (Below.refl _ _).grown hg bb.size (fun k hk => by obtain rfl := Option.some.inj hk; exact (h14.lt _ rfl).1)
                          have bn := bb.trans hb
                          refine step_appRun rfl (.tmp 63) (.tmp 65) _ _ rfl (.slice (some ⟨Ba, 0, none⟩) 0 0) (.slice Ae Ew.length ce) (.slice A17 Ew.length c17) (by go_simp) (by go_simp) hrun ?_
                          clear hrun bb hS hg hb h14
                          have bb := bn
                          clear bn
                          refine hK.out _ _ (HSS.out _ bb) (fun hS => ?_)
                          clear hK K'
                          try simp only [Act.put, List.setIfInBounds_toArray, List.set_cons_zero, List.set_cons_succ]
                          refine wpAnyH_ready (rs := [19]) (by kernel_rfl) (by simp) ?_
                          refine (AllReadyH.cons rfl (fun K' hK => ?_) AllReadyH.nil)
                          · go_simp
                            have hb : Below v4.heap.size v4 (v4.alloc (Obj.cells #[.int .i64 (n : Int)] 3)) := (Below.refl _ _).alloc (Nat.le_refl _) _
                            have n19 := lo_19 v4 (n : Int)
                            have bn := nt_b bb hb
                            have nh17 := own_below h17 hb
                            clear bb hS h17
                            have bb := bn
                            have h17 := nh17
                            clear bn nh17
                            clear hb
                            have h19 := n19
                            clear n19
                            refine hK.out _ _ (HSS.out _ bb) (fun hS => ?_)
                            clear hK K'
                            obtain ⟨Bn, hBn⟩ : ∃ Z, Z = v4.heap.size := ⟨_, rfl⟩
                            rw [← hBn] at h19 ⊢
                            clear hBn
                            generalize v4.alloc (Obj.cells #[.int .i64 (n : Int)] 3) = v5 at *
                            try simp only [Act.put, List.setIfInBounds_toArray, List.set_cons_zero, List.set_cons_succ]
                            refine wpAnyH_ready (rs := [20]) (by kernel_rfl) (by simp) ?_
                            refine (AllReadyH.cons rfl (fun K' hK => ?_) AllReadyH.nil)
                            · obtain ⟨A20, c20, v6, hrun, h20, hg⟩ := lo_app1 h17 h19 bb.size HEL1.out
                              have bn : Below Wb.heap.size Wb v6 := bb.grown hg bb.size (fun k hk => (h17.lt k hk).1)
                              refine step_appRun rfl (.tmp 66) (.tmp 68) _ _ rfl (.slice A17 Ew.length c17) (.slice (some ⟨Bn, 0, none⟩) 1 1) (.slice A20 (Ew.length + 1) c20) (by go_simp) (by go_simp) hrun ?_
                              clear hrun bb hS hg h17 h19
                              have bb := bn
                              clear bn
                              refine hK.out _ _ (HSS.out _ bb) (fun hS => ?_)
                              clear hK K'
                              try simp only [Act.put, List.setIfInBounds_toArray, List.set_cons_zero, List.set_cons_succ]
                              refine wpAnyH_ready (rs := [21]) (by kernel_rfl) (by simp) ?_
                              refine (AllReadyH.cons rfl (fun K' hK => ?_) AllReadyH.nil)
                              · go_simp
                                have hct := HNT.out v6 bb A20 c20 (h20.low HLO.out)
                                go_at_call 107
                                refine hct.mono ?_
                                rintro e v7 ⟨rfl, hk, hor⟩
                                have hfin := HFIN.out v6 v7 bb _ hk hor
                                refine hK.out _ _ hfin.1 (fun hS => ?_)
                                clear hK K' hct hk hor
                                refine wpAnyH_done (by kernel_rfl) ?_ _
                                go_wp2_with fail
                                go_meet
                                exact hfin.2
                        · have hnb : v3.heap.size ≠ Ba := (Nat.ne_of_lt (h14.lt _ rfl).2).symm
                          go_simp
                          have hb : Below v3.heap.size v3 (v3.alloc (Obj.cells #[.int .i64 (n : Int)] 3)) := (Below.refl _ _).alloc (Nat.le_refl _) _
                          have n19 := lo_19 v3 (n : Int)
                          have bn := nt_b bb hb
                          have nh14 := own_below h14 hb
                          clear bb hS h14
                          have bb := bn
                          have h14 := nh14
                          clear bn nh14
                          clear hb
                          have h19 := n19
                          clear n19
                          refine hK.out _ _ (HSS.out _ bb) (fun hS => ?_)
                          clear hK K'
                          obtain ⟨Bn, hBn⟩ : ∃ Z, Z = v3.heap.size := ⟨_, rfl⟩
                          rw [← hBn] at h19 hnb ⊢
                          clear hBn
                          generalize v3.alloc (Obj.cells #[.int .i64 (n : Int)] 3) = v8 at *
                          try simp only [Act.put, List.setIfInBounds_toArray, List.set_cons_zero, List.set_cons_succ]
                          refine wpAnyH_ready (rs := [17]) (by kernel_rfl) (by simp) ?_
                          refine (AllReadyH.cons rfl (fun K' hK => ?_) AllReadyH.nil)
                          · obtain ⟨A17, c17, v9, hrun, h17, hg⟩ := lo_app0 h14 (HEW.out _ bb) bb.size HEL.out
                            have hb : Below Wb.heap.size v8 v9 := (Below.refl _ _).grown hg bb.size (fun k hk => by obtain rfl := Option.some.inj hk; exact (h14.lt _ rfl).1)
                            have bn := bb.trans hb
                            have nh19 := lo_rd h19 hg hnb
                            refine step_appRun rfl (.tmp 63) (.tmp 65) _ _ rfl (.slice (some ⟨Ba, 0, none⟩) 0 0) (.slice Ae Ew.length ce) (.slice A17 Ew.length c17) (by go_simp) (by go_simp) hrun ?_
                            clear hrun bb hS hg hb h14
                            have bb := bn
                            clear bn
                            clear h19
                            have h19 := nh19
                            clear nh19
                            refine hK.out _ _ (HSS.out _ bb) (fun hS => ?_)
                            clear hK K'
                            try simp only [Act.put, List.setIfInBounds_toArray, List.set_cons_zero, List.set_cons_succ]
                            refine wpAnyH_ready (rs := [20]) (by kernel_rfl) (by simp) ?_
                            refine (AllReadyH.cons rfl (fun K' hK => ?_) AllReadyH.nil)
                            · obtain ⟨A20, c20, v10, hrun, h20, hg⟩ := lo_app1 h17 h19 bb.size HEL1.out
                              have bn : Below Wb.heap.size Wb v10 := bb.grown hg bb.size (fun k hk => (h17.lt k hk).1)
                              refine step_appRun rfl (.tmp 66) (.tmp 68) _ _ rfl (.slice A17 Ew.length c17) (.slice (some ⟨Bn, 0, none⟩) 1 1) (.slice A20 (Ew.length + 1) c20) (by go_simp) (by go_simp) hrun ?_
                              clear hrun bb hS hg h17 h19
                              have bb := bn
                              clear bn
                              refine hK.out _ _ (HSS.out _ bb) (fun hS => ?_)
                              clear hK K'
                              try simp only [Act.put, List.setIfInBounds_toArray, List.set_cons_zero, List.set_cons_succ]
                              refine wpAnyH_ready (rs := [21]) (by kernel_rfl) (by simp) ?_
                              refine (AllReadyH.cons rfl (fun K' hK => ?_) AllReadyH.nil)
                              · go_simp
                                have hct := HNT.out v10 bb A20 c20 (h20.low HLO.out)
                                go_at_call 107
                                refine hct.mono ?_
                                rintro e v11 ⟨rfl, hk, hor⟩
                                have hfin := HFIN.out v10 v11 bb _ hk hor
                                refine hK.out _ _ hfin.1 (fun hS => ?_)
                                clear hK K' hct hk hor
                                refine wpAnyH_done (by kernel_rfl) ?_ _
                                go_wp2_with fail
                                go_meet
                                exact hfin.2
                      · go_simp
                        have hb : Below v2.heap.size v2 (v2.alloc (Obj.cells #[.int .i64 (n : Int)] 3)) := (Below.refl _ _).alloc (Nat.le_refl _) _
                        have n19 := lo_19 v2 (n : Int)
                        have bn := nt_b bb hb
                        clear bb hS
                        have bb := bn
                        clear bn
                        clear hb
                        have h19 := n19
                        clear n19
                        refine hK.out _ _ (HSS.out _ bb) (fun hS => ?_)
                        clear hK K'
                        obtain ⟨Bn, hBn⟩ : ∃ Z, Z = v2.heap.size := ⟨_, rfl⟩
                        rw [← hBn] at h19 ⊢
                        clear hBn
                        generalize v2.alloc (Obj.cells #[.int .i64 (n : Int)] 3) = v12 at *
                        try simp only [Act.put, List.setIfInBounds_toArray, List.set_cons_zero, List.set_cons_succ]
                        refine wpAnyH_ready (rs := [14]) (by kernel_rfl) (by simp) ?_
                        refine (AllReadyH.cons rfl (fun K' hK => ?_) AllReadyH.nil)
                        · have hnb : Bn ≠ v12.heap.size := Nat.ne_of_lt (lo_lt h19)
                          go_simp
                          have hb : Below v12.heap.size v12 (v12.alloc (Obj.cells #[] 3)) := (Below.refl _ _).alloc (Nat.le_refl _) _
                          have n14 := lo_14 v12 Wb.heap.size bb.size
                          have bn := nt_b bb hb
                          have nh19 := Rd.below h19 hb (Nat.le_refl _)
                          clear bb hS h19
                          have bb := bn
                          have h19 := nh19
                          clear bn nh19
                          clear hb
                          have hZ14 : Wb.heap.size ≤ v12.heap.size := n14.lt _ rfl |>.1
                          have h14 := n14
                          clear n14
                          refine hK.out _ _ (HSS.out _ bb) (fun hS => ?_)
                          clear hK K'
                          obtain ⟨Ba, hBa⟩ : ∃ Z, Z = v12.heap.size := ⟨_, rfl⟩
                          rw [← hBa] at h14 hZ14 hnb ⊢
                          clear hBa
                          generalize v12.alloc (Obj.cells #[] 3) = v13 at *
                          try simp only [Act.put, List.setIfInBounds_toArray, List.set_cons_zero, List.set_cons_succ]
                          refine wpAnyH_ready (rs := [17]) (by kernel_rfl) (by simp) ?_
                          refine (AllReadyH.cons rfl (fun K' hK => ?_) AllReadyH.nil)
                          · obtain ⟨A17, c17, v14, hrun, h17, hg⟩ := lo_app0 h14 (HEW.out _ bb) bb.size HEL.out
                            have hb : Below Wb.heap.size v13 v14 := (Below.refl _ _).grown hg bb.size (fun k hk => by obtain rfl := Option.some.inj hk; exact (h14.lt _ rfl).1)
                            have bn := bb.trans hb
                            have nh19 := lo_rd h19 hg hnb
                            refine step_appRun rfl (.tmp 63) (.tmp 65) _ _ rfl (.slice (some ⟨Ba, 0, none⟩) 0 0) (.slice Ae Ew.length ce) (.slice A17 Ew.length c17) (by go_simp) (by go_simp) hrun ?_
                            clear hrun bb hS hg hb h14
                            have bb := bn
                            clear bn
                            clear h19
                            have h19 := nh19
                            clear nh19
                            refine hK.out _ _ (HSS.out _ bb) (fun hS => ?_)
                            clear hK K'
                            try simp only [Act.put, List.setIfInBounds_toArray, List.set_cons_zero, List.set_cons_succ]
                            refine wpAnyH_ready (rs := [20]) (by kernel_rfl) (by simp) ?_
                            refine (AllReadyH.cons rfl (fun K' hK => ?_) AllReadyH.nil)
                            · obtain ⟨A20, c20, v15, hrun, h20, hg⟩ := lo_app1 h17 h19 bb.size HEL1.out
                              have bn : Below Wb.heap.size Wb v15 := bb.grown hg bb.size (fun k hk => (h17.lt k hk).1)
                              refine step_appRun rfl (.tmp 66) (.tmp 68) _ _ rfl (.slice A17 Ew.length c17) (.slice (some ⟨Bn, 0, none⟩) 1 1) (.slice A20 (Ew.length + 1) c20) (by go_simp) (by go_simp) hrun ?_
                              clear hrun bb hS hg h17 h19
                              have bb := bn
                              clear bn
                              refine hK.out _ _ (HSS.out _ bb) (fun hS => ?_)
                              clear hK K'
                              try simp only [Act.put, List.setIfInBounds_toArray, List.set_cons_zero, List.set_cons_succ]
                              refine wpAnyH_ready (rs := [21]) (by kernel_rfl) (by simp) ?_
                              refine (AllReadyH.cons rfl (fun K' hK => ?_) AllReadyH.nil)
                              · go_simp
                                have hct := HNT.out v15 bb A20 c20 (h20.low HLO.out)
                                go_at_call 107
                                refine hct.mono ?_
                                rintro e v16 ⟨rfl, hk, hor⟩
                                have hfin := HFIN.out v15 v16 bb _ hk hor
                                refine hK.out _ _ hfin.1 (fun hS => ?_)
                                clear hK K' hct hk hor
                                refine wpAnyH_done (by kernel_rfl) ?_ _
                                go_wp2_with fail
                                go_meet
                                exact hfin.2
                    · go_simp
                      have hb : Below v1.heap.size v1 (v1.alloc (Obj.cells #[] 3)) := (Below.refl _ _).alloc (Nat.le_refl _) _
                      have n14 := lo_14 v1 Wb.heap.size bb.size
                      have bn := nt_b bb hb
                      clear bb hS
                      have bb := bn
                      clear bn
                      clear hb
                      have hZ14 : Wb.heap.size ≤ v1.heap.size := n14.lt _ rfl |>.1
                      have h14 := n14
                      clear n14
                      refine hK.out _ _ (HSS.out _ bb) (fun hS => ?_)
                      clear hK K'
                      obtain ⟨Ba, hBa⟩ : ∃ Z, Z = v1.heap.size := ⟨_, rfl⟩
                      rw [← hBa] at h14 hZ14 ⊢
                      clear hBa
                      generalize v1.alloc (Obj.cells #[] 3) = v17 at *
                      try simp only [Act.put, List.setIfInBounds_toArray, List.set_cons_zero, List.set_cons_succ]
                      refine wpAnyH_ready (rs := [12, 19]) (by kernel_rfl) (by simp) ?_
                      refine (AllReadyH.cons rfl (fun K' hK => ?_) (AllReadyH.cons rfl (fun K' hK => ?_) AllReadyH.nil))
                      · go_simp
                        go_at_call 109
                        refine (HB2.out _).mono ?_
                        rintro e v18 ⟨rfl, hb⟩
                        have bn := nt_b bb hb
                        have nh14 := own_below h14 hb
                        clear bb hS h14
                        have bb := bn
                        have h14 := nh14
                        clear bn nh14
                        clear hb
                        refine hK.out _ _ (HSS.out _ bb) (fun hS => ?_)
                        clear hK K'
                        try simp only [Act.put, List.setIfInBounds_toArray, List.set_cons_zero, List.set_cons_succ]
                        refine wpAnyH_take (i := 13) (v := .agg (bpC Y).toArray) rfl (by kernel_rfl) (by kernel_rfl) (by kernel_rfl) (fun _ _ _ h => h) (Or.inl ⟨by rfl, fun w _ => HBL.out _ _ rfl (by go_simp) (by go_simp) w⟩) hS ?_
                        simp only [Act.put, List.setIfInBounds_toArray, List.set_cons_zero, List.set_cons_succ]
                        refine wpAnyH_ready (rs := [17, 19]) (by kernel_rfl) (by simp) ?_
                        refine (AllReadyH.cons rfl (fun K' hK => ?_) (AllReadyH.cons rfl (fun K' hK => ?_) AllReadyH.nil))
                        · obtain ⟨A17, c17, v19, hrun, h17, hg⟩ := lo_app0 h14 (HEW.out _ bb) bb.size HEL.out
                          have hb : Below Wb.heap.size v18 v19 := (Below.refl _ _).grown hg bb.size (fun k hk => by obtain rfl := Option.some.inj hk; exact (h14.lt _ rfl).1)
                          have bn := bb.trans hb
                          refine step_appRun rfl (.tmp 63) (.tmp 65) _ _ rfl (.slice (some ⟨Ba, 0, none⟩) 0 0) (.slice Ae Ew.length ce) (.slice A17 Ew.length c17) (by go_simp) (by go_simp) hrun ?_
                          clear hrun bb hS hg hb h14
                          have bb := bn
                          clear bn
                          refine hK.out _ _ (HSS.out _ bb) (fun hS => ?_)
                          clear hK K'
                          try simp only [Act.put, List.setIfInBounds_toArray, List.set_cons_zero, List.set_cons_succ]
                          refine wpAnyH_ready (rs := [19]) (by kernel_rfl) (by simp) ?_
                          refine (AllReadyH.cons rfl (fun K' hK => ?_) AllReadyH.nil)
                          · go_simp
                            have hb : Below v19.heap.size v19 (v19.alloc (Obj.cells #[.int .i64 (n : Int)] 3)) := (Below.refl _ _).alloc (Nat.le_refl _) _
                            have n19 := lo_19 v19 (n : Int)
                            have bn := nt_b bb hb
                            have nh17 := own_below h17 hb
                            clear bb hS h17
                            have bb := bn
                            have h17 := nh17
                            clear bn nh17
                            clear hb
                            have h19 := n19
                            clear n19
                            refine hK.out _ _ (HSS.out _ bb) (fun hS => ?_)
                            clear hK K'
                            obtain ⟨Bn, hBn⟩ : ∃ Z, Z = v19.heap.size := ⟨_, rfl⟩
                            rw [← hBn] at h19 ⊢
                            clear hBn
                            generalize v19.alloc (Obj.cells #[.int .i64 (n : Int)] 3) = v20 at *
                            try simp only [Act.put, List.setIfInBounds_toArray, List.set_cons_zero, List.set_cons_succ]
                            refine wpAnyH_ready (rs := [20]) (by kernel_rfl) (by simp) ?_
                            refine (AllReadyH.cons rfl (fun K' hK => ?_) AllReadyH.nil)
                            · obtain ⟨A20, c20, v21, hrun, h20, hg⟩ := lo_app1 h17 h19 bb.size HEL1.out
                              have bn : Below Wb.heap.size Wb v21 := bb.grown hg bb.size (fun k hk => (h17.lt k hk).1)
                              refine step_appRun rfl (.tmp 66) (.tmp 68) _ _ rfl (.slice A17 Ew.length c17) (.slice (some ⟨Bn, 0, none⟩) 1 1) (.slice A20 (Ew.length + 1) c20) (by go_simp) (by go_simp) hrun ?_
                              clear hrun bb hS hg h17 h19
                              have bb := bn
                              clear bn
                              refine hK.out _ _ (HSS.out _ bb) (fun hS => ?_)
                              clear hK K'
                              try simp only [Act.put, List.setIfInBounds_toArray, List.set_cons_zero, List.set_cons_succ]
                              refine wpAnyH_ready (rs := [21]) (by kernel_rfl) (by simp) ?_
                              refine (AllReadyH.cons rfl (fun K' hK => ?_) AllReadyH.nil)
                              · go_simp
                                have hct := HNT.out v21 bb A20 c20 (h20.low HLO.out)
                                go_at_call 107
                                refine hct.mono ?_
                                rintro e v22 ⟨rfl, hk, hor⟩
                                have hfin := HFIN.out v21 v22 bb _ hk hor
                                refine hK.out _ _ hfin.1 (fun hS => ?_)
                                clear hK K' hct hk hor
                                refine wpAnyH_done (by kernel_rfl) ?_ _
                                go_wp2_with fail
                                go_meet
                                exact hfin.2
                        · have hnb : v18.heap.size ≠ Ba := (Nat.ne_of_lt (h14.lt _ rfl).2).symm
                          go_simp
                          have hb : Below v18.heap.size v18 (v18.alloc (Obj.cells #[.int .i64 (n : Int)] 3)) := (Below.refl _ _).alloc (Nat.le_refl _) _
                          have n19 := lo_19 v18 (n : Int)
                          have bn := nt_b bb hb
                          have nh14 := own_below h14 hb
                          clear bb hS h14
                          have bb := bn
                          have h14 := nh14
                          clear bn nh14
                          clear hb
                          have h19 := n19
                          clear n19
                          refine hK.out _ _ (HSS.out _ bb) (fun hS => ?_)
                          clear hK K'
                          obtain ⟨Bn, hBn⟩ : ∃ Z, Z = v18.heap.size := ⟨_, rfl⟩
                          rw [← hBn] at h19 hnb ⊢
                          clear hBn
                          generalize v18.alloc (Obj.cells #[.int .i64 (n : Int)] 3) = v23 at *
                          try simp only [Act.put, List.setIfInBounds_toArray, List.set_cons_zero, List.set_cons_succ]
                          refine wpAnyH_ready (rs := [17]) (by kernel_rfl) (by simp) ?_
                          refine (AllReadyH.cons rfl (fun K' hK => ?_) AllReadyH.nil)
                          · obtain ⟨A17, c17, v24, hrun, h17, hg⟩ := lo_app0 h14 (HEW.out _ bb) bb.size HEL.out
                            have hb : Below Wb.heap.size v23 v24 := (Below.refl _ _).grown hg bb.size (fun k hk => by obtain rfl := Option.some.inj hk; exact (h14.lt _ rfl).1)
                            have bn := bb.trans hb
                            have nh19 := lo_rd h19 hg hnb
                            refine step_appRun rfl (.tmp 63) (.tmp 65) _ _ rfl (.slice (some ⟨Ba, 0, none⟩) 0 0) (.slice Ae Ew.length ce) (.slice A17 Ew.length c17) (by go_simp) (by go_simp) hrun ?_
                            clear hrun bb hS hg hb h14
                            have bb := bn
                            clear bn
                            clear h19
                            have h19 := nh19
                            clear nh19
                            refine hK.out _ _ (HSS.out _ bb) (fun hS => ?_)
                            clear hK K'
                            try simp only [Act.put, List.setIfInBounds_toArray, List.set_cons_zero, List.set_cons_succ]
                            refine wpAnyH_ready (rs := [20]) (by kernel_rfl) (by simp) ?_
                            refine (AllReadyH.cons rfl (fun K' hK => ?_) AllReadyH.nil)
                            · obtain ⟨A20, c20, v25, hrun, h20, hg⟩ := lo_app1 h17 h19 bb.size HEL1.out
                              have bn : Below Wb.heap.size Wb v25 := bb.grown hg bb.size (fun k hk => (h17.lt k hk).1)
                              refine step_appRun rfl (.tmp 66) (.tmp 68) _ _ rfl (.slice A17 Ew.length c17) (.slice (some ⟨Bn, 0, none⟩) 1 1) (.slice A20 (Ew.length + 1) c20) (by go_simp) (by go_simp) hrun ?_
                              clear hrun bb hS hg h17 h19
                              have bb := bn
                              clear bn
                              refine hK.out _ _ (HSS.out _ bb) (fun hS => ?_)
                              clear hK K'
                              try simp only [Act.put, List.setIfInBounds_toArray, List.set_cons_zero, List.set_cons_succ]
                              refine wpAnyH_ready (rs := [21]) (by kernel_rfl) (by simp) ?_
                              refine (AllReadyH.cons rfl (fun K' hK => ?_) AllReadyH.nil)
                              · go_simp
                                have hct := HNT.out v25 bb A20 c20 (h20.low HLO.out)
                                go_at_call 107
                                refine hct.mono ?_
                                rintro e v26 ⟨rfl, hk, hor⟩
                                have hfin := HFIN.out v25 v26 bb _ hk hor
                                refine hK.out _ _ hfin.1 (fun hS => ?_)
                                clear hK K' hct hk hor
                                refine wpAnyH_done (by kernel_rfl) ?_ _
                                go_wp2_with fail
                                go_meet
                                exact hfin.2
                      · have hnb : v17.heap.size ≠ Ba := (Nat.ne_of_lt (h14.lt _ rfl).2).symm
                        go_simp
                        have hb : Below v17.heap.size v17 (v17.alloc (Obj.cells #[.int .i64 (n : Int)] 3)) := (Below.refl _ _).alloc (Nat.le_refl _) _
                        have n19 := lo_19 v17 (n : Int)
                        have bn := nt_b bb hb
                        have nh14 := own_below h14 hb
                        clear bb hS h14
                        have bb := bn
                        have h14 := nh14
                        clear bn nh14
                        clear hb
                        have h19 := n19
                        clear n19
                        refine hK.out _ _ (HSS.out _ bb) (fun hS => ?_)
                        clear hK K'
                        obtain ⟨Bn, hBn⟩ : ∃ Z, Z = v17.heap.size := ⟨_, rfl⟩
                        rw [← hBn] at h19 hnb ⊢
                        clear hBn
                        generalize v17.alloc (Obj.cells #[.int .i64 (n : Int)] 3) = v27 at *
                        try simp only [Act.put, List.setIfInBounds_toArray, List.set_cons_zero, List.set_cons_succ]
                        refine wpAnyH_ready (rs := [12]) (by kernel_rfl) (by simp) ?_
                        refine (AllReadyH.cons rfl (fun K' hK => ?_) AllReadyH.nil)
                        · go_simp
                          go_at_call 109
                          refine (HB2.out _).mono ?_
                          rintro e v28 ⟨rfl, hb⟩
                          have bn := nt_b bb hb
                          have nh14 := own_below h14 hb
                          have nh19 := Rd.below h19 hb (Nat.le_refl _)
                          clear bb hS h14 h19
                          have bb := bn
                          have h14 := nh14
                          have h19 := nh19
                          clear bn nh14 nh19
                          clear hb
                          refine hK.out _ _ (HSS.out _ bb) (fun hS => ?_)
                          clear hK K'
                          try simp only [Act.put, List.setIfInBounds_toArray, List.set_cons_zero, List.set_cons_succ]
                          refine wpAnyH_take (i := 13) (v := .agg (bpC Y).toArray) rfl (by kernel_rfl) (by kernel_rfl) (by kernel_rfl) (fun _ _ _ h => h) (Or.inl ⟨by rfl, fun w _ => HBL.out _ _ rfl (by go_simp) (by go_simp) w⟩) hS ?_
                          simp only [Act.put, List.setIfInBounds_toArray, List.set_cons_zero, List.set_cons_succ]
                          refine wpAnyH_ready (rs := [17]) (by kernel_rfl) (by simp) ?_
                          refine (AllReadyH.cons rfl (fun K' hK => ?_) AllReadyH.nil)
                          · obtain ⟨A17, c17, v29, hrun, h17, hg⟩ := lo_app0 h14 (HEW.out _ bb) bb.size HEL.out
                            have hb : Below Wb.heap.size v28 v29 := (Below.refl _ _).grown hg bb.size (fun k hk => by obtain rfl := Option.some.inj hk; exact (h14.lt _ rfl).1)
                            have bn := bb.trans hb
                            have nh19 := lo_rd h19 hg hnb
                            refine step_appRun rfl (.tmp 63) (.tmp 65) _ _ rfl (.slice (some ⟨Ba, 0, none⟩) 0 0) (.slice Ae Ew.length ce) (.slice A17 Ew.length c17) (by go_simp) (by go_simp) hrun ?_
                            clear hrun bb hS hg hb h14
                            have bb := bn
                            clear bn
                            clear h19
                            have h19 := nh19
                            clear nh19
                            refine hK.out _ _ (HSS.out _ bb) (fun hS => ?_)
                            clear hK K'
                            try simp only [Act.put, List.setIfInBounds_toArray, List.set_cons_zero, List.set_cons_succ]
                            refine wpAnyH_ready (rs := [20]) (by kernel_rfl) (by simp) ?_
                            refine (AllReadyH.cons rfl (fun K' hK => ?_) AllReadyH.nil)
                            · obtain ⟨A20, c20, v30, hrun, h20, hg⟩ := lo_app1 h17 h19 bb.size HEL1.out
                              have bn : Below Wb.heap.size Wb v30 := bb.grown hg bb.size (fun k hk => (h17.lt k hk).1)
                              refine step_appRun rfl (.tmp 66) (.tmp 68) _ _ rfl (.slice A17 Ew.length c17) (.slice (some ⟨Bn, 0, none⟩) 1 1) (.slice A20 (Ew.length + 1) c20) (by go_simp) (by go_simp) hrun ?_
                              clear hrun bb hS hg h17 h19
                              have bb := bn
                              clear bn
                              refine hK.out _ _ (HSS.out _ bb) (fun hS => ?_)
                              clear hK K'
                              try simp only [Act.put, List.setIfInBounds_toArray, List.set_cons_zero, List.set_cons_succ]
                              refine wpAnyH_ready (rs := [21]) (by kernel_rfl) (by simp) ?_
                              refine (AllReadyH.cons rfl (fun K' hK => ?_) AllReadyH.nil)
                              · go_simp
                                have hct := HNT.out v30 bb A20 c20 (h20.low HLO.out)
                                go_at_call 107
                                refine hct.mono ?_
                                rintro e v31 ⟨rfl, hk, hor⟩
                                have hfin := HFIN.out v30 v31 bb _ hk hor
                                refine hK.out _ _ hfin.1 (fun hS => ?_)
                                clear hK K' hct hk hor
                                refine wpAnyH_done (by kernel_rfl) ?_ _
                                go_wp2_with fail
                                go_meet
                                exact hfin.2
                    · go_simp
                      have hb : Below v1.heap.size v1 (v1.alloc (Obj.cells #[.int .i64 (n : Int)] 3)) := (Below.refl _ _).alloc (Nat.le_refl _) _
                      have n19 := lo_19 v1 (n : Int)
                      have bn := nt_b bb hb
                      clear bb hS
                      have bb := bn
                      clear bn
                      clear hb
                      have h19 := n19
                      clear n19
                      refine hK.out _ _ (HSS.out _ bb) (fun hS => ?_)
                      clear hK K'
                      obtain ⟨Bn, hBn⟩ : ∃ Z, Z = v1.heap.size := ⟨_, rfl⟩
                      rw [← hBn] at h19 ⊢
                      clear hBn
                      generalize v1.alloc (Obj.cells #[.int .i64 (n : Int)] 3) = v32 at *
                      try simp only [Act.put, List.setIfInBounds_toArray, List.set_cons_zero, List.set_cons_succ]
                      refine wpAnyH_ready (rs := [12, 14]) (by kernel_rfl) (by simp) ?_
                      refine (AllReadyH.cons rfl (fun K' hK => ?_) (AllReadyH.cons rfl (fun K' hK => ?_) AllReadyH.nil))
                      · go_simp
                        go_at_call 109
                        refine (HB2.out _).mono ?_
                        rintro e v33 ⟨rfl, hb⟩
                        have bn := nt_b bb hb
                        have nh19 := Rd.below h19 hb (Nat.le_refl _)
                        clear bb hS h19
                        have bb := bn
                        have h19 := nh19
                        clear bn nh19
                        clear hb
                        refine hK.out _ _ (HSS.out _ bb) (fun hS => ?_)
                        clear hK K'
                        try simp only [Act.put, List.setIfInBounds_toArray, List.set_cons_zero, List.set_cons_succ]
                        refine wpAnyH_take (i := 13) (v := .agg (bpC Y).toArray) rfl (by kernel_rfl) (by kernel_rfl) (by kernel_rfl) (fun _ _ _ h => h) (Or.inl ⟨by rfl, fun w _ => HBL.out _ _ rfl (by go_simp) (by go_simp) w⟩) hS ?_
                        simp only [Act.put, List.setIfInBounds_toArray, List.set_cons_zero, List.set_cons_succ]
                        refine wpAnyH_ready (rs := [14]) (by kernel_rfl) (by simp) ?_
                        refine (AllReadyH.cons rfl (fun K' hK => ?_) AllReadyH.nil)
                        · have hnb : Bn ≠ v33.heap.size := Nat.ne_of_lt (lo_lt h19)
                          go_simp
                          have hb : Below v33.heap.size v33 (v33.alloc (Obj.cells #[] 3)) := (Below.refl _ _).alloc (Nat.le_refl _) _
                          have n14 := lo_14 v33 Wb.heap.size bb.size
                          have bn := nt_b bb hb
                          have nh19 := Rd.below h19 hb (Nat.le_refl _)
                          clear bb hS h19
                          have bb := bn
                          have h19 := nh19
                          clear bn nh19
                          clear hb
                          have hZ14 : Wb.heap.size ≤ v33.heap.size := n14.lt _ rfl |>.1
                          have h14 := n14
                          clear n14
                          refine hK.out _ _ (HSS.out _ bb) (fun hS => ?_)
                          clear hK K'
                          obtain ⟨Ba, hBa⟩ : ∃ Z, Z = v33.heap.size := ⟨_, rfl⟩
                          rw [← hBa] at h14 hZ14 hnb ⊢
                          clear hBa
                          generalize v33.alloc (Obj.cells #[] 3) = v34 at *
                          try simp only [Act.put, List.setIfInBounds_toArray, List.set_cons_zero, List.set_cons_succ]
                          refine wpAnyH_ready (rs := [17]) (by kernel_rfl) (by simp) ?_
                          refine (AllReadyH.cons rfl (fun K' hK => ?_) AllReadyH.nil)
                          · obtain ⟨A17, c17, v35, hrun, h17, hg⟩ := lo_app0 h14 (HEW.out _ bb) bb.size HEL.out
                            have hb : Below Wb.heap.size v34 v35 := (Below.refl _ _).grown hg bb.size (fun k hk => by obtain rfl := Option.some.inj hk; exact (h14.lt _ rfl).1)
                            have bn := bb.trans hb
                            have nh19 := lo_rd h19 hg hnb
                            refine step_appRun rfl (.tmp 63) (.tmp 65) _ _ rfl (.slice (some ⟨Ba, 0, none⟩) 0 0) (.slice Ae Ew.length ce) (.slice A17 Ew.length c17) (by go_simp) (by go_simp) hrun ?_
                            clear hrun bb hS hg hb h14
                            have bb := bn
                            clear bn
                            clear h19
                            have h19 := nh19
                            clear nh19
                            refine hK.out _ _ (HSS.out _ bb) (fun hS => ?_)
                            clear hK K'
                            try simp only [Act.put, List.setIfInBounds_toArray, List.set_cons_zero, List.set_cons_succ]
                            refine wpAnyH_ready (rs := [20]) (by kernel_rfl) (by simp) ?_
                            refine (AllReadyH.cons rfl (fun K' hK => ?_) AllReadyH.nil)
                            · obtain ⟨A20, c20, v36, hrun, h20, hg⟩ := lo_app1 h17 h19 bb.size HEL1.out
                              have bn : Below Wb.heap.size Wb v36 := bb.grown hg bb.size (fun k hk => (h17.lt k hk).1)
                              refine step_appRun rfl (.tmp 66) (.tmp 68) _ _ rfl (.slice A17 Ew.length c17) (.slice (some ⟨Bn, 0, none⟩) 1 1) (.slice A20 (Ew.length + 1) c20) (by go_simp) (by go_simp) hrun ?_
                              clear hrun bb hS hg h17 h19
                              have bb := bn
                              clear bn
                              refine hK.out _ _ (HSS.out _ bb) (fun hS => ?_)
                              clear hK K'
                              try simp only [Act.put, List.setIfInBounds_toArray, List.set_cons_zero, List.set_cons_succ]
                              refine wpAnyH_ready (rs := [21]) (by kernel_rfl) (by simp) ?_
                              refine (AllReadyH.cons rfl (fun K' hK => ?_) AllReadyH.nil)
                              · go_simp
                                have hct := HNT.out v36 bb A20 c20 (h20.low HLO.out)
                                go_at_call 107
                                refine hct.mono ?_
                                rintro e v37 ⟨rfl, hk, hor⟩
                                have hfin := HFIN.out v36 v37 bb _ hk hor
                                refine hK.out _ _ hfin.1 (fun hS => ?_)
                                clear hK K' hct hk hor
                                refine wpAnyH_done (by kernel_rfl) ?_ _
                                go_wp2_with fail
                                go_meet
                                exact hfin.2
                      · have hnb : Bn ≠ v32.heap.size := Nat.ne_of_lt (lo_lt h19)
                        go_simp
                        have hb : Below v32.heap.size v32 (v32.alloc (Obj.cells #[] 3)) := (Below.refl _ _).alloc (Nat.le_refl _) _
                        have n14 := lo_14 v32 Wb.heap.size bb.size
                        have bn := nt_b bb hb
                        have nh19 := Rd.below h19 hb (Nat.le_refl _)
                        clear bb hS h19
                        have bb := bn
                        have h19 := nh19
                        clear bn nh19
                        clear hb
                        have hZ14 : Wb.heap.size ≤ v32.heap.size := n14.lt _ rfl |>.1
                        have h14 := n14
                        clear n14
                        refine hK.out _ _ (HSS.out _ bb) (fun hS => ?_)
                        clear hK K'
                        obtain ⟨Ba, hBa⟩ : ∃ Z, Z = v32.heap.size := ⟨_, rfl⟩
                        rw [← hBa] at h14 hZ14 hnb ⊢
                        clear hBa
                        generalize v32.alloc (Obj.cells #[] 3) = v38 at *
                        try simp only [Act.put, List.setIfInBounds_toArray, List.set_cons_zero, List.set_cons_succ]
                        refine wpAnyH_ready (rs := [12]) (by kernel_rfl) (by simp) ?_
                        refine (AllReadyH.cons rfl (fun K' hK => ?_) AllReadyH.nil)
                        · go_simp
                          go_at_call 109
                          refine (HB2.out _).mono ?_
                          rintro e v39 ⟨rfl, hb⟩
                          have bn := nt_b bb hb
                          have nh14 := own_below h14 hb
                          have nh19 := Rd.below h19 hb (Nat.le_refl _)
                          clear bb hS h14 h19
                          have bb := bn
                          have h14 := nh14
                          have h19 := nh19
                          clear bn nh14 nh19
                          clear hb
                          refine hK.out _ _ (HSS.out _ bb) (fun hS => ?_)
                          clear hK K'
                          try simp only [Act.put, List.setIfInBounds_toArray, List.set_cons_zero, List.set_cons_succ]
                          refine wpAnyH_take (i := 13) (v := .agg (bpC Y).toArray) rfl (by kernel_rfl) (by kernel_rfl) (by kernel_rfl) (fun _ _ _ h => h) (Or.inl ⟨by rfl, fun w _ => HBL.out _ _ rfl (by go_simp) (by go_simp) w⟩) hS ?_
                          simp only [Act.put, List.setIfInBounds_toArray, List.set_cons_zero, List.set_cons_succ]
                          refine wpAnyH_ready (rs := [17]) (by kernel_rfl) (by simp) ?_
                          refine (AllReadyH.cons rfl (fun K' hK => ?_) AllReadyH.nil)
                          · obtain ⟨A17, c17, v40, hrun, h17, hg⟩ := lo_app0 h14 (HEW.out _ bb) bb.size HEL.out
                            have hb : Below Wb.heap.size v39 v40 := (Below.refl _ _).grown hg bb.size (fun k hk => by obtain rfl := Option.some.inj hk; exact (h14.lt _ rfl).1)
                            have bn := bb.trans hb
                            have nh19 := lo_rd h19 hg hnb
                            refine step_appRun rfl (.tmp 63) (.tmp 65) _ _ rfl (.slice (some ⟨Ba, 0, none⟩) 0 0) (.slice Ae Ew.length ce) (.slice A17 Ew.length c17) (by go_simp) (by go_simp) hrun ?_
                            clear hrun bb hS hg hb h14
                            have bb := bn
                            clear bn
                            clear h19
                            have h19 := nh19
                            clear nh19
                            refine hK.out _ _ (HSS.out _ bb) (fun hS => ?_)
                            clear hK K'
                            try simp only [Act.put, List.setIfInBounds_toArray, List.set_cons_zero, List.set_cons_succ]
                            refine wpAnyH_ready (rs := [20]) (by kernel_rfl) (by simp) ?_
                            refine (AllReadyH.cons rfl (fun K' hK => ?_) AllReadyH.nil)
                            · obtain ⟨A20, c20, v41, hrun, h20, hg⟩ := lo_app1 h17 h19 bb.size HEL1.out
                              have bn : Below Wb.heap.size Wb v41 := bb.grown hg bb.size (fun k hk => (h17.lt k hk).1)
                              refine step_appRun rfl (.tmp 66) (.tmp 68) _ _ rfl (.slice A17 Ew.length c17) (.slice (some ⟨Bn, 0, none⟩) 1 1) (.slice A20 (Ew.length + 1) c20) (by go_simp) (by go_simp) hrun ?_
                              clear hrun bb hS hg h17 h19
                              have bb := bn
                              clear bn
                              refine hK.out _ _ (HSS.out _ bb) (fun hS => ?_)
                              clear hK K'
                              try simp only [Act.put, List.setIfInBounds_toArray, List.set_cons_zero, List.set_cons_succ]
                              refine wpAnyH_ready (rs := [21]) (by kernel_rfl) (by simp) ?_
                              refine (AllReadyH.cons rfl (fun K' hK => ?_) AllReadyH.nil)
                              · go_simp
                                have hct := HNT.out v41 bb A20 c20 (h20.low HLO.out)
                                go_at_call 107
                                refine hct.mono ?_
                                rintro e v42 ⟨rfl, hk, hor⟩
                                have hfin := HFIN.out v41 v42 bb _ hk hor
                                refine hK.out _ _ hfin.1 (fun hS => ?_)
                                clear hK K' hct hk hor
                                refine wpAnyH_done (by kernel_rfl) ?_ _
                                go_wp2_with fail
                                go_meet
                                exact hfin.2
                  · go_simp
                    have hb : Below Wd.heap.size Wd (Wd.alloc (Obj.cells #[] 3)) := (Below.refl _ _).alloc (Nat.le_refl _) _
                    have n14 := lo_14 Wd Wb.heap.size bb.size
                    have bn := nt_b bb hb
                    clear bb hS
                    have bb := bn
                    clear bn
                    clear hb
                    have hZ14 : Wb.heap.size ≤ Wd.heap.size := n14.lt _ rfl |>.1
                    have h14 := n14
                    clear n14
                    refine hK.out _ _ (HSS.out _ bb) (fun hS => ?_)
                    clear hK K'
                    obtain ⟨Ba, hBa⟩ : ∃ Z, Z = Wd.heap.size := ⟨_, rfl⟩
                    rw [← hBa] at h14 hZ14 ⊢
                    clear hBa
                    generalize Wd.alloc (Obj.cells #[] 3) = v43 at *
                    try simp only [Act.put, List.setIfInBounds_toArray, List.set_cons_zero, List.set_cons_succ]
                    refine wpAnyH_ready (rs := [6, 19]) (by kernel_rfl) (by simp) ?_
                    refine (AllReadyH.cons rfl (fun K' hK => ?_) (AllReadyH.cons rfl (fun K' hK => ?_) AllReadyH.nil))
                    · go_simp
                      go_at_call 109
                      refine (HB1.out _).mono ?_
                      rintro e v44 ⟨rfl, hb⟩
                      have bn := nt_b bb hb
                      have nh14 := own_below h14 hb
                      clear bb hS h14
                      have bb := bn
                      have h14 := nh14
                      clear bn nh14
                      clear hb
                      refine hK.out _ _ (HSS.out _ bb) (fun hS => ?_)
                      clear hK K'
                      try simp only [Act.put, List.setIfInBounds_toArray, List.set_cons_zero, List.set_cons_succ]
                      refine wpAnyH_ready (rs := [12, 19]) (by kernel_rfl) (by simp) ?_
                      refine (AllReadyH.cons rfl (fun K' hK => ?_) (AllReadyH.cons rfl (fun K' hK => ?_) AllReadyH.nil))
                      · go_simp
                        go_at_call 109
                        refine (HB2.out _).mono ?_
                        rintro e v45 ⟨rfl, hb⟩
                        have bn := nt_b bb hb
                        have nh14 := own_below h14 hb
                        clear bb hS h14
                        have bb := bn
                        have h14 := nh14
                        clear bn nh14
                        clear hb
                        refine hK.out _ _ (HSS.out _ bb) (fun hS => ?_)
                        clear hK K'
                        try simp only [Act.put, List.setIfInBounds_toArray, List.set_cons_zero, List.set_cons_succ]
                        refine wpAnyH_take (i := 13) (v := .agg (bpC Y).toArray) rfl (by kernel_rfl) (by kernel_rfl) (by kernel_rfl) (fun _ _ _ h => h) (Or.inl ⟨by rfl, fun w _ => HBL.out _ _ rfl (by go_simp) (by go_simp) w⟩) hS ?_
                        simp only [Act.put, List.setIfInBounds_toArray, List.set_cons_zero, List.set_cons_succ]
                        refine wpAnyH_ready (rs := [17, 19]) (by kernel_rfl) (by simp) ?_
                        refine (AllReadyH.cons rfl (fun K' hK => ?_) (AllReadyH.cons rfl (fun K' hK => ?_) AllReadyH.nil))
                        · obtain ⟨A17, c17, v46, hrun, h17, hg⟩ := lo_app0 h14 (HEW.out _ bb) bb.size HEL.out
                          have hb : Below Wb.heap.size v45 v46 := (Below.refl _ _).grown hg bb.size (fun k hk => by obtain rfl := Option.some.inj hk; exact (h14.lt _ rfl).1)
                          have bn := bb.trans hb
                          refine step_appRun rfl (.tmp 63) (.tmp 65) _ _ rfl (.slice (some ⟨Ba, 0, none⟩) 0 0) (.slice Ae Ew.length ce) (.slice A17 Ew.length c17) (by go_simp) (by go_simp) hrun ?_
                          clear hrun bb hS hg hb h14
                          have bb := bn
                          clear bn
                          refine hK.out _ _ (HSS.out _ bb) (fun hS => ?_)
                          clear hK K'
                          try simp only [Act.put, List.setIfInBounds_toArray, List.set_cons_zero, List.set_cons_succ]
                          refine wpAnyH_ready (rs := [19]) (by kernel_rfl) (by simp) ?_
                          refine (AllReadyH.cons rfl (fun K' hK => ?_) AllReadyH.nil)
                          · go_simp
                            have hb : Below v46.heap.size v46 (v46.alloc (Obj.cells #[.int .i64 (n : Int)] 3)) := (Below.refl _ _).alloc (Nat.le_refl _) _
                            have n19 := lo_19 v46 (n : Int)
                            have bn := nt_b bb hb
                            have nh17 := own_below h17 hb
                            clear bb hS h17
                            have bb := bn
                            have h17 := nh17
                            clear bn nh17
                            clear hb
                            have h19 := n19
                            clear n19
                            refine hK.out _ _ (HSS.out _ bb) (fun hS => ?_)
                            clear hK K'
                            obtain ⟨Bn, hBn⟩ : ∃ Z, Z = v46.heap.size := ⟨_, rfl⟩
                            rw [← hBn] at h19 ⊢
                            clear hBn
                            generalize v46.alloc (Obj.cells #[.int .i64 (n : Int)] 3) = v47 at *
                            try simp only [Act.put, List.setIfInBounds_toArray, List.set_cons_zero, List.set_cons_succ]
                            refine wpAnyH_ready (rs := [20]) (by kernel_rfl) (by simp) ?_
                            refine (AllReadyH.cons rfl (fun K' hK => ?_) AllReadyH.nil)
                            · obtain ⟨A20, c20, v48, hrun, h20, hg⟩ := lo_app1 h17 h19 bb.size HEL1.out
                              have bn : Below Wb.heap.size Wb v48 := bb.grown hg bb.size (fun k hk => (h17.lt k hk).1)
                              refine step_appRun rfl (.tmp 66) (.tmp 68) _ _ rfl (.slice A17 Ew.length c17) (.slice (some ⟨Bn, 0, none⟩) 1 1) (.slice A20 (Ew.length + 1) c20) (by go_simp) (by go_simp) hrun ?_
                              clear hrun bb hS hg h17 h19
                              have bb := bn
                              clear bn
                              refine hK.out _ _ (HSS.out _ bb) (fun hS => ?_)
                              clear hK K'
                              try simp only [Act.put, List.setIfInBounds_toArray, List.set_cons_zero, List.set_cons_succ]
                              refine wpAnyH_ready (rs := [21]) (by kernel_rfl) (by simp) ?_
                              refine (AllReadyH.cons rfl (fun K' hK => ?_) AllReadyH.nil)
                              · go_simp
                                have hct := HNT.out v48 bb A20 c20 (h20.low HLO.out)
                                go_at_call 107
                                refine hct.mono ?_
                                rintro e v49 ⟨rfl, hk, hor⟩
                                have hfin := HFIN.out v48 v49 bb _ hk hor
                                refine hK.out _ _ hfin.1 (fun hS => ?_)
                                clear hK K' hct hk hor
                                refine wpAnyH_done (by kernel_rfl) ?_ _
                                go_wp2_with fail
                                go_meet
                                exact hfin.2
                        · have hnb : v45.heap.size ≠ Ba := (Nat.ne_of_lt (h14.lt _ rfl).2).symm
                          go_simp
                          have hb : Below v45.heap.size v45 (v45.alloc (Obj.cells #[.int .i64 (n : Int)] 3)) := (Below.refl _ _).alloc (Nat.le_refl _) _
                          have n19 := lo_19 v45 (n : Int)
                          have bn := nt_b bb hb
                          have nh14 := own_below h14 hb
                          clear bb hS h14
                          have bb := bn
                          have h14 := nh14
                          clear bn nh14
                          clear hb
                          have h19 := n19
                          clear n19
                          refine hK.out _ _ (HSS.out _ bb) (fun hS => ?_)
                          clear hK K'
                          obtain ⟨Bn, hBn⟩ : ∃ Z, Z = v45.heap.size := ⟨_, rfl⟩
                          rw [← hBn] at h19 hnb ⊢
                          clear hBn
                          generalize v45.alloc (Obj.cells #[.int .i64 (n : Int)] 3) = v50 at *
                          try simp only [Act.put, List.setIfInBounds_toArray, List.set_cons_zero, List.set_cons_succ]
                          refine wpAnyH_ready (rs := [17]) (by kernel_rfl) (by simp) ?_
                          refine (AllReadyH.cons rfl (fun K' hK => ?_) AllReadyH.nil)
                          · obtain ⟨A17, c17, v51, hrun, h17, hg⟩ := lo_app0 h14 (HEW.out _ bb) bb.size HEL.out
                            have hb : Below Wb.heap.size v50 v51 := (Below.refl _ _).grown hg bb.size (fun k hk => by obtain rfl := Option.some.inj hk; exact (h14.lt _ rfl).1)
                            have bn := bb.trans hb
                            have nh19 := lo_rd h19 hg hnb
                            refine step_appRun rfl (.tmp 63) (.tmp 65) _ _ rfl (.slice (some ⟨Ba, 0, none⟩) 0 0) (.slice Ae Ew.length ce) (.slice A17 Ew.length c17) (by go_simp) (by go_simp) hrun ?_
                            clear hrun bb hS hg hb h14
                            have bb := bn
                            clear bn
                            clear h19
                            have h19 := nh19
                            clear nh19
                            refine hK.out _ _ (HSS.out _ bb) (fun hS => ?_)
                            clear hK K'
                            try simp only [Act.put, List.setIfInBounds_toArray, List.set_cons_zero, List.set_cons_succ]
                            refine wpAnyH_ready (rs := [20]) (by kernel_rfl) (by simp) ?_
                            refine (AllReadyH.cons rfl (fun K' hK => ?_) AllReadyH.nil)
                            · obtain ⟨A20, c20, v52, hrun, h20, hg⟩ := lo_app1 h17 h19 bb.size HEL1.out
                              have bn : Below Wb.heap.size Wb v52 := bb.grown hg bb.size (fun k hk => (h17.lt k hk).1)
                              refine step_appRun rfl (.tmp 66) (.tmp 68) _ _ rfl (.slice A17 Ew.length c17) (.slice (some ⟨Bn, 0, none⟩) 1 1) (.slice A20 (Ew.length + 1) c20) (by go_simp) (by go_simp) hrun ?_
                              clear hrun bb hS hg h17 h19
                              have bb := bn
                              clear bn
                              refine hK.out _ _ (HSS.out _ bb) (fun hS => ?_)
                              clear hK K'
                              try simp only [Act.put, List.setIfInBounds_toArray, List.set_cons_zero, List.set_cons_succ]
                              refine wpAnyH_ready (rs := [21]) (by kernel_rfl) (by simp) ?_
                              refine (AllReadyH.cons rfl (fun K' hK => ?_) AllReadyH.nil)
                              · go_simp
                                have hct := HNT.out v52 bb A20 c20 (h20.low HLO.out)
                                go_at_call 107
                                refine hct.mono ?_
                                rintro e v53 ⟨rfl, hk, hor⟩
                                have hfin := HFIN.out v52 v53 bb _ hk hor
                                refine hK.out _ _ hfin.1 (fun hS => ?_)
                                clear hK K' hct hk hor
                                refine wpAnyH_done (by kernel_rfl) ?_ _
                                go_wp2_with fail
                                go_meet
                                exact hfin.2
                      · have hnb : v44.heap.size ≠ Ba := (Nat.ne_of_lt (h14.lt _ rfl).2).symm
                        go_simp
                        have hb : Below v44.heap.size v44 (v44.alloc (Obj.cells #[.int .i64 (n : Int)] 3)) := (Below.refl _ _).alloc (Nat.le_refl _) _
                        have n19 := lo_19 v44 (n : Int)
                        have bn := nt_b bb hb
                        have nh14 := own_below h14 hb
                        clear bb hS h14
                        have bb := bn
                        have h14 := nh14
                        clear bn nh14
                        clear hb
                        have h19 := n19
                        clear n19
                        refine hK.out _ _ (HSS.out _ bb) (fun hS => ?_)
                        clear hK K'
                        obtain ⟨Bn, hBn⟩ : ∃ Z, Z = v44.heap.size := ⟨_, rfl⟩
                        rw [← hBn] at h19 hnb ⊢
                        clear hBn
                        generalize v44.alloc (Obj.cells #[.int .i64 (n : Int)] 3) = v54 at *
                        try simp only [Act.put, List.setIfInBounds_toArray, List.set_cons_zero, List.set_cons_succ]
                        refine wpAnyH_ready (rs := [12]) (by kernel_rfl) (by simp) ?_
                        refine (AllReadyH.cons rfl (fun K' hK => ?_) AllReadyH.nil)
                        · go_simp
                          go_at_call 109
                          refine (HB2.out _).mono ?_
                          rintro e v55 ⟨rfl, hb⟩
                          have bn := nt_b bb hb
                          have nh14 := own_below h14 hb
                          have nh19 := Rd.below h19 hb (Nat.le_refl _)
                          clear bb hS h14 h19
                          have bb := bn
                          have h14 := nh14
                          have h19 := nh19
                          clear bn nh14 nh19
                          clear hb
                          refine hK.out _ _ (HSS.out _ bb) (fun hS => ?_)
                          clear hK K'
                          try simp only [Act.put, List.setIfInBounds_toArray, List.set_cons_zero, List.set_cons_succ]
                          refine wpAnyH_take (i := 13) (v := .agg (bpC Y).toArray) rfl (by kernel_rfl) (by kernel_rfl) (by kernel_rfl) (fun _ _ _ h => h) (Or.inl ⟨by rfl, fun w _ => HBL.out _ _ rfl (by go_simp) (by go_simp) w⟩) hS ?_
                          simp only [Act.put, List.setIfInBounds_toArray, List.set_cons_zero, List.set_cons_succ]
                          refine wpAnyH_ready (rs := [17]) (by kernel_rfl) (by simp) ?_
                          refine (AllReadyH.cons rfl (fun K' hK => ?_) AllReadyH.nil)
                          · obtain ⟨A17, c17, v56, hrun, h17, hg⟩ := lo_app0 h14 (HEW.out _ bb) bb.size HEL.out
                            have hb : Below Wb.heap.size v55 v56 := (Below.refl _ _).grown hg bb.size (fun k hk => by obtain rfl := Option.some.inj hk; exact (h14.lt _ rfl).1)
                            have bn := bb.trans hb
                            have nh19 := lo_rd h19 hg hnb
                            refine step_appRun rfl (.tmp 63) (.tmp 65) _ _ rfl (.slice (some ⟨Ba, 0, none⟩) 0 0) (.slice Ae Ew.length ce) (.slice A17 Ew.length c17) (by go_simp) (by go_simp) hrun ?_
                            clear hrun bb hS hg hb h14
                            have bb := bn
                            clear bn
                            clear h19
                            have h19 := nh19
                            clear nh19
                            refine hK.out _ _ (HSS.out _ bb) (fun hS => ?_)
                            clear hK K'
                            try simp only [Act.put, List.setIfInBounds_toArray, List.set_cons_zero, List.set_cons_succ]
                            refine wpAnyH_ready (rs := [20]) (by kernel_rfl) (by simp) ?_
                            refine (AllReadyH.cons rfl (fun K' hK => ?_) AllReadyH.nil)
                            · obtain ⟨A20, c20, v57, hrun, h20, hg⟩ := lo_app1 h17 h19 bb.size HEL1.out
                              have bn : Below Wb.heap.size Wb v57 := bb.grown hg bb.size (fun k hk => (h17.lt k hk).1)
                              refine step_appRun rfl (.tmp 66) (.tmp 68) _ _ rfl (.slice A17 Ew.length c17) (.slice (some ⟨Bn, 0, none⟩) 1 1) (.slice A20 (Ew.length + 1) c20) (by go_simp) (by go_simp) hrun ?_
                              clear hrun bb hS hg h17 h19
                              have bb := bn
                              clear bn
                              refine hK.out _ _ (HSS.out _ bb) (fun hS => ?_)
                              clear hK K'
                              try simp only [Act.put, List.setIfInBounds_toArray, List.set_cons_zero, List.set_cons_succ]
                              refine wpAnyH_ready (rs := [21]) (by kernel_rfl) (by simp) ?_
                              refine (AllReadyH.cons rfl (fun K' hK => ?_) AllReadyH.nil)
                              · go_simp
                                have hct := HNT.out v57 bb A20 c20 (h20.low HLO.out)
                                go_at_call 107
                                refine hct.mono ?_
                                rintro e v58 ⟨rfl, hk, hor⟩
                                have hfin := HFIN.out v57 v58 bb _ hk hor
                                refine hK.out _ _ hfin.1 (fun hS => ?_)
                                clear hK K' hct hk hor
                                refine wpAnyH_done (by kernel_rfl) ?_ _
                                go_wp2_with fail
                                go_meet
                                exact hfin.2
                    · have hnb : v43.heap.size ≠ Ba := (Nat.ne_of_lt (h14.lt _ rfl).2).symm
                      go_simp
                      have hb : Below v43.heap.size v43 (v43.alloc (Obj.cells #[.int .i64 (n : Int)] 3)) := (Below.refl _ _).alloc (Nat.le_refl _) _
                      have n19 := lo_19 v43 (n : Int)
                      have bn := nt_b bb hb
                      have nh14 := own_below h14 hb
                      clear bb hS h14
                      have bb := bn
                      have h14 := nh14
                      clear bn nh14
                      clear hb
                      have h19 := n19
                      clear n19
                      refine hK.out _ _ (HSS.out _ bb) (fun hS => ?_)
                      clear hK K'
                      obtain ⟨Bn, hBn⟩ : ∃ Z, Z = v43.heap.size := ⟨_, rfl⟩
                      rw [← hBn] at h19 hnb ⊢
                      clear hBn
                      generalize v43.alloc (Obj.cells #[.int .i64 (n : Int)] 3) = v59 at *
                      try simp only [Act.put, List.setIfInBounds_toArray, List.set_cons_zero, List.set_cons_succ]
                      refine wpAnyH_ready (rs := [6]) (by kernel_rfl) (by simp) ?_
                      refine (AllReadyH.cons rfl (fun K' hK => ?_) AllReadyH.nil)
                      · go_simp
                        go_at_call 109
                        refine (HB1.out _).mono ?_
                        rintro e v60 ⟨rfl, hb⟩
                        have bn := nt_b bb hb
                        have nh14 := own_below h14 hb
                        have nh19 := Rd.below h19 hb (Nat.le_refl _)
                        clear bb hS h14 h19
                        have bb := bn
                        have h14 := nh14
                        have h19 := nh19
                        clear bn nh14 nh19
                        clear hb
                        refine hK.out _ _ (HSS.out _ bb) (fun hS => ?_)
                        clear hK K'
                        try simp only [Act.put, List.setIfInBounds_toArray, List.set_cons_zero, List.set_cons_succ]
                        refine wpAnyH_ready (rs := [12]) (by kernel_rfl) (by simp) ?_
                        refine (AllReadyH.cons rfl (fun K' hK => ?_) AllReadyH.nil)
                        · go_simp
                          go_at_call 109
                          refine (HB2.out _).mono ?_
                          rintro e v61 ⟨rfl, hb⟩
                          have bn := nt_b bb hb
                          have nh14 := own_below h14 hb
                          have nh19 := Rd.below h19 hb (Nat.le_refl _)
                          clear bb hS h14 h19
                          have bb := bn
                          have h14 := nh14
                          have h19 := nh19
                          clear bn nh14 nh19
                          clear hb
                          refine hK.out _ _ (HSS.out _ bb) (fun hS => ?_)
                          clear hK K'
                          try simp only [Act.put, List.setIfInBounds_toArray, List.set_cons_zero, List.set_cons_succ]
                          refine wpAnyH_take (i := 13) (v := .agg (bpC Y).toArray) rfl (by kernel_rfl) (by kernel_rfl) (by kernel_rfl) (fun _ _ _ h => h) (Or.inl ⟨by rfl, fun w _ => HBL.out _ _ rfl (by go_simp) (by go_simp) w⟩) hS ?_
                          simp only [Act.put, List.setIfInBounds_toArray, List.set_cons_zero, List.set_cons_succ]
                          refine wpAnyH_ready (rs := [17]) (by kernel_rfl) (by simp) ?_
                          refine (AllReadyH.cons rfl (fun K' hK => ?_) AllReadyH.nil)
                          · obtain ⟨A17, c17, v62, hrun, h17, hg⟩ := lo_app0 h14 (HEW.out _ bb) bb.size HEL.out
                            have hb : Below Wb.heap.size v61 v62 := (Below.refl _ _).grown hg bb.size (fun k hk => by obtain rfl := Option.some.inj hk; exact (h14.lt _ rfl).1)
                            have bn := bb.trans hb
                            have nh19 := lo_rd h19 hg hnb
                            refine step_appRun rfl (.tmp 63) (.tmp 65) _ _ rfl (.slice (some ⟨Ba, 0, none⟩) 0 0) (.slice Ae Ew.length ce) (.slice A17 Ew.length c17) (by go_simp) (by go_simp) hrun ?_
                            clear hrun bb hS hg hb h14
                            have bb := bn
                            clear bn
                            clear h19
                            have h19 := nh19
                            clear nh19
                            refine hK.out _ _ (HSS.out _ bb) (fun hS => ?_)
                            clear hK K'
                            try simp only [Act.put, List.setIfInBounds_toArray, List.set_cons_zero, List.set_cons_succ]
                            refine wpAnyH_ready (rs := [20]) (by kernel_rfl) (by simp) ?_
                            refine (AllReadyH.cons rfl (fun K' hK => ?_) AllReadyH.nil)
                            · obtain ⟨A20, c20, v63, hrun, h20, hg⟩ := lo_app1 h17 h19 bb.size HEL1.out
                              have bn : Below Wb.heap.size Wb v63 := bb.grown hg bb.size (fun k hk => (h17.lt k hk).1)
                              refine step_appRun rfl (.tmp 66) (.tmp 68) _ _ rfl (.slice A17 Ew.length c17) (.slice (some ⟨Bn, 0, none⟩) 1 1) (.slice A20 (Ew.length + 1) c20) (by go_simp) (by go_simp) hrun ?_
                              clear hrun bb hS hg h17 h19
                              have bb := bn
                              clear bn
                              refine hK.out _ _ (HSS.out _ bb) (fun hS => ?_)
                              clear hK K'
                              try simp only [Act.put, List.setIfInBounds_toArray, List.set_cons_zero, List.set_cons_succ]
                              refine wpAnyH_ready (rs := [21]) (by kernel_rfl) (by simp) ?_
                              refine (AllReadyH.cons rfl (fun K' hK => ?_) AllReadyH.nil)
                              · go_simp
                                have hct := HNT.out v63 bb A20 c20 (h20.low HLO.out)
                                go_at_call 107
                                refine hct.mono ?_
                                rintro e v64 ⟨rfl, hk, hor⟩
                                have hfin := HFIN.out v63 v64 bb _ hk hor
                                refine hK.out _ _ hfin.1 (fun hS => ?_)
                                clear hK K' hct hk hor
                                refine wpAnyH_done (by kernel_rfl) ?_ _
                                go_wp2_with fail
                                go_meet
                                exact hfin.2
                  · go_simp
                    have hb : Below Wd.heap.size Wd (Wd.alloc (Obj.cells #[.int .i64 (n : Int)] 3)) := (Below.refl _ _).alloc (Nat.le_refl _) _
                    have n19 := lo_19 Wd (n : Int)
                    have bn := nt_b bb hb
                    clear bb hS
                    have bb := bn
                    clear bn
                    clear hb
                    have h19 := n19
                    clear n19
                    refine hK.out _ _ (HSS.out _ bb) (fun hS => ?_)
                    clear hK K'
                    obtain ⟨Bn, hBn⟩ : ∃ Z, Z = Wd.heap.size := ⟨_, rfl⟩
                    rw [← hBn] at h19 ⊢
                    clear hBn
                    generalize Wd.alloc (Obj.cells #[.int .i64 (n : Int)] 3) = v65 at *
                    try simp only [Act.put, List.setIfInBounds_toArray, List.set_cons_zero, List.set_cons_succ]
                    refine wpAnyH_ready (rs := [6, 14]) (by kernel_rfl) (by simp) ?_
                    refine (AllReadyH.cons rfl (fun K' hK => ?_) (AllReadyH.cons rfl (fun K' hK => ?_) AllReadyH.nil))
                    · go_simp
                      go_at_call 109
                      refine (HB1.out _).mono ?_
                      rintro e v66 ⟨rfl, hb⟩
                      have bn := nt_b bb hb
                      have nh19 := Rd.below h19 hb (Nat.le_refl _)
                      clear bb hS h19
                      have bb := bn
                      have h19 := nh19
                      clear bn nh19
                      clear hb
                      refine hK.out _ _ (HSS.out _ bb) (fun hS => ?_)
                      clear hK K'
                      try simp only [Act.put, List.setIfInBounds_toArray, List.set_cons_zero, List.set_cons_succ]
                      refine wpAnyH_ready (rs := [12, 14]) (by kernel_rfl) (by simp) ?_
                      refine (AllReadyH.cons rfl (fun K' hK => ?_) (AllReadyH.cons rfl (fun K' hK => ?_) AllReadyH.nil))
                      · go_simp
                        go_at_call 109
                        refine (HB2.out _).mono ?_
                        rintro e v67 ⟨rfl, hb⟩
                        have bn := nt_b bb hb
                        have nh19 := Rd.below h19 hb (Nat.le_refl _)
                        clear bb hS h19
                        have bb := bn
                        have h19 := nh19
                        clear bn nh19
                        clear hb
                        refine hK.out _ _ (HSS.out _ bb) (fun hS => ?_)
                        clear hK K'
                        try simp only [Act.put, List.setIfInBounds_toArray, List.set_cons_zero, List.set_cons_succ]
                        refine wpAnyH_take (i := 13) (v := .agg (bpC Y).toArray) rfl (by kernel_rfl) (by kernel_rfl) (by kernel_rfl) (fun _ _ _ h => h) (Or.inl ⟨by rfl, fun w _ => HBL.out _ _ rfl (by go_simp) (by go_simp) w⟩) hS ?_
                        simp only [Act.put, List.setIfInBounds_toArray, List.set_cons_zero, List.set_cons_succ]
                        refine wpAnyH_ready (rs := [14]) (by kernel_rfl) (by simp) ?_
                        refine (AllReadyH.cons rfl (fun K' hK => ?_) AllReadyH.nil)
                        · have hnb : Bn ≠ v67.heap.size := Nat.ne_of_lt (lo_lt h19)
                          go_simp
                          have hb : Below v67.heap.size v67 (v67.alloc (Obj.cells #[] 3)) := (Below.refl _ _).alloc (Nat.le_refl _) _
                          have n14 := lo_14 v67 Wb.heap.size bb.size
                          have bn := nt_b bb hb
                          have nh19 := Rd.below h19 hb (Nat.le_refl _)
                          clear bb hS h19
                          have bb := bn
                          have h19 := nh19
                          clear bn nh19
                          clear hb
                          have hZ14 : Wb.heap.size ≤ v67.heap.size := n14.lt _ rfl |>.1
                          have h14 := n14
                          clear n14
                          refine hK.out _ _ (HSS.out _ bb) (fun hS => ?_)
                          clear hK K'
                          obtain ⟨Ba, hBa⟩ : ∃ Z, Z = v67.heap.size := ⟨_, rfl⟩
                          rw [← hBa] at h14 hZ14 hnb ⊢
                          clear hBa
                          generalize v67.alloc (Obj.cells #[] 3) = v68 at *
                          try simp only [Act.put, List.setIfInBounds_toArray, List.set_cons_zero, List.set_cons_succ]
                          refine wpAnyH_ready (rs := [17]) (by kernel_rfl) (by simp) ?_
                          refine (AllReadyH.cons rfl (fun K' hK => ?_) AllReadyH.nil)
                          · obtain ⟨A17, c17, v69, hrun, h17, hg⟩ := lo_app0 h14 (HEW.out _ bb) bb.size HEL.out
                            have hb : Below Wb.heap.size v68 v69 := (Below.refl _ _).grown hg bb.size (fun k hk => by obtain rfl := Option.some.inj hk; exact (h14.lt _ rfl).1)
                            have bn := bb.trans hb
                            have nh19 := lo_rd h19 hg hnb
                            refine step_appRun rfl (.tmp 63) (.tmp 65) _ _ rfl (.slice (some ⟨Ba, 0, none⟩) 0 0) (.slice Ae Ew.length ce) (.slice A17 Ew.length c17) (by go_simp) (by go_simp) hrun ?_
                            clear hrun bb hS hg hb h14
                            have bb := bn
                            clear bn
                            clear h19
                            have h19 := nh19
                            clear nh19
                            refine hK.out _ _ (HSS.out _ bb) (fun hS => ?_)
                            clear hK K'
                            try simp only [Act.put, List.setIfInBounds_toArray, List.set_cons_zero, List.set_cons_succ]
                            refine wpAnyH_ready (rs := [20]) (by kernel_rfl) (by simp) ?_
                            refine (AllReadyH.cons rfl (fun K' hK => ?_) AllReadyH.nil)
                            · obtain ⟨A20, c20, v70, hrun, h20, hg⟩ := lo_app1 h17 h19 bb.size HEL1.out
                              have bn : Below Wb.heap.size Wb v70 := bb.grown hg bb.size (fun k hk => (h17.lt k hk).1)
                              refine step_appRun rfl (.tmp 66) (.tmp 68) _ _ rfl (.slice A17 Ew.length c17) (.slice (some ⟨Bn, 0, none⟩) 1 1) (.slice A20 (Ew.length + 1) c20) (by go_simp) (by go_simp) hrun ?_
                              clear hrun bb hS hg h17 h19
                              have bb := bn
                              clear bn
                              refine hK.out _ _ (HSS.out _ bb) (fun hS => ?_)
                              clear hK K'
                              try simp only [Act.put, List.setIfInBounds_toArray, List.set_cons_zero, List.set_cons_succ]
                              refine wpAnyH_ready (rs := [21]) (by kernel_rfl) (by simp) ?_
                              refine (AllReadyH.cons rfl (fun K' hK => ?_) AllReadyH.nil)
                              · go_simp
                                have hct := HNT.out v70 bb A20 c20 (h20.low HLO.out)
                                go_at_call 107
                                refine hct.mono ?_
                                rintro e v71 ⟨rfl, hk, hor⟩
                                have hfin := HFIN.out v70 v71 bb _ hk hor
                                refine hK.out _ _ hfin.1 (fun hS => ?_)
                                clear hK K' hct hk hor
                                refine wpAnyH_done (by kernel_rfl) ?_ _
                                go_wp2_with fail
                                go_meet
                                exact hfin.2
                      · have hnb : Bn ≠ v66.heap.size := Nat.ne_of_lt (lo_lt h19)
                        go_simp
                        have hb : Below v66.heap.size v66 (v66.alloc (Obj.cells #[] 3)) := (Below.refl _ _).alloc (Nat.le_refl _) _
                        have n14 := lo_14 v66 Wb.heap.size bb.size
                        have bn := nt_b bb hb
                        have nh19 := Rd.below h19 hb (Nat.le_refl _)
                        clear bb hS h19
                        have bb := bn
                        have h19 := nh19
                        clear bn nh19
                        clear hb
                        have hZ14 : Wb.heap.size ≤ v66.heap.size := n14.lt _ rfl |>.1
                        have h14 := n14
                        clear n14
                        refine hK.out _ _ (HSS.out _ bb) (fun hS => ?_)
                        clear hK K'
                        obtain ⟨Ba, hBa⟩ : ∃ Z, Z = v66.heap.size := ⟨_, rfl⟩
                        rw [← hBa] at h14 hZ14 hnb ⊢
                        clear hBa
                        generalize v66.alloc (Obj.cells #[] 3) = v72 at *
                        try simp only [Act.put, List.setIfInBounds_toArray, List.set_cons_zero, List.set_cons_succ]
                        refine wpAnyH_ready (rs := [12]) (by kernel_rfl) (by simp) ?_
                        refine (AllReadyH.cons rfl (fun K' hK => ?_) AllReadyH.nil)
                        · go_simp
                          go_at_call 109
                          refine (HB2.out _).mono ?_
                          rintro e v73 ⟨rfl, hb⟩
                          have bn := nt_b bb hb
                          have nh14 := own_below h14 hb
                          have nh19 := Rd.below h19 hb (Nat.le_refl _)
                          clear bb hS h14 h19
                          have bb := bn
                          have h14 := nh14
                          have h19 := nh19
                          clear bn nh14 nh19
                          clear hb
                          refine hK.out _ _ (HSS.out _ bb) (fun hS => ?_)
                          clear hK K'
                          try simp only [Act.put, List.setIfInBounds_toArray, List.set_cons_zero, List.set_cons_succ]
                          refine wpAnyH_take (i := 13) (v := .agg (bpC Y).toArray) rfl (by kernel_rfl) (by kernel_rfl) (by kernel_rfl) (fun _ _ _ h => h) (Or.inl ⟨by rfl, fun w _ => HBL.out _ _ rfl (by go_simp) (by go_simp) w⟩) hS ?_
                          simp only [Act.put, List.setIfInBounds_toArray, List.set_cons_zero, List.set_cons_succ]
                          refine wpAnyH_ready (rs := [17]) (by kernel_rfl) (by simp) ?_
                          refine (AllReadyH.cons rfl (fun K' hK => ?_) AllReadyH.nil)
                          · obtain ⟨A17, c17, v74, hrun, h17, hg⟩ := lo_app0 h14 (HEW.out _ bb) bb.size HEL.out
                            have hb : Below Wb.heap.size v73 v74 := (Below.refl _ _).grown hg bb.size (fun k hk => by obtain rfl := Option.some.inj hk; exact (h14.lt _ rfl).1)
                            have bn := bb.trans hb
                            have nh19 := lo_rd h19 hg hnb
                            refine step_appRun rfl (.tmp 63) (.tmp 65) _ _ rfl (.slice (some ⟨Ba, 0, none⟩) 0 0) (.slice Ae Ew.length ce) (.slice A17 Ew.length c17) (by go_simp) (by go_simp) hrun ?_
                            clear hrun bb hS hg hb h14
                            have bb := bn
                            clear bn
                            clear h19
                            have h19 := nh19
                            clear nh19
                            refine hK.out _ _ (HSS.out _ bb) (fun hS => ?_)
                            clear hK K'
                            try simp only [Act.put, List.setIfInBounds_toArray, List.set_cons_zero, List.set_cons_succ]
                            refine wpAnyH_ready (rs := [20]) (by kernel_rfl) (by simp) ?_
                            refine (AllReadyH.cons rfl (fun K' hK => ?_) AllReadyH.nil)
                            · obtain ⟨A20, c20, v75, hrun, h20, hg⟩ := lo_app1 h17 h19 bb.size HEL1.out
                              have bn : Below Wb.heap.size Wb v75 := bb.grown hg bb.size (fun k hk => (h17.lt k hk).1)
                              refine step_appRun rfl (.tmp 66) (.tmp 68) _ _ rfl (.slice A17 Ew.length c17) (.slice (some ⟨Bn, 0, none⟩) 1 1) (.slice A20 (Ew.length + 1) c20) (by go_simp) (by go_simp) hrun ?_
                              clear hrun bb hS hg h17 h19
                              have bb := bn
                              clear bn
                              refine hK.out _ _ (HSS.out _ bb) (fun hS => ?_)
                              clear hK K'
                              try simp only [Act.put, List.setIfInBounds_toArray, List.set_cons_zero, List.set_cons_succ]
                              refine wpAnyH_ready (rs := [21]) (by kernel_rfl) (by simp) ?_
                              refine (AllReadyH.cons rfl (fun K' hK => ?_) AllReadyH.nil)
                              · go_simp
                                have hct := HNT.out v75 bb A20 c20 (h20.low HLO.out)
                                go_at_call 107
                                refine hct.mono ?_
                                rintro e v76 ⟨rfl, hk, hor⟩
                                have hfin := HFIN.out v75 v76 bb _ hk hor
                                refine hK.out _ _ hfin.1 (fun hS => ?_)
                                clear hK K' hct hk hor
                                refine wpAnyH_done (by kernel_rfl) ?_ _
                                go_wp2_with fail
                                go_meet
                                exact hfin.2
                    · have hnb : Bn ≠ v65.heap.size := Nat.ne_of_lt (lo_lt h19)
                      go_simp
                      have hb : Below v65.heap.size v65 (v65.alloc (Obj.cells #[] 3)) := (Below.refl _ _).alloc (Nat.le_refl _) _
                      have n14 := lo_14 v65 Wb.heap.size bb.size
                      have bn := nt_b bb hb
                      have nh19 := Rd.below h19 hb (Nat.le_refl _)
                      clear bb hS h19
                      have bb := bn
                      have h19 := nh19
                      clear bn nh19
                      clear hb
                      have hZ14 : Wb.heap.size ≤ v65.heap.size := n14.lt _ rfl |>.1
                      have h14 := n14
                      clear n14
                      refine hK.out _ _ (HSS.out _ bb) (fun hS => ?_)
                      clear hK K'
                      obtain ⟨Ba, hBa⟩ : ∃ Z, Z = v65.heap.size := ⟨_, rfl⟩
                      rw [← hBa] at h14 hZ14 hnb ⊢
                      clear hBa
                      generalize v65.alloc (Obj.cells #[] 3) = v77 at *
                      try simp only [Act.put, List.setIfInBounds_toArray, List.set_cons_zero, List.set_cons_succ]
                      refine wpAnyH_ready (rs := [6]) (by kernel_rfl) (by simp) ?_
                      refine (AllReadyH.cons rfl (fun K' hK => ?_) AllReadyH.nil)
                      · go_simp
                        go_at_call 109
                        refine (HB1.out _).mono ?_
                        rintro e v78 ⟨rfl, hb⟩
                        have bn := nt_b bb hb
                        have nh14 := own_below h14 hb
                        have nh19 := Rd.below h19 hb (Nat.le_refl _)
                        clear bb hS h14 h19
                        have bb := bn
                        have h14 := nh14
                        have h19 := nh19
                        clear bn nh14 nh19
                        clear hb
                        refine hK.out _ _ (HSS.out _ bb) (fun hS => ?_)
                        clear hK K'
                        try simp only [Act.put, List.setIfInBounds_toArray, List.set_cons_zero, List.set_cons_succ]
                        refine wpAnyH_ready (rs := [12]) (by kernel_rfl) (by simp) ?_
                        refine (AllReadyH.cons rfl (fun K' hK => ?_) AllReadyH.nil)
                        · go_simp
                          go_at_call 109
                          refine (HB2.out _).mono ?_
                          rintro e v79 ⟨rfl, hb⟩
                          have bn := nt_b bb hb
                          have nh14 := own_below h14 hb
                          have nh19 := Rd.below h19 hb (Nat.le_refl _)
                          clear bb hS h14 h19
                          have bb := bn
                          have h14 := nh14
                          have h19 := nh19
                          clear bn nh14 nh19
                          clear hb
                          refine hK.out _ _ (HSS.out _ bb) (fun hS => ?_)
                          clear hK K'
                          try simp only [Act.put, List.setIfInBounds_toArray, List.set_cons_zero, List.set_cons_succ]
                          refine wpAnyH_take (i := 13) (v := .agg (bpC Y).toArray) rfl (by kernel_rfl) (by kernel_rfl) (by kernel_rfl) (fun _ _ _ h => h) (Or.inl ⟨by rfl, fun w _ => HBL.out _ _ rfl (by go_simp) (by go_simp) w⟩) hS ?_
                          simp only [Act.put, List.setIfInBounds_toArray, List.set_cons_zero, List.set_cons_succ]
                          refine wpAnyH_ready (rs := [17]) (by kernel_rfl) (by simp) ?_
                          refine (AllReadyH.cons rfl (fun K' hK => ?_) AllReadyH.nil)
                          · obtain ⟨A17, c17, v80, hrun, h17, hg⟩ := lo_app0 h14 (HEW.out _ bb) bb.size HEL.out
                            have hb : Below Wb.heap.size v79 v80 := (Below.refl _ _).grown hg bb.size (fun k hk => by obtain rfl := Option.some.inj hk; exact (h14.lt _ rfl).1)
                            have bn := bb.trans hb
                            have nh19 := lo_rd h19 hg hnb
                            refine step_appRun rfl (.tmp 63) (.tmp 65) _ _ rfl (.slice (some ⟨Ba, 0, none⟩) 0 0) (.slice Ae Ew.length ce) (.slice A17 Ew.length c17) (by go_simp) (by go_simp) hrun ?_
                            clear hrun bb hS hg hb h14
                            have bb := bn
                            clear bn
                            clear h19
                            have h19 := nh19
                            clear nh19
                            refine hK.out _ _ (HSS.out _ bb) (fun hS => ?_)
                            clear hK K'
                            try simp only [Act.put, List.setIfInBounds_toArray, List.set_cons_zero, List.set_cons_succ]
                            refine wpAnyH_ready (rs := [20]) (by kernel_rfl) (by simp) ?_
                            refine (AllReadyH.cons rfl (fun K' hK => ?_) AllReadyH.nil)
                            · obtain ⟨A20, c20, v81, hrun, h20, hg⟩ := lo_app1 h17 h19 bb.size HEL1.out
                              have bn : Below Wb.heap.size Wb v81 := bb.grown hg bb.size (fun k hk => (h17.lt k hk).1)
                              refine step_appRun rfl (.tmp 66) (.tmp 68) _ _ rfl (.slice A17 Ew.length c17) (.slice (some ⟨Bn, 0, none⟩) 1 1) (.slice A20 (Ew.length + 1) c20) (by go_simp) (by go_simp) hrun ?_
                              clear hrun bb hS hg h17 h19
                              have bb := bn
                              clear bn
                              refine hK.out _ _ (HSS.out _ bb) (fun hS => ?_)
                              clear hK K'
                              try simp only [Act.put, List.setIfInBounds_toArray, List.set_cons_zero, List.set_cons_succ]
                              refine wpAnyH_ready (rs := [21]) (by kernel_rfl) (by simp) ?_
                              refine (AllReadyH.cons rfl (fun K' hK => ?_) AllReadyH.nil)
                              · go_simp
                                have hct := HNT.out v81 bb A20 c20 (h20.low HLO.out)
                                go_at_call 107
                                refine hct.mono ?_
                                rintro e v82 ⟨rfl, hk, hor⟩
                                have hfin := HFIN.out v81 v82 bb _ hk hor
                                refine hK.out _ _ hfin.1 (fun hS => ?_)
                                clear hK K' hct hk hor
                                refine wpAnyH_done (by kernel_rfl) ?_ _
                                go_wp2_with fail
                                go_meet
                                exact hfin.2
                case rest =>
                  obtain ⟨v', R', OL', k1, k2, k3, k4, k5, k6, k7⟩ := hcut
                  have K1 := Lib.hid k1
                  have K2 := Lib.hid k2
                  have K3 := Lib.hid k3
                  have K4 := Lib.hid k4
                  have K5 := Lib.hid k5
                  have K6 := Lib.hid k6
                  have K7 := Lib.hid k7
                  clear k1 k2 k3 k4 k5 k6 k7 hla hrng
                  go_wp2_with fail
                  go_roundw
                  case rel => exact ⟨n + 1, HN.out, by go_num, v', R', OL', K1, K2, K3, K4, K5, K6, K7⟩
                  case measure => simp [intOf]; have := HN.out; omega
              · have qn : ¬ (n : Int) < (LS.length : Int) := by omega
                have hnn : n = LS.length := by omega
                have hpl : p < (R.map enP).length := by
                  rw [List.length_map]
                  exact (List.getElem?_eq_some_iff.1 HEP.out).1
                have HBN : Hid (Bfs LS (R.map enP) (p + 1) 0) := Bfs.next (by rw [← hnn]; exact HBF.out) hpl
                clear hnn hpl
                go_wp2_with fail
                go_roundg (387420489 - (p + 1))
                case measure => exact HKB.out.1
                case rel => exact ⟨v, R, OL, p + 1, HKB.out.2, HS, HBN, HBA, HLN⟩
        · have hd0 : R.drop p = [] := List.drop_of_length_le (by omega)
          have hq := HS.out.mem.q
          rw [hd0] at hq
          obtain ⟨A9, c9, rfl, _, _⟩ := hq.form
          have o0 : wr.cell? ⟨Vo, 0, none⟩ = some (.map (some Mo)) := by simp [World.cell?, HS.out.mem.co]
          have HP : Hid (LoPost LS w (.returned (.map (some Mo))) wr) := ⟨⟨Mo, OL, R.map enP, p, rfl, HS.out.mem.out, HMO.out, HS.out.os, HBF.out, by rw [List.length_map]; omega, HBA.out, fun o ho => by
            obtain ⟨e, he, h5⟩ := HS.out.ow o ho
            exact HS.out.mem.ws (o.2.2, o.2.1) (by rw [← h5]; exact List.mem_map_of_mem he), fun o ho => by
            obtain ⟨e, he, h5⟩ := HS.out.ow o ho
            obtain ⟨i, hi, rfl⟩ := List.getElem_of_mem he
            have h6 : R[i].2.1 = o.2.1 := congrArg Prod.snd h5
            have h7 := HLN.out i hi
            have h8 := HBF.out.few HFA.out HFB.out HA3.out HB3.out HL.out
            rw [List.length_map] at h8
            rw [← h6]
            omega⟩, HS.out.below⟩
          clear hq hd0
          simp only [List.length_nil] at l0
          go_wp2_with fail
          go_ret
          exact HP.out
end Go.Proofs.Ytoglgeaiiipchaa
