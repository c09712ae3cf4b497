/- Walks: include's apart, the letters. -/
import Derived.Test.YtoglgeaiiipchaaLISM14
import Derived.Test.YtoglgeaiiipchaaLISM15
import Derived.Test.YtoglgeaiiipchaaLISM16
import Derived.Test.YtoglgeaiiipchaaLISM17
set_option linter.unusedSimpArgs false
set_option linter.unusedVariables false
namespace Go.Proofs.Ytoglgeaiiipchaa
open Go Go.RowKit Go.Maps

set_option maxRecDepth 100000 in
set_option maxHeartbeats 8000000 in
theorem apart_ (a b : Au) (oa : AuOK a) (sa : ssSorted a.ss) (ob : AuOK b) (sb : ssSorted b.ss) (a3 : a.st ≤ 3) (b3 : b.st ≤ 3) (A B C A' B' C' : Option Addr) (ca cb cc ca' cb' cc' : Nat) (w : World) (ra : AuRd w 0 a A B C ca cb cc) (rb : AuRd w 0 b A' B' C' ca' cb' cc') :
    Calls Try.prog 56 #[.agg (auArr a A B C ca cb cc), .agg (auArr b A' B' C' ca' cb' cc')] w (ApPost a b w) := by
  have HM0 := Lib.hid (ApM.start w (auArr a A B C ca cb cc) (auArr b A' B' C' ca' cb' cc'))
  have HL1 : Hid (∀ (n : Nat) W, Below w.heap.size w W → Calls Try.prog 90 #[.agg (auL a A B C ca cb cc).toArray, .int .i64 (n : Int)] W fun e w' => ∃ O, e = .returned (.agg (bx9 O).toArray) ∧ BoxOf a [(n : Int)] O ∧ Below W.heap.size W w') := fun n W hb => ltC_ a (oa.fit sa) a3 n A B C ca cb cc W (ra.below hb)
  have HL2 : Hid (∀ (n : Nat) W, Below w.heap.size w W → Calls Try.prog 90 #[.agg (auL b A' B' C' ca' cb' cc').toArray, .int .i64 (n : Int)] W fun e w' => ∃ O, e = .returned (.agg (bx9 O).toArray) ∧ BoxOf b [(n : Int)] O ∧ Below W.heap.size W w') := fun n W hb => ltC_ b (ob.fit sb) b3 n A' B' C' ca' cb' cc' W (rb.below hb)
  have HOA := Lib.hid oa
  have HSA := Lib.hid sa
  have HOB := Lib.hid ob
  have HSB := Lib.hid sb
  have HA3 := Lib.hid a3
  have HB3 := Lib.hid b3
  have HRA := Lib.hid ra
  have HRB := Lib.hid rb
  clear oa sa ob sb a3 b3 ra rb
  go_enter Try.func56, Try.ntmps56
  go_upto_region 2 with fail
  obtain ⟨Va, h1⟩ : ∃ V, V = w.heap.size := ⟨_, rfl⟩
  obtain ⟨Vb, h2⟩ : ∃ V, V = w.heap.size + 1 := ⟨_, rfl⟩
  obtain ⟨Vr, h3⟩ : ∃ V, V = w.heap.size + 1 + 1 := ⟨_, rfl⟩
  obtain ⟨Vs, h4⟩ : ∃ V, V = w.heap.size + 1 + 1 + 1 := ⟨_, rfl⟩
  rw [← h4, ← h3, ← h2, ← h1] at HM0 ⊢
  clear h1 h2 h3 h4
  generalize (((w.alloc (Obj.cells (auArr a A B C ca cb cc) 49)).alloc (Obj.cells (auArr b A' B' C' ca' cb' cc') 49)).alloc (Obj.cells #[.slice none 0 0, .slice none 0 0] 26)).alloc (Obj.cells #[.slice none 0 0] 125) = W0 at *
  have c1 := (auArr_at HM0.out.aa).c1
  go_wp2_with fail
  clear c1
  go_loopw [20] (fun v20 wr => ∃ n : Nat, (n : Int) ≤ a.le ∧ v20 = .int .i64 (n : Int) ∧ ∃ v LS, Hid (ApM w wr Va Vb Vr Vs (auArr a A B C ca cb cc) (auArr b A' B' C' ca' cb' cc') v LS) ∧ Hid (LetUp a b LS) ∧ Hid (LS.length = n)) (fun v20 _ => a.le.toNat - (intOf v20).toNat)
  case atStart => exact ⟨0, by have := HOA.out.le1; show (0 : Int) ≤ _; omega, rfl, _, _, HM0, LetUp.nil a b, rfl⟩
  case round =>
    clear HM0
    obtain ⟨n, hn, rfl, v, LS, HM, HU, HLN⟩ := hrel
    by_cases hnl : (n : Int) < a.le
    · have HN := Lib.hid hnl
      have HLL : Hid (LS.length ≤ 1000000000) := by have h1 := HLN.out; have h2 := HOA.out.le2; show _ ≤ _; omega
      have HLA := Lib.hid (HL1.out n)
      have HLB := Lib.hid (HL2.out n)
      go_wp2_with done
      clear hn hnl
      refine wp_region_held_drew (S := fun w' => w'.heap[Va]? = some (.cells (auArr a A B C ca cb cc) 49 (0, 0)) ∧ w'.heap[Vb]? = some (.cells (auArr b A' B' C' ca' cb' cc') 49 (0, 0))) (by kernel_rfl) ⟨HM.out.drew.aa, HM.out.drew.ab⟩ ?_
      intro hS
      have hm := HM.out.drew
      clear HM
      generalize wr.drew = v0 at *
      refine wpAnyH_take (i := 0) (v := .pointer (some ⟨Vs, 0, none⟩)) rfl (by kernel_rfl) (by kernel_rfl) (by kernel_rfl) (fun _ _ _ h => h) (Or.inl ⟨by rfl, fun w _ => by go_simp⟩) hS ?_
      try simp only [Act.put, List.setIfInBounds_toArray, List.set_cons_zero, List.set_cons_succ]
      refine wpAnyH_take (i := 1) (v := .pointer (some ⟨Vs, 0, none⟩)) rfl (by kernel_rfl) (by kernel_rfl) (by kernel_rfl) (fun _ _ _ h => h) (Or.inl ⟨by rfl, fun w _ => by go_simp⟩) hS ?_
      try simp only [Act.put, List.setIfInBounds_toArray, List.set_cons_zero, List.set_cons_succ]
      refine wpAnyH_take (i := 2) (v := .pointer (some ⟨Vs, 0, none⟩)) rfl (by kernel_rfl) (by kernel_rfl) (by kernel_rfl) (fun _ _ _ h => h) (Or.inl ⟨by rfl, fun w _ => by go_simp⟩) hS ?_
      try simp only [Act.put, List.setIfInBounds_toArray, List.set_cons_zero, List.set_cons_succ]
      refine wpAnyH_take (i := 3) (v := .pointer (some ⟨Vs, 0, none⟩)) rfl (by kernel_rfl) (by kernel_rfl) (by kernel_rfl) (fun _ _ _ h => h) (Or.inl ⟨by rfl, fun w _ => by go_simp⟩) hS ?_
      try simp only [Act.put, List.setIfInBounds_toArray, List.set_cons_zero, List.set_cons_succ]
      refine wpAnyH_take (i := 5) (v := .agg (auL a A B C ca cb cc).toArray) rfl (by kernel_rfl) (by kernel_rfl) (by kernel_rfl) (fun _ _ _ h => h) (yieldsIf_load_mid (by rfl) 49 (.tmp 2) rfl Va 0 (by go_simp) (auL a A B C ca cb cc) _ (fun w hw => range_row hw.1) Try.underlying49 rfl (infoAu5 a A B C ca cb cc)) hS ?_
      try simp only [Act.put, List.setIfInBounds_toArray, List.set_cons_zero, List.set_cons_succ]
      refine wpAnyH_take (i := 6) (v := .int .i64 (n : Int)) rfl (by kernel_rfl) (by kernel_rfl) (by kernel_rfl) (fun _ _ _ h => h) (Or.inl ⟨by rfl, fun w _ => by go_simp⟩) hS ?_
      try simp only [Act.put, List.setIfInBounds_toArray, List.set_cons_zero, List.set_cons_succ]
      refine wpAnyH_take (i := 8) (v := .agg (auL b A' B' C' ca' cb' cc').toArray) rfl (by kernel_rfl) (by kernel_rfl) (by kernel_rfl) (fun _ _ _ h => h) (yieldsIf_load_mid (by rfl) 49 (.tmp 3) rfl Vb 0 (by go_simp) (auL b A' B' C' ca' cb' cc') _ (fun w hw => range_row hw.2) Try.underlying49 rfl (infoAu5 b A' B' C' ca' cb' cc')) hS ?_
      try simp only [Act.put, List.setIfInBounds_toArray, List.set_cons_zero, List.set_cons_succ]
      refine wpAnyH_take (i := 9) (v := .int .i64 (n : Int)) rfl (by kernel_rfl) (by kernel_rfl) (by kernel_rfl) (fun _ _ _ h => h) (Or.inl ⟨by rfl, fun w _ => by go_simp⟩) hS ?_
      try simp only [Act.put, List.setIfInBounds_toArray, List.set_cons_zero, List.set_cons_succ]
      refine wpAnyH_ready (rs := [4, 7]) (by kernel_rfl) (by simp) ?_
      refine (AllReadyH.cons rfl (fun K' hK => ?_) (AllReadyH.cons rfl (fun K' hK => ?_) AllReadyH.nil))
      · skip
        have l0 := hm.cs0
        go_simp
        refine hK.out _ _ hS (fun hS => ?_)
        clear hK K' l0
        try simp only [Act.put, List.setIfInBounds_toArray, List.set_cons_zero, List.set_cons_succ]
        refine wpAnyH_ready (rs := [7]) (by kernel_rfl) (by simp) ?_
        refine (AllReadyH.cons rfl (fun K' hK => ?_) AllReadyH.nil)
        · skip
          go_simp
          have hct := HLA.out v0 hm.below
          go_at_call 90
          refine hct.mono ?_
          rintro e v1 ⟨O1, rfl, hO1, hb⟩
          have hmn := hm.on hb
          clear hm hct hb hS
          have hm := hmn
          clear hmn
          refine hK.out _ _ ⟨hm.aa, hm.ab⟩ (fun hS => ?_)
          clear hK K'
          try simp only [Act.put, List.setIfInBounds_toArray, List.set_cons_zero, List.set_cons_succ]
          refine wpAnyH_ready (rs := [10]) (by kernel_rfl) (by simp) ?_
          refine (AllReadyH.cons rfl (fun K' hK => ?_) AllReadyH.nil)
          · skip
            go_simp
            have hct := HLB.out v1 hm.below
            go_at_call 90
            refine hct.mono ?_
            rintro e v2 ⟨O2, rfl, hO2, hb⟩
            have hmn := hm.on hb
            clear hm hct hb hS
            have hm := hmn
            clear hmn
            refine hK.out _ _ ⟨hm.aa, hm.ab⟩ (fun hS => ?_)
            clear hK K'
            try simp only [Act.put, List.setIfInBounds_toArray, List.set_cons_zero, List.set_cons_succ]
            refine wpAnyH_take (i := 11) (v := .agg (bpC (O1, O2)).toArray) rfl (by kernel_rfl) (by kernel_rfl) (by kernel_rfl) (fun _ _ _ h => h) (Or.inl ⟨by rfl, fun w _ => bld_run rfl (by go_simp) (by go_simp) w⟩) hS ?_
            try simp only [Act.put, List.setIfInBounds_toArray, List.set_cons_zero, List.set_cons_succ]
            refine wpAnyH_ready (rs := [12]) (by kernel_rfl) (by simp) ?_
            refine (AllReadyH.cons rfl (fun K' hK => ?_) AllReadyH.nil)
            · skip
              refine step_bsl rfl (.tmp 34) rfl (O1, O2) (by go_simp) ?_
              have hmb := hm.on ((Below.refl v2.heap.size v2).alloc (Nat.le_refl _) (Obj.cells (bpC (O1, O2)).toArray 131))
              refine hK.out _ _ ⟨hmb.aa, hmb.ab⟩ (fun hS => ?_)
              clear hK K' hmb
              try simp only [Act.put, List.setIfInBounds_toArray, List.set_cons_zero, List.set_cons_succ]
              refine wpAnyH_ready (rs := [13]) (by kernel_rfl) (by simp) ?_
              refine (AllReadyH.cons rfl (fun K' hK => ?_) AllReadyH.nil)
              · skip
                obtain ⟨A2, c2, v3, hrun, hab, k1, k2, hm2⟩ := hm.app HLL.out (O1, O2)
                refine step_appRun rfl (.tmp 27) (.tmp 35) _ _ rfl v (.slice (some ⟨v2.heap.size, 0, none⟩) 1 1) (.slice A2 (LS.length + 1) c2) (by go_simp) (by go_simp) hrun ?_
                clear hrun hm hS
                have hm := hm2
                clear hm2
                refine hK.out _ _ hab (fun hS => ?_)
                clear hK K' hab
                try simp only [Act.put, List.setIfInBounds_toArray, List.set_cons_zero, List.set_cons_succ]
                refine wpAnyH_take (i := 14) (v := .pointer (some ⟨Vs, 0, none⟩)) rfl (by kernel_rfl) (by kernel_rfl) (by kernel_rfl) (fun _ _ _ h => h) (Or.inl ⟨by rfl, fun w _ => by go_simp⟩) hS ?_
                try simp only [Act.put, List.setIfInBounds_toArray, List.set_cons_zero, List.set_cons_succ]
                refine wpAnyH_take (i := 15) (v := .pointer (some ⟨Vs, 0, none⟩)) rfl (by kernel_rfl) (by kernel_rfl) (by kernel_rfl) (fun _ _ _ h => h) (Or.inl ⟨by rfl, fun w _ => by go_simp⟩) hS ?_
                try simp only [Act.put, List.setIfInBounds_toArray, List.set_cons_zero, List.set_cons_succ]
                refine wpAnyH_ready (rs := [16]) (by kernel_rfl) (by simp) ?_
                refine (AllReadyH.cons rfl (fun K' hK => ?_) AllReadyH.nil)
                · skip
                  go_simp
                  refine hK.out _ _ ⟨hm.aa, hm.ab⟩ (fun hS => ?_)
                  clear hK K' k1 k2
                  try simp only [Act.put, List.setIfInBounds_toArray, List.set_cons_zero, List.set_cons_succ]
                  refine wpAnyH_done (by kernel_rfl) ?_ _
                  have q9 : (n : Int) < 8 := by have h0 : (n : Int) < a.le := HN.out; have h1 := HOA.out.le2; omega
                  go_wp2_with fail
                  go_roundw
                  case rel => exact ⟨n + 1, by have h0 : (n : Int) < a.le := HN.out; show ((n + 1 : Nat) : Int) ≤ a.le; omega, by go_num, _, _, Lib.hid hm, Lib.hid (HU.out.snoc (by rw [HLN.out]; exact hO1) (by rw [HLN.out]; exact hO2)), by show _ = _; rw [List.length_append, HLN.out]; rfl⟩
                  case measure => simp [intOf]; have h0 : (n : Int) < a.le := HN.out; omega
      · skip
        go_simp
        have hct := HLA.out v0 hm.below
        go_at_call 90
        refine hct.mono ?_
        rintro e v1 ⟨O1, rfl, hO1, hb⟩
        have hmn := hm.on hb
        clear hm hct hb hS
        have hm := hmn
        clear hmn
        refine hK.out _ _ ⟨hm.aa, hm.ab⟩ (fun hS => ?_)
        clear hK K'
        try simp only [Act.put, List.setIfInBounds_toArray, List.set_cons_zero, List.set_cons_succ]
        refine wpAnyH_ready (rs := [4, 10]) (by kernel_rfl) (by simp) ?_
        refine (AllReadyH.cons rfl (fun K' hK => ?_) (AllReadyH.cons rfl (fun K' hK => ?_) AllReadyH.nil))
        · skip
          have l0 := hm.cs0
          go_simp
          refine hK.out _ _ hS (fun hS => ?_)
          clear hK K' l0
          try simp only [Act.put, List.setIfInBounds_toArray, List.set_cons_zero, List.set_cons_succ]
          refine wpAnyH_ready (rs := [10]) (by kernel_rfl) (by simp) ?_
          refine (AllReadyH.cons rfl (fun K' hK => ?_) AllReadyH.nil)
          · skip
            go_simp
            have hct := HLB.out v1 hm.below
            go_at_call 90
            refine hct.mono ?_
            rintro e v2 ⟨O2, rfl, hO2, hb⟩
            have hmn := hm.on hb
            clear hm hct hb hS
            have hm := hmn
            clear hmn
            refine hK.out _ _ ⟨hm.aa, hm.ab⟩ (fun hS => ?_)
            clear hK K'
            try simp only [Act.put, List.setIfInBounds_toArray, List.set_cons_zero, List.set_cons_succ]
            refine wpAnyH_take (i := 11) (v := .agg (bpC (O1, O2)).toArray) rfl (by kernel_rfl) (by kernel_rfl) (by kernel_rfl) (fun _ _ _ h => h) (Or.inl ⟨by rfl, fun w _ => bld_run rfl (by go_simp) (by go_simp) w⟩) hS ?_
            try simp only [Act.put, List.setIfInBounds_toArray, List.set_cons_zero, List.set_cons_succ]
            refine wpAnyH_ready (rs := [12]) (by kernel_rfl) (by simp) ?_
            refine (AllReadyH.cons rfl (fun K' hK => ?_) AllReadyH.nil)
            · skip
              refine step_bsl rfl (.tmp 34) rfl (O1, O2) (by go_simp) ?_
              have hmb := hm.on ((Below.refl v2.heap.size v2).alloc (Nat.le_refl _) (Obj.cells (bpC (O1, O2)).toArray 131))
              refine hK.out _ _ ⟨hmb.aa, hmb.ab⟩ (fun hS => ?_)
              clear hK K' hmb
              try simp only [Act.put, List.setIfInBounds_toArray, List.set_cons_zero, List.set_cons_succ]
              refine wpAnyH_ready (rs := [13]) (by kernel_rfl) (by simp) ?_
              refine (AllReadyH.cons rfl (fun K' hK => ?_) AllReadyH.nil)
              · skip
                obtain ⟨A2, c2, v3, hrun, hab, k1, k2, hm2⟩ := hm.app HLL.out (O1, O2)
                refine step_appRun rfl (.tmp 27) (.tmp 35) _ _ rfl v (.slice (some ⟨v2.heap.size, 0, none⟩) 1 1) (.slice A2 (LS.length + 1) c2) (by go_simp) (by go_simp) hrun ?_
                clear hrun hm hS
                have hm := hm2
                clear hm2
                refine hK.out _ _ hab (fun hS => ?_)
                clear hK K' hab
                try simp only [Act.put, List.setIfInBounds_toArray, List.set_cons_zero, List.set_cons_succ]
                refine wpAnyH_take (i := 14) (v := .pointer (some ⟨Vs, 0, none⟩)) rfl (by kernel_rfl) (by kernel_rfl) (by kernel_rfl) (fun _ _ _ h => h) (Or.inl ⟨by rfl, fun w _ => by go_simp⟩) hS ?_
                try simp only [Act.put, List.setIfInBounds_toArray, List.set_cons_zero, List.set_cons_succ]
                refine wpAnyH_take (i := 15) (v := .pointer (some ⟨Vs, 0, none⟩)) rfl (by kernel_rfl) (by kernel_rfl) (by kernel_rfl) (fun _ _ _ h => h) (Or.inl ⟨by rfl, fun w _ => by go_simp⟩) hS ?_
                try simp only [Act.put, List.setIfInBounds_toArray, List.set_cons_zero, List.set_cons_succ]
                refine wpAnyH_ready (rs := [16]) (by kernel_rfl) (by simp) ?_
                refine (AllReadyH.cons rfl (fun K' hK => ?_) AllReadyH.nil)
                · skip
                  go_simp
                  refine hK.out _ _ ⟨hm.aa, hm.ab⟩ (fun hS => ?_)
                  clear hK K' k1 k2
                  try simp only [Act.put, List.setIfInBounds_toArray, List.set_cons_zero, List.set_cons_succ]
                  refine wpAnyH_done (by kernel_rfl) ?_ _
                  have q9 : (n : Int) < 8 := by have h0 : (n : Int) < a.le := HN.out; have h1 := HOA.out.le2; omega
                  go_wp2_with fail
                  go_roundw
                  case rel => exact ⟨n + 1, by have h0 : (n : Int) < a.le := HN.out; show ((n + 1 : Nat) : Int) ≤ a.le; omega, by go_num, _, _, Lib.hid hm, Lib.hid (HU.out.snoc (by rw [HLN.out]; exact hO1) (by rw [HLN.out]; exact hO2)), by show _ = _; rw [List.length_append, HLN.out]; rfl⟩
                  case measure => simp [intOf]; have h0 : (n : Int) < a.le := HN.out; omega
        · skip
          go_simp
          have hct := HLB.out v1 hm.below
          go_at_call 90
          refine hct.mono ?_
          rintro e v2 ⟨O2, rfl, hO2, hb⟩
          have hmn := hm.on hb
          clear hm hct hb hS
          have hm := hmn
          clear hmn
          refine hK.out _ _ ⟨hm.aa, hm.ab⟩ (fun hS => ?_)
          clear hK K'
          try simp only [Act.put, List.setIfInBounds_toArray, List.set_cons_zero, List.set_cons_succ]
          refine wpAnyH_take (i := 11) (v := .agg (bpC (O1, O2)).toArray) rfl (by kernel_rfl) (by kernel_rfl) (by kernel_rfl) (fun _ _ _ h => h) (Or.inl ⟨by rfl, fun w _ => bld_run rfl (by go_simp) (by go_simp) w⟩) hS ?_
          try simp only [Act.put, List.setIfInBounds_toArray, List.set_cons_zero, List.set_cons_succ]
          refine wpAnyH_ready (rs := [4, 12]) (by kernel_rfl) (by simp) ?_
          refine (AllReadyH.cons rfl (fun K' hK => ?_) (AllReadyH.cons rfl (fun K' hK => ?_) AllReadyH.nil))
          · skip
            have l0 := hm.cs0
            go_simp
            refine hK.out _ _ hS (fun hS => ?_)
            clear hK K' l0
            try simp only [Act.put, List.setIfInBounds_toArray, List.set_cons_zero, List.set_cons_succ]
            refine wpAnyH_ready (rs := [12]) (by kernel_rfl) (by simp) ?_
            refine (AllReadyH.cons rfl (fun K' hK => ?_) AllReadyH.nil)
            · skip
              refine step_bsl rfl (.tmp 34) rfl (O1, O2) (by go_simp) ?_
              have hmb := hm.on ((Below.refl v2.heap.size v2).alloc (Nat.le_refl _) (Obj.cells (bpC (O1, O2)).toArray 131))
              refine hK.out _ _ ⟨hmb.aa, hmb.ab⟩ (fun hS => ?_)
              clear hK K' hmb
              try simp only [Act.put, List.setIfInBounds_toArray, List.set_cons_zero, List.set_cons_succ]
              refine wpAnyH_ready (rs := [13]) (by kernel_rfl) (by simp) ?_
              refine (AllReadyH.cons rfl (fun K' hK => ?_) AllReadyH.nil)
              · skip
                obtain ⟨A2, c2, v3, hrun, hab, k1, k2, hm2⟩ := hm.app HLL.out (O1, O2)
                refine step_appRun rfl (.tmp 27) (.tmp 35) _ _ rfl v (.slice (some ⟨v2.heap.size, 0, none⟩) 1 1) (.slice A2 (LS.length + 1) c2) (by go_simp) (by go_simp) hrun ?_
                clear hrun hm hS
                have hm := hm2
                clear hm2
                refine hK.out _ _ hab (fun hS => ?_)
                clear hK K' hab
                try simp only [Act.put, List.setIfInBounds_toArray, List.set_cons_zero, List.set_cons_succ]
                refine wpAnyH_take (i := 14) (v := .pointer (some ⟨Vs, 0, none⟩)) rfl (by kernel_rfl) (by kernel_rfl) (by kernel_rfl) (fun _ _ _ h => h) (Or.inl ⟨by rfl, fun w _ => by go_simp⟩) hS ?_
                try simp only [Act.put, List.setIfInBounds_toArray, List.set_cons_zero, List.set_cons_succ]
                refine wpAnyH_take (i := 15) (v := .pointer (some ⟨Vs, 0, none⟩)) rfl (by kernel_rfl) (by kernel_rfl) (by kernel_rfl) (fun _ _ _ h => h) (Or.inl ⟨by rfl, fun w _ => by go_simp⟩) hS ?_
                try simp only [Act.put, List.setIfInBounds_toArray, List.set_cons_zero, List.set_cons_succ]
                refine wpAnyH_ready (rs := [16]) (by kernel_rfl) (by simp) ?_
                refine (AllReadyH.cons rfl (fun K' hK => ?_) AllReadyH.nil)
                · skip
                  go_simp
                  refine hK.out _ _ ⟨hm.aa, hm.ab⟩ (fun hS => ?_)
                  clear hK K' k1 k2
                  try simp only [Act.put, List.setIfInBounds_toArray, List.set_cons_zero, List.set_cons_succ]
                  refine wpAnyH_done (by kernel_rfl) ?_ _
                  have q9 : (n : Int) < 8 := by have h0 : (n : Int) < a.le := HN.out; have h1 := HOA.out.le2; omega
                  go_wp2_with fail
                  go_roundw
                  case rel => exact ⟨n + 1, by have h0 : (n : Int) < a.le := HN.out; show ((n + 1 : Nat) : Int) ≤ a.le; omega, by go_num, _, _, Lib.hid hm, Lib.hid (HU.out.snoc (by rw [HLN.out]; exact hO1) (by rw [HLN.out]; exact hO2)), by show _ = _; rw [List.length_append, HLN.out]; rfl⟩
                  case measure => simp [intOf]; have h0 : (n : Int) < a.le := HN.out; omega
          · skip
            refine step_bsl rfl (.tmp 34) rfl (O1, O2) (by go_simp) ?_
            have hmb := hm.on ((Below.refl v2.heap.size v2).alloc (Nat.le_refl _) (Obj.cells (bpC (O1, O2)).toArray 131))
            refine hK.out _ _ ⟨hmb.aa, hmb.ab⟩ (fun hS => ?_)
            clear hK K' hmb
            try simp only [Act.put, List.setIfInBounds_toArray, List.set_cons_zero, List.set_cons_succ]
            refine wpAnyH_ready (rs := [4]) (by kernel_rfl) (by simp) ?_
            refine (AllReadyH.cons rfl (fun K' hK => ?_) AllReadyH.nil)
            · skip
              have hmb := hm.on ((Below.refl v2.heap.size v2).alloc (Nat.le_refl _) (Obj.cells (bpC (O1, O2)).toArray 131))
              have l0 := hmb.cs0
              clear hmb
              go_simp
              refine hK.out _ _ hS (fun hS => ?_)
              clear hK K' l0
              try simp only [Act.put, List.setIfInBounds_toArray, List.set_cons_zero, List.set_cons_succ]
              refine wpAnyH_ready (rs := [13]) (by kernel_rfl) (by simp) ?_
              refine (AllReadyH.cons rfl (fun K' hK => ?_) AllReadyH.nil)
              · skip
                obtain ⟨A2, c2, v3, hrun, hab, k1, k2, hm2⟩ := hm.app HLL.out (O1, O2)
                refine step_appRun rfl (.tmp 27) (.tmp 35) _ _ rfl v (.slice (some ⟨v2.heap.size, 0, none⟩) 1 1) (.slice A2 (LS.length + 1) c2) (by go_simp) (by go_simp) hrun ?_
                clear hrun hm hS
                have hm := hm2
                clear hm2
                refine hK.out _ _ hab (fun hS => ?_)
                clear hK K' hab
                try simp only [Act.put, List.setIfInBounds_toArray, List.set_cons_zero, List.set_cons_succ]
                refine wpAnyH_take (i := 14) (v := .pointer (some ⟨Vs, 0, none⟩)) rfl (by kernel_rfl) (by kernel_rfl) (by kernel_rfl) (fun _ _ _ h => h) (Or.inl ⟨by rfl, fun w _ => by go_simp⟩) hS ?_
                try simp only [Act.put, List.setIfInBounds_toArray, List.set_cons_zero, List.set_cons_succ]
                refine wpAnyH_take (i := 15) (v := .pointer (some ⟨Vs, 0, none⟩)) rfl (by kernel_rfl) (by kernel_rfl) (by kernel_rfl) (fun _ _ _ h => h) (Or.inl ⟨by rfl, fun w _ => by go_simp⟩) hS ?_
                try simp only [Act.put, List.setIfInBounds_toArray, List.set_cons_zero, List.set_cons_succ]
                refine wpAnyH_ready (rs := [16]) (by kernel_rfl) (by simp) ?_
                refine (AllReadyH.cons rfl (fun K' hK => ?_) AllReadyH.nil)
                · skip
                  go_simp
                  refine hK.out _ _ ⟨hm.aa, hm.ab⟩ (fun hS => ?_)
                  clear hK K' k1 k2
                  try simp only [Act.put, List.setIfInBounds_toArray, List.set_cons_zero, List.set_cons_succ]
                  refine wpAnyH_done (by kernel_rfl) ?_ _
                  have q9 : (n : Int) < 8 := by have h0 : (n : Int) < a.le := HN.out; have h1 := HOA.out.le2; omega
                  go_wp2_with fail
                  go_roundw
                  case rel => exact ⟨n + 1, by have h0 : (n : Int) < a.le := HN.out; show ((n + 1 : Nat) : Int) ≤ a.le; omega, by go_num, _, _, Lib.hid hm, Lib.hid (HU.out.snoc (by rw [HLN.out]; exact hO1) (by rw [HLN.out]; exact hO2)), by show _ = _; rw [List.length_append, HLN.out]; rfl⟩
                  case measure => simp [intOf]; have h0 : (n : Int) < a.le := HN.out; omega
    · have HLE : Hid ((LS.length : Int) = a.le) := by have h1 := HLN.out; show _ = _; omega
      have HOK := Lib.hid (HU.out.ok HLE.out)
      have HFA := Lib.hid (HOA.out.fit HSA.out)
      have HFB := Lib.hid (HOB.out.fit HSB.out)
      have HL8 : Hid (LS.length ≤ 8) := by have h1 := HLE.out; have h2 := HOA.out.le2; show _ ≤ _; omega
      obtain ⟨A0, c0, rfl, hsl⟩ := HM.out.q.read (bt := 18) (by have := HL8.out; omega)
      have HR : Hid (∀ W, Below wr.heap.size wr W → Bps W 0 A0 c0 LS) := fun W hb => (hsl.zero.below hb)
      clear HLN HU hn hsl HL1 HL2
      go_upto_region 8 with fail
      clear hnl
      have hb1 : Below wr.heap.size wr (wr.alloc (Obj.cells #[.slice none 0 0, .slice none 0 0] 26)) := (Below.refl _ _).alloc (Nat.le_refl _) _
      have HCT := Lib.hid (allocNew wr (Obj.cells #[.slice none 0 0, .slice none 0 0] 26))
      have HM1 := Lib.hid (HM.out.on hb1)
      have HR1 := Lib.hid (HR.out _ hb1)
      have HVR : Hid (Vr ≠ wr.heap.size) := Nat.ne_of_lt (Array.getElem?_eq_some_iff.1 HM.out.cr).1
      have HVT : Hid (w.heap.size ≤ wr.heap.size) := HM.out.below.size
      obtain ⟨Vt, hVt⟩ : ∃ V, V = wr.heap.size := ⟨_, rfl⟩
      rw [← hVt] at HCT HVR HVT ⊢
      clear hVt hb1 HM HR
      generalize wr.alloc (Obj.cells #[.slice none 0 0, .slice none 0 0] 26) = W1 at *
      have HLP := Lib.hid (loops_ a b HFA.out HFB.out HA3.out HB3.out LS HOK.out HL8.out Vs A0 c0 W1 HM1.out.cs0 (Array.getElem?_eq_some_iff.1 HM1.out.cs).1 HR1.out)
      go_wp2_with fail
      refine HLP.out.mono ?_
      rintro e w2 ⟨⟨Mo, OL, R, p, rfl, g1, g2, g3, g4, g5, g6, g7, g8⟩, hb2⟩
      have HG8 := Lib.hid g8
      have HG1 := Lib.hid g1
      have HG3 := Lib.hid g3
      have HG4 := Lib.hid g4
      have HG5 := Lib.hid g5
      have HG6 := Lib.hid g6
      have HG7 := Lib.hid g7
      have HM2 := Lib.hid (HM1.out.on hb2)
      have HR2 := Lib.hid (HR1.out.below hb2)
      have HCT2 := Lib.hid ((hb2.block _ (Array.getElem?_eq_some_iff.1 HCT.out).1).trans HCT.out)
      have HSZ : Hid (w.heap.size ≤ W1.heap.size) := HM1.out.below.size
      clear g1 g2 g3 g4 g5 g6 g7 g8 hb2 HLP HM1 HR1 HCT
      go_upto_region 9 with fail
      refine wp_region_held_drew (S := fun w' => w'.heap[Va]? = some (.cells (auArr a A B C ca cb cc) 49 (0, 0)) ∧ w'.heap[Vb]? = some (.cells (auArr b A' B' C' ca' cb' cc') 49 (0, 0))) (by kernel_rfl) ⟨HM2.out.drew.aa, HM2.out.drew.ab⟩ ?_
      intro hS
      have hm := HM2.out.drew
      have bb : Below w2.heap.size w2 w2.drew := (Below.refl _ _).drew
      generalize w2.drew = v0 at *
      refine wpAnyH_take (i := 0) (v := .pointer (some ⟨Vs, 0, none⟩)) rfl (by kernel_rfl) (by kernel_rfl) (by kernel_rfl) (fun _ _ _ h => h) (Or.inl ⟨by rfl, fun w _ => by go_simp⟩) hS ?_
      try simp only [Act.put, List.setIfInBounds_toArray, List.set_cons_zero, List.set_cons_succ]
      refine wpAnyH_take (i := 1) (v := .agg (auL a A B C ca cb cc).toArray) rfl (by kernel_rfl) (by kernel_rfl) (by kernel_rfl) (fun _ _ _ h => h) (yieldsIf_load_mid (by rfl) 49 (.tmp 2) rfl Va 0 (by go_simp) (auL a A B C ca cb cc) _ (fun w hw => range_row hw.1) Try.underlying49 rfl (infoAu5 a A B C ca cb cc)) hS ?_
      try simp only [Act.put, List.setIfInBounds_toArray, List.set_cons_zero, List.set_cons_succ]
      refine wpAnyH_take (i := 3) (v := .agg (auL b A' B' C' ca' cb' cc').toArray) rfl (by kernel_rfl) (by kernel_rfl) (by kernel_rfl) (fun _ _ _ h => h) (yieldsIf_load_mid (by rfl) 49 (.tmp 3) rfl Vb 0 (by go_simp) (auL b A' B' C' ca' cb' cc') _ (fun w hw => range_row hw.2) Try.underlying49 rfl (infoAu5 b A' B' C' ca' cb' cc')) hS ?_
      try simp only [Act.put, List.setIfInBounds_toArray, List.set_cons_zero, List.set_cons_succ]
      refine wpAnyH_ready (rs := [2]) (by kernel_rfl) (by simp) ?_
      refine (AllReadyH.cons rfl (fun K' hK => ?_) AllReadyH.nil)
      go_simp
      have hct := bgC_ a HFA.out HA3.out A B C ca cb cc v0 (HRA.out.below hm.below)
      go_at_call 93
      refine hct.mono ?_
      rintro e v1 ⟨rfl, hb⟩
      have hmn := hm.on hb
      have bn := Below_on bb hb bb.size
      clear hm bb hct hb hS
      have hm := hmn
      have bb := bn
      clear hmn bn
      refine hK.out _ _ ⟨hm.aa, hm.ab⟩ (fun hS => ?_)
      clear hK K'
      try simp only [Act.put, List.setIfInBounds_toArray, List.set_cons_zero, List.set_cons_succ]
      refine wpAnyH_ready (rs := [4]) (by kernel_rfl) (by simp) ?_
      refine (AllReadyH.cons rfl (fun K' hK => ?_) AllReadyH.nil)
      go_simp
      have hct := bgC_ b HFB.out HB3.out A' B' C' ca' cb' cc' v1 (HRB.out.below hm.below)
      go_at_call 93
      refine hct.mono ?_
      rintro e v2 ⟨rfl, hb⟩
      have hmn := hm.on hb
      have bn := Below_on bb hb bb.size
      clear hm bb hct hb hS
      have hm := hmn
      have bb := bn
      clear hmn bn
      refine hK.out _ _ ⟨hm.aa, hm.ab⟩ (fun hS => ?_)
      clear hK K'
      try simp only [Act.put, List.setIfInBounds_toArray, List.set_cons_zero, List.set_cons_succ]
      refine wpAnyH_ready (rs := [5]) (by kernel_rfl) (by simp) ?_
      refine (AllReadyH.cons rfl (fun K' hK => ?_) AllReadyH.nil)
      go_simp
      have hct := heads_ a b HFA.out HFB.out HA3.out HB3.out LS HOK.out HL8.out Vs A0 c0 v2 hm.cs0 (Array.getElem?_eq_some_iff.1 hm.cs).1 (HR2.out.below bb)
      go_at_call 92
      refine hct.mono ?_
      rintro e v3 ⟨⟨Mh, HL, q, rfl, k1, k2, k3, k4, k5⟩, hb⟩
      have hmn := hm.on hb
      have bn := Below_on bb hb bb.size
      have HLO2 : Hid (w.heap.size ≤ v2.heap.size) := hm.below.size
      clear hm bb hct hb hS
      have hm := hmn
      have bb := bn
      clear hmn bn
      refine hK.out _ _ ⟨hm.aa, hm.ab⟩ (fun hS => ?_)
      clear hK K'
      try simp only [Act.put, List.setIfInBounds_toArray, List.set_cons_zero, List.set_cons_succ]
      refine wpAnyH_ready (rs := [6]) (by kernel_rfl) (by simp) ?_
      refine (AllReadyH.cons rfl (fun K' hK => ?_) AllReadyH.nil)
      refine step_range (d := some 49) rfl rfl _ 132 rfl 137 138 s2K.keyed Try.underlying132 _ Mh _ _ (by go_simp) k1 ?_
      intro w4 hrg hgr hsz
      have hb : Below v3.heap.size v3 w4 := (Below.refl _ _).grown hgr (Nat.le_refl _) (fun k hk => by cases hk)
      have hm4 := hm.on hb
      refine hK.out _ _ ⟨hm4.aa, hm4.ab⟩ (fun hS4 => ?_)
      clear hK K' hS4
      try simp only [Act.put, List.setIfInBounds_toArray, List.set_cons_zero, List.set_cons_succ]
      refine wpAnyH_done (by kernel_rfl) ?_ _
      have HAN : Hid (AnM w w4 Vr Vt Mo Mh OL HL none none 0 0 ⟨[], []⟩) := ⟨hm4.cr, ((Below_on bb hb bb.size).block _ (Array.getElem?_eq_some_iff.1 HCT2.out).1).trans HCT2.out, HVR.out, HG1.out.on (Below_on bb hb bb.size), k1.on hb, fun o ho => ((HG7.out o ho).low HSZ.out).on (Below_on bb hb bb.size), fun o ho => ((k5 o ho).low HLO2.out).on hb, GQ.nil_, GQ.nil_, hm4.below, hm4.lr, HVT.out⟩
      have HRG := Lib.hid hrg
      have HK3 := Lib.hid k3
      have HK4 := Lib.hid k4
      have HLT4 : Hid (v3.heap.size < w4.heap.size) := by show _ < _; omega
      have HLI : Hid (w.heap.size ≤ v3.heap.size) := hm.below.size
      obtain ⟨It, hIt⟩ : ∃ V, V = v3.heap.size := ⟨_, rfl⟩
      rw [← hIt] at HRG HLT4 HLI ⊢
      clear hIt hrg hgr hsz hb hm4 hS hm bb k1 k2 k3 k4 k5 HLO2 HM2 HR2 HCT2 HVR HVT HSZ HG1 HG7
      generalize w4 = W4 at *
      have HKH := Lib.hid (LoK.heads HK3.out)
      have HKO := Lib.hid (LoK.loops HG3.out)
      have HLH := Lib.hid (heads_len HK3.out)
      have HBS : Hid (Bst HL OL (fun e _ => Maps.has (gD s2L slD (HL.map loM)) (s2L (loM e).1) = false) false ⟨[], []⟩) := (Bst.start HL OL (fun _ _ => False) (fun _ _ h => h)).to (fun e he o _ hv => by
        have h1 := s2K.has HKH.out.w HKH.out.n (k := (loM e).1) (s := (loM e).2) (List.mem_map_of_mem he)
        rw [hv] at h1
        cases h1)
      go_wp2_with fail
      go_loopw [9] (fun v9 wr => ∃ (found : Bool) (left : Lit → Bool) (cnt : Nat) (D E : Option Addr) (cd ce : Nat) (best : La), v9 = .bool found ∧ wr.ranges Try.prog 137 slE Mh It HL.length (gD s2L slD (HL.map loM)) left cnt ∧ Hid (AnM w wr Vr Vt Mo Mh OL HL D E cd ce best) ∧ Hid (Bst HL OL (fun e _ => left (s2L (loM e).1) = false) found best)) (fun _ wr => wr.rangeLeft Mh It)
      case atStart => exact ⟨_, _, _, _, _, _, _, _, rfl, (by have := HRG.out; rwa [List.length_map] at this), HAN, HBS⟩
      case round =>
        clear HAN HRG HBS HLT4
        obtain ⟨found, left, cnt, D, E, cd, ce, best, rfl, hrg, HA, HB⟩ := hrel
        go_wp2_with (first
          | (at_next; refine wpList_next_lo rfl _ rfl HKH.out rfl hrg ?_ ?_)
          | go_in)
        · intro hl0
          obtain ⟨b0, b1, b2, b3⟩ := la_cell2 HA.out.ct
          obtain ⟨d0, d1, d2, d3⟩ := la_cell2 HA.out.cr
          obtain ⟨p1, p2, p3, p4⟩ := HA.out.ret
          have HP : Hid (ApPost a b w (.returned (.tuple #[.agg #[.slice D best.h.length cd, .slice E best.l.length ce], .bool found])) ((wr.setCell ⟨Vr, 0, none⟩ (.slice D best.h.length cd)).setCell ⟨Vr, 1, none⟩ (.slice E best.l.length ce))) :=
            ⟨⟨found, best, D, E, cd, ce, rfl, HB.out.done (fun e _ o _ => hl0 _) HOA.out HSA.out HOB.out HSB.out HA3.out HB3.out HOK.out HG4.out HG5.out HG6.out HK3.out HK4.out HG3.out, p1, p2⟩, p3⟩
          have HO1 := Lib.hid p4
          clear p1 p2 p3 p4 hl0
          go_wp2_with fail
          exact bodyPost_ret (retLa2 Try.results56 _ _ Vr rfl rfl HO1.out) rfl HP.out
        · intro e1 e2 ew Ae ne ce1 w1 cnt1 he hlx hrg1 hlt hg1 hs1 hen
          have HA1 := Lib.hid (HA.out.ranged hrg hg1 HLI.out)
          have HEM : Hid (((e1, e2), ew, Ae, ne, ce1) ∈ HL ∧ left (s2L (loM ((e1, e2), ew, Ae, ne, ce1)).1) = true) := ⟨he, hlx⟩
          have HR1 := Lib.hid hrg1
          have HML : Hid (cnt1 < wr.rangeLeft Mh It) := by show _ < _; rw [hrg.left_eq]; exact hlt
          have HLE : Hid (∀ e ∈ HL, (left (s2L (loM e).1) && !(s2L (loM e).1).sameKey (s2L (loM ((e1, e2), ew, Ae, ne, ce1)).1)) = false → left (s2L (loM e).1) = false ∨ e = ((e1, e2), ew, Ae, ne, ce1)) := fun e h1 h2 => HKH.out.left h1 he h2
          have HZI : Hid (It < w1.heap.size) := hrg1.lt
          clear he hlx hrg1 hrg hlt hg1 hs1 HA
          obtain ⟨left1, hL1⟩ : ∃ l : Lit → Bool, l = fun z => left z && !z.sameKey (s2L (loM ((e1, e2), ew, Ae, ne, ce1)).1) := ⟨_, rfl⟩
          rw [← hL1] at HR1
          have HLE1 : Hid (∀ e ∈ HL, left1 (s2L (loM e).1) = false → left (s2L (loM e).1) = false ∨ e = ((e1, e2), ew, Ae, ne, ce1)) := by rw [hL1]; exact HLE.out
          clear hL1 HLE
          go_upto_region 12 with fail
          clear hen
          have hb2 : Below w1.heap.size w1 (w1.alloc (Obj.cells #[.int .i64 (e1 : Int), .int .i64 (e2 : Int)] 137)) := (Below.refl _ _).alloc (Nat.le_refl _) _
          have HA2 := Lib.hid (HA1.out.on hb2)
          have HR2 := Lib.hid (HR1.out.alloc (Obj.cells #[.int .i64 (e1 : Int), .int .i64 (e2 : Int)] 137))
          have HZ := Lib.hid (allocNew w1 (Obj.cells #[.int .i64 (e1 : Int), .int .i64 (e2 : Int)] 137))
          obtain ⟨Z, hZ⟩ : ∃ Z, Z = w1.heap.size := ⟨_, rfl⟩
          rw [← hZ] at HZ HZI ⊢
          clear hZ hb2 HA1 HR1
          generalize w1.alloc (Obj.cells #[.int .i64 (e1 : Int), .int .i64 (e2 : Int)] 137) = w2 at *
          have HZL : Hid (Z < w2.heap.size) := (Array.getElem?_eq_some_iff.1 HZ.out).1
          have hgo := HA2.out.go
          go_wp2_with (first
            | (at_range; refine wpList_range_own _ rfl _ 132 rfl 137 138 s2K.keyed Try.underlying132 _ Mo _ _ rfl hgo ?_; intro w3 hrg3 hg3 hs3)
            | go_in)
          go_frame
          rw [List.length_map] at hrg3
          have hb3 : Below w2.heap.size w2 w3 := (Below.refl _ _).grown hg3 (Nat.le_refl _) (fun k hk => by cases hk)
          have HA3m := Lib.hid (HA2.out.on hb3)
          have HR3 := Lib.hid (HR2.out.kept hg3 (by simp) (by simp))
          have HZ3 : Hid (w3.heap[Z]? = _) := (hb3.block Z HZL.out).trans HZ.out
          have HNE : Hid (Mh ≠ w2.heap.size ∧ It ≠ w2.heap.size ∧ Z ≠ w2.heap.size ∧ w.heap.size ≤ w2.heap.size) := ⟨Nat.ne_of_lt HA2.out.gh.lt, Nat.ne_of_lt HR2.out.lt, Nat.ne_of_lt HZL.out, HA2.out.below.size⟩
          have HI3 := Lib.hid hrg3
          have HBI : Hid (Bst HL OL (fun e o => left (s2L (loM e).1) = false ∨ (e = ((e1, e2), ew, Ae, ne, ce1) ∧ Maps.has (gD s2L slD (OL.map loM)) (s2L (loM o).1) = false)) found best) := HB.out.to fun e he o ho hv => by
            rcases hv with hv | ⟨_, hv⟩
            · exact hv
            · have h1 := s2K.has HKO.out.w HKO.out.n (k := (loM o).1) (s := (loM o).2) (List.mem_map_of_mem ho)
              rw [hv] at h1
              cases h1
          obtain ⟨I2, hI2⟩ : ∃ V, V = w2.heap.size := ⟨_, rfl⟩
          rw [← hI2] at HNE HI3 ⊢
          clear hI2 hb3 hg3 hs3 hrg3 hgo HA2 HR2 HZ HB HZL
          go_loopw [9] (fun v9 wr2 => ∃ (found : Bool) (left2 : Lit → Bool) (cnt2 : Nat) (D E : Option Addr) (cd ce : Nat) (best : La), v9 = .bool found ∧ wr2.ranges Try.prog 137 slE Mo I2 OL.length (gD s2L slD (OL.map loM)) left2 cnt2 ∧ Hid (AnM w wr2 Vr Vt Mo Mh OL HL D E cd ce best) ∧
            Hid (wr2.ranges Try.prog 137 slE Mh It HL.length (gD s2L slD (HL.map loM)) left1 cnt1) ∧ Hid (wr2.heap[Z]? = some (Obj.cells #[.int .i64 (e1 : Int), .int .i64 (e2 : Int)] 137 (0, 0))) ∧
            Hid (Bst HL OL (fun e o => left (s2L (loM e).1) = false ∨ (e = ((e1, e2), ew, Ae, ne, ce1) ∧ left2 (s2L (loM o).1) = false)) found best)) (fun _ wr2 => wr2.rangeLeft Mo I2)
          case atStart => exact ⟨_, _, _, _, _, _, _, _, rfl, HI3.out, HA3m, HR3, HZ3, HBI⟩
          case round =>
            clear HA3m HR3 HZ3 HI3 HBI
            obtain ⟨found, left2, cnt2, D, E, cd, ce, best, rfl, hrg, HA, HR, HZ, HB⟩ := hrel
            go_wp2_with (first
              | (at_next; refine wpList_next_lo rfl _ rfl HKO.out rfl hrg ?_ ?_)
              | go_in)
            · intro hl0
              have HBN : Hid (Bst HL OL (fun e _ => left1 (s2L (loM e).1) = false) found best) := HB.out.to fun e he o ho hv => by
                rcases HLE1.out e he hv with h1 | h1
                · exact .inl h1
                · exact .inr ⟨h1, hl0 _⟩
              clear hl0 hrg
              go_wp2_with fail
              go_roundw
              case rel => exact ⟨found, left1, cnt1, D, E, cd, ce, best, rfl, HR.out, HA, HBN⟩
              case measure =>
                have h1 := HR.out.left_eq
                have h2 := HML.out
                show _ < _
                omega
            · intro o1 o2 ow Ao no co w4 cnt4 ho hlo hrg4 hlt4 hg4 hs4 hen4
              have HA4 := Lib.hid (HA.out.ranged hrg hg4 HNE.out.2.2.2)
              have HR4 := Lib.hid (HR.out.kept hg4 (fun e => HNE.out.1 (Option.some.inj e)) (fun e => HNE.out.2.1 (Option.some.inj e)))
              have HZ4 : Hid (w4.heap[Z]? = _) := (hg4.block Z (Array.getElem?_eq_some_iff.1 HZ.out).1 (fun e => HNE.out.2.2.1 (Option.some.inj e))).trans HZ.out
              have HI4 := Lib.hid hrg4
              have HM4 : Hid (cnt4 < wr.rangeLeft Mo I2) := by show _ < _; rw [hrg.left_eq]; exact hlt4
              have HLO : Hid (∀ o ∈ OL, (left2 (s2L (loM o).1) && !(s2L (loM o).1).sameKey (s2L (loM ((o1, o2), ow, Ao, no, co)).1)) = false → left2 (s2L (loM o).1) = false ∨ o = ((o1, o2), ow, Ao, no, co)) := fun o h1 h2 => HKO.out.left h1 ho h2
              have HOM : Hid (((o1, o2), ow, Ao, no, co) ∈ OL ∧ left2 (s2L (loM ((o1, o2), ow, Ao, no, co)).1) = true) := ⟨ho, hlo⟩
              obtain ⟨left3, hL3⟩ : ∃ l : Lit → Bool, l = fun z => left2 z && !z.sameKey (s2L (loM ((o1, o2), ow, Ao, no, co)).1) := ⟨_, rfl⟩
              rw [← hL3] at HI4
              have HVV : Hid (∀ e ∈ HL, ∀ o ∈ OL, (left (s2L (loM e).1) = false ∨ (e = ((e1, e2), ew, Ae, ne, ce1) ∧ left3 (s2L (loM o).1) = false)) → (left (s2L (loM e).1) = false ∨ (e = ((e1, e2), ew, Ae, ne, ce1) ∧ left2 (s2L (loM o).1) = false)) ∨ (e = ((e1, e2), ew, Ae, ne, ce1) ∧ o = ((o1, o2), ow, Ao, no, co))) := by
                rw [hL3]
                intro e he o ho' hv
                rcases hv with hv | ⟨hv1, hv2⟩
                · exact .inl (.inl hv)
                · rcases HLO.out o ho' hv2 with h1 | h1
                  · exact .inl (.inr ⟨hv1, h1⟩)
                  · exact .inr ⟨hv1, h1⟩
              clear hL3 HLO ho hlo hrg hrg4 hlt4 hg4 hs4 HA HR HZ
              go_upto_region 15 with fail
              clear hen4
              have hb5 : Below w4.heap.size w4 (w4.alloc (Obj.cells #[.int .i64 (o1 : Int), .int .i64 (o2 : Int)] 137)) := (Below.refl _ _).alloc (Nat.le_refl _) _
              have HA5 := Lib.hid (HA4.out.on hb5)
              have HR5 := Lib.hid (HR4.out.alloc (Obj.cells #[.int .i64 (o1 : Int), .int .i64 (o2 : Int)] 137))
              have HI5 := Lib.hid (HI4.out.alloc (Obj.cells #[.int .i64 (o1 : Int), .int .i64 (o2 : Int)] 137))
              have HY := Lib.hid (allocNew w4 (Obj.cells #[.int .i64 (o1 : Int), .int .i64 (o2 : Int)] 137))
              have HZ5 : Hid (_ = some _) := (hb5.block Z (Array.getElem?_eq_some_iff.1 HZ4.out).1).trans HZ4.out
              obtain ⟨Y, hY⟩ : ∃ V, V = w4.heap.size := ⟨_, rfl⟩
              rw [← hY] at HY ⊢
              clear hY hb5 HA4 HR4 HI4 HZ4
              generalize w4.alloc (Obj.cells #[.int .i64 (o1 : Int), .int .i64 (o2 : Int)] 137) = w5 at *
              have HM5 : Hid (w5.rangeLeft Mo I2 < wr.rangeLeft Mo I2) := by show _ < _; rw [HI5.out.left_eq]; exact HM4.out
              clear HM4
              have z0 : w5.cell? ⟨Z, 0, none⟩ = some (.int .i64 (e1 : Int)) := by simp [World.cell?, HZ5.out]
              have z1 : w5.cell? ⟨Z, 1, none⟩ = some (.int .i64 (e2 : Int)) := by simp [World.cell?, HZ5.out]
              have y0 : w5.cell? ⟨Y, 0, none⟩ = some (.int .i64 (o1 : Int)) := by simp [World.cell?, HY.out]
              have y1 : w5.cell? ⟨Y, 1, none⟩ = some (.int .i64 (o2 : Int)) := by simp [World.cell?, HY.out]
              have HM0 := Lib.hid (and_meet (HKH.out.lt _ HEM.out.1).1 (HKO.out.lt _ HOM.out.1).1)
              have HM1 := Lib.hid (and_meet (HKH.out.lt _ HEM.out.1).2 (HKO.out.lt _ HOM.out.1).2)
              by_cases m0 : bits BinOp.and IntKind.i64 (e1 : Int) (o1 : Int) = 0
              · have HBS := Lib.hid (HB.out.skip (e0 := ((e1, e2), ew, Ae, ne, ce1)) (o0 := ((o1, o2), ow, Ao, no, co)) (fun hc => HM0.out.1 m0 hc.1) HVV.out)
                clear HM0 HM1 HB
                have m0' : (bits BinOp.and IntKind.i64 (e1 : Int) (o1 : Int) == 0) = true := by simp [m0]
                clear m0
                go_wp2_with fail
                go_roundw
                case rel => exact ⟨found, left3, cnt4, D, E, cd, ce, best, rfl, HI5.out, HA5, HR5, HZ5, HBS⟩
                case measure => exact HM5.out
              · by_cases m1 : bits BinOp.and IntKind.i64 (e2 : Int) (o2 : Int) = 0
                · have m0' : (bits BinOp.and IntKind.i64 (e1 : Int) (o1 : Int) == 0) = false := by simp [m0]
                  have m1' : (bits BinOp.and IntKind.i64 (e2 : Int) (o2 : Int) != 0) = false := by simp [m1]
                  have HCK : Hid (CondK (e1, e2) (o1, o2)) := ⟨Classical.byContradiction fun h => m0 (HM0.out.2 h), HM1.out.1 m1⟩
                  clear m0 m1 HM0 HM1
                  go_upto_region 16 with fail
                  clear m0' m1' z0 z1 y0 y1
                  have hwe : WyAt w5 w.heap.size (Ae, ne, ce1) ew := HA5.out.wh _ HEM.out.1
                  have hwo : WyAt w5 w.heap.size (Ao, no, co) ow := HA5.out.wo _ HOM.out.1
                  have hle : ew.length ≤ 64 := HLH.out _ HEM.out.1
                  have hlo : ow.length ≤ 387420489 := HG8.out _ HOM.out.1
                  obtain rfl := wy_len hwe
                  obtain rfl := wy_len hwo
                  have hsl := wy_ints hwe (by omega)
                  have hsm := wy_ints hwo (by omega)
                  have HEW : Hid (∀ W, Below w5.heap.size w5 W → Rd W 0 Ae (ew.flatMap inC)) := fun W hb => (hsl.below hb).rd
                  have HOW : Hid (∀ W, Below w5.heap.size w5 W → Rd W 0 Ao (ow.flatMap inC)) := fun W hb => (hsm.below hb).rd
                  have HEL : Hid (ew.length ≤ 1000000000) := by show _ ≤ _; omega
                  have HOL : Hid (ow.length ≤ 1000000000) := by show _ ≤ _; omega
                  have HEL2 := Lib.hid hle
                  have HOL2 := Lib.hid hlo
                  clear hwe hwo hle hlo hsl hsm
                  obtain ⟨Au, cu, w6, hrun6, hm6⟩ := ((ApR.start (ew := ew) (ow := ow) (Below.refl w5.heap.size w5)).mk0).app0 (A := Ae) (c := ce1) (HEW.out _ ((Below.refl _ _).alloc (Nat.le_refl _) _)) HEL.out
                  obtain ⟨Av, cv, w7, hrun7, hm7⟩ := hm6.mk3.app3 (A := Ao) (c := co) (HOW.out _ hm6.mk3.below) HOL.out
                  have hb8 : Below w7.heap.size w7 (w7.alloc (Obj.cells #[.slice Au ew.length cu, .slice Av ow.length cv] 26)) := (Below.refl _ _).alloc (Nat.le_refl _) _
                  have hm8 := hm7.on hb8
                  have HP1 := Lib.hid hm8.below
                  have HP2 := Lib.hid (hm8.hu _ rfl)
                  have HP3 := Lib.hid (hm8.hv _ rfl)
                  have HP4 := Lib.hid (allocNew w7 (Obj.cells #[.slice Au ew.length cu, .slice Av ow.length cv] 26))
                  have HR6 := Lib.hid hrun6
                  have HR7 := Lib.hid hrun7
                  clear hrun6 hrun7 hm6 hm7 hm8 hb8 HEW HOW HEL HOL
                  go_upto_region 17 with (first
                    | (at_builtin; refine wpList_appRun rfl (.tmp 76) (.tmp 77) _ _ rfl _ _ _ rfl rfl HR6.out ?_)
                    | (at_builtin; refine wpList_appRun rfl (.tmp 79) (.tmp 80) _ _ rfl _ _ _ rfl rfl HR7.out ?_))
                  obtain ⟨X, hX⟩ : ∃ V, V = w7.heap.size := ⟨_, rfl⟩
                  rw [← hX] at HP4 ⊢
                  clear hX HR6 HR7
                  generalize w7.alloc (Obj.cells #[.slice Au ew.length cu, .slice Av ow.length cv] 26) = w8 at *
                  have HA8 := Lib.hid (HA5.out.on HP1.out)
                  have HR8 := Lib.hid (ranges_on HR5.out HP1.out)
                  have HI8 := Lib.hid (ranges_on HI5.out HP1.out)
                  have HZ8 : Hid (w8.heap[Z]? = _) := (HP1.out.block Z (Array.getElem?_eq_some_iff.1 HZ5.out).1).trans HZ5.out
                  have HU8 := Lib.hid (HP2.out.low HA5.out.below.size)
                  have HV8 := Lib.hid (HP3.out.low HA5.out.below.size)
                  clear HA5 HR5 HZ5 HP2 HP3 HP1
                  obtain ⟨x0, x1, x2, x3⟩ := la_cell2 HP4.out
                  cases found with
                  | false =>
                    have HBT := Lib.hid (HB.out.take (e0 := ((e1, e2), ew, Ae, ew.length, ce1)) (o0 := ((o1, o2), ow, Ao, ow.length, co)) HEM.out.1 HOM.out.1 HCK.out (fun h => by cases h) HVV.out)
                    have HS9 := Lib.hid (HA8.out.store (D' := Au) (E' := Av) (cd' := cu) (ce' := cv) (x := ⟨ew, ow⟩) HU8.out HV8.out)
                    obtain ⟨b0, b1, b2, b3⟩ := la_cell2 HA8.out.ct
                    have hb10 : World.grownBy w8 ((w8.setCell ⟨Vt, 0, none⟩ (.slice Au ew.length cu)).setCell ⟨Vt, 1, none⟩ (.slice Av ow.length cv)) (some Vt) := setCells_grown Vt [.slice Au ew.length cu, .slice Av ow.length cv] 0 w8
                    have hVt : Vt < w8.heap.size := (Array.getElem?_eq_some_iff.1 HA8.out.ct).1
                    have HR10 := Lib.hid (HR8.out.kept hb10 (fun e => ap_ne HA8.out.gh HA8.out.ct (Option.some.inj e)) (fun e => ap_nei HR8.out HA8.out.ct (Option.some.inj e)))
                    have HI10 := Lib.hid (HI8.out.kept hb10 (fun e => ap_ne HA8.out.go HA8.out.ct (Option.some.inj e)) (fun e => ap_nei HI8.out HA8.out.ct (Option.some.inj e)))
                    have HZ10 : Hid (_ = some _) := (hb10.block Z (Array.getElem?_eq_some_iff.1 HZ8.out).1 (fun e => cells_ne HZ8.out (by rw [Option.some.inj e]; exact HA8.out.ct) (by decide))).trans HZ8.out
                    have HM10 : Hid (World.rangeLeft ((w8.setCell ⟨Vt, 0, none⟩ (.slice Au ew.length cu)).setCell ⟨Vt, 1, none⟩ (.slice Av ow.length cv)) Mo I2 < wr.rangeLeft Mo I2) := by
                      have h1 := HM5.out
                      rw [HI5.out.left_eq] at h1
                      show _ < _
                      rw [HI10.out.left_eq]
                      exact h1
                    clear hb10 hVt
                    go_wp2_with fail
                    go_roundw
                    case rel => exact ⟨true, left3, cnt4, Au, Av, cu, cv, ⟨ew, ow⟩, rfl, HI10.out, HS9, HR10, HZ10, HBT⟩
                    case measure => exact HM10.out
                  | true =>
                    obtain ⟨c0, c1, c2, c3⟩ := la_cell2 HA8.out.ct
                    have hbl : best.h.length ≤ 400000000 ∧ best.l.length ≤ 400000000 := by
                      obtain ⟨e, he, o, ho, _, hbe⟩ := HB.out.some_ rfl
                      have q1 := HLH.out e he
                      have q2 := HG8.out o ho
                      rw [hbe]
                      exact ⟨by simp only; omega, by simp only; omega⟩
                    have q3 : ew.length ≤ 400000000 := by have := HEL2.out; omega
                    have q4 : ow.length ≤ 400000000 := by have := HOL2.out; omega
                    have q5 : Ints w8 0 Au cu ew := wy_ints HU8.out (by omega)
                    have q6 : Ints w8 0 Av cv ow := wy_ints HV8.out (by omega)
                    have q7 : Ints w8 0 D cd best.h := wy_ints HA8.out.bh (by have := hbl.1; omega)
                    have q8 : Ints w8 0 E ce best.l := wy_ints HA8.out.bl (by have := hbl.2; omega)
                    have HAH := Lib.hid (ahead_ ⟨ew, ow⟩ best Au Av D E cu cv cd ce w8 q5 q6 q7 q8 q3 q4 hbl.1 hbl.2)
                    clear hbl q3 q4 q5 q6 q7 q8
                    go_upto_region 18 with (first
                      | (go_at_call 94; refine HAH.out.mono ?_; rintro e w9 ⟨⟨bo, rfl, hbt, hbf⟩, hb9⟩))
                    · rename_i hbo
                      have HBT := Lib.hid (HB.out.take (e0 := ((e1, e2), ew, Ae, ew.length, ce1)) (o0 := ((o1, o2), ow, Ao, ow.length, co)) HEM.out.1 HOM.out.1 HCK.out (fun _ => by have := hbt hbo; simp only; omega) HVV.out)
                      have HA9 := Lib.hid (HA8.out.on hb9)
                      have HR9 := Lib.hid (ranges_on HR8.out hb9)
                      have HI9 := Lib.hid (ranges_on HI8.out hb9)
                      have HZ9 : Hid (w9.heap[Z]? = _) := (hb9.block Z (Array.getElem?_eq_some_iff.1 HZ8.out).1).trans HZ8.out
                      have HU9 := Lib.hid (HU8.out.on hb9)
                      have HV9 := Lib.hid (HV8.out.on hb9)
                      have HP9 : Hid (w9.heap[X]? = _) := (hb9.block X (Array.getElem?_eq_some_iff.1 HP4.out).1).trans HP4.out
                      clear hbt hbf hbo hb9 x0 x1 x2 x3 c0 c1 c2 c3 HAH
                      obtain ⟨x0, x1, x2, x3⟩ := la_cell2 HP9.out
                      have HS9 := Lib.hid (HA9.out.store (D' := Au) (E' := Av) (cd' := cu) (ce' := cv) (x := ⟨ew, ow⟩) HU9.out HV9.out)
                      obtain ⟨b0, b1, b2, b3⟩ := la_cell2 HA9.out.ct
                      have hb10 : World.grownBy w9 ((w9.setCell ⟨Vt, 0, none⟩ (.slice Au ew.length cu)).setCell ⟨Vt, 1, none⟩ (.slice Av ow.length cv)) (some Vt) := setCells_grown Vt [.slice Au ew.length cu, .slice Av ow.length cv] 0 w9
                      have hVt : Vt < w9.heap.size := (Array.getElem?_eq_some_iff.1 HA9.out.ct).1
                      have HR10 := Lib.hid (HR9.out.kept hb10 (fun e => ap_ne HA9.out.gh HA9.out.ct (Option.some.inj e)) (fun e => ap_nei HR9.out HA9.out.ct (Option.some.inj e)))
                      have HI10 := Lib.hid (HI9.out.kept hb10 (fun e => ap_ne HA9.out.go HA9.out.ct (Option.some.inj e)) (fun e => ap_nei HI9.out HA9.out.ct (Option.some.inj e)))
                      have HZ10 : Hid (_ = some _) := (hb10.block Z (Array.getElem?_eq_some_iff.1 HZ9.out).1 (fun e => cells_ne HZ9.out (by rw [Option.some.inj e]; exact HA9.out.ct) (by decide))).trans HZ9.out
                      have HM10 : Hid (World.rangeLeft ((w9.setCell ⟨Vt, 0, none⟩ (.slice Au ew.length cu)).setCell ⟨Vt, 1, none⟩ (.slice Av ow.length cv)) Mo I2 < wr.rangeLeft Mo I2) := by
                        have h1 := HM5.out
                        rw [HI5.out.left_eq] at h1
                        show _ < _
                        rw [HI10.out.left_eq]
                        exact h1
                      clear hb10 hVt
                      go_wp2_with fail
                      go_roundw
                      case rel => exact ⟨true, left3, cnt4, Au, Av, cu, cv, ⟨ew, ow⟩, rfl, HI10.out, HS9, HR10, HZ10, HBT⟩
                      case measure => exact HM10.out
                    · rename_i hbo
                      have HBT := Lib.hid (HB.out.keep (e0 := ((e1, e2), ew, Ae, ew.length, ce1)) (o0 := ((o1, o2), ow, Ao, ow.length, co)) (by have := hbf hbo; simp only; omega) HVV.out)
                      have HA9 := Lib.hid (HA8.out.on hb9)
                      have HR9 := Lib.hid (ranges_on HR8.out hb9)
                      have HI9 := Lib.hid (ranges_on HI8.out hb9)
                      have HZ9 : Hid (w9.heap[Z]? = _) := (hb9.block Z (Array.getElem?_eq_some_iff.1 HZ8.out).1).trans HZ8.out
                      have HU9 := Lib.hid (HU8.out.on hb9)
                      have HV9 := Lib.hid (HV8.out.on hb9)
                      have HM9 : Hid (w9.rangeLeft Mo I2 < wr.rangeLeft Mo I2) := by
                        have h1 := HM5.out
                        rw [HI5.out.left_eq] at h1
                        show _ < _
                        rw [HI9.out.left_eq]
                        exact h1
                      exact ⟨⟨true, left3, cnt4, D, E, cd, ce, best, rfl, HI9.out, HA9, HR9, HZ9, HBT⟩, HM9.out⟩
                · have HBS := Lib.hid (HB.out.skip (e0 := ((e1, e2), ew, Ae, ne, ce1)) (o0 := ((o1, o2), ow, Ao, no, co)) (fun hc => m1 (HM1.out.2 hc.2)) HVV.out)
                  have m0' : (bits BinOp.and IntKind.i64 (e1 : Int) (o1 : Int) == 0) = false := by simp [m0]
                  have m1' : (bits BinOp.and IntKind.i64 (e2 : Int) (o2 : Int) != 0) = true := by simp [m1]
                  clear m0 m1 HM0 HM1 HB
                  go_wp2_with fail
                  go_roundw
                  case rel => exact ⟨found, left3, cnt4, D, E, cd, ce, best, rfl, HI5.out, HA5, HR5, HZ5, HBS⟩
                  case measure => exact HM5.out

end Go.Proofs.Ytoglgeaiiipchaa
