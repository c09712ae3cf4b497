/- Walks: auto.Print. -/
import Derived.Test.YtoglgeaiiipchabDoorWLn
import Derived.Test.YtoglgeaiiipchabDoorWAC
import Derived.Test.YtoglgeaiiipchabDoorBRA
import Derived.Deep.RegionHeld3
namespace Go.Proofs.YtoglgeaiiipchabDoor
open Go Go.RowKit Go.Sort

abbrev IsB (b : Nat) (bs : List UInt8) (w : World) : Prop := Lib.IsBuilder 46 5 b b (Lib.byteCells bs) w
theorem builderAt_below {b : Nat} {p : Value} {cs : List Value} {w w' : World} (h : Lib.BuilderAt 46 5 b b p cs w) (hb : Below w.heap.size w w') : Lib.BuilderAt 46 5 b b p cs w' := by
  obtain ⟨h1, v, h2, h3, h4⟩ := h
  have hlt : b < w.heap.size := (Array.getElem?_eq_some_iff.1 h2).1
  exact ⟨h1, v, (hb.block b hlt).trans h2, own_below h3 hb, h4⟩
theorem IsB.below {b : Nat} {bs : List UInt8} {w w' : World} (h : IsB b bs w) (hb : Below w.heap.size w w') : IsB b bs w' := h.imp (builderAt_below · hb) (builderAt_below · hb)
theorem IsB.lt {b : Nat} {bs : List UInt8} {w : World} (h : IsB b bs w) : b < w.heap.size := by
  rcases h with ⟨_, v, h2, _⟩ | ⟨_, v, h2, _⟩ <;> exact (Array.getElem?_eq_some_iff.1 h2).1
theorem IsB.new (w : World) : IsB w.heap.size [] (w.alloc (Obj.cells #[.pointer none, .slice none 0 0] 46)) := by
  refine .inl ⟨Nat.le_refl _, .slice none 0 0, ?_, World.ownsRow_nil _ _ _ _, by simp [Value.ownBlock]⟩
  show (w.heap.push _)[w.heap.size]? = _
  simp
/-- what stands between the statements: the builder, and all that was there ahead of it -/
structure PrW (Wb : World) (b : Nat) (bs : List UInt8) (w : World) : Prop where
  bu : IsB b bs w
  below : Below b Wb w
  le : b ≤ w.heap.size
theorem PrW.on {Wb : World} {b : Nat} {bs : List UInt8} {w w' : World} (h : PrW Wb b bs w) (hb : Below w.heap.size w w') : PrW Wb b bs w' := ⟨h.bu.below hb, Below_on h.below hb h.le, Nat.le_trans h.le hb.size⟩
theorem PrW.write {Wb w : World} {b : Nat} {bs : List UInt8} (h : PrW Wb b bs w) (s : List UInt8) (hl : bs.length + s.length ≤ 100000000) :
    Calls Tryd.prog 17 #[.pointer (some ⟨b, 0, none⟩), .string (sB s)] w fun e w' => (∃ k, e = .returned (.tuple #[.int .i64 k, .nilIface])) ∧ PrW Wb b (bs ++ s) w' :=
  (WriteString_ b b bs (sB s) w h.bu (by rw [sB_size]; omega) h.le).mono fun e w' ⟨he, hb, hw⟩ => ⟨⟨_, he⟩, by rw [sB_list] at hb; exact hb, h.below.trans hw, Nat.le_trans h.le hw.size⟩
theorem join_sp : ∀ (ns : List Int) (w : List UInt8), Lib.join (w :: ns.map dn) [32] = w ++ sp ns
  | [], w => by rw [List.map_nil, Lib.join_one]; simp [sp]
  | n :: ns, w => by
    have : Lib.join (w :: (n :: ns).map dn) [32] = w ++ 32 :: Lib.join (dn n :: ns.map dn) [32] := by simp [Lib.join, List.intercalate]
    rw [this, join_sp ns (dn n)]
    rfl
theorem lineT_word {w : List UInt8} (h : w ≠ []) (ns : List Int) : lineT w ns = w ++ sp ns ++ [10] := by
  unfold lineT pcs
  rw [if_neg h, List.singleton_append, join_sp]
theorem lineT_step (s : Stp) : lineT [] [s.f, s.l, s.t] = stepX s ++ [10] := by
  unfold lineT pcs
  rw [if_pos rfl, List.nil_append]
  show Lib.join (dn s.f :: [s.l, s.t].map dn) [32] ++ [10] = _
  rw [join_sp]
  simp [stepX, sp]
theorem lineT_len {w : List UInt8} {ns : List Int} (hw : w.length ≤ 10) (hn : ∀ n ∈ ns, 0 ≤ n ∧ n ≤ 999999) : (lineT w ns).length ≤ 11 * ns.length + 12 := by
  have := join_len (pcs w ns) (fun x hx => by
    unfold pcs at hx
    rcases List.mem_append.1 hx with h | h
    · split at h
      · cases h
      · rw [List.mem_singleton.1 h]; exact hw
    · obtain ⟨n, h1, rfl⟩ := List.mem_map.1 h
      have := hn n h1
      have := decDigits_len6 (n := n.toNat) (by omega)
      unfold dn
      omega)
  have h2 : (pcs w ns).length ≤ ns.length + 1 := by
    unfold pcs
    rw [List.length_append, List.length_map]
    split <;> simp <;> omega
  unfold lineT
  rw [List.length_append]
  simp
  omega
theorem sorted_few : ∀ (l : List Int) (lo hi : Int), l.Pairwise (· < ·) → (∀ x ∈ l, lo ≤ x ∧ x < hi) → lo ≤ hi → (l.length : Int) ≤ hi - lo
  | [], lo, hi, _, _, h => by simp; omega
  | x :: l, lo, hi, hp, hb, _ => by
    have h1 := List.pairwise_cons.1 hp
    have hx := hb x (by simp)
    have := sorted_few l (x + 1) hi h1.2 (fun y hy => by have := h1.1 y hy; have := hb y (List.mem_cons_of_mem _ hy); omega) (by omega)
    rw [List.length_cons]
    omega
def goodTo (gs : List Bool) (k : Nat) : List Int := ((List.range k).filter fun i => gs.getD i false).map fun (i : Nat) => (i : Int)
theorem goodTo_succ (gs : List Bool) (k : Nat) : goodTo gs (k + 1) = goodTo gs k ++ if gs.getD k false = true then [(k : Int)] else [] := by
  unfold goodTo
  rw [List.range_succ, List.filter_append, List.map_append]
  congr 1
  by_cases h : gs.getD k false = true
  · rw [List.filter_cons, if_pos h, if_pos h]; rfl
  · rw [List.filter_cons, if_neg h, if_neg h]; rfl
theorem goodTo_len (gs : List Bool) (k : Nat) : (goodTo gs k).length ≤ k := by
  unfold goodTo
  rw [List.length_map]
  have := List.length_filter_le (fun i => gs.getD i false) (List.range k)
  simpa using this
theorem goodTo_mem {gs : List Bool} {k : Nat} {n : Int} (h : n ∈ goodTo gs k) : 0 ≤ n ∧ n < k := by
  unfold goodTo at h
  obtain ⟨i, h1, rfl⟩ := List.mem_map.1 h
  have := List.mem_range.1 (List.mem_filter.1 h1).1
  omega
def printP (a : Au) : List UInt8 := if ckA a = 0 then printA a else []
set_option maxRecDepth 100000 in
set_option maxHeartbeats 4000000 in
theorem PrintA_ (a : Au) (A B C : Option Addr) (ca cb cc : Nat) (w : World) (hL : LaidOK w) (hr : AuRd w 0 a A B C ca cb cc) :
    Calls Tryd.prog 6 #[.agg #[.int .i64 a.st, .int .i64 a.le, .slice A a.fs.length ca, .slice B a.gs.length cb, .slice C a.ss.length cc]] w fun e w' => e = .returned (.tuple #[.string (sB (printP a)), .int .i64 (ckA a)]) ∧ Below w.heap.size w w' := by
  obtain ⟨i0, hi0, hz0, hz1, hz2⟩ := info_parts infoInt
  have HW := Lib.hid (auW_is w a A B C ca cb cc)
  have HR := Lib.hid (hr.below HW.out.below)
  have HL := Lib.hid (hL.below HW.out.below (Nat.le_refl _))
  have l1 := hr.gs.max
  have l2 := hr.ss.max
  have l5 := hr.gs.le
  have l6 := hr.ss.le
  clear hr hL
  go_enter Tryd.func6, Tryd.ntmps6
  go_upto_region 1 with fail
  change Code.wp _ _ _ _ (auW w a A B C ca cb cc)
  generalize auW w a A B C ca cb cc = W0 at *
  have HA := Lib.hid HW.out.at
  have HBW : Hid (Below w.heap.size w W0) := HW.out.below
  obtain ⟨V, hV⟩ : ∃ V, V = w.heap.size := ⟨_, rfl⟩
  rw [← hV] at HA ⊢
  have HV := Lib.hid hV
  clear hV HW
  obtain ⟨_, c0, c1, c2, c3, c4⟩ := HA.out
  have HC := Lib.hid (autoCheck_ a A B C ca cb cc W0 HR.out)
  go_wp2_with fail
  refine HC.out.mono ?_
  rintro e w1 ⟨rfl, hb1⟩
  have HB1 := Lib.hid hb1
  have HBW1 := Lib.hid (Below_on HBW.out hb1 HBW.out.size)
  clear hb1 HC c0 c1 c2 c3 c4
  by_cases hc : ckA a = 0
  · have ho := (ckA_zero.1 hc).1
    have HP : Hid (printP a = printA a) := by unfold Hid printP; rw [if_pos hc]
    have HOK := Lib.hid ho
    have hfl : a.fs.length ≤ 300 := by
      have := sorted_few a.fs 0 a.st ho.fo (fun x hx => ho.fr x hx) (by have := ho.st1; omega)
      have := ho.st2
      omega
    have hgl : a.gs.length ≤ 300 := by have := ho.gl; have := ho.st2; omega
    have hsl := ho.sl
    have HFN : Hid (∀ n ∈ a.fs, 0 ≤ n ∧ n ≤ 999999) := fun n hn => by have := ho.fr n hn; have := ho.st2; omega
    have HSN : Hid (∀ s ∈ a.ss, ∀ n ∈ [s.f, s.l, s.t], 0 ≤ n ∧ n ≤ 999999) := fun s hs n hn => by
      have := ho.sr s hs; have := ho.st2; have := ho.le2
      rcases List.mem_cons.1 hn with rfl | hn
      · omega
      · rcases List.mem_cons.1 hn with rfl | hn
        · omega
        · rw [List.mem_singleton.1 hn]; omega
    have hst := ho.st2
    have hst1 := ho.st1
    have hle1 := ho.le1
    have hle2 := ho.le2
    rw [hc]
    have HC0 := Lib.hid hc
    clear hc ho
    go_upto_region 5 with fail
    obtain ⟨b, hbe⟩ : ∃ b, b = w1.heap.size := ⟨_, rfl⟩
    have hPR : Hid (PrW w1 b [] (w1.alloc (Obj.cells #[.pointer none, .slice none 0 0] 46))) := by
      rw [hbe]
      exact ⟨IsB.new w1, (Below.refl _ _).alloc (Nat.le_refl _) _, by simp⟩
    rw [← hbe]
    generalize w1.alloc (Obj.cells #[.pointer none, .slice none 0 0] 46) = Wb at *
    have HVb : Hid (∀ bs W, PrW w1 b bs W → LaidOK W ∧ AuRd W 0 a A B C ca cb cc ∧ AuAt W V a A B C ca cb cc ∧ Below w.heap.size w W) := fun bs W h => by
      have h1 : Below w1.heap.size w1 W := by rw [← hbe]; exact h.below
      have h2 : Below W0.heap.size W0 W := Below_on HB1.out h1 HB1.out.size
      exact ⟨HL.out.below h2 (Nat.le_refl _), HR.out.below h2, HA.out.below h2 HA.out.lt, Below_on HBW1.out h1 HBW1.out.size⟩
    have hwb : w.heap.size ≤ b := by have := HBW1.out.size; omega
    clear hbe HBW1
    obtain ⟨_, _, ⟨_, c0, c1, c2, c3, c4⟩, _⟩ := HVb.out _ _ hPR.out
    obtain ⟨S1, hS1⟩ : ∃ S, S = sB (dn a.st) := ⟨_, rfl⟩
    obtain ⟨S2, hS2⟩ : ∃ S, S = sB (dn a.le) := ⟨_, rfl⟩
    have z1 : S1.size ≤ 6 := by rw [hS1, sB_size]; exact decDigits_len6 (by omega)
    have z2 : S2.size ≤ 6 := by rw [hS2, sB_size]; exact decDigits_len6 (by omega)
    have y1 : ¬ 9223372036854775807 < 7 + S1.size := by omega
    have y2 : ¬ 9223372036854775807 < 7 + S1.size + 9 := by omega
    have y3 : ¬ 9223372036854775807 < 7 + S1.size + 9 + S2.size := by omega
    have y4 : ¬ 9223372036854775807 < 7 + S1.size + 9 + S2.size + 1 := by omega
    have HI1 : Hid (∀ W, PrW w1 b [] W → Calls Tryd.prog 18 #[.int .i64 a.st] W fun e w' => e = .returned (.string S1) ∧ PrW w1 b [] w') := fun W h =>
      (ItoaN_ a.st (by omega) (by omega) W (HVb.out _ _ h).1).mono fun e w' ⟨he, hb⟩ => ⟨by rw [he, hS1], h.on hb⟩
    have HI2 : Hid (∀ W, PrW w1 b [] W → Calls Tryd.prog 18 #[.int .i64 a.le] W fun e w' => e = .returned (.string S2) ∧ PrW w1 b [] w') := fun W h =>
      (ItoaN_ a.le (by omega) (by omega) W (HVb.out _ _ h).1).mono fun e w' ⟨he, hb⟩ => ⟨by rw [he, hS2], h.on hb⟩
    have HWR : Hid (∀ W, PrW w1 b [] W → Calls Tryd.prog 17 #[.pointer (some ⟨b, 0, none⟩), .string (⟨#[115, 116, 97, 116, 101, 115, 32]⟩ ++ S1 ++ ⟨#[32, 108, 101, 116, 116, 101, 114, 115, 32]⟩ ++ S2 ++ ⟨#[10]⟩)] W fun e w' => (∃ k, e = .returned (.tuple #[.int .i64 k, .nilIface])) ∧ PrW w1 b (line0 a ++ [10]) w') := fun W h => by
      have e : (⟨#[115, 116, 97, 116, 101, 115, 32]⟩ ++ S1 ++ ⟨#[32, 108, 101, 116, 116, 101, 114, 115, 32]⟩ ++ S2 ++ ⟨#[10]⟩ : ByteArray) = sB (line0 a ++ [10]) := by
        rw [hS1, hS2, show (⟨#[115, 116, 97, 116, 101, 115, 32]⟩ : ByteArray) = sB (bStates ++ [32]) from rfl, show (⟨#[32, 108, 101, 116, 116, 101, 114, 115, 32]⟩ : ByteArray) = sB (32 :: bLetters ++ [32]) from rfl, show (⟨#[10]⟩ : ByteArray) = sB [10] from rfl]
        simp only [sB_app]
        congr 1
        simp [line0]
      rw [e]
      have hd1 := decDigits_len6 (n := a.st.toNat) (by omega)
      have hd2 := decDigits_len6 (n := a.le.toNat) (by omega)
      have := h.write (line0 a ++ [10]) (by simp [line0, bStates, bLetters, dn]; omega)
      simpa using this
    have HCE : Hid (∀ bs W, PrW w1 b bs W → W.cell? ⟨V, 0, none⟩ = some (.int .i64 a.st) ∧ W.cell? ⟨V, 1, none⟩ = some (.int .i64 a.le)) := fun bs W h => ⟨(HVb.out _ _ h).2.2.1.c0, (HVb.out _ _ h).2.2.1.c1⟩
    have hPR0 : PrW w1 b [] Wb.drew := ⟨hPR.out.bu, hPR.out.below.drew, hPR.out.le⟩
    have HPR0 := Lib.hid hPR0
    clear z1 z2 hPR0 hS1 hS2
    go_cut [] (fun wx => Hid (PrW w1 b (line0 a ++ [10]) wx))
    case first =>
      go_region_held3 (fun w' => w'.cell? ⟨V, 0, none⟩ = some (.int .i64 a.st) ∧ w'.cell? ⟨V, 1, none⟩ = some (.int .i64 a.le))
        (first | go_keep | exact HCE.out _ _ HPC.out | exact HCE.out _ _ HPA.out | exact HCE.out _ _ HPB.out)
        (first
          | (go_at_call 18; refine (HI1.out _ (by first | exact HPB.out | exact HPR0.out)).mono ?_; rintro e wA ⟨rfl, hpa⟩; have HPA := Lib.hid hpa; clear hpa)
          | (go_at_call 18; refine (HI2.out _ (by first | exact HPA.out | exact HPR0.out)).mono ?_; rintro e wB ⟨rfl, hpb⟩; have HPB := Lib.hid hpb; clear hpb)
          | (go_at_call 17; refine (HWR.out _ (by first | exact HPA.out | exact HPB.out)).mono ?_; rintro e wC ⟨⟨kk, rfl⟩, hpc⟩; have HPC := Lib.hid hpc; clear hpc))
      all_goals
        go_wp2_with fail
        go_meet
        exact HPC.out
    case rest =>
      have HP1 := hcut
      clear hcut HI1 HI2 HWR HPR0 y1 y2 y3 y4 c0 c1 c2 c3 c4 hPR
      obtain ⟨hL1, hR1, ⟨_, c0, c1, c2, c3, c4⟩, _⟩ := HVb.out _ _ HP1.out
      have HLN := Lib.hid (line_ bFirst A ca a.fs wc hL1 hR1.fs HFN.out (by omega) (by decide) (.inl (by decide)))
      rw [lineT_word (by decide)] at HLN
      have hl1 : (line0 a ++ [10]).length ≤ 1000 := by
        have hd1 := decDigits_len6 (n := a.st.toNat) (by omega)
        have hd2 := decDigits_len6 (n := a.le.toNat) (by omega)
        simp [line0, bStates, bLetters, dn]; omega
      have hl2 : (line1 a ++ [10]).length ≤ 10000 := by
        have := lineT_len (w := bFirst) (by decide) HFN.out
        rw [lineT_word (by decide)] at this
        unfold line1
        omega
      clear hL1 hR1
      have HLN2 : Hid (Calls Tryd.prog 19 #[.string ⟨#[102, 105, 114, 115, 116]⟩, .slice A a.fs.length ca] wc fun e w' => e = .returned (.string (sB (line1 a ++ [10]))) ∧ Below wc.heap.size wc w') := HLN
      clear HLN
      go_wp2_with fail
      refine HLN2.out.mono ?_
      rintro e w2 ⟨rfl, hb2⟩
      have HP2 := Lib.hid (HP1.out.on hb2)
      have HWS := Lib.hid (HP2.out.write (line1 a ++ [10]) (by omega))
      clear hb2 HLN2 c0 c1 c2 c3 c4
      go_wp2_with fail
      refine HWS.out.mono ?_
      rintro e w3 ⟨⟨kk, rfl⟩, hp3⟩
      have HP3 := Lib.hid hp3
      clear hp3 HWS HP1 HP2
      obtain ⟨bs3, hbs3⟩ : ∃ x, x = line0 a ++ [10] ++ (line1 a ++ [10]) := ⟨_, rfl⟩
      rw [← hbs3] at HP3
      have hl3 : bs3.length ≤ 11000 := by rw [hbs3, List.length_append]; omega
      have HB3 := Lib.hid hbs3
      clear hbs3 hl1 hl2
      obtain ⟨hL3, hR3, ⟨_, c0, c1, c2, c3, c4⟩, _⟩ := HVb.out _ _ HP3.out
      have HR3 := Lib.hid hR3
      clear hL3 hR3
      go_wp2_with fail
      go_loopw [6, 7, 8, 34] (fun v _ _ i wr => ∃ k : Nat, k ≤ a.gs.length ∧ i = .int .i64 (k : Int) ∧ Hid (wr.ownsRow w3.heap.size 3 1 v (goodTo a.gs k).length ((goodTo a.gs k).flatMap fun n : Int => [Value.int .i64 n])) ∧ Hid (Below w3.heap.size w3 wr)) (fun _ _ _ i _ => a.gs.length - (intOf i).toNat)
      case atStart => exact ⟨0, Nat.zero_le _, rfl, World.ownsRow_nil _ _ _ _, Below.refl _ _⟩
      case round =>
        obtain ⟨k, hk, rfl, HO, HBR⟩ := hrel
        by_cases hkl : k < a.gs.length
        · have q1 : (k : Int) < (a.gs.length : Int) := by omega
          obtain ⟨g1, o1, rfl, _, _, y1⟩ := Bools.at_ (HR3.out.gs.below HBR.out) (k := k) hkl
          have HG := Lib.hid (goodTo_succ a.gs k)
          rw [getD_lt hkl] at HG
          have hgt := goodTo_len a.gs k
          generalize hgtn : goodTo a.gs (k + 1) = gt' at *
          generalize goodTo a.gs k = gt at *
          have HGN := Lib.hid hgtn
          clear hgtn
          generalize a.gs[k]'hkl = x at *
          obtain ⟨vA, vc, rfl, hvl, hvc, _, _⟩ := own_form HO.out
          cases x with
          | true =>
            have HG2 : Hid (gt' = gt ++ [(k : Int)]) := HG.out
            have HO3 : Hid ((wr.alloc (Obj.cells #[.int .i64 (k : Int)] 3)).ownsRow w3.heap.size 3 1 (.slice vA gt.length vc) gt.length (gt.flatMap fun n : Int => [Value.int .i64 n])) := own_below HO.out ((Below.refl _ _).alloc (Nat.le_refl _) _)
            have HRd := Lib.hid (Rd.new wr #[.int .i64 (k : Int)] 3)
            have HB4 : Hid (Below w3.heap.size w3 (wr.alloc (Obj.cells #[.int .i64 (k : Int)] 3))) := HBR.out.alloc HBR.out.size _
            have hsz4 : w3.heap.size ≤ (wr.alloc (Obj.cells #[.int .i64 (k : Int)] 3)).heap.size := HB4.out.size
            clear HG
            go_wp2_with (at_builtin; refine wpList_app _ rfl (.tmp 40) (.tmp 42) _ rfl w3.heap.size 3 i0 _ 1 8 Tryd.underlying22 hi0 hz0 hz1 hz2 rfl (by decide) (.slice vA gt.length vc) gt.length _ rfl HO3.out (some ⟨wr.heap.size, 0, none⟩) 1 1 [.int .i64 (k : Int)] rfl rfl HRd.out (by simp [Value.oneCell']) (by simp only [maxLen]; omega) (by omega) hsz4 ?_; intro v2 w2' hown2 hg2 hat2)
            have HP' : Hid (w2'.ownsRow w3.heap.size 3 1 v2 gt'.length (gt'.flatMap fun n : Int => [Value.int .i64 n])) := by
              show World.ownsRow _ _ _ _ _ _ _
              rw [HG2.out, List.length_append, List.flatMap_append]
              exact hown2
            have HB5 := Lib.hid (grownOwn_ HB4.out hg2 HO3.out (Nat.le_refl _) hsz4)
            clear hown2 hg2 hat2
            go_wp2_with fail
            go_roundw
            case rel => exact ⟨k + 1, by omega, by go_num, by rw [HGN.out]; exact HP'.out, HB5.out⟩
            case measure => simp [intOf]; omega
          | false =>
            have HG2 : Hid (gt' = gt) := by have h := HG.out; show gt' = gt; simpa using h
            have HP' : Hid (wr.ownsRow w3.heap.size 3 1 (.slice vA gt.length vc) gt'.length (gt'.flatMap fun n : Int => [Value.int .i64 n])) := by show World.ownsRow _ _ _ _ _ _ _; rw [HG2.out]; exact HO.out
            clear HG
            go_wp2_with fail
            go_roundw
            case rel => exact ⟨k + 1, by omega, by go_num, by rw [HGN.out]; exact HP'.out, HBR.out⟩
            case measure => simp [intOf]; omega
        · have q1 : ¬ (k : Int) < (a.gs.length : Int) := by omega
          obtain rfl : k = a.gs.length := by omega
          have hgi : goodTo a.gs a.gs.length = goodIdx a.gs := rfl
          rw [hgi] at HO
          have HGM : Hid (∀ n ∈ goodIdx a.gs, 0 ≤ n ∧ n ≤ 999999) := fun n hn => by have := goodTo_mem (gs := a.gs) (k := a.gs.length) hn; omega
          have hgl2 : (goodIdx a.gs).length ≤ 300 := by have := goodTo_len a.gs a.gs.length; rw [hgi] at this; omega
          have HP4 := Lib.hid (HP3.out.on HBR.out)
          obtain ⟨vA, vc, rfl, hints⟩ := SlE.of_own (bt := 8) HO.out (by omega)
          obtain ⟨hL4, hR4, ⟨_, c0, c1, c2, c3, c4⟩, _⟩ := HVb.out _ _ HP4.out
          have HR4 := Lib.hid hR4
          have HLN := Lib.hid (line_ bGood vA vc (goodIdx a.gs) wr hL4 (hints.low (Nat.zero_le _)) HGM.out (by omega) (by decide) (.inl (by decide)))
          rw [lineT_word (by decide)] at HLN
          have hl4 : (line2 a ++ [10]).length ≤ 10000 := by
            have := lineT_len (w := bGood) (by decide) HGM.out
            rw [lineT_word (by decide)] at this
            unfold line2
            omega
          have HLN2 : Hid (Calls Tryd.prog 19 #[.string ⟨#[103, 111, 111, 100]⟩, .slice vA (goodIdx a.gs).length vc] wr fun e w' => e = .returned (.string (sB (line2 a ++ [10]))) ∧ Below wr.heap.size wr w') := HLN
          have hcap := hints.cap
          have hcle := hints.le
          clear HLN hints hL4 hR4 HO hgi
          go_wp2_with fail
          refine HLN2.out.mono ?_
          rintro e w5 ⟨rfl, hb5⟩
          have HP5 := Lib.hid (HP4.out.on hb5)
          have HWS := Lib.hid (HP5.out.write (line2 a ++ [10]) (by omega))
          clear hb5 HLN2 c0 c1 c2 c3 c4
          go_wp2_with fail
          refine HWS.out.mono ?_
          rintro e w6 ⟨⟨kk, rfl⟩, hp6⟩
          have HP6 := Lib.hid hp6
          clear hp6 HWS HP4 HP5 HP3
          obtain ⟨bs6, hbs6⟩ : ∃ x, x = bs3 ++ (line2 a ++ [10]) := ⟨_, rfl⟩
          rw [← hbs6] at HP6
          have hl6 : bs6.length ≤ 21000 := by rw [hbs6, List.length_append]; omega
          have HB6 := Lib.hid hbs6
          clear hbs6 hl3 hl4
          obtain ⟨_, _, ⟨_, c0, c1, c2, c3, c4⟩, _⟩ := HVb.out _ _ HP6.out
          go_wp2_with fail
          go_loopw [10, 51] (fun _ i wx => ∃ k : Nat, k ≤ a.ss.length ∧ i = .int .i64 (k : Int) ∧ Hid (PrW w1 b (bs6 ++ stepsT (a.ss.take k)) wx) ∧ (stepsT (a.ss.take k)).length ≤ 50 * k) (fun _ i _ => a.ss.length - (intOf i).toNat)
          case atStart => exact ⟨0, Nat.zero_le _, rfl, by show PrW _ _ _ _; simpa [stepsT] using HP6.out, by simp [stepsT]⟩
          case round =>
            obtain ⟨k, hk, rfl, HPX, hlx⟩ := hrel
            clear c0 c1 c2 c3 c4
            obtain ⟨hL7, hR7, ⟨_, c0, c1, c2, c3, c4⟩, hbw7⟩ := HVb.out _ _ HPX.out
            by_cases hkl : k < a.ss.length
            · have q2 : (k : Int) < (a.ss.length : Int) := by omega
              obtain ⟨b1, o1, rfl, _, _, y0, y1, y2⟩ := Stps.at_ hR7.ss hkl
              have HSS : Hid (stepsT (a.ss.take (k + 1)) = stepsT (a.ss.take k) ++ (stepX a.ss[k] ++ [10])) := by
                show _ = _
                unfold stepsT
                rw [List.take_succ_eq_append_getElem hkl, List.flatMap_append]
                simp
              have hsn := HSN.out _ (List.getElem_mem hkl)
              generalize hgp : stepsT (a.ss.take (k + 1)) = pt' at *
              have HGP := Lib.hid hgp
              clear hgp
              generalize stepsT (a.ss.take k) = pt at *
              obtain ⟨s, hs⟩ : ∃ s, s = a.ss[k] := ⟨_, rfl⟩
              rw [← hs] at y0 y1 y2 HSS hsn
              clear hs
              have hls : (stepX s ++ [10]).length ≤ 50 := by
                have := lineT_len (w := []) (by decide) hsn
                rw [lineT_step] at this
                simp at this ⊢
                omega
              have HSN1 := Lib.hid hsn
              have HL7 := Lib.hid hL7
              clear hsn hL7 hR7 hbw7
              have HP8 : Hid (PrW w1 b (bs6 ++ pt) (wr.alloc (Obj.cells #[.int .i64 s.f, .int .i64 s.l, .int .i64 s.t] 54))) := HPX.out.on ((Below.refl _ _).alloc (Nat.le_refl _) _)
              have HG8 := Lib.hid (stW_is wr s)
              go_upto_region 18 with fail
              change Code.wp _ _ _ _ (stW wr s)
              have HP8' : Hid (PrW w1 b (bs6 ++ pt) (stW wr s)) := HP8.out
              clear HP8
              generalize stW wr s = w8 at *
              obtain ⟨X, hX⟩ : ∃ X, X = wr.heap.size := ⟨_, rfl⟩
              rw [← hX] at HG8 ⊢
              have x0 := HG8.out.c0
              have x1 := HG8.out.c1
              have x2 := HG8.out.c2
              have HP9 : Hid (PrW w1 b (bs6 ++ pt) (w8.alloc (Obj.cells #[.int .i64 s.f, .int .i64 s.l, .int .i64 s.t] 3))) := HP8'.out.on ((Below.refl _ _).alloc (Nat.le_refl _) _)
              have HIN : Hid (Ints (w8.alloc (Obj.cells #[.int .i64 s.f, .int .i64 s.l, .int .i64 s.t] 3)) 0 (some ⟨w8.heap.size, 0, none⟩) 3 [s.f, s.l, s.t]) := ⟨by simp, by omega, by simp, Rd.new w8 #[.int .i64 s.f, .int .i64 s.l, .int .i64 s.t] 3⟩
              have HLN := Lib.hid (line_ [] (some ⟨w8.heap.size, 0, none⟩) 3 [s.f, s.l, s.t] _ (HVb.out _ _ HP9.out).1 HIN.out HSN1.out (by simp) (by simp) (.inr (by simp)))
              rw [lineT_step] at HLN
              clear HG8 hX HP8'
              go_wp2_with fail
              refine HLN.out.mono ?_
              rintro e w5 ⟨rfl, hb5⟩
              have HP10 := Lib.hid (HP9.out.on hb5)
              have HWS := Lib.hid (HP10.out.write (stepX s ++ [10]) (by simp at hls ⊢; omega))
              rw [List.append_assoc, ← HSS.out] at HWS
              have hls2 : pt'.length ≤ 50 * (k + 1) := by rw [HSS.out, List.length_append]; omega
              clear hb5 HLN
              go_wp2_with fail
              refine HWS.out.mono ?_
              rintro e w6 ⟨⟨kk, rfl⟩, hp6⟩
              have HP11 := Lib.hid hp6
              clear hp6 HWS
              go_wp2_with fail
              go_roundw
              case rel => exact ⟨k + 1, by omega, by go_num, by rw [HGP.out]; exact HP11.out, by rw [HGP.out]; exact hls2⟩
              case measure => simp [intOf]; omega
            · have q2 : ¬ (k : Int) < (a.ss.length : Int) := by omega
              have hkk : a.ss.take k = a.ss := List.take_of_length_le (by omega)
              rw [hkk] at HPX
              have HST := Lib.hid (StringOf_ b b _ wr HPX.out.bu HPX.out.le)
              have HFT : Hid (bs6 ++ stepsT a.ss = printP a) := by
                show _ = _
                rw [HP.out, HB6.out, HB3.out]
                simp [printA]
              have HBE : Hid (∀ w', Below b wr w' → Below w.heap.size w w') := fun w' h => Below_on hbw7 h hwb
              clear hkk hL7 hR7 hbw7
              go_wp2_with fail
              refine HST.out.mono ?_
              rintro e w9 ⟨rfl, hb9⟩
              have HB9 := Lib.hid (HBE.out _ hb9)
              clear hb9 HST
              go_wp2_with fail
              go_ret2
              exact ⟨by rw [← HFT.out, HC0.out]; rfl, HB9.out⟩
  · have HP : Hid (printP a = []) := by unfold Hid printP; rw [if_neg hc]
    have e1 : (ckA a != 0) = true := by simpa using hc
    have HB2 := Lib.hid (Below_on HBW.out HB1.out HBW.out.size)
    clear hc
    go_wp2_with fail
    go_ret2
    exact ⟨by rw [HP.out]; rfl, HB2.out⟩
end Go.Proofs.YtoglgeaiiipchabDoor
