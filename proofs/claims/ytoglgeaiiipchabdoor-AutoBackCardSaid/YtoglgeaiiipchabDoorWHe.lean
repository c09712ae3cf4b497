/- Walks: auto.head. -/
import Derived.Test.YtoglgeaiiipchabDoorWGd
namespace Go.Proofs.YtoglgeaiiipchabDoor
open Go Go.RowKit Go.Sort

def zeroA : Value := .agg #[.int .i64 0, .int .i64 0, .slice none 0 0, .slice none 0 0, .slice none 0 0]
def HdPost (w : World) (o : Option Au) (e : Ending) (w' : World) : Prop := Below w.heap.size w w' ∧ match o with
  | some a => ∃ g, e = .returned (.tuple #[.agg #[.int .i64 a.st, .int .i64 a.le, .slice none 0 0, .slice (some ⟨g, 0, none⟩) a.gs.length a.gs.length, .slice none 0 0], .bool true]) ∧ w.heap.size ≤ g ∧ BRow w' g a.gs ∧ a.fs = [] ∧ a.ss = [] ∧ (a.gs.length : Int) = a.st ∧ a.st ≤ 300
  | none => e = .returned (.tuple #[zeroA, .bool false])
theorem hd_len {x : List UInt8} {l : List (List UInt8)} (h : splitL 32 x = l) (hl : l.length ≠ 4) : hdOf x = none := by
  unfold hdOf
  rw [h]
  split
  · simp at hl
  · rfl
theorem hd_four {x p q r s : List UInt8} (h : splitL 32 x = [p, q, r, s]) : hdOf x = if p = bStates ∧ r = bLetters then (match und q, und s with
    | some n, some m => if 1 ≤ n ∧ n ≤ 300 then some ⟨n, m, [], List.replicate n.toNat false, []⟩ else none
    | _, _ => none) else none := by
  unfold hdOf
  rw [h]
  rfl
theorem four {α : Type} {l : List α} (h : l.length = 4) : ∃ p q r s, l = [p, q, r, s] := by
  match l, h with
  | [p, q, r, s], _ => exact ⟨p, q, r, s, rfl⟩
theorem nums_two {q s : List UInt8} (hq : ∀ x ∈ q, x ≠ 32) (hs : ∀ x ∈ s, x ≠ 32) : numsOf [] (q ++ 32 :: s) = match und q, und s with
    | some n, some m => some [n, m]
    | _, _ => none := by
  unfold numsOf
  rw [if_pos rfl, splitL_pre _ hq, splitL_none hs, undL_cons, undL_cons]
  cases und q <;> cases und s <;> rfl
theorem obj5 {W : World} {V : Nat} {v0 v1 v2 v3 v4 : Value} {t : TypeId} (h : W.heap[V]? = some (.cells #[v0, v1, v2, v3, v4] t (0, 0))) :
    W.cell? ⟨V, 0, none⟩ = some v0 ∧ W.cell? ⟨V, 1, none⟩ = some v1 ∧ W.cell? ⟨V, 2, none⟩ = some v2 ∧ W.cell? ⟨V, 3, none⟩ = some v3 ∧ W.cell? ⟨V, 4, none⟩ = some v4 ∧ W.frozen? ⟨V, 0, none⟩ = false ∧ W.frozen? ⟨V, 1, none⟩ = false ∧ W.frozen? ⟨V, 2, none⟩ = false ∧ W.frozen? ⟨V, 3, none⟩ = false ∧ W.frozen? ⟨V, 4, none⟩ = false := by
  refine ⟨?_, ?_, ?_, ?_, ?_, ?_, ?_, ?_, ?_, ?_⟩ <;> simp [World.cell?, World.frozen?, h]
def set5 (w : World) (V : Nat) (v0 v1 v2 v3 v4 : Value) : World := ((((w.setCell ⟨V, 0, none⟩ v0).setCell ⟨V, 1, none⟩ v1).setCell ⟨V, 2, none⟩ v2).setCell ⟨V, 3, none⟩ v3).setCell ⟨V, 4, none⟩ v4
theorem below_set5 {B V : Nat} {a w : World} (h : Below B a w) (hV : B ≤ V) (v0 v1 v2 v3 v4 : Value) : Below B a (set5 w V v0 v1 v2 v3 v4) :=
  ((((h.setCell (p := ⟨V, 0, none⟩) hV _).setCell (p := ⟨V, 1, none⟩) hV _).setCell (p := ⟨V, 2, none⟩) hV _).setCell (p := ⟨V, 3, none⟩) hV _).setCell (p := ⟨V, 4, none⟩) hV _
theorem set5_heap {w : World} {V : Nat} {u0 u1 u2 u3 u4 : Value} {t : TypeId} (h : w.heap[V]? = some (.cells #[u0, u1, u2, u3, u4] t (0, 0))) (v0 v1 v2 v3 v4 : Value) :
    (set5 w V v0 v1 v2 v3 v4).heap[V]? = some (.cells #[v0, v1, v2, v3, v4] t (0, 0)) := by
  simp [set5, World.setCell, Array.getElem?_modify, h]
theorem retAu {fn : Func} {u : Tmp} (h : fn.results = #[.cell 2 26, .tmp u]) (tmps : Array Value) (w : World) (V : Nat) {v0 v1 v2 v3 v4 x : Value} (hp : tmps[2]? = some (.pointer (some ⟨V, 0, none⟩))) (hx : tmps[u]? = some x)
    (ho : w.heap[V]? = some (.cells #[v0, v1, v2, v3, v4] 26 (0, 0))) : (results fn tmps).run Tryd.prog w = .ok (.tuple #[.agg #[v0, v1, v2, v3, v4], x]) w := by
  obtain ⟨r0, r1, r2, r3, r4, _⟩ := obj5 ho
  simp [results, h, go_sem, hp, hx, r0, r1, r2, r3, r4]
set_option maxRecDepth 100000 in
set_option maxHeartbeats 4000000 in
theorem head_ (x : List UInt8) (w : World) (hL : LaidOK w) (hx : x.length ≤ 99999) : Calls Tryd.prog 47 #[.string (sB x)] w (HdPost w (hdOf x)) := by
  have hb0 : Below w.heap.size w (w.alloc (Obj.cells #[.int .i64 0, .int .i64 0, .slice none 0 0, .slice none 0 0, .slice none 0 0] 26)) := (Below.refl _ _).alloc (Nat.le_refl _) _
  have HL0 := Lib.hid (hL.below hb0 (Nat.le_refl _))
  have HB0 := Lib.hid hb0
  clear hL
  go_enter Tryd.func47, Tryd.ntmps47
  go_upto_region 1 with fail
  obtain ⟨V, hV⟩ : ∃ V, V = w.heap.size := ⟨_, rfl⟩
  have hobj : (w.alloc (Obj.cells #[.int .i64 0, .int .i64 0, .slice none 0 0, .slice none 0 0, .slice none 0 0] 26)).heap[w.heap.size]? = some (.cells #[.int .i64 0, .int .i64 0, .slice none 0 0, .slice none 0 0, .slice none 0 0] 26 (0, 0)) := by
    show (w.heap.push _)[w.heap.size]? = _
    simp
  clear hb0
  generalize w.alloc (Obj.cells #[.int .i64 0, .int .i64 0, .slice none 0 0, .slice none 0 0, .slice none 0 0] 26) = W0 at *
  rw [← hV] at hobj ⊢
  have HV := Lib.hid hV
  have hVl : V < W0.heap.size := (Array.getElem?_eq_some_iff.1 hobj).1
  have HOB : Hid (∀ W, Below W0.heap.size W0 W → W.heap[V]? = some (.cells #[.int .i64 0, .int .i64 0, .slice none 0 0, .slice none 0 0, .slice none 0 0] 26 (0, 0))) := fun W h => (h.block V hVl).trans hobj
  clear hV hobj
  have HSP : Hid (Calls Tryd.prog 59 #[.string (sB x), .string ⟨#[32]⟩] W0 _) := SplitS_ x 32 W0 HL0.out (by omega)
  have hsl := splitL_len 32 x
  obtain ⟨l, hl⟩ : ∃ l, l = splitL 32 x := ⟨_, rfl⟩
  have HNO : Hid (∀ z ∈ l, ∀ y ∈ z, y ≠ 32) := by rw [hl]; exact splitL_mem _ x (Nat.le_refl _)
  have HPL : Hid (∀ z ∈ l, z.length ≤ 99999) := fun z hz => by rw [hl] at hz; have := split_piece_len 32 _ x (Nat.le_refl _) z hz; omega
  rw [← hl] at HSP hsl
  have HSL := Lib.hid hl.symm
  clear hl
  go_wp2_with fail
  refine HSP.out.mono ?_
  rintro e w1 ⟨rfl, hrd, hb1⟩
  have HRD := Lib.hid hrd
  have HB1 := Lib.hid hb1
  obtain ⟨g, hg⟩ : ∃ g, g = W0.heap.size := ⟨_, rfl⟩
  rw [← hg] at HRD ⊢
  clear hrd hb1 HSP hg
  have HEND : Hid (∀ W, Below W0.heap.size W0 W → Below w.heap.size w W) := fun W h => Below_on HB0.out h HB0.out.size
  by_cases h4 : l.length = 4
  · obtain ⟨p, q, r, s, rfl⟩ := four h4
    have HH := Lib.hid (hd_four HSL.out)
    have HQ := Lib.hid (HNO.out q (by simp))
    have HS := Lib.hid (HNO.out s (by simp))
    have hql := HPL.out q (by simp)
    have hsl2 := HPL.out s (by simp)
    have HR : Hid (∀ W, Below w1.heap.size w1 W → W.cell? ⟨g, 0, none⟩ = some (.string (sB p)) ∧ W.cell? ⟨g, 1, none⟩ = some (.string (sB q)) ∧ W.cell? ⟨g, 2, none⟩ = some (.string (sB r)) ∧ W.cell? ⟨g, 3, none⟩ = some (.string (sB s))) := fun W h => by
      have hh := HRD.out.below h
      have at_ : ∀ (k : Nat) (hk : k < 4), W.cell? ⟨g, k, none⟩ = some (.string (sB ([p, q, r, s][k]'hk))) := fun k hk => by
        obtain ⟨b, o, hbo, _, y⟩ := hh.at_ (k := k) hk
        obtain ⟨rfl, rfl⟩ : b = g ∧ o = 0 := by simp at hbo; exact ⟨hbo.1.symm, hbo.2.symm⟩
        rwa [Nat.zero_add] at y
      exact ⟨at_ 0 (by decide), at_ 1 (by decide), at_ 2 (by decide), at_ 3 (by decide)⟩
    obtain ⟨y0, y1, y2, y3⟩ := HR.out w1 (Below.refl _ _)
    obtain ⟨a0, a1, a2, a3, a4, f0, f1, f2, f3, f4⟩ := obj5 (HOB.out w1 HB1.out)
    by_cases hp : p = bStates
    · by_cases hr : r = bLetters
      · have e1 : ((sB p).toList == [115, 116, 97, 116, 101, 115]) = true := by rw [hp, sB_toList]; rfl
        have e2 : ((sB r).toList == [108, 101, 116, 116, 101, 114, 115]) = true := by rw [hr, sB_toList]; rfl
        rw [if_pos ⟨hp, hr⟩] at HH
        have HNU : Hid (∀ W, Below w1.heap.size w1 W → Calls Tryd.prog 48 #[.string (sB q ++ ⟨#[32]⟩ ++ sB s), .string ⟨#[]⟩] W (NuPost W (match und q, und s with
    | some n, some m => some [n, m]
    | _, _ => none))) := fun W h => by
          have := numbers_ [] (q ++ 32 :: s) W (HL0.out.below (n := W0.heap.size) (Below_on HB1.out h HB1.out.size) (Nat.le_refl _)) (by rw [List.length_append, List.length_cons]; omega) (by simp) (by simp)
          rw [nums_two HQ.out HS.out] at this
          rw [show (⟨#[32]⟩ : ByteArray) = sB [32] from rfl, sB_app, sB_app, show q ++ [32] ++ s = q ++ 32 :: s by simp]
          exact this
        have z1 : ¬ 9223372036854775807 < (sB q).size + 1 := by rw [sB_size]; omega
        have z2 : ¬ 9223372036854775807 < (sB q).size + 1 + (sB s).size := by rw [sB_size, sB_size]; omega
        clear hp hr
        go_wp2_with fail
        go_region_held3 (fun w' => w'.cell? ⟨g, 1, none⟩ = some (.string (sB q)) ∧ w'.cell? ⟨g, 3, none⟩ = some (.string (sB s)))
          (first | go_keep | exact ⟨y1, y3⟩ | exact ⟨(HR.out _ HBN.out).2.1, (HR.out _ HBN.out).2.2.2⟩)
          (first
            | (go_at_call 48; refine (HNU.out _ (Below.refl _ _).drew).mono ?_; rintro e w2 ⟨A, c, ns, b, rfl, hints', hbn, hmm⟩; have hcpp := hints'.cap; have hlee := hints'.le; have HBN : Hid (Below w1.heap.size w1 w2) := (Below.refl _ w1).drew.trans hbn; clear hbn))
        clear y0 y1 y2 y3 a0 a1 a2 a3 a4 f0 f1 f2 f3 f4 z1 z2 e1 e2
        have HB2 := Lib.hid (Below_on HB1.out HBN.out HB1.out.size)
        obtain ⟨a0, a1, a2, a3, a4, f0, f1, f2, f3, f4⟩ := obj5 (HOB.out w2 HB2.out)
        have hbad : (match und q, und s with | some n, some m => if 1 ≤ n ∧ n ≤ 300 then some (⟨n, m, [], List.replicate n.toNat false, []⟩ : Au) else none | _, _ => none) = none ∧ b = false ∨ ∃ n m, und q = some n ∧ und s = some m ∧ ns = [n, m] ∧ b = true := by
          cases hq : und q with
          | none => rw [hq] at hmm; exact .inl ⟨rfl, hmm⟩
          | some n =>
            cases hs : und s with
            | none => rw [hq, hs] at hmm; exact .inl ⟨rfl, hmm⟩
            | some m => rw [hq, hs] at hmm; exact .inr ⟨n, m, rfl, rfl, hmm.1, hmm.2⟩
        have HINT := Lib.hid hints'
        clear hmm hints'
        have HPZ : Hid (hdOf x = none → HdPost w (hdOf x) (.returned (.tuple #[zeroA, .bool false])) (set5 w2 V (.int .i64 0) (.int .i64 0) (.slice none 0 0) (.slice none 0 0) (.slice none 0 0))) := fun h => ⟨below_set5 (HEND.out _ HB2.out) (by rw [HV.out]; exact Nat.le_refl _) _ _ _ _ _, by rw [h]⟩
        have HOBW := Lib.hid (set5_heap (HOB.out w2 HB2.out) (.int .i64 0) (.int .i64 0) (.slice none 0 0) (.slice none 0 0) (.slice none 0 0))
        rcases hbad with ⟨h0, rfl⟩ | ⟨n, m, hq, hs, rfl, rfl⟩
        · have HP2 := Lib.hid (HPZ.out (HH.out.trans h0))
          clear h0
          go_wp2_with fail
          exact bodyPost_ret (retAu Tryd.results47 _ _ V rfl rfl HOBW.out) rfl HP2.out
        · rw [hq, hs] at HH
          obtain ⟨gb, go_, rfl, _, _, z0⟩ := Ints.at_ HINT.out (k := 0) (by simp)
          obtain ⟨gb', go', hgg, _, _, z1⟩ := Ints.at_ HINT.out (k := 1) (by simp)
          obtain ⟨rfl, rfl⟩ : gb = gb' ∧ go_ = go' := by simpa using hgg
          simp only [List.getElem_cons_zero, List.getElem_cons_succ, Nat.add_zero] at z0 z1
          have HBT := Lib.hid (fun W => within_b n 1 300 W)
          have HBV := Lib.hid (btw_iff n 1 300)
          have hce := HINT.out.le
          simp only [List.length_cons, List.length_nil, Nat.zero_add, Nat.reduceAdd] at hce ⊢
          generalize btw n 1 300 = bt at *
          clear hq hs hgg
          go_wp2_with fail
          refine (HBT.out _).mono ?_
          rintro e w3 ⟨rfl, hb3⟩
          have HB3 := Lib.hid (Below_on HB2.out hb3 HB2.out.size)
          clear a0 a1 a2 a3 a4 f0 f1 f2 f3 f4
          obtain ⟨a0, a1, a2, a3, a4, f0, f1, f2, f3, f4⟩ := obj5 (HOB.out w3 HB3.out)
          have y0 := (hb3.cell (p := ⟨gb, go_, none⟩) (World.block_lt_of_cell? _ _ z0)).trans z0
          have y1 := (hb3.cell (p := ⟨gb, go_ + 1, none⟩) (World.block_lt_of_cell? _ _ z1)).trans z1
          clear hb3 HBT z0 z1 HPZ HOBW
          cases bt with
          | false =>
            have hnn : ¬ (1 ≤ n ∧ n ≤ 300) := fun h => by have := HBV.out.2 h; cases this
            have h0 : hdOf x = none := HH.out.trans (if_neg hnn)
            have HPZ : Hid (HdPost w (hdOf x) (.returned (.tuple #[zeroA, .bool false])) (set5 w3 V (.int .i64 0) (.int .i64 0) (.slice none 0 0) (.slice none 0 0) (.slice none 0 0))) := ⟨below_set5 (HEND.out _ HB3.out) (by rw [HV.out]; exact Nat.le_refl _) _ _ _ _ _, by rw [h0]⟩
            have HOBW := Lib.hid (set5_heap (HOB.out w3 HB3.out) (.int .i64 0) (.int .i64 0) (.slice none 0 0) (.slice none 0 0) (.slice none 0 0))
            clear hnn h0
            go_wp2_with fail
            exact bodyPost_ret (retAu Tryd.results47 _ _ V rfl rfl HOBW.out) rfl HPZ.out
          | true =>
            have hn := HBV.out.1 rfl
            obtain ⟨N, rfl⟩ := Int.eq_ofNat_of_zero_le (show 0 ≤ n by omega)
            have HMK := run_makeBools (N : Int) N rfl (by omega)
            have HHS : Hid (hdOf x = some ⟨(N : Int), m, [], List.replicate N false, []⟩) := by have h := HH.out.trans (if_pos hn); rw [Int.toNat_natCast] at h; exact h
            clear HH HBV HINT HQ HS
            have hVw : V < w3.heap.size := World.block_lt_of_cell? _ _ a0
            have hgw : gb < w3.heap.size := World.block_lt_of_cell? _ _ y0
            obtain ⟨w5, hw5⟩ : ∃ w5, w5 = set5 w3 V (.int .i64 (N : Int)) (.int .i64 m) (.slice none 0 0) (.slice (some ⟨w3.heap.size, 0, none⟩) N N) (.slice none 0 0) := ⟨_, rfl⟩
            have hs5 : w5.heap.size = w3.heap.size := by rw [hw5]; simp [set5, World.setCell]
            have hB5 : Below w.heap.size w w5 := by rw [hw5]; exact below_set5 (HEND.out _ HB3.out) (by rw [HV.out]; exact Nat.le_refl _) _ _ _ _ _
            have hO5 : w5.heap[V]? = some (.cells #[.int .i64 (N : Int), .int .i64 m, .slice none 0 0, .slice (some ⟨w3.heap.size, 0, none⟩) N N, .slice none 0 0] 26 (0, 0)) := by rw [hw5]; exact set5_heap (HOB.out w3 HB3.out) (.int .i64 (N : Int)) (.int .i64 m) (.slice none 0 0) (.slice (some ⟨w3.heap.size, 0, none⟩) N N) (.slice none 0 0)
            have hal : Below w5.heap.size w5 (w5.alloc (Obj.cells (madeCells #[Value.bool false] N) 4)).drew := ((Below.refl _ _).alloc (Nat.le_refl _) _).drew
            have HOB5 := Lib.hid ((hal.block V (by omega)).trans hO5)
            have hG5 := BRow.new w5 N
            rw [hs5] at hG5
            have HPE : Hid (HdPost w (hdOf x) (.returned (.tuple #[.agg #[.int .i64 (N : Int), .int .i64 m, .slice none 0 0, .slice (some ⟨w3.heap.size, 0, none⟩) N N, .slice none 0 0], .bool true])) (w5.alloc (Obj.cells (madeCells #[Value.bool false] N) 4)).drew) := by
              refine ⟨Below_on hB5 hal (by rw [hs5]; exact Nat.le_trans HB0.out.size HB3.out.size), ?_⟩
              rw [HHS.out]
              exact ⟨w3.heap.size, by simp, Nat.le_trans HB0.out.size (HB3.out.size), hG5, rfl, rfl, by simp, hn.2⟩
            have HW5 := Lib.hid hw5
            clear hs5 hB5 hO5 hal hG5 hw5
            go_wp2_with fail
            go_region
            all_goals
              go_wp2_with fail
              change bodyPost _ _ _ _ _ ((set5 w3 V (.int .i64 (N : Int)) (.int .i64 m) (.slice none 0 0) (.slice (some ⟨w3.heap.size, 0, none⟩) N N) (.slice none 0 0)).alloc (Obj.cells (madeCells #[Value.bool false] N) 4)).drew
              rw [← HW5.out]
              exact bodyPost_ret (retAu Tryd.results47 _ _ V rfl rfl HOB5.out) rfl HPE.out
      · have e1 : ((sB p).toList == [115, 116, 97, 116, 101, 115]) = true := by rw [hp, sB_toList]; rfl
        have e2 : ((sB r).toList == [108, 101, 116, 116, 101, 114, 115]) = false := by rw [sB_toList]; exact beq_eq_false_iff_ne.2 hr
        have HN : Hid (hdOf x = none) := by show _ = _; rw [HH.out, if_neg (fun h => hr h.2)]
        clear hp hr
        have HOBW := Lib.hid (set5_heap (HOB.out w1 HB1.out) (.int .i64 0) (.int .i64 0) (.slice none 0 0) (.slice none 0 0) (.slice none 0 0))
        have HPZ : Hid (HdPost w (hdOf x) (.returned (.tuple #[zeroA, .bool false])) (set5 w1 V (.int .i64 0) (.int .i64 0) (.slice none 0 0) (.slice none 0 0) (.slice none 0 0))) := ⟨below_set5 (HEND.out _ HB1.out) (by rw [HV.out]; exact Nat.le_refl _) _ _ _ _ _, by rw [HN.out]⟩
        go_wp2_with fail
        exact bodyPost_ret (retAu Tryd.results47 _ _ V rfl rfl HOBW.out) rfl HPZ.out
    · have e1 : ((sB p).toList == [115, 116, 97, 116, 101, 115]) = false := by rw [sB_toList]; exact beq_eq_false_iff_ne.2 hp
      have HN : Hid (hdOf x = none) := by show _ = _; rw [HH.out, if_neg (fun h => hp h.1)]
      clear hp
      have HOBW := Lib.hid (set5_heap (HOB.out w1 HB1.out) (.int .i64 0) (.int .i64 0) (.slice none 0 0) (.slice none 0 0) (.slice none 0 0))
      have HPZ : Hid (HdPost w (hdOf x) (.returned (.tuple #[zeroA, .bool false])) (set5 w1 V (.int .i64 0) (.int .i64 0) (.slice none 0 0) (.slice none 0 0) (.slice none 0 0))) := ⟨below_set5 (HEND.out _ HB1.out) (by rw [HV.out]; exact Nat.le_refl _) _ _ _ _ _, by rw [HN.out]⟩
      go_wp2_with fail
      exact bodyPost_ret (retAu Tryd.results47 _ _ V rfl rfl HOBW.out) rfl HPZ.out
  · have e0 : ((l.length : Int) != 4) = true := by simp; omega
    obtain ⟨a0, a1, a2, a3, a4, f0, f1, f2, f3, f4⟩ := obj5 (HOB.out w1 HB1.out)
    have HN := Lib.hid (hd_len HSL.out h4)
    have HOBW := Lib.hid (set5_heap (HOB.out w1 HB1.out) (.int .i64 0) (.int .i64 0) (.slice none 0 0) (.slice none 0 0) (.slice none 0 0))
    have HPZ : Hid (HdPost w (hdOf x) (.returned (.tuple #[zeroA, .bool false])) (set5 w1 V (.int .i64 0) (.int .i64 0) (.slice none 0 0) (.slice none 0 0) (.slice none 0 0))) := ⟨below_set5 (HEND.out _ HB1.out) (by rw [HV.out]; exact Nat.le_refl _) _ _ _ _ _, by rw [HN.out]⟩
    go_wp2_with fail
    exact bodyPost_ret (retAu Tryd.results47 _ _ V rfl rfl HOBW.out) rfl HPZ.out
end Go.Proofs.YtoglgeaiiipchabDoor
