/- Reading of an automaton's text: good, head; the automaton that is read. -/
import Derived.Test.YtoglgeaiiipchabDoorWNu
import Derived.Test.YtoglgeaiiipchabDoorWAC
import Derived.Test.YtoglgeaiiipchabDoorMaA
namespace Go.Proofs.YtoglgeaiiipchabDoor
open Go Go.RowKit Go.Sort

def GdPost (w : World) (g : Nat) (o : Option (List Bool)) (e : Ending) (w' : World) : Prop := ∃ b : Bool, e = .returned (.bool b) ∧ w.grownBy w' (some g) ∧ match o with
  | some gs => b = true ∧ BRow w' g gs
  | none => b = false
theorem goodsOf_take {st : Int} {gs gs' : List Bool} : ∀ {l : List Int} {k : Nat} {last : Int} {n : Int}, goodsOf st gs last (l.take k) = some gs' → (h : k < l.length) → l[k] = n →
    (if (if k = 0 then last else l.getD (k - 1) 0) < n ∧ n < st then goodsOf st gs last (l.take (k + 1)) = some (gs'.set n.toNat true) else goodsOf st gs last l = none)
  | [], k, last, n, _, h, _ => absurd h (by simp)
  | x :: l, 0, last, n, h1, h, hn => by
    obtain rfl : x = n := hn
    obtain rfl := Option.some.inj (show some gs = some gs' from h1)
    rw [if_pos rfl]
    split
    · rename_i hc
      show (if last < x ∧ x < st then goodsOf st (gs.set x.toNat true) x [] else none) = _
      rw [if_pos hc]; rfl
    · rename_i hc
      show (if last < x ∧ x < st then _ else none) = _
      rw [if_neg hc]
  | x :: l, k + 1, last, n, h1, h, hn => by
    change (if last < x ∧ x < st then goodsOf st (gs.set x.toNat true) x (l.take k) else none) = some gs' at h1
    split at h1
    · rename_i hc
      have ih := goodsOf_take (l := l) (k := k) (last := x) (n := n) h1 (by simpa using h) (by simpa using hn)
      have e : (if k + 1 = 0 then last else (x :: l).getD (k + 1 - 1) 0) = if k = 0 then x else l.getD (k - 1) 0 := by
        rw [if_neg (by omega)]
        cases k with
        | zero => rfl
        | succ k => rw [if_neg (by omega)]; simp
      rw [e]
      by_cases hc2 : (if k = 0 then x else l.getD (k - 1) 0) < n ∧ n < st
      · rw [if_pos hc2] at ih ⊢
        show (if last < x ∧ x < st then goodsOf st (gs.set x.toNat true) x (l.take (k + 1)) else none) = _
        rw [if_pos hc]; exact ih
      · rw [if_neg hc2] at ih ⊢
        show (if last < x ∧ x < st then goodsOf st (gs.set x.toNat true) x l else none) = _
        rw [if_pos hc]; exact ih
    · cases h1
theorem goodsOf_len {st : Int} : ∀ {l : List Int} {gs gs' : List Bool} {last : Int}, goodsOf st gs last l = some gs' → gs'.length = gs.length
  | [], gs, gs', last, h => by obtain rfl := Option.some.inj h; rfl
  | n :: r, gs, gs', last, h => by
    unfold goodsOf at h
    split at h
    · rw [goodsOf_len h]; simp
    · cases h
set_option maxRecDepth 100000 in
set_option maxHeartbeats 2000000 in
theorem good_ (st le : Int) (v2 v4 : Value) (g n : Nat) (gs : List Bool) (B : Option Addr) (cl : Nat) (l : List Int) (w : World) (hg : BRow w g gs) (hgl : gs.length = n) (hst : (n : Int) = st) (hl : Ints w 0 B cl l) (hn : ∀ x ∈ l, 0 ≤ x) (hnn : n ≤ 300) :
    Calls Tryd.prog 49 #[.agg #[.int .i64 st, .int .i64 le, v2, .slice (some ⟨g, 0, none⟩) n n, v4], .slice B l.length cl] w (GdPost w g (goodsOf st gs (-1) l)) := by
  have hb0 : Below w.heap.size w (w.alloc (Obj.cells #[.int .i64 st, .int .i64 le, v2, .slice (some ⟨g, 0, none⟩) n n, v4] 26)) := (Below.refl _ _).alloc (Nat.le_refl _) _
  have hlt := hg.lt
  have HG0 := Lib.hid (hg.below hb0 hlt)
  have HL0 := Lib.hid (hl.below hb0)
  have HGR := Lib.hid (grown_of_below (some g) hb0)
  have hle := hl.le
  have hcp := hl.cap
  have HN := Lib.hid hn
  clear hg hl hn hb0
  go_enter Tryd.func49, Tryd.ntmps49
  go_upto_region 1 with fail
  obtain ⟨V, hV⟩ : ∃ V, V = w.heap.size := ⟨_, rfl⟩
  have c0 : (w.alloc (Obj.cells #[.int .i64 st, .int .i64 le, v2, .slice (some ⟨g, 0, none⟩) n n, v4] 26)).cell? ⟨w.heap.size, 0, none⟩ = some (.int .i64 st) := by go_simp
  have c3 : (w.alloc (Obj.cells #[.int .i64 st, .int .i64 le, v2, .slice (some ⟨g, 0, none⟩) n n, v4] 26)).cell? ⟨w.heap.size, 3, none⟩ = some (.slice (some ⟨g, 0, none⟩) n n) := by go_simp
  have hVl : w.heap.size < (w.alloc (Obj.cells #[.int .i64 st, .int .i64 le, v2, .slice (some ⟨g, 0, none⟩) n n, v4] 26)).heap.size := by simp
  generalize w.alloc (Obj.cells #[.int .i64 st, .int .i64 le, v2, .slice (some ⟨g, 0, none⟩) n n, v4] 26) = W0 at *
  rw [← hV] at c0 c3 hlt hVl ⊢
  have HC : Hid (∀ W, W0.grownBy W (some g) → W.cell? ⟨V, 0, none⟩ = some (.int .i64 st) ∧ W.cell? ⟨V, 3, none⟩ = some (.slice (some ⟨g, 0, none⟩) n n)) := fun W h => by
    have e := h.block V hVl (by simp; omega)
    exact ⟨(World.cell?_of_block (w := W0) (a := ⟨V, 0, none⟩) e).trans c0, (World.cell?_of_block (w := W0) (a := ⟨V, 3, none⟩) e).trans c3⟩
  clear hV c0 c3
  go_wp2_with fail
  go_loopw [5, 7, 10] (fun s5 _ i wr => ∃ (k : Nat) (xs : List Bool), k ≤ l.length ∧ i = .int .i64 (k : Int) ∧ s5 = .int .i64 (if k = 0 then -1 else l.getD (k - 1) 0) ∧ Hid (goodsOf st gs (-1) (l.take k) = some xs) ∧ Hid (BRow wr g xs) ∧ Hid (W0.grownBy wr (some g))) (fun _ _ i _ => l.length - (intOf i).toNat)
  case atStart => exact ⟨0, gs, Nat.zero_le _, rfl, rfl, rfl, HG0.out, World.grownBy.refl _ _⟩
  case round =>
    obtain ⟨k, xs, hk, rfl, rfl, HS, HB, HW⟩ := hrel
    obtain ⟨c0, c3⟩ := HC.out _ HW.out
    have hxl : xs.length = n := by rw [goodsOf_len HS.out]; exact hgl
    by_cases hkl : k < l.length
    · have q1 : (k : Int) < (l.length : Int) := by omega
      obtain ⟨b, o, rfl, _, _, y0⟩ := Ints.at_ (Ints.grown_bool HL0.out HG0.out HW.out) hkl
      have HT := Lib.hid (goodsOf_take (n := l[k]) HS.out hkl rfl)
      have hn0 := HN.out _ (List.getElem_mem hkl)
      have HK1 : Hid ((if k + 1 = 0 then -1 else l.getD (k + 1 - 1) 0) = l[k]) := by
        show _ = _
        rw [if_neg (by omega), Nat.add_sub_cancel, List.getD_eq_getElem?_getD, List.getElem?_eq_getElem hkl]; rfl
      obtain ⟨x, hx⟩ : ∃ x, x = l[k] := ⟨_, rfl⟩
      rw [← hx] at y0 HT hn0 HK1
      clear hx
      obtain ⟨x, rfl⟩ := Int.eq_ofNat_of_zero_le hn0
      generalize (if k = 0 then (-1 : Int) else l.getD (k - 1) 0) = last at *
      by_cases h1 : (x : Int) ≤ last
      · have HP : Hid (GdPost w g (goodsOf st gs (-1) l) (.returned (.bool false)) wr) := ⟨false, rfl, grown_grown HGR.out HW.out, by have := HT.out; rw [if_neg (by omega)] at this; rw [this]⟩
        go_wp2_with fail
        go_ret
        exact HP.out
      · by_cases h2 : (x : Int) < st
        · have h2' : ¬ st ≤ (x : Int) := by omega
          have HS2 : Hid (goodsOf st gs (-1) (l.take (k + 1)) = some (xs.set x true)) := by have := HT.out; rw [if_pos ⟨by omega, h2⟩] at this; exact this
          have hxn : x < n := by omega
          have hxn' : (x : Int) < (n : Int) := by omega
          obtain ⟨z1, z2⟩ := HB.out.getD_ (i := x) (by omega) false
          have HB2 := Lib.hid (HB.out.set_ x true)
          have HW2 := Lib.hid (grown_grown HW.out (grown_set wr g x (.bool true)))
          go_wp2_with fail
          go_roundw
          case rel => exact ⟨k + 1, xs.set x true, by omega, by go_num, congrArg (Value.int .i64) HK1.out.symm, HS2.out, HB2.out, HW2.out⟩
          case measure => simp [intOf]; omega
        · have h2' : st ≤ (x : Int) := by omega
          have HP : Hid (GdPost w g (goodsOf st gs (-1) l) (.returned (.bool false)) wr) := ⟨false, rfl, grown_grown HGR.out HW.out, by have := HT.out; rw [if_neg (by omega)] at this; rw [this]⟩
          go_wp2_with fail
          go_ret
          exact HP.out
    · have q1 : ¬ (k : Int) < (l.length : Int) := by omega
      have hkk : l.take k = l := List.take_of_length_le (by omega)
      rw [hkk] at HS
      have HP : Hid (GdPost w g (goodsOf st gs (-1) l) (.returned (.bool true)) wr) := ⟨true, rfl, grown_grown HGR.out HW.out, by rw [HS.out]; exact ⟨rfl, HB.out⟩⟩
      clear hkk
      generalize (if k = 0 then (-1 : Int) else l.getD (k - 1) 0) = last at *
      go_wp2_with fail
      go_ret
      exact HP.out
end Go.Proofs.YtoglgeaiiipchabDoor

namespace Go.Proofs.YtoglgeaiiipchabDoor
open Go Go.RowKit Go.Sort

def HdPost (w : World) (o : Option Au) (e : Ending) (w' : World) : Prop := Below w.heap.size w w' ∧ match o with
  | some a => ∃ g, e = .returned (.tuple #[.agg #[.int .i64 a.st, .int .i64 a.le, .slice none 0 0, .slice (some ⟨g, 0, none⟩) a.gs.length a.gs.length, .slice none 0 0], .bool true]) ∧ w.heap.size ≤ g ∧ BRow w' g a.gs ∧ a.fs = [] ∧ a.ss = [] ∧ (a.gs.length : Int) = a.st ∧ a.st ≤ 300
  | none => e = .returned (.tuple #[zeroA, .bool false])
theorem hd_len {x : List UInt8} {l : List (List UInt8)} (h : splitL 32 x = l) (hl : l.length ≠ 4) : hdOf x = none := by
  unfold hdOf
  rw [h]
  split
  · simp at hl
  · rfl
theorem hd_four {x p q r s : List UInt8} (h : splitL 32 x = [p, q, r, s]) : hdOf x = if p = bStates ∧ r = bLetters then (match und q, und s with
    | some n, some m => if 1 ≤ n ∧ n ≤ 300 then some ⟨n, m, [], List.replicate n.toNat false, []⟩ else none
    | _, _ => none) else none := by
  unfold hdOf
  rw [h]
  rfl
theorem four {α : Type} {l : List α} (h : l.length = 4) : ∃ p q r s, l = [p, q, r, s] := by
  match l, h with
  | [p, q, r, s], _ => exact ⟨p, q, r, s, rfl⟩
theorem nums_two {q s : List UInt8} (hq : ∀ x ∈ q, x ≠ 32) (hs : ∀ x ∈ s, x ≠ 32) : numsOf [] (q ++ 32 :: s) = match und q, und s with
    | some n, some m => some [n, m]
    | _, _ => none := by
  unfold numsOf
  rw [if_pos rfl, splitL_pre _ hq, splitL_none hs, undL_cons, undL_cons]
  cases und q <;> cases und s <;> rfl
set_option maxRecDepth 100000 in
set_option maxHeartbeats 4000000 in
theorem head_ (x : List UInt8) (w : World) (hL : LaidOK w) (hx : x.length ≤ 99999) : Calls Tryd.prog 47 #[.string (sB x)] w (HdPost w (hdOf x)) := by
  have hb0 : Below w.heap.size w (w.alloc (Obj.cells #[.int .i64 0, .int .i64 0, .slice none 0 0, .slice none 0 0, .slice none 0 0] 26)) := (Below.refl _ _).alloc (Nat.le_refl _) _
  have HL0 := Lib.hid (hL.below hb0 (Nat.le_refl _))
  have HB0 := Lib.hid hb0
  clear hL
  go_enter Tryd.func47, Tryd.ntmps47
  go_upto_region 1 with fail
  obtain ⟨V, hV⟩ : ∃ V, V = w.heap.size := ⟨_, rfl⟩
  have hobj : (w.alloc (Obj.cells #[.int .i64 0, .int .i64 0, .slice none 0 0, .slice none 0 0, .slice none 0 0] 26)).heap[w.heap.size]? = some (.cells #[.int .i64 0, .int .i64 0, .slice none 0 0, .slice none 0 0, .slice none 0 0] 26 (0, 0)) := by
    show (w.heap.push _)[w.heap.size]? = _
    simp
  clear hb0
  generalize w.alloc (Obj.cells #[.int .i64 0, .int .i64 0, .slice none 0 0, .slice none 0 0, .slice none 0 0] 26) = W0 at *
  rw [← hV] at hobj ⊢
  have HV := Lib.hid hV
  have hVl : V < W0.heap.size := (Array.getElem?_eq_some_iff.1 hobj).1
  have HOB : Hid (∀ W, Below W0.heap.size W0 W → W.heap[V]? = some (.cells #[.int .i64 0, .int .i64 0, .slice none 0 0, .slice none 0 0, .slice none 0 0] 26 (0, 0))) := fun W h => (h.block V hVl).trans hobj
  clear hV hobj
  have HSP : Hid (Calls Tryd.prog 59 #[.string (sB x), .string ⟨#[32]⟩] W0 _) := SplitS_ x 32 W0 HL0.out (by omega)
  have hsl := splitL_len 32 x
  obtain ⟨l, hl⟩ : ∃ l, l = splitL 32 x := ⟨_, rfl⟩
  have HNO : Hid (∀ z ∈ l, ∀ y ∈ z, y ≠ 32) := by rw [hl]; exact splitL_mem _ x (Nat.le_refl _)
  have HPL : Hid (∀ z ∈ l, z.length ≤ 99999) := fun z hz => by rw [hl] at hz; have := split_piece_len 32 _ x (Nat.le_refl _) z hz; omega
  rw [← hl] at HSP hsl
  have HSL := Lib.hid hl.symm
  clear hl
  go_wp2_with fail
  refine HSP.out.mono ?_
  rintro e w1 ⟨rfl, hrd, hb1⟩
  have HRD := Lib.hid hrd
  have HB1 := Lib.hid hb1
  obtain ⟨g, hg⟩ : ∃ g, g = W0.heap.size := ⟨_, rfl⟩
  rw [← hg] at HRD ⊢
  clear hrd hb1 HSP hg
  have HEND : Hid (∀ W, Below W0.heap.size W0 W → Below w.heap.size w W) := fun W h => Below_on HB0.out h HB0.out.size
  by_cases h4 : l.length = 4
  · obtain ⟨p, q, r, s, rfl⟩ := four h4
    have HH := Lib.hid (hd_four HSL.out)
    have HQ := Lib.hid (HNO.out q (by simp))
    have HS := Lib.hid (HNO.out s (by simp))
    have hql := HPL.out q (by simp)
    have hsl2 := HPL.out s (by simp)
    have HR : Hid (∀ W, Below w1.heap.size w1 W → W.cell? ⟨g, 0, none⟩ = some (.string (sB p)) ∧ W.cell? ⟨g, 1, none⟩ = some (.string (sB q)) ∧ W.cell? ⟨g, 2, none⟩ = some (.string (sB r)) ∧ W.cell? ⟨g, 3, none⟩ = some (.string (sB s))) := fun W h => by
      have hh := HRD.out.below h
      have at_ : ∀ (k : Nat) (hk : k < 4), W.cell? ⟨g, k, none⟩ = some (.string (sB ([p, q, r, s][k]'hk))) := fun k hk => by
        obtain ⟨b, o, hbo, _, y⟩ := hh.at_ (k := k) hk
        obtain ⟨rfl, rfl⟩ : b = g ∧ o = 0 := by simp at hbo; exact ⟨hbo.1.symm, hbo.2.symm⟩
        rwa [Nat.zero_add] at y
      exact ⟨at_ 0 (by decide), at_ 1 (by decide), at_ 2 (by decide), at_ 3 (by decide)⟩
    obtain ⟨y0, y1, y2, y3⟩ := HR.out w1 (Below.refl _ _)
    obtain ⟨a0, a1, a2, a3, a4, f0, f1, f2, f3, f4⟩ := obj5 (HOB.out w1 HB1.out)
    by_cases hp : p = bStates
    · by_cases hr : r = bLetters
      · have e1 : ((sB p).toList == [115, 116, 97, 116, 101, 115]) = true := by rw [hp, sB_toList]; rfl
        have e2 : ((sB r).toList == [108, 101, 116, 116, 101, 114, 115]) = true := by rw [hr, sB_toList]; rfl
        rw [if_pos ⟨hp, hr⟩] at HH
        have HNU : Hid (∀ W, Below w1.heap.size w1 W → Calls Tryd.prog 48 #[.string (sB q ++ ⟨#[32]⟩ ++ sB s), .string ⟨#[]⟩] W (NuPost W (match und q, und s with
    | some n, some m => some [n, m]
    | _, _ => none))) := fun W h => by
          have := numbers_ [] (q ++ 32 :: s) W (HL0.out.below (n := W0.heap.size) (Below_on HB1.out h HB1.out.size) (Nat.le_refl _)) (by rw [List.length_append, List.length_cons]; omega) (by simp) (by simp)
          rw [nums_two HQ.out HS.out] at this
          rw [show (⟨#[32]⟩ : ByteArray) = sB [32] from rfl, sB_app, sB_app, show q ++ [32] ++ s = q ++ 32 :: s by simp]
          exact this
        have z1 : ¬ 9223372036854775807 < (sB q).size + 1 := by rw [sB_size]; omega
        have z2 : ¬ 9223372036854775807 < (sB q).size + 1 + (sB s).size := by rw [sB_size, sB_size]; omega
        clear hp hr
        go_wp2_with fail
        go_region_held3 (fun w' => w'.cell? ⟨g, 1, none⟩ = some (.string (sB q)) ∧ w'.cell? ⟨g, 3, none⟩ = some (.string (sB s)))
          (first | go_keep | exact ⟨y1, y3⟩ | exact ⟨(HR.out _ HBN.out).2.1, (HR.out _ HBN.out).2.2.2⟩)
          (first
            | (go_at_call 48; refine (HNU.out _ (Below.refl _ _).drew).mono ?_; rintro e w2 ⟨A, c, ns, b, rfl, hints', hbn, hmm⟩; have hcpp := hints'.cap; have hlee := hints'.le; have HBN : Hid (Below w1.heap.size w1 w2) := (Below.refl _ w1).drew.trans hbn; clear hbn))
        clear y0 y1 y2 y3 a0 a1 a2 a3 a4 f0 f1 f2 f3 f4 z1 z2 e1 e2
        have HB2 := Lib.hid (Below_on HB1.out HBN.out HB1.out.size)
        obtain ⟨a0, a1, a2, a3, a4, f0, f1, f2, f3, f4⟩ := obj5 (HOB.out w2 HB2.out)
        have hbad : (match und q, und s with | some n, some m => if 1 ≤ n ∧ n ≤ 300 then some (⟨n, m, [], List.replicate n.toNat false, []⟩ : Au) else none | _, _ => none) = none ∧ b = false ∨ ∃ n m, und q = some n ∧ und s = some m ∧ ns = [n, m] ∧ b = true := by
          cases hq : und q with
          | none => rw [hq] at hmm; exact .inl ⟨rfl, hmm⟩
          | some n =>
            cases hs : und s with
            | none => rw [hq, hs] at hmm; exact .inl ⟨rfl, hmm⟩
            | some m => rw [hq, hs] at hmm; exact .inr ⟨n, m, rfl, rfl, hmm.1, hmm.2⟩
        have HINT := Lib.hid hints'
        clear hmm hints'
        have HPZ : Hid (hdOf x = none → HdPost w (hdOf x) (.returned (.tuple #[zeroA, .bool false])) (set5 w2 V (.int .i64 0) (.int .i64 0) (.slice none 0 0) (.slice none 0 0) (.slice none 0 0))) := fun h => ⟨below_set5 (HEND.out _ HB2.out) (by rw [HV.out]; exact Nat.le_refl _) _ _ _ _ _, by rw [h]⟩
        have HOBW := Lib.hid (set5_heap (HOB.out w2 HB2.out) (.int .i64 0) (.int .i64 0) (.slice none 0 0) (.slice none 0 0) (.slice none 0 0))
        rcases hbad with ⟨h0, rfl⟩ | ⟨n, m, hq, hs, rfl, rfl⟩
        · have HP2 := Lib.hid (HPZ.out (HH.out.trans h0))
          clear h0
          go_wp2_with fail
          exact bodyPost_ret (retAu Tryd.results47 _ _ V rfl rfl HOBW.out) rfl HP2.out
        · rw [hq, hs] at HH
          obtain ⟨gb, go_, rfl, _, _, z0⟩ := Ints.at_ HINT.out (k := 0) (by simp)
          obtain ⟨gb', go', hgg, _, _, z1⟩ := Ints.at_ HINT.out (k := 1) (by simp)
          obtain ⟨rfl, rfl⟩ : gb = gb' ∧ go_ = go' := by simpa using hgg
          simp only [List.getElem_cons_zero, List.getElem_cons_succ, Nat.add_zero] at z0 z1
          have HBT := Lib.hid (fun W => within_b n 1 300 W)
          have HBV := Lib.hid (btw_iff n 1 300)
          have hce := HINT.out.le
          simp only [List.length_cons, List.length_nil, Nat.zero_add, Nat.reduceAdd] at hce ⊢
          generalize btw n 1 300 = bt at *
          clear hq hs hgg
          go_wp2_with fail
          refine (HBT.out _).mono ?_
          rintro e w3 ⟨rfl, hb3⟩
          have HB3 := Lib.hid (Below_on HB2.out hb3 HB2.out.size)
          clear a0 a1 a2 a3 a4 f0 f1 f2 f3 f4
          obtain ⟨a0, a1, a2, a3, a4, f0, f1, f2, f3, f4⟩ := obj5 (HOB.out w3 HB3.out)
          have y0 := (hb3.cell (p := ⟨gb, go_, none⟩) (World.block_lt_of_cell? _ _ z0)).trans z0
          have y1 := (hb3.cell (p := ⟨gb, go_ + 1, none⟩) (World.block_lt_of_cell? _ _ z1)).trans z1
          clear hb3 HBT z0 z1 HPZ HOBW
          cases bt with
          | false =>
            have hnn : ¬ (1 ≤ n ∧ n ≤ 300) := fun h => by have := HBV.out.2 h; cases this
            have h0 : hdOf x = none := HH.out.trans (if_neg hnn)
            have HPZ : Hid (HdPost w (hdOf x) (.returned (.tuple #[zeroA, .bool false])) (set5 w3 V (.int .i64 0) (.int .i64 0) (.slice none 0 0) (.slice none 0 0) (.slice none 0 0))) := ⟨below_set5 (HEND.out _ HB3.out) (by rw [HV.out]; exact Nat.le_refl _) _ _ _ _ _, by rw [h0]⟩
            have HOBW := Lib.hid (set5_heap (HOB.out w3 HB3.out) (.int .i64 0) (.int .i64 0) (.slice none 0 0) (.slice none 0 0) (.slice none 0 0))
            clear hnn h0
            go_wp2_with fail
            exact bodyPost_ret (retAu Tryd.results47 _ _ V rfl rfl HOBW.out) rfl HPZ.out
          | true =>
            have hn := HBV.out.1 rfl
            obtain ⟨N, rfl⟩ := Int.eq_ofNat_of_zero_le (show 0 ≤ n by omega)
            have HMK := run_makeBools (N : Int) N rfl (by omega)
            have HHS : Hid (hdOf x = some ⟨(N : Int), m, [], List.replicate N false, []⟩) := by have h := HH.out.trans (if_pos hn); rw [Int.toNat_natCast] at h; exact h
            clear HH HBV HINT HQ HS
            have hVw : V < w3.heap.size := World.block_lt_of_cell? _ _ a0
            have hgw : gb < w3.heap.size := World.block_lt_of_cell? _ _ y0
            obtain ⟨w5, hw5⟩ : ∃ w5, w5 = set5 w3 V (.int .i64 (N : Int)) (.int .i64 m) (.slice none 0 0) (.slice (some ⟨w3.heap.size, 0, none⟩) N N) (.slice none 0 0) := ⟨_, rfl⟩
            have hs5 : w5.heap.size = w3.heap.size := by rw [hw5]; simp [set5, World.setCell]
            have hB5 : Below w.heap.size w w5 := by rw [hw5]; exact below_set5 (HEND.out _ HB3.out) (by rw [HV.out]; exact Nat.le_refl _) _ _ _ _ _
            have hO5 : w5.heap[V]? = some (.cells #[.int .i64 (N : Int), .int .i64 m, .slice none 0 0, .slice (some ⟨w3.heap.size, 0, none⟩) N N, .slice none 0 0] 26 (0, 0)) := by rw [hw5]; exact set5_heap (HOB.out w3 HB3.out) (.int .i64 (N : Int)) (.int .i64 m) (.slice none 0 0) (.slice (some ⟨w3.heap.size, 0, none⟩) N N) (.slice none 0 0)
            have hal : Below w5.heap.size w5 (w5.alloc (Obj.cells (madeCells #[Value.bool false] N) 4)).drew := ((Below.refl _ _).alloc (Nat.le_refl _) _).drew
            have HOB5 := Lib.hid ((hal.block V (by omega)).trans hO5)
            have hG5 := BRow.new w5 N
            rw [hs5] at hG5
            have HPE : Hid (HdPost w (hdOf x) (.returned (.tuple #[.agg #[.int .i64 (N : Int), .int .i64 m, .slice none 0 0, .slice (some ⟨w3.heap.size, 0, none⟩) N N, .slice none 0 0], .bool true])) (w5.alloc (Obj.cells (madeCells #[Value.bool false] N) 4)).drew) := by
              refine ⟨Below_on hB5 hal (by rw [hs5]; exact Nat.le_trans HB0.out.size HB3.out.size), ?_⟩
              rw [HHS.out]
              exact ⟨w3.heap.size, by simp, Nat.le_trans HB0.out.size (HB3.out.size), hG5, rfl, rfl, by simp, hn.2⟩
            have HW5 := Lib.hid hw5
            clear hs5 hB5 hO5 hal hG5 hw5
            go_wp2_with fail
            go_region
            all_goals
              go_wp2_with fail
              change bodyPost _ _ _ _ _ ((set5 w3 V (.int .i64 (N : Int)) (.int .i64 m) (.slice none 0 0) (.slice (some ⟨w3.heap.size, 0, none⟩) N N) (.slice none 0 0)).alloc (Obj.cells (madeCells #[Value.bool false] N) 4)).drew
              rw [← HW5.out]
              exact bodyPost_ret (retAu Tryd.results47 _ _ V rfl rfl HOB5.out) rfl HPE.out
      · have e1 : ((sB p).toList == [115, 116, 97, 116, 101, 115]) = true := by rw [hp, sB_toList]; rfl
        have e2 : ((sB r).toList == [108, 101, 116, 116, 101, 114, 115]) = false := by rw [sB_toList]; exact beq_eq_false_iff_ne.2 hr
        have HN : Hid (hdOf x = none) := by show _ = _; rw [HH.out, if_neg (fun h => hr h.2)]
        clear hp hr
        have HOBW := Lib.hid (set5_heap (HOB.out w1 HB1.out) (.int .i64 0) (.int .i64 0) (.slice none 0 0) (.slice none 0 0) (.slice none 0 0))
        have HPZ : Hid (HdPost w (hdOf x) (.returned (.tuple #[zeroA, .bool false])) (set5 w1 V (.int .i64 0) (.int .i64 0) (.slice none 0 0) (.slice none 0 0) (.slice none 0 0))) := ⟨below_set5 (HEND.out _ HB1.out) (by rw [HV.out]; exact Nat.le_refl _) _ _ _ _ _, by rw [HN.out]⟩
        go_wp2_with fail
        exact bodyPost_ret (retAu Tryd.results47 _ _ V rfl rfl HOBW.out) rfl HPZ.out
    · have e1 : ((sB p).toList == [115, 116, 97, 116, 101, 115]) = false := by rw [sB_toList]; exact beq_eq_false_iff_ne.2 hp
      have HN : Hid (hdOf x = none) := by show _ = _; rw [HH.out, if_neg (fun h => hp h.1)]
      clear hp
      have HOBW := Lib.hid (set5_heap (HOB.out w1 HB1.out) (.int .i64 0) (.int .i64 0) (.slice none 0 0) (.slice none 0 0) (.slice none 0 0))
      have HPZ : Hid (HdPost w (hdOf x) (.returned (.tuple #[zeroA, .bool false])) (set5 w1 V (.int .i64 0) (.int .i64 0) (.slice none 0 0) (.slice none 0 0) (.slice none 0 0))) := ⟨below_set5 (HEND.out _ HB1.out) (by rw [HV.out]; exact Nat.le_refl _) _ _ _ _ _, by rw [HN.out]⟩
      go_wp2_with fail
      exact bodyPost_ret (retAu Tryd.results47 _ _ V rfl rfl HOBW.out) rfl HPZ.out
  · have e0 : ((l.length : Int) != 4) = true := by simp; omega
    obtain ⟨a0, a1, a2, a3, a4, f0, f1, f2, f3, f4⟩ := obj5 (HOB.out w1 HB1.out)
    have HN := Lib.hid (hd_len HSL.out h4)
    have HOBW := Lib.hid (set5_heap (HOB.out w1 HB1.out) (.int .i64 0) (.int .i64 0) (.slice none 0 0) (.slice none 0 0) (.slice none 0 0))
    have HPZ : Hid (HdPost w (hdOf x) (.returned (.tuple #[zeroA, .bool false])) (set5 w1 V (.int .i64 0) (.int .i64 0) (.slice none 0 0) (.slice none 0 0) (.slice none 0 0))) := ⟨below_set5 (HEND.out _ HB1.out) (by rw [HV.out]; exact Nat.le_refl _) _ _ _ _ _, by rw [HN.out]⟩
    go_wp2_with fail
    exact bodyPost_ret (retAu Tryd.results47 _ _ V rfl rfl HOBW.out) rfl HPZ.out
end Go.Proofs.YtoglgeaiiipchabDoor

namespace Go.Proofs.YtoglgeaiiipchabDoor
open Go Go.RowKit Go.Sort

/-- an automaton in the making, in block G: what it holds, and the call's own rows -/
structure PaM (W0 : World) (G : Nat) (a : Au) (W : World) : Prop where
  below : Below G W0 W
  obj : ∃ A ca gv sv base, W.heap[G]? = some (.cells #[.int .i64 a.st, .int .i64 a.le, .slice A a.fs.length ca, gv, .slice sv.1 a.ss.length sv.2] 26 (0, 0)) ∧ G < base ∧ base ≤ W.heap.size ∧ Ints W 0 A ca a.fs ∧ (a.fs ≠ [] → ∃ b off, A = some ⟨b, off, none⟩ ∧ G < b ∧ b < base) ∧
    ((gv = .slice none 0 0 ∧ a.gs = []) ∨ ∃ g, gv = .slice (some ⟨g, 0, none⟩) a.gs.length a.gs.length ∧ G < g ∧ g < base ∧ BRow W g a.gs) ∧ W.ownsRow base 54 3 (.slice sv.1 a.ss.length sv.2) a.ss.length (a.ss.flatMap Stp.cells) ∧ (a.ss = [] → sv = (none, 0))
  gl : a.gs.length ≤ 300
  sl : a.ss.length ≤ 200000
theorem PaM.lt {W0 : World} {G : Nat} {a : Au} {W : World} (h : PaM W0 G a W) : G < W.heap.size := by
  obtain ⟨A, ca, gv, sv, base, h1, _⟩ := h.obj
  exact (Array.getElem?_eq_some_iff.1 h1).1
theorem PaM.on {W0 : World} {G : Nat} {a : Au} {W W' : World} (h : PaM W0 G a W) (hb : Below W.heap.size W W') : PaM W0 G a W' := by
  have hlt := h.lt
  obtain ⟨A, ca, gv, sv, base, h1, h2, h3, h4, h5, h6, h7, h8⟩ := h.obj
  refine ⟨Below_on h.below hb (Nat.le_of_lt hlt), ⟨A, ca, gv, sv, base, (hb.block G hlt).trans h1, h2, Nat.le_trans h3 hb.size, h4.below hb, h5, ?_, own_below h7 hb, h8⟩, h.gl, h.sl⟩
  rcases h6 with h6 | ⟨g, e, i1, i2, i3⟩
  · exact .inl h6
  · exact .inr ⟨g, e, i1, i2, i3.below hb i3.lt⟩
theorem PaM.new (W0 : World) : PaM W0 W0.heap.size nulA (W0.alloc (Obj.cells #[.int .i64 0, .int .i64 0, .slice none 0 0, .slice none 0 0, .slice none 0 0] 26)) := by
  refine ⟨(Below.refl _ _).alloc (Nat.le_refl _) _, ⟨none, 0, .slice none 0 0, (none, 0), W0.heap.size + 1, ?_, by omega, by simp, ints_none _ _, fun h => absurd rfl h, .inl ⟨rfl, rfl⟩, World.ownsRow_nil _ _ _ _, fun _ => rfl⟩, by simp [nulA], by simp [nulA]⟩
  show (W0.heap.push _)[W0.heap.size]? = _
  simp [nulA]
/-- a whole one laid down, out of what a call made -/
theorem PaM.head {W0 : World} {G : Nat} {a a' : Au} {W W1 : World} (h : PaM W0 G a W) (hb : Below W.heap.size W W1) {g : Nat} (hg : W.heap.size ≤ g) (hr : BRow W1 g a'.gs) (hf : a'.fs = []) (hs : a'.ss = []) (hgl : a'.gs.length ≤ 300) :
    PaM W0 G a' (set5 W1 G (.int .i64 a'.st) (.int .i64 a'.le) (.slice none 0 0) (.slice (some ⟨g, 0, none⟩) a'.gs.length a'.gs.length) (.slice none 0 0)) := by
  have h1 := h.on hb
  have hlt := h.lt
  obtain ⟨A, ca, gv, sv, base, o1, _⟩ := h1.obj
  refine ⟨below_set5 h1.below (Nat.le_refl _) _ _ _ _ _, ⟨none, 0, _, (none, 0), W1.heap.size, ?_, h1.lt, by simp [set5, World.setCell], by rw [hf]; exact ints_none _ _, fun e => absurd hf e, .inr ⟨g, rfl, by omega, hr.lt, ?_⟩, by rw [hs]; exact World.ownsRow_nil _ _ _ _, fun _ => rfl⟩, hgl, by rw [hs]; simp⟩
  · rw [hf, hs]
    exact set5_heap o1 _ _ _ _ _
  · unfold set5
    exact ((((hr.set_far (by show g ≠ G; omega) _).set_far (by show g ≠ G; omega) _).set_far (by show g ≠ G; omega) _).set_far (by show g ≠ G; omega) _).set_far (by show g ≠ G; omega) _
theorem Ints.set_far {W : World} {lo : Nat} {A : Option Addr} {c : Nat} {xs : List Int} (h : Ints W lo A c xs) {G i : Nat} (hG : xs ≠ [] → ∃ b off, A = some ⟨b, off, none⟩ ∧ b ≠ G) (u : Value) : Ints (W.setCell ⟨G, i, none⟩ u) lo A c xs := by
  refine ⟨h.le, h.cap, h.max, fun hne => ?_⟩
  have hx : xs ≠ [] := by rintro rfl; exact hne rfl
  obtain ⟨b', off', hA', hbG⟩ := hG hx
  obtain ⟨b, off, hA, hlo, hlt, hc⟩ := h.rd hne
  obtain ⟨rfl, rfl⟩ : b' = b ∧ off' = off := by rw [hA] at hA'; simp at hA'; exact ⟨hA'.1.symm, hA'.2.symm⟩
  refine ⟨b', off', hA, hlo, by simpa [World.setCell] using hlt, fun j u' hu => ?_⟩
  exact (World.cell?_setCell_other _ ⟨G, i, none⟩ ⟨b', off' + j, none⟩ _ (fun e => hbG (by have := congrArg Addr.block e; simpa using this.symm))).trans (hc j u' hu)
/-- the first states laid down -/
theorem PaM.first {W0 : World} {G : Nat} {a : Au} {W W1 : World} (h : PaM W0 G a W) (hs : a.ss = []) (hb : Below W.heap.size W W1) {A : Option Addr} {c : Nat} {l : List Int} (hl : Ints W1 W.heap.size A c l) :
    PaM W0 G { a with fs := l } (W1.setCell ⟨G, 2, none⟩ (.slice A l.length c)) := by
  have h1 := h.on hb
  have hlt := h.lt
  obtain ⟨A0, ca, gv, sv, base, o1, o2, o3, o4, o5, o6, o7, o8⟩ := h1.obj
  have hsv := o8 hs
  subst hsv
  refine ⟨h1.below.setCell (p := ⟨G, 2, none⟩) (Nat.le_refl _) _, ⟨A, c, gv, (none, 0), W1.heap.size, heap_set2 o1 _, h1.lt, by simp [World.setCell], ?_, ?_, ?_, ?_, fun _ => rfl⟩, h.gl, h.sl⟩
  · refine Ints.set_far (hl.low (Nat.zero_le _)) (fun hne => ?_) _
    obtain ⟨b, off, hA, hlo, _, _⟩ := hl.rd (by cases l with | nil => exact absurd rfl hne | cons x r => simp)
    exact ⟨b, off, hA, by omega⟩
  · intro hne
    obtain ⟨b, off, hA, hlo, hlt2, _⟩ := hl.rd (by cases l with | nil => exact absurd rfl hne | cons x r => simp)
    exact ⟨b, off, hA, by omega, hlt2⟩
  · rcases o6 with o6 | ⟨g, e, i1, i2, i3⟩
    · exact .inl o6
    · exact .inr ⟨g, e, i1, i3.lt, i3.set_far (by show g ≠ G; omega) _⟩
  · show World.ownsRow _ _ _ _ _ _ _
    simp only [hs]
    exact World.ownsRow_nil _ _ _ _
/-- the good states marked -/
theorem PaM.good {W0 : World} {G : Nat} {a : Au} {W W1 : World} {g : Nat} {gs : List Bool} (h : PaM W0 G a W) (hG : G < g) (hgr : W.grownBy W1 (some g)) (hr : BRow W1 g gs) (hl : gs.length = a.gs.length)
    (hgv : ∃ A ca sv, W.heap[G]? = some (.cells #[.int .i64 a.st, .int .i64 a.le, .slice A a.fs.length ca, .slice (some ⟨g, 0, none⟩) a.gs.length a.gs.length, sv] 26 (0, 0))) (hrow : BRow W g a.gs) : PaM W0 G { a with gs := gs } W1 := by
  have hlt := h.lt
  obtain ⟨A0, ca, gv, sv, base, o1, o2, o3, o4, o5, o6, o7, o8⟩ := h.obj
  obtain ⟨A', ca', sv', e1⟩ := hgv
  rw [o1] at e1
  simp at e1
  obtain ⟨⟨_, _⟩, hgv, _⟩ := e1
  subst hgv
  have hgb : g < base := by
    rcases o6 with ⟨e, _⟩ | ⟨g', e, _, i2, _⟩
    · cases e
    · simp at e; omega
  refine ⟨?_, ⟨A0, ca, _, sv, base, ?_, o2, Nat.le_trans o3 hgr.size, o4.grown_bool hrow hgr, o5, .inr ⟨g, rfl, hG, hgb, hr⟩, ?_, o8⟩, by simp [hl]; exact h.gl, h.sl⟩
  · exact h.below.grown hgr (Nat.le_of_lt hlt) (fun k hk => by simp at hk; omega)
  · simp only [hl]
    exact (hgr.block G hlt (by simp; omega)).trans o1
  · exact World.ownsRow.kept o7 hgr (.inr (fun e => by have := (o7.lt g e).1; omega))
/-- one step more: the append's run, and what stands behind the store -/
theorem PaM.step {W0 : World} {G : Nat} {a : Au} {W : World} (h : PaM W0 G a W) (s : Stp) (hsl : a.ss.length < 200000) : ∃ A ca gv T c, W.heap[G]? = some (.cells #[.int .i64 a.st, .int .i64 a.le, .slice A a.fs.length ca, gv, .slice T a.ss.length c] 26 (0, 0)) ∧ a.ss.length ≤ c ∧ c ≤ 9223372036854775807 ∧
    ∃ T3 c3 w3, (Builtin.append_ #[24, 24] 24 #[.slice T a.ss.length c, .slice (some ⟨W.heap.size, 0, none⟩) 1 1]).run Tryd.prog (W.alloc (Obj.cells #[.int .i64 s.f, .int .i64 s.l, .int .i64 s.t] 54)) = .ok (.slice T3 (a.ss.length + 1) c3) w3 ∧
      w3.cell? ⟨G, 4, none⟩ = some (.slice T a.ss.length c) ∧ w3.frozen? ⟨G, 4, none⟩ = false ∧ (W.alloc (Obj.cells #[.int .i64 s.f, .int .i64 s.l, .int .i64 s.t] 54)).grownBy w3 (Value.slice T a.ss.length c).ownBlock ∧ (∀ k, (Value.slice T a.ss.length c).ownBlock = some k → k < W.heap.size) ∧ PaM W0 G { a with ss := a.ss ++ [s] } (w3.setCell ⟨G, 4, none⟩ (.slice T3 (a.ss.length + 1) c3)) := by
  obtain ⟨i0, hi0, hz0, hz1, hz2⟩ := info_parts infoSt
  have hlt := h.lt
  obtain ⟨A, ca, gv, sv, base, o1, o2, o3, o4, o5, o6, o7, o8⟩ := h.obj
  have hb : Below W.heap.size W (W.alloc (Obj.cells #[.int .i64 s.f, .int .i64 s.l, .int .i64 s.t] 54)) := (Below.refl _ _).alloc (Nat.le_refl _) _
  obtain ⟨A1, c1, e1, hc1, hc2, _⟩ := own_form o7
  obtain ⟨rfl, rfl⟩ : sv.1 = A1 ∧ sv.2 = c1 := by simpa using e1
  obtain ⟨v3, w3, hr, hown, hg, _⟩ := run_app (P := Tryd.prog) (W.alloc (Obj.cells #[.int .i64 s.f, .int .i64 s.l, .int .i64 s.t] 54)) base 24 24 54 i0 _ 3 24 Tryd.underlying24 hi0 hz0 hz1 hz2 rfl (by decide) _ a.ss.length _ (own_below o7 hb) (some ⟨W.heap.size, 0, none⟩) 1 1 [.int .i64 s.f, .int .i64 s.l, .int .i64 s.t] rfl
    (Rd.new W #[.int .i64 s.f, .int .i64 s.l, .int .i64 s.t] 54) (by simp [Value.oneCell']) (by simp only [maxLen]; omega) (by omega) (by simp; omega)
  obtain ⟨T3, c3, rfl, _, _, _⟩ := own_form hown
  have o1' := (hb.block G hlt).trans o1
  have hne : some G ≠ (Value.slice sv.1 a.ss.length sv.2).ownBlock := own_ne o7 o2
  have hG3 : w3.heap[G]? = _ := (hg.block G (by simp; omega) hne).trans o1'
  obtain ⟨_, _, _, _, q4, _, _, _, _, f4⟩ := obj5 hG3
  have hl2 : (a.ss ++ [s]).length = a.ss.length + 1 := by simp
  have kg : ∀ g, g < base → (w3.setCell ⟨G, 4, none⟩ (.slice T3 (a.ss.length + 1) c3)).heap[g]? = W.heap[g]? ∨ g = G := fun g hgb => by
    by_cases hgG : g = G
    · exact .inr hgG
    · left
      rw [Below.heap_setCell _ ⟨G, 4, none⟩ _ _ hgG, hg.block g (by simp; omega) (fun e => by have := (o7.lt g e.symm).1; omega)]
      exact hb.block g (by omega)
  refine ⟨A, ca, gv, sv.1, sv.2, o1, hc1, hc2, T3, c3, w3, hr, q4, f4, hg, fun k hk => (o7.lt k hk).2, ⟨?_, ⟨A, ca, gv, (T3, c3), base, ?_, o2, ?_, ?_, o5, ?_, ?_, fun e => by simp at e⟩, h.gl, by rw [hl2]; omega⟩⟩
  · exact (((h.below.trans (hb.mono (Nat.le_of_lt hlt))).grown hg (by simp; omega) (fun k hk => by have := (o7.lt k hk).1; omega))).setCell (p := ⟨G, 4, none⟩) (Nat.le_refl _) _
  · simp only [hl2]
    exact heap_set4 hG3 _
  · have := hg.size
    simp [World.setCell] at this ⊢
    omega
  · refine ⟨o4.le, o4.cap, o4.max, fun hne2 => ?_⟩
    have hx : a.fs ≠ [] := fun e => hne2 (by rw [e]; rfl)
    obtain ⟨b', off', hA', hb1, hb2⟩ := o5 hx
    obtain ⟨b, off, hA, hlo, hlt2, hc⟩ := o4.rd hne2
    obtain ⟨rfl, rfl⟩ : b' = b ∧ off' = off := by rw [hA] at hA'; simp at hA'; exact ⟨hA'.1.symm, hA'.2.symm⟩
    refine ⟨b', off', hA, hlo, by have := hg.size; simp [World.setCell] at this ⊢; omega, fun j u hu => ?_⟩
    rcases kg b' hb2 with hk | hk
    · exact (World.cell?_of_block (w := W) (a := ⟨b', off' + j, none⟩) hk).trans (hc j u hu)
    · omega
  · rcases o6 with o6 | ⟨g, e, i1, i2, i3⟩
    · exact .inl o6
    · refine .inr ⟨g, e, i1, i2, ?_⟩
      rcases kg g i2 with hk | hk
      · exact hk.trans i3
      · omega
  · have hown' : w3.ownsRow base 54 3 (.slice T3 (a.ss ++ [s]).length c3) (a.ss ++ [s]).length ((a.ss ++ [s]).flatMap Stp.cells) := by
      rw [hl2, show (a.ss ++ [s]).flatMap Stp.cells = a.ss.flatMap Stp.cells ++ [.int .i64 s.f, .int .i64 s.l, .int .i64 s.t] by simp [Stp.cells]]
      exact hown
    have := ownsRow_setCell_below hown' (a := ⟨G, 4, none⟩) o2 (.slice T3 (a.ss.length + 1) c3)
    show World.ownsRow _ _ _ _ _ _ _
    rw [hl2] at this ⊢
    exact this
end Go.Proofs.YtoglgeaiiipchabDoor
