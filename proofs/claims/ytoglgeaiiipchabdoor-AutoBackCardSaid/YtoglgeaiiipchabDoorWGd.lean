/- Walks: auto.good, auto.head. -/
import Derived.Test.YtoglgeaiiipchabDoorWNu
import Derived.Test.YtoglgeaiiipchabDoorWAC
import Derived.Test.YtoglgeaiiipchabDoorBR
import Derived.Deep.RegionLaw
namespace Go.Proofs.YtoglgeaiiipchabDoor
open Go Go.RowKit Go.Sort

theorem grown_set (W : World) (g i : Nat) (v : Value) : W.grownBy (W.setCell ⟨g, i, none⟩ v) (some g) :=
  ⟨rfl, rfl, rfl, by simp [World.setCell], fun k _ hk => Below.heap_setCell _ _ _ _ (fun e => hk (by rw [show k = g from e]))⟩
theorem grown_on {a b c : World} {r : Option Nat} (h : a.grownBy b r) (hb : Below b.heap.size b c) : a.grownBy c r :=
  ⟨hb.os.trans h.os, hb.tape.trans h.tape, hb.output.trans h.output, Nat.le_trans h.size hb.size, fun k hk hr => (hb.block k (Nat.lt_of_lt_of_le hk h.size)).trans (h.block k hk hr)⟩
theorem grown_grown {a b c : World} {r : Option Nat} (h : a.grownBy b r) (h2 : b.grownBy c r) : a.grownBy c r :=
  ⟨h2.os.trans h.os, h2.tape.trans h.tape, h2.output.trans h.output, Nat.le_trans h.size h2.size, fun k hk hr => (h2.block k (Nat.lt_of_lt_of_le hk h.size) hr).trans (h.block k hk hr)⟩
theorem grown_of_below {a b : World} (r : Option Nat) (h : Below a.heap.size a b) : a.grownBy b r := ⟨h.os, h.tape, h.output, h.size, fun k hk _ => h.block k hk⟩
theorem Ints.grown_bool {w w' : World} {lo : Nat} {A : Option Addr} {c g : Nat} {xs : List Int} {gs : List Bool} (h : Ints w lo A c xs) (hb : BRow w g gs) (hg : w.grownBy w' (some g)) : Ints w' lo A c xs := by
  refine ⟨h.le, h.cap, h.max, fun hne => ?_⟩
  obtain ⟨b, off, hA, hlo, hlt, hc⟩ := h.rd hne
  have hbg : b ≠ g := by
    rintro rfl
    cases xs with
    | nil => exact hne rfl
    | cons x r =>
      have := hc 0 (.int .i64 x) rfl
      unfold BRow at hb
      simp only [World.cell?, hb] at this
      simp at this
  exact ⟨b, off, hA, hlo, Nat.lt_of_lt_of_le hlt hg.size, fun j u hu => (World.cell?_of_block (w := w) (a := ⟨b, off + j, none⟩) (hg.block b hlt (fun e => hbg (by simpa using e)))).trans (hc j u hu)⟩
def GdPost (w : World) (g : Nat) (o : Option (List Bool)) (e : Ending) (w' : World) : Prop := ∃ b : Bool, e = .returned (.bool b) ∧ w.grownBy w' (some g) ∧ match o with
  | some gs => b = true ∧ BRow w' g gs
  | none => b = false
theorem goodsOf_take {st : Int} {gs gs' : List Bool} : ∀ {l : List Int} {k : Nat} {last : Int} {n : Int}, goodsOf st gs last (l.take k) = some gs' → (h : k < l.length) → l[k] = n →
    (if (if k = 0 then last else l.getD (k - 1) 0) < n ∧ n < st then goodsOf st gs last (l.take (k + 1)) = some (gs'.set n.toNat true) else goodsOf st gs last l = none)
  | [], k, last, n, _, h, _ => absurd h (by simp)
  | x :: l, 0, last, n, h1, h, hn => by
    obtain rfl : x = n := hn
    obtain rfl := Option.some.inj (show some gs = some gs' from h1)
    rw [if_pos rfl]
    split
    · rename_i hc
      show (if last < x ∧ x < st then goodsOf st (gs.set x.toNat true) x [] else none) = _
      rw [if_pos hc]; rfl
    · rename_i hc
      show (if last < x ∧ x < st then _ else none) = _
      rw [if_neg hc]
  | x :: l, k + 1, last, n, h1, h, hn => by
    change (if last < x ∧ x < st then goodsOf st (gs.set x.toNat true) x (l.take k) else none) = some gs' at h1
    split at h1
    · rename_i hc
      have ih := goodsOf_take (l := l) (k := k) (last := x) (n := n) h1 (by simpa using h) (by simpa using hn)
      have e : (if k + 1 = 0 then last else (x :: l).getD (k + 1 - 1) 0) = if k = 0 then x else l.getD (k - 1) 0 := by
        rw [if_neg (by omega)]
        cases k with
        | zero => rfl
        | succ k => rw [if_neg (by omega)]; simp
      rw [e]
      by_cases hc2 : (if k = 0 then x else l.getD (k - 1) 0) < n ∧ n < st
      · rw [if_pos hc2] at ih ⊢
        show (if last < x ∧ x < st then goodsOf st (gs.set x.toNat true) x (l.take (k + 1)) else none) = _
        rw [if_pos hc]; exact ih
      · rw [if_neg hc2] at ih ⊢
        show (if last < x ∧ x < st then goodsOf st (gs.set x.toNat true) x l else none) = _
        rw [if_pos hc]; exact ih
    · cases h1
theorem goodsOf_len {st : Int} : ∀ {l : List Int} {gs gs' : List Bool} {last : Int}, goodsOf st gs last l = some gs' → gs'.length = gs.length
  | [], gs, gs', last, h => by obtain rfl := Option.some.inj h; rfl
  | n :: r, gs, gs', last, h => by
    unfold goodsOf at h
    split at h
    · rw [goodsOf_len h]; simp
    · cases h
set_option maxRecDepth 100000 in
set_option maxHeartbeats 2000000 in
theorem good_ (st le : Int) (v2 v4 : Value) (g n : Nat) (gs : List Bool) (B : Option Addr) (cl : Nat) (l : List Int) (w : World) (hg : BRow w g gs) (hgl : gs.length = n) (hst : (n : Int) = st) (hl : Ints w 0 B cl l) (hn : ∀ x ∈ l, 0 ≤ x) (hnn : n ≤ 300) :
    Calls Tryd.prog 49 #[.agg #[.int .i64 st, .int .i64 le, v2, .slice (some ⟨g, 0, none⟩) n n, v4], .slice B l.length cl] w (GdPost w g (goodsOf st gs (-1) l)) := by
  have hb0 : Below w.heap.size w (w.alloc (Obj.cells #[.int .i64 st, .int .i64 le, v2, .slice (some ⟨g, 0, none⟩) n n, v4] 26)) := (Below.refl _ _).alloc (Nat.le_refl _) _
  have hlt := hg.lt
  have HG0 := Lib.hid (hg.below hb0 hlt)
  have HL0 := Lib.hid (hl.below hb0)
  have HGR := Lib.hid (grown_of_below (some g) hb0)
  have hle := hl.le
  have hcp := hl.cap
  have HN := Lib.hid hn
  clear hg hl hn hb0
  go_enter Tryd.func49, Tryd.ntmps49
  go_upto_region 1 with fail
  obtain ⟨V, hV⟩ : ∃ V, V = w.heap.size := ⟨_, rfl⟩
  have c0 : (w.alloc (Obj.cells #[.int .i64 st, .int .i64 le, v2, .slice (some ⟨g, 0, none⟩) n n, v4] 26)).cell? ⟨w.heap.size, 0, none⟩ = some (.int .i64 st) := by go_simp
  have c3 : (w.alloc (Obj.cells #[.int .i64 st, .int .i64 le, v2, .slice (some ⟨g, 0, none⟩) n n, v4] 26)).cell? ⟨w.heap.size, 3, none⟩ = some (.slice (some ⟨g, 0, none⟩) n n) := by go_simp
  have hVl : w.heap.size < (w.alloc (Obj.cells #[.int .i64 st, .int .i64 le, v2, .slice (some ⟨g, 0, none⟩) n n, v4] 26)).heap.size := by simp
  generalize w.alloc (Obj.cells #[.int .i64 st, .int .i64 le, v2, .slice (some ⟨g, 0, none⟩) n n, v4] 26) = W0 at *
  rw [← hV] at c0 c3 hlt hVl ⊢
  have HC : Hid (∀ W, W0.grownBy W (some g) → W.cell? ⟨V, 0, none⟩ = some (.int .i64 st) ∧ W.cell? ⟨V, 3, none⟩ = some (.slice (some ⟨g, 0, none⟩) n n)) := fun W h => by
    have e := h.block V hVl (by simp; omega)
    exact ⟨(World.cell?_of_block (w := W0) (a := ⟨V, 0, none⟩) e).trans c0, (World.cell?_of_block (w := W0) (a := ⟨V, 3, none⟩) e).trans c3⟩
  clear hV c0 c3
  go_wp2_with fail
  go_loopw [5, 7, 10] (fun s5 _ i wr => ∃ (k : Nat) (xs : List Bool), k ≤ l.length ∧ i = .int .i64 (k : Int) ∧ s5 = .int .i64 (if k = 0 then -1 else l.getD (k - 1) 0) ∧ Hid (goodsOf st gs (-1) (l.take k) = some xs) ∧ Hid (BRow wr g xs) ∧ Hid (W0.grownBy wr (some g))) (fun _ _ i _ => l.length - (intOf i).toNat)
  case atStart => exact ⟨0, gs, Nat.zero_le _, rfl, rfl, rfl, HG0.out, World.grownBy.refl _ _⟩
  case round =>
    obtain ⟨k, xs, hk, rfl, rfl, HS, HB, HW⟩ := hrel
    obtain ⟨c0, c3⟩ := HC.out _ HW.out
    have hxl : xs.length = n := by rw [goodsOf_len HS.out]; exact hgl
    by_cases hkl : k < l.length
    · have q1 : (k : Int) < (l.length : Int) := by omega
      obtain ⟨b, o, rfl, _, _, y0⟩ := Ints.at_ (Ints.grown_bool HL0.out HG0.out HW.out) hkl
      have HT := Lib.hid (goodsOf_take (n := l[k]) HS.out hkl rfl)
      have hn0 := HN.out _ (List.getElem_mem hkl)
      have HK1 : Hid ((if k + 1 = 0 then -1 else l.getD (k + 1 - 1) 0) = l[k]) := by
        show _ = _
        rw [if_neg (by omega), Nat.add_sub_cancel, List.getD_eq_getElem?_getD, List.getElem?_eq_getElem hkl]; rfl
      obtain ⟨x, hx⟩ : ∃ x, x = l[k] := ⟨_, rfl⟩
      rw [← hx] at y0 HT hn0 HK1
      clear hx
      obtain ⟨x, rfl⟩ := Int.eq_ofNat_of_zero_le hn0
      generalize (if k = 0 then (-1 : Int) else l.getD (k - 1) 0) = last at *
      by_cases h1 : (x : Int) ≤ last
      · have HP : Hid (GdPost w g (goodsOf st gs (-1) l) (.returned (.bool false)) wr) := ⟨false, rfl, grown_grown HGR.out HW.out, by have := HT.out; rw [if_neg (by omega)] at this; rw [this]⟩
        go_wp2_with fail
        go_ret
        exact HP.out
      · by_cases h2 : (x : Int) < st
        · have h2' : ¬ st ≤ (x : Int) := by omega
          have HS2 : Hid (goodsOf st gs (-1) (l.take (k + 1)) = some (xs.set x true)) := by have := HT.out; rw [if_pos ⟨by omega, h2⟩] at this; exact this
          have hxn : x < n := by omega
          have hxn' : (x : Int) < (n : Int) := by omega
          obtain ⟨z1, z2⟩ := HB.out.getD_ (i := x) (by omega) false
          have HB2 := Lib.hid (HB.out.set_ x true)
          have HW2 := Lib.hid (grown_grown HW.out (grown_set wr g x (.bool true)))
          go_wp2_with fail
          go_roundw
          case rel => exact ⟨k + 1, xs.set x true, by omega, by go_num, congrArg (Value.int .i64) HK1.out.symm, HS2.out, HB2.out, HW2.out⟩
          case measure => simp [intOf]; omega
        · have h2' : st ≤ (x : Int) := by omega
          have HP : Hid (GdPost w g (goodsOf st gs (-1) l) (.returned (.bool false)) wr) := ⟨false, rfl, grown_grown HGR.out HW.out, by have := HT.out; rw [if_neg (by omega)] at this; rw [this]⟩
          go_wp2_with fail
          go_ret
          exact HP.out
    · have q1 : ¬ (k : Int) < (l.length : Int) := by omega
      have hkk : l.take k = l := List.take_of_length_le (by omega)
      rw [hkk] at HS
      have HP : Hid (GdPost w g (goodsOf st gs (-1) l) (.returned (.bool true)) wr) := ⟨true, rfl, grown_grown HGR.out HW.out, by rw [HS.out]; exact ⟨rfl, HB.out⟩⟩
      clear hkk
      generalize (if k = 0 then (-1 : Int) else l.getD (k - 1) 0) = last at *
      go_wp2_with fail
      go_ret
      exact HP.out
end Go.Proofs.YtoglgeaiiipchabDoor
