/- Walks: slices.Clone of ints. -/
import Derived.Test.YtoglgeaiiipchabLBSM1
import Derived.Lib.AppendZerosOnto
import Derived.WalkSpells
set_option linter.unusedSimpArgs false
set_option linter.unusedVariables false
namespace Go.Proofs.Ytoglgeaiiipchab
open Go Go.RowKit

/-- what Grow leaves of nothing: room, and no element -/
def GrowPost (w : World) (t : TypeId) (e : Ending) (w' : World) : Prop :=
  ∃ v, e = .returned v ∧ w'.ownsRow w.heap.size t 1 v 0 [] ∧ Below w.heap.size w w'

set_option maxRecDepth 100000 in
theorem GrowI_ (n : Nat) (hn : n ≤ 100000000) (w : World) :
    Calls Try.prog 60 #[.slice none 0 0, .int .i64 n] w (GrowPost w 3) := by
  obtain ⟨i0, hi0, hz0, hz1, hz2⟩ := info_parts infoInt
  by_cases h0 : n = 0
  · subst h0
    have HP : Hid (GrowPost w 3 (.returned (.slice none 0 0)) w) := ⟨_, rfl, World.ownsRow_nil _ _ _ _, Below.refl _ _⟩
    go_enter Try.func60, Try.ntmps60
    go_wp2
    go_ret
    exact HP.out
  · have hp : 0 < n := by omega
    have hap := Lib.run_append_grow_zeros (P := Try.prog) w 22 3 22 3 i0 _ .i64 .i64 Try.underlying22 Try.underlying3 hi0 hz0 none 0 0 [] (by rw [hz1]; rfl) n hp (by omega) (by omega) (by omega) (by rw [hz2]; omega) (by rw [hz2, show Builtin.nextslicecap (0 + n) 0 = n by simp [Builtin.nextslicecap, hp]]; omega)
    have hcap := grownCap_ge w (0 + n) 0 3
    have hcap2 := grownCap_le_maxLen w (0 + n) 0 3 (by simp only [maxLen]; omega)
    simp only [Nat.zero_add] at hap hcap hcap2
    generalize grownCap w n 0 3 = cp at *
    go_enter Try.func60, Try.ntmps60
    have HAP := Lib.hid hap
    clear hap
    go_wp2_with (at_builtin; refine wpList_appRun rfl (.tmp 20) (.tmp 21) _ _ rfl _ _ _ rfl rfl HAP.out ?_)
    have HP : Hid (GrowPost w 3 (.returned (.slice (some ⟨w.heap.size, 0, none⟩) 0 cp)) (w.alloc (Obj.cells (Builtin.zeroCells #[Value.int IntKind.i64 0] n ++ Builtin.zeroCells #[Value.int IntKind.i64 0] (cp - n)) 3)).drew) := by
      refine ⟨_, rfl, own_room _ _ (Nat.le_refl _) (by simpa using hcap2) ?_, ((Below.refl _ _).alloc (Nat.le_refl _) _).drew⟩
      simp [Builtin.zeroCells]
      omega
    go_ret
    exact HP.out

/-- what Concat leaves: a row of its own -/
def CatPost (w : World) (xs : List Int) (e : Ending) (w' : World) : Prop :=
  ∃ A c, e = .returned (.slice A xs.length c) ∧ Ints w' w.heap.size A c xs ∧ Below w.heap.size w w'

set_option maxRecDepth 100000 in
set_option maxHeartbeats 1000000 in
theorem ConcatI_ (G : Nat) (A B : Option Addr) (ca cb : Nat) (xs ys : List Int) (w : World) (hx : Ints w 0 A ca xs) (hy : Ints w 0 B cb ys) (hl : xs.length + ys.length ≤ 100000000)
    (h0 : w.cell? ⟨G, 0, none⟩ = some (.slice A xs.length ca)) (h1 : w.cell? ⟨G, 1, none⟩ = some (.slice B ys.length cb)) (hG : G < w.heap.size) :
    Calls Try.prog 29 #[.slice (some ⟨G, 0, none⟩) 2 2] w (CatPost w (xs ++ ys)) := by
  obtain ⟨i0, hi0, hz0, hz1, hz2⟩ := info_parts infoInt
  go_enter Try.func29, Try.ntmps29
  go_wp2
  go_loop [3, 11] (fun s i => ∃ k : Nat, k ≤ 2 ∧ i = .int .i64 k ∧ s = .int .i64 (if k = 0 then 0 else if k = 1 then xs.length else xs.length + ys.length : Nat)) (fun _ i => 2 - (intOf i).toNat)
  case atStart => exact ⟨0, by omega, rfl, rfl⟩
  case round =>
    obtain ⟨k, hk, rfl, rfl⟩ := hrel
    have hk3 : k = 0 ∨ k = 1 ∨ k = 2 := by omega
    rcases hk3 with rfl | rfl | rfl
    · go_wp2
      go_round
      case rel => exact ⟨1, by omega, rfl, rfl⟩
      case measure => simp [intOf]
    · go_wp2
      go_round
      case rel => exact ⟨2, by omega, rfl, by simp⟩
      case measure => simp [intOf]
    · go_wp2_with fail
      rw [show ((xs.length : Int) + (ys.length : Int)) = ((xs.length + ys.length : Nat) : Int) from by omega]
      refine (GrowI_ _ hl w).mono ?_
      rintro e w1 ⟨v, rfl, hown, hb1⟩
      have HO := Lib.hid hown
      clear hown
      go_wp2
      go_loopw [6, 27] (fun v i wr => ∃ (k : Nat) (zs : List Int), k ≤ 2 ∧ i = .int .i64 k ∧ Hid (zs = if k = 0 then [] else if k = 1 then xs else xs ++ ys) ∧ wr.ownsRow w.heap.size 3 1 v zs.length (zs.flatMap fun n : Int => [Value.int .i64 n]) ∧ Below w.heap.size w wr) (fun _ i _ => 2 - (intOf i).toNat)
      case atStart => exact ⟨0, [], by omega, rfl, rfl, by simpa using HO.out, hb1⟩
      case round =>
        obtain ⟨k, zs, hk, rfl, hzs, hown, hb⟩ := hrel
        have HOW := Lib.hid hown
        have HB := Lib.hid hb
        have g0 : wr.cell? ⟨G, 0, none⟩ = some (.slice A xs.length ca) := (hb.cell (p := ⟨G, 0, none⟩) hG).trans h0
        have g1 : wr.cell? ⟨G, 1, none⟩ = some (.slice B ys.length cb) := (hb.cell (p := ⟨G, 1, none⟩) hG).trans h1
        have HX := Lib.hid (hx.below hb)
        have HY := Lib.hid (hy.below hb)
        clear hown hb
        have hk3 : k = 0 ∨ k = 1 ∨ k = 2 := by omega
        rcases hk3 with rfl | rfl | rfl
        · obtain rfl : zs = [] := by simpa using hzs.out
          have m2 : (0 + xs.length) * 8 ≤ 140737488355328 := by omega
          have m3 : 0 + xs.length ≤ maxLen := by simp only [maxLen]; omega
          go_wp2_with (at_builtin; refine wpList_app _ rfl (.tmp 31) (.tmp 32) _ rfl w.heap.size 3 i0 _ 1 8 Try.underlying22 hi0 hz0 hz1 hz2 rfl (by decide) u6 0 [] rfl HOW.out A xs.length ca _ rfl (flatMap_len (sz := 1) (fun _ => rfl) _) HX.out.rd (ints_oneCell _) m3 m2 HB.out.size ?_; intro v2 w2 hown2 hg2 hat2)
          go_roundw
          case rel => exact ⟨1, xs, by omega, rfl, show _ = _ from by simp, by simpa using hown2, grownOwn_ HB.out hg2 HOW.out (Nat.le_refl _) HB.out.size⟩
          case measure => simp [intOf]
        · obtain rfl : zs = xs := by simpa using hzs.out
          have m2 : (zs.length + ys.length) * 8 ≤ 140737488355328 := by omega
          have m3 : zs.length + ys.length ≤ maxLen := by simp only [maxLen]; omega
          go_wp2_with (at_builtin; refine wpList_app _ rfl (.tmp 31) (.tmp 32) _ rfl w.heap.size 3 i0 _ 1 8 Try.underlying22 hi0 hz0 hz1 hz2 rfl (by decide) u6 _ _ rfl HOW.out B ys.length cb _ rfl (flatMap_len (sz := 1) (fun _ => rfl) _) HY.out.rd (ints_oneCell _) m3 m2 HB.out.size ?_; intro v2 w2 hown2 hg2 hat2)
          go_roundw
          case rel => exact ⟨2, zs ++ ys, by omega, rfl, show _ = _ from by simp, by simpa using hown2, grownOwn_ HB.out hg2 HOW.out (Nat.le_refl _) HB.out.size⟩
          case measure => simp [intOf]
        · obtain rfl : zs = xs ++ ys := by simpa using hzs.out
          have HP : Hid (CatPost w (xs ++ ys) (.returned u6) wr) := by
            obtain ⟨C, cc, hv, hall⟩ := SlE.of_own (bt := 8) HOW.out (by simp; omega)
            exact ⟨C, cc, by rw [hv], hall, HB.out⟩
          clear HOW hzs
          go_wp2
          go_ret
          exact HP.out
end Go.Proofs.Ytoglgeaiiipchab

namespace Go.Proofs.Ytoglgeaiiipchab
open Go Go.RowKit

set_option maxRecDepth 100000 in
theorem CloneI_ (A : Option Addr) (c : Nat) (xs : List Int) (w : World) (hx : Ints w 0 A c xs) :
    Calls Try.prog 51 #[.slice A xs.length c] w (CatPost w xs) := by
  obtain ⟨i0, hi0, hz0, hz1, hz2⟩ := info_parts infoInt
  have hmax := hx.max
  have q24 : ∀ (w : World) (a : Option Addr) (n c n' c' : Nat), (binOp .eql 22 (.slice a n c) (.slice none n' c')).run Try.prog w = .ok (.bool a.isNone) w := fun w a n c n' c' => Lib.run_eql_slice_nil w _ _ a n c n' c' Try.underlying22
  cases A with
  | none =>
    have hxs : xs = [] := by
      cases xs with
      | nil => rfl
      | cons x r =>
        obtain ⟨b, off, h, _⟩ := hx.rd (by simp)
        cases h
    subst hxs
    have HP : Hid (CatPost w [] (.returned (.slice none 0 0)) w) := ⟨none, 0, rfl, ⟨Nat.le_refl _, by omega, by simp, Rd.nil⟩, Below.refl _ _⟩
    go_enter Try.func51, Try.ntmps51
    go_wp2_with fail
    go_ret
    exact HP.out
  | some a =>
    have HX := Lib.hid (hx.rd.below (w' := w.alloc (Obj.cells #[] 3)) ((Below.refl _ _).alloc (Nat.le_refl _) _) (Nat.le_refl _))
    have HO := Lib.hid (own_empty (w := w) (base := w.heap.size) 3 1 (Nat.le_refl _))
    have m2 : (0 + xs.length) * 8 ≤ 140737488355328 := by omega
    have m3 : 0 + xs.length ≤ maxLen := by simp only [maxLen]; omega
    have m4 : w.heap.size ≤ (w.alloc (Obj.cells #[] 3)).heap.size := by simp
    have HM := Lib.hid hmax
    clear hx hmax
    go_enter Try.func51, Try.ntmps51
    go_wp2_with (at_builtin; refine wpList_app _ rfl (.tmp 5) (.tmp 6) _ rfl w.heap.size 3 i0 _ 1 8 Try.underlying22 hi0 hz0 hz1 hz2 rfl (by decide) (.slice (some ⟨w.heap.size, 0, none⟩) 0 0) 0 [] rfl HO.out (some a) xs.length c _ rfl (flatMap_len (sz := 1) (fun _ => rfl) _) HX.out (ints_oneCell _) m3 m2 m4 ?_; intro v2 w2 hown2 hg2 hat2)
    have HP : Hid (CatPost w xs (.returned v2) w2) := by
      obtain ⟨C, cc, hv, hall⟩ := SlE.of_own (bt := 8) (xs := xs) (by simpa using hown2) HM.out
      exact ⟨C, cc, by rw [hv], hall, grownOwn_ ((Below.refl _ _).alloc (Nat.le_refl _) _) hg2 HO.out (Nat.le_refl _) (by simp)⟩
    clear hown2 hg2 hat2
    go_wp2_with fail
    go_ret
    exact HP.out
end Go.Proofs.Ytoglgeaiiipchab
