/- Walks: slices.Clone of ints. -/
import Derived.Test.YtoglgeaiiipchaaWCat
import Derived.WalkSpells
namespace Go.Proofs.Ytoglgeaiiipchaa
open Go Go.RowKit

set_option maxRecDepth 100000 in
theorem CloneI_ (A : Option Addr) (c : Nat) (xs : List Int) (w : World) (hx : Ints w 0 A c xs) :
    Calls Try.prog 41 #[.slice A xs.length c] w (CatPost w xs) := by
  obtain ⟨i0, hi0, hz0, hz1, hz2⟩ := info_parts infoInt
  have hmax := hx.max
  have q24 : ∀ (w : World) (a : Option Addr) (n c n' c' : Nat), (binOp .eql 24 (.slice a n c) (.slice none n' c')).run Try.prog w = .ok (.bool a.isNone) w := fun w a n c n' c' => Lib.run_eql_slice_nil w _ _ a n c n' c' Try.underlying24
  cases A with
  | none =>
    have hxs : xs = [] := by
      cases xs with
      | nil => rfl
      | cons x r =>
        obtain ⟨b, off, h, _⟩ := hx.rd (by simp)
        cases h
    subst hxs
    have HP : Hid (CatPost w [] (.returned (.slice none 0 0)) w) := ⟨none, 0, rfl, ⟨Nat.le_refl _, by omega, by simp, Rd.nil⟩, Below.refl _ _⟩
    go_enter Try.func41, Try.ntmps41
    go_wp2_with fail
    go_ret
    exact HP.out
  | some a =>
    have HX := Lib.hid (hx.rd.below (w' := w.alloc (Obj.cells #[] 3)) ((Below.refl _ _).alloc (Nat.le_refl _) _) (Nat.le_refl _))
    have HO := Lib.hid (own_empty (w := w) (base := w.heap.size) 3 1 (Nat.le_refl _))
    have m2 : (0 + xs.length) * 8 ≤ 140737488355328 := by omega
    have m3 : 0 + xs.length ≤ maxLen := by simp only [maxLen]; omega
    have m4 : w.heap.size ≤ (w.alloc (Obj.cells #[] 3)).heap.size := by simp
    have HM := Lib.hid hmax
    clear hx hmax
    go_enter Try.func41, Try.ntmps41
    go_wp2_with (at_builtin; refine wpList_app _ rfl (.tmp 5) (.tmp 6) _ rfl w.heap.size 3 i0 _ 1 8 Try.underlying24 hi0 hz0 hz1 hz2 rfl (by decide) (.slice (some ⟨w.heap.size, 0, none⟩) 0 0) 0 [] rfl HO.out (some a) xs.length c _ rfl (flatMap_len (sz := 1) (fun _ => rfl) _) HX.out (ints_oneCell _) m3 m2 m4 ?_; intro v2 w2 hown2 hg2 hat2)
    have HP : Hid (CatPost w xs (.returned v2) w2) := by
      obtain ⟨C, cc, hv, hall⟩ := SlE.of_own (bt := 8) (xs := xs) (by simpa using hown2) HM.out
      exact ⟨C, cc, by rw [hv], hall, grownOwn_ ((Below.refl _ _).alloc (Nat.le_refl _) _) hg2 HO.out (Nat.le_refl _) (by simp)⟩
    clear hown2 hg2 hat2
    go_wp2_with fail
    go_ret
    exact HP.out
end Go.Proofs.Ytoglgeaiiipchaa
