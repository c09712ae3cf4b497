/- Walk: the reference's check of a lasso. -/
import Derived.Test.YtoglgeaiiipchaaWF
import Derived.Test.YtoglgeaiiipchaaWL
import Derived.Test.YtoglgeaiiipchaaTy
namespace Go.Proofs.Ytoglgeaiiipchaa
open Go Go.RowKit

theorem anyB_step {p : Int → Bool} {xs : List Int} {k : Nat} (hk : k < xs.length) : anyB p (xs.drop k) = (p xs[k] || anyB p (xs.drop (k + 1))) := by
  rw [List.drop_eq_getElem_cons hk]; rfl
theorem bad_btw {letters n : Int} : badL letters n = !btw n 0 (letters - 1) := by
  unfold badL btw
  rw [Bool.eq_iff_iff]
  simp
  omega
theorem ret_any {v v' : Value} (h : v = v') : Ending.returned v = Ending.returned v' := by rw [h]

set_option maxRecDepth 100000 in
set_option maxHeartbeats 1000000 in
theorem CheckLasso_ (A B : Option Addr) (ca cb : Nat) (l : La) (letters : Int) (w : World) (hh : Ints w 0 A ca l.h) (hl : Ints w 0 B cb l.l) :
    Calls Try.prog 12 #[.agg #[.slice A l.h.length ca, .slice B l.l.length cb], .int .i64 letters] w fun e w' => e = .returned (.int .i64 (ckL l letters)) ∧ Below w.heap.size w w' := by
  have h1 := hh.le
  have h3 := hl.le
  obtain ⟨i0, hi0, hz0, hz1, hz2⟩ := info_parts infoInt
  have HA := Lib.hid ((Below.refl w.heap.size w).alloc (Nat.le_refl _) (Obj.cells #[Value.slice A l.h.length ca, Value.slice B l.l.length cb] 26))
  go_enter Try.func12, Try.ntmps12
  by_cases h3 : letters < 1 ∨ 8 < letters
  · have HF := Lib.hid (ckL_3 (l := l) h3)
    have hbt : btw letters 1 8 = false := by unfold btw; simp; omega
    go_wp2_with (go_at_call 36; refine (between_ _ _ _ _).mono ?_; rintro e w' ⟨rfl, rfl⟩)
    all_goals (go_ret; exact ⟨ret_int HF.out.symm, HA.out⟩)
  have hbt : btw letters 1 8 = true := by unfold btw; simp; omega
  by_cases h2 : 4000 < (l.h.length : Int) ∨ 4000 < (l.l.length : Int)
  · have HF := Lib.hid (ckL_2 h3 h2)
    go_wp2_with (go_at_call 36; refine (between_ _ _ _ _).mono ?_; rintro e w' ⟨rfl, rfl⟩)
    all_goals (go_ret; exact ⟨ret_int HF.out.symm, HA.out⟩)
  by_cases h1' : l.l.length = 0
  · have HF := Lib.hid (ckL_1 h3 h2 h1')
    have hz : ((l.l.length : Int) == 0) = true := by simp [h1']
    clear h1'
    go_wp2_with (go_at_call 36; refine (between_ _ _ _ _).mono ?_; rintro e w' ⟨rfl, rfl⟩)
    go_ret
    exact ⟨ret_int HF.out.symm, HA.out⟩
  have HF := Lib.hid (ckL_x h3 h2 h1')
  have hz : ((l.l.length : Int) == 0) = false := by simpa using h1'
  have hp : 0 < l.l.length := by omega
  clear h1'
  go_wp2_with (go_at_call 36; refine (between_ _ _ _ _).mono ?_; rintro e w' ⟨rfl, rfl⟩)
  have hmxh := hh.max
  have hmxl := hl.max
  have HA2 := Lib.hid ((HA.out.alloc (by simp) (Obj.cells #[] 3)).drew)
  have HO := Lib.hid (own_drew (own_empty (w := w.alloc (Obj.cells #[Value.slice A l.h.length ca, Value.slice B l.l.length cb] 26)) (base := w.heap.size + 1) 3 1 (by simp)))
  rw [World.size_alloc] at HO
  have HR1 := Lib.hid (hh.rd.below HA2.out (Nat.le_refl _))
  have b1 : 0 + l.h.length ≤ maxLen := by simp only [maxLen]; omega
  have b2 : (0 + l.h.length) * 8 ≤ 140737488355328 := by omega
  have b3 : 0 + l.h.length + l.l.length ≤ maxLen := by simp only [maxLen]; omega
  have b4 : (0 + l.h.length + l.l.length) * 8 ≤ 140737488355328 := by omega
  have b5 : w.heap.size + 1 ≤ ((w.alloc (Obj.cells #[Value.slice A l.h.length ca, Value.slice B l.l.length cb] 26)).alloc (Obj.cells #[] 3)).drew.heap.size := by simp
  go_region_held3 (fun w' => w'.cell? ⟨w.heap.size, 0, none⟩ = some (.slice A l.h.length ca) ∧ w'.cell? ⟨w.heap.size, 1, none⟩ = some (.slice B l.l.length cb))
    (first | go_keep | exact ⟨q0, q1⟩ | exact ⟨q2, q3⟩)
    (first
      | ((refine step_app _ rfl (.tmp 24) (.tmp 26) _ rfl (w.heap.size + 1) 3 i0 _ 1 8 Try.underlying24 hi0 hz0 hz1 hz2 rfl (by decide) (.slice (some ⟨w.heap.size + 1, 0, none⟩) 0 0) 0 [] rfl HO.out A l.h.length ca _ rfl (flatMap_len (sz := 1) (fun _ => rfl) _) HR1.out (ints_oneCell _) b1 b2 b5 ?_); intro v1 w1 hown1 hg1 hat1; have q0 := hg1.cell (a := ⟨w.heap.size, 0, none⟩) (v := .slice A l.h.length ca) (by go_simp) (by simp [Value.ownBlock]); have q1 := hg1.cell (a := ⟨w.heap.size, 1, none⟩) (v := .slice B l.l.length cb) (by go_simp) (by simp [Value.ownBlock]))
      | ((refine step_app _ rfl (.tmp 27) (.tmp 29) _ rfl (w.heap.size + 1) 3 i0 _ 1 8 Try.underlying24 hi0 hz0 hz1 hz2 rfl (by decide) v1 _ _ rfl hown1 B l.l.length cb _ rfl (flatMap_len (sz := 1) (fun _ => rfl) _) (hl.rd.below ((HA2.out.grown hg1 (by simp; omega) (fun k hk => by simp [Value.ownBlock] at hk; omega))) (Nat.le_refl _)) (ints_oneCell _) b3 b4 (by have := hg1.size; simp at this; omega) ?_); intro v2 w2 hown2 hg2 hat2; have q2 := hg2.cell (a := ⟨w.heap.size, 0, none⟩) (v := .slice A l.h.length ca) q0 (own_ne hown1 (by simp)); have q3 := hg2.cell (a := ⟨w.heap.size, 1, none⟩) (v := .slice B l.l.length cb) q1 (own_ne hown1 (by simp))))
  have HB2 := Lib.hid (grownOwn_ (HA2.out.grown hg1 (by simp; omega) (fun k hk => by simp [Value.ownBlock] at hk; omega)) hg2 hown1 (by omega) (by have := hg1.size; simp at this; omega))
  have eL : (0 + l.h.length + l.l.length) = (l.h ++ l.l).length := by simp
  have eX : ([] ++ List.flatMap (fun n : Int => [Value.int .i64 n]) l.h ++ List.flatMap (fun n : Int => [Value.int .i64 n]) l.l) = List.flatMap (fun n : Int => [Value.int .i64 n]) (l.h ++ l.l) := by simp
  rw [eL, eX] at hown2
  clear eL eX
  have hcnt : (l.h ++ l.l).length ≤ 8000 := by simp; omega
  have hany : anyB (badL letters) (l.h ++ l.l) = (anyB (badL letters) l.h || anyB (badL letters) l.l) := by simp [anyB]
  rw [← hany] at HF
  clear hany
  obtain ⟨C, cc, hv2, hall⟩ := SlE.of_own (bt := 8) hown2 (by omega)
  subst hv2
  clear hown2 hg2 hat2 hown1 hg1 hat1 q0 q1 q2 q3 HO HR1 HA HA2 b1 b2 b3 b4 b5
  generalize l.h ++ l.l = xs at *
  go_wp2
  go_loopw [6] (fun i wr => ∃ k : Nat, k ≤ xs.length ∧ i = .int .i64 k ∧ anyB (badL letters) xs = anyB (badL letters) (xs.drop k) ∧ Below w.heap.size w wr ∧ Below w2.heap.size w2 wr) (fun i _ => xs.length - (intOf i).toNat)
  case atStart => exact ⟨0, Nat.zero_le _, rfl, rfl, HB2.out, Below.refl _ _⟩
  case round =>
    obtain ⟨k, hk, rfl, hc, hb, hb2⟩ := hrel
    have HC := Lib.hid hc
    clear hc
    by_cases hlt : k < xs.length
    · obtain ⟨b, o, rfl, _, hbl, hc1⟩ := Ints.at_ (hall.below hb2) hlt
      have hs := anyB_step (p := badL letters) hlt
      have HS := Lib.hid hs
      clear hs
      go_wp2_with (go_at_call 36; refine (between_ _ _ _ _).mono ?_; rintro e w' ⟨rfl, rfl⟩)
      · have ht : badL letters xs[k] = true := by rw [bad_btw]; assumption
        go_ret
        exact ⟨ret_int (by rw [HF.out, HC.out, HS.out, ht]; rfl), hb⟩
      · have ht : badL letters xs[k] = false := by rw [bad_btw]; assumption
        go_roundw
        case rel => exact ⟨k + 1, by omega, by go_num, by rw [HC.out, HS.out, ht]; rfl, hb, hb2⟩
        case measure => simp [intOf]; omega
    · go_wp2
      go_ret
      exact ⟨ret_int (by rw [HF.out, HC.out, List.drop_of_length_le (by omega)]; rfl), hb⟩
end Go.Proofs.Ytoglgeaiiipchaa
