/- An automaton among the arguments of a law, opened to a reading. -/
import Derived.Test.YtoglgeaiiipchaaLISM34
import Derived.Test.YtoglgeaiiipchaaLISM30
import Derived.Test.YtoglgeaiiipchaaLISM8
import Derived.Test.YtoglgeaiiipchaaLISM19
import Derived.Test.YtoglgeaiiipchaaLISM1
import Derived.WalkKit
import Derived.ProofKit
import Derived.OpenShut
import Derived.ShutString
import Derived.ChangeOld
import Derived.Below
import Derived.Carry
import Derived.SizedLaws
import Derived.Lib.SmallJoins
import Derived.Deep.Slices
import Derived.Deep.Fields
import Derived.Test.YtoglgeaiiipchaaLISM13
set_option linter.unusedSimpArgs false
set_option linter.unusedVariables false
namespace Go.Proofs.Ytoglgeaiiipchaa
open Go Go.RowKit

theorem anyB_step {p : Int → Bool} {xs : List Int} {k : Nat} (hk : k < xs.length) : anyB p (xs.drop k) = (p xs[k] || anyB p (xs.drop (k + 1))) := by
  rw [List.drop_eq_getElem_cons hk]; rfl
theorem bad_btw {letters n : Int} : badL letters n = !btw n 0 (letters - 1) := by
  unfold badL btw
  rw [Bool.eq_iff_iff]
  simp
  omega
theorem ret_any {v v' : Value} (h : v = v') : Ending.returned v = Ending.returned v' := by rw [h]

set_option maxRecDepth 100000 in
set_option maxHeartbeats 1000000 in
theorem CheckLasso_ (A B : Option Addr) (ca cb : Nat) (l : La) (letters : Int) (w : World) (hh : Ints w 0 A ca l.h) (hl : Ints w 0 B cb l.l) :
    Calls Try.prog 12 #[.agg #[.slice A l.h.length ca, .slice B l.l.length cb], .int .i64 letters] w fun e w' => e = .returned (.int .i64 (ckL l letters)) ∧ Below w.heap.size w w' := by
  have h1 := hh.le
  have h3 := hl.le
  obtain ⟨i0, hi0, hz0, hz1, hz2⟩ := info_parts infoInt
  have HA := Lib.hid ((Below.refl w.heap.size w).alloc (Nat.le_refl _) (Obj.cells #[Value.slice A l.h.length ca, Value.slice B l.l.length cb] 26))
  go_enter Try.func12, Try.ntmps12
  by_cases h3 : letters < 1 ∨ 8 < letters
  · have HF := Lib.hid (ckL_3 (l := l) h3)
    have hbt : btw letters 1 8 = false := by unfold btw; simp; omega
    go_wp2_with (go_at_call 36; refine (between_ _ _ _ _).mono ?_; rintro e w' ⟨rfl, rfl⟩)
    all_goals (go_ret; exact ⟨ret_int HF.out.symm, HA.out⟩)
  have hbt : btw letters 1 8 = true := by unfold btw; simp; omega
  by_cases h2 : 4000 < (l.h.length : Int) ∨ 4000 < (l.l.length : Int)
  · have HF := Lib.hid (ckL_2 h3 h2)
    go_wp2_with (go_at_call 36; refine (between_ _ _ _ _).mono ?_; rintro e w' ⟨rfl, rfl⟩)
    all_goals (go_ret; exact ⟨ret_int HF.out.symm, HA.out⟩)
  by_cases h1' : l.l.length = 0
  · have HF := Lib.hid (ckL_1 h3 h2 h1')
    have hz : ((l.l.length : Int) == 0) = true := by simp [h1']
    clear h1'
    go_wp2_with (go_at_call 36; refine (between_ _ _ _ _).mono ?_; rintro e w' ⟨rfl, rfl⟩)
    go_ret
    exact ⟨ret_int HF.out.symm, HA.out⟩
  have HF := Lib.hid (ckL_x h3 h2 h1')
  have hz : ((l.l.length : Int) == 0) = false := by simpa using h1'
  have hp : 0 < l.l.length := by omega
  clear h1'
  go_wp2_with (go_at_call 36; refine (between_ _ _ _ _).mono ?_; rintro e w' ⟨rfl, rfl⟩)
  have hmxh := hh.max
  have hmxl := hl.max
  have HA2 := Lib.hid ((HA.out.alloc (by simp) (Obj.cells #[] 3)).drew)
  have HO := Lib.hid (own_drew (own_empty (w := w.alloc (Obj.cells #[Value.slice A l.h.length ca, Value.slice B l.l.length cb] 26)) (base := w.heap.size + 1) 3 1 (by simp)))
  rw [World.size_alloc] at HO
  have HR1 := Lib.hid (hh.rd.below HA2.out (Nat.le_refl _))
  have b1 : 0 + l.h.length ≤ maxLen := by simp only [maxLen]; omega
  have b2 : (0 + l.h.length) * 8 ≤ 140737488355328 := by omega
  have b3 : 0 + l.h.length + l.l.length ≤ maxLen := by simp only [maxLen]; omega
  have b4 : (0 + l.h.length + l.l.length) * 8 ≤ 140737488355328 := by omega
  have b5 : w.heap.size + 1 ≤ ((w.alloc (Obj.cells #[Value.slice A l.h.length ca, Value.slice B l.l.length cb] 26)).alloc (Obj.cells #[] 3)).drew.heap.size := by simp
  go_region_held3 (fun w' => w'.cell? ⟨w.heap.size, 0, none⟩ = some (.slice A l.h.length ca) ∧ w'.cell? ⟨w.heap.size, 1, none⟩ = some (.slice B l.l.length cb))
    (first | go_keep | exact ⟨q0, q1⟩ | exact ⟨q2, q3⟩)
    (first
      | ((refine step_app _ rfl (.tmp 24) (.tmp 26) _ rfl (w.heap.size + 1) 3 i0 _ 1 8 Try.underlying24 hi0 hz0 hz1 hz2 rfl (by decide) (.slice (some ⟨w.heap.size + 1, 0, none⟩) 0 0) 0 [] rfl HO.out A l.h.length ca _ rfl (flatMap_len (sz := 1) (fun _ => rfl) _) HR1.out (ints_oneCell _) b1 b2 b5 ?_); intro v1 w1 hown1 hg1 hat1; have q0 := hg1.cell (a := ⟨w.heap.size, 0, none⟩) (v := .slice A l.h.length ca) (by go_simp) (by simp [Value.ownBlock]); have q1 := hg1.cell (a := ⟨w.heap.size, 1, none⟩) (v := .slice B l.l.length cb) (by go_simp) (by simp [Value.ownBlock]))
      | ((refine step_app _ rfl (.tmp 27) (.tmp 29) _ rfl (w.heap.size + 1) 3 i0 _ 1 8 Try.underlying24 hi0 hz0 hz1 hz2 rfl (by decide) v1 _ _ rfl hown1 B l.l.length cb _ rfl (flatMap_len (sz := 1) (fun _ => rfl) _) (hl.rd.below ((HA2.out.grown hg1 (by simp; omega) (fun k hk => by simp [Value.ownBlock] at hk; omega))) (Nat.le_refl _)) (ints_oneCell _) b3 b4 (by have := hg1.size; simp at this; omega) ?_); intro v2 w2 hown2 hg2 hat2; have q2 := hg2.cell (a := ⟨w.heap.size, 0, none⟩) (v := .slice A l.h.length ca) q0 (own_ne hown1 (by simp)); have q3 := hg2.cell (a := ⟨w.heap.size, 1, none⟩) (v := .slice B l.l.length cb) q1 (own_ne hown1 (by simp))))
  have HB2 := Lib.hid (grownOwn_ (HA2.out.grown hg1 (by simp; omega) (fun k hk => by simp [Value.ownBlock] at hk; omega)) hg2 hown1 (by omega) (by have := hg1.size; simp at this; omega))
  have eL : (0 + l.h.length + l.l.length) = (l.h ++ l.l).length := by simp
  have eX : ([] ++ List.flatMap (fun n : Int => [Value.int .i64 n]) l.h ++ List.flatMap (fun n : Int => [Value.int .i64 n]) l.l) = List.flatMap (fun n : Int => [Value.int .i64 n]) (l.h ++ l.l) := by simp
  rw [eL, eX] at hown2
  clear eL eX
  have hcnt : (l.h ++ l.l).length ≤ 8000 := by simp; omega
  have hany : anyB (badL letters) (l.h ++ l.l) = (anyB (badL letters) l.h || anyB (badL letters) l.l) := by simp [anyB]
  rw [← hany] at HF
  clear hany
  obtain ⟨C, cc, hv2, hall⟩ := SlE.of_own (bt := 8) hown2 (by omega)
  subst hv2
  clear hown2 hg2 hat2 hown1 hg1 hat1 q0 q1 q2 q3 HO HR1 HA HA2 b1 b2 b3 b4 b5
  generalize l.h ++ l.l = xs at *
  go_wp2
  go_loopw [6] (fun i wr => ∃ k : Nat, k ≤ xs.length ∧ i = .int .i64 k ∧ anyB (badL letters) xs = anyB (badL letters) (xs.drop k) ∧ Below w.heap.size w wr ∧ Below w2.heap.size w2 wr) (fun i _ => xs.length - (intOf i).toNat)
  case atStart => exact ⟨0, Nat.zero_le _, rfl, rfl, HB2.out, Below.refl _ _⟩
  case round =>
    obtain ⟨k, hk, rfl, hc, hb, hb2⟩ := hrel
    have HC := Lib.hid hc
    clear hc
    by_cases hlt : k < xs.length
    · obtain ⟨b, o, rfl, _, hbl, hc1⟩ := Ints.at_ (hall.below hb2) hlt
      have hs := anyB_step (p := badL letters) hlt
      have HS := Lib.hid hs
      clear hs
      go_wp2_with (go_at_call 36; refine (between_ _ _ _ _).mono ?_; rintro e w' ⟨rfl, rfl⟩)
      · have ht : badL letters xs[k] = true := by rw [bad_btw]; assumption
        go_ret
        exact ⟨ret_int (by rw [HF.out, HC.out, HS.out, ht]; rfl), hb⟩
      · have ht : badL letters xs[k] = false := by rw [bad_btw]; assumption
        go_roundw
        case rel => exact ⟨k + 1, by omega, by go_num, by rw [HC.out, HS.out, ht]; rfl, hb, hb2⟩
        case measure => simp [intOf]; omega
    · go_wp2
      go_ret
      exact ⟨ret_int (by rw [HF.out, HC.out, List.drop_of_length_le (by omega)]; rfl), hb⟩
end Go.Proofs.Ytoglgeaiiipchaa

namespace Go.Proofs.Ytoglgeaiiipchaa
open Go Go.RowKit Go.Maps Go.Shelf

def in3W (w : World) (a b : Au) (A B C D E F : Option Addr) (ca cb cc cd ce cf : Nat) (l : La) (G K : Option Addr) (cg ck : Nat) : World := (auW2 w a b A B C D E F ca cb cc cd ce cf).alloc (Obj.cells #[.slice G l.h.length cg, .slice K l.l.length ck] 26)
structure In3 (w W : World) (a b : Au) (A B C D E F : Option Addr) (ca cb cc cd ce cf : Nat) (l : La) (G K : Option Addr) (cg ck : Nat) : Prop where
  below : Below w.heap.size w W
  size : W.heap.size = w.heap.size + 3
  at1 : AuAt W w.heap.size a A B C ca cb cc
  at2 : AuAt W (w.heap.size + 1) b D E F cd ce cf
  la : W.heap[w.heap.size + 2]? = some (.cells #[.slice G l.h.length cg, .slice K l.l.length ck] 26 (0, 0))
theorem in3_is (w : World) (a b : Au) (A B C D E F : Option Addr) (ca cb cc cd ce cf : Nat) (l : La) (G K : Option Addr) (cg ck : Nat) : In3 w (in3W w a b A B C D E F ca cb cc cd ce cf l G K cg ck) a b A B C D E F ca cb cc cd ce cf l G K cg ck := by
  have h := auW2_is w a b A B C D E F ca cb cc cd ce cf
  have hb : Below (auW2 w a b A B C D E F ca cb cc cd ce cf).heap.size (auW2 w a b A B C D E F ca cb cc cd ce cf) (in3W w a b A B C D E F ca cb cc cd ce cf l G K cg ck) := (Below.refl _ _).alloc (Nat.le_refl _) _
  have hn : (in3W w a b A B C D E F ca cb cc cd ce cf l G K cg ck).heap[(auW2 w a b A B C D E F ca cb cc cd ce cf).heap.size]? = _ := World.alloc_heap_new _ _
  rw [h.size] at hn
  exact ⟨Below_on h.below hb h.below.size, by unfold in3W; rw [World.size_alloc, h.size], h.at1.below hb h.at1.lt, h.at2.below hb h.at2.lt, hn⟩
/-- what stands in memory all along -/
structure InM (a b : Au) (l : La) (A B C D E F G K : Option Addr) (ca cb cc cd ce cf cg ck : Nat) (V : Nat) (w W : World) : Prop where
  below : Below w.heap.size w W
  aa : AuAt W V a A B C ca cb cc
  ab : AuAt W (V + 1) b D E F cd ce cf
  la : W.heap[V + 2]? = some (.cells #[.slice G l.h.length cg, .slice K l.l.length ck] 26 (0, 0))
  ra : AuRd W 0 a A B C ca cb cc
  rb : AuRd W 0 b D E F cd ce cf
  rg : Ints W 0 G cg l.h
  rk : Ints W 0 K ck l.l
theorem InM.on {a b : Au} {l : La} {A B C D E F G K : Option Addr} {ca cb cc cd ce cf cg ck : Nat} {V : Nat} {w W W' : World} (h : InM a b l A B C D E F G K ca cb cc cd ce cf cg ck V w W) (hb : Below W.heap.size W W') : InM a b l A B C D E F G K ca cb cc cd ce cf cg ck V w W' :=
  ⟨Below_on h.below hb h.below.size, h.aa.below hb h.aa.lt, h.ab.below hb h.ab.lt, (hb.block _ (Array.getElem?_eq_some_iff.1 h.la).1).trans h.la, h.ra.below hb, h.rb.below hb, h.rg.below hb, h.rk.below hb⟩
theorem InM.start (a b : Au) (l : La) (A B C D E F G K : Option Addr) (ca cb cc cd ce cf cg ck : Nat) (w : World) (ra : AuRd w 0 a A B C ca cb cc) (rb : AuRd w 0 b D E F cd ce cf) (rg : Ints w 0 G cg l.h) (rk : Ints w 0 K ck l.l) :
    InM a b l A B C D E F G K ca cb cc cd ce cf cg ck w.heap.size w (in3W w a b A B C D E F ca cb cc cd ce cf l G K cg ck) := by
  have h := in3_is w a b A B C D E F ca cb cc cd ce cf l G K cg ck
  exact ⟨h.below, h.at1, h.at2, h.la, ra.below h.below, rb.below h.below, rg.below h.below, rk.below h.below⟩
end Go.Proofs.Ytoglgeaiiipchaa

namespace Go.Proofs.Ytoglgeaiiipchaa
open Go Go.RowKit Go.Maps Go.Shelf

theorem IncS_ (a b : Au) (A B C D E F : Option Addr) (ca cb cc cd ce cf : Nat) (w : World) (ha : AuRd w 0 a A B C ca cb cc) (hb : AuRd w 0 b D E F cd ce cf) :
    Calls Try.prog 25 #[.agg #[.int .i64 a.st, .int .i64 a.le, .slice A a.fs.length ca, .slice B a.gs.length cb, .slice C a.ss.length cc], .agg #[.int .i64 b.st, .int .i64 b.le, .slice D b.fs.length cd, .slice E b.gs.length ce, .slice F b.ss.length cf]] w fun e w' => ∃ (ok : Bool) (H L : Option Addr) (hn ch ln cl : Nat), e = .returned (.tuple #[.bool ok, .agg #[.slice H hn ch, .slice L ln cl], .int .i64 (rdErrI a b)]) ∧ (rdErrI a b = 0 → (ok = true ↔ ¬ Apart a b)) ∧ Below w.heap.size w w' := by
  refine (Included_ a b A B C D E F ca cb cc cd ce cf w ha hb).mono ?_
  rintro e w' ⟨⟨found, ok, best, H, L, ch, cl, rfl, _, _, hif⟩, hbw⟩
  refine ⟨ok, H, L, _, ch, _, cl, rfl, fun h => ?_, hbw⟩
  rw [if_pos h] at hif
  rw [hif.1, ← hif.2.iff_]
  cases found <;> simp
theorem rdI_swap {a b : Au} (h : rdErrI a b = 0) : rdErrI b a = 0 := by
  obtain ⟨h1, h2, h3, h4, h5, h6⟩ := rdI_zero h
  unfold rdErrI
  rw [if_pos h2, if_pos h1, if_pos h3.symm, if_pos ⟨h5, h4, by omega⟩]
theorem inc_same {a b : Au} (h : rdErrI a b = 0) (hn : ¬ Apart a b ∧ ¬ Apart b a) (l : La) : tkB a l = tkB b l := by
  have h1 := inc_false h hn.1 l
  have h2 := inc_false (rdI_swap h) hn.2 l
  cases ha : tkB a l <;> cases hb : tkB b l <;> simp_all
set_option maxRecDepth 100000 in
set_option maxHeartbeats 8000000 in
theorem IncludeSame_ (a b : Au) (l : La) (A B C D E F G K : Option Addr) (ca cb cc cd ce cf cg ck : Nat) (w : World) (ra : AuRd w 0 a A B C ca cb cc) (rb : AuRd w 0 b D E F cd ce cf) (rg : Ints w 0 G cg l.h) (rk : Ints w 0 K ck l.l) :
    Calls Try.prog 7 #[.agg #[.int .i64 a.st, .int .i64 a.le, .slice A a.fs.length ca, .slice B a.gs.length cb, .slice C a.ss.length cc], .agg #[.int .i64 b.st, .int .i64 b.le, .slice D b.fs.length cd, .slice E b.gs.length ce, .slice F b.ss.length cf], .agg #[.slice G l.h.length cg, .slice K l.l.length ck]] w (BoolPost w true) := by
  have HM0 := Lib.hid (InM.start a b l A B C D E F G K ca cb cc cd ce cf cg ck w ra rb rg rk)
  clear ra rb rg rk
  go_enter Try.func7, Try.ntmps7
  go_upto_region 1 with fail
  change Code.wp _ _ _ _ (in3W w a b A B C D E F ca cb cc cd ce cf l G K cg ck)
  generalize in3W w a b A B C D E F ca cb cc cd ce cf l G K cg ck = W0 at *
  obtain ⟨V, hV⟩ : ∃ V, V = w.heap.size := ⟨_, rfl⟩
  rw [← hV] at HM0 ⊢
  clear hV
  obtain ⟨_, c0, c1, c2, c3, c4⟩ := HM0.out.aa
  obtain ⟨_, d0, d1, d2, d3, d4⟩ := HM0.out.ab
  have HSM := Lib.hid (Same_ a b A B C D E F ca cb cc cd ce cf W0 HM0.out.ra HM0.out.rb)
  go_upto_region 2 with (first
    | (go_at_call 27; refine HSM.out.mono ?_; rintro e w1 ⟨⟨same, rfl, hsm⟩, hb1⟩))
  have HM1 := Lib.hid (HM0.out.on hb1)
  have HIS := Lib.hid hsm
  clear hb1 hsm HSM HM0 c0 c1 c2 c3 c4 d0 d1 d2 d3 d4
  obtain ⟨_, c0, c1, c2, c3, c4⟩ := HM1.out.aa
  obtain ⟨_, d0, d1, d2, d3, d4⟩ := HM1.out.ab
  have HIN := Lib.hid (IncS_ a b A B C D E F ca cb cc cd ce cf w1 HM1.out.ra HM1.out.rb)
  go_upto_region 3 with (first
    | (go_at_call 25; refine HIN.out.mono ?_; rintro e w2 ⟨x, H, L, hn, ch, ln, cl, rfl, hx, hb2⟩))
  have hal : Below w2.heap.size w2 (w2.alloc (Obj.cells #[.slice H hn ch, .slice L ln cl] 26)) := (Below.refl _ _).alloc (Nat.le_refl _) _
  have HM2 := Lib.hid ((HM1.out.on hb2).on hal)
  have HX := Lib.hid hx
  clear hb2 hal hx HIN HM1 c0 c1 c2 c3 c4 d0 d1 d2 d3 d4
  generalize w2.alloc (Obj.cells #[.slice H hn ch, .slice L ln cl] 26) = W2 at *
  obtain ⟨_, c0, c1, c2, c3, c4⟩ := HM2.out.aa
  obtain ⟨_, d0, d1, d2, d3, d4⟩ := HM2.out.ab
  have HIN := Lib.hid (IncS_ b a D E F A B C cd ce cf ca cb cc W2 HM2.out.rb HM2.out.ra)
  go_upto_region 4 with (first
    | (go_at_call 25; refine HIN.out.mono ?_; rintro e w3 ⟨y, H2, L2, hn2, ch2, ln2, cl2, rfl, hy, hb3⟩))
  have hal : Below w3.heap.size w3 (w3.alloc (Obj.cells #[.slice H2 hn2 ch2, .slice L2 ln2 cl2] 26)) := (Below.refl _ _).alloc (Nat.le_refl _) _
  have HM3 := Lib.hid ((HM2.out.on hb3).on hal)
  have HY := Lib.hid hy
  clear hb3 hal hy HIN HM2 c0 c1 c2 c3 c4 d0 d1 d2 d3 d4
  generalize w3.alloc (Obj.cells #[.slice H2 hn2 ch2, .slice L2 ln2 cl2] 26) = W3 at *
  go_wp2_with fail
  refine (includeBegun_ W3).mono ?_
  rintro e w4 ⟨rfl, hb4⟩
  have HM4 := Lib.hid (HM3.out.on hb4)
  clear hb4 HM3
  go_wp2_with fail
  refine (wordBegun_ w4).mono ?_
  rintro e w5 ⟨rfl, hb5⟩
  have HM5 := Lib.hid (HM4.out.on hb5)
  clear hb5 HM4
  have hsm := HIS.out
  by_cases h0 : rdErrI a b = 0
  · have HH0 := Lib.hid h0
    have h1 := rdI_swap h0
    rw [if_pos h0] at hsm
    have hx := HX.out h0
    have hy := HY.out h1
    have hxy : same = (x && y) := by
      cases same with
      | true =>
        obtain ⟨g1, g2⟩ := hsm.1 rfl
        rw [hx.2 g1, hy.2 g2]; rfl
      | false =>
        cases x with
        | false => rfl
        | true =>
          cases y with
          | false => rfl
          | true => exact absurd (hsm.2 ⟨hx.1 rfl, hy.1 rfl⟩) (by simp)
    subst hxy
    have HSA := Lib.hid hsm
    rw [h0, h1]
    clear h0 h1 hsm hx hy HIS HX HY
    obtain ⟨_, c0, c1, c2, c3, c4⟩ := HM5.out.aa
    obtain ⟨l0, l1, _, _⟩ := la_cell2 (V := V + 1 + 1) HM5.out.la
    have HTK := Lib.hid (Takes_ a A B C G K ca cb cc cg ck l w5 HM5.out.ra HM5.out.rg HM5.out.rk)
    unfold TkPost at HTK
    have HEQ : Hid ((x && y) = true → tkB a l = tkB b l) := fun h => inc_same HH0.out (HSA.out.1 h) l
    have HER := Lib.hid (inc_err HH0.out l).1
    clear HSA
    generalize tkB a l = p at *
    generalize taErr a l = te at *
    cases x <;> cases y
    all_goals
      go_wp2_with fail
      refine HTK.out.mono ?_
      rintro e w6 ⟨rfl, hb6⟩
      have HM6 := Lib.hid (HM5.out.on hb6)
      clear hb6 c0 c1 c2 c3 c4 l0 l1
      obtain ⟨_, d0, d1, d2, d3, d4⟩ := HM6.out.ab
      obtain ⟨l0, l1, _, _⟩ := la_cell2 (V := V + 1 + 1) HM6.out.la
      have HTL := Lib.hid (Takes_ b D E F G K cd ce cf cg ck l w6 HM6.out.rb HM6.out.rg HM6.out.rk)
      unfold TkPost at HTL
      rw [HER.out] at HTL
      go_wp2_with fail
      refine HTL.out.mono ?_
      rintro e w7 ⟨rfl, hb7⟩
      have HP : Hid (BoolPost w true (.returned (.bool true)) w7) := ⟨rfl, Below_on HM6.out.below hb7 HM6.out.below.size⟩
      clear hb7 d0 d1 d2 d3 d4 l0 l1 HTL
      have heq := HEQ.out
      simp only [Bool.and_self, Bool.and_true, Bool.and_false, Bool.true_and, Bool.false_and, forall_const, Bool.false_eq_true, false_implies, true_implies] at heq
      by_cases ht : te = 0
      · subst ht
        first
          | (go_wp2_with fail; go_ret; exact HP.out)
          | (rw [← heq]; clear heq HEQ; cases p <;> (go_wp2_with fail; go_ret; exact HP.out))
      · have ht2 : (te != 0) = true := by simp [ht]
        clear ht heq
        go_wp2_with fail
        go_ret
        exact HP.out
  · have hr2 : (rdErrI a b != 0) = true := by simp [h0]
    rw [if_neg h0] at hsm
    subst hsm
    have HP : Hid (BoolPost w true (.returned (.bool true)) w5) := ⟨rfl, HM5.out.below⟩
    clear h0 HIS HX HY HM5
    generalize rdErrI a b = rd at *
    generalize rdErrI b a = rd2 at *
    go_wp2_with fail
    go_ret
    exact HP.out
end Go.Proofs.Ytoglgeaiiipchaa

namespace Go.Proofs.Ytoglgeaiiipchaa
open Go Go.ChangeShapes Go.WideShapes Go.ChangeAt Go.RowKit Go.Deep Go.Joins

theorem rd_flat {α : Type} {enc : α → List Value} {sz : Nat} (hsz : ∀ x, (enc x).length = sz) {w : World} {b : Nat} : ∀ (xs : List α) (off : Nat),
    (∀ (k : Nat) (hk : k < xs.length) (i : Nat) (u : Value), (enc xs[k])[i]? = some u → w.cell? ⟨b, off + (k * sz + i), none⟩ = some u) →
    ∀ (j : Nat) (u : Value), (xs.flatMap enc)[j]? = some u → w.cell? ⟨b, off + j, none⟩ = some u
  | [], _, _, j, u, hu => by simp at hu
  | x :: r, off, h, j, u, hu => by
    rw [List.flatMap_cons] at hu
    rcases Nat.lt_or_ge j sz with hj | hj
    · rw [List.getElem?_append_left (by rw [hsz]; exact hj)] at hu
      have := h 0 (by simp) j u (by simpa using hu)
      simpa using this
    · rw [List.getElem?_append_right (by rw [hsz]; exact hj), hsz] at hu
      have := rd_flat hsz r (off + sz) (fun k hk i v hv => by
        have := h (k + 1) (by simpa using hk) i v (by simpa using hv)
        rw [show off + sz + (k * sz + i) = off + ((k + 1) * sz + i) by rw [Nat.add_mul]; omega]
        exact this) (j - sz) u hu
      rw [show off + sz + (j - sz) = off + j by omega] at this
      exact this
theorem slE_of {α : Type} {enc : α → List Value} {sz bt : Nat} (hsz : ∀ x, (enc x).length = sz) (hp : 0 < sz) {w : World} {a : Addr} {len cap : Nat} (hl : len ≤ cap) (hm : cap ≤ maxLen) (hb : len * bt ≤ 140737488351232)
    (hx : ∀ i, i < len → ∃ x : α, ∀ j u, (enc x)[j]? = some u → w.cell? (a.add (i * sz + j)) = some u) : ∃ xs : List α, xs.length = len ∧ SlE enc bt w 0 (some a) cap xs := by
  have hc : ∀ i : Fin len, ∃ x : α, ∀ j u, (enc x)[j]? = some u → w.cell? (a.add (i.1 * sz + j)) = some u := fun i => hx i.1 i.2
  refine ⟨List.ofFn fun i => (hc i).choose, by simp, ⟨by simpa using hl, hm, by simpa using hb, fun hne => ?_⟩⟩
  have hlen : 0 < len := by
    rcases Nat.eq_zero_or_pos len with h | h
    · subst h; simp at hne
    · exact h
  obtain ⟨b, off, spot⟩ := a
  have h0 := (hc ⟨0, hlen⟩).choose_spec 0 _ (List.getElem?_eq_getElem (by rw [hsz]; exact hp))
  have hlt := World.block_lt_of_cell? _ _ h0
  have hs : spot = none := by
    have := World.cell?_spot h0
    simpa [Addr.add] using this
  subst hs
  refine ⟨b, off, rfl, Nat.zero_le _, by simpa [Addr.add] using hlt, rd_flat hsz _ off fun k hk i u hu => ?_⟩
  have hkl : k < len := by simpa using hk
  have := (hc ⟨k, hkl⟩).choose_spec i u (by simpa using hu)
  rw [Addr_add_off] at this
  exact this

section
variable {H : Type} {enc : TypeId × Value → H} {P : Program} {w : World} {spare : Nat → Bool} {held : Bool}
theorem struct_int {e : TypeId} {fs : Array Field} {n base : Nat} {cs : List Value} {y : DataW H × List MemPlace} (he : P.underlying e = some (.struct fs)) (h : DataW.trod enc P w base spare held n e cs = some y) (j : Nat) (f : Field)
    (hf : fs[j]? = some f) (ho : f.offset = j) (hc : P.cellsOf f.type = 1) (hi : P.underlying f.type = some (.int .i64)) : ∃ z, cs[j]? = some (.int .i64 z) := by
  obtain ⟨ys, n', hn', hy, hlen, hyl, hg⟩ := DataW.trod_struct he h
  have h1 := hg j f hf
  rw [ho, hc] at h1
  have hj : j < ys.length := by rw [hyl]; exact (Array.getElem?_eq_some_iff.1 hf).1
  rw [List.getElem?_eq_getElem hj] at h1
  obtain ⟨z, hz, _⟩ := DataW.trod_int hi h1
  have h2 := congrArg (fun l => l[0]?) hz
  exact ⟨z, by simpa using h2⟩

/-- a slice of numbers, as a reading -/
theorem ints_in {t e : TypeId} {n : Nat} {v : Value} {y : DataW H × List MemPlace} (ht : P.underlying t = some (.slice e)) (he : P.underlying e = some (.int .i64)) (hc : P.cellsOf e = 1) (hby : P.bytesOf e = 8)
    (h : DataW.trod enc P w 0 spare held n t [v] = some y) (hw : ∀ k ∈ y.1.weights P t, k ≤ reachBytes) : ∃ A c xs, v = .slice A xs.length c ∧ Ints w 0 A c xs := by
  rcases open_ints ht he hc h with ⟨hcs, _⟩ | ⟨a, len, cap, zs, hcs, _, hl, hm, hz, hx, hcell, _⟩
  · simp only [List.cons.injEq, and_true] at hcs
    exact ⟨none, 0, [], hcs, ⟨by simp, by omega, by simp, Rd.nil⟩⟩
  · simp only [List.cons.injEq, and_true] at hcs
    have hzl : len ≤ zs.length := by rw [hz]; split <;> omega
    have hwt := hw (zs.length * 8) (by
      rw [hx]
      simp only [DataW.weights, ht, lits, List.length_map, List.length_take, List.length_drop, hby]
      rw [show min len zs.length + (zs.length - len) = zs.length by omega]
      simp)
    obtain ⟨xs, hxl, hxs⟩ := slE_of (enc := fun n : Int => [Value.int .i64 n]) (sz := 1) (bt := 8) (fun _ => rfl) (by decide) (w := w) (a := a) hl hm (by simp only [reachBytes] at hwt; omega) (fun i hi => ⟨zs.getD i 0, fun j u hu => by
      have hj : j = 0 := by
        have := (List.getElem?_eq_some_iff.1 hu).1
        simp at this
        exact this
      subst hj
      simp at hu
      subst hu
      simpa using hcell i (by omega)⟩)
    exact ⟨some a, cap, xs, by rw [hcs, hxl], hxs⟩
/-- a slice of nodes, as a reading -/
theorem nds_in {t e ti : TypeId} {n : Nat} {v : Value} {y : DataW H × List MemPlace} {f0 f1 f2 f3 : Field} (ht : P.underlying t = some (.slice e)) (he : P.underlying e = some (.struct #[f0, f1, f2, f3])) (hc : P.cellsOf e = 4) (hby : P.bytesOf e = 32)
    (hi : P.underlying ti = some (.int .i64)) (hci : P.cellsOf ti = 1) (t0 : f0.type = ti) (t1 : f1.type = ti) (t2 : f2.type = ti) (t3 : f3.type = ti) (o0 : f0.offset = 0) (o1 : f1.offset = 1) (o2 : f2.offset = 2) (o3 : f3.offset = 3)
    (h : DataW.trod enc P w 0 spare held n t [v] = some y) (hw : ∀ k ∈ y.1.weights P t, k ≤ reachBytes) : ∃ A c xs, v = .slice A xs.length c ∧ Nds w 0 A c xs := by
  rcases open_slice ht h with ⟨hcs, _⟩ | ⟨a, len, cap, m, n', D, Pl, hcs, _, hl, hm, hmm, hx, hel⟩
  · simp only [List.cons.injEq, and_true] at hcs
    exact ⟨none, 0, [], hcs, ⟨by simp, by omega, by simp, Rd.nil⟩⟩
  · simp only [List.cons.injEq, and_true] at hcs
    have hml : len ≤ m := by rw [hmm]; split <;> omega
    have hwt := hw (m * 32) (by
      rw [hx]
      simp only [DataW.weights, ht, List.length_map, List.length_range, hby]
      rw [show len + (m - len) = m by omega]
      simp)
    obtain ⟨xs, hxl, hxs⟩ := slE_of (enc := Nd.cells) (sz := 4) (bt := 32) (fun _ => rfl) (by decide) (w := w) (a := a) hl hm (by simp only [reachBytes] at hwt; omega) (fun i hi' => by
      obtain ⟨cs', hcc, ht'⟩ := hel i (by omega)
      rw [hc] at hcc
      obtain ⟨_, hcl, hat⟩ := World.cells?_some hcc
      obtain ⟨z0, e0⟩ := struct_int he ht' 0 f0 rfl o0 (by rw [t0]; exact hci) (by rw [t0]; exact hi)
      obtain ⟨z1, e1⟩ := struct_int he ht' 1 f1 rfl o1 (by rw [t1]; exact hci) (by rw [t1]; exact hi)
      obtain ⟨z2, e2⟩ := struct_int he ht' 2 f2 rfl o2 (by rw [t2]; exact hci) (by rw [t2]; exact hi)
      obtain ⟨z3, e3⟩ := struct_int he ht' 3 f3 rfl o3 (by rw [t3]; exact hci) (by rw [t3]; exact hi)
      refine ⟨⟨z0, z1, z2, z3⟩, fun j u hu => ?_⟩
      rw [← Go.Deep.add_add]
      match j, hu with
      | 0, hu => rw [hat 0 (by decide), e0]; simpa [Nd.cells] using hu
      | 1, hu => rw [hat 1 (by decide), e1]; simpa [Nd.cells] using hu
      | 2, hu => rw [hat 2 (by decide), e2]; simpa [Nd.cells] using hu
      | 3, hu => rw [hat 3 (by decide), e3]; simpa [Nd.cells] using hu
      | j + 4, hu => simp [Nd.cells] at hu)
    exact ⟨some a, cap, xs, by rw [hcs, hxl], hxs⟩
end
end Go.Proofs.Ytoglgeaiiipchaa

namespace Go.Proofs.Ytoglgeaiiipchaa
open Go Go.ChangeShapes Go.WideShapes Go.ChangeAt Go.RowKit Go.Deep Go.Joins

section
variable {H : Type} {enc : TypeId × Value → H} {P : Program} {w : World} {spare : Nat → Bool} {held : Bool}
theorem array5 {α : Type} {cs : Array α} (h : cs.size = 5) : ∃ c0 c1 c2 c3 c4, cs = #[c0, c1, c2, c3, c4] := by
  obtain ⟨l⟩ := cs
  match l, h with
  | [c0, c1, c2, c3, c4], _ => exact ⟨c0, c1, c2, c3, c4, rfl⟩
/-- one field of a struct of one-cell fields -/
theorem field_in {t : TypeId} {fs : Array Field} {n base : Nat} {cs : List Value} {x : DataW H × List MemPlace} (hs : P.underlying t = some (.struct fs)) (hone : oneCellFields P fs = true) (h : DataW.trod enc P w base spare held n t cs = some x) :
    ∃ (ys : List (DataW H × List MemPlace)) (m : Nat), x.1 = .agg (ys.map Prod.fst) ∧ ys.length = fs.size ∧ ∀ j f, fs[j]? = some f → DataW.trod enc P w base spare held m f.type ((cs.drop j).take 1) = ys[j]? := by
  obtain ⟨ys, n', hn', rfl, hlen, hyl, hg⟩ := DataW.trod_struct hs h
  refine ⟨ys, n', rfl, hyl, fun j f hf => ?_⟩
  obtain ⟨o, k⟩ := hone_of hone j f hf
  have := hg j f hf
  rwa [o, k] at this
/-- a slice of bools, as a reading -/
theorem bools_in {t e : TypeId} {n : Nat} {v : Value} {y : DataW H × List MemPlace} (ht : P.underlying t = some (.slice e)) (he : P.underlying e = some .bool) (hc : P.cellsOf e = 1) (hby : P.bytesOf e = 1)
    (h : DataW.trod enc P w 0 spare held n t [v] = some y) (hw : ∀ k ∈ y.1.weights P t, k ≤ reachBytes) : ∃ A c xs, v = .slice A xs.length c ∧ Bools w 0 A c xs := by
  rcases open_slice ht h with ⟨hcs, _⟩ | ⟨a, len, cap, m, n', D, Pl, hcs, _, hl, hm, hmm, hx, hel⟩
  · simp only [List.cons.injEq, and_true] at hcs
    exact ⟨none, 0, [], hcs, ⟨by simp, by omega, by simp, Rd.nil⟩⟩
  · simp only [List.cons.injEq, and_true] at hcs
    have hml : len ≤ m := by rw [hmm]; split <;> omega
    have hwt := hw (m * 1) (by
      rw [hx]
      simp only [DataW.weights, ht, List.length_map, List.length_range, hby]
      rw [show len + (m - len) = m by omega]
      simp)
    obtain ⟨xs, hxl, hxs⟩ := slE_of (enc := fun b : Bool => [Value.bool b]) (sz := 1) (bt := 1) (fun _ => rfl) (by decide) (w := w) (a := a) hl hm (by simp only [reachBytes] at hwt; omega) (fun i hi' => by
      obtain ⟨cs', hcc, ht'⟩ := hel i (by omega)
      rw [hc] at hcc
      obtain ⟨_, hcl, hat⟩ := World.cells?_some hcc
      obtain ⟨b, hb, _⟩ := DataW.trod_bool he ht'
      refine ⟨b, fun j u hu => ?_⟩
      rw [← Go.Deep.add_add]
      match j, hu with
      | 0, hu => rw [hat 0 (by decide), hb]; simpa using hu
      | j + 1, hu => simp at hu)
    exact ⟨some a, cap, xs, by rw [hcs, hxl], hxs⟩
/-- a slice of steps, as a reading -/
theorem stps_in {t e ti : TypeId} {n : Nat} {v : Value} {y : DataW H × List MemPlace} {f0 f1 f2 : Field} (ht : P.underlying t = some (.slice e)) (he : P.underlying e = some (.struct #[f0, f1, f2])) (hc : P.cellsOf e = 3) (hby : P.bytesOf e = 24)
    (hi : P.underlying ti = some (.int .i64)) (hci : P.cellsOf ti = 1) (t0 : f0.type = ti) (t1 : f1.type = ti) (t2 : f2.type = ti) (o0 : f0.offset = 0) (o1 : f1.offset = 1) (o2 : f2.offset = 2)
    (h : DataW.trod enc P w 0 spare held n t [v] = some y) (hw : ∀ k ∈ y.1.weights P t, k ≤ reachBytes) : ∃ A c xs, v = .slice A xs.length c ∧ Stps w 0 A c xs := by
  rcases open_slice ht h with ⟨hcs, _⟩ | ⟨a, len, cap, m, n', D, Pl, hcs, _, hl, hm, hmm, hx, hel⟩
  · simp only [List.cons.injEq, and_true] at hcs
    exact ⟨none, 0, [], hcs, ⟨by simp, by omega, by simp, Rd.nil⟩⟩
  · simp only [List.cons.injEq, and_true] at hcs
    have hml : len ≤ m := by rw [hmm]; split <;> omega
    have hwt := hw (m * 24) (by
      rw [hx]
      simp only [DataW.weights, ht, List.length_map, List.length_range, hby]
      rw [show len + (m - len) = m by omega]
      simp)
    obtain ⟨xs, hxl, hxs⟩ := slE_of (enc := Stp.cells) (sz := 3) (bt := 24) (fun _ => rfl) (by decide) (w := w) (a := a) hl hm (by simp only [reachBytes] at hwt; omega) (fun i hi' => by
      obtain ⟨cs', hcc, ht'⟩ := hel i (by omega)
      rw [hc] at hcc
      obtain ⟨_, hcl, hat⟩ := World.cells?_some hcc
      obtain ⟨z0, e0⟩ := struct_int he ht' 0 f0 rfl o0 (by rw [t0]; exact hci) (by rw [t0]; exact hi)
      obtain ⟨z1, e1⟩ := struct_int he ht' 1 f1 rfl o1 (by rw [t1]; exact hci) (by rw [t1]; exact hi)
      obtain ⟨z2, e2⟩ := struct_int he ht' 2 f2 rfl o2 (by rw [t2]; exact hci) (by rw [t2]; exact hi)
      refine ⟨⟨z0, z1, z2⟩, fun j u hu => ?_⟩
      rw [← Go.Deep.add_add]
      match j, hu with
      | 0, hu => rw [hat 0 (by decide), e0]; simpa [Stp.cells] using hu
      | 1, hu => rw [hat 1 (by decide), e1]; simpa [Stp.cells] using hu
      | 2, hu => rw [hat 2 (by decide), e2]; simpa [Stp.cells] using hu
      | j + 3, hu => simp [Stp.cells] at hu)
    exact ⟨some a, cap, xs, by rw [hcs, hxl], hxs⟩
/-- an automaton by value, as a reading -/
theorem au_in {t tF tG tS ti tb ts : TypeId} {f0 f1 f2 f3 f4 s0 s1 s2 : Field} {r : Reach} {b0 : Nat} {v : Value} {d : DataW H} {p : List MemPlace} (hs : P.underlying t = some (.struct #[f0, f1, f2, f3, f4])) (hone : oneCellFields P #[f0, f1, f2, f3, f4] = true) (hC : P.cellsOf t = 5)
    (hi : P.underlying ti = some (.int .i64)) (hci : P.cellsOf ti = 1) (hbi : P.bytesOf ti = 8) (hb : P.underlying tb = some .bool) (hcb : P.cellsOf tb = 1) (hbb : P.bytesOf tb = 1) (hss : P.underlying ts = some (.struct #[s0, s1, s2])) (hcs : P.cellsOf ts = 3) (hbs : P.bytesOf ts = 24)
    (t0 : f0.type = ti) (t1 : f1.type = ti) (t2 : f2.type = tF) (t3 : f3.type = tG) (t4 : f4.type = tS) (hF : P.underlying tF = some (.slice ti)) (hG : P.underlying tG = some (.slice tb)) (hS : P.underlying tS = some (.slice ts))
    (u0 : s0.type = ti) (u1 : s1.type = ti) (u2 : s2.type = ti) (o0 : s0.offset = 0) (o1 : s1.offset = 1) (o2 : s2.offset = 2)
    (hv : Value.okWide P w r b0 t v) (h : DataW.Trod enc P w 0 spare held t v d p) (hw : ∀ k ∈ d.weights P t, k ≤ reachBytes) :
    ∃ a A B C ca cb cc, v = .agg #[.int .i64 a.st, .int .i64 a.le, .slice A a.fs.length ca, .slice B a.gs.length cb, .slice C a.ss.length cc] ∧ AuRd w 0 a A B C ca cb cc := by
  obtain ⟨cs, rfl, hsz⟩ := okWide_struct hs hv
  obtain ⟨c0, c1, c2, c3, c4, rfl⟩ := array5 (hsz.trans hC)
  obtain ⟨fuel, hf⟩ := h
  obtain ⟨ys, m, hd, hyl, hy⟩ := field_in hs hone hf
  simp only [Value.cells] at hy
  match ys, hyl with
  | [y0, y1, y2, y3, y4], _ =>
    have e0 := hy 0 f0 rfl
    have e1 := hy 1 f1 rfl
    have e2 := hy 2 f2 rfl
    have e3 := hy 3 f3 rfl
    have e4 := hy 4 f4 rfl
    simp only [t0, t1, t2, t3, t4, List.drop_zero, List.drop_succ_cons, List.take_succ_cons, List.take_zero, List.getElem?_cons_zero, List.getElem?_cons_succ] at e0 e1 e2 e3 e4
    obtain ⟨z0, hz0, _⟩ := DataW.trod_int hi e0
    obtain ⟨z1, hz1, _⟩ := DataW.trod_int hi e1
    have hw' : ∀ k, k ∈ y2.1.weights P tF ∨ k ∈ y3.1.weights P tG ∨ k ∈ y4.1.weights P tS → k ≤ reachBytes := fun k hk => hw k (by
      rw [show d = _ from hd]
      simp only [DataW.weights, hs]
      simp only [List.map_cons, List.map_nil, DataW.weightsEach, List.mem_append, t0, t1, t2, t3, t4]
      simp
      rcases hk with hk | hk | hk
      · exact .inr (.inr (.inl hk))
      · exact .inr (.inr (.inr (.inl hk)))
      · exact .inr (.inr (.inr (.inr hk))))
    obtain ⟨A, ca, fs, rfl, hA⟩ := ints_in hF hi hci hbi e2 (fun k hk => hw' k (.inl hk))
    obtain ⟨B, cb, gs, rfl, hB⟩ := bools_in hG hb hcb hbb e3 (fun k hk => hw' k (.inr (.inl hk)))
    obtain ⟨C, cc, ss, rfl, hSS⟩ := stps_in hS hss hcs hbs hi hci u0 u1 u2 o0 o1 o2 e4 (fun k hk => hw' k (.inr (.inr hk)))
    obtain rfl : c0 = .int .i64 z0 := by simpa using hz0
    obtain rfl : c1 = .int .i64 z1 := by simpa using hz1
    exact ⟨⟨z0, z1, fs, gs, ss⟩, A, B, C, ca, cb, cc, rfl, hA, hB, hSS⟩
end
end Go.Proofs.Ytoglgeaiiipchaa
