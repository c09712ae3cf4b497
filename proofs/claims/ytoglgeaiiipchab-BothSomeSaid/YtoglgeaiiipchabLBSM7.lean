/- Walks: both.ready. -/
import Derived.Test.YtoglgeaiiipchabLBSM2
import Derived.Test.YtoglgeaiiipchabLBSM6
import Derived.Lib.AppendZerosOnto
import Derived.Deep.RegionLaw
import Derived.Deep.CutBlock
import Derived.Deep.DeepCutAuto
set_option linter.unusedSimpArgs false
set_option linter.unusedVariables false
namespace Go.Proofs.Ytoglgeaiiipchab
open Go Go.RowKit

theorem infoStp : (Try.prog.info? 49).map (fun i => (i.zero, i.size, i.bytes)) = some (some (.agg #[.int .i64 0, .int .i64 0, .int .i64 0]), 3, 24) := by kernel_rfl
/-- what is handed back is a row of the call's own -/
def OwnP (t : TypeId) (sz n : Nat) (cells : List Value) (w : World) (e : Ending) (w' : World) : Prop :=
  ∃ v, e = .returned v ∧ w'.ownsRow w.heap.size t sz v n cells ∧ Below w.heap.size w w'
set_option maxRecDepth 100000 in
theorem CloneIO_ (A : Option Addr) (c : Nat) (xs : List Int) (w : World) (hx : Ints w 0 A c xs) :
    Calls Try.prog 51 #[.slice A xs.length c] w (OwnP 3 1 xs.length (xs.flatMap fun n : Int => [Value.int .i64 n]) w) := by
  obtain ⟨i0, hi0, hz0, hz1, hz2⟩ := info_parts infoInt
  have hmax := hx.max
  have q24 : ∀ (w : World) (a : Option Addr) (n c n' c' : Nat), (binOp .eql 22 (.slice a n c) (.slice none n' c')).run Try.prog w = .ok (.bool a.isNone) w := fun w a n c n' c' => Lib.run_eql_slice_nil w _ _ a n c n' c' Try.underlying22
  cases A with
  | none =>
    have hxs : xs = [] := by
      cases xs with
      | nil => rfl
      | cons x r =>
        obtain ⟨b, off, h, _⟩ := hx.rd (by simp)
        cases h
    subst hxs
    have HP : Hid (OwnP 3 1 0 [] w (.returned (.slice none 0 0)) w) := ⟨_, rfl, World.ownsRow_nil _ _ _ _, Below.refl _ _⟩
    go_enter Try.func51, Try.ntmps51
    go_wp2_with fail
    go_ret
    exact HP.out
  | some a =>
    have HX := Lib.hid (hx.rd.below (w' := w.alloc (Obj.cells #[] 3)) ((Below.refl _ _).alloc (Nat.le_refl _) _) (Nat.le_refl _))
    have HO := Lib.hid (own_empty (w := w) (base := w.heap.size) 3 1 (Nat.le_refl _))
    have m2 : (0 + xs.length) * 8 ≤ 140737488355328 := by omega
    have m3 : 0 + xs.length ≤ maxLen := by simp only [maxLen]; omega
    have m4 : w.heap.size ≤ (w.alloc (Obj.cells #[] 3)).heap.size := by simp
    clear hx hmax
    go_enter Try.func51, Try.ntmps51
    go_wp2_with (at_builtin; refine wpList_app _ rfl (.tmp 5) (.tmp 6) _ rfl w.heap.size 3 i0 _ 1 8 Try.underlying22 hi0 hz0 hz1 hz2 rfl (by decide) (.slice (some ⟨w.heap.size, 0, none⟩) 0 0) 0 [] rfl HO.out (some a) xs.length c _ rfl (flatMap_len (sz := 1) (fun _ => rfl) _) HX.out (ints_oneCell _) m3 m2 m4 ?_; intro v2 w2 hown2 hg2 hat2)
    have HP : Hid (OwnP 3 1 xs.length (xs.flatMap fun n : Int => [Value.int .i64 n]) w (.returned v2) w2) :=
      ⟨v2, rfl, by simpa using hown2, grownOwn_ ((Below.refl _ _).alloc (Nat.le_refl _) _) hg2 HO.out (Nat.le_refl _) (by simp)⟩
    clear hown2 hg2 hat2
    go_wp2_with fail
    go_ret
    exact HP.out
set_option maxRecDepth 100000 in
theorem CloneSO_ (A : Option Addr) (c : Nat) (xs : List Stp) (w : World) (hx : Stps w 0 A c xs) :
    Calls Try.prog 54 #[.slice A xs.length c] w (OwnP 49 3 xs.length (xs.flatMap Stp.cells) w) := by
  obtain ⟨i0, hi0, hz0, hz1, hz2⟩ := info_parts infoStp
  have hmax := hx.max
  have q24 : ∀ (w : World) (a : Option Addr) (n c n' c' : Nat), (binOp .eql 24 (.slice a n c) (.slice none n' c')).run Try.prog w = .ok (.bool a.isNone) w := fun w a n c n' c' => Lib.run_eql_slice_nil w _ _ a n c n' c' Try.underlying24
  cases A with
  | none =>
    have hxs : xs = [] := by
      cases xs with
      | nil => rfl
      | cons x r =>
        obtain ⟨b, off, h, _⟩ := hx.rd (by simp [Stp.cells])
        cases h
    subst hxs
    have HP : Hid (OwnP 49 3 0 [] w (.returned (.slice none 0 0)) w) := ⟨_, rfl, World.ownsRow_nil _ _ _ _, Below.refl _ _⟩
    go_enter Try.func54, Try.ntmps54
    go_wp2_with fail
    go_ret
    exact HP.out
  | some a =>
    have HX := Lib.hid (hx.rd.below (w' := w.alloc (Obj.cells #[] 49)) ((Below.refl _ _).alloc (Nat.le_refl _) _) (Nat.le_refl _))
    have HO := Lib.hid (own_empty (w := w) (base := w.heap.size) 49 3 (Nat.le_refl _))
    have m2 : (0 + xs.length) * 24 ≤ 140737488355328 := by omega
    have m3 : 0 + xs.length ≤ maxLen := by simp only [maxLen]; omega
    have m4 : w.heap.size ≤ (w.alloc (Obj.cells #[] 49)).heap.size := by simp
    clear hx hmax
    go_enter Try.func54, Try.ntmps54
    go_wp2_with (at_builtin; refine wpList_app _ rfl (.tmp 5) (.tmp 6) _ rfl w.heap.size 49 i0 _ 3 24 Try.underlying24 hi0 hz0 hz1 hz2 rfl (by decide) (.slice (some ⟨w.heap.size, 0, none⟩) 0 0) 0 [] rfl HO.out (some a) xs.length c _ rfl (flatMap_len (sz := 3) (fun _ => rfl) _) HX.out (stps_oneCell _) m3 m2 m4 ?_; intro v2 w2 hown2 hg2 hat2)
    have HP : Hid (OwnP 49 3 xs.length (xs.flatMap Stp.cells) w (.returned v2) w2) :=
      ⟨v2, rfl, by simpa using hown2, grownOwn_ ((Below.refl _ _).alloc (Nat.le_refl _) _) hg2 HO.out (Nat.le_refl _) (by simp)⟩
    clear hown2 hg2 hat2
    go_wp2_with fail
    go_ret
    exact HP.out

/-- what Grow leaves of nothing: room, and no element -/
def GrowPostB (w : World) (t : TypeId) (e : Ending) (w' : World) : Prop :=
  ∃ v, e = .returned v ∧ w'.ownsRow w.heap.size t 1 v 0 [] ∧ Below w.heap.size w w'

set_option maxRecDepth 100000 in
theorem GrowB_ (n : Nat) (hn : n ≤ 100000000) (w : World) :
    Calls Try.prog 77 #[.slice none 0 0, .int .i64 n] w (GrowPostB w 4) := by
  obtain ⟨i0, hi0, hz0, hz1, hz2⟩ := info_parts infoBool
  by_cases h0 : n = 0
  · subst h0
    have HP : Hid (GrowPostB w 4 (.returned (.slice none 0 0)) w) := ⟨_, rfl, World.ownsRow_nil _ _ _ _, Below.refl _ _⟩
    go_enter Try.func77, Try.ntmps77
    go_wp2
    go_ret
    exact HP.out
  · have hp : 0 < n := by omega
    have hap := Lib.run_append_grow_zeros (P := Try.prog) w 23 3 23 4 i0 _ .i64 .i64 Try.underlying23 Try.underlying3 hi0 hz0 none 0 0 [] (by rw [hz1]; rfl) n hp (by omega) (by omega) (by omega) (by rw [hz2]; omega) (by rw [hz2, show Builtin.nextslicecap (0 + n) 0 = n by simp [Builtin.nextslicecap, hp]]; omega)
    have hcap := grownCap_ge w (0 + n) 0 4
    have hcap2 := grownCap_le_maxLen w (0 + n) 0 4 (by simp only [maxLen]; omega)
    simp only [Nat.zero_add] at hap hcap hcap2
    generalize grownCap w n 0 4 = cp at *
    go_enter Try.func77, Try.ntmps77
    have HAP := Lib.hid hap
    clear hap
    go_wp2_with (at_builtin; refine wpList_appRun rfl (.tmp 20) (.tmp 21) _ _ rfl _ _ _ rfl rfl HAP.out ?_)
    have HP : Hid (GrowPostB w 4 (.returned (.slice (some ⟨w.heap.size, 0, none⟩) 0 cp)) (w.alloc (Obj.cells (Builtin.zeroCells #[Value.bool false] n ++ Builtin.zeroCells #[Value.bool false] (cp - n)) 4)).drew) := by
      refine ⟨_, rfl, own_room _ _ (Nat.le_refl _) (by simpa using hcap2) ?_, ((Below.refl _ _).alloc (Nat.le_refl _) _).drew⟩
      simp [Builtin.zeroCells]
      try omega
    go_ret
    exact HP.out

set_option maxRecDepth 100000 in
set_option maxHeartbeats 1000000 in
theorem ConcatBO_ (G : Nat) (A B : Option Addr) (ca cb : Nat) (xs ys : List Bool) (w : World) (hx : Bools w 0 A ca xs) (hy : Bools w 0 B cb ys) (hl : xs.length + ys.length ≤ 100000000)
    (h0 : w.cell? ⟨G, 0, none⟩ = some (.slice A xs.length ca)) (h1 : w.cell? ⟨G, 1, none⟩ = some (.slice B ys.length cb)) (hG : G < w.heap.size) :
    Calls Try.prog 53 #[.slice (some ⟨G, 0, none⟩) 2 2] w (OwnP 4 1 (xs ++ ys).length ((xs ++ ys).flatMap fun b : Bool => [Value.bool b]) w) := by
  obtain ⟨i0, hi0, hz0, hz1, hz2⟩ := info_parts infoBool
  go_enter Try.func53, Try.ntmps53
  go_wp2
  go_loop [3, 11] (fun s i => ∃ k : Nat, k ≤ 2 ∧ i = .int .i64 k ∧ s = .int .i64 (if k = 0 then 0 else if k = 1 then xs.length else xs.length + ys.length : Nat)) (fun _ i => 2 - (intOf i).toNat)
  case atStart => exact ⟨0, by omega, rfl, rfl⟩
  case round =>
    obtain ⟨k, hk, rfl, rfl⟩ := hrel
    have hk3 : k = 0 ∨ k = 1 ∨ k = 2 := by omega
    rcases hk3 with rfl | rfl | rfl
    · go_wp2
      go_round
      case rel => exact ⟨1, by omega, rfl, rfl⟩
      case measure => simp [intOf]
    · go_wp2
      go_round
      case rel => exact ⟨2, by omega, rfl, by simp⟩
      case measure => simp [intOf]
    · go_wp2_with fail
      rw [show ((xs.length : Int) + (ys.length : Int)) = ((xs.length + ys.length : Nat) : Int) from by omega]
      refine (GrowB_ _ hl w).mono ?_
      rintro e w1 ⟨v, rfl, hown, hb1⟩
      have HO := Lib.hid hown
      clear hown
      go_wp2
      go_loopw [6, 27] (fun v i wr => ∃ (k : Nat) (zs : List Bool), k ≤ 2 ∧ i = .int .i64 k ∧ Hid (zs = if k = 0 then [] else if k = 1 then xs else xs ++ ys) ∧ wr.ownsRow w.heap.size 4 1 v zs.length (zs.flatMap fun b : Bool => [Value.bool b]) ∧ Below w.heap.size w wr) (fun _ i _ => 2 - (intOf i).toNat)
      case atStart => exact ⟨0, [], by omega, rfl, rfl, by simpa using HO.out, hb1⟩
      case round =>
        obtain ⟨k, zs, hk, rfl, hzs, hown, hb⟩ := hrel
        have HOW := Lib.hid hown
        have HB := Lib.hid hb
        have g0 : wr.cell? ⟨G, 0, none⟩ = some (.slice A xs.length ca) := (hb.cell (p := ⟨G, 0, none⟩) hG).trans h0
        have g1 : wr.cell? ⟨G, 1, none⟩ = some (.slice B ys.length cb) := (hb.cell (p := ⟨G, 1, none⟩) hG).trans h1
        have HX := Lib.hid (hx.below hb)
        have HY := Lib.hid (hy.below hb)
        clear hown hb
        have hk3 : k = 0 ∨ k = 1 ∨ k = 2 := by omega
        rcases hk3 with rfl | rfl | rfl
        · obtain rfl : zs = [] := by simpa using hzs.out
          have m2 : (0 + xs.length) * 1 ≤ 140737488355328 := by omega
          have m3 : 0 + xs.length ≤ maxLen := by simp only [maxLen]; omega
          go_wp2_with (at_builtin; refine wpList_app _ rfl (.tmp 31) (.tmp 32) _ rfl w.heap.size 4 i0 _ 1 1 Try.underlying23 hi0 hz0 hz1 hz2 rfl (by decide) u6 0 [] rfl HOW.out A xs.length ca _ rfl (flatMap_len (sz := 1) (fun _ => rfl) _) HX.out.rd (bools_oneCell _) m3 m2 HB.out.size ?_; intro v2 w2 hown2 hg2 hat2)
          go_roundw
          case rel => exact ⟨1, xs, by omega, rfl, show _ = _ from by simp, by simpa using hown2, grownOwn_ HB.out hg2 HOW.out (Nat.le_refl _) HB.out.size⟩
          case measure => simp [intOf]
        · obtain rfl : zs = xs := by simpa using hzs.out
          have m2 : (zs.length + ys.length) * 1 ≤ 140737488355328 := by omega
          have m3 : zs.length + ys.length ≤ maxLen := by simp only [maxLen]; omega
          go_wp2_with (at_builtin; refine wpList_app _ rfl (.tmp 31) (.tmp 32) _ rfl w.heap.size 4 i0 _ 1 1 Try.underlying23 hi0 hz0 hz1 hz2 rfl (by decide) u6 _ _ rfl HOW.out B ys.length cb _ rfl (flatMap_len (sz := 1) (fun _ => rfl) _) HY.out.rd (bools_oneCell _) m3 m2 HB.out.size ?_; intro v2 w2 hown2 hg2 hat2)
          go_roundw
          case rel => exact ⟨2, zs ++ ys, by omega, rfl, show _ = _ from by simp, by simpa using hown2, grownOwn_ HB.out hg2 HOW.out (Nat.le_refl _) HB.out.size⟩
          case measure => simp [intOf]
        · obtain rfl : zs = xs ++ ys := by simpa using hzs.out
          have HP : Hid (OwnP 4 1 (xs ++ ys).length ((xs ++ ys).flatMap fun b : Bool => [Value.bool b]) w (.returned u6) wr) := ⟨u6, rfl, HOW.out, HB.out⟩
          clear HOW hzs
          go_wp2
          go_ret
          exact HP.out
end Go.Proofs.Ytoglgeaiiipchab

namespace Go.Proofs.Ytoglgeaiiipchab
open Go Go.RowKit

/-- what is wrong with two automata -/
def rdErr (a b : Au) : Int := if ckA a = 0 then (if ckA b = 0 then (if a.le = b.le then 0 else 1) else ckA b) else ckA a
/-- two automata laid in variables -/
def auW2 (w : World) (a b : Au) (A B C D E F : Option Addr) (ca cb cc cd ce cf : Nat) : World := auW (auW w a A B C ca cb cc) b D E F cd ce cf
structure AuW2 (w W : World) (a b : Au) (A B C D E F : Option Addr) (ca cb cc cd ce cf : Nat) : Prop where
  below : Below w.heap.size w W
  size : W.heap.size = w.heap.size + 2
  at1 : AuAt W w.heap.size a A B C ca cb cc
  at2 : AuAt W (w.heap.size + 1) b D E F cd ce cf
theorem auW2_is (w : World) (a b : Au) (A B C D E F : Option Addr) (ca cb cc cd ce cf : Nat) : AuW2 w (auW2 w a b A B C D E F ca cb cc cd ce cf) a b A B C D E F ca cb cc cd ce cf := by
  have h1 := auW_is w a A B C ca cb cc
  have h2 := auW_is (auW w a A B C ca cb cc) b D E F cd ce cf
  unfold auW2
  have s1 := h1.size
  have s2 := h2.size
  refine ⟨Below_on h1.below h2.below h1.below.size, by omega, h1.at.below h2.below h1.at.lt, ?_⟩
  have := h2.at
  rwa [s1] at this
/-- both in one row -/
structure Au2At (W : World) (G : Nat) (a b : Au) (A B C D E F : Option Addr) (ca cb cc cd ce cf : Nat) : Prop where
  lt : G < W.heap.size
  c0 : W.cell? ⟨G, 0, none⟩ = some (.int .i64 a.st)
  c1 : W.cell? ⟨G, 1, none⟩ = some (.int .i64 a.le)
  c2 : W.cell? ⟨G, 2, none⟩ = some (.slice A a.fs.length ca)
  c3 : W.cell? ⟨G, 3, none⟩ = some (.slice B a.gs.length cb)
  c4 : W.cell? ⟨G, 4, none⟩ = some (.slice C a.ss.length cc)
  c5 : W.cell? ⟨G, 5, none⟩ = some (.int .i64 b.st)
  c6 : W.cell? ⟨G, 6, none⟩ = some (.int .i64 b.le)
  c7 : W.cell? ⟨G, 7, none⟩ = some (.slice D b.fs.length cd)
  c8 : W.cell? ⟨G, 8, none⟩ = some (.slice E b.gs.length ce)
  c9 : W.cell? ⟨G, 9, none⟩ = some (.slice F b.ss.length cf)
theorem Au2At.below {W W' : World} {G n : Nat} {a b : Au} {A B C D E F : Option Addr} {ca cb cc cd ce cf : Nat} (h : Au2At W G a b A B C D E F ca cb cc cd ce cf) (hb : Below n W W') (hn : G < n) : Au2At W' G a b A B C D E F ca cb cc cd ce cf :=
  ⟨Nat.lt_of_lt_of_le h.lt hb.size, (hb.cell (p := ⟨G, 0, none⟩) hn).trans h.c0, (hb.cell (p := ⟨G, 1, none⟩) hn).trans h.c1, (hb.cell (p := ⟨G, 2, none⟩) hn).trans h.c2, (hb.cell (p := ⟨G, 3, none⟩) hn).trans h.c3, (hb.cell (p := ⟨G, 4, none⟩) hn).trans h.c4,
    (hb.cell (p := ⟨G, 5, none⟩) hn).trans h.c5, (hb.cell (p := ⟨G, 6, none⟩) hn).trans h.c6, (hb.cell (p := ⟨G, 7, none⟩) hn).trans h.c7, (hb.cell (p := ⟨G, 8, none⟩) hn).trans h.c8, (hb.cell (p := ⟨G, 9, none⟩) hn).trans h.c9⟩
def au2W (w : World) (a b : Au) (A B C D E F : Option Addr) (ca cb cc cd ce cf : Nat) : World :=
  w.alloc (Obj.cells #[.int .i64 a.st, .int .i64 a.le, .slice A a.fs.length ca, .slice B a.gs.length cb, .slice C a.ss.length cc, .int .i64 b.st, .int .i64 b.le, .slice D b.fs.length cd, .slice E b.gs.length ce, .slice F b.ss.length cf] 26)
theorem au2W_is (w : World) (a b : Au) (A B C D E F : Option Addr) (ca cb cc cd ce cf : Nat) : Below w.heap.size w (au2W w a b A B C D E F ca cb cc cd ce cf) ∧ Au2At (au2W w a b A B C D E F ca cb cc cd ce cf) w.heap.size a b A B C D E F ca cb cc cd ce cf := by
  unfold au2W
  refine ⟨by go_grown, by simp, ?_, ?_, ?_, ?_, ?_, ?_, ?_, ?_, ?_, ?_⟩ <;> go_simp
set_option maxRecDepth 100000 in
set_option maxHeartbeats 4000000 in
theorem ready_ (a b : Au) (A B C D E F : Option Addr) (ca cb cc cd ce cf : Nat) (w : World) (ha : AuRd w 0 a A B C ca cb cc) (hb : AuRd w 0 b D E F cd ce cf) :
    Calls Try.prog 52 #[.agg #[.int .i64 a.st, .int .i64 a.le, .slice A a.fs.length ca, .slice B a.gs.length cb, .slice C a.ss.length cc], .agg #[.int .i64 b.st, .int .i64 b.le, .slice D b.fs.length cd, .slice E b.gs.length ce, .slice F b.ss.length cf]] w (IntB w (rdErr a b)) := by
  have HCA := Lib.hid (fun W (hW : Below w.heap.size w W) => autoCheck_ a A B C ca cb cc W (ha.below hW))
  have HCB := Lib.hid (fun W (hW : Below w.heap.size w W) => autoCheck_ b D E F cd ce cf W (hb.below hW))
  have HW2 := Lib.hid (auW2_is w a b A B C D E F ca cb cc cd ce cf)
  clear ha hb
  go_enter Try.func52, Try.ntmps52
  go_upto_region 1 with fail
  change Code.wp _ _ _ _ (auW2 w a b A B C D E F ca cb cc cd ce cf)
  generalize auW2 w a b A B C D E F ca cb cc cd ce cf = W0 at *
  obtain ⟨V, hV⟩ : ∃ V, V = w.heap.size := ⟨_, rfl⟩
  have HV := Lib.hid hV
  have HA1 := Lib.hid (show AuAt W0 V a A B C ca cb cc by rw [hV]; exact HW2.out.at1)
  have HA2 := Lib.hid (show AuAt W0 (V + 1) b D E F cd ce cf by rw [hV]; exact HW2.out.at2)
  have HBW := Lib.hid HW2.out.below
  rw [← hV]
  clear HW2 hV
  obtain ⟨_, c0, c1, c2, c3, c4⟩ := HA1.out
  obtain ⟨_, d0, d1, d2, d3, d4⟩ := HA2.out
  have H2 := Lib.hid (au2W_is W0 a b A B C D E F ca cb cc cd ce cf)
  go_upto_block 0 with fail
  change Code.wp _ _ _ _ (au2W W0 a b A B C D E F ca cb cc cd ce cf)
  generalize au2W W0 a b A B C D E F ca cb cc cd ce cf = W1 at *
  obtain ⟨G, hG⟩ : ∃ G, G = W0.heap.size := ⟨_, rfl⟩
  rw [← hG] at H2 ⊢
  have HA3 := Lib.hid H2.out.2
  have HBW1 : Hid (Below w.heap.size w W1) := Below_on HBW.out H2.out.1 (by rw [hG]; exact HBW.out.size)
  have HA1' := Lib.hid (HA1.out.below H2.out.1 (by rw [hG]; exact HA1.out.lt))
  have HA2' := Lib.hid (HA2.out.below H2.out.1 (by rw [hG]; exact HA2.out.lt))
  clear H2 hG c0 c1 c2 c3 c4 d0 d1 d2 d3 d4 HA1 HA2 HBW
  go_wp2_with fail
  go_loopw [6, 7, 12] (fun _ _ i wr => ∃ k : Nat, k ≤ 2 ∧ i = .int .i64 k ∧ Hid (Below W1.heap.size W1 wr) ∧ Hid (1 ≤ k → ckA a = 0) ∧ Hid (2 ≤ k → ckA b = 0)) (fun _ _ i _ => 2 - (intOf i).toNat)
  case atStart => exact ⟨0, by omega, rfl, Below.refl _ _, fun h => absurd h (by omega), fun h => absurd h (by omega)⟩
  case round =>
    obtain ⟨k, hk, rfl, HB, HCK1, HCK2⟩ := hrel
    obtain ⟨_, c0, c1, c2, c3, c4⟩ := HA1'.out.below HB.out HA1'.out.lt
    obtain ⟨_, d0, d1, d2, d3, d4⟩ := HA2'.out.below HB.out HA2'.out.lt
    obtain ⟨_, e0, e1, e2, e3, e4, e5, e6, e7, e8, e9⟩ := HA3.out.below HB.out HA3.out.lt
    have hk3 : k = 0 ∨ k = 1 ∨ k = 2 := by omega
    rcases hk3 with rfl | rfl | rfl
    · have HX := Lib.hid (auW_is wr a A B C ca cb cc)
      go_wp2_with (first
        | (go_at_call 16; refine (HCA.out _ (Below_on HBW1.out (Below_on HB.out HX.out.below HB.out.size) HBW1.out.size)).mono ?_; rintro e w3 ⟨rfl, hb3⟩))
      · rename_i h
        have h' : ¬ ckA a = 0 := by simpa using h
        have HP : Hid (IntB w (rdErr a b) (.returned (.int .i64 (ckA a))) w3) := ⟨by unfold rdErr; rw [if_neg h'], Below_on (Below_on HBW1.out (Below_on HB.out HX.out.below HB.out.size) HBW1.out.size) hb3 (Nat.le_trans HBW1.out.size (Nat.le_trans HB.out.size HX.out.below.size))⟩
        go_ret
        exact HP.out
      · rename_i h
        have h' : ckA a = 0 := by simpa using h
        exact ⟨⟨1, by omega, rfl, Below_on (Below_on HB.out HX.out.below HB.out.size) hb3 (Nat.le_trans HB.out.size HX.out.below.size), fun _ => h', fun h => absurd h (by omega)⟩, by simp [intOf]⟩
    · have HX := Lib.hid (auW_is wr b D E F cd ce cf)
      have h1 := HCK1.out (by omega)
      go_wp2_with (first
        | (go_at_call 16; refine (HCB.out _ (Below_on HBW1.out (Below_on HB.out HX.out.below HB.out.size) HBW1.out.size)).mono ?_; rintro e w3 ⟨rfl, hb3⟩))
      · rename_i h
        have h' : ¬ ckA b = 0 := by simpa using h
        have HP : Hid (IntB w (rdErr a b) (.returned (.int .i64 (ckA b))) w3) := ⟨by unfold rdErr; rw [if_pos h1, if_neg h'], Below_on (Below_on HBW1.out (Below_on HB.out HX.out.below HB.out.size) HBW1.out.size) hb3 (Nat.le_trans HBW1.out.size (Nat.le_trans HB.out.size HX.out.below.size))⟩
        go_ret
        exact HP.out
      · rename_i h
        have h' : ckA b = 0 := by simpa using h
        exact ⟨⟨2, by omega, rfl, Below_on (Below_on HB.out HX.out.below HB.out.size) hb3 (Nat.le_trans HB.out.size HX.out.below.size), fun _ => h1, fun _ => h'⟩, by simp [intOf]⟩
    · have h1 := HCK1.out (by omega)
      have h2 := HCK2.out (by omega)
      have HBE : Hid (Below w.heap.size w wr) := Below_on HBW1.out HB.out HBW1.out.size
      by_cases hl : a.le = b.le
      · have HP : Hid (IntB w (rdErr a b) (.returned (.int .i64 0)) wr) := ⟨by unfold rdErr; rw [if_pos h1, if_pos h2, if_pos hl], HBE.out⟩
        have hl' : (a.le != b.le) = false := by simp [hl]
        clear hl h1 h2
        go_wp2_with fail
        go_ret
        exact HP.out
      · have HP : Hid (IntB w (rdErr a b) (.returned (.int .i64 1)) wr) := ⟨by unfold rdErr; rw [if_pos h1, if_pos h2, if_neg hl], HBE.out⟩
        have hl' : (a.le != b.le) = true := by simpa using hl
        clear hl h1 h2
        go_wp2_with fail
        go_ret
        exact HP.out
end Go.Proofs.Ytoglgeaiiipchab
