/- Walks: holds.Table, holds.Holds. -/
import Derived.Test.YtoglgeaiiipchabLTTM3
import Derived.Lib.AppendZerosOnto
import Derived.WalkSpells
import Derived.Test.YtoglgeaiiipchabLTTM28
import Derived.Test.YtoglgeaiiipchabLTTM26
import Derived.Test.YtoglgeaiiipchabLTTM13
import Derived.Deep.RegionLaw
set_option linter.unusedSimpArgs false
set_option linter.unusedVariables false
namespace Go.Proofs.Ytoglgeaiiipchab
open Go Go.RowKit

/-- what Grow leaves of nothing: room, and no element -/
def GrowPost (w : World) (t : TypeId) (e : Ending) (w' : World) : Prop :=
  ∃ v, e = .returned v ∧ w'.ownsRow w.heap.size t 1 v 0 [] ∧ Below w.heap.size w w'

set_option maxRecDepth 100000 in
theorem GrowI_ (n : Nat) (hn : n ≤ 100000000) (w : World) :
    Calls Try.prog 60 #[.slice none 0 0, .int .i64 n] w (GrowPost w 3) := by
  obtain ⟨i0, hi0, hz0, hz1, hz2⟩ := info_parts infoInt
  by_cases h0 : n = 0
  · subst h0
    have HP : Hid (GrowPost w 3 (.returned (.slice none 0 0)) w) := ⟨_, rfl, World.ownsRow_nil _ _ _ _, Below.refl _ _⟩
    go_enter Try.func60, Try.ntmps60
    go_wp2
    go_ret
    exact HP.out
  · have hp : 0 < n := by omega
    have hap := Lib.run_append_grow_zeros (P := Try.prog) w 22 3 22 3 i0 _ .i64 .i64 Try.underlying22 Try.underlying3 hi0 hz0 none 0 0 [] (by rw [hz1]; rfl) n hp (by omega) (by omega) (by omega) (by rw [hz2]; omega) (by rw [hz2, show Builtin.nextslicecap (0 + n) 0 = n by simp [Builtin.nextslicecap, hp]]; omega)
    have hcap := grownCap_ge w (0 + n) 0 3
    have hcap2 := grownCap_le_maxLen w (0 + n) 0 3 (by simp only [maxLen]; omega)
    simp only [Nat.zero_add] at hap hcap hcap2
    generalize grownCap w n 0 3 = cp at *
    go_enter Try.func60, Try.ntmps60
    have HAP := Lib.hid hap
    clear hap
    go_wp2_with (at_builtin; refine wpList_appRun rfl (.tmp 20) (.tmp 21) _ _ rfl _ _ _ rfl rfl HAP.out ?_)
    have HP : Hid (GrowPost w 3 (.returned (.slice (some ⟨w.heap.size, 0, none⟩) 0 cp)) (w.alloc (Obj.cells (Builtin.zeroCells #[Value.int IntKind.i64 0] n ++ Builtin.zeroCells #[Value.int IntKind.i64 0] (cp - n)) 3)).drew) := by
      refine ⟨_, rfl, own_room _ _ (Nat.le_refl _) (by simpa using hcap2) ?_, ((Below.refl _ _).alloc (Nat.le_refl _) _).drew⟩
      simp [Builtin.zeroCells]
      omega
    go_ret
    exact HP.out

/-- what Concat leaves: a row of its own -/
def CatPost (w : World) (xs : List Int) (e : Ending) (w' : World) : Prop :=
  ∃ A c, e = .returned (.slice A xs.length c) ∧ Ints w' w.heap.size A c xs ∧ Below w.heap.size w w'

set_option maxRecDepth 100000 in
set_option maxHeartbeats 1000000 in
theorem ConcatI_ (G : Nat) (A B : Option Addr) (ca cb : Nat) (xs ys : List Int) (w : World) (hx : Ints w 0 A ca xs) (hy : Ints w 0 B cb ys) (hl : xs.length + ys.length ≤ 100000000)
    (h0 : w.cell? ⟨G, 0, none⟩ = some (.slice A xs.length ca)) (h1 : w.cell? ⟨G, 1, none⟩ = some (.slice B ys.length cb)) (hG : G < w.heap.size) :
    Calls Try.prog 29 #[.slice (some ⟨G, 0, none⟩) 2 2] w (CatPost w (xs ++ ys)) := by
  obtain ⟨i0, hi0, hz0, hz1, hz2⟩ := info_parts infoInt
  go_enter Try.func29, Try.ntmps29
  go_wp2
  go_loop [3, 11] (fun s i => ∃ k : Nat, k ≤ 2 ∧ i = .int .i64 k ∧ s = .int .i64 (if k = 0 then 0 else if k = 1 then xs.length else xs.length + ys.length : Nat)) (fun _ i => 2 - (intOf i).toNat)
  case atStart => exact ⟨0, by omega, rfl, rfl⟩
  case round =>
    obtain ⟨k, hk, rfl, rfl⟩ := hrel
    have hk3 : k = 0 ∨ k = 1 ∨ k = 2 := by omega
    rcases hk3 with rfl | rfl | rfl
    · go_wp2
      go_round
      case rel => exact ⟨1, by omega, rfl, rfl⟩
      case measure => simp [intOf]
    · go_wp2
      go_round
      case rel => exact ⟨2, by omega, rfl, by simp⟩
      case measure => simp [intOf]
    · go_wp2_with fail
      rw [show ((xs.length : Int) + (ys.length : Int)) = ((xs.length + ys.length : Nat) : Int) from by omega]
      refine (GrowI_ _ hl w).mono ?_
      rintro e w1 ⟨v, rfl, hown, hb1⟩
      have HO := Lib.hid hown
      clear hown
      go_wp2
      go_loopw [6, 27] (fun v i wr => ∃ (k : Nat) (zs : List Int), k ≤ 2 ∧ i = .int .i64 k ∧ Hid (zs = if k = 0 then [] else if k = 1 then xs else xs ++ ys) ∧ wr.ownsRow w.heap.size 3 1 v zs.length (zs.flatMap fun n : Int => [Value.int .i64 n]) ∧ Below w.heap.size w wr) (fun _ i _ => 2 - (intOf i).toNat)
      case atStart => exact ⟨0, [], by omega, rfl, rfl, by simpa using HO.out, hb1⟩
      case round =>
        obtain ⟨k, zs, hk, rfl, hzs, hown, hb⟩ := hrel
        have HOW := Lib.hid hown
        have HB := Lib.hid hb
        have g0 : wr.cell? ⟨G, 0, none⟩ = some (.slice A xs.length ca) := (hb.cell (p := ⟨G, 0, none⟩) hG).trans h0
        have g1 : wr.cell? ⟨G, 1, none⟩ = some (.slice B ys.length cb) := (hb.cell (p := ⟨G, 1, none⟩) hG).trans h1
        have HX := Lib.hid (hx.below hb)
        have HY := Lib.hid (hy.below hb)
        clear hown hb
        have hk3 : k = 0 ∨ k = 1 ∨ k = 2 := by omega
        rcases hk3 with rfl | rfl | rfl
        · obtain rfl : zs = [] := by simpa using hzs.out
          have m2 : (0 + xs.length) * 8 ≤ 140737488355328 := by omega
          have m3 : 0 + xs.length ≤ maxLen := by simp only [maxLen]; omega
          go_wp2_with (at_builtin; refine wpList_app _ rfl (.tmp 31) (.tmp 32) _ rfl w.heap.size 3 i0 _ 1 8 Try.underlying22 hi0 hz0 hz1 hz2 rfl (by decide) u6 0 [] rfl HOW.out A xs.length ca _ rfl (flatMap_len (sz := 1) (fun _ => rfl) _) HX.out.rd (ints_oneCell _) m3 m2 HB.out.size ?_; intro v2 w2 hown2 hg2 hat2)
          go_roundw
          case rel => exact ⟨1, xs, by omega, rfl, show _ = _ from by simp, by simpa using hown2, grownOwn_ HB.out hg2 HOW.out (Nat.le_refl _) HB.out.size⟩
          case measure => simp [intOf]
        · obtain rfl : zs = xs := by simpa using hzs.out
          have m2 : (zs.length + ys.length) * 8 ≤ 140737488355328 := by omega
          have m3 : zs.length + ys.length ≤ maxLen := by simp only [maxLen]; omega
          go_wp2_with (at_builtin; refine wpList_app _ rfl (.tmp 31) (.tmp 32) _ rfl w.heap.size 3 i0 _ 1 8 Try.underlying22 hi0 hz0 hz1 hz2 rfl (by decide) u6 _ _ rfl HOW.out B ys.length cb _ rfl (flatMap_len (sz := 1) (fun _ => rfl) _) HY.out.rd (ints_oneCell _) m3 m2 HB.out.size ?_; intro v2 w2 hown2 hg2 hat2)
          go_roundw
          case rel => exact ⟨2, zs ++ ys, by omega, rfl, show _ = _ from by simp, by simpa using hown2, grownOwn_ HB.out hg2 HOW.out (Nat.le_refl _) HB.out.size⟩
          case measure => simp [intOf]
        · obtain rfl : zs = xs ++ ys := by simpa using hzs.out
          have HP : Hid (CatPost w (xs ++ ys) (.returned u6) wr) := by
            obtain ⟨C, cc, hv, hall⟩ := SlE.of_own (bt := 8) HOW.out (by simp; omega)
            exact ⟨C, cc, by rw [hv], hall, HB.out⟩
          clear HOW hzs
          go_wp2
          go_ret
          exact HP.out
end Go.Proofs.Ytoglgeaiiipchab

namespace Go.Proofs.Ytoglgeaiiipchab
open Go Go.RowKit

set_option maxRecDepth 100000 in
theorem CloneI_ (A : Option Addr) (c : Nat) (xs : List Int) (w : World) (hx : Ints w 0 A c xs) :
    Calls Try.prog 51 #[.slice A xs.length c] w (CatPost w xs) := by
  obtain ⟨i0, hi0, hz0, hz1, hz2⟩ := info_parts infoInt
  have hmax := hx.max
  have q24 : ∀ (w : World) (a : Option Addr) (n c n' c' : Nat), (binOp .eql 22 (.slice a n c) (.slice none n' c')).run Try.prog w = .ok (.bool a.isNone) w := fun w a n c n' c' => Lib.run_eql_slice_nil w _ _ a n c n' c' Try.underlying22
  cases A with
  | none =>
    have hxs : xs = [] := by
      cases xs with
      | nil => rfl
      | cons x r =>
        obtain ⟨b, off, h, _⟩ := hx.rd (by simp)
        cases h
    subst hxs
    have HP : Hid (CatPost w [] (.returned (.slice none 0 0)) w) := ⟨none, 0, rfl, ⟨Nat.le_refl _, by omega, by simp, Rd.nil⟩, Below.refl _ _⟩
    go_enter Try.func51, Try.ntmps51
    go_wp2_with fail
    go_ret
    exact HP.out
  | some a =>
    have HX := Lib.hid (hx.rd.below (w' := w.alloc (Obj.cells #[] 3)) ((Below.refl _ _).alloc (Nat.le_refl _) _) (Nat.le_refl _))
    have HO := Lib.hid (own_empty (w := w) (base := w.heap.size) 3 1 (Nat.le_refl _))
    have m2 : (0 + xs.length) * 8 ≤ 140737488355328 := by omega
    have m3 : 0 + xs.length ≤ maxLen := by simp only [maxLen]; omega
    have m4 : w.heap.size ≤ (w.alloc (Obj.cells #[] 3)).heap.size := by simp
    have HM := Lib.hid hmax
    clear hx hmax
    go_enter Try.func51, Try.ntmps51
    go_wp2_with (at_builtin; refine wpList_app _ rfl (.tmp 5) (.tmp 6) _ rfl w.heap.size 3 i0 _ 1 8 Try.underlying22 hi0 hz0 hz1 hz2 rfl (by decide) (.slice (some ⟨w.heap.size, 0, none⟩) 0 0) 0 [] rfl HO.out (some a) xs.length c _ rfl (flatMap_len (sz := 1) (fun _ => rfl) _) HX.out (ints_oneCell _) m3 m2 m4 ?_; intro v2 w2 hown2 hg2 hat2)
    have HP : Hid (CatPost w xs (.returned v2) w2) := by
      obtain ⟨C, cc, hv, hall⟩ := SlE.of_own (bt := 8) (xs := xs) (by simpa using hown2) HM.out
      exact ⟨C, cc, by rw [hv], hall, grownOwn_ ((Below.refl _ _).alloc (Nat.le_refl _) _) hg2 HO.out (Nat.le_refl _) (by simp)⟩
    clear hown2 hg2 hat2
    go_wp2_with fail
    go_ret
    exact HP.out
end Go.Proofs.Ytoglgeaiiipchab

namespace Go.Proofs.Ytoglgeaiiipchab
open Go Go.RowKit Go.Shelf

theorem cell_on {B : Nat} {w w' : World} (hb : Below B w w') {b o : Nat} (h : b < B) : w'.cell? ⟨b, o, none⟩ = w.cell? ⟨b, o, none⟩ := hb.cell (p := ⟨b, o, none⟩) h
/-- the world in which Table has laid its reader -/
def tabW (w3 : World) (C : Option Addr) (n cc h : Nat) : World := w3.alloc (Obj.cells #[Value.slice C n cc, Value.int IntKind.i64 h, Value.slice none 0 0] 115)
theorem own_lowT {w : World} {base base' : Nat} {e : TypeId} {size n : Nat} {v : Value} {xs : List Value} (h : w.ownsRow base e size v n xs) (hb : base' ≤ base) : w.ownsRow base' e size v n xs := by
  obtain ⟨h1, h2⟩ := h
  refine ⟨h1, ?_⟩
  rcases h2 with h2 | ⟨g, cap, cur, hv, hg, r⟩
  · exact .inl h2
  · exact .inr ⟨g, cap, cur, hv, Nat.le_trans hb hg, r⟩
def ckT (f : List Nd) (l : La) : Int := if ckF f = 0 then ckL l 8 else ckF f

/-- a table of the call's own: a row of slices, each a row of bools of its own -/
structure TabAt (w : World) (lo : Nat) (v : Value) (rows : List (List Bool)) (gs : List Nat) : Prop where
  own : w.ownsRow lo 23 1 v rows.length (gs.zipWith (fun g r => Value.slice (some ⟨g, 0, none⟩) r.length r.length) rows)
  len : gs.length = rows.length
  row : ∀ (k : Nat) (h : k < rows.length) (h' : k < gs.length), BRow w gs[k] rows[k] ∧ lo ≤ gs[k] ∧ gs[k] < w.heap.size
theorem TabAt.below {w w' : World} {lo : Nat} {v : Value} {rows : List (List Bool)} {gs : List Nat} (h : TabAt w lo v rows gs) (hb : Below w.heap.size w w') : TabAt w' lo v rows gs :=
  ⟨own_below h.own hb, h.len, fun k hk hk' => ⟨(h.row k hk hk').1.below hb (h.row k hk hk').2.2, (h.row k hk hk').2.1, Nat.lt_of_lt_of_le (h.row k hk hk').2.2 hb.size⟩⟩
theorem ckF_ok {f : List Nd} (h : ckF f = 0) : f.length ≠ 0 ∧ f.length ≤ 12 ∧ tooMany f = false ∧ ckNds (f.drop 0) 0 = 0 := by
  unfold ckF at h
  split at h
  · simp at h
  · split at h
    · simp at h
    · rename_i h1 h2
      have h3 : tooMany f = false := by simpa using h2
      refine ⟨h1, ?_, h3, h⟩
      unfold tooMany at h3
      simp at h3
      omega
theorem TabAt.rows {w : World} {lo : Nat} {T : Option Addr} {tc : Nat} {rows : List (List Bool)} {gs : List Nat} (h : TabAt w lo (.slice T rows.length tc) rows gs) (hn : rows.length ≤ 1000000) (hr : ∀ r ∈ rows, r.length ≤ 1000000) :
    RowsAt w T tc rows := by
  obtain ⟨A, c, hv, h1, h2, h3, _⟩ := own_form h.own
  simp only [Value.slice.injEq, true_and] at hv
  obtain ⟨rfl, rfl⟩ := hv
  refine ⟨h1, h2, hn, fun k hk => ?_⟩
  have hkg : k < gs.length := by rw [h.len]; exact hk
  have hz : (gs.zipWith (fun g r => Value.slice (some ⟨g, 0, none⟩) r.length r.length) rows)[k]? = some (.slice (some ⟨gs[k], 0, none⟩) rows[k].length rows[k].length) := by
    rw [List.getElem?_zipWith, List.getElem?_eq_getElem hkg, List.getElem?_eq_getElem hk]
  obtain ⟨b, off, hA, _, hb, hc⟩ := h3 (by intro e; rw [e] at hz; simp at hz)
  obtain ⟨h4, h5, h6⟩ := h.row k hk hkg
  exact ⟨b, off, hA, hb, _, _, hc k _ hz, (h4.bools (hr _ (List.getElem_mem hk))).zero⟩
def TabInv (w w3 : World) (R : Nat) (C : Option Addr) (cc : Nat) (l : La) (f : List Nd) (k : Nat) (W : World) : Prop :=
  ∃ (T : Option Addr) (tc : Nat) (gs : List Nat), RdrAt W R C l.n cc l.h.length ∧ W.cell? ⟨R, 2, none⟩ = some (.slice T (rowsOf l f k).length tc) ∧ W.frozen? ⟨R, 2, none⟩ = false ∧
    TabAt W (R + 1) (.slice T (rowsOf l f k).length tc) (rowsOf l f k) gs ∧ Below R w3 W ∧ Below w.heap.size w W
/-- the world in which a node stands in a variable of the loop -/
def tabX (wr : World) (x : Nd) : World := wr.alloc (Obj.cells #[.int .i64 x.k, .int .i64 x.a, .int .i64 x.b, .int .i64 x.n] 74)
theorem tabX_is (wr : World) (x : Nd) : (tabX wr x).cell? ⟨wr.heap.size, 0, none⟩ = some (.int .i64 x.k) ∧ (tabX wr x).cell? ⟨wr.heap.size, 1, none⟩ = some (.int .i64 x.a) ∧ (tabX wr x).cell? ⟨wr.heap.size, 2, none⟩ = some (.int .i64 x.b) ∧ (tabX wr x).cell? ⟨wr.heap.size, 3, none⟩ = some (.int .i64 x.n) := by
  unfold tabX
  refine ⟨?_, ?_, ?_, ?_⟩ <;> go_simp
def TablePost (w : World) (f : List Nd) (l : La) (e : Ending) (w' : World) : Prop :=
  Below w.heap.size w w' ∧ if ckT f l = 0 then ∃ v gs, e = .returned (.tuple #[v, .int .i64 0]) ∧ TabAt w' w.heap.size v (tableOf l f) gs else e = .returned (.tuple #[.slice none 0 0, .int .i64 (ckT f l)])

theorem okLetters {l : La} (h : ckL l 8 = 0) : l.h.length ≤ 4000 ∧ l.l.length ≤ 4000 ∧ 0 < l.l.length ∧ ∀ (i : Nat) (hi : i < (l.h ++ l.l).length), 0 ≤ (l.h ++ l.l)[i] ∧ (l.h ++ l.l)[i] ≤ 7 := by
  unfold ckL at h
  split at h
  · simp at h
  · split at h
    · simp at h
    · split at h
      · simp at h
      · split at h
        · simp at h
        · rename_i h1 h2 h3 h4
          refine ⟨by omega, by omega, by omega, fun i hi => ?_⟩
          have hb : badL 8 (l.h ++ l.l)[i] = false := by
            cases e : badL 8 (l.h ++ l.l)[i] with
            | false => rfl
            | true =>
              exfalso
              apply h4
              have : anyB (badL 8) (l.h ++ l.l) = true := by
                unfold anyB
                exact List.any_eq_true.2 ⟨_, List.getElem_mem hi, e⟩
              simpa [anyB] using this
          unfold badL at hb
          simp at hb
          omega

theorem tab_mid {W1 w4 : World} {R X k tc g : Nat} {T : Option Addr} {cells : List Value} {row : List Bool} (hRl : R < X) (hX : X < W1.heap.size) (hown : W1.ownsRow (R + 1) 23 1 (.slice T k tc) k cells)
    (e2 : W1.cell? ⟨R, 2, none⟩ = some (.slice T k tc)) (e3 : W1.frozen? ⟨R, 2, none⟩ = false) (hb4 : Below W1.drew.heap.size W1.drew w4) :
    W1.heap.size ≤ w4.heap.size ∧ w4.cell? ⟨R, 2, none⟩ = some (.slice T k tc) ∧ Hid ((w4.alloc (Obj.cells #[.slice (some ⟨g, 0, none⟩) row.length row.length] 23)).ownsRow (R + 1) 23 1 (.slice T k tc) k cells) ∧
      Hid (Rd (w4.alloc (Obj.cells #[.slice (some ⟨g, 0, none⟩) row.length row.length] 23)) 0 (some ⟨w4.heap.size, 0, none⟩) [.slice (some ⟨g, 0, none⟩) row.length row.length]) ∧
      R + 1 ≤ (w4.alloc (Obj.cells #[.slice (some ⟨g, 0, none⟩) row.length row.length] 23)).heap.size ∧
      (w4.alloc (Obj.cells #[.slice (some ⟨g, 0, none⟩) row.length row.length] 23)).cell? ⟨R, 2, none⟩ = some (.slice T k tc) ∧ some R ≠ (Value.slice T k tc).ownBlock ∧
      ∀ w5, (w4.alloc (Obj.cells #[.slice (some ⟨g, 0, none⟩) row.length row.length] 23)).grownBy w5 (Value.slice T k tc).ownBlock → w5.frozen? ⟨R, 2, none⟩ = false := by
  have hb : Below W1.heap.size W1 w4 := (Below.refl _ W1).drew.trans hb4
  have hs := hb.size
  have c1 := (cell_on hb (b := R) (o := 2) (by omega)).trans e2
  have f1 : w4.frozen? ⟨R, 2, none⟩ = false := (hb.frozen (p := ⟨R, 2, none⟩) (by show R < _; omega)).trans e3
  have hb5 : Below w4.heap.size w4 (w4.alloc (Obj.cells #[.slice (some ⟨g, 0, none⟩) row.length row.length] 23)) := (Below.refl _ _).alloc (Nat.le_refl _) _
  have hn : some R ≠ (Value.slice T k tc).ownBlock := own_ne hown (by omega)
  refine ⟨hs, c1, own_below (own_below hown hb) hb5, ?_, by simp; omega, (cell_on hb5 (by omega)).trans c1, hn, fun w5 h5 => ?_⟩
  · intro _
    refine ⟨_, 0, rfl, Nat.zero_le _, by simp, fun j u hu => ?_⟩
    match j, hu with
    | 0, hu => simp at hu; subst hu; go_simp
    | j + 1, hu => simp at hu
  · have hlt : R < (w4.alloc (Obj.cells #[.slice (some ⟨g, 0, none⟩) row.length row.length] 23)).heap.size := by simp; omega
    have e := World.frozen?_of_block (a := ⟨R, 2, none⟩) (h5.block R hlt hn)
    rw [e]
    exact (hb5.frozen (p := ⟨R, 2, none⟩) (by show R < _; omega)).trans f1

theorem rowsOf_succ (l : La) {f : List Nd} {k : Nat} (h : k < f.length) : rowsOf l f (k + 1) = rowsOf l f k ++ [rowOf l (rowsOf l f k) f[k]] := by
  simp [rowsOf, h]
theorem BRow.ne_own {w : World} {g base : Nat} {xs : List Bool} {v : Value} {n : Nat} {cells : List Value} (h : BRow w g xs) (ho : w.ownsRow base 23 1 v n cells) : some g ≠ v.ownBlock := by
  intro he
  rcases ho.2 with ⟨rfl, _⟩ | ⟨g', cap, cur, rfl, _, hh, _⟩
  · simp [Value.ownBlock] at he
  · have : g = g' := by simpa [Value.ownBlock] using he
    subst this
    unfold BRow at h
    rw [hh] at h
    simp at h

theorem tab_end {w w3 W1 w4 w5 : World} {R X k tc g : Nat} {T A5 : Option Addr} {c5 cc : Nat} {C : Option Addr} {l : La} {f : List Nd} {gs : List Nat} {row : List Bool} (hlt : k < f.length) (hwR : w.heap.size ≤ R) (hRl : R < X) (hX : X < W1.heap.size)
    (e1 : RdrAt W1 R C l.n cc l.h.length) (e4 : TabAt W1 (R + 1) (.slice T (rowsOf l f k).length tc) (rowsOf l f k) gs) (e5 : Below R w3 W1) (e6 : Below w.heap.size w W1)
    (hrow : row = rowOf l (rowsOf l f k) f[k]) (hb4 : Below W1.drew.heap.size W1.drew w4) (hr4 : BRow w4 g row) (hg : W1.drew.heap.size ≤ g)
    (hown5 : w5.ownsRow (R + 1) 23 1 (.slice A5 (k + 1) c5) (k + 1) (gs.zipWith (fun g r => Value.slice (some ⟨g, 0, none⟩) r.length r.length) (rowsOf l f k) ++ [.slice (some ⟨g, 0, none⟩) row.length row.length]))
    (hg5 : (w4.alloc (Obj.cells #[.slice (some ⟨g, 0, none⟩) row.length row.length] 23)).grownBy w5 (Value.slice T k tc).ownBlock)
    (q5 : w5.cell? ⟨R, 2, none⟩ = some (.slice T k tc)) (q6 : w5.frozen? ⟨R, 2, none⟩ = false) :
    TabInv w w3 R C cc l f (k + 1) (w5.setCell ⟨R, 2, none⟩ (.slice A5 (k + 1) c5)) := by
  have hrl : (rowsOf l f k).length = k := length_rowsOf l f k
  have hown := e4.own
  rw [hrl] at hown
  have hb : Below W1.heap.size W1 w4 := (Below.refl _ W1).drew.trans hb4
  have hs := hb.size
  have hg' : W1.heap.size ≤ g := hg
  have hb5 : Below w4.heap.size w4 (w4.alloc (Obj.cells #[.slice (some ⟨g, 0, none⟩) row.length row.length] 23)) := (Below.refl _ _).alloc (Nat.le_refl _) _
  have hT : ∀ b, (Value.slice T k tc).ownBlock = some b → R + 1 ≤ b ∧ b < W1.heap.size := fun b hb => hown.lt b hb
  have hgs := hg5.size
  have hchain : Below W1.heap.size W1 (w4.alloc (Obj.cells #[.slice (some ⟨g, 0, none⟩) row.length row.length] 23)) := hb.trans (hb5.mono hs)
  have hR5 : Below (R + 1) W1 w5 := (hchain.mono (by omega)).trans ⟨hg5.os, hg5.tape, hg5.output, hg5.size, fun j hj => hg5.block j (by simp; omega) (fun e => by have := (hT j e.symm).1; omega)⟩
  have hfin : Below w.heap.size w (w5.setCell ⟨R, 2, none⟩ (.slice A5 (k + 1) c5)) := (e6.trans (hR5.mono (by omega))).setCell (p := ⟨R, 2, none⟩) hwR _
  have hsz : w5.heap.size = (w5.setCell ⟨R, 2, none⟩ (.slice A5 (k + 1) c5)).heap.size := by simp [World.setCell]
  have keep : ∀ j xs, BRow W1 j xs → R + 1 ≤ j → BRow (w5.setCell ⟨R, 2, none⟩ (.slice A5 (k + 1) c5)) j xs := by
    intro j xs hj hR
    have h1 := hj.below hchain hj.lt
    have h2 := h1.grown hg5 (hj.ne_own hown)
    exact h2.set_far (p := ⟨R, 2, none⟩) (by show j ≠ R; omega) _
  have hg_new : BRow (w5.setCell ⟨R, 2, none⟩ (.slice A5 (k + 1) c5)) g row := by
    have h1 := hr4.below hb5 hr4.lt
    have h2 := h1.grown hg5 (fun e => by have := (hT g e.symm).2; omega)
    exact h2.set_far (p := ⟨R, 2, none⟩) (by show g ≠ R; omega) _
  have hzl : (gs.zipWith (fun g r => Value.slice (some ⟨g, 0, none⟩) r.length r.length) (rowsOf l f k) ++ [.slice (some ⟨g, 0, none⟩) row.length row.length]) = ((gs ++ [g]).zipWith (fun g r => Value.slice (some ⟨g, 0, none⟩) r.length r.length) (rowsOf l f (k + 1))) := by
    rw [rowsOf_succ l hlt, ← hrow, List.zipWith_append (by rw [e4.len])]
    rfl
  have hrl1 : (rowsOf l f (k + 1)).length = k + 1 := length_rowsOf l f (k + 1)
  refine ⟨A5, c5, gs ++ [g], ⟨?_, ?_, ?_⟩, ?_, ?_, ⟨?_, ?_, ?_⟩, ?_, hfin⟩
  · rw [World.cell?_setCell_other _ _ _ _ (by simp)]
    exact (cell_on hR5 (by omega)).trans e1.1
  · rw [World.cell?_setCell_other _ _ _ _ (by simp)]
    exact (cell_on hR5 (by omega)).trans e1.2.1
  · rw [← hsz]; have := hb5.size; omega
  · rw [hrl1]; exact World.cell?_setCell_same' _ _ _ (by rw [q5]; rfl)
  · rw [World.frozen?_setCell]; exact q6
  · rw [hrl1, ← hzl]; exact ownsRow_setCell_below hown5 (a := ⟨R, 2, none⟩) (by show R < _; omega) _
  · rw [List.length_append, e4.len, hrl, hrl1]; rfl
  · intro j hj hj'
    have e : rowsOf l f (k + 1) = rowsOf l f k ++ [row] := by rw [rowsOf_succ l hlt, ← hrow]
    have hjk : j < k + 1 := by rw [hrl1] at hj; exact hj
    have hgl : gs.length = k := by rw [e4.len, hrl]
    rcases Nat.lt_or_ge j k with h | h
    · obtain ⟨a1, a2, a3⟩ := e4.row j (by omega) (by omega)
      have x1 : (gs ++ [g])[j] = gs[j]'(by omega) := List.getElem_append_left (by omega)
      have x2 : (rowsOf l f (k + 1))[j] = (rowsOf l f k)[j]'(by omega) := by simp only [e]; exact List.getElem_append_left (by omega)
      rw [x1, x2]
      exact ⟨keep _ _ a1 a2, a2, by rw [← hsz]; have := hb5.size; omega⟩
    · obtain rfl : j = k := by omega
      have x1 : (gs ++ [g])[j] = g := by rw [List.getElem_append_right (by omega)]; simp
      have x2 : (rowsOf l f (j + 1))[j] = row := by simp only [e]; rw [List.getElem_append_right (by omega)]; simp
      rw [x1, x2]
      exact ⟨hg_new, by omega, hg_new.lt⟩
  · exact (e5.trans (hR5.mono (by omega))).setCell (p := ⟨R, 2, none⟩) (Nat.le_refl _) _

set_option maxRecDepth 100000 in
set_option maxHeartbeats 2000000 in
theorem Table_ (F : Option Addr) (fc : Nat) (f : List Nd) (A B : Option Addr) (ca cb : Nat) (l : La) (w : World) (hf : Nds w 0 F fc f) (hh : Ints w 0 A ca l.h) (hl : Ints w 0 B cb l.l) :
    Calls Try.prog 39 #[.slice F f.length fc, .agg #[.slice A l.h.length ca, .slice B l.l.length cb]] w (TablePost w f l) := by
  have hle := hf.le
  have hcp := hf.cap
  have hle1 := hh.le
  have hle2 := hl.le
  have HA := Lib.hid ((Below.refl w.heap.size w).alloc (Nat.le_refl _) (Obj.cells #[Value.slice A l.h.length ca, Value.slice B l.l.length cb] 28))
  go_enter Try.func39, Try.ntmps39
  go_wp2_with fail
  refine (formulaCheck_ _ _ _ _ (hf.below HA.out)).mono ?_
  rintro e w1 ⟨rfl, hb1⟩
  have HB1 := Lib.hid (Below_on HA.out hb1 (by simp))
  have c1 : w1.cell? ⟨w.heap.size, 0, none⟩ = some (.slice A l.h.length ca) := (hb1.cell (p := ⟨w.heap.size, 0, none⟩) (by simp)).trans (by go_simp)
  have c2 : w1.cell? ⟨w.heap.size, 1, none⟩ = some (.slice B l.l.length cb) := (hb1.cell (p := ⟨w.heap.size, 1, none⟩) (by simp)).trans (by go_simp)
  have hs1 : w.heap.size + 1 ≤ w1.heap.size := by have := hb1.size; simpa using this
  clear hb1
  by_cases hcf : ckF f = 0
  · have hcf' : (ckF f == 0) = true := by simpa using hcf
    have HCF := Lib.hid hcf
    clear hcf
    go_wp2_with fail
    refine (wordCheck_ _ _ _ _ l 8 _ (hh.below HB1.out) (hl.below HB1.out)).mono ?_
    rintro e w2 ⟨rfl, hb2⟩
    have HB2 := Lib.hid (Below_on HB1.out hb2 (by omega))
    have c3 : w2.cell? ⟨w.heap.size, 0, none⟩ = some (.slice A l.h.length ca) := (cell_on hb2 (by omega)).trans c1
    have c4 : w2.cell? ⟨w.heap.size, 1, none⟩ = some (.slice B l.l.length cb) := (cell_on hb2 (by omega)).trans c2
    have hs2 : w.heap.size + 1 ≤ w2.heap.size := by have := hb2.size; omega
    clear hb2 c1 c2
    by_cases hcl : ckL l 8 = 0
    · have hcl' : (ckL l 8 != 0) = false := by simpa using hcl
      have HCL := Lib.hid hcl
      have HOK := Lib.hid (okLetters hcl)
      have hlim : l.h.length + l.l.length ≤ 8000 := by have := HOK.out; omega
      clear hcl
      have HB3 := Lib.hid ((HB2.out.alloc (by omega) (Obj.cells #[Value.slice A l.h.length ca, Value.slice B l.l.length cb] 22)).drew)
      have hltD : w.heap.size < ((w2.alloc (Obj.cells #[Value.slice A l.h.length ca, Value.slice B l.l.length cb] 22)).drew).heap.size := by simp; omega
      have g0 : ((w2.alloc (Obj.cells #[Value.slice A l.h.length ca, Value.slice B l.l.length cb] 22)).drew).cell? ⟨w.heap.size, 0, none⟩ = some (.slice A l.h.length ca) := (World.cell?_alloc_lt w2 _ ⟨w.heap.size, 0, none⟩ (by show w.heap.size < _; omega)).trans c3
      have g1 : ((w2.alloc (Obj.cells #[Value.slice A l.h.length ca, Value.slice B l.l.length cb] 22)).drew).cell? ⟨w.heap.size, 1, none⟩ = some (.slice B l.l.length cb) := (World.cell?_alloc_lt w2 _ ⟨w.heap.size, 1, none⟩ (by show w.heap.size < _; omega)).trans c4
      have HCON := Lib.hid (ConcatI_ w2.heap.size A B ca cb l.h l.l ((w2.alloc (Obj.cells #[Value.slice A l.h.length ca, Value.slice B l.l.length cb] 22)).drew) (hh.below HB3.out) (hl.below HB3.out) (by omega) (by go_simp) (by go_simp) (by simp))
      go_wp2_with fail
      go_region_held3 (fun w' => w'.cell? ⟨w.heap.size, 0, none⟩ = some (.slice A l.h.length ca) ∧ w'.cell? ⟨w.heap.size, 1, none⟩ = some (.slice B l.l.length cb))
        (first | go_keep | exact ⟨q0, q1⟩)
        (first
          | (go_at_call 29; refine HCON.out.mono ?_; rintro e w3 ⟨C, cc, rfl, hcat, hb3⟩; have q0 : w3.cell? ⟨w.heap.size, 0, none⟩ = some (.slice A l.h.length ca) := (cell_on hb3 hltD).trans g0; have q1 : w3.cell? ⟨w.heap.size, 1, none⟩ = some (.slice B l.l.length cb) := (cell_on hb3 hltD).trans g1))
      have HB4 := Lib.hid (Below_on HB3.out hb3 (by simp; omega))
      have hs3 : w.heap.size + 1 ≤ w3.heap.size := by have := hb3.size; simp at this; omega
      have HCAT := Lib.hid (hcat.low (Nat.zero_le _))
      clear hcat hb3 HCON g0 g1 q0 q1 hltD c3 c4
      have hW : tabW w3 C (l.h.length + l.l.length) cc l.h.length = w3.alloc (Obj.cells #[Value.slice C (l.h.length + l.l.length) cc, Value.int IntKind.i64 l.h.length, Value.slice none 0 0] 115) := rfl
      have HF : Hid (∀ W0, W0 = tabW w3 C (l.h.length + l.l.length) cc l.h.length → RdrAt W0 w3.heap.size C l.n cc l.h.length ∧ W0.cell? ⟨w3.heap.size, 2, none⟩ = some (.slice none 0 0) ∧ W0.frozen? ⟨w3.heap.size, 2, none⟩ = false ∧ Below w3.heap.size w3 W0 ∧ Below w.heap.size w W0 ∧ w3.heap.size < W0.heap.size) := by
        rintro W0 rfl
        unfold tabW
        refine ⟨⟨by go_simp; rfl, by go_simp, by simp⟩, by go_simp, by go_simp, (Below.refl _ _).alloc (Nat.le_refl _) _, HB4.out.alloc (by omega) _, by simp⟩
      rw [← hW]
      have HFF := Lib.hid (HF.out _ rfl)
      clear hW HF
      generalize tabW w3 C (l.h.length + l.l.length) cc l.h.length = W0 at *
      obtain ⟨R, hR⟩ : ∃ R, R = w3.heap.size := ⟨_, rfl⟩
      rw [← hR] at HFF hs3 ⊢
      have HR := Lib.hid hR
      clear hR
      obtain ⟨f1, f2, f3, f4, f5, f6⟩ := HFF.out
      have HI0 : Hid (TabInv w w3 R C cc l f 0 W0) := ⟨none, 0, [], f1, f2, f3, ⟨by simpa [rowsOf] using World.ownsRow_nil _ _ _ _, rfl, fun k h => by simp [rowsOf] at h⟩, f4, f5⟩
      have hln : l.n ≤ 8000 := hlim
      have hlh : l.h.length < l.n := by have := HOK.out; unfold La.n; omega
      have hfl : f.length ≤ 12 := (ckF_ok HCF.out).2.1
      clear f1 f2 f3 f4 f5 HFF HB3 HB4 HB1 HB2 HA
      go_wp2
      go_loopw [32] (fun i wr => ∃ k : Nat, k ≤ f.length ∧ i = .int .i64 k ∧ TabInv w w3 R C cc l f k wr ∧ ckNds (f.drop k) k = 0) (fun i _ => f.length - (intOf i).toNat)
      case atStart => exact ⟨0, Nat.zero_le _, rfl, HI0.out, (ckF_ok HCF.out).2.2.2⟩
      case round =>
        obtain ⟨k, hk, rfl, hinv, hck⟩ := hrel
        have HI := Lib.hid hinv
        have HCK := Lib.hid hck
        clear hinv hck
        obtain ⟨T, tc, gs, d1, d2, d3, d4, d5, d6⟩ := HI.out
        have hrl : (rowsOf l f k).length = k := length_rowsOf l f k
        by_cases hlt : k < f.length
        · obtain ⟨b, o, rfl, _, hbl, hc1, hc2, hc3, hc4⟩ := Nds.at_ (hf.below d6) hlt
          have hxb : Below wr.heap.size wr (tabX wr f[k]) := (Below.refl _ _).alloc (Nat.le_refl _) _
          have HX := Lib.hid (tabX_is wr f[k])
          have hRl : R < wr.heap.size := d1.2.2
          have e1 := d1.below hxb hRl
          have e2 := (cell_on hxb hRl).trans d2
          have e3 : (tabX wr f[k]).frozen? ⟨R, 2, none⟩ = false := (hxb.frozen (p := ⟨R, 2, none⟩) hRl).trans d3
          have e4 := d4.below hxb
          have e5' := HCAT.out.below d5 (by rw [HR.out]; exact Nat.le_refl _)
          have e5 := e5'.below hxb
          have e55 := d5.trans (hxb.mono (Nat.le_of_lt hRl))
          have e6 := Below_on d6 hxb d6.size
          have hXe : wr.heap.size < (tabX wr f[k]).heap.size := by simp [tabX]
          go_wp2_with fail
          change Code.wp _ _ _ _ (tabX wr f[k])
          generalize tabX wr f[k] = W1 at *
          generalize wr.heap.size = X at *
          have HE1 := Lib.hid e1
          have HE4 := Lib.hid e4
          have HE5 := Lib.hid e55
          have HE6 := Lib.hid e6
          have HN := Lib.hid (holdsNode_ R C cc l T tc (rowsOf l f k) f[k] W1.drew e1 (e5.below (Below.refl _ W1).drew) HOK.out.2.2.2 hlh (by omega) e2 ((e4.below (Below.refl _ W1).drew).rows (by omega) (fun r hr => by rw [mem_rowsOf l f k r hr]; omega)) (mem_rowsOf l f k) (by
            rw [hrl]
            have := HCK.out
            rw [ckNds_step hlt] at this
            split at this
            · assumption
            · exact this))
          obtain ⟨x0, x1, x2, x3⟩ := HX.out
          clear d1 d2 d3 d4 d5 d6 hxb e1 e4 e5 e5' e55 e6 hc1 hc2 hc3 hc4 hf hbl
          obtain ⟨row, hrowe⟩ : ∃ row, row = rowOf l (rowsOf l f k) f[k] := ⟨_, rfl⟩
          rw [← hrowe] at HN
          have HROW := Lib.hid hrowe
          obtain ⟨cells, hcells⟩ : ∃ c, c = gs.zipWith (fun g r => Value.slice (some ⟨g, 0, none⟩) r.length r.length) (rowsOf l f k) := ⟨_, rfl⟩
          have hown := HE4.out.own
          rw [← hcells, hrl] at hown
          have HCELLS := Lib.hid hcells
          have HOWN := Lib.hid hown
          rw [hrl] at e2
          have HRL := Lib.hid hrl
          clear hown hcells hrowe hrl
          obtain ⟨i0, hi0, hz0, hz1, hz2⟩ := info_parts infoRow
          have m1 : k + 1 ≤ maxLen := by simp only [maxLen]; omega
          have m2 : (k + 1) * 24 ≤ 140737488355328 := by omega
          go_region_law (first
            | (refine step_app (w4.alloc (Obj.cells #[.slice (some ⟨g, 0, none⟩) row.length row.length] 23)) rfl (.tmp 40) (.tmp 44) _ rfl (R + 1) 23 i0 _ 1 24 Try.underlying77 hi0 hz0 hz1 hz2 rfl (by decide) (.slice T k tc) k cells (by go_simp) HOWN5.out (some ⟨w4.heap.size, 0, none⟩) 1 1 [.slice (some ⟨g, 0, none⟩) row.length row.length] (by go_simp) rfl HRD5.out (by simp [Value.oneCell']) m1 m2 hbase5 ?_; intro v5 w5 hown5 hg5 hat5; obtain ⟨A5, c5, hv5, _⟩ := own_form hown5; subst hv5; have q5 := hg5.cell (a := ⟨R, 2, none⟩) (v := .slice T k tc) q4 q4n; have q6 : w5.frozen? ⟨R, 2, none⟩ = false := q6f w5 hg5)
            | (go_simp; go_at_call 72; refine HN.out.mono ?_; rintro e w4 ⟨g, rfl, hg, hrow, hb4⟩; obtain ⟨hq1, hq2, HOWN5, HRD5, hbase5, q4, q4n, q6f⟩ := tab_mid (g := g) (row := row) (w4 := w4) hRl hXe HOWN.out e2 e3 hb4))
          all_goals
            have HT := Lib.hid (tab_end (w := w) (l := l) (f := f) (gs := gs) hlt (by omega) hRl hXe HE1.out HE4.out HE5.out HE6.out HROW.out hb4 hrow hg (by rw [← HCELLS.out]; exact hown5) hg5 q5 q6)
            clear hown5 hg5 hat5 q5 q6 q4 q4n q6f hq1 hq2 hbase5 hb4 hrow hg
            go_wp2
            go_roundw
            case rel => exact ⟨k + 1, by omega, by go_num, HT.out, by have := HCK.out; rw [ckNds_step hlt] at this; split at this <;> simp_all⟩
            case measure => simp [intOf]; omega
        · have hkf : k = f.length := by omega
          have HP : Hid (TablePost w f l (.returned (.tuple #[.slice T (rowsOf l f k).length tc, .int .i64 0])) wr) := by
            have e : ckT f l = 0 := by unfold ckT; rw [if_pos HCF.out]; exact HCL.out
            refine ⟨d6, ?_⟩
            rw [e, if_pos rfl]
            subst hkf
            exact ⟨_, gs, rfl, own_lowT d4.own (by omega), d4.len, fun j h h' => ⟨(d4.row j h h').1, by have := (d4.row j h h').2.1; omega, (d4.row j h h').2.2⟩⟩
          clear hkf hrl
          go_wp2_with fail
          go_ret2
          exact HP.out
    · have hcl' : (ckL l 8 != 0) = true := by simpa using hcl
      have HP : Hid (TablePost w f l (.returned (.tuple #[.slice none 0 0, .int .i64 (ckL l 8)])) w2) := by
        have e : ckT f l = ckL l 8 := by unfold ckT; rw [if_pos HCF.out]
        exact ⟨HB2.out, by rw [e, if_neg hcl]⟩
      clear hcl
      go_wp2
      go_ret2
      exact HP.out
  · have hcf' : (ckF f == 0) = false := by simpa using hcf
    have hcf2 : (ckF f != 0) = true := by simpa using hcf
    have HP : Hid (TablePost w f l (.returned (.tuple #[.slice none 0 0, .int .i64 (ckF f)])) w1) := by
      have e : ckT f l = ckF f := by unfold ckT; rw [if_neg hcf]
      exact ⟨HB1.out, by rw [e, if_neg hcf]⟩
    clear hcf
    go_wp2
    go_ret2
    exact HP.out
end Go.Proofs.Ytoglgeaiiipchab
