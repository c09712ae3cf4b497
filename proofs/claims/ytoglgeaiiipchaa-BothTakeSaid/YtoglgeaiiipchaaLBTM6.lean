/- An automaton in the making; rows of ints that a call made. -/
import Derived.Test.YtoglgeaiiipchaaLBTM5
import Derived.Deep.RegionLaw
import Derived.Deep.CutBlock
import Derived.Deep.DeepCutAuto
import Derived.Test.YtoglgeaiiipchaaLBTM3
import Derived.Test.YtoglgeaiiipchaaLBTM1
import Derived.Test.YtoglgeaiiipchaaLBTM4
import Derived.Test.YtoglgeaiiipchaaLBTM2
set_option linter.unusedSimpArgs false
set_option linter.unusedVariables false
namespace Go.Proofs.Ytoglgeaiiipchaa
open Go Go.RowKit

/-- what is wrong with two automata -/
def rdErr (a b : Au) : Int := if ckA a = 0 then (if ckA b = 0 then (if a.le = b.le then 0 else 1) else ckA b) else ckA a
/-- two automata laid in variables -/
def auW2 (w : World) (a b : Au) (A B C D E F : Option Addr) (ca cb cc cd ce cf : Nat) : World := auW (auW w a A B C ca cb cc) b D E F cd ce cf
structure AuW2 (w W : World) (a b : Au) (A B C D E F : Option Addr) (ca cb cc cd ce cf : Nat) : Prop where
  below : Below w.heap.size w W
  size : W.heap.size = w.heap.size + 2
  at1 : AuAt W w.heap.size a A B C ca cb cc
  at2 : AuAt W (w.heap.size + 1) b D E F cd ce cf
theorem auW2_is (w : World) (a b : Au) (A B C D E F : Option Addr) (ca cb cc cd ce cf : Nat) : AuW2 w (auW2 w a b A B C D E F ca cb cc cd ce cf) a b A B C D E F ca cb cc cd ce cf := by
  have h1 := auW_is w a A B C ca cb cc
  have h2 := auW_is (auW w a A B C ca cb cc) b D E F cd ce cf
  unfold auW2
  have s1 := h1.size
  have s2 := h2.size
  refine ⟨Below_on h1.below h2.below h1.below.size, by omega, h1.at.below h2.below h1.at.lt, ?_⟩
  have := h2.at
  rwa [s1] at this
/-- both in one row -/
structure Au2At (W : World) (G : Nat) (a b : Au) (A B C D E F : Option Addr) (ca cb cc cd ce cf : Nat) : Prop where
  lt : G < W.heap.size
  c0 : W.cell? ⟨G, 0, none⟩ = some (.int .i64 a.st)
  c1 : W.cell? ⟨G, 1, none⟩ = some (.int .i64 a.le)
  c2 : W.cell? ⟨G, 2, none⟩ = some (.slice A a.fs.length ca)
  c3 : W.cell? ⟨G, 3, none⟩ = some (.slice B a.gs.length cb)
  c4 : W.cell? ⟨G, 4, none⟩ = some (.slice C a.ss.length cc)
  c5 : W.cell? ⟨G, 5, none⟩ = some (.int .i64 b.st)
  c6 : W.cell? ⟨G, 6, none⟩ = some (.int .i64 b.le)
  c7 : W.cell? ⟨G, 7, none⟩ = some (.slice D b.fs.length cd)
  c8 : W.cell? ⟨G, 8, none⟩ = some (.slice E b.gs.length ce)
  c9 : W.cell? ⟨G, 9, none⟩ = some (.slice F b.ss.length cf)
theorem Au2At.below {W W' : World} {G n : Nat} {a b : Au} {A B C D E F : Option Addr} {ca cb cc cd ce cf : Nat} (h : Au2At W G a b A B C D E F ca cb cc cd ce cf) (hb : Below n W W') (hn : G < n) : Au2At W' G a b A B C D E F ca cb cc cd ce cf :=
  ⟨Nat.lt_of_lt_of_le h.lt hb.size, (hb.cell (p := ⟨G, 0, none⟩) hn).trans h.c0, (hb.cell (p := ⟨G, 1, none⟩) hn).trans h.c1, (hb.cell (p := ⟨G, 2, none⟩) hn).trans h.c2, (hb.cell (p := ⟨G, 3, none⟩) hn).trans h.c3, (hb.cell (p := ⟨G, 4, none⟩) hn).trans h.c4,
    (hb.cell (p := ⟨G, 5, none⟩) hn).trans h.c5, (hb.cell (p := ⟨G, 6, none⟩) hn).trans h.c6, (hb.cell (p := ⟨G, 7, none⟩) hn).trans h.c7, (hb.cell (p := ⟨G, 8, none⟩) hn).trans h.c8, (hb.cell (p := ⟨G, 9, none⟩) hn).trans h.c9⟩
def au2W (w : World) (a b : Au) (A B C D E F : Option Addr) (ca cb cc cd ce cf : Nat) : World :=
  w.alloc (Obj.cells #[.int .i64 a.st, .int .i64 a.le, .slice A a.fs.length ca, .slice B a.gs.length cb, .slice C a.ss.length cc, .int .i64 b.st, .int .i64 b.le, .slice D b.fs.length cd, .slice E b.gs.length ce, .slice F b.ss.length cf] 49)
theorem au2W_is (w : World) (a b : Au) (A B C D E F : Option Addr) (ca cb cc cd ce cf : Nat) : Below w.heap.size w (au2W w a b A B C D E F ca cb cc cd ce cf) ∧ Au2At (au2W w a b A B C D E F ca cb cc cd ce cf) w.heap.size a b A B C D E F ca cb cc cd ce cf := by
  unfold au2W
  refine ⟨by go_grown, by simp, ?_, ?_, ?_, ?_, ?_, ?_, ?_, ?_, ?_, ?_⟩ <;> go_simp
set_option maxRecDepth 100000 in
set_option maxHeartbeats 4000000 in
theorem ready_ (a b : Au) (A B C D E F : Option Addr) (ca cb cc cd ce cf : Nat) (w : World) (ha : AuRd w 0 a A B C ca cb cc) (hb : AuRd w 0 b D E F cd ce cf) :
    Calls Try.prog 58 #[.agg #[.int .i64 a.st, .int .i64 a.le, .slice A a.fs.length ca, .slice B a.gs.length cb, .slice C a.ss.length cc], .agg #[.int .i64 b.st, .int .i64 b.le, .slice D b.fs.length cd, .slice E b.gs.length ce, .slice F b.ss.length cf]] w (IntB w (rdErr a b)) := by
  have HCA := Lib.hid (fun W (hW : Below w.heap.size w W) => autoCheck_ a A B C ca cb cc W (ha.below hW))
  have HCB := Lib.hid (fun W (hW : Below w.heap.size w W) => autoCheck_ b D E F cd ce cf W (hb.below hW))
  have HW2 := Lib.hid (auW2_is w a b A B C D E F ca cb cc cd ce cf)
  clear ha hb
  go_enter Try.func58, Try.ntmps58
  go_upto_region 1 with fail
  change Code.wp _ _ _ _ (auW2 w a b A B C D E F ca cb cc cd ce cf)
  generalize auW2 w a b A B C D E F ca cb cc cd ce cf = W0 at *
  obtain ⟨V, hV⟩ : ∃ V, V = w.heap.size := ⟨_, rfl⟩
  have HV := Lib.hid hV
  have HA1 := Lib.hid (show AuAt W0 V a A B C ca cb cc by rw [hV]; exact HW2.out.at1)
  have HA2 := Lib.hid (show AuAt W0 (V + 1) b D E F cd ce cf by rw [hV]; exact HW2.out.at2)
  have HBW := Lib.hid HW2.out.below
  rw [← hV]
  clear HW2 hV
  obtain ⟨_, c0, c1, c2, c3, c4⟩ := HA1.out
  obtain ⟨_, d0, d1, d2, d3, d4⟩ := HA2.out
  have H2 := Lib.hid (au2W_is W0 a b A B C D E F ca cb cc cd ce cf)
  go_upto_block 0 with fail
  change Code.wp _ _ _ _ (au2W W0 a b A B C D E F ca cb cc cd ce cf)
  generalize au2W W0 a b A B C D E F ca cb cc cd ce cf = W1 at *
  obtain ⟨G, hG⟩ : ∃ G, G = W0.heap.size := ⟨_, rfl⟩
  rw [← hG] at H2 ⊢
  have HA3 := Lib.hid H2.out.2
  have HBW1 : Hid (Below w.heap.size w W1) := Below_on HBW.out H2.out.1 (by rw [hG]; exact HBW.out.size)
  have HA1' := Lib.hid (HA1.out.below H2.out.1 (by rw [hG]; exact HA1.out.lt))
  have HA2' := Lib.hid (HA2.out.below H2.out.1 (by rw [hG]; exact HA2.out.lt))
  clear H2 hG c0 c1 c2 c3 c4 d0 d1 d2 d3 d4 HA1 HA2 HBW
  go_wp2_with fail
  go_loopw [6, 7, 12] (fun _ _ i wr => ∃ k : Nat, k ≤ 2 ∧ i = .int .i64 k ∧ Hid (Below W1.heap.size W1 wr) ∧ Hid (1 ≤ k → ckA a = 0) ∧ Hid (2 ≤ k → ckA b = 0)) (fun _ _ i _ => 2 - (intOf i).toNat)
  case atStart => exact ⟨0, by omega, rfl, Below.refl _ _, fun h => absurd h (by omega), fun h => absurd h (by omega)⟩
  case round =>
    obtain ⟨k, hk, rfl, HB, HCK1, HCK2⟩ := hrel
    obtain ⟨_, c0, c1, c2, c3, c4⟩ := HA1'.out.below HB.out HA1'.out.lt
    obtain ⟨_, d0, d1, d2, d3, d4⟩ := HA2'.out.below HB.out HA2'.out.lt
    obtain ⟨_, e0, e1, e2, e3, e4, e5, e6, e7, e8, e9⟩ := HA3.out.below HB.out HA3.out.lt
    have hk3 : k = 0 ∨ k = 1 ∨ k = 2 := by omega
    rcases hk3 with rfl | rfl | rfl
    · have HX := Lib.hid (auW_is wr a A B C ca cb cc)
      go_wp2_with (first
        | (go_at_call 48; refine (HCA.out _ (Below_on HBW1.out (Below_on HB.out HX.out.below HB.out.size) HBW1.out.size)).mono ?_; rintro e w3 ⟨rfl, hb3⟩))
      · rename_i h
        have h' : ¬ ckA a = 0 := by simpa using h
        have HP : Hid (IntB w (rdErr a b) (.returned (.int .i64 (ckA a))) w3) := ⟨by unfold rdErr; rw [if_neg h'], Below_on (Below_on HBW1.out (Below_on HB.out HX.out.below HB.out.size) HBW1.out.size) hb3 (Nat.le_trans HBW1.out.size (Nat.le_trans HB.out.size HX.out.below.size))⟩
        go_ret
        exact HP.out
      · rename_i h
        have h' : ckA a = 0 := by simpa using h
        exact ⟨⟨1, by omega, rfl, Below_on (Below_on HB.out HX.out.below HB.out.size) hb3 (Nat.le_trans HB.out.size HX.out.below.size), fun _ => h', fun h => absurd h (by omega)⟩, by simp [intOf]⟩
    · have HX := Lib.hid (auW_is wr b D E F cd ce cf)
      have h1 := HCK1.out (by omega)
      go_wp2_with (first
        | (go_at_call 48; refine (HCB.out _ (Below_on HBW1.out (Below_on HB.out HX.out.below HB.out.size) HBW1.out.size)).mono ?_; rintro e w3 ⟨rfl, hb3⟩))
      · rename_i h
        have h' : ¬ ckA b = 0 := by simpa using h
        have HP : Hid (IntB w (rdErr a b) (.returned (.int .i64 (ckA b))) w3) := ⟨by unfold rdErr; rw [if_pos h1, if_neg h'], Below_on (Below_on HBW1.out (Below_on HB.out HX.out.below HB.out.size) HBW1.out.size) hb3 (Nat.le_trans HBW1.out.size (Nat.le_trans HB.out.size HX.out.below.size))⟩
        go_ret
        exact HP.out
      · rename_i h
        have h' : ckA b = 0 := by simpa using h
        exact ⟨⟨2, by omega, rfl, Below_on (Below_on HB.out HX.out.below HB.out.size) hb3 (Nat.le_trans HB.out.size HX.out.below.size), fun _ => h1, fun _ => h'⟩, by simp [intOf]⟩
    · have h1 := HCK1.out (by omega)
      have h2 := HCK2.out (by omega)
      have HBE : Hid (Below w.heap.size w wr) := Below_on HBW1.out HB.out HBW1.out.size
      by_cases hl : a.le = b.le
      · have HP : Hid (IntB w (rdErr a b) (.returned (.int .i64 0)) wr) := ⟨by unfold rdErr; rw [if_pos h1, if_pos h2, if_pos hl], HBE.out⟩
        have hl' : (a.le != b.le) = false := by simp [hl]
        clear hl h1 h2
        go_wp2_with fail
        go_ret
        exact HP.out
      · have HP : Hid (IntB w (rdErr a b) (.returned (.int .i64 1)) wr) := ⟨by unfold rdErr; rw [if_pos h1, if_pos h2, if_neg hl], HBE.out⟩
        have hl' : (a.le != b.le) = true := by simpa using hl
        clear hl h1 h2
        go_wp2_with fail
        go_ret
        exact HP.out
end Go.Proofs.Ytoglgeaiiipchaa

namespace Go.Proofs.Ytoglgeaiiipchaa
open Go Go.RowKit Go.Sort

theorem grown_set (W : World) (g i : Nat) (v : Value) : W.grownBy (W.setCell ⟨g, i, none⟩ v) (some g) :=
  ⟨rfl, rfl, rfl, by simp [World.setCell], fun k _ hk => Below.heap_setCell _ _ _ _ (fun e => hk (by rw [show k = g from e]))⟩
theorem grown_on {a b c : World} {r : Option Nat} (h : a.grownBy b r) (hb : Below b.heap.size b c) : a.grownBy c r :=
  ⟨hb.os.trans h.os, hb.tape.trans h.tape, hb.output.trans h.output, Nat.le_trans h.size hb.size, fun k hk hr => (hb.block k (Nat.lt_of_lt_of_le hk h.size)).trans (h.block k hk hr)⟩
theorem grown_grown {a b c : World} {r : Option Nat} (h : a.grownBy b r) (h2 : b.grownBy c r) : a.grownBy c r :=
  ⟨h2.os.trans h.os, h2.tape.trans h.tape, h2.output.trans h.output, Nat.le_trans h.size h2.size, fun k hk hr => (h2.block k (Nat.lt_of_lt_of_le hk h.size) hr).trans (h.block k hk hr)⟩
theorem grown_of_below {a b : World} (r : Option Nat) (h : Below a.heap.size a b) : a.grownBy b r := ⟨h.os, h.tape, h.output, h.size, fun k hk _ => h.block k hk⟩
theorem Ints.grown_bool {w w' : World} {lo : Nat} {A : Option Addr} {c g : Nat} {xs : List Int} {gs : List Bool} (h : Ints w lo A c xs) (hb : BRow w g gs) (hg : w.grownBy w' (some g)) : Ints w' lo A c xs := by
  refine ⟨h.le, h.cap, h.max, fun hne => ?_⟩
  obtain ⟨b, off, hA, hlo, hlt, hc⟩ := h.rd hne
  have hbg : b ≠ g := by
    rintro rfl
    cases xs with
    | nil => exact hne rfl
    | cons x r =>
      have := hc 0 (.int .i64 x) rfl
      unfold BRow at hb
      simp only [World.cell?, hb] at this
      simp at this
  exact ⟨b, off, hA, hlo, Nat.lt_of_lt_of_le hlt hg.size, fun j u hu => (World.cell?_of_block (w := w) (a := ⟨b, off + j, none⟩) (hg.block b hlt (fun e => hbg (by simpa using e)))).trans (hc j u hu)⟩
def zeroA : Value := .agg #[.int .i64 0, .int .i64 0, .slice none 0 0, .slice none 0 0, .slice none 0 0]
theorem obj5 {W : World} {V : Nat} {v0 v1 v2 v3 v4 : Value} {t : TypeId} (h : W.heap[V]? = some (.cells #[v0, v1, v2, v3, v4] t (0, 0))) :
    W.cell? ⟨V, 0, none⟩ = some v0 ∧ W.cell? ⟨V, 1, none⟩ = some v1 ∧ W.cell? ⟨V, 2, none⟩ = some v2 ∧ W.cell? ⟨V, 3, none⟩ = some v3 ∧ W.cell? ⟨V, 4, none⟩ = some v4 ∧ W.frozen? ⟨V, 0, none⟩ = false ∧ W.frozen? ⟨V, 1, none⟩ = false ∧ W.frozen? ⟨V, 2, none⟩ = false ∧ W.frozen? ⟨V, 3, none⟩ = false ∧ W.frozen? ⟨V, 4, none⟩ = false := by
  refine ⟨?_, ?_, ?_, ?_, ?_, ?_, ?_, ?_, ?_, ?_⟩ <;> simp [World.cell?, World.frozen?, h]
def set5 (w : World) (V : Nat) (v0 v1 v2 v3 v4 : Value) : World := ((((w.setCell ⟨V, 0, none⟩ v0).setCell ⟨V, 1, none⟩ v1).setCell ⟨V, 2, none⟩ v2).setCell ⟨V, 3, none⟩ v3).setCell ⟨V, 4, none⟩ v4
theorem below_set5 {B V : Nat} {a w : World} (h : Below B a w) (hV : B ≤ V) (v0 v1 v2 v3 v4 : Value) : Below B a (set5 w V v0 v1 v2 v3 v4) :=
  ((((h.setCell (p := ⟨V, 0, none⟩) hV _).setCell (p := ⟨V, 1, none⟩) hV _).setCell (p := ⟨V, 2, none⟩) hV _).setCell (p := ⟨V, 3, none⟩) hV _).setCell (p := ⟨V, 4, none⟩) hV _
theorem set5_heap {w : World} {V : Nat} {u0 u1 u2 u3 u4 : Value} {t : TypeId} (h : w.heap[V]? = some (.cells #[u0, u1, u2, u3, u4] t (0, 0))) (v0 v1 v2 v3 v4 : Value) :
    (set5 w V v0 v1 v2 v3 v4).heap[V]? = some (.cells #[v0, v1, v2, v3, v4] t (0, 0)) := by
  simp [set5, World.setCell, Array.getElem?_modify, h]
theorem retAu {fn : Func} {u : Tmp} (h : fn.results = #[.cell 2 49, .tmp u]) (tmps : Array Value) (w : World) (V : Nat) {v0 v1 v2 v3 v4 x : Value} (hp : tmps[2]? = some (.pointer (some ⟨V, 0, none⟩))) (hx : tmps[u]? = some x)
    (ho : w.heap[V]? = some (.cells #[v0, v1, v2, v3, v4] 49 (0, 0))) : (results fn tmps).run Try.prog w = .ok (.tuple #[.agg #[v0, v1, v2, v3, v4], x]) w := by
  obtain ⟨r0, r1, r2, r3, r4, _⟩ := obj5 ho
  simp [results, h, go_sem, hp, hx, r0, r1, r2, r3, r4]
theorem set5_far (w : World) (V : Nat) (v0 v1 v2 v3 v4 : Value) {b : Nat} (h : b ≠ V) : (set5 w V v0 v1 v2 v3 v4).heap[b]? = w.heap[b]? := by
  unfold set5
  rw [Below.heap_setCell _ ⟨V, 4, none⟩ _ _ h, Below.heap_setCell _ ⟨V, 3, none⟩ _ _ h, Below.heap_setCell _ ⟨V, 2, none⟩ _ _ h, Below.heap_setCell _ ⟨V, 1, none⟩ _ _ h, Below.heap_setCell _ ⟨V, 0, none⟩ _ _ h]
theorem set5_size (w : World) (V : Nat) (v0 v1 v2 v3 v4 : Value) : (set5 w V v0 v1 v2 v3 v4).heap.size = w.heap.size := by simp [set5, World.setCell]
theorem Rd.set5_ {w : World} {lo V : Nat} {A : Option Addr} {xs : List Value} (h : Rd w lo A xs) (hV : V < lo) (v0 v1 v2 v3 v4 : Value) : Rd (set5 w V v0 v1 v2 v3 v4) lo A xs := by
  intro hne
  obtain ⟨b, off, hA, hlo, hlt, hc⟩ := h hne
  exact ⟨b, off, hA, hlo, by rw [set5_size]; exact hlt, fun j u hu => (World.cell?_of_block (w := w) (a := ⟨b, off + j, none⟩) (set5_far w V v0 v1 v2 v3 v4 (by show b ≠ V; omega))).trans (hc j u hu)⟩
theorem AuRd.set5_ {w : World} {lo V : Nat} {a : Au} {A B C : Option Addr} {ca cb cc : Nat} (h : AuRd w lo a A B C ca cb cc) (hV : V < lo) (v0 v1 v2 v3 v4 : Value) : AuRd (set5 w V v0 v1 v2 v3 v4) lo a A B C ca cb cc :=
  ⟨⟨h.fs.le, h.fs.cap, h.fs.max, h.fs.rd.set5_ hV _ _ _ _ _⟩, ⟨h.gs.le, h.gs.cap, h.gs.max, h.gs.rd.set5_ hV _ _ _ _ _⟩, ⟨h.ss.le, h.ss.cap, h.ss.max, h.ss.rd.set5_ hV _ _ _ _ _⟩⟩
theorem infoSt : (Try.prog.info? 90).map (fun i => (i.zero, i.size, i.bytes)) = some (some (.agg #[.int .i64 0, .int .i64 0, .int .i64 0]), 3, 24) := by kernel_rfl
theorem heap_set2 {W : World} {G : Nat} {v0 v1 v2 v3 v4 : Value} {t : TypeId} (h : W.heap[G]? = some (.cells #[v0, v1, v2, v3, v4] t (0, 0))) (u : Value) : (W.setCell ⟨G, 2, none⟩ u).heap[G]? = some (.cells #[v0, v1, u, v3, v4] t (0, 0)) := by
  simp [World.setCell, Array.getElem?_modify, h]
theorem heap_set4 {W : World} {G : Nat} {v0 v1 v2 v3 v4 : Value} {t : TypeId} (h : W.heap[G]? = some (.cells #[v0, v1, v2, v3, v4] t (0, 0))) (u : Value) : (W.setCell ⟨G, 4, none⟩ u).heap[G]? = some (.cells #[v0, v1, v2, v3, u] t (0, 0)) := by
  simp [World.setCell, Array.getElem?_modify, h]
def viL (n : Int) : List Value := [.int .i64 n]
def vbL (b : Bool) : List Value := [.bool b]
/-- no row shared -/
def Aprt (u v : Value) : Prop := u.ownBlock = none ∨ u.ownBlock ≠ v.ownBlock
theorem Aprt.symm {u v : Value} (h : Aprt u v) : Aprt v u := by
  unfold Aprt at h ⊢
  rcases h with h | h
  · cases hv : v.ownBlock with
    | none => exact .inl rfl
    | some g => exact .inr (by rw [h]; simp)
  · exact .inr (Ne.symm h)
structure AuM (G : Nat) (st le : Int) (fs : List Int) (gs : List Bool) (ss : List Stp) (fv gv sv : Value) (W : World) : Prop where
  obj : W.heap[G]? = some (.cells #[.int .i64 st, .int .i64 le, fv, gv, sv] 49 (0, 0))
  f : W.ownsRow (G + 1) 3 1 fv fs.length (fs.flatMap viL)
  g : W.ownsRow (G + 1) 4 1 gv gs.length (gs.flatMap vbL)
  s : W.ownsRow (G + 1) 90 3 sv ss.length (ss.flatMap Stp.cells)
  fg : Aprt fv gv
  gs_ : Aprt gv sv
  fs_ : Aprt fv sv
section
variable {G : Nat} {st le : Int} {fs : List Int} {gs : List Bool} {ss : List Stp} {fv gv sv : Value} {W W' : World}
theorem AuM.lt (h : AuM G st le fs gs ss fv gv sv W) : G < W.heap.size := (Array.getElem?_eq_some_iff.1 h.obj).1
theorem AuM.on (h : AuM G st le fs gs ss fv gv sv W) (hb : Below W.heap.size W W') : AuM G st le fs gs ss fv gv sv W' :=
  ⟨(hb.block G h.lt).trans h.obj, own_below h.f hb, own_below h.g hb, own_below h.s hb, h.fg, h.gs_, h.fs_⟩
theorem AuM.new (W : World) (le : Int) : AuM W.heap.size 0 le [] [] [] (.slice none 0 0) (.slice none 0 0) (.slice none 0 0) (W.alloc (Obj.cells #[.int .i64 0, .int .i64 le, .slice none 0 0, .slice none 0 0, .slice none 0 0] 49)) := by
  refine ⟨?_, World.ownsRow_nil _ _ _ _, World.ownsRow_nil _ _ _ _, World.ownsRow_nil _ _ _ _, .inl rfl, .inl rfl, .inl rfl⟩
  show (W.heap.push _)[W.heap.size]? = _
  simp
theorem own_set {w : World} {base : Nat} {e : TypeId} {size n : Nat} {v : Value} {xs : List Value} (h : w.ownsRow base e size v n xs) {p : Addr} (hp : p.block < base) (u : Value) : (w.setCell p u).ownsRow base e size v n xs :=
  ownsRow_setCell_below h hp u
/-- a store below -/
theorem AuM.low (h : AuM G st le fs gs ss fv gv sv W) {p : Addr} (hp : p.block < G) (u : Value) : AuM G st le fs gs ss fv gv sv (W.setCell p u) :=
  ⟨(Below.heap_setCell _ p u G (by omega)).trans h.obj, own_set h.f (by omega) _, own_set h.g (by omega) _, own_set h.s (by omega) _, h.fg, h.gs_, h.fs_⟩
theorem heap_set0 {t : TypeId} {v0 v1 v2 v3 v4 : Value} (h : W.heap[G]? = some (.cells #[v0, v1, v2, v3, v4] t (0, 0))) (u : Value) : (W.setCell ⟨G, 0, none⟩ u).heap[G]? = some (.cells #[u, v1, v2, v3, v4] t (0, 0)) := by
  simp [World.setCell, Array.getElem?_modify, h]
theorem heap_set3 {t : TypeId} {v0 v1 v2 v3 v4 : Value} (h : W.heap[G]? = some (.cells #[v0, v1, v2, v3, v4] t (0, 0))) (u : Value) : (W.setCell ⟨G, 3, none⟩ u).heap[G]? = some (.cells #[v0, v1, v2, u, v4] t (0, 0)) := by
  simp [World.setCell, Array.getElem?_modify, h]
/-- the count of states -/
theorem AuM.states (h : AuM G st le fs gs ss fv gv sv W) (st' : Int) : AuM G st' le fs gs ss fv gv sv (W.setCell ⟨G, 0, none⟩ (.int .i64 st')) :=
  ⟨heap_set0 h.obj _, own_set h.f (by show G < _; omega) _, own_set h.g (by show G < _; omega) _, own_set h.s (by show G < _; omega) _, h.fg, h.gs_, h.fs_⟩
/-- what an append to one row leaves of another one -/
theorem own_other {w w1 w3 : World} {base : Nat} {e e' : TypeId} {size size' n n' : Nat} {v u v3 : Value} {xs xs' : List Value} (hu : w.ownsRow base e' size' u n' xs') (hv : w.ownsRow base e size v n xs) (ha : Aprt u v) (hb : Below w.heap.size w w1) (hg : w1.grownBy w3 v.ownBlock)
    (h3 : v3.ownBlock = v.ownBlock ∨ v3.ownBlock = some w1.heap.size) {p : Addr} (hp : p.block < base) (x : Value) : (w3.setCell p x).ownsRow base e' size' u n' xs' ∧ Aprt u v3 := by
  refine ⟨own_set (World.ownsRow.kept (own_below hu hb) hg ?_) hp _, ?_⟩
  · exact ha
  · rcases h3 with h3 | h3
    · unfold Aprt at ha ⊢
      rw [h3]; exact ha
    · cases hk : u.ownBlock with
      | none => exact .inl hk
      | some g =>
        refine .inr ?_
        rw [hk, h3]
        have := (hu.lt g hk).2
        have := hb.size
        intro e
        have := Option.some.inj e
        omega
theorem below_app {w w1 w3 : World} {G : Nat} {e : TypeId} {size n : Nat} {v : Value} {xs : List Value} (hv : w.ownsRow (G + 1) e size v n xs) (hG : G < w.heap.size) (hb : Below w.heap.size w w1) (hg : w1.grownBy w3 v.ownBlock) (k : Nat) (x : Value) : Below G w (w3.setCell ⟨G, k, none⟩ x) :=
  ((hb.mono (Nat.le_of_lt hG)).grown hg (by have := hb.size; omega) (fun k hk => by have := (hv.lt k hk).1; omega)).setCell (p := ⟨G, k, none⟩) (Nat.le_refl _) _
theorem obj_app {w w1 w3 : World} {G : Nat} {o : Obj} {e : TypeId} {size n : Nat} {v : Value} {xs : List Value} (ho : w.heap[G]? = some o) (hv : w.ownsRow (G + 1) e size v n xs) (hb : Below w.heap.size w w1) (hg : w1.grownBy w3 v.ownBlock) : w3.heap[G]? = some o := by
  have hlt := (Array.getElem?_eq_some_iff.1 ho).1
  exact (hg.block G (by have := hb.size; omega) (own_ne hv (Nat.lt_succ_self G))).trans ((hb.block G hlt).trans ho)
end
/-- what stands ahead of an append and behind the store, whatever is appended -/
def AppTo (G k : Nat) (v : Value) (t e : TypeId) (cs : Array Value) (n : Nat) (W : World) (Q : Value → World → Prop) : Prop :=
  ∃ A c, v = .slice A n c ∧ n ≤ c ∧ c ≤ 9223372036854775807 ∧ ∃ T3 c3 w3, (Builtin.append_ #[t, t] t #[.slice A n c, .slice (some ⟨W.heap.size, 0, none⟩) 1 1]).run Try.prog (W.alloc (Obj.cells cs e)) = .ok (.slice T3 (n + 1) c3) w3 ∧
    w3.cell? ⟨G, k, none⟩ = some v ∧ w3.frozen? ⟨G, k, none⟩ = false ∧ (W.alloc (Obj.cells cs e)).grownBy w3 v.ownBlock ∧ Q (.slice T3 (n + 1) c3) (w3.setCell ⟨G, k, none⟩ (.slice T3 (n + 1) c3))
theorem AuM.appF {G : Nat} {st le : Int} {fs : List Int} {gs : List Bool} {ss : List Stp} {fv gv sv : Value} {W : World} (h : AuM G st le fs gs ss fv gv sv W) (x : Int) (hl : fs.length < 200000) :
    AppTo G 2 fv 24 3 #[.int .i64 x] fs.length W (fun v' W' => AuM G st le (fs ++ [x]) gs ss v' gv sv W' ∧ Below G W W') := by
  obtain ⟨i0, hi0, hz0, hz1, hz2⟩ := info_parts infoInt
  have hlt := h.lt
  have hb : Below W.heap.size W (W.alloc (Obj.cells #[.int .i64 x] 3)) := (Below.refl _ _).alloc (Nat.le_refl _) _
  obtain ⟨A1, c1, e1, hc1, hc2, _⟩ := own_form h.f
  obtain ⟨v3, w3, hr, hown, hg, hat⟩ := run_app (P := Try.prog) (W.alloc (Obj.cells #[.int .i64 x] 3)) (G + 1) 24 24 3 i0 _ 1 8 Try.underlying24 hi0 hz0 hz1 hz2 rfl (by decide) _ fs.length _ (own_below h.f hb) (some ⟨W.heap.size, 0, none⟩) 1 1 [.int .i64 x] rfl
    (Rd.new W #[.int .i64 x] 3) (by simp [Value.oneCell']) (by simp only [maxLen]; omega) (by omega) (by simp; omega)
  obtain ⟨T3, c3, rfl, _, _, _⟩ := own_form hown
  have hG3 := obj_app h.obj h.f hb hg
  obtain ⟨_, _, q2, _, _, _, _, f2, _, _⟩ := obj5 hG3
  obtain ⟨k1, k2⟩ := own_other h.g h.f h.fg.symm hb hg hat (p := ⟨G, 2, none⟩) (Nat.lt_succ_self G) (.slice T3 (fs.length + 1) c3)
  obtain ⟨k3, k4⟩ := own_other h.s h.f h.fs_.symm hb hg hat (p := ⟨G, 2, none⟩) (Nat.lt_succ_self G) (.slice T3 (fs.length + 1) c3)
  refine ⟨A1, c1, e1, hc1, hc2, T3, c3, w3, by rw [← e1]; exact hr, q2, f2, hg, ⟨⟨heap_set2 hG3 _, ?_, k1, k3, k2.symm, h.gs_, k4.symm⟩, below_app h.f hlt hb hg 2 _⟩⟩
  have := own_set hown (p := ⟨G, 2, none⟩) (Nat.lt_succ_self G) (.slice T3 (fs.length + 1) c3)
  simpa [viL] using this
theorem AuM.appG {G : Nat} {st le : Int} {fs : List Int} {gs : List Bool} {ss : List Stp} {fv gv sv : Value} {W : World} (h : AuM G st le fs gs ss fv gv sv W) (x : Bool) (hl : gs.length < 200000) :
    AppTo G 3 gv 37 4 #[.bool x] gs.length W (fun v' W' => AuM G st le fs (gs ++ [x]) ss fv v' sv W' ∧ Below G W W') := by
  obtain ⟨i0, hi0, hz0, hz1, hz2⟩ := info_parts infoBool
  have hlt := h.lt
  have hb : Below W.heap.size W (W.alloc (Obj.cells #[.bool x] 4)) := (Below.refl _ _).alloc (Nat.le_refl _) _
  obtain ⟨A1, c1, e1, hc1, hc2, _⟩ := own_form h.g
  obtain ⟨v3, w3, hr, hown, hg, hat⟩ := run_app (P := Try.prog) (W.alloc (Obj.cells #[.bool x] 4)) (G + 1) 37 37 4 i0 _ 1 1 Try.underlying37 hi0 hz0 hz1 hz2 rfl (by decide) _ gs.length _ (own_below h.g hb) (some ⟨W.heap.size, 0, none⟩) 1 1 [.bool x] rfl
    (Rd.new W #[.bool x] 4) (by simp [Value.oneCell']) (by simp only [maxLen]; omega) (by omega) (by simp; omega)
  obtain ⟨T3, c3, rfl, _, _, _⟩ := own_form hown
  have hG3 := obj_app h.obj h.g hb hg
  obtain ⟨_, _, _, q3, _, _, _, _, f3, _⟩ := obj5 hG3
  obtain ⟨k1, k2⟩ := own_other h.f h.g h.fg hb hg hat (p := ⟨G, 3, none⟩) (Nat.lt_succ_self G) (.slice T3 (gs.length + 1) c3)
  obtain ⟨k3, k4⟩ := own_other h.s h.g h.gs_.symm hb hg hat (p := ⟨G, 3, none⟩) (Nat.lt_succ_self G) (.slice T3 (gs.length + 1) c3)
  refine ⟨A1, c1, e1, hc1, hc2, T3, c3, w3, by rw [← e1]; exact hr, q3, f3, hg, ⟨⟨heap_set3 hG3 _, k1, ?_, k3, k2, k4.symm, h.fs_⟩, below_app h.g hlt hb hg 3 _⟩⟩
  have := own_set hown (p := ⟨G, 3, none⟩) (Nat.lt_succ_self G) (.slice T3 (gs.length + 1) c3)
  simpa [vbL] using this
theorem AuM.appS {G : Nat} {st le : Int} {fs : List Int} {gs : List Bool} {ss : List Stp} {fv gv sv : Value} {W : World} (h : AuM G st le fs gs ss fv gv sv W) (x : Stp) (hl : ss.length < 200000) :
    AppTo G 4 sv 47 90 #[.int .i64 x.f, .int .i64 x.l, .int .i64 x.t] ss.length W (fun v' W' => AuM G st le fs gs (ss ++ [x]) fv gv v' W' ∧ Below G W W') := by
  obtain ⟨i0, hi0, hz0, hz1, hz2⟩ := info_parts infoSt
  have hlt := h.lt
  have hb : Below W.heap.size W (W.alloc (Obj.cells #[.int .i64 x.f, .int .i64 x.l, .int .i64 x.t] 90)) := (Below.refl _ _).alloc (Nat.le_refl _) _
  obtain ⟨A1, c1, e1, hc1, hc2, _⟩ := own_form h.s
  obtain ⟨v3, w3, hr, hown, hg, hat⟩ := run_app (P := Try.prog) (W.alloc (Obj.cells #[.int .i64 x.f, .int .i64 x.l, .int .i64 x.t] 90)) (G + 1) 47 47 90 i0 _ 3 24 Try.underlying47 hi0 hz0 hz1 hz2 rfl (by decide) _ ss.length _ (own_below h.s hb) (some ⟨W.heap.size, 0, none⟩) 1 1 [.int .i64 x.f, .int .i64 x.l, .int .i64 x.t] rfl
    (Rd.new W #[.int .i64 x.f, .int .i64 x.l, .int .i64 x.t] 90) (by simp [Value.oneCell']) (by simp only [maxLen]; omega) (by omega) (by simp; omega)
  obtain ⟨T3, c3, rfl, _, _, _⟩ := own_form hown
  have hG3 := obj_app h.obj h.s hb hg
  obtain ⟨_, _, _, _, q4, _, _, _, _, f4⟩ := obj5 hG3
  obtain ⟨k1, k2⟩ := own_other h.f h.s h.fs_ hb hg hat (p := ⟨G, 4, none⟩) (Nat.lt_succ_self G) (.slice T3 (ss.length + 1) c3)
  obtain ⟨k3, k4⟩ := own_other h.g h.s h.gs_ hb hg hat (p := ⟨G, 4, none⟩) (Nat.lt_succ_self G) (.slice T3 (ss.length + 1) c3)
  refine ⟨A1, c1, e1, hc1, hc2, T3, c3, w3, by rw [← e1]; exact hr, q4, f4, hg, ⟨⟨heap_set4 hG3 _, k1, k3, ?_, h.fg, k4, k2⟩, below_app h.s hlt hb hg 4 _⟩⟩
  have := own_set hown (p := ⟨G, 4, none⟩) (Nat.lt_succ_self G) (.slice T3 (ss.length + 1) c3)
  rw [show (ss ++ [x]).length = ss.length + 1 by simp, show (ss ++ [x]).flatMap Stp.cells = ss.flatMap Stp.cells ++ [.int .i64 x.f, .int .i64 x.l, .int .i64 x.t] by simp [Stp.cells]]
  exact this
end Go.Proofs.Ytoglgeaiiipchaa

namespace Go.Proofs.Ytoglgeaiiipchaa
open Go Go.RowKit Go.Sort

/-- a row of ints that the call made, known whole -/
def IRow (w : World) (g : Nat) (xs : List Int) : Prop := w.heap[g]? = some (.cells (xs.map (Value.int .i64)).toArray 3 (0, 0))
theorem IRow.below {w w' : World} {g : Nat} {xs : List Int} (h : IRow w g xs) {B : Nat} (hb : Below B w w') (hg : g < B) : IRow w' g xs := (hb.block g hg).trans h
theorem IRow.lt {w : World} {g : Nat} {xs : List Int} (h : IRow w g xs) : g < w.heap.size := (Array.getElem?_eq_some_iff.1 h).1
theorem IRow.getD_ {w : World} {g : Nat} {xs : List Int} (h : IRow w g xs) {i : Nat} (hi : i < xs.length) : w.cell? ⟨g, i, none⟩ = some (.int .i64 (xs.getD i 0)) ∧ w.frozen? ⟨g, i, none⟩ = false := by
  unfold IRow at h
  rw [List.getD_eq_getElem?_getD, List.getElem?_eq_getElem hi]
  refine ⟨?_, ?_⟩
  · simp only [World.cell?, h]
    simp [hi]
  · simp only [World.frozen?, h]
    simp
theorem IRow.set_ {w : World} {g : Nat} {xs : List Int} (h : IRow w g xs) (i : Nat) (v : Int) : IRow (w.setCell ⟨g, i, none⟩ (.int .i64 v)) g (xs.set i v) := by
  unfold IRow at h ⊢
  simp [World.setCell, Array.getElem?_modify, h]
theorem IRow.set_far {w : World} {g : Nat} {xs : List Int} (h : IRow w g xs) {p : Addr} (hp : g ≠ p.block) (u : Value) : IRow (w.setCell p u) g xs := (Below.heap_setCell w p u g hp).trans h
theorem IRow.new (w : World) (n : Nat) : IRow (w.alloc (Obj.cells (madeCells #[Value.int .i64 0] n) 3)) w.heap.size (List.replicate n 0) := by
  have e : madeCells #[Value.int .i64 0] n = ((List.replicate n (0 : Int)).map (Value.int .i64)).toArray := by
    rw [List.map_replicate]
    unfold madeCells
    apply Array.ext
    · simp
    · intro i h1 h2
      simp [Nat.mod_one]
  show (w.heap.push _)[w.heap.size]? = _
  rw [e]
  simp
theorem run_makeInts (st : Int) (n : Nat) (hn : (n : Int) = st) (hl : n ≤ 1000000) : ∀ w, (Instr.makeSlice 24 (.int .i64 st) (.int .i64 st)).run Try.prog w = .ok (.slice (some ⟨w.heap.size, 0, none⟩) n n) (w.alloc (Obj.cells (madeCells #[Value.int .i64 0] n) 3)) := by
  intro w
  obtain ⟨i0, hi0, hz0, hz1, hz2⟩ := info_parts infoInt
  have := run_make (P := Try.prog) w 24 3 i0 (.int .i64 0) Try.underlying24 hi0 hz0 .i64 .i64 st st (by omega) (by omega) (by rw [hz2]; omega) (by omega)
  rw [this, ← hn, hz1]
  simp [Value.cells]
/-- where each state comes to, ahead of state k -/
def toRow (keep : List Bool) (n k : Nat) : List Int := (List.range n).map fun i => if i < k then (pos keep i : Int) else 0
theorem toRow_len (keep : List Bool) (n k : Nat) : (toRow keep n k).length = n := by simp [toRow]
theorem toRow_zero (keep : List Bool) (n : Nat) : toRow keep n 0 = List.replicate n 0 := by
  refine List.ext_getElem (by simp [toRow]) fun i h1 h2 => by simp [toRow]
theorem toRow_succ (keep : List Bool) {n k : Nat} (h : k < n) : (toRow keep n k).set k (pos keep k : Int) = toRow keep n (k + 1) := by
  refine List.ext_getElem (by simp [toRow]) fun i h1 h2 => ?_
  rw [List.getElem_set]
  simp only [toRow, List.getElem_map, List.getElem_range]
  split
  · rename_i e
    subst e
    rw [if_pos (by omega)]
  · split
    · rw [if_pos (by omega)]
    · rw [if_neg (by omega)]
theorem toRow_get (keep : List Bool) {n i : Nat} (h : i < n) : (toRow keep n n).getD i 0 = (pos keep i : Int) := by
  unfold toRow
  rw [List.getD_eq_getElem?_getD, List.getElem?_map, List.getElem?_range h]
  show (if i < n then (pos keep i : Int) else 0) = _
  rw [if_pos h]

/-- between two rounds; w: the world behind the results' variable -/
structure MdM (w : World) (t G : Nat) (T : List Int) (st le : Int) (fs : List Int) (gs : List Bool) (ss : List Stp) (fv gv sv : Value) (W : World) : Prop where
  below : Below t w W
  tG : t < G
  row : IRow W t T
  au : AuM G st le fs gs ss fv gv sv W
section
variable {w : World} {t G : Nat} {T : List Int} {st le : Int} {fs : List Int} {gs : List Bool} {ss : List Stp} {fv gv sv : Value} {W W' : World}
theorem MdM.on (h : MdM w t G T st le fs gs ss fv gv sv W) (hb : Below W.heap.size W W') : MdM w t G T st le fs gs ss fv gv sv W' :=
  ⟨Below_on h.below hb (Nat.le_of_lt h.row.lt), h.tG, h.row.below hb h.row.lt, h.au.on hb⟩
theorem MdM.put (h : MdM w t G T st le fs gs ss fv gv sv W) (i : Nat) (v : Int) : MdM w t G (T.set i v) st le fs gs ss fv gv sv (W.setCell ⟨t, i, none⟩ (.int .i64 v)) :=
  ⟨h.below.setCell (p := ⟨t, i, none⟩) (Nat.le_refl _) _, h.tG, h.row.set_ i v, h.au.low (p := ⟨t, i, none⟩) h.tG _⟩
theorem MdM.states (h : MdM w t G T st le fs gs ss fv gv sv W) (st' : Int) : MdM w t G T st' le fs gs ss fv gv sv (W.setCell ⟨G, 0, none⟩ (.int .i64 st')) :=
  ⟨h.below.setCell (p := ⟨G, 0, none⟩) (Nat.le_of_lt h.tG) _, h.tG, h.row.set_far (by have := h.tG; show t ≠ G; omega) _, h.au.states st'⟩
theorem MdM.step {st' : Int} {fs' : List Int} {gs' : List Bool} {ss' : List Stp} {fv' gv' sv' : Value} (h : MdM w t G T st le fs gs ss fv gv sv W) (h2 : AuM G st' le fs' gs' ss' fv' gv' sv' W') (hb : Below G W W') : MdM w t G T st' le fs' gs' ss' fv' gv' sv' W' :=
  ⟨h.below.trans (hb.mono (Nat.le_of_lt h.tG)), h.tG, h.row.below hb h.tG, h2⟩
theorem AuM.rd (h : AuM G st le fs gs ss fv gv sv W) (h1 : fs.length ≤ 200000) (h2 : gs.length ≤ 200000) (h3 : ss.length ≤ 200000) : ∃ A B C ca cb cc, fv = .slice A fs.length ca ∧ gv = .slice B gs.length cb ∧ sv = .slice C ss.length cc ∧ AuRd W (G + 1) ⟨st, le, fs, gs, ss⟩ A B C ca cb cc := by
  obtain ⟨A, ca, rfl, hA⟩ := SlE.of_own (enc := viL) (bt := 8) h.f (by omega)
  obtain ⟨B, cb, rfl, hB⟩ := SlE.of_own (enc := vbL) (bt := 1) h.g (by omega)
  obtain ⟨C, cc, rfl, hC⟩ := SlE.of_own (enc := Stp.cells) (bt := 24) h.s (by omega)
  exact ⟨A, B, C, ca, cb, cc, rfl, rfl, rfl, hA, hB, hC⟩
end
end Go.Proofs.Ytoglgeaiiipchaa
