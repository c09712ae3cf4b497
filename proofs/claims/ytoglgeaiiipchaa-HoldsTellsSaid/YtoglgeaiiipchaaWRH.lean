/- Walks: the reference's HoldsAt, TableOf. -/
import Derived.Test.YtoglgeaiiipchaaPH3
import Derived.Test.YtoglgeaiiipchaaWNode
import Derived.Test.YtoglgeaiiipchaaWCL
namespace Go.Proofs.Ytoglgeaiiipchaa
open Go Go.RowKit Go.Shelf

set_option maxRecDepth 100000 in
theorem LetterAt_ (A B : Option Addr) (ca cb : Nat) (l : La) (i : Nat) (w : World) (hh : Ints w 0 A ca l.h) (hl : Ints w 0 B cb l.l) (hne : l.l.length ≠ 0) (hi : i < 9223372036854775807) :
    Calls Try.prog 18 #[.agg #[.slice A l.h.length ca, .slice B l.l.length cb], .int .i64 i] w fun e w' => e = .returned (.int .i64 (l.at i)) ∧ Below w.heap.size w w' := by
  have h1 := hh.le
  have h2 := hh.max
  have h3 := hl.le
  have h4 := hl.max
  by_cases hlt : i < l.h.length
  · obtain ⟨b, o, rfl, _, hb, hc⟩ := Ints.at_ hh hlt
    have hfin : l.at i = l.h[i] := by simp [La.at, hlt]
    have HF := Lib.hid hfin
    clear hfin
    go_enter Try.func18, Try.ntmps18
    go_wp2
    go_ret
    exact ⟨ret_int HF.out.symm, (Below.refl _ _).alloc (Nat.le_refl _) _⟩
  · have hm : (i - l.h.length) % l.l.length < l.l.length := Nat.mod_lt _ (by omega)
    obtain ⟨b, o, rfl, _, hb, hc⟩ := Ints.at_ hl hm
    have hfin : l.at i = l.l[(i - l.h.length) % l.l.length] := by simp [La.at, hlt, hm]
    have HF := Lib.hid hfin
    clear hfin
    have e1 : ((i : Int) - (l.h.length : Int)) = ((i - l.h.length : Nat) : Int) := by omega
    have hz : ((l.l.length : Int) == 0) = false := by simpa using hne
    go_enter Try.func18, Try.ntmps18
    go_wp2
    go_quiet (fail)
    go_wp2
    go_ret
    exact ⟨ret_int HF.out.symm, below_drewN ((Below.refl _ _).alloc (Nat.le_refl _) _) _⟩

theorem place_ (X Y n h L k : Nat) (A : Option Addr) (c : Nat) (w : World) (hX : w.cell? ⟨X, 0, none⟩ = some (.int .i64 n)) (hY : w.cell? ⟨Y, 1, none⟩ = some (.slice A L c)) (hn : n = h + L) (hL : 0 < L) (hk : k ≤ 1000000) (hnn : n ≤ 1000000) :
    Calls Try.prog 78 #[.int .i64 k, .pointer (some ⟨X, 0, none⟩), .pointer (some ⟨Y, 0, none⟩)] w fun e w' => e = .returned (.int .i64 (plc n h k : Nat)) ∧ w' = w := by
  have HN := Lib.hid hn
  have hLn : L ≤ n := by omega
  clear hn
  go_enter Try.func78, Try.ntmps78
  go_wp2
  go_loop [0] (fun i => ∃ j : Nat, j ≤ k ∧ i = .int .i64 j ∧ plc n h k = plc n h j) (fun i => (intOf i).toNat)
  case atStart => exact ⟨k, Nat.le_refl _, rfl, rfl⟩
  case round =>
    obtain ⟨j, hj, rfl, hp⟩ := hrel
    have HP := Lib.hid hp
    clear hp
    by_cases hlt : j < n
    · have HF := Lib.hid (plc_self (h := h) hlt)
      go_wp2
      go_ret
      exact ⟨ret_int (by rw [HP.out, HF.out]), rfl⟩
    · have hb := plc_back (n := n) (h := h) (k := j) (by have := HN.out; omega) (by omega)
      rw [show n - h = L by have := HN.out; omega] at hb
      have HB := Lib.hid hb
      clear hb
      have e1 : ((j : Int) - (L : Int)) = ((j - L : Nat) : Int) := by omega
      go_wp2
      go_round
      case rel => exact ⟨j - L, by omega, rfl, by rw [HP.out, HB.out]⟩
      case measure => simp [intOf]; omega

theorem cell_on2 {B : Nat} {w w' : World} (hb : Below B w w') {b o : Nat} (h : b < B) : w'.cell? ⟨b, o, none⟩ = w.cell? ⟨b, o, none⟩ := hb.cell (p := ⟨b, o, none⟩) h
/-- the world in which HoldsAt has laid its variables -/
def haW (w : World) (A B : Option Addr) (ca cb : Nat) (l : La) (x : Nd) : World :=
  ((w.alloc (Obj.cells #[Value.slice A l.h.length ca, Value.slice B l.l.length cb] 26)).alloc (Obj.cells #[.int .i64 x.k, .int .i64 x.a, .int .i64 x.b, .int .i64 x.n] 65)).alloc (Obj.cells #[.int .i64 l.n] 3)
structure HaW (w W : World) (A B : Option Addr) (ca cb : Nat) (l : La) (x : Nd) : Prop where
  below : Below w.heap.size w W
  size : W.heap.size = w.heap.size + 3
  l0 : W.cell? ⟨w.heap.size, 0, none⟩ = some (.slice A l.h.length ca)
  l1 : W.cell? ⟨w.heap.size, 1, none⟩ = some (.slice B l.l.length cb)
  x0 : W.cell? ⟨w.heap.size + 1, 0, none⟩ = some (.int .i64 x.k)
  x1 : W.cell? ⟨w.heap.size + 1, 1, none⟩ = some (.int .i64 x.a)
  x2 : W.cell? ⟨w.heap.size + 1, 2, none⟩ = some (.int .i64 x.b)
  x3 : W.cell? ⟨w.heap.size + 1, 3, none⟩ = some (.int .i64 x.n)
  n0 : W.cell? ⟨w.heap.size + 2, 0, none⟩ = some (.int .i64 l.n)
theorem haW_is (w : World) (A B : Option Addr) (ca cb : Nat) (l : La) (x : Nd) : HaW w (haW w A B ca cb l x) A B ca cb l x := by
  unfold haW
  refine ⟨by go_grown, by simp, ?_, ?_, ?_, ?_, ?_, ?_, ?_⟩ <;> go_simp
theorem haW_is' (w : World) (A B : Option Addr) (ca cb : Nat) (l : La) (x : Nd) :
    haW w A B ca cb l x = ((w.alloc (Obj.cells #[Value.slice A l.h.length ca, Value.slice B l.l.length cb] 26)).alloc (Obj.cells #[.int .i64 x.k, .int .i64 x.a, .int .i64 x.b, .int .i64 x.n] 65)).alloc (Obj.cells #[.int .i64 ((l.h.length : Int) + (l.l.length : Int))] 3) := by
  unfold haW La.n
  rw [show ((l.h.length + l.l.length : Nat) : Int) = (l.h.length : Int) + (l.l.length : Int) from by omega]

def HaPost (w : World) (b : Bool) (e : Ending) (w' : World) : Prop := e = .returned (.bool b) ∧ Below w.heap.size w w'

set_option maxRecDepth 100000 in
set_option maxHeartbeats 1000000 in
theorem HoldsAt1_ (F : Option Addr) (fc : Nat) (f : List Nd) (A B : Option Addr) (ca cb : Nat) (l : La) (T : Option Addr) (tc : Nat) (rows : List (List Bool)) (i p : Nat) (w : World)
    (hf : Nds w 0 F fc f) (hh : Ints w 0 A ca l.h) (hl : Ints w 0 B cb l.l) (ht : RowsAt w T tc rows) (hi : i < f.length) (hp : p < l.n) (hlen : ∀ r ∈ rows, r.length = l.n)
    (hlt : l.h.length < l.n) (hn : l.n ≤ 8000) (hk : f[i].k = 1) :
    Calls Try.prog 40 #[.slice F f.length fc, .agg #[.slice A l.h.length ca, .slice B l.l.length cb], .slice T rows.length tc, .int .i64 i, .int .i64 p] w (HaPost w true) := by
  have hcp := hf.cap
  have hle := hf.le
  have hcp2 := ht.cap
  have hle2 := ht.le
  have hlh : l.h.length ≤ l.n := by omega
  have hll : l.l.length ≤ l.n := by unfold La.n; omega
  have HN := Lib.hid (show l.n = l.h.length + l.l.length from rfl)
  have hl0 : 0 < l.l.length := by have := HN.out; omega
  have hrp : rows.length ≤ 1000000 := ht.small
  obtain ⟨b, o, rfl, _, hbl, hc1, hc2, hc3, hc4⟩ := Nds.at_ hf hi
  have HW := Lib.hid (haW_is w A B ca cb l f[i])
  have EW := Lib.hid (haW_is' w A B ca cb l f[i])
  rw [hk] at hc1
  have HP : Hid (HaPost w true (.returned (.bool true)) (haW w A B ca cb l f[i])) := ⟨rfl, HW.out.below⟩
  rw [EW.out, hk] at HP
  clear hk
  go_enter Try.func40, Try.ntmps40
  go_wp2_with fail
  go_ret
  exact HP.out

/-- a cell of a table row, as the walk reads it -/
theorem row_cell {w : World} {T : Option Addr} {tc : Nat} {rows : List (List Bool)} (h : RowsAt w T tc rows) {a p n : Nat} (ha : a < rows.length) (hlen : ∀ r ∈ rows, r.length = n) (hp : p < n) :
    ∃ tb to b o c, T = some ⟨tb, to, none⟩ ∧ tb < w.heap.size ∧ b < w.heap.size ∧ w.cell? ⟨tb, to + a, none⟩ = some (.slice (some ⟨b, o, none⟩) n c) ∧ n ≤ c ∧ c ≤ 9223372036854775807 ∧ w.cell? ⟨b, o + p, none⟩ = some (.bool (gB rows a p)) := by
  obtain ⟨tb, to, hT, h1, A', c', h3, h4⟩ := h.rd a ha
  have hl := hlen _ (List.getElem_mem ha)
  have hpr : p < (rows[a]).length := by omega
  obtain ⟨b, o, rfl, _, h5, h6⟩ := Bools.at_ h4 hpr
  have hle := h4.le
  refine ⟨tb, to, b, o, c', hT, h1, h5, by rw [← hl]; exact h3, by omega, h4.cap, ?_⟩
  rw [h6]
  simp [gB, ha, hpr]

set_option maxRecDepth 100000 in
set_option maxHeartbeats 1000000 in
theorem HoldsAt3_ (F : Option Addr) (fc : Nat) (f : List Nd) (A B : Option Addr) (ca cb : Nat) (l : La) (T : Option Addr) (tc : Nat) (rows : List (List Bool)) (i p : Nat) (w : World)
    (hf : Nds w 0 F fc f) (hh : Ints w 0 A ca l.h) (hl : Ints w 0 B cb l.l) (ht : RowsAt w T tc rows) (hi : i < f.length) (hp : p < l.n) (hlen : ∀ r ∈ rows, r.length = l.n)
    (hlt : l.h.length < l.n) (hn : l.n ≤ 8000) (hk : f[i].k = 3) (a : Nat) (hka : f[i].a = a) (ha : a < rows.length) :
    Calls Try.prog 40 #[.slice F f.length fc, .agg #[.slice A l.h.length ca, .slice B l.l.length cb], .slice T rows.length tc, .int .i64 i, .int .i64 p] w (HaPost w (!gB rows a p)) := by
  have hcp := hf.cap
  have hle := hf.le
  have hcp2 := ht.cap
  have hle2 := ht.le
  have hlh : l.h.length ≤ l.n := by omega
  have hll : l.l.length ≤ l.n := by unfold La.n; omega
  have HN := Lib.hid (show l.n = l.h.length + l.l.length from rfl)
  have hl0 : 0 < l.l.length := by have := HN.out; omega
  have hrp : rows.length ≤ 1000000 := ht.small
  obtain ⟨b, o, rfl, _, hbl, hc1, hc2, hc3, hc4⟩ := Nds.at_ hf hi
  have HW := Lib.hid (haW_is w A B ca cb l f[i])
  have EW := Lib.hid (haW_is' w A B ca cb l f[i])
  obtain ⟨tb, to, rb, ro, rc, rfl, htb, hrb, g1, g2, g3, g4⟩ := row_cell ht ha hlen hp
  have q1 := (cell_on2 HW.out.below htb).trans g1
  have q2 := (cell_on2 HW.out.below hrb).trans g4
  rw [hk] at hc1
  rw [hka] at hc2
  have HP : Hid (HaPost w (!gB rows a p) (.returned (.bool (!gB rows a p))) (haW w A B ca cb l f[i])) := ⟨rfl, HW.out.below⟩
  rw [EW.out, hk, hka] at HP q1 q2
  clear hk hka
  go_enter Try.func40, Try.ntmps40
  go_wp2_with fail
  go_ret
  exact HP.out
set_option maxRecDepth 100000 in
set_option maxHeartbeats 1000000 in
theorem HoldsAt4_ (F : Option Addr) (fc : Nat) (f : List Nd) (A B : Option Addr) (ca cb : Nat) (l : La) (T : Option Addr) (tc : Nat) (rows : List (List Bool)) (i p : Nat) (w : World)
    (hf : Nds w 0 F fc f) (hh : Ints w 0 A ca l.h) (hl : Ints w 0 B cb l.l) (ht : RowsAt w T tc rows) (hi : i < f.length) (hp : p < l.n) (hlen : ∀ r ∈ rows, r.length = l.n)
    (hlt : l.h.length < l.n) (hn : l.n ≤ 8000) (hk : f[i].k = 4) (a c : Nat) (hka : f[i].a = a) (ha : a < rows.length) (hkb : f[i].b = c) (hb : c < rows.length) :
    Calls Try.prog 40 #[.slice F f.length fc, .agg #[.slice A l.h.length ca, .slice B l.l.length cb], .slice T rows.length tc, .int .i64 i, .int .i64 p] w (HaPost w (gB rows a p && gB rows c p)) := by
  have hcp := hf.cap
  have hle := hf.le
  have hcp2 := ht.cap
  have hle2 := ht.le
  have hlh : l.h.length ≤ l.n := by omega
  have hll : l.l.length ≤ l.n := by unfold La.n; omega
  have HN := Lib.hid (show l.n = l.h.length + l.l.length from rfl)
  have hl0 : 0 < l.l.length := by have := HN.out; omega
  have hrp : rows.length ≤ 1000000 := ht.small
  obtain ⟨b, o, rfl, _, hbl, hc1, hc2, hc3, hc4⟩ := Nds.at_ hf hi
  have HW := Lib.hid (haW_is w A B ca cb l f[i])
  have EW := Lib.hid (haW_is' w A B ca cb l f[i])
  obtain ⟨tb, to, rb, ro, rc, rfl, htb, hrb, g1, g2, g3, g4⟩ := row_cell ht ha hlen hp
  obtain ⟨tb', to', rb', ro', rc', hee, _, hrb', g1', g2', g3', g4'⟩ := row_cell ht hb hlen hp
  simp only [Option.some.injEq, Addr.mk.injEq, and_true] at hee
  obtain ⟨rfl, rfl⟩ := hee
  have q1 := (cell_on2 HW.out.below htb).trans g1
  have q2 := (cell_on2 HW.out.below hrb).trans g4
  have q3 := (cell_on2 HW.out.below htb).trans g1'
  have q4 := (cell_on2 HW.out.below hrb').trans g4'
  rw [hk] at hc1
  rw [hka] at hc2
  rw [hkb] at hc3
  have HP : Hid (∀ v, v = (gB rows a p && gB rows c p) → HaPost w (gB rows a p && gB rows c p) (.returned (.bool v)) (haW w A B ca cb l f[i])) := fun v hv => ⟨by rw [hv], HW.out.below⟩
  rw [EW.out, hk, hka, hkb] at HP q1 q2 q3 q4
  clear hk hka hkb
  go_enter Try.func40, Try.ntmps40
  go_wp2_with fail
  all_goals (go_ret; refine HP.out _ ?_; simp_all)

set_option maxRecDepth 100000 in
set_option maxHeartbeats 1000000 in
theorem HoldsAt5_ (F : Option Addr) (fc : Nat) (f : List Nd) (A B : Option Addr) (ca cb : Nat) (l : La) (T : Option Addr) (tc : Nat) (rows : List (List Bool)) (i p : Nat) (w : World)
    (hf : Nds w 0 F fc f) (hh : Ints w 0 A ca l.h) (hl : Ints w 0 B cb l.l) (ht : RowsAt w T tc rows) (hi : i < f.length) (hp : p < l.n) (hlen : ∀ r ∈ rows, r.length = l.n)
    (hlt : l.h.length < l.n) (hn : l.n ≤ 8000) (hk : f[i].k = 5) (a c : Nat) (hka : f[i].a = a) (ha : a < rows.length) (hkb : f[i].b = c) (hb : c < rows.length) :
    Calls Try.prog 40 #[.slice F f.length fc, .agg #[.slice A l.h.length ca, .slice B l.l.length cb], .slice T rows.length tc, .int .i64 i, .int .i64 p] w (HaPost w (gB rows a p || gB rows c p)) := by
  have hcp := hf.cap
  have hle := hf.le
  have hcp2 := ht.cap
  have hle2 := ht.le
  have hlh : l.h.length ≤ l.n := by omega
  have hll : l.l.length ≤ l.n := by unfold La.n; omega
  have HN := Lib.hid (show l.n = l.h.length + l.l.length from rfl)
  have hl0 : 0 < l.l.length := by have := HN.out; omega
  have hrp : rows.length ≤ 1000000 := ht.small
  obtain ⟨b, o, rfl, _, hbl, hc1, hc2, hc3, hc4⟩ := Nds.at_ hf hi
  have HW := Lib.hid (haW_is w A B ca cb l f[i])
  have EW := Lib.hid (haW_is' w A B ca cb l f[i])
  obtain ⟨tb, to, rb, ro, rc, rfl, htb, hrb, g1, g2, g3, g4⟩ := row_cell ht ha hlen hp
  obtain ⟨tb', to', rb', ro', rc', hee, _, hrb', g1', g2', g3', g4'⟩ := row_cell ht hb hlen hp
  simp only [Option.some.injEq, Addr.mk.injEq, and_true] at hee
  obtain ⟨rfl, rfl⟩ := hee
  have q1 := (cell_on2 HW.out.below htb).trans g1
  have q2 := (cell_on2 HW.out.below hrb).trans g4
  have q3 := (cell_on2 HW.out.below htb).trans g1'
  have q4 := (cell_on2 HW.out.below hrb').trans g4'
  rw [hk] at hc1
  rw [hka] at hc2
  rw [hkb] at hc3
  have HP : Hid (∀ v, v = (gB rows a p || gB rows c p) → HaPost w (gB rows a p || gB rows c p) (.returned (.bool v)) (haW w A B ca cb l f[i])) := fun v hv => ⟨by rw [hv], HW.out.below⟩
  rw [EW.out, hk, hka, hkb] at HP q1 q2 q3 q4
  clear hk hka hkb
  go_enter Try.func40, Try.ntmps40
  go_wp2_with fail
  all_goals (go_ret; refine HP.out _ ?_; simp_all)

set_option maxRecDepth 100000 in
set_option maxHeartbeats 1000000 in
theorem HoldsAt6_ (F : Option Addr) (fc : Nat) (f : List Nd) (A B : Option Addr) (ca cb : Nat) (l : La) (T : Option Addr) (tc : Nat) (rows : List (List Bool)) (i p : Nat) (w : World)
    (hf : Nds w 0 F fc f) (hh : Ints w 0 A ca l.h) (hl : Ints w 0 B cb l.l) (ht : RowsAt w T tc rows) (hi : i < f.length) (hp : p < l.n) (hlen : ∀ r ∈ rows, r.length = l.n)
    (hlt : l.h.length < l.n) (hn : l.n ≤ 8000) (hk : f[i].k = 6) (a : Nat) (hka : f[i].a = a) (ha : a < rows.length) :
    Calls Try.prog 40 #[.slice F f.length fc, .agg #[.slice A l.h.length ca, .slice B l.l.length cb], .slice T rows.length tc, .int .i64 i, .int .i64 p] w (HaPost w (gB rows a (nx l.n l.h.length p))) := by
  have hcp := hf.cap
  have hle := hf.le
  have hcp2 := ht.cap
  have hle2 := ht.le
  have hlh : l.h.length ≤ l.n := by omega
  have hll : l.l.length ≤ l.n := by unfold La.n; omega
  have HN := Lib.hid (show l.n = l.h.length + l.l.length from rfl)
  have hl0 : 0 < l.l.length := by have := HN.out; omega
  have hrp : rows.length ≤ 1000000 := ht.small
  obtain ⟨b, o, rfl, _, hbl, hc1, hc2, hc3, hc4⟩ := Nds.at_ hf hi
  have HW := Lib.hid (haW_is w A B ca cb l f[i])
  have EW := Lib.hid (haW_is' w A B ca cb l f[i])
  have hnp : nx l.n l.h.length p < l.n := nx_lt hp hlt
  obtain ⟨tb, to, rb, ro, rc, rfl, htb, hrb, g1, g2, g3, g4⟩ := row_cell ht ha hlen hnp
  have q1 := (cell_on2 HW.out.below htb).trans g1
  have q2 := (cell_on2 HW.out.below hrb).trans g4
  rw [hk] at hc1
  rw [hka] at hc2
  have HP : Hid (∀ n, HaPost w (gB rows a (nx l.n l.h.length p)) (.returned (.bool (gB rows a (nx l.n l.h.length p)))) ((haW w A B ca cb l f[i]).drewN n)) := fun n => ⟨rfl, below_drewN HW.out.below n⟩
  have e := plc_succ (k := p) hlt
  rw [plc_self hp] at e
  have HQ : Hid (∀ k, Calls Try.prog 78 #[.int .i64 (p + 1 : Nat), .pointer (some ⟨w.heap.size + 2, 0, none⟩), .pointer (some ⟨w.heap.size, 0, none⟩)] ((haW w A B ca cb l f[i]).drewN k) fun e w' => e = .returned (.int .i64 (nx l.n l.h.length p : Nat)) ∧ w' = (haW w A B ca cb l f[i]).drewN k) := fun k => by
    rw [e]
    exact place_ _ _ l.n l.h.length l.l.length (p + 1) B cb _ HW.out.n0 HW.out.l1 HN.out hl0 (by omega) (by omega)
  rw [EW.out, hk, hka] at HP q1 q2 HQ
  clear hk hka e
  generalize nx l.n l.h.length p = j at *
  go_enter Try.func40, Try.ntmps40
  go_wp2_with fail
  go_quiet ((go_at_call 78; exact Calls.quiet_of_same (HQ.out _)))
  go_wp2_with fail
  go_ret
  exact HP.out _

theorem row_cells {w : World} {T : Option Addr} {tc : Nat} {rows : List (List Bool)} (h : RowsAt w T tc rows) {a n : Nat} (ha : a < rows.length) (hlen : ∀ r ∈ rows, r.length = n) (hn : 0 < n) :
    ∃ tb to b o c, T = some ⟨tb, to, none⟩ ∧ tb < w.heap.size ∧ b < w.heap.size ∧ w.cell? ⟨tb, to + a, none⟩ = some (.slice (some ⟨b, o, none⟩) n c) ∧ n ≤ c ∧ c ≤ 9223372036854775807 ∧ ∀ p, p < n → w.cell? ⟨b, o + p, none⟩ = some (.bool (gB rows a p)) := by
  obtain ⟨tb, to, b, o, c, h1, h2, h3, h4, h5, h6, _⟩ := row_cell h ha hlen hn
  refine ⟨tb, to, b, o, c, h1, h2, h3, h4, h5, h6, fun p hp => ?_⟩
  obtain ⟨tb', to', b', o', c', h1', _, _, h4', _, _, h7⟩ := row_cell h ha hlen hp
  rw [h1] at h1'
  simp only [Option.some.injEq, Addr.mk.injEq, and_true] at h1'
  obtain ⟨rfl, rfl⟩ := h1'
  rw [h4] at h4'
  simp only [Option.some.injEq, Value.slice.injEq, Addr.mk.injEq, and_true, true_and] at h4'
  obtain ⟨⟨rfl, rfl⟩, _⟩ := h4'
  exact h7
theorem quiet_add_same2 {P : Program} {f : FuncId} {args : Array Value} {w : World} {a n : Nat} {v : Value}
    (h : Calls P f args (w.drewN (a + n)) fun e w' => e = .returned v ∧ w' = w.drewN (a + n)) :
    Calls P f args (w.drewN (a + n)) fun e w'' => e = .returned v ∧ ∃ m, w'' = w.drewN (a + m) :=
  h.mono fun _ _ ⟨he, hm⟩ => ⟨he, n, hm⟩

set_option maxRecDepth 100000 in
set_option maxHeartbeats 2000000 in
theorem HoldsAt7_ (F : Option Addr) (fc : Nat) (f : List Nd) (A B : Option Addr) (ca cb : Nat) (l : La) (T : Option Addr) (tc : Nat) (rows : List (List Bool)) (i p : Nat) (w : World)
    (hf : Nds w 0 F fc f) (hh : Ints w 0 A ca l.h) (hl : Ints w 0 B cb l.l) (ht : RowsAt w T tc rows) (hi : i < f.length) (hp : p < l.n) (hlen : ∀ r ∈ rows, r.length = l.n)
    (hlt : l.h.length < l.n) (hn : l.n ≤ 8000) (hk : f[i].k = 7) (a c : Nat) (hka : f[i].a = a) (ha : a < rows.length) (hkb : f[i].b = c) (hb : c < rows.length) :
    Calls Try.prog 40 #[.slice F f.length fc, .agg #[.slice A l.h.length ca, .slice B l.l.length cb], .slice T rows.length tc, .int .i64 i, .int .i64 p] w (HaPost w (unt l.n l.h.length (gB rows a) (gB rows c) l.n p)) := by
  have hcp := hf.cap
  have hle := hf.le
  have hcp2 := ht.cap
  have hle2 := ht.le
  have hlh : l.h.length ≤ l.n := by omega
  have hll : l.l.length ≤ l.n := by unfold La.n; omega
  have HN := Lib.hid (show l.n = l.h.length + l.l.length from rfl)
  have hl0 : 0 < l.l.length := by have := HN.out; omega
  have hrp : rows.length ≤ 1000000 := ht.small
  obtain ⟨b, o, rfl, _, hbl, hc1, hc2, hc3, hc4⟩ := Nds.at_ hf hi
  have HW := Lib.hid (haW_is w A B ca cb l f[i])
  have EW := Lib.hid (haW_is' w A B ca cb l f[i])
  obtain ⟨tb, to, rb, ro, rc, rfl, htb, hrb, g1, g2, g3, g4⟩ := row_cells ht ha hlen (by omega)
  obtain ⟨tb', to', rb', ro', rc', hee, _, hrb', g1', g2', g3', g4'⟩ := row_cells ht hb hlen (by omega)
  simp only [Option.some.injEq, Addr.mk.injEq, and_true] at hee
  obtain ⟨rfl, rfl⟩ := hee
  have q1 := (cell_on2 HW.out.below htb).trans g1
  have q2 : Hid (∀ j, j < l.n → (haW w A B ca cb l f[i]).cell? ⟨rb, ro + j, none⟩ = some (.bool (gB rows a j))) := fun j hj => (cell_on2 HW.out.below hrb).trans (g4 j hj)
  have q3 := (cell_on2 HW.out.below htb).trans g1'
  have q4 : Hid (∀ j, j < l.n → (haW w A B ca cb l f[i]).cell? ⟨rb', ro' + j, none⟩ = some (.bool (gB rows c j))) := fun j hj => (cell_on2 HW.out.below hrb').trans (g4' j hj)
  have HQ : Hid (∀ (m k : Nat), k < p + l.n → Calls Try.prog 78 #[.int .i64 k, .pointer (some ⟨w.heap.size + 2, 0, none⟩), .pointer (some ⟨w.heap.size, 0, none⟩)] ((haW w A B ca cb l f[i]).drewN m) fun e w' => e = .returned (.int .i64 (plc l.n l.h.length k : Nat)) ∧ w' = (haW w A B ca cb l f[i]).drewN m) := fun m k hk => 
    place_ _ _ l.n l.h.length l.l.length k B cb _ HW.out.n0 HW.out.l1 HN.out hl0 (by omega) (by omega)
  have EK := Lib.hid EW.out
  have n0 := HW.out.n0
  have x1 := HW.out.x1
  have x2 := HW.out.x2
  have HBL := Lib.hid HW.out.below
  rw [hka] at hc2 x1
  rw [hkb] at hc3 x2
  rw [hk] at hc1 EK
  clear hk
  rw [hka, hkb] at EK
  clear hka hkb g4 g4' g1 g1'
  go_enter Try.func40, Try.ntmps40
  go_wp2_with fail
  rw [← EK.out]
  clear EK EW HW hc1 hc2 hc3 hc4
  generalize haW w A B ca cb l f[i] = W0 at *
  go_loopw [16] (fun kk wr => ∃ k : Nat, p ≤ k ∧ k ≤ p + l.n ∧ kk = .int .i64 k ∧ unt l.n l.h.length (gB rows a) (gB rows c) l.n p = unt l.n l.h.length (gB rows a) (gB rows c) (p + l.n - k) (plc l.n l.h.length k) ∧ ∃ m, wr = W0.drewN m) (fun kk _ => p + l.n - (intOf kk).toNat)
  case atStart => exact ⟨p, Nat.le_refl _, by omega, rfl, by rw [plc_self hp, show p + l.n - p = l.n by omega], 0, rfl⟩
  case round =>
    obtain ⟨k, hpk, hkn, rfl, heq, m, rfl⟩ := hrel
    have HE := Lib.hid heq
    clear heq
    by_cases hlk : k < p + l.n
    · have hpl := plc_lt (n := l.n) (h := l.h.length) (k := k) hlt
      have c1 := q2.out _ hpl
      have c2 := q4.out _ hpl
      have hst := unt_plc (a := gB rows a) (b := gB rows c) hlt (p + l.n - (k + 1)) k
      rw [show p + l.n - (k + 1) + 1 = p + l.n - k by omega] at hst
      have HST := Lib.hid hst
      clear hst
      have HQK := Lib.hid (fun m => HQ.out m k hlk)
      generalize plc l.n l.h.length k = j at *
      generalize hj1 : plc l.n l.h.length (k + 1) = j1 at *
      have HJ1 := Lib.hid hj1
      clear hj1
      cases hcj : gB rows c j with
      | true =>
        rw [hcj] at c2
        have HC := Lib.hid hcj
        clear hcj
        go_wp2_with fail
        go_quiet ((go_at_call 78; first | exact Calls.quiet_of_same (HQK.out _) | exact quiet_add_same2 (HQK.out _)))
        go_wp2_with fail
        go_ret
        exact ⟨ret_bool (by rw [HE.out, HST.out, HC.out]; rfl), below_drewN (below_drewN HBL.out _) _⟩
      | false =>
        rw [hcj] at c2
        have HC := Lib.hid hcj
        clear hcj
        cases haj : gB rows a j with
        | false =>
          rw [haj] at c1
          have HA := Lib.hid haj
          clear haj
          go_wp2_with fail
          go_quiet ((go_at_call 78; first | exact Calls.quiet_of_same (HQK.out _) | exact quiet_add_same2 (HQK.out _)))
          go_wp2_with fail
          go_quiet ((go_at_call 78; first | exact Calls.quiet_of_same (HQK.out _) | exact quiet_add_same2 (HQK.out _)))
          go_wp2_with fail
          go_ret
          exact ⟨ret_bool (by rw [HE.out, HST.out, HC.out, HA.out]; rfl), below_drewN (below_drewN (below_drewN HBL.out _) _) _⟩
        | true =>
          rw [haj] at c1
          have HA := Lib.hid haj
          clear haj
          go_wp2_with fail
          go_quiet ((go_at_call 78; first | exact Calls.quiet_of_same (HQK.out _) | exact quiet_add_same2 (HQK.out _)))
          go_wp2_with fail
          go_quiet ((go_at_call 78; first | exact Calls.quiet_of_same (HQK.out _) | exact quiet_add_same2 (HQK.out _)))
          go_wp2_with fail
          go_roundw
          case rel => exact ⟨k + 1, by omega, by omega, by go_num, by rw [HE.out, HST.out, HC.out, HA.out, HJ1.out]; rfl, _, rfl⟩
          case measure => simp [intOf]; omega
    · have hz : p + l.n - k = 0 := by omega
      rw [hz] at HE
      clear hz
      go_wp2_with fail
      go_ret
      exact ⟨ret_bool (by rw [HE.out]; rfl), below_drewN HBL.out _⟩

set_option maxRecDepth 100000 in
set_option maxHeartbeats 2000000 in
theorem HoldsAt8_ (F : Option Addr) (fc : Nat) (f : List Nd) (A B : Option Addr) (ca cb : Nat) (l : La) (T : Option Addr) (tc : Nat) (rows : List (List Bool)) (i p : Nat) (w : World)
    (hf : Nds w 0 F fc f) (hh : Ints w 0 A ca l.h) (hl : Ints w 0 B cb l.l) (ht : RowsAt w T tc rows) (hi : i < f.length) (hp : p < l.n) (hlen : ∀ r ∈ rows, r.length = l.n)
    (hlt : l.h.length < l.n) (hn : l.n ≤ 8000) (hk : f[i].k = 8) (a c : Nat) (hka : f[i].a = a) (ha : a < rows.length) (hkb : f[i].b = c) (hb : c < rows.length) :
    Calls Try.prog 40 #[.slice F f.length fc, .agg #[.slice A l.h.length ca, .slice B l.l.length cb], .slice T rows.length tc, .int .i64 i, .int .i64 p] w (HaPost w (rls l.n l.h.length (gB rows a) (gB rows c) l.n p)) := by
  have hcp := hf.cap
  have hle := hf.le
  have hcp2 := ht.cap
  have hle2 := ht.le
  have hlh : l.h.length ≤ l.n := by omega
  have hll : l.l.length ≤ l.n := by unfold La.n; omega
  have HN := Lib.hid (show l.n = l.h.length + l.l.length from rfl)
  have hl0 : 0 < l.l.length := by have := HN.out; omega
  have hrp : rows.length ≤ 1000000 := ht.small
  obtain ⟨b, o, rfl, _, hbl, hc1, hc2, hc3, hc4⟩ := Nds.at_ hf hi
  have HW := Lib.hid (haW_is w A B ca cb l f[i])
  have EW := Lib.hid (haW_is' w A B ca cb l f[i])
  obtain ⟨tb, to, rb, ro, rc, rfl, htb, hrb, g1, g2, g3, g4⟩ := row_cells ht ha hlen (by omega)
  obtain ⟨tb', to', rb', ro', rc', hee, _, hrb', g1', g2', g3', g4'⟩ := row_cells ht hb hlen (by omega)
  simp only [Option.some.injEq, Addr.mk.injEq, and_true] at hee
  obtain ⟨rfl, rfl⟩ := hee
  have q1 := (cell_on2 HW.out.below htb).trans g1
  have q2 : Hid (∀ j, j < l.n → (haW w A B ca cb l f[i]).cell? ⟨rb, ro + j, none⟩ = some (.bool (gB rows a j))) := fun j hj => (cell_on2 HW.out.below hrb).trans (g4 j hj)
  have q3 := (cell_on2 HW.out.below htb).trans g1'
  have q4 : Hid (∀ j, j < l.n → (haW w A B ca cb l f[i]).cell? ⟨rb', ro' + j, none⟩ = some (.bool (gB rows c j))) := fun j hj => (cell_on2 HW.out.below hrb').trans (g4' j hj)
  have HQ : Hid (∀ (m k : Nat), k < p + l.n → Calls Try.prog 78 #[.int .i64 k, .pointer (some ⟨w.heap.size + 2, 0, none⟩), .pointer (some ⟨w.heap.size, 0, none⟩)] ((haW w A B ca cb l f[i]).drewN m) fun e w' => e = .returned (.int .i64 (plc l.n l.h.length k : Nat)) ∧ w' = (haW w A B ca cb l f[i]).drewN m) := fun m k hk => 
    place_ _ _ l.n l.h.length l.l.length k B cb _ HW.out.n0 HW.out.l1 HN.out hl0 (by omega) (by omega)
  have EK := Lib.hid EW.out
  have n0 := HW.out.n0
  have x1 := HW.out.x1
  have x2 := HW.out.x2
  have HBL := Lib.hid HW.out.below
  rw [hka] at hc2 x1
  rw [hkb] at hc3 x2
  rw [hk] at hc1 EK
  clear hk
  rw [hka, hkb] at EK
  clear hka hkb g4 g4' g1 g1'
  go_enter Try.func40, Try.ntmps40
  go_wp2_with fail
  rw [← EK.out]
  clear EK EW HW hc1 hc2 hc3 hc4
  generalize haW w A B ca cb l f[i] = W0 at *
  go_loopw [17] (fun kk wr => ∃ k : Nat, p ≤ k ∧ k ≤ p + l.n ∧ kk = .int .i64 k ∧ rls l.n l.h.length (gB rows a) (gB rows c) l.n p = rls l.n l.h.length (gB rows a) (gB rows c) (p + l.n - k) (plc l.n l.h.length k) ∧ ∃ m, wr = W0.drewN m) (fun kk _ => p + l.n - (intOf kk).toNat)
  case atStart => exact ⟨p, Nat.le_refl _, by omega, rfl, by rw [plc_self hp, show p + l.n - p = l.n by omega], 0, rfl⟩
  case round =>
    obtain ⟨k, hpk, hkn, rfl, heq, m, rfl⟩ := hrel
    have HE := Lib.hid heq
    clear heq
    by_cases hlk : k < p + l.n
    · have hpl := plc_lt (n := l.n) (h := l.h.length) (k := k) hlt
      have c1 := q2.out _ hpl
      have c2 := q4.out _ hpl
      have hst := rls_plc (a := gB rows a) (b := gB rows c) hlt (p + l.n - (k + 1)) k
      rw [show p + l.n - (k + 1) + 1 = p + l.n - k by omega] at hst
      have HST := Lib.hid hst
      clear hst
      have HQK := Lib.hid (fun m => HQ.out m k hlk)
      generalize plc l.n l.h.length k = j at *
      generalize hj1 : plc l.n l.h.length (k + 1) = j1 at *
      have HJ1 := Lib.hid hj1
      clear hj1
      cases hcj : gB rows c j with
      | false =>
        rw [hcj] at c2
        have HC := Lib.hid hcj
        clear hcj
        go_wp2_with fail
        go_quiet ((go_at_call 78; first | exact Calls.quiet_of_same (HQK.out _) | exact quiet_add_same2 (HQK.out _)))
        go_wp2_with fail
        go_ret
        exact ⟨ret_bool (by rw [HE.out, HST.out, HC.out]; rfl), below_drewN (below_drewN HBL.out _) _⟩
      | true =>
        rw [hcj] at c2
        have HC := Lib.hid hcj
        clear hcj
        cases haj : gB rows a j with
        | true =>
          rw [haj] at c1
          have HA := Lib.hid haj
          clear haj
          go_wp2_with fail
          go_quiet ((go_at_call 78; first | exact Calls.quiet_of_same (HQK.out _) | exact quiet_add_same2 (HQK.out _)))
          go_wp2_with fail
          go_quiet ((go_at_call 78; first | exact Calls.quiet_of_same (HQK.out _) | exact quiet_add_same2 (HQK.out _)))
          go_wp2_with fail
          go_ret
          exact ⟨ret_bool (by rw [HE.out, HST.out, HC.out, HA.out]; rfl), below_drewN (below_drewN (below_drewN HBL.out _) _) _⟩
        | false =>
          rw [haj] at c1
          have HA := Lib.hid haj
          clear haj
          go_wp2_with fail
          go_quiet ((go_at_call 78; first | exact Calls.quiet_of_same (HQK.out _) | exact quiet_add_same2 (HQK.out _)))
          go_wp2_with fail
          go_quiet ((go_at_call 78; first | exact Calls.quiet_of_same (HQK.out _) | exact quiet_add_same2 (HQK.out _)))
          go_wp2_with fail
          go_roundw
          case rel => exact ⟨k + 1, by omega, by omega, by go_num, by rw [HE.out, HST.out, HC.out, HA.out, HJ1.out]; rfl, _, rfl⟩
          case measure => simp [intOf]; omega
    · have hz : p + l.n - k = 0 := by omega
      rw [hz] at HE
      clear hz
      go_wp2_with fail
      go_ret
      exact ⟨ret_bool (by rw [HE.out]; rfl), below_drewN HBL.out _⟩

/-- halves of a small number -/
theorem HoldsAt2_loop_bit (m : Int) (h : 0 ≤ m) : bitOf m 0 = (m % 2 == 1) := by unfold bitOf; simp

set_option maxRecDepth 100000 in
set_option maxHeartbeats 1000000 in
theorem HoldsAt2_ (F : Option Addr) (fc : Nat) (f : List Nd) (A B : Option Addr) (ca cb : Nat) (l : La) (T : Option Addr) (tc : Nat) (rows : List (List Bool)) (i p : Nat) (w : World)
    (hf : Nds w 0 F fc f) (hh : Ints w 0 A ca l.h) (hl : Ints w 0 B cb l.l) (ht : RowsAt w T tc rows) (hi : i < f.length) (hp : p < l.n) (hlen : ∀ r ∈ rows, r.length = l.n)
    (hlt : l.h.length < l.n) (hn : l.n ≤ 8000) (hk : f[i].k = 2) (N : Nat) (hkn : f[i].n = N) (hN : N ≤ 2) (hxb : 0 ≤ l.at p ∧ l.at p ≤ 7) :
    Calls Try.prog 40 #[.slice F f.length fc, .agg #[.slice A l.h.length ca, .slice B l.l.length cb], .slice T rows.length tc, .int .i64 i, .int .i64 p] w (HaPost w (bitOf (l.at p) N)) := by
  have hcp := hf.cap
  have hle := hf.le
  have hcp2 := ht.cap
  have hle2 := ht.le
  have hlh : l.h.length ≤ l.n := by omega
  have hll : l.l.length ≤ l.n := by unfold La.n; omega
  have HN := Lib.hid (show l.n = l.h.length + l.l.length from rfl)
  have hl0 : 0 < l.l.length := by have := HN.out; omega
  have hrp : rows.length ≤ 1000000 := ht.small
  obtain ⟨b, o, rfl, _, hbl, hc1, hc2, hc3, hc4⟩ := Nds.at_ hf hi
  have HW := Lib.hid (haW_is w A B ca cb l f[i])
  have EW := Lib.hid (haW_is' w A B ca cb l f[i])
  rw [hk] at hc1
  rw [hkn] at hc4
  have HLA := Lib.hid (LetterAt_ A B ca cb l p (haW w A B ca cb l f[i]) (hh.below HW.out.below) (hl.below HW.out.below) (by omega) (by omega))
  have EK := Lib.hid EW.out
  rw [hk, hkn] at EK
  have x3 := HW.out.x3
  rw [hkn] at x3
  have HBL := Lib.hid HW.out.below
  have HSZ := Lib.hid HW.out.size
  clear hk hkn
  go_enter Try.func40, Try.ntmps40
  go_wp2_with fail
  rw [← EK.out]
  clear EK EW HW hc1 hc2 hc3 hc4
  generalize haW w A B ca cb l f[i] = W0 at *
  refine HLA.out.mono ?_
  rintro e w1 ⟨rfl, hb1⟩
  have x4 := (cell_on2 hb1 (b := w.heap.size + 1) (o := 3) (by rw [HSZ.out]; omega)).trans x3
  have HB1 := Lib.hid (Below_on HBL.out hb1 (by rw [HSZ.out]; omega))
  clear hb1 x3 HLA
  generalize l.at p = m0 at *
  go_wp2_with fail
  go_loop [14, 15] (fun mm kk => ∃ (k : Nat) (m : Int), k ≤ N ∧ kk = .int .i64 k ∧ mm = .int .i64 m ∧ 0 ≤ m ∧ m ≤ 7 ∧ bitOf m0 N = bitOf m (N - k)) (fun _ kk => N - (intOf kk).toNat)
  case atStart => exact ⟨0, m0, by omega, rfl, rfl, hxb.1, hxb.2, rfl⟩
  case round =>
    obtain ⟨k, m, hkN, rfl, rfl, hm0, hm7, hbit⟩ := hrel
    have HBT := Lib.hid hbit
    clear hbit
    by_cases hlt2 : k < N
    · have hb2 := bit_half m (N - (k + 1))
      rw [show N - (k + 1) + 1 = N - k by omega] at hb2
      have HB2 := Lib.hid hb2
      clear hb2
      go_wp2_with fail
      go_round
      case rel => exact ⟨k + 1, m / 2, by omega, by go_num, rfl, by omega, by omega, by rw [HBT.out, HB2.out]⟩
      case measure => simp [intOf]; omega
    · have hz : N - k = 0 := by omega
      rw [hz] at HBT
      clear hz
      go_wp2_with fail
      go_ret
      exact ⟨ret_bool (by rw [HBT.out, HoldsAt2_loop_bit m hm0]), HB1.out⟩
end Go.Proofs.Ytoglgeaiiipchaa
