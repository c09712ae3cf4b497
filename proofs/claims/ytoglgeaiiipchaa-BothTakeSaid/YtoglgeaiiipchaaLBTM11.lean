/- Plain: the steps of a pair in the order in which they are made. -/
import Derived.Test.YtoglgeaiiipchaaLBTM9
import Derived.Test.YtoglgeaiiipchaaLBTM6
import Derived.Test.YtoglgeaiiipchaaLBTM10
set_option linter.unusedSimpArgs false
set_option linter.unusedVariables false
namespace Go.Proofs.Ytoglgeaiiipchaa

/-- sorted, each once, and just these -/
structure SortOf (raw ss : List Stp) : Prop where
  so : ssSorted ss
  mem : ∀ s, s ∈ ss ↔ s ∈ raw
  len : ss.length ≤ raw.length
/-- a strictly sorted row has each once -/
theorem sorted_nodup {ss : List Stp} (h : ssSorted ss) : ss.Nodup := h.imp (fun {s t} hst he => by
  subst he
  rw [stpLt_irrefl] at hst; cases hst)
/-- what a pair's steps are made of -/
noncomputable def pairStp (a b : Au) (t t' : Stp) (w : Int) : Stp := ⟨pnum b t.f t'.f w, t.l, pnum b t.t t'.t (pwait a b t.f t'.f w)⟩
noncomputable def pairFs (a b : Au) : List Int := a.fs.flatMap fun x => b.fs.map fun y => pnum b x y 0
def pairGs (n : Nat) : List Bool := (List.range (3 * n)).map fun i => decide (i % 3 = 2)
/-- is a row of raw steps what both step? -/
def PairRaw (a b : Au) (raw : List Stp) : Prop := ∀ s, s ∈ raw ↔ ∃ t ∈ a.ss, ∃ t' ∈ b.ss, t.l = t'.l ∧ ∃ w : Int, 0 ≤ w ∧ w < 3 ∧ s = pairStp a b t t' w
noncomputable def pairOf (a b : Au) (ss : List Stp) : Au := ⟨3 * a.st * b.st, a.le, pairFs a b, pairGs (a.st.toNat * b.st.toNat), ss⟩
theorem pnum_range {a b : Au} {x y w : Int} (hx : 0 ≤ x ∧ x < a.st) (hy : 0 ≤ y ∧ y < b.st) (hw : 0 ≤ w ∧ w < 3) : 0 ≤ pnum b x y w ∧ pnum b x y w < 3 * a.st * b.st := by
  unfold pnum
  have h1 : x * b.st ≤ (a.st - 1) * b.st := Int.mul_le_mul_of_nonneg_right (by omega) (by omega)
  have h2 : 0 ≤ x * b.st := Int.mul_nonneg hx.1 (by omega)
  rw [Int.sub_mul, Int.one_mul] at h1
  rw [Int.mul_assoc]
  omega
theorem pair_is {a b : Au} (ha : AuOK a) (hb : AuOK b) {raw ss : List Stp} (hr : PairRaw a b raw) (hs : SortOf raw ss) : PairOf a b (pairOf a b ss) := by
  refine ⟨rfl, fun q => ?_, fun x y w x0 x1 y0 y1 w0 w1 => ?_, fun s => ?_⟩
  · simp only [pairOf, pairFs, List.mem_flatMap, List.mem_map]
    constructor
    · rintro ⟨x, hx, y, hy, rfl⟩; exact ⟨x, hx, y, hy, rfl⟩
    · rintro ⟨x, hx, y, hy, rfl⟩; exact ⟨x, hx, y, hy, rfl⟩
  · have hp := pnum_range (a := a) (b := b) ⟨x0, x1⟩ ⟨y0, y1⟩ ⟨w0, w1⟩
    unfold Au.good pairOf pairGs
    simp only
    have e : (3 * a.st * b.st).toNat = 3 * (a.st.toNat * b.st.toNat) := by
      have h1 := ha.st1; have h2 := hb.st1
      have : (3 * a.st * b.st) = ((3 * (a.st.toNat * b.st.toNat) : Nat) : Int) := by
        rw [Int.natCast_mul, Int.natCast_mul, Int.toNat_of_nonneg (by omega), Int.toNat_of_nonneg (by omega), Int.mul_assoc]; rfl
      omega
    have hlt : (pnum b x y w).toNat < 3 * (a.st.toNat * b.st.toNat) := by omega
    rw [List.getD_eq_getElem?_getD, List.getElem?_map, List.getElem?_range hlt]
    simp only [Option.map_some, Option.getD_some, decide_eq_true_eq]
    have hm : (pnum b x y w).toNat % 3 = w.toNat := by
      have : pnum b x y w % 3 = w := by
        unfold pnum
        rw [Int.add_comm, Int.add_mul_emod_self_right]
        exact Int.emod_eq_of_lt w0 w1
      omega
    rw [hm]
    constructor
    · rintro ⟨_, h⟩; omega
    · intro h; exact ⟨hp.1, by omega⟩
  · show s ∈ ss ↔ _
    rw [hs.mem, hr]
    constructor
    · rintro ⟨t, ht, t', ht', hl, w, w0, w1, rfl⟩; exact ⟨t, ht, t', ht', hl, w, w0, w1, rfl⟩
    · rintro ⟨t, ht, t', ht', hl, w, w0, w1, rfl⟩; exact ⟨t, ht, t', ht', hl, w, w0, w1, rfl⟩
theorem pairFs_up {b : Au} (hb : b.fs.Pairwise (· < ·)) (hfb : ∀ f ∈ b.fs, 0 ≤ f ∧ f < b.st) : ∀ {l : List Int}, l.Pairwise (· < ·) → (l.flatMap fun x => b.fs.map fun y => pnum b x y 0).Pairwise (· < ·)
  | [], _ => .nil
  | x :: l, h => by
    have h1 := List.pairwise_cons.1 h
    rw [List.flatMap_cons, List.pairwise_append]
    refine ⟨?_, pairFs_up hb hfb h1.2, ?_⟩
    · rw [List.pairwise_map]
      refine hb.imp (fun {p q} hpq => ?_)
      unfold pnum; omega
    · intro p hp q hq
      obtain ⟨y, hy, rfl⟩ := List.mem_map.1 hp
      obtain ⟨x', hx', hq⟩ := List.mem_flatMap.1 hq
      obtain ⟨y', hy', rfl⟩ := List.mem_map.1 hq
      have e := h1.1 x' hx'
      have a1 := hfb y hy
      have a2 := hfb y' hy'
      have h3 : (x + 1) * b.st ≤ x' * b.st := Int.mul_le_mul_of_nonneg_right (by omega) (by omega)
      rw [Int.add_mul, Int.one_mul] at h3
      unfold pnum; omega
/-- right, as far as order and range go, however great -/
structure AuFit (a : Au) : Prop where
  st1 : 1 ≤ a.st
  le1 : 1 ≤ a.le
  le2 : a.le ≤ 8
  gl : (a.gs.length : Int) = a.st
  fr : ∀ f ∈ a.fs, 0 ≤ f ∧ f < a.st
  fo : a.fs.Pairwise (· < ·)
  sr : ∀ s ∈ a.ss, (0 ≤ s.f ∧ s.f < a.st) ∧ (0 ≤ s.t ∧ s.t < a.st) ∧ 0 ≤ s.l ∧ s.l < a.le
  so : ssSorted a.ss
theorem AuOK.fit {a : Au} (h : AuOK a) (hs : ssSorted a.ss) : AuFit a := ⟨h.st1, h.le1, h.le2, h.gl, h.fr, h.fo, h.sr, hs⟩
theorem AuFit.ok {a : Au} (h : AuFit a) (h1 : a.st ≤ 300) (h2 : a.ss.length ≤ 6000) : ckA a = 0 := ckA_zero.2 ⟨⟨h.st1, h1, h.le1, h.le2, h.gl, h2, h.fr, h.fo, h.sr⟩, h.so⟩
theorem pair_fit {a b : Au} (ha : AuFit a) (hb : AuFit b) {raw ss : List Stp} (hr : PairRaw a b raw) (hs : SortOf raw ss) : AuFit (pairOf a b ss) := by
  have a1 := ha.st1; have b1 := hb.st1
  have pos : 1 ≤ a.st * b.st := Int.le_trans (show (1 : Int) ≤ 1 * 1 by decide) (Int.mul_le_mul a1 b1 (by decide) (by omega))
  refine ⟨?_, ha.le1, ha.le2, ?_, ?_, pairFs_up hb.fo hb.fr ha.fo, ?_, hs.so⟩
  · show 1 ≤ 3 * a.st * b.st
    rw [Int.mul_assoc]; omega
  · show ((pairGs (a.st.toNat * b.st.toNat)).length : Int) = 3 * a.st * b.st
    unfold pairGs
    rw [List.length_map, List.length_range, Int.natCast_mul, Int.natCast_mul, Int.toNat_of_nonneg (by omega), Int.toNat_of_nonneg (by omega), Int.mul_assoc]; rfl
  · intro f hf
    obtain ⟨x, hx, hf⟩ := List.mem_flatMap.1 hf
    obtain ⟨y, hy, rfl⟩ := List.mem_map.1 hf
    exact pnum_range (ha.fr x hx) (hb.fr y hy) (by decide)
  · intro s hs'
    obtain ⟨t, ht, t', ht', hl, w, w0, w1, rfl⟩ := (hr s).1 ((hs.mem s).1 hs')
    have s1 := ha.sr t ht
    have s2 := hb.sr t' ht'
    exact ⟨pnum_range s1.1 s2.1 ⟨w0, w1⟩, pnum_range s1.2.1 s2.2.1 (pwait_lt _ _ _ _ _ ⟨w0, w1⟩), s1.2.2⟩
end Go.Proofs.Ytoglgeaiiipchaa

namespace Go.Proofs.Ytoglgeaiiipchaa

def cntL (ss : List Stp) (c : Int) : Nat := ss.countP fun s => decide (s.l = c)
theorem cntL_cons (s : Stp) (ss : List Stp) (c : Int) : cntL (s :: ss) c = cntL ss c + if s.l = c then 1 else 0 := by
  unfold cntL
  rw [List.countP_cons]
  simp
theorem cntL_take (ss : List Stp) {k : Nat} (h : k < ss.length) (c : Int) : cntL (ss.take (k + 1)) c = cntL (ss.take k) c + if ss[k].l = c then 1 else 0 := by
  unfold cntL
  rw [List.take_succ_eq_append_getElem h, List.countP_append]
  simp [List.countP_cons]
theorem cntL_le (ss : List Stp) (c : Int) : cntL ss c ≤ ss.length := List.countP_le_length
def stepsN (a b : Au) : Nat := (a.ss.map fun s => 3 * cntL b.ss s.l).sum
def stepsTo (a b : Au) (k : Nat) : Nat := ((a.ss.take k).map fun s => 3 * cntL b.ss s.l).sum
theorem stepsTo_succ (a b : Au) {k : Nat} (h : k < a.ss.length) : stepsTo a b (k + 1) = stepsTo a b k + 3 * cntL b.ss a.ss[k].l := by
  unfold stepsTo
  rw [List.take_succ_eq_append_getElem h, List.map_append, List.sum_append]
  simp
theorem stepsTo_all (a b : Au) : stepsTo a b a.ss.length = stepsN a b := by unfold stepsTo stepsN; rw [List.take_length]
theorem stepsTo_le (a b : Au) : ∀ k, stepsTo a b k ≤ k * (3 * b.ss.length)
  | 0 => by simp [stepsTo]
  | k + 1 => by
    have ih := stepsTo_le a b k
    rcases Nat.lt_or_ge k a.ss.length with h | h
    · have e : (k + 1) * (3 * b.ss.length) = k * (3 * b.ss.length) + 3 * b.ss.length := by rw [Nat.add_mul, Nat.one_mul]
      rw [stepsTo_succ a b h, e]
      have := cntL_le b.ss a.ss[k].l
      generalize k * (3 * b.ss.length) = z at *
      omega
    · have e : stepsTo a b (k + 1) = stepsTo a b k := by unfold stepsTo; rw [List.take_of_length_le (by omega), List.take_of_length_le h]
      rw [e, Nat.add_mul, Nat.one_mul]
      exact Nat.le_trans ih (Nat.le_add_right _ _)
/-- the law's way of counting: letter by letter -/
def lettersTo (a b : Au) (n : Nat) : Nat := ((List.range n).map fun c : Nat => 3 * cntL a.ss c * cntL b.ss c).sum
theorem lettersTo_succ (a b : Au) (n : Nat) : lettersTo a b (n + 1) = lettersTo a b n + 3 * cntL a.ss n * cntL b.ss n := by
  unfold lettersTo
  rw [List.range_succ]
  simp
theorem letters_cons (s : Stp) (ss : List Stp) (b : Au) (st le : Int) (fs : List Int) (gs : List Bool) : ∀ n : Nat, lettersTo ⟨st, le, fs, gs, s :: ss⟩ b n = lettersTo ⟨st, le, fs, gs, ss⟩ b n + if 0 ≤ s.l ∧ s.l < n then 3 * cntL b.ss s.l else 0
  | 0 => by
    rw [if_neg (by omega)]
    rfl
  | n + 1 => by
    rw [lettersTo_succ, lettersTo_succ, letters_cons s ss b st le fs gs n]
    simp only [cntL_cons]
    by_cases h : s.l = n
    · rw [if_pos h, if_neg (by omega), if_pos (by omega), h, Nat.mul_add, Nat.add_mul]
      omega
    · rw [if_neg h]
      by_cases h2 : 0 ≤ s.l ∧ s.l < n
      · rw [if_pos h2, if_pos (by omega)]
        simp only [Nat.add_zero]
        omega
      · rw [if_neg h2, if_neg (by omega)]
        simp only [Nat.add_zero]
theorem letters_eq (b : Au) (st le : Int) (fs : List Int) (gs : List Bool) (n : Nat) : ∀ ss : List Stp, (∀ s ∈ ss, 0 ≤ s.l ∧ s.l < n) → lettersTo ⟨st, le, fs, gs, ss⟩ b n = stepsN ⟨st, le, fs, gs, ss⟩ b
  | [], _ => by
    have : ∀ n : Nat, lettersTo ⟨st, le, fs, gs, []⟩ b n = 0 := by
      intro n
      induction n with
      | zero => rfl
      | succ n ih => rw [lettersTo_succ, ih]; simp [cntL]
    rw [this]; rfl
  | s :: ss, h => by
    rw [letters_cons, letters_eq b st le fs gs n ss fun t ht => h t (List.mem_cons_of_mem _ ht), if_pos (h s (by simp))]
    simp only [stepsN, List.map_cons, List.sum_cons]
    exact Nat.add_comm _ _
theorem letters_steps {a b : Au} {n : Nat} (h : ∀ s ∈ a.ss, 0 ≤ s.l ∧ s.l < n) : lettersTo a b n = stepsN a b := letters_eq b a.st a.le a.fs a.gs n a.ss h
theorem lettersTo_le (a b : Au) (h1 : a.ss.length ≤ 6000) (h2 : b.ss.length ≤ 6000) : ∀ n, lettersTo a b n ≤ n * 108000000
  | 0 => by simp [lettersTo]
  | n + 1 => by
    rw [lettersTo_succ]
    have ih := lettersTo_le a b h1 h2 n
    have k1 := cntL_le a.ss n
    have k2 := cntL_le b.ss n
    have : 3 * cntL a.ss n * cntL b.ss n ≤ 18000 * 6000 := Nat.mul_le_mul (by omega) (by omega)
    omega
/-- how often each letter stands among the first k steps -/
def nRow (ss : List Stp) (le k : Nat) : List Int := (List.range le).map fun c : Nat => (cntL (ss.take k) c : Int)
theorem nRow_len (ss : List Stp) (le k : Nat) : (nRow ss le k).length = le := by simp [nRow]
theorem nRow_zero (ss : List Stp) (le : Nat) : nRow ss le 0 = List.replicate le 0 := by
  refine List.ext_getElem (by simp [nRow]) fun i h1 h2 => by simp [nRow, cntL]
theorem nRow_get (ss : List Stp) {le k c : Nat} (h : c < le) : (nRow ss le k).getD c 0 = (cntL (ss.take k) c : Int) := by
  unfold nRow
  rw [List.getD_eq_getElem?_getD, List.getElem?_map, List.getElem?_range h]
  rfl
theorem nRow_succ (ss : List Stp) {le k c : Nat} (h : k < ss.length) (hc : ss[k].l = (c : Int)) : (nRow ss le k).set c ((cntL (ss.take k) c : Int) + 1) = nRow ss le (k + 1) := by
  refine List.ext_getElem (by simp [nRow]) fun i h1 h2 => ?_
  rw [List.getElem_set]
  simp only [nRow, List.getElem_map, List.getElem_range]
  rw [cntL_take ss h, hc]
  by_cases e : c = i
  · subst e; simp
  · rw [if_neg e, if_neg (by omega)]; simp
end Go.Proofs.Ytoglgeaiiipchaa

namespace Go.Proofs.Ytoglgeaiiipchaa
open Go Go.RowKit Go.Sort

theorem wrap64_in {x : Int} (h1 : -9223372036854775808 ≤ x) (h2 : x ≤ 9223372036854775807) : IntKind.i64.wrap x = x := IntWalk.i64_in _ (by omega)
set_option maxRecDepth 100000 in
set_option maxHeartbeats 4000000 in
theorem bothSteps_ (a b : Au) (A B C D E F : Option Addr) (ca cb cc cd ce cf : Nat) (w : World) (ha : AuRd w 0 a A B C ca cb cc) (hb : AuRd w 0 b D E F cd ce cf) (hoa : AuOK a) (hob : AuOK b) (hle : a.le = b.le) :
    Calls Try.prog 61 #[.agg #[.int .i64 a.st, .int .i64 a.le, .slice A a.fs.length ca, .slice B a.gs.length cb, .slice C a.ss.length cc], .agg #[.int .i64 b.st, .int .i64 b.le, .slice D b.fs.length cd, .slice E b.gs.length ce, .slice F b.ss.length cf]] w (IntB w (stepsN a b : Nat)) := by
  have HW := auW2_is w a b A B C D E F ca cb cc cd ce cf
  unfold auW2 auW at HW
  obtain ⟨N, hN⟩ := Int.eq_ofNat_of_zero_le (show 0 ≤ a.le by have := hoa.le1; omega)
  have hN8 : N ≤ 8 := by have := hoa.le2; omega
  have hmk := run_makeInts a.le N hN.symm (by omega)
  have HN := Lib.hid hN
  have HSB : Hid (∀ s ∈ b.ss, 0 ≤ s.l ∧ s.l < N) := fun s hs => by have := (hob.sr s hs).2.2; rw [← hle, hN] at this; exact this
  have HSA : Hid (∀ s ∈ a.ss, 0 ≤ s.l ∧ s.l < N) := fun s hs => by have := (hoa.sr s hs).2.2; rw [hN] at this; exact this
  have hla := hoa.sl
  have hlb := hob.sl
  clear hN hle hoa hob
  go_enter Try.func61, Try.ntmps61
  go_upto_region 1 with fail
  obtain ⟨V, hV⟩ : ∃ V, V = w.heap.size := ⟨_, rfl⟩
  obtain ⟨hbel, hsz, hat1, hat2⟩ := HW
  rw [← hV] at hsz hat1 hat2
  rw [show w.heap.size + 1 = V + 1 by omega, ← hV]
  generalize (w.alloc (Obj.cells #[.int .i64 a.st, .int .i64 a.le, .slice A a.fs.length ca, .slice B a.gs.length cb, .slice C a.ss.length cc] 49)).alloc (Obj.cells #[.int .i64 b.st, .int .i64 b.le, .slice D b.fs.length cd, .slice E b.gs.length ce, .slice F b.ss.length cf] 49) = W0 at *
  have HB0 := Lib.hid hbel
  obtain ⟨t, ht⟩ : ∃ t, t = W0.heap.size := ⟨_, rfl⟩
  have HV1 : Hid (∀ W, Below t W0 W → AuAt W V a A B C ca cb cc) := fun W h => hat1.below h (by omega)
  have HV2 : Hid (∀ W, Below t W0 W → AuAt W (V + 1) b D E F cd ce cf) := fun W h => hat2.below h (by omega)
  have HRA : Hid (∀ W, Below t W0 W → Stps W 0 C cc a.ss) := fun W h => (ha.below hbel).ss.below h (by omega)
  have HRB : Hid (∀ W, Below t W0 W → Stps W 0 F cf b.ss) := fun W h => (hb.below hbel).ss.below h (by omega)
  have HBW : Hid (∀ W, Below t W0 W → Below w.heap.size w W) := fun W h => Below_on HB0.out h (by rw [ht]; exact HB0.out.size)
  obtain ⟨_, c0, c1, c2, c3, c4⟩ := hat1
  obtain ⟨_, d0, d1, d2, d3, d4⟩ := hat2
  have HR0 : Hid (IRow (W0.alloc (Obj.cells (madeCells #[Value.int .i64 0] N) 3)) t (nRow b.ss N 0)) := by
    show IRow _ _ _
    rw [nRow_zero, ht]
    exact IRow.new W0 N
  have HB1 : Hid (Below t W0 (W0.alloc (Obj.cells (madeCells #[Value.int .i64 0] N) 3))) := by
    show Below _ _ _
    rw [ht]
    exact (Below.refl _ _).alloc (Nat.le_refl _) _
  clear hbel ha hb hV hsz
  go_upto_block 0 with fail
  rw [← ht]
  clear c0 c1 c2 c3 c4 d0 d1 d2 d3 d4 hmk ht
  generalize W0.alloc (Obj.cells (madeCells #[Value.int .i64 0] N) 3) = W1 at *
  go_cut [] (fun wx => Hid (IRow wx t (nRow b.ss N b.ss.length)) ∧ Hid (Below t W0 wx))
  case first =>
    go_wp2_with fail
    go_loopw [7, 17] (fun _ i wr => ∃ k : Nat, k ≤ b.ss.length ∧ i = .int .i64 (k : Int) ∧ Hid (IRow wr t (nRow b.ss N k)) ∧ Hid (Below t W0 wr)) (fun _ i _ => b.ss.length - (intOf i).toNat)
    case atStart => exact ⟨0, Nat.zero_le _, rfl, HR0.out, HB1.out⟩
    case round =>
      obtain ⟨k, hk, rfl, HR, HB⟩ := hrel
      by_cases hkN : k < b.ss.length
      · have q1 : (k : Int) < (b.ss.length : Int) := by omega
        have hrd := HRB.out _ HB.out
        have hle := hrd.le
        obtain ⟨fb, fo, hD, _, _, x0, x1, x2⟩ := Stps.at_ hrd hkN
        obtain ⟨hl1, hl2⟩ := HSB.out _ (List.getElem_mem hkN)
        obtain ⟨l, hl⟩ := Int.eq_ofNat_of_zero_le hl1
        have HUS := Lib.hid (nRow_succ b.ss (le := N) hkN hl)
        obtain ⟨s, hxx⟩ : ∃ s, s = b.ss[k] := ⟨_, rfl⟩
        rw [← hxx] at x0 x1 x2 hl1 hl2 hl
        obtain ⟨sf, sl, st⟩ := s
        simp only at x0 x1 x2 hl1 hl2 hl
        subst hl
        have hlN : l < N := by omega
        have hba : Below wr.heap.size wr (wr.alloc (Obj.cells #[.int .i64 sf, .int .i64 (l : Int), .int .i64 st] 90)) := (Below.refl _ _).alloc (Nat.le_refl _) _
        have HR2 := Lib.hid (HR.out.below hba HR.out.lt)
        have HB2 := Lib.hid (Below_on HB.out hba (Nat.le_of_lt HR.out.lt))
        have hS1 : (wr.alloc (Obj.cells #[.int .i64 sf, .int .i64 (l : Int), .int .i64 st] 90)).cell? ⟨wr.heap.size, 1, none⟩ = some (.int .i64 (l : Int)) := by go_simp
        obtain ⟨z1, z2⟩ := HR2.out.getD_ (i := l) (by rw [nRow_len]; exact hlN)
        rw [nRow_get _ hlN] at z1
        have hcl : cntL (b.ss.take k) (l : Int) ≤ 6000 := Nat.le_trans (cntL_le _ _) (by rw [List.length_take]; omega)
        have HX := Lib.hid hkN
        subst hD
        clear hrd hxx hkN HR HB hba
        go_upto_region 5 with fail
        clear x0 x1 x2
        obtain ⟨S, hSS⟩ : ∃ S, S = wr.heap.size := ⟨_, rfl⟩
        rw [← hSS] at hS1 ⊢
        generalize wr.alloc (Obj.cells #[.int .i64 sf, .int .i64 (l : Int), .int .i64 st] 90) = W2 at *
        have HR3 := Lib.hid (HR2.out.set_ l ((cntL (b.ss.take k) (l : Int) : Int) + 1))
        rw [HUS.out] at HR3
        have HB3 := Lib.hid (HB2.out.setCell (p := ⟨t, l, none⟩) (Nat.le_refl _) (.int .i64 ((cntL (b.ss.take k) (l : Int) : Int) + 1)))
        generalize cntL (b.ss.take k) (l : Int) = cn at *
        clear hSS
        go_wp2_with fail
        go_roundw
        case rel => exact ⟨k + 1, HX.out, by go_num, HR3.out, HB3.out⟩
        case measure => simp [intOf]; omega
      · have q1 : ¬ (k : Int) < (b.ss.length : Int) := by omega
        obtain rfl : k = b.ss.length := by omega
        go_wp2_with fail
        go_meet
        exact ⟨HR.out, HB.out⟩
  case rest =>
    obtain ⟨HR, HB⟩ := hcut
    clear HR0 HB1
    obtain ⟨_, c0, c1, c2, c3, c4⟩ := HV1.out _ HB.out
    go_wp2_with fail
    clear c0 c1 c2 c3 c4
    go_loopw [8, 10, 32] (fun o _ i wr => ∃ k : Nat, k ≤ a.ss.length ∧ i = .int .i64 (k : Int) ∧ o = .int .i64 (stepsTo a b k : Nat) ∧ Hid (IRow wr t (nRow b.ss N b.ss.length)) ∧ Hid (Below t W0 wr)) (fun _ _ i _ => a.ss.length - (intOf i).toNat)
    case atStart => exact ⟨0, Nat.zero_le _, rfl, rfl, HR.out, HB.out⟩
    case round =>
      obtain ⟨k, hk, rfl, rfl, HR, HB⟩ := hrel
      by_cases hkN : k < a.ss.length
      · have q1 : (k : Int) < (a.ss.length : Int) := by omega
        have hrd := HRA.out _ HB.out
        have hle := hrd.le
        obtain ⟨fb, fo, hD, _, _, x0, x1, x2⟩ := Stps.at_ hrd hkN
        obtain ⟨hl1, hl2⟩ := HSA.out _ (List.getElem_mem hkN)
        obtain ⟨l, hl⟩ := Int.eq_ofNat_of_zero_le hl1
        have HUS := Lib.hid (stepsTo_succ a b hkN)
        have hst : stepsTo a b k ≤ 108000000 := Nat.le_trans (stepsTo_le a b k) (by
          have : k * (3 * b.ss.length) ≤ 6000 * 18000 := Nat.mul_le_mul (by omega) (by omega)
          omega)
        obtain ⟨s, hxx⟩ : ∃ s, s = a.ss[k] := ⟨_, rfl⟩
        rw [← hxx] at x0 x1 x2 hl1 hl2 hl HUS
        obtain ⟨sf, sl, st⟩ := s
        simp only at x0 x1 x2 hl1 hl2 hl HUS
        subst hl
        have hlN : l < N := by omega
        have hba : Below wr.heap.size wr (wr.alloc (Obj.cells #[.int .i64 sf, .int .i64 (l : Int), .int .i64 st] 90)) := (Below.refl _ _).alloc (Nat.le_refl _) _
        have HR2 := Lib.hid (HR.out.below hba HR.out.lt)
        have HB2 := Lib.hid (Below_on HB.out hba (Nat.le_of_lt HR.out.lt))
        have hS1 : (wr.alloc (Obj.cells #[.int .i64 sf, .int .i64 (l : Int), .int .i64 st] 90)).cell? ⟨wr.heap.size, 1, none⟩ = some (.int .i64 (l : Int)) := by go_simp
        obtain ⟨z1, z2⟩ := HR2.out.getD_ (i := l) (by rw [nRow_len]; exact hlN)
        rw [nRow_get _ hlN, List.take_length] at z1
        have hcl : cntL b.ss (l : Int) ≤ 6000 := Nat.le_trans (cntL_le _ _) (by omega)
        have HX := Lib.hid hkN
        subst hD
        clear hrd hxx hkN HR HB hba
        go_upto_region 11 with fail
        clear x0 x1 x2
        obtain ⟨S, hSS⟩ : ∃ S, S = wr.heap.size := ⟨_, rfl⟩
        rw [← hSS] at hS1 ⊢
        generalize wr.alloc (Obj.cells #[.int .i64 sf, .int .i64 (l : Int), .int .i64 st] 90) = W2 at *
        generalize stepsTo a b k = so at *
        generalize cntL b.ss (l : Int) = cn at *
        have HEQ : Hid (((stepsTo a b (k + 1) : Nat) : Int) = (so : Int) + 3 * (cn : Int)) := by show _ = _; rw [HUS.out]; omega
        clear hSS
        go_wp2_with fail
        go_roundw
        case rel => exact ⟨k + 1, HX.out, by go_num, congrArg (Value.int .i64) HEQ.out.symm, HR2.out, HB2.out⟩
        case measure => simp [intOf]; omega
      · have q1 : ¬ (k : Int) < (a.ss.length : Int) := by omega
        obtain rfl : k = a.ss.length := by omega
        have HP : Hid (IntB w (stepsN a b : Nat) (.returned (.int .i64 (stepsTo a b a.ss.length : Nat))) wr) := ⟨by rw [stepsTo_all], HBW.out _ HB.out⟩
        generalize stepsTo a b a.ss.length = so at *
        go_wp2_with fail
        go_ret
        exact HP.out
end Go.Proofs.Ytoglgeaiiipchaa

namespace Go.Proofs.Ytoglgeaiiipchaa
open Go Go.RowKit Go.Sort

def gB2 (a : Au) (x : Int) : Bool := a.gs.getD x.toNat false
theorem good_b {a : Au} {x : Int} (h : 0 ≤ x) : a.good x ↔ gB2 a x = true := ⟨fun g => g.2, fun g => ⟨h, g⟩⟩
theorem mul_in {x s : Int} {m k : Int} (h0 : 0 ≤ x) (h1 : x ≤ m) (h2 : 0 ≤ s) (h3 : s ≤ k) (hk : 0 ≤ k) : 0 ≤ x * s ∧ x * s ≤ m * k := ⟨Int.mul_nonneg h0 h2, Int.mul_le_mul h1 h3 h2 (by omega)⟩
theorem number_ (a b : Au) (A B C D E F : Option Addr) (ca cb cc cd ce cf P : Nat) (x y z : Int) (w : World) (hp : Au2At w P a b A B C D E F ca cb cc cd ce cf) (hx : 0 ≤ x) (hx2 : x ≤ 1000000) (hy : 0 ≤ y) (hy2 : y ≤ 1000000) (hz : 0 ≤ z) (hz2 : z ≤ 2) (hb1 : 1 ≤ b.st) (hb2 : b.st ≤ 1000000) :
    Calls Try.prog 96 #[.pointer (some ⟨P, 0, none⟩), .int .i64 x, .int .i64 y, .int .i64 z] w fun e w' => e = .returned (.int .i64 (pnum b x y z)) ∧ w = w' := by
  obtain ⟨_, c0, c1, c2, c3, c4, c5, c6, c7, c8, c9⟩ := hp
  obtain ⟨m1, m2⟩ := mul_in hx hx2 (s := b.st) (k := 1000000) (by omega) hb2 (by omega)
  have HE : Hid ((x * b.st + y) * 3 + z = pnum b x y z) := rfl
  go_enter Try.func96, Try.ntmps96
  go_wp2_with fail
  go_ret
  exact ⟨ret_int HE.out, rfl⟩
open Classical in
set_option maxRecDepth 100000 in
set_option maxHeartbeats 2000000 in
theorem wait_ (a b : Au) (A B C D E F : Option Addr) (ca cb cc cd ce cf P : Nat) (x y z : Int) (w : World) (hp : Au2At w P a b A B C D E F ca cb cc cd ce cf) (hga : Bools w 0 B cb a.gs) (hgb : Bools w 0 E ce b.gs)
    (hx : 0 ≤ x) (hx2 : x < a.gs.length) (hy : 0 ≤ y) (hy2 : y < b.gs.length) (hz : 0 ≤ z) (hz2 : z ≤ 2) :
    Calls Try.prog 97 #[.pointer (some ⟨P, 0, none⟩), .int .i64 x, .int .i64 y, .int .i64 z] w fun e w' => e = .returned (.int .i64 (pwait a b x y z)) ∧ w = w' := by
  obtain ⟨_, c0, c1, c2, c3, c4, c5, c6, c7, c8, c9⟩ := hp
  have HPW : Hid (pwait a b x y z = (let w0 := if z = 2 then 0 else z; let w1 := if w0 = 0 ∧ gB2 a x = true then 1 else w0; if w1 = 1 ∧ gB2 b y = true then 2 else w1)) := by
    show _ = _
    unfold pwait
    simp only [good_b hx, good_b hy]
  obtain ⟨n, rfl⟩ := Int.eq_ofNat_of_zero_le hx
  obtain ⟨m, rfl⟩ := Int.eq_ofNat_of_zero_le hy
  have l1 := hga.le
  have l2 := hgb.le
  have l3 := hga.cap
  have l4 := hgb.cap
  obtain ⟨g1, o1, rfl, _, _, x1⟩ := Bools.at_ hga (k := n) (by omega)
  obtain ⟨g2, o2, rfl, _, _, x2⟩ := Bools.at_ hgb (k := m) (by omega)
  have e1 : a.gs[n]'(by omega) = gB2 a n := by unfold gB2; rw [Int.toNat_natCast, List.getD_eq_getElem?_getD, List.getElem?_eq_getElem]; rfl
  have e2 : b.gs[m]'(by omega) = gB2 b m := by unfold gB2; rw [Int.toNat_natCast, List.getD_eq_getElem?_getD, List.getElem?_eq_getElem]; rfl
  rw [e1] at x1
  rw [e2] at x2
  clear e1 e2 hga hgb
  generalize gB2 a n = ga at *
  generalize gB2 b m = gb at *
  have hz3 : z = 0 ∨ z = 1 ∨ z = 2 := by omega
  rcases hz3 with rfl | rfl | rfl
  all_goals
    cases ga <;> cases gb
    all_goals
      simp at HPW
      go_enter Try.func97, Try.ntmps97
      go_wp2_with fail
      go_ret
      exact ⟨ret_int HPW.out.symm, rfl⟩
end Go.Proofs.Ytoglgeaiiipchaa

namespace Go.Proofs.Ytoglgeaiiipchaa

theorem flat_pre {α β : Type} (g : α → List β) {xs pre : List α} {x : α} {p : List β} (h : pre ++ [x] <+: xs) (hp : p <+: g x) : pre.flatMap g ++ p <+: xs.flatMap g := by
  obtain ⟨post, rfl⟩ := h
  obtain ⟨q, hq⟩ := hp
  refine ⟨q ++ post.flatMap g, ?_⟩
  rw [List.flatMap_append, List.flatMap_append, List.flatMap_cons, List.flatMap_nil, List.append_nil, ← hq]
  simp only [List.append_assoc]
theorem range_pre {k n : Nat} (h : k < n) : List.range k ++ [k] <+: List.range n := by
  rw [← List.range_succ]
  have := List.take_prefix (k + 1) (List.range n)
  rwa [List.take_range, Nat.min_eq_left (by omega)] at this
theorem map_pre {α β : Type} (g : α → β) {xs pre : List α} (h : pre <+: xs) : pre.map g <+: xs.map g := by
  obtain ⟨post, rfl⟩ := h
  exact ⟨post.map g, by rw [List.map_append]⟩
def sfr (a : Au) (n : Int) : List Stp := a.ss.filter fun s => s.f == n
/-- the first k of the three steps of two steps -/
noncomputable def triTo (a b : Au) (s t : Stp) (k : Nat) : List Stp := if s.l = t.l then (List.range k).map fun w : Nat => pairStp a b s t w else []
noncomputable def rT (a b : Au) (s : Stp) (ts : List Stp) : List Stp := ts.flatMap fun t => triTo a b s t 3
noncomputable def rY (a b : Au) (s : Stp) (k : Nat) : List Stp := (List.range k).flatMap fun y : Nat => rT a b s (sfr b y)
noncomputable def rS (a b : Au) (ss : List Stp) : List Stp := ss.flatMap fun s => rY a b s b.st.toNat
noncomputable def rX (a b : Au) (k : Nat) : List Stp := (List.range k).flatMap fun x : Nat => rS a b (sfr a x)
noncomputable def rawP (a b : Au) : List Stp := rX a b a.st.toNat
theorem triTo_zero (a b : Au) (s t : Stp) : triTo a b s t 0 = [] := by unfold triTo; split <;> rfl
theorem triTo_succ {a b : Au} {s t : Stp} (h : s.l = t.l) (k : Nat) : triTo a b s t (k + 1) = triTo a b s t k ++ [pairStp a b s t k] := by
  unfold triTo
  rw [if_pos h, if_pos h, List.range_succ, List.map_append]
  rfl
theorem triTo_no {a b : Au} {s t : Stp} (h : s.l ≠ t.l) (k : Nat) : triTo a b s t k = [] := if_neg h
theorem rT_snoc (a b : Au) (s t : Stp) (ts : List Stp) : rT a b s (ts ++ [t]) = rT a b s ts ++ triTo a b s t 3 := by unfold rT; simp
theorem rY_succ (a b : Au) (s : Stp) (k : Nat) : rY a b s (k + 1) = rY a b s k ++ rT a b s (sfr b k) := by unfold rY; rw [List.range_succ]; simp
theorem rS_snoc (a b : Au) (ss : List Stp) (s : Stp) : rS a b (ss ++ [s]) = rS a b ss ++ rY a b s b.st.toNat := by unfold rS; simp
theorem rX_succ (a b : Au) (k : Nat) : rX a b (k + 1) = rX a b k ++ rS a b (sfr a k) := by unfold rX; rw [List.range_succ]; simp
/-- where the making of the steps stands -/
noncomputable def curP (a b : Au) (x : Nat) (ss : List Stp) (s : Stp) (y : Nat) (ts : List Stp) (t : Stp) (k : Nat) : List Stp := rX a b x ++ (rS a b ss ++ (rY a b s y ++ (rT a b s ts ++ triTo a b s t k)))
theorem cur_pre {a b : Au} {x y k : Nat} {ss ts : List Stp} {s t : Stp} (hx : x < a.st.toNat) (hs : ss ++ [s] <+: sfr a x) (hy : y < b.st.toNat) (ht : ts ++ [t] <+: sfr b y) (hk : k ≤ 3) : curP a b x ss s y ts t k <+: rawP a b := by
  refine flat_pre _ (range_pre hx) (flat_pre _ hs (flat_pre _ (range_pre hy) (flat_pre _ ht ?_)))
  unfold triTo
  split
  · refine map_pre _ ?_
    have := List.take_prefix k (List.range 3)
    rwa [List.take_range, Nat.min_eq_left hk] at this
  · exact List.prefix_rfl
theorem raw_is {a b : Au} (ha : ∀ s ∈ a.ss, 0 ≤ s.f ∧ s.f < a.st) (hb : ∀ s ∈ b.ss, 0 ≤ s.f ∧ s.f < b.st) : PairRaw a b (rawP a b) := by
  intro s
  unfold rawP rX rS rY rT triTo sfr
  simp only [List.mem_flatMap, List.mem_range, List.mem_filter, beq_iff_eq]
  constructor
  · rintro ⟨x, hx, t, ⟨ht, htx⟩, y, hy, t', ⟨ht', hty⟩, hm⟩
    split at hm
    · rename_i hl
      obtain ⟨w, hw, rfl⟩ := List.mem_map.1 hm
      exact ⟨t, ht, t', ht', hl, w, by omega, by have := List.mem_range.1 hw; omega, rfl⟩
    · cases hm
  · rintro ⟨t, ht, t', ht', hl, w, h0, h1, rfl⟩
    have r := ha t ht
    have r' := hb t' ht'
    refine ⟨t.f.toNat, by omega, t, ⟨ht, by omega⟩, t'.f.toNat, by omega, t', ⟨ht', by omega⟩, ?_⟩
    rw [if_pos hl]
    refine List.mem_map.2 ⟨w.toNat, List.mem_range.2 (by omega), ?_⟩
    rw [Int.toNat_of_nonneg h0]
def sumTo (h : Nat → Nat) : Nat → Nat
  | 0 => 0
  | k + 1 => sumTo h k + h k
theorem sumTo_mono {h h' : Nat → Nat} (H : ∀ k, h k ≤ h' k) : ∀ k, sumTo h k ≤ sumTo h' k
  | 0 => Nat.le_refl _
  | k + 1 => Nat.add_le_add (sumTo_mono H k) (H k)
theorem flat_range {β : Type} (G : Nat → List β) : ∀ k, ((List.range k).flatMap G).length = sumTo (fun x => (G x).length) k
  | 0 => rfl
  | k + 1 => by rw [List.range_succ, List.flatMap_append, List.length_append, flat_range G k]; simp [sumTo]
theorem sumTo_add (h h' : Nat → Nat) : ∀ k, sumTo (fun x => h x + h' x) k = sumTo h k + sumTo h' k
  | 0 => rfl
  | k + 1 => by unfold sumTo; rw [sumTo_add h h' k]; omega
theorem sumTo_one (f : Int) (v : Nat) : ∀ k, sumTo (fun x : Nat => if f = x then v else 0) k = if 0 ≤ f ∧ f < k then v else 0
  | 0 => by rw [if_neg (by omega)]; rfl
  | k + 1 => by
    unfold sumTo
    rw [sumTo_one f v k]
    by_cases h1 : f = k
    · rw [if_pos h1, if_neg (by omega), if_pos (by omega)]; omega
    · rw [if_neg h1]
      by_cases h2 : 0 ≤ f ∧ f < k
      · rw [if_pos h2, if_pos (by omega)]; omega
      · rw [if_neg h2, if_neg (by omega)]
theorem sum_split (g : Stp → Nat) (k : Nat) : ∀ ss : List Stp, sumTo (fun x : Nat => ((ss.filter fun s => s.f == (x : Int)).map g).sum) k ≤ (ss.map g).sum
  | [] => by
    have : ∀ k, sumTo (fun _ : Nat => (([] : List Stp).map g).sum) k = 0 := by
      intro k
      induction k with
      | zero => rfl
      | succ k ih => unfold sumTo; rw [ih]; rfl
    exact Nat.le_of_eq (this k)
  | s :: ss => by
    have ih := sum_split g k ss
    have e : (fun x : Nat => (((s :: ss).filter fun s => s.f == (x : Int)).map g).sum) = fun x : Nat => (if s.f = (x : Int) then g s else 0) + ((ss.filter fun s => s.f == (x : Int)).map g).sum := by
      funext x
      rw [List.filter_cons]
      by_cases h : s.f = x
      · rw [if_pos (by simpa using h), if_pos h, List.map_cons, List.sum_cons]
      · rw [if_neg (by simpa using h), if_neg h, Nat.zero_add]
    rw [e, sumTo_add, sumTo_one, List.map_cons, List.sum_cons]
    split <;> omega
theorem triTo_len (a b : Au) (s t : Stp) : (triTo a b s t 3).length = if s.l = t.l then 3 else 0 := by
  unfold triTo
  split <;> simp
theorem flat_sum {α β : Type} (G : α → List β) : ∀ xs : List α, (xs.flatMap G).length = (xs.map fun x => (G x).length).sum
  | [] => rfl
  | x :: xs => by rw [List.flatMap_cons, List.length_append, flat_sum G xs, List.map_cons, List.sum_cons]
theorem map_le {α : Type} {g g' : α → Nat} (H : ∀ x, g x ≤ g' x) : ∀ xs : List α, (xs.map g).sum ≤ (xs.map g').sum
  | [] => Nat.le_refl _
  | x :: xs => by rw [List.map_cons, List.map_cons, List.sum_cons, List.sum_cons]; exact Nat.add_le_add (H x) (map_le H xs)
theorem cntL_sum (ss : List Stp) (c : Int) : (ss.map fun t => if c = t.l then 3 else 0).sum = 3 * cntL ss c := by
  induction ss with
  | nil => rfl
  | cons s ss ih =>
    rw [List.map_cons, List.sum_cons, ih, cntL_cons]
    by_cases h : s.l = c
    · rw [if_pos h.symm, if_pos h]; omega
    · rw [if_neg (fun e => h e.symm), if_neg h]; omega
theorem rY_len (a b : Au) (s : Stp) (k : Nat) : (rY a b s k).length ≤ 3 * cntL b.ss s.l := by
  unfold rY
  rw [flat_range, ← cntL_sum]
  refine Nat.le_trans (sumTo_mono (fun y => ?_) k) (sum_split (fun t => if s.l = t.l then 3 else 0) k b.ss)
  unfold rT
  rw [flat_sum]
  exact map_le (fun t => Nat.le_of_eq (triTo_len a b s t)) _
theorem raw_len (a b : Au) : (rawP a b).length ≤ stepsN a b := by
  unfold rawP rX stepsN
  rw [flat_range]
  refine Nat.le_trans (sumTo_mono (fun x => ?_) _) (sum_split (fun s => 3 * cntL b.ss s.l) _ a.ss)
  unfold rS
  rw [flat_sum]
  exact map_le (fun s => rY_len a b s _) _
theorem cur_len {a b : Au} {x y k : Nat} {ss ts : List Stp} {s t : Stp} (hx : x < a.st.toNat) (hs : ss ++ [s] <+: sfr a x) (hy : y < b.st.toNat) (ht : ts ++ [t] <+: sfr b y) (hk : k ≤ 3) : (curP a b x ss s y ts t k).length ≤ stepsN a b :=
  Nat.le_trans (cur_pre hx hs hy ht hk).length_le (raw_len a b)
end Go.Proofs.Ytoglgeaiiipchaa
