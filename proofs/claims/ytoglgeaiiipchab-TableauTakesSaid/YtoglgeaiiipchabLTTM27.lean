/- Walks: holds: the closures of node that read letters, or the next place. -/
import Derived.Test.YtoglgeaiiipchabLTTM26
import Derived.Test.YtoglgeaiiipchabLTTM3
import Derived.Laws.CopyOwn
import Derived.Laws.MathBits
import Derived.Deep.RegionLaw
import Derived.Test.YtoglgeaiiipchabLTTM2
import Derived.Shelf.Abstract
import Derived.Laws.BitsAllLaws
set_option linter.unusedSimpArgs false
set_option linter.unusedVariables false
namespace Go.Proofs.Ytoglgeaiiipchab
open Go Go.RowKit Go.Maps Go.Shelf Go.Sort

def TlPost (f : List Nd) (w : World) (e : Ending) (w' : World) : Prop := ∃ r A B C ca cb cc, (ckF f = 0 → RawS f r) ∧ (ckF f ≠ 0 → r.st = 0) ∧ e = .returned (.tuple #[.agg #[.int .i64 r.st, .int .i64 r.le, .slice A r.fs.length ca, .slice B r.gs.length cb, .slice C r.ss.length cc], .int .i64 (ckF f)]) ∧ AuRd w' w.heap.size r A B C ca cb cc ∧ Below w.heap.size w w'
set_option maxRecDepth 100000 in
set_option maxHeartbeats 4000000 in
theorem Translate_ (f : List Nd) (FA : Option Addr) (fc : Nat) (w : World) (hN : Nds w 0 FA fc f) :
    Calls Try.prog 11 #[.slice FA f.length fc] w (TlPost f w) := by
  have hz : Below w.heap.size w (w.alloc (Obj.cells #[.int .i64 0, .int .i64 0, .slice none 0 0, .slice none 0 0, .slice none 0 0] 26)) := (Below.refl _ _).alloc (Nat.le_refl _) _
  have HZ1 : Hid ((w.alloc (Obj.cells #[.int .i64 0, .int .i64 0, .slice none 0 0, .slice none 0 0, .slice none 0 0] 26)).heap[w.heap.size]? = some (.cells #[.int .i64 0, .int .i64 0, .slice none 0 0, .slice none 0 0, .slice none 0 0] 26 (0, 0))) := World.alloc_heap_new _ _
  have HN1 := Lib.hid (hN.below hz)
  have HB1 := Lib.hid hz
  clear hN hz
  go_enter Try.func11, Try.ntmps11
  go_upto_region 1 with fail
  obtain ⟨R2, hR2⟩ : ∃ R2, R2 = w.heap.size := ⟨_, rfl⟩
  rw [← hR2] at HZ1 ⊢
  have HRR := Lib.hid hR2
  clear hR2
  generalize w.alloc (Obj.cells #[.int .i64 0, .int .i64 0, .slice none 0 0, .slice none 0 0, .slice none 0 0] 26) = W1 at *
  have HCK := Lib.hid (formulaCheck_ FA fc f W1 HN1.out)
  go_wp2_with fail
  refine HCK.out.mono ?_
  rintro e w2 ⟨rfl, hb2⟩
  have HB2 := Lib.hid (Below_on HB1.out hb2 HB1.out.size)
  have HN2 := Lib.hid (HN1.out.below hb2)
  have HZ2 := Lib.hid ((hb2.block R2 (Array.getElem?_eq_some_iff.1 HZ1.out).1).trans HZ1.out)
  clear hb2 HCK HZ1 HB1 HN1
  by_cases h0 : ckF f = 0
  · have HCF := Lib.hid h0
    have HRW := Lib.hid (Raw_ f (ckF_zero.1 h0) FA fc w2 HN2.out)
    rw [h0]
    clear h0
    go_wp2_with fail
    refine HRW.out.mono ?_
    rintro e w3 ⟨r, A, B, C, ca, cb, cc, hS, rfl, hrd, hb3⟩
    have HZ3 := Lib.hid ((hb3.block R2 (Array.getElem?_eq_some_iff.1 HZ2.out).1).trans HZ2.out)
    obtain ⟨r0, r1, r2, r3, r4, s0, s1, s2, s3, s4⟩ := obj5 HZ3.out
    have HP : Hid (TlPost f w (.returned (.tuple #[.agg #[.int .i64 r.st, .int .i64 r.le, .slice A r.fs.length ca, .slice B r.gs.length cb, .slice C r.ss.length cc], .int .i64 0])) (set5 w3 R2 (.int .i64 r.st) (.int .i64 r.le) (.slice A r.fs.length ca) (.slice B r.gs.length cb) (.slice C r.ss.length cc))) :=
      ⟨r, A, B, C, ca, cb, cc, fun _ => hS, fun h => absurd HCF.out h, by rw [HCF.out], (hrd.set5_ (Array.getElem?_eq_some_iff.1 HZ2.out).1 _ _ _ _ _).low HB2.out.size, below_set5 (Below_on HB2.out hb3 HB2.out.size) (by rw [HRR.out]; exact Nat.le_refl _) _ _ _ _ _⟩
    have HO1 := Lib.hid (set5_heap HZ3.out (.int .i64 r.st) (.int .i64 r.le) (.slice A r.fs.length ca) (.slice B r.gs.length cb) (.slice C r.ss.length cc))
    unfold set5 at HP HO1
    clear hS hrd hb3
    go_wp2_with fail
    exact bodyPost_ret (retAuX Try.results11 _ _ R2 rfl rfl HO1.out) rfl HP.out
  · have h1 : (ckF f != 0) = true := by simp [h0]
    obtain ⟨r0, r1, r2, r3, r4, s0, s1, s2, s3, s4⟩ := obj5 HZ2.out
    have HP : Hid (TlPost f w (.returned (.tuple #[.agg #[.int .i64 0, .int .i64 0, .slice none 0 0, .slice none 0 0, .slice none 0 0], .int .i64 (ckF f)])) (set5 w2 R2 (.int .i64 0) (.int .i64 0) (.slice none 0 0) (.slice none 0 0) (.slice none 0 0))) :=
      ⟨⟨0, 0, [], [], []⟩, none, none, none, 0, 0, 0, fun h => absurd h h0, fun _ => rfl, rfl, ⟨⟨Nat.le_refl _, by omega, by simp, Rd.nil⟩, ⟨Nat.le_refl _, by omega, by simp, Rd.nil⟩, ⟨Nat.le_refl _, by omega, by simp, Rd.nil⟩⟩, below_set5 HB2.out (by rw [HRR.out]; exact Nat.le_refl _) _ _ _ _ _⟩
    have HO1 := Lib.hid (set5_heap HZ2.out (.int .i64 0) (.int .i64 0) (.slice none 0 0) (.slice none 0 0) (.slice none 0 0))
    unfold set5 at HP HO1
    clear h0
    generalize ckF f = ck at *
    go_wp2_with fail
    exact bodyPost_ret (retAuX Try.results11 _ _ R2 rfl rfl HO1.out) rfl HP.out
end Go.Proofs.Ytoglgeaiiipchab

namespace Go.Proofs.Ytoglgeaiiipchab
open Go Go.RowKit

set_option maxRecDepth 100000 in
theorem bitsMul1_ (n : Nat) (w : World) (hn : n < 4294967296) :
    Calls Try.prog 115 #[.int .u64 1, .int .u64 n] w fun e w' => e = .returned (.tuple #[.int .u64 0, .int .u64 n]) ∧ w = w' := by
  have e1 : bits .and .u64 1 4294967295 = 1 := by rw [and_low32 _ (by omega) (by omega)]; rfl
  have e2 : bits .and .u64 (n : Int) 4294967295 = n := by rw [and_low32 _ (by omega) (by omega)]; omega
  have e3 : (n : Int) / 4294967296 = 0 := by omega
  have e4 : bits .and .u64 0 4294967295 = 0 := by rw [and_low32 _ (by omega) (by omega)]; rfl
  have e5 : IntKind.u64.wrap (n : Int) = n := by rw [IntKind.wrap_u64]; omega
  go_enter Try.func115, Try.ntmps115
  go_wp2
  go_ret2
  simp [e1, e2, e3, e4, e5]

theorem rep_snoc (n m : Nat) (b : Bool) (k : Nat) (hk : k ≤ m) (hn : m + k ≤ n) :
    splice (List.replicate m (Value.bool b) ++ List.replicate (n - m) (Value.bool false)) m (List.replicate k (Value.bool b)) = List.replicate (m + k) (Value.bool b) ++ List.replicate (n - (m + k)) (Value.bool false) := by
  unfold splice
  rw [List.take_left' (by simp), List.drop_append, List.drop_eq_nil_of_le (by simp)]
  simp [List.replicate_append_replicate, ← List.append_assoc]
  omega

theorem rep_one (n : Nat) (b : Bool) (h : 1 ≤ n) : splice (List.replicate n (Value.bool false)) 0 [Value.bool b] = List.replicate 1 (Value.bool b) ++ List.replicate (n - 1) (Value.bool false) := by
  unfold splice
  simp
theorem sizeBool : (Try.prog.info? 4).map (·.size) = some 1 := by kernel_rfl
/-- the made row, filled up to a place -/
def RepRow (b : Bool) (n : Nat) (t : TypeId) (g m : Nat) (w : World) : Prop :=
  w.heap[g]? = some (.cells (List.replicate m (Value.bool b) ++ List.replicate (n - m) (Value.bool false)).toArray t (0, 0))

set_option maxRecDepth 100000 in
set_option maxHeartbeats 400000 in
theorem RepeatB_ (b : Bool) (B : Nat) (off c n : Nat) (w : World) (hx : w.cell? ⟨B, off, none⟩ = some (.bool b)) (hB : B < w.heap.size) (h1 : 1 ≤ n) (h2 : n ≤ 1000000) :
    Calls Try.prog 103 #[.slice (some ⟨B, off, none⟩) 1 c, .int .i64 n] w fun e w' => ∃ g, e = .returned (.slice (some ⟨g, 0, none⟩) n n) ∧ w.heap.size ≤ g ∧
      w'.heap[g]? = some (.cells (List.replicate n (Value.bool b)).toArray 4 (0, 0)) ∧ Below w.heap.size w w' := by
  obtain ⟨i0, hi0, hz0, hz1, hz2⟩ := info_parts infoBool
  have e5 : IntKind.u64.wrap (n : Int) = n := by rw [IntKind.wrap_u64]; omega
  have hmk := run_make (P := Try.prog) w 23 4 i0 _ Try.underlying23 hi0 hz0 .i64 .i64 n n (by omega) (by omega) (by rw [hz2]; omega) (by omega)
  simp only [Int.toNat_natCast] at hmk
  go_enter Try.func103, Try.ntmps103
  go_wp2_with fail
  refine (bitsMul1_ n _ (by omega)).mono ?_
  rintro e w' ⟨rfl, rfl⟩
  have hg0 : (w.alloc (Obj.cells (madeCells #[Value.bool false] n) 4)).heap[w.heap.size]? = some (.cells (List.replicate n (Value.bool false)).toArray 4 (0, 0)) := by
    rw [heap_alloc_new]
    rw [← toList_madeCells_one]
  have hb0 : Below w.heap.size w (w.alloc (Obj.cells (madeCells #[Value.bool false] n) 4)) := (Below.refl _ _).alloc (Nat.le_refl _) _
  have HG0 := Lib.hid hg0
  have HB0 := Lib.hid hb0
  clear hg0 hb0
  go_wp2_with (with_reducible refine wpList_copy_splice rfl (.tmp 31) (.tmp 32) 23 23 rfl 4 Try.underlying23 (by kernel_rfl) _ _ _ _ _ _ rfl rfl w.heap.size 0 _ _ HG0.out [Value.bool b] (by simp [Nat.min_def]; omega) ?hp (by simp; omega) (by simp [Value.oneCell']) w.heap.size w HB0.out (Nat.le_refl _) ?_)
  case hp =>
    intro j v hj
    match j, hj with
    | 0, hj => simp at hj; subst hj; simpa using hx
    | j + 1, hj => simp at hj
  intro w2 HG2 hB2
  have HB2 := Lib.hid hB2
  have hz2 : w.heap.size < w2.heap.size := by
    have := hB2.size
    rcases Nat.lt_or_ge w.heap.size w2.heap.size with h | h
    · exact h
    · have h3 := HG2.out
      rw [Array.getElem?_eq_none h] at h3
      cases h3
  rw [rep_one n b h1] at HG2
  clear hB2 HG0 HB0
  go_wp2
  go_loopw [8] (fun i wr => ∃ m : Nat, 1 ≤ m ∧ m ≤ n ∧ i = .int .i64 m ∧ RepRow b n 4 w.heap.size m wr ∧ Below w.heap.size w wr) (fun i _ => n - (intOf i).toNat)
  case atStart => exact ⟨1, by omega, h1, rfl, HG2.out, HB2.out⟩
  case round =>
    obtain ⟨m, hm1, hm2, rfl, hrow, hb⟩ := hrel
    by_cases hlt : m < n
    · obtain ⟨k, hk1, hk2, hk3, hk4⟩ : ∃ k, 1 ≤ k ∧ k ≤ m ∧ m + k ≤ n ∧ k = Nat.min m (n - m) := ⟨Nat.min m (n - m), by simp [Nat.min_def]; split <;> omega, by simp [Nat.min_def]; split <;> omega, by simp [Nat.min_def]; split <;> omega, rfl⟩
      have HK := Lib.hid hk4
      clear hk4
      have HR := Lib.hid hrow
      clear hrow
      have hs1 : (List.replicate k (Value.bool b)).length = Nat.min m (n - m) := by simpa using HK.out
      have hs2 : m + (List.replicate k (Value.bool b)).length ≤ (List.replicate m (Value.bool b) ++ List.replicate (n - m) (Value.bool false)).length := by simp; omega
      have hs3 : ∀ v ∈ List.replicate k (Value.bool b), v.oneCell' = true := by intro v hv; rw [(List.mem_replicate.1 hv).2]; rfl
      have hs4 : ∀ j v, (List.replicate k (Value.bool b))[j]? = some v → wr.cell? ((⟨w.heap.size, 0, none⟩ : Addr).add j) = some v := by
        intro j v hj
        have hjk : j < k := by simpa using (List.getElem?_eq_some_iff.1 hj).1
        have hv : v = .bool b := by rw [List.getElem?_replicate, if_pos hjk] at hj; exact (Option.some.inj hj).symm
        have h := HR.out
        unfold RepRow at h
        have hx2 : (List.replicate m (Value.bool b) ++ List.replicate (n - m) (Value.bool false))[j]? = some (Value.bool b) := by
          rw [List.getElem?_append_left (by simp; omega), List.getElem?_replicate, if_pos (by omega)]
        rw [Addr_add_off, Nat.zero_add, hv]
        simp only [World.cell?, h, Option.isSome_none, Bool.false_eq_true, if_false, List.getElem?_toArray]
        exact hx2
      have hrd : wr.drew.heap[w.heap.size]? = some (.cells (List.replicate m (Value.bool b) ++ List.replicate (n - m) (Value.bool false)).toArray 4 (0, 0)) := HR.out
      have HRD := Lib.hid hrd
      clear hrd
      have HBD := Lib.hid hb.drew
      have H1 := Lib.hid hs1
      have H2 := Lib.hid hs2
      have H3 := Lib.hid hs3
      have hs4d : ∀ j v, (List.replicate k (Value.bool b))[j]? = some v → wr.drew.cell? ((⟨w.heap.size, 0, none⟩ : Addr).add j) = some v := hs4
      have H4D := Lib.hid hs4d
      clear hs1 hs2 hs3 hs4 hs4d
      go_wp2
      have hnm : ¬ n = m := by omega
      go_region_law ((refine step_copy_splice (P := Try.prog) (w := wr.drew) rfl (.tmp 41) (.tmp 44) 23 23 rfl 4 Try.underlying23 sizeBool (some ⟨w.heap.size, m, none⟩) (some ⟨w.heap.size, 0, none⟩) (n - m) (n - m) m n (by go_simp) (by go_simp) w.heap.size m (List.replicate m (Value.bool b) ++ List.replicate (n - m) (Value.bool false)) 4 HRD.out (List.replicate k (Value.bool b)) H1.out (fun _ => ⟨rfl, _, rfl, H4D.out⟩) H2.out H3.out w.heap.size w HBD.out (Nat.le_refl _) ?_; intro w4 hg4 hb4))
      have ew : IntKind.i64.wrap ((m : Int) + (k : Int)) = (m : Int) + (k : Int) := by rw [IntKind.wrap_i64]; omega
      go_simp
      clear ew
      go_wp2
      go_roundw
      case rel =>
        refine ⟨m + k, by omega, by omega, by go_num, ?_, hb4⟩
        have h := hg4.out
        rw [rep_snoc n m b k hk2 hk3] at h
        exact h
      case measure => simp [intOf]; omega
    · go_wp2
      go_ret
      obtain rfl : m = n := by omega
      refine ⟨_, rfl, Nat.le_refl _, ?_, hb⟩
      have := hrow
      unfold RepRow at this
      simpa using this
end Go.Proofs.Ytoglgeaiiipchab

namespace Go.Proofs.Ytoglgeaiiipchab
open Go Go.RowKit Go.Shelf

/-- a reader in memory: its row has n places and goes on at h -/
def RdrAt (w : World) (R : Nat) (A : Option Addr) (n c h : Nat) : Prop :=
  w.cell? ⟨R, 0, none⟩ = some (.slice A n c) ∧ w.cell? ⟨R, 1, none⟩ = some (.int .i64 h) ∧ R < w.heap.size

theorem RdrAt.below {w w' : World} {R : Nat} {A : Option Addr} {n c h : Nat} (hr : RdrAt w R A n c h) {B : Nat} (hb : Below B w w') (hB : R < B) : RdrAt w' R A n c h :=
  ⟨(hb.cell (p := ⟨R, 0, none⟩) hB).trans hr.1, (hb.cell (p := ⟨R, 1, none⟩) hB).trans hr.2.1, Nat.lt_of_lt_of_le hr.2.2 hb.size⟩

set_option maxRecDepth 100000 in
theorem hnext_ (R : Nat) (A : Option Addr) (n c h i : Nat) (w : World) (hr : RdrAt w R A n c h) (hi : i < n) (hn : n ≤ 1000000) :
    Calls Try.prog 94 #[.pointer (some ⟨R, 0, none⟩), .int .i64 i] w fun e w' => e = .returned (.int .i64 (nx n h i : Nat)) ∧ w' = w := by
  obtain ⟨h1, h2, h3⟩ := hr
  by_cases he : i + 1 = n
  · have he' : (((i : Int) + 1) == (n : Int)) = true := by simp; omega
    have HF := Lib.hid (show nx n h i = h by unfold nx; rw [if_pos he])
    clear he
    go_enter Try.func94, Try.ntmps94
    go_wp2
    go_ret
    exact ⟨ret_int (by rw [HF.out]; try (first | rfl | (push_cast; rfl))), rfl⟩
  · have he' : (((i : Int) + 1) == (n : Int)) = false := by simp; omega
    have HF := Lib.hid (show nx n h i = i + 1 by unfold nx; rw [if_neg he])
    clear he
    go_enter Try.func94, Try.ntmps94
    go_wp2
    go_ret
    exact ⟨ret_int (by rw [HF.out]; try (first | rfl | (push_cast; rfl))), rfl⟩

/-- a function value that says, of a place and of what holds at the next one, what holds -/
def DoV (P : Program) (g : FuncId) (caps : Array Value) (n : Nat) (D : Nat → Bool → Bool) (w : World) : Prop :=
  ∀ (i : Nat) (nb : Bool) (W : World), i < n → Below w.heap.size w W → Calls P g (#[.int .i64 i, .bool nb] ++ caps) W fun e W' => e = .returned (.bool (D i nb)) ∧ Below W.heap.size W W'
theorem DoV.below {P : Program} {g : FuncId} {caps : Array Value} {n : Nat} {D : Nat → Bool → Bool} {w w' : World} (h : DoV P g caps n D w) (hb : Below w.heap.size w w') : DoV P g caps n D w' :=
  fun i nb W hi hW => h i nb W hi (hb.trans (hW.mono hb.size))

/-- a captured variable that holds a row of bools -/
def CapB (w : World) (B : Nat) (xs : List Bool) : Prop := ∃ A c, w.cell? ⟨B, 0, none⟩ = some (.slice A xs.length c) ∧ Bools w 0 A c xs ∧ B < w.heap.size
theorem CapB.below {w w' : World} {B : Nat} {xs : List Bool} (h : CapB w B xs) (hb : Below w.heap.size w w') : CapB w' B xs := by
  obtain ⟨A, c, h1, h2, h3⟩ := h
  exact ⟨A, c, (hb.cell (p := ⟨B, 0, none⟩) h3).trans h1, h2.below hb, Nat.lt_of_lt_of_le h3 hb.size⟩

theorem do2_ (B n : Nat) (xs : List Bool) (w : World) (hx : CapB w B xs) (hl : xs.length = n) :
    DoV Try.prog 90 #[.pointer (some ⟨B, 0, none⟩)] n (fun i _ => !xs.getD i false) w := by
  intro i nb W hi hW
  have hlt : i < xs.length := by omega
  obtain ⟨A, c, h1, h2, h3⟩ := hx.below hW
  have hcp := h2.cap
  have hle := h2.le
  obtain ⟨b, o, rfl, _, hb, hc⟩ := Bools.at_ h2 (k := i) (by omega)
  have hv : xs.getD i false = xs[i] := by simp [hlt]
  have HV := Lib.hid hv
  clear hv
  simp only [List.append_toArray, List.cons_append, List.nil_append]
  go_enter Try.func90, Try.ntmps90
  go_wp2
  go_ret
  exact ⟨ret_bool (by rw [HV.out]), Below.refl _ _⟩

theorem do3_ (B C n : Nat) (xs ys : List Bool) (w : World) (hx : CapB w B xs) (hy : CapB w C ys) (hl : xs.length = n) (hm : ys.length = n) :
    DoV Try.prog 91 #[.pointer (some ⟨B, 0, none⟩), .pointer (some ⟨C, 0, none⟩)] n (fun i _ => xs.getD i false && ys.getD i false) w := by
  intro i nb W hi hW
  have hlt : i < xs.length := by omega
  obtain ⟨A, c, h1, h2, h3⟩ := hx.below hW
  have hlt' : i < ys.length := by omega
  obtain ⟨A', c', k1, k2, k3⟩ := hy.below hW
  clear hx hy hl hm
  have hcp := h2.cap
  have hle := h2.le
  have hcp' := k2.cap
  have hle' := k2.le
  obtain ⟨b, o, rfl, _, hb, hc⟩ := Bools.at_ h2 (k := i) hlt
  obtain ⟨b', o', rfl, _, hb', hc'⟩ := Bools.at_ k2 (k := i) hlt'
  have HV := Lib.hid (show xs.getD i false = xs[i] by simp [hlt])
  have HV' := Lib.hid (show ys.getD i false = ys[i] by simp [hlt'])
  simp only [List.append_toArray, List.cons_append, List.nil_append]
  go_enter Try.func91, Try.ntmps91
  go_wp2
  all_goals (go_ret; refine ⟨ret_bool ?_, Below.refl _ _⟩; rw [HV.out, HV'.out]; simp [*])

theorem do4_ (B C n : Nat) (xs ys : List Bool) (w : World) (hx : CapB w B xs) (hy : CapB w C ys) (hl : xs.length = n) (hm : ys.length = n) :
    DoV Try.prog 92 #[.pointer (some ⟨B, 0, none⟩), .pointer (some ⟨C, 0, none⟩)] n (fun i _ => xs.getD i false || ys.getD i false) w := by
  intro i nb W hi hW
  have hlt : i < xs.length := by omega
  obtain ⟨A, c, h1, h2, h3⟩ := hx.below hW
  have hlt' : i < ys.length := by omega
  obtain ⟨A', c', k1, k2, k3⟩ := hy.below hW
  clear hx hy hl hm
  have hcp := h2.cap
  have hle := h2.le
  have hcp' := k2.cap
  have hle' := k2.le
  obtain ⟨b, o, rfl, _, hb, hc⟩ := Bools.at_ h2 (k := i) hlt
  obtain ⟨b', o', rfl, _, hb', hc'⟩ := Bools.at_ k2 (k := i) hlt'
  have HV := Lib.hid (show xs.getD i false = xs[i] by simp [hlt])
  have HV' := Lib.hid (show ys.getD i false = ys[i] by simp [hlt'])
  simp only [List.append_toArray, List.cons_append, List.nil_append]
  go_enter Try.func92, Try.ntmps92
  go_wp2
  all_goals (go_ret; refine ⟨ret_bool ?_, Below.refl _ _⟩; rw [HV.out, HV'.out]; simp [*])

theorem do6_ (B C n : Nat) (xs ys : List Bool) (w : World) (hx : CapB w B xs) (hy : CapB w C ys) (hl : xs.length = n) (hm : ys.length = n) :
    DoV Try.prog 95 #[.pointer (some ⟨C, 0, none⟩), .pointer (some ⟨B, 0, none⟩)] n (fun i nb => ys.getD i false || xs.getD i false && nb) w := by
  intro i nb W hi hW
  have hlt : i < xs.length := by omega
  obtain ⟨A, c, h1, h2, h3⟩ := hx.below hW
  have hlt' : i < ys.length := by omega
  obtain ⟨A', c', k1, k2, k3⟩ := hy.below hW
  clear hx hy hl hm
  have hcp := h2.cap
  have hle := h2.le
  have hcp' := k2.cap
  have hle' := k2.le
  obtain ⟨b, o, rfl, _, hb, hc⟩ := Bools.at_ h2 (k := i) hlt
  obtain ⟨b', o', rfl, _, hb', hc'⟩ := Bools.at_ k2 (k := i) hlt'
  have HV := Lib.hid (show xs.getD i false = xs[i] by simp [hlt])
  have HV' := Lib.hid (show ys.getD i false = ys[i] by simp [hlt'])
  simp only [List.append_toArray, List.cons_append, List.nil_append]
  go_enter Try.func95, Try.ntmps95
  go_wp2
  all_goals (go_ret; refine ⟨ret_bool ?_, Below.refl _ _⟩; rw [HV.out, HV'.out]; simp [*])

theorem do7_ (B C n : Nat) (xs ys : List Bool) (w : World) (hx : CapB w B xs) (hy : CapB w C ys) (hl : xs.length = n) (hm : ys.length = n) :
    DoV Try.prog 96 #[.pointer (some ⟨C, 0, none⟩), .pointer (some ⟨B, 0, none⟩)] n (fun i nb => ys.getD i false && (xs.getD i false || nb)) w := by
  intro i nb W hi hW
  have hlt : i < xs.length := by omega
  obtain ⟨A, c, h1, h2, h3⟩ := hx.below hW
  have hlt' : i < ys.length := by omega
  obtain ⟨A', c', k1, k2, k3⟩ := hy.below hW
  clear hx hy hl hm
  have hcp := h2.cap
  have hle := h2.le
  have hcp' := k2.cap
  have hle' := k2.le
  obtain ⟨b, o, rfl, _, hb, hc⟩ := Bools.at_ h2 (k := i) hlt
  obtain ⟨b', o', rfl, _, hb', hc'⟩ := Bools.at_ k2 (k := i) hlt'
  have HV := Lib.hid (show xs.getD i false = xs[i] by simp [hlt])
  have HV' := Lib.hid (show ys.getD i false = ys[i] by simp [hlt'])
  simp only [List.append_toArray, List.cons_append, List.nil_append]
  go_enter Try.func96, Try.ntmps96
  go_wp2
  all_goals (go_ret; refine ⟨ret_bool ?_, Below.refl _ _⟩; rw [HV.out, HV'.out]; simp [*])

theorem do8_ (n : Nat) (w : World) : DoV Try.prog 97 #[] n (fun _ _ => true) w := by
  intro i nb W hi hW
  simp only [List.append_toArray, List.append_nil]
  go_enter Try.func97, Try.ntmps97
  go_wp2
  go_ret
  exact ⟨rfl, Below.refl _ _⟩
end Go.Proofs.Ytoglgeaiiipchab

namespace Go.Proofs.Ytoglgeaiiipchab
open Go Go.RowKit Go.Shelf

def chOf : Value → Nat | .bool true => 1 | _ => 0
theorem rowCnt_eqS {s : Bool} {g : Nat} {w : World} {xs : List Bool} (h : BRow w g xs) : rowCnt s g w = cntS s xs := rowCnt_eq h
/-- what fill leaves: a row of its own in which nothing changes any more -/
def FillPost (w : World) (n h : Nat) (D : Nat → Bool → Bool) (s : Bool) (e : Ending) (w' : World) : Prop :=
  ∃ g out, e = .returned (.slice (some ⟨g, 0, none⟩) n n) ∧ w.heap.size ≤ g ∧ BRow w' g out ∧ FillGood n h D s out ∧ Fixed n h D s out ∧ Below w.heap.size w w'

set_option maxRecDepth 100000 in
set_option maxHeartbeats 1000000 in
theorem fill_ (R : Nat) (A : Option Addr) (c n h : Nat) (s : Bool) (g0 : FuncId) (caps : Array Value) (D : Nat → Bool → Bool) (w : World)
    (hr : RdrAt w R A n c h) (hn0 : h < n) (hn : n ≤ 1000000) (hg : Enters Try.prog g0) (hd : DoV Try.prog g0 caps n D w) (hm : ∀ i, i < n → D i s = (!s) → D i (!s) = (!s)) :
    Calls Try.prog 88 #[.pointer (some ⟨R, 0, none⟩), .bool s, .func (.func g0) #[] caps] w (FillPost w n h D s) := by
  have hgr : ∀ (args : Array Value) (w : World), (callFunc g0 args).run Try.prog w = .ok (.enter g0 args) w := hg
  have HD := Lib.hid hd
  have HM := Lib.hid hm
  have HR := Lib.hid hr
  clear hg hd hm
  obtain ⟨r1, r2, r3⟩ := hr
  go_enter Try.func88, Try.ntmps88
  go_wp2_with fail
  refine (RepeatB_ s w.heap.size 0 1 n _ (by go_simp) (by simp) (by omega) hn).mono ?_
  rintro e w1 ⟨g, rfl, hg1, hrow1, hb1⟩
  have hgg : w.heap.size + 1 ≤ g := by simpa using hg1
  have HB1 := Lib.hid (Below_on ((Below.refl w.heap.size w).alloc (Nat.le_refl _) (Obj.cells #[Value.bool s] 4)) hb1 (by simp))
  have HROW : Hid (BRow w1 g (List.replicate n s)) := by
    show w1.heap[g]? = _
    rw [hrow1]
    simp
  clear hrow1 hb1 hg1 r1 r2
  go_wp2
  go_loopw [8] (fun ch wr => ∃ (b : Bool) (out : List Bool), ch = .bool b ∧ BRow wr g out ∧ FillGood n h D s out ∧ (b = false → Fixed n h D s out) ∧ Below w.heap.size w wr) (fun ch wr => rowCnt s g wr + chOf ch)
  case atStart => exact ⟨true, _, rfl, HROW.out, FillGood.start n h D s hn0, by simp, HB1.out⟩
  case round =>
    obtain ⟨b, out, rfl, hrow, hgood, hfix, hb⟩ := hrel
    have HFX := Lib.hid hfix
    have HG := Lib.hid hgood
    have HRW := Lib.hid hrow
    clear hfix hgood hrow
    cases b with
    | false =>
      go_wp2
      go_ret
      exact ⟨g, out, rfl, by omega, HRW.out, HG.out, by have := HFX.out; simpa using this, hb⟩
    | true =>
      have HRR := Lib.hid (HR.out.below hb r3)
      have q1 := HRR.out.1
      go_wp2
      obtain ⟨wo, rfl⟩ : ∃ wo : World, wo = wr := ⟨_, rfl⟩
      go_loopw [8, 9] (fun ch i wr => ∃ (b : Bool) (j : Nat) (o2 : List Bool), ch = .bool b ∧ i = .int .i64 ((j : Int) - 1) ∧ j ≤ n ∧ BRow wr g o2 ∧ FillGood n h D s o2 ∧ (b = false → o2 = out ∧ ∀ i, j ≤ i → i < n → D i (out.getD (nx n h i) s) = out.getD i s) ∧ (b = true → cntS s o2 < cntS s out) ∧ cntS s o2 ≤ cntS s out ∧ Below w.heap.size w wr) (fun _ i _ => (intOf i + 1).toNat)
      case atStart => exact ⟨false, n, out, rfl, by go_num, Nat.le_refl _, HRW.out, HG.out, fun _ => ⟨rfl, fun i h1 h2 => absurd h1 (by omega)⟩, by simp, Nat.le_refl _, hb⟩
      case round =>
        obtain ⟨b2, j, o2, rfl, rfl, hj, hrow2, hgood2, hk1, hk2, hk3, hb2⟩ := hrel
        have HRW2 := Lib.hid hrow2
        have HG2 := Lib.hid hgood2
        have HK1 := Lib.hid hk1
        have HK2 := Lib.hid hk2
        clear hrow2 hgood2 hk1 hk2 q1
        have HRR2 := Lib.hid (HR.out.below hb2 r3)
        cases j with
        | zero =>
          go_wp2
          refine ⟨⟨b2, o2, rfl, HRW2.out, HG2.out, fun hb0 => ?_, hb2⟩, ?_⟩
          · obtain ⟨rfl, h2⟩ := HK1.out hb0
            exact fun i hi => h2 i (Nat.zero_le _) hi
          · rw [rowCnt_eqS HRW2.out, rowCnt_eqS HRW.out]
            cases b2 with
            | false => simp only [chOf]; omega
            | true => have := HK2.out rfl; simp only [chOf]; omega
        | succ j =>
          have hol : o2.length = n := HG2.out.len
          have hq : nx n h j < n := nx_lt (by omega) hn0
          have c1 := (HRW2.out.getD_ (i := nx n h j) (by omega) s).1
          obtain ⟨bq, hbq⟩ : ∃ b, b = o2.getD (nx n h j) s := ⟨_, rfl⟩
          obtain ⟨bj, hbj⟩ : ∃ b, b = o2.getD j s := ⟨_, rfl⟩
          rw [← hbq] at c1
          have HBQ := Lib.hid hbq
          have HBJ := Lib.hid hbj
          have HOL := Lib.hid hol
          have HQ := Lib.hid hq
          clear hol hq hbq hbj
          go_wp2_with fail
          refine (hnext_ R A n c h j wr HRR2.out (by omega) hn).mono ?_
          rintro e w2 ⟨rfl, hww⟩
          subst hww
          have hq := HQ.out
          go_wp2_with fail
          clear hq c1
          have HDD := Lib.hid (HD.out.below (Below_on HB1.out (Below.refl _ _) (Nat.le_refl _)))
          refine (HD.out j bq w2 (by omega) hb2).mono ?_
          rintro e w3 ⟨rfl, hb3⟩
          have HB3 := Lib.hid (Below_on hb2 hb3 hb2.size)
          have HRW3 := Lib.hid (HRW2.out.below hb3 HRW2.out.lt)
          have hglt := HRW3.out.lt
          obtain ⟨c2, c3⟩ := HRW3.out.getD_ (i := j) (by rw [HOL.out]; omega) s
          rw [← HBJ.out] at c2
          clear hb2 hb3 HDD
          obtain ⟨v, hv⟩ : ∃ v, v = D j bq := ⟨_, rfl⟩
          rw [← hv]
          have HV := Lib.hid hv
          clear hv
          have hjn : j < n := by omega
          by_cases hne : v = bj
          · have hne' : (v == bj) = true := by simp [hne]
            have HNE := Lib.hid hne
            clear hne
            go_wp2
            go_roundw
            case rel =>
              refine ⟨b2, j, o2, rfl, by go_num, by omega, HRW3.out, HG2.out, fun hb0 => ?_, HK2.out, hk3, HB3.out⟩
              obtain ⟨rfl, h2⟩ := HK1.out hb0
              refine ⟨rfl, fun i h1 h3 => ?_⟩
              rcases Nat.lt_or_ge i (j + 1) with h4 | h4
              · obtain rfl : i = j := by omega
                rw [← HBQ.out, ← HV.out, ← HBJ.out]
                exact HNE.out
              · exact h2 i h4 h3
            case measure => simp [intOf]
          · have hne' : (v == bj) = false := by simpa using hne
            have hst := HG2.out.step hn0 HM.out hjn (by rw [← HBQ.out, ← HV.out, ← HBJ.out]; exact hne)
            rw [← HBQ.out, ← HV.out, ← HBJ.out] at hst
            have HST := Lib.hid hst
            have HCN := Lib.hid (cntS_set (s := s) (out := o2) (i := j) (by rw [HOL.out]; exact hjn) (by rw [← HBJ.out]; exact hst.2.2))
            clear hst hne
            go_wp2
            go_roundw
            case rel =>
              have hc := HCN.out
              have hs := HST.out
              rw [← hs.2.1] at hc
              refine ⟨true, j, o2.set j v, rfl, by go_num, by omega, HRW3.out.set_ j v, hs.1, by simp, fun _ => by omega, by omega, HB3.out.setCell (p := ⟨g, j, none⟩) (by simp; omega) _⟩
            case measure => simp [intOf]
end Go.Proofs.Ytoglgeaiiipchab

namespace Go.Proofs.Ytoglgeaiiipchab
open Go Go.RowKit Go.Shelf

theorem do1_ (X Y R n N : Nat) (A : Option Addr) (c h : Nat) (xs : List Int) (w : World) (hX : w.cell? ⟨X, 0, none⟩ = some (.pointer (some ⟨R, 0, none⟩))) (hXl : X < w.heap.size)
    (hY : w.cell? ⟨Y, 3, none⟩ = some (.int .i64 N)) (hYl : Y < w.heap.size) (hr : RdrAt w R A xs.length c h) (hx : Ints w 0 A c xs) (hl : xs.length = n) (hN : N ≤ 2)
    (hb : ∀ (i : Nat) (hi : i < xs.length), 0 ≤ xs[i] ∧ xs[i] ≤ 7) :
    DoV Try.prog 89 #[.pointer (some ⟨X, 0, none⟩), .pointer (some ⟨Y, 0, none⟩)] n (fun i _ => bitOf (xs.getD i 0) N) w := by
  intro i nb W hi hW
  have hlt : i < xs.length := by omega
  have hv := hb i hlt
  have k1 : W.cell? ⟨X, 0, none⟩ = some (.pointer (some ⟨R, 0, none⟩)) := (hW.cell (p := ⟨X, 0, none⟩) hXl).trans hX
  have k2 : W.cell? ⟨Y, 3, none⟩ = some (.int .i64 N) := (hW.cell (p := ⟨Y, 3, none⟩) hYl).trans hY
  obtain ⟨k3, _, _⟩ := hr.below hW hr.2.2
  have hcp := hx.cap
  have hle := hx.le
  obtain ⟨b, o, rfl, _, _, hc⟩ := Ints.at_ (hx.below hW) hlt
  have HV := Lib.hid (show xs.getD i 0 = xs[i] by simp [hlt])
  clear hb hl hX hY hr hx
  generalize xs[i] = m at *
  generalize xs.length = len at *
  simp only [List.append_toArray, List.cons_append, List.nil_append]
  have hNN : N = 0 ∨ N = 1 ∨ N = 2 := by omega
  obtain rfl | rfl | rfl := hNN
  all_goals
    go_enter Try.func89, Try.ntmps89
    go_wp2
    go_quiet (fail)
    go_wp2
    go_ret
    refine ⟨ret_bool ?_, below_drewN (Below.refl _ _) _⟩
    rw [HV.out]
    have hm : m = 0 ∨ m = 1 ∨ m = 2 ∨ m = 3 ∨ m = 4 ∨ m = 5 ∨ m = 6 ∨ m = 7 := by omega
    go_tidy
    rcases hm with rfl | rfl | rfl | rfl | rfl | rfl | rfl | rfl <;> rfl

theorem do5_ (B X R n : Nat) (A : Option Addr) (c h : Nat) (xs : List Bool) (w : World) (hB : CapB w B xs) (hl : xs.length = n) (hX : w.cell? ⟨X, 0, none⟩ = some (.pointer (some ⟨R, 0, none⟩))) (hXl : X < w.heap.size)
    (hr : RdrAt w R A n c h) (hn : n ≤ 1000000) (hh : h < n) :
    DoV Try.prog 93 #[.pointer (some ⟨B, 0, none⟩), .pointer (some ⟨X, 0, none⟩)] n (fun i _ => xs.getD (nx n h i) false) w := by
  intro i nb W hi hW
  have hnx : nx n h i < n := nx_lt hi hh
  have hlt : nx n h i < xs.length := by omega
  have k1 : W.cell? ⟨X, 0, none⟩ = some (.pointer (some ⟨R, 0, none⟩)) := (hW.cell (p := ⟨X, 0, none⟩) hXl).trans hX
  have HN := Lib.hid (hr.below hW hr.2.2)
  have HQ : Hid (∀ k, Calls Try.prog 94 #[.pointer (some ⟨R, 0, none⟩), .int .i64 i] (W.drewN k) fun e w' => e = .returned (.int .i64 (nx n h i : Nat)) ∧ w' = W.drewN k) := fun k => hnext_ R A n c h i (W.drewN k) HN.out hi hn
  obtain ⟨A', c', h1, h2, h3⟩ := hB.below hW
  clear hX hB hr
  have hcp := h2.cap
  have hle := h2.le
  obtain ⟨b, o, rfl, _, _, hc⟩ := Bools.at_ h2 hlt
  have HV := Lib.hid (show xs.getD (nx n h i) false = xs[nx n h i] by simp [hlt])
  clear h2
  generalize xs[nx n h i] = v at *
  generalize xs.length = len at *
  generalize hj : nx n h i = j at *
  have HJ := Lib.hid hj
  clear hj
  simp only [List.append_toArray, List.cons_append, List.nil_append]
  go_enter Try.func93, Try.ntmps93
  go_wp2
  go_quiet ((go_at_call 94; exact Calls.quiet_of_same (HQ.out _)))
  go_wp2
  go_ret
  exact ⟨ret_bool (by rw [HJ.out, HV.out]), below_drewN (Below.refl _ _) _⟩
end Go.Proofs.Ytoglgeaiiipchab
