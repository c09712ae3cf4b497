import Derived.Test.YtoglgeaiiipchabGreatDoorLMAKM3
import Derived.Laws.CopyOwn
import Derived.Laws.MathBits
import Derived.Deep.RegionLaw
import Derived.Test.YtoglgeaiiipchabGreatDoorLMAKM2
import Derived.Shelf.Abstract
import Derived.Laws.BitsAllLaws
import Derived.Test.YtoglgeaiiipchabGreatDoorLMAKM21
import Derived.StillTailTactics
import Derived.Lib.AppendZerosOnto
import Derived.WalkSpells
import Derived.Test.YtoglgeaiiipchabGreatDoorLMAKM10
import Derived.Test.YtoglgeaiiipchabGreatDoorLMAKM5
import Derived.Test.YtoglgeaiiipchabGreatDoorLMAKM13
import Derived.Deep.CutBlock
import Derived.Deep.DeepCutAuto
import Derived.Sort.LoopGhostIn
import Derived.Test.YtoglgeaiiipchabGreatDoorLMAKM4
import Derived.Maps.RangeWalk
import Derived.Test.YtoglgeaiiipchabGreatDoorLMAKM1
import Derived.Test.YtoglgeaiiipchabGreatDoorLMAKM19
import Derived.Test.YtoglgeaiiipchabGreatDoorLMAKM6
import Derived.Test.YtoglgeaiiipchabGreatDoorLMAKM7
import Derived.Test.YtoglgeaiiipchabGreatDoorProg
import Derived.Maps.OwnSet
import Derived.Maps.Keyed
import Derived.Maps.Range
set_option linter.unusedSimpArgs false
set_option linter.unusedVariables false
namespace Go.Proofs.YtoglgeaiiipchabGreatDoor
open Go Go.RowKit
set_option maxRecDepth 100000 in
theorem bitsMul1_ (n : Nat) (w : World) (hn : n < 4294967296) :
    Calls Tryz.prog 119 #[.int .u64 1, .int .u64 n] w fun e w' => e = .returned (.tuple #[.int .u64 0, .int .u64 n]) ∧ w = w' := by
  have e1 : bits .and .u64 1 4294967295 = 1 := by rw [and_low32 _ (by omega) (by omega)]; rfl
  have e2 : bits .and .u64 (n : Int) 4294967295 = n := by rw [and_low32 _ (by omega) (by omega)]; omega
  have e3 : (n : Int) / 4294967296 = 0 := by omega
  have e4 : bits .and .u64 0 4294967295 = 0 := by rw [and_low32 _ (by omega) (by omega)]; rfl
  have e5 : IntKind.u64.wrap (n : Int) = n := by rw [IntKind.wrap_u64]; omega
  go_enter Tryz.func119, Tryz.ntmps119
  go_wp2
  go_ret2
  simp [e1, e2, e3, e4, e5]
theorem rep_snoc (n m : Nat) (b : Bool) (k : Nat) (hk : k ≤ m) (hn : m + k ≤ n) :
    splice (List.replicate m (Value.bool b) ++ List.replicate (n - m) (Value.bool false)) m (List.replicate k (Value.bool b)) = List.replicate (m + k) (Value.bool b) ++ List.replicate (n - (m + k)) (Value.bool false) := by
  unfold splice
  rw [List.take_left' (by simp), List.drop_append, List.drop_eq_nil_of_le (by simp)]
  simp [List.replicate_append_replicate, ← List.append_assoc]
  omega
theorem rep_one (n : Nat) (b : Bool) (h : 1 ≤ n) : splice (List.replicate n (Value.bool false)) 0 [Value.bool b] = List.replicate 1 (Value.bool b) ++ List.replicate (n - 1) (Value.bool false) := by
  unfold splice
  simp
theorem sizeBool : (Tryz.prog.info? 4).map (·.size) = some 1 := by kernel_rfl
def RepRow (b : Bool) (n : Nat) (t : TypeId) (g m : Nat) (w : World) : Prop :=
  w.heap[g]? = some (.cells (List.replicate m (Value.bool b) ++ List.replicate (n - m) (Value.bool false)).toArray t (0, 0))
set_option maxRecDepth 100000 in
set_option maxHeartbeats 400000 in
theorem RepeatB_ (b : Bool) (B : Nat) (off c n : Nat) (w : World) (hx : w.cell? ⟨B, off, none⟩ = some (.bool b)) (hB : B < w.heap.size) (h1 : 1 ≤ n) (h2 : n ≤ 1000000) :
    Calls Tryz.prog 95 #[.slice (some ⟨B, off, none⟩) 1 c, .int .i64 n] w fun e w' => ∃ g, e = .returned (.slice (some ⟨g, 0, none⟩) n n) ∧ w.heap.size ≤ g ∧
      w'.heap[g]? = some (.cells (List.replicate n (Value.bool b)).toArray 4 (0, 0)) ∧ Below w.heap.size w w' := by
  obtain ⟨i0, hi0, hz0, hz1, hz2⟩ := info_parts infoBool
  have e5 : IntKind.u64.wrap (n : Int) = n := by rw [IntKind.wrap_u64]; omega
  have hmk := run_make (P := Tryz.prog) w 23 4 i0 _ Tryz.underlying23 hi0 hz0 .i64 .i64 n n (by omega) (by omega) (by rw [hz2]; omega) (by omega)
  simp only [Int.toNat_natCast] at hmk
  go_enter Tryz.func95, Tryz.ntmps95
  go_wp2_with fail
  refine (bitsMul1_ n _ (by omega)).mono ?_
  rintro e w' ⟨rfl, rfl⟩
  have hg0 : (w.alloc (Obj.cells (madeCells #[Value.bool false] n) 4)).heap[w.heap.size]? = some (.cells (List.replicate n (Value.bool false)).toArray 4 (0, 0)) := by
    rw [heap_alloc_new]
    rw [← toList_madeCells_one]
  have hb0 : Below w.heap.size w (w.alloc (Obj.cells (madeCells #[Value.bool false] n) 4)) := (Below.refl _ _).alloc (Nat.le_refl _) _
  have HG0 := Lib.hid hg0
  have HB0 := Lib.hid hb0
  clear hg0 hb0
  go_wp2_with (with_reducible refine wpList_copy_splice rfl (.tmp 31) (.tmp 32) 23 23 rfl 4 Tryz.underlying23 (by kernel_rfl) _ _ _ _ _ _ rfl rfl w.heap.size 0 _ _ HG0.out [Value.bool b] (by simp [Nat.min_def]; omega) ?hp (by simp; omega) (by simp [Value.oneCell']) w.heap.size w HB0.out (Nat.le_refl _) ?_)
  case hp =>
    intro j v hj
    match j, hj with
    | 0, hj => simp at hj; subst hj; simpa using hx
    | j + 1, hj => simp at hj
  intro w2 HG2 hB2
  have HB2 := Lib.hid hB2
  have hz2 : w.heap.size < w2.heap.size := by
    have := hB2.size
    rcases Nat.lt_or_ge w.heap.size w2.heap.size with h | h
    · exact h
    · have h3 := HG2.out
      rw [Array.getElem?_eq_none h] at h3
      cases h3
  rw [rep_one n b h1] at HG2
  clear hB2 HG0 HB0
  go_wp2
  go_loopw [8] (fun i wr => ∃ m : Nat, 1 ≤ m ∧ m ≤ n ∧ i = .int .i64 m ∧ RepRow b n 4 w.heap.size m wr ∧ Below w.heap.size w wr) (fun i _ => n - (intOf i).toNat)
  case atStart => exact ⟨1, by omega, h1, rfl, HG2.out, HB2.out⟩
  case round =>
    obtain ⟨m, hm1, hm2, rfl, hrow, hb⟩ := hrel
    by_cases hlt : m < n
    · obtain ⟨k, hk1, hk2, hk3, hk4⟩ : ∃ k, 1 ≤ k ∧ k ≤ m ∧ m + k ≤ n ∧ k = Nat.min m (n - m) := ⟨Nat.min m (n - m), by simp [Nat.min_def]; split <;> omega, by simp [Nat.min_def]; split <;> omega, by simp [Nat.min_def]; split <;> omega, rfl⟩
      have HK := Lib.hid hk4
      clear hk4
      have HR := Lib.hid hrow
      clear hrow
      have hs1 : (List.replicate k (Value.bool b)).length = Nat.min m (n - m) := by simpa using HK.out
      have hs2 : m + (List.replicate k (Value.bool b)).length ≤ (List.replicate m (Value.bool b) ++ List.replicate (n - m) (Value.bool false)).length := by simp; omega
      have hs3 : ∀ v ∈ List.replicate k (Value.bool b), v.oneCell' = true := by intro v hv; rw [(List.mem_replicate.1 hv).2]; rfl
      have hs4 : ∀ j v, (List.replicate k (Value.bool b))[j]? = some v → wr.cell? ((⟨w.heap.size, 0, none⟩ : Addr).add j) = some v := by
        intro j v hj
        have hjk : j < k := by simpa using (List.getElem?_eq_some_iff.1 hj).1
        have hv : v = .bool b := by rw [List.getElem?_replicate, if_pos hjk] at hj; exact (Option.some.inj hj).symm
        have h := HR.out
        unfold RepRow at h
        have hx2 : (List.replicate m (Value.bool b) ++ List.replicate (n - m) (Value.bool false))[j]? = some (Value.bool b) := by
          rw [List.getElem?_append_left (by simp; omega), List.getElem?_replicate, if_pos (by omega)]
        rw [Addr_add_off, Nat.zero_add, hv]
        simp only [World.cell?, h, Option.isSome_none, Bool.false_eq_true, if_false, List.getElem?_toArray]
        exact hx2
      have hrd : wr.drew.heap[w.heap.size]? = some (.cells (List.replicate m (Value.bool b) ++ List.replicate (n - m) (Value.bool false)).toArray 4 (0, 0)) := HR.out
      have HRD := Lib.hid hrd
      clear hrd
      have HBD := Lib.hid hb.drew
      have H1 := Lib.hid hs1
      have H2 := Lib.hid hs2
      have H3 := Lib.hid hs3
      have hs4d : ∀ j v, (List.replicate k (Value.bool b))[j]? = some v → wr.drew.cell? ((⟨w.heap.size, 0, none⟩ : Addr).add j) = some v := hs4
      have H4D := Lib.hid hs4d
      clear hs1 hs2 hs3 hs4 hs4d
      go_wp2
      have hnm : ¬ n = m := by omega
      go_region_law ((refine step_copy_splice (P := Tryz.prog) (w := wr.drew) rfl (.tmp 41) (.tmp 44) 23 23 rfl 4 Tryz.underlying23 sizeBool (some ⟨w.heap.size, m, none⟩) (some ⟨w.heap.size, 0, none⟩) (n - m) (n - m) m n (by go_simp) (by go_simp) w.heap.size m (List.replicate m (Value.bool b) ++ List.replicate (n - m) (Value.bool false)) 4 HRD.out (List.replicate k (Value.bool b)) H1.out (fun _ => ⟨rfl, _, rfl, H4D.out⟩) H2.out H3.out w.heap.size w HBD.out (Nat.le_refl _) ?_; intro w4 hg4 hb4))
      have ew : IntKind.i64.wrap ((m : Int) + (k : Int)) = (m : Int) + (k : Int) := by rw [IntKind.wrap_i64]; omega
      go_simp
      clear ew
      go_wp2
      go_roundw
      case rel =>
        refine ⟨m + k, by omega, by omega, by go_num, ?_, hb4⟩
        have h := hg4.out
        rw [rep_snoc n m b k hk2 hk3] at h
        exact h
      case measure => simp [intOf]; omega
    · go_wp2
      go_ret
      obtain rfl : m = n := by omega
      refine ⟨_, rfl, Nat.le_refl _, ?_, hb⟩
      have := hrow
      unfold RepRow at this
      simpa using this
end Go.Proofs.YtoglgeaiiipchabGreatDoor

namespace Go.Proofs.YtoglgeaiiipchabGreatDoor
open Go Go.RowKit Go.Shelf
end Go.Proofs.YtoglgeaiiipchabGreatDoor

namespace Go.Proofs.YtoglgeaiiipchabGreatDoor
open Go Go.RowKit Go.Shelf
end Go.Proofs.YtoglgeaiiipchabGreatDoor

namespace Go.Proofs.YtoglgeaiiipchabGreatDoor
open Go Go.RowKit Go.Shelf
end Go.Proofs.YtoglgeaiiipchabGreatDoor

namespace Go.Proofs.YtoglgeaiiipchabGreatDoor
open Go Go.RowKit Go.Shelf
end Go.Proofs.YtoglgeaiiipchabGreatDoor

namespace Go.Proofs.YtoglgeaiiipchabGreatDoor
open Go Go.RowKit Go.Shelf
end Go.Proofs.YtoglgeaiiipchabGreatDoor

namespace Go.Proofs.YtoglgeaiiipchabGreatDoor
open Go Go.RowKit
end Go.Proofs.YtoglgeaiiipchabGreatDoor
namespace Go.Proofs.YtoglgeaiiipchabGreatDoor
open Go Go.RowKit
end Go.Proofs.YtoglgeaiiipchabGreatDoor

namespace Go.Proofs.YtoglgeaiiipchabGreatDoor
open Go Go.RowKit Go.Shelf
set_option maxRecDepth 100000 in
set_option maxHeartbeats 1000000 in
theorem formulaCheck_ (A : Option Addr) (c : Nat) (f : List Nd) (w : World) (hf : Nds w 0 A c f) :
    Calls Tryz.prog 82 #[.slice A f.length c] w fun e w' => e = .returned (.int .i64 (ckF f)) ∧ Below w.heap.size w w' := by
  have hle := hf.le
  have hmx := hf.max
  have hcp := hf.cap
  by_cases h0 : f.length = 0
  · have h0' : ((f.length : Int) == 0) = true := by simp [h0]
    go_enter Tryz.func82, Tryz.ntmps82
    have H0 := Lib.hid h0
    clear h0
    go_wp2
    go_ret
    exact ⟨ret_int (by rw [ckF, if_pos H0.out]), Below.refl _ _⟩
  · have h0' : ((f.length : Int) == 0) = false := by simpa using h0
    by_cases hm : tooMany f = true
    · go_enter Tryz.func82, Tryz.ntmps82
      go_wp2_with (go_at_call 85; refine (many_ _ _ _ _ hf).mono ?_; rintro e w1 ⟨rfl, hb1⟩)
      go_ret
      exact ⟨ret_int (by rw [ckF, if_neg h0, if_pos hm]), hb1⟩
    · have hm' : tooMany f = false := by simpa using hm
      have hfin : ckF f = ckNds (f.drop 0) 0 := by rw [ckF, if_neg h0, if_neg hm]; rfl
      have HF := Lib.hid hfin
      clear hfin hm
      go_enter Tryz.func82, Tryz.ntmps82
      go_wp2_with (go_at_call 85; refine (many_ _ _ _ _ hf).mono ?_; rintro e w1 ⟨rfl, hb1⟩)
      go_loopw [15] (fun i wr => ∃ k : Nat, k ≤ f.length ∧ i = .int .i64 k ∧ ckF f = ckNds (f.drop k) k ∧ Below w.heap.size w wr) (fun i _ => f.length - (intOf i).toNat)
      case atStart => exact ⟨0, Nat.zero_le _, rfl, HF.out, hb1⟩
      case round =>
        obtain ⟨k, hk, rfl, hc, hb⟩ := hrel
        have HC := Lib.hid hc
        clear hc
        by_cases hlt : k < f.length
        · obtain ⟨b, o, rfl, _, hbl, hc1, hc2, hc3, hc4⟩ := Nds.at_ (hf.below hb) hlt
          have hst := ckNds_step hlt
          have HS := Lib.hid hst
          clear hst
          have HB := Lib.hid (hb.alloc hb.size (Obj.cells #[.int .i64 f[k].k, .int .i64 f[k].a, .int .i64 f[k].b, .int .i64 f[k].n] 90))
          by_cases he : ndErr f[k] k = 0
          · have he' : (ndErr f[k] k != 0) = false := by simpa using he
            have HE := Lib.hid he
            clear he
            go_wp2_with (go_at_call 112; refine (node_ _ _ _).mono ?_; rintro e w1 ⟨rfl, hb2⟩)
            go_roundw
            case rel => exact ⟨k + 1, by omega, by go_num, by rw [HC.out, HS.out, if_pos HE.out], Below_on HB.out hb2 HB.out.size⟩
            case measure => simp [intOf]; omega
          · have he' : (ndErr f[k] k != 0) = true := by simpa using he
            go_wp2_with (go_at_call 112; refine (node_ _ _ _).mono ?_; rintro e w1 ⟨rfl, hb2⟩)
            go_ret
            exact ⟨ret_int (by rw [HC.out, HS.out, if_neg he]), Below_on HB.out hb2 HB.out.size⟩
        · go_wp2
          go_ret
          exact ⟨ret_int (by rw [HC.out, ckNds_end (by omega)]), hb⟩
end Go.Proofs.YtoglgeaiiipchabGreatDoor

namespace Go.Proofs.YtoglgeaiiipchabGreatDoor
open Go Go.RowKit Go.Shelf
def ckT (f : List Nd) (l : La) : Int := if ckF f = 0 then ckL l 8 else ckF f
theorem ckF_ok {f : List Nd} (h : ckF f = 0) : f.length ≠ 0 ∧ f.length ≤ 12 ∧ tooMany f = false ∧ ckNds (f.drop 0) 0 = 0 := by
  unfold ckF at h
  split at h
  · simp at h
  · split at h
    · simp at h
    · rename_i h1 h2
      have h3 : tooMany f = false := by simpa using h2
      refine ⟨h1, ?_, h3, h⟩
      unfold tooMany at h3
      simp at h3
      omega
theorem okLetters {l : La} (h : ckL l 8 = 0) : l.h.length ≤ 4000 ∧ l.l.length ≤ 4000 ∧ 0 < l.l.length ∧ ∀ (i : Nat) (hi : i < (l.h ++ l.l).length), 0 ≤ (l.h ++ l.l)[i] ∧ (l.h ++ l.l)[i] ≤ 7 := by
  unfold ckL at h
  split at h
  · simp at h
  · split at h
    · simp at h
    · split at h
      · simp at h
      · split at h
        · simp at h
        · rename_i h1 h2 h3 h4
          refine ⟨by omega, by omega, by omega, fun i hi => ?_⟩
          have hb : badL 8 (l.h ++ l.l)[i] = false := by
            cases e : badL 8 (l.h ++ l.l)[i] with
            | false => rfl
            | true =>
              exfalso
              apply h4
              have : anyB (badL 8) (l.h ++ l.l) = true := by
                unfold anyB
                exact List.any_eq_true.2 ⟨_, List.getElem_mem hi, e⟩
              simpa [anyB] using this
          unfold badL at hb
          simp at hb
          omega
end Go.Proofs.YtoglgeaiiipchabGreatDoor

namespace Go.Proofs.YtoglgeaiiipchabGreatDoor
open Go Go.RowKit Go.Shelf
def holdsV (f : List Nd) (l : La) : Bool := if ckT f l = 0 then gB (tableOf l f) (f.length - 1) 0 else false
theorem ckT_F {f : List Nd} {l : La} (h : ckT f l = 0) : ckF f = 0 ∧ ckL l 8 = 0 := by
  unfold ckT at h
  split at h
  · exact ⟨by assumption, h⟩
  · rename_i h1; exact absurd h h1
theorem ckT_lim {f : List Nd} {l : La} (h : ckT f l = 0) : 0 < f.length ∧ f.length ≤ 12 ∧ l.n ≤ 8000 ∧ 0 < l.n ∧ l.h.length < l.n := by
  obtain ⟨h1, h2⟩ := ckT_F h
  have a := ckF_ok h1
  have b := okLetters h2
  unfold La.n
  omega
end Go.Proofs.YtoglgeaiiipchabGreatDoor

namespace Go.Proofs.YtoglgeaiiipchabGreatDoor
open Go Go.RowKit Go.Shelf
attribute [local go_sem] Oper.semAt_some
end Go.Proofs.YtoglgeaiiipchabGreatDoor
namespace Go.Proofs.YtoglgeaiiipchabGreatDoor
open Go Go.RowKit Go.Shelf
attribute [local go_sem] Oper.semAt_some
end Go.Proofs.YtoglgeaiiipchabGreatDoor

namespace Go.Proofs.YtoglgeaiiipchabGreatDoor
open Go Go.RowKit Go.Maps Go.Shelf
def nxt (row : List Int) (back p : Nat) : Nat := if p + 1 = row.length then back else p + 1
variable {lo F M T : Nat} {w W W' : World} {fv v : Value} {L left : List (Int × Nat)}
end Go.Proofs.YtoglgeaiiipchabGreatDoor
namespace Go.Proofs.YtoglgeaiiipchabGreatDoor
open Go Go.RowKit Go.Maps Go.Shelf
attribute [local go_sem] Oper.semAt_some
end Go.Proofs.YtoglgeaiiipchabGreatDoor

namespace Go.Proofs.YtoglgeaiiipchabGreatDoor
open Go Go.RowKit Go.Sort
end Go.Proofs.YtoglgeaiiipchabGreatDoor
namespace Go.Proofs.YtoglgeaiiipchabGreatDoor
open Go Go.RowKit Go.Sort
end Go.Proofs.YtoglgeaiiipchabGreatDoor
namespace Go.Proofs.YtoglgeaiiipchabGreatDoor
open Go Go.RowKit Go.Sort
end Go.Proofs.YtoglgeaiiipchabGreatDoor

namespace Go.Proofs.YtoglgeaiiipchabGreatDoor
open Go Go.RowKit Go.Maps
end Go.Proofs.YtoglgeaiiipchabGreatDoor

namespace Go.Proofs.YtoglgeaiiipchabGreatDoor
end Go.Proofs.YtoglgeaiiipchabGreatDoor
namespace Go.Proofs.YtoglgeaiiipchabGreatDoor
end Go.Proofs.YtoglgeaiiipchabGreatDoor

namespace Go.Proofs.YtoglgeaiiipchabGreatDoor
open Go Go.RowKit
end Go.Proofs.YtoglgeaiiipchabGreatDoor

namespace Go.Proofs.YtoglgeaiiipchabGreatDoor
open Go Go.RowKit Go.Shelf
end Go.Proofs.YtoglgeaiiipchabGreatDoor
namespace Go.Proofs.YtoglgeaiiipchabGreatDoor
open Go Go.RowKit Go.Shelf
end Go.Proofs.YtoglgeaiiipchabGreatDoor

namespace Go.Proofs.YtoglgeaiiipchabGreatDoor
open Go Go.RowKit Go.Shelf
theorem ckL_ne {l : La} {letters : Int} (h : ckL l letters = 0) : l.l.length ≠ 0 := by
  unfold ckL at h
  split at h
  · simp at h
  · split at h
    · simp at h
    · split at h
      · simp at h
      · assumption
end Go.Proofs.YtoglgeaiiipchabGreatDoor

namespace Go.Proofs.YtoglgeaiiipchabGreatDoor
open Go Go.RowKit Go.Shelf Go.Sort
theorem at_loop {l : La} (hp : 0 < l.l.length) (i : Nat) : l.at (l.h.length + i) = l.l.getD (i % l.l.length) 0 := by
  unfold La.at
  rw [if_neg (by omega), show l.h.length + i - l.h.length = i by omega]
end Go.Proofs.YtoglgeaiiipchabGreatDoor

namespace Go.Proofs.YtoglgeaiiipchabGreatDoor
open Go Go.RowKit Go.Shelf Go.Sort
def lenOf : Value → Nat | .slice _ k _ => k | _ => 0
end Go.Proofs.YtoglgeaiiipchabGreatDoor

namespace Go.Proofs.YtoglgeaiiipchabGreatDoor
open Go Go.RowKit Go.Maps
def taErr (a : Au) (l : La) : Int := if ckA a = 0 then ckL l a.le else ckA a
noncomputable def tkB (a : Au) (l : La) : Bool := taErr a l == 0 && takesB a l.at
end Go.Proofs.YtoglgeaiiipchabGreatDoor

namespace Go.Proofs.YtoglgeaiiipchabGreatDoor
open Go Go.RowKit Go.Maps Go.Shelf Go.Sort
theorem ckL_let {l : La} {letters : Int} (h : ckL l letters = 0) : ∀ m, 0 ≤ l.at m ∧ l.at m < letters := by
  have hne := ckL_ne h
  have hb : anyB (badL letters) l.h = false ∧ anyB (badL letters) l.l = false := by
    unfold ckL at h
    split at h
    · simp at h
    · split at h
      · simp at h
      · split at h
        · simp at h
        · rename_i h5
          simpa using h5
  have hx : ∀ xs : List Int, anyB (badL letters) xs = false → ∀ k, k < xs.length → 0 ≤ xs.getD k 0 ∧ xs.getD k 0 < letters := fun xs hxs k hk => by
    unfold anyB at hxs
    rw [List.any_eq_false] at hxs
    have := hxs xs[k] (List.getElem_mem hk)
    rw [List.getD_eq_getElem?_getD, List.getElem?_eq_getElem hk]
    unfold badL at this
    simp at this ⊢
    omega
  intro m
  unfold La.at
  split
  · rename_i hm
    exact hx _ hb.1 _ hm
  · exact hx _ hb.2 _ (Nat.mod_lt _ (by omega))
theorem raw_holds {f : List Nd} {r : Au} (hS : RawS f r) (h0 : ckF f = 0) (l : La) : tkB r l = holdsV f l ∧ taErr r l = ckT f l := by
  have h1 : taErr r l = ckL l 8 := by unfold taErr; rw [if_pos hS.ok, hS.le]
  have h2 : ckT f l = ckL l 8 := by unfold ckT; rw [if_pos h0]
  refine ⟨?_, by rw [h1, h2]⟩
  unfold tkB holdsV
  rw [h1, h2]
  by_cases hl : ckL l 8 = 0
  · have hf := ckF_zero.1 h0
    have hp : 0 < l.l.length := by have := ckL_ne hl; omega
    have hs := table_sem hp hf (f.length - 1) (by have := hf.pos; omega) 0 f.length (by have := hf.pos; omega)
    have hn : 0 < l.n := by unfold La.n; omega
    rw [plc_self hn] at hs
    have ht := hS.takes l.at (ckL_let hl)
    have hb := takesB_iff (a := r) (u := l.at)
    rw [hl, if_pos rfl]
    show (true && takesB r l.at) = gB (rowsOf l f f.length) (f.length - 1) 0
    rw [Bool.true_and]
    cases hx : takesB r l.at <;> cases hy : gB (rowsOf l f f.length) (f.length - 1) 0 <;> simp_all
  · rw [if_neg hl]
    simp [hl]
end Go.Proofs.YtoglgeaiiipchabGreatDoor

namespace Go.Proofs.YtoglgeaiiipchabGreatDoor
open Go Go.RowKit Go.Shelf
theorem opposite_ (k : Int) (w : World) : Calls Tryz.prog 114 #[.int .i64 k] w fun e w' => e = .returned (.int .i64 (opp k)) ∧ Below w.heap.size w w' := by
  go_enter Tryz.func114, Tryz.ntmps114
  by_cases h4 : k = 4
  · subst h4; go_wp2; go_ret; exact ⟨rfl, Below.refl _ _⟩
  · by_cases h5 : k = 5
    · subst h5; go_wp2; go_ret; exact ⟨rfl, Below.refl _ _⟩
    · by_cases h7 : k = 7
      · subst h7; go_wp2; go_ret; exact ⟨rfl, Below.refl _ _⟩
      · by_cases h8 : k = 8
        · subst h8; go_wp2; go_ret; exact ⟨rfl, Below.refl _ _⟩
        · have HP : Hid (opp k = k) := by unfold Hid opp; rw [if_neg h4, if_neg h5, if_neg h7, if_neg h8]
          have k4 : (k == 4) = false := by simp [h4]
          have k5 : (k == 5) = false := by simp [h5]
          have k7 : (k == 7) = false := by simp [h7]
          have k8 : (k == 8) = false := by simp [h8]
          clear h4 h5 h7 h8
          go_wp2
          go_ret
          exact ⟨ret_int HP.out.symm, Below.refl _ _⟩
end Go.Proofs.YtoglgeaiiipchabGreatDoor

namespace Go.Proofs.YtoglgeaiiipchabGreatDoor
open Go Go.RowKit Go.Sort
def sb (bs : List UInt8) : ByteArray := ⟨bs.toArray⟩
theorem sb_size (a : List UInt8) : (sb a).size = a.length := by simp [sb, ByteArray.size]
end Go.Proofs.YtoglgeaiiipchabGreatDoor

namespace Go.Proofs.YtoglgeaiiipchabGreatDoor
open Go Go.RowKit Go.Sort
structure NdOk (x : Nd) (i : Int) : Prop where
  k1 : 1 ≤ x.k
  k8 : x.k ≤ 8
  a : nmA x.k = true → 0 ≤ x.a ∧ x.a < i
  b : nmB x.k = true → 0 ≤ x.b ∧ x.b < i
  n : x.k = 2 → 0 ≤ x.n ∧ x.n ≤ 2
theorem nd_ok {x : Nd} {i : Int} (h : ndErr x i = 0) : NdOk x i := by
  unfold ndErr at h
  split at h
  · cases h
  · rename_i h1
    split at h
    · cases h
    · rename_i h2
      split at h
      · cases h
      · rename_i h3
        simp only [Bool.not_eq_false, btw_iff] at h1
        refine ⟨h1.1, h1.2, fun hA => ?_, fun hB => ?_, fun hN => ?_⟩
        · have : btw x.a 0 (i - 1) = true := by
            cases hb : btw x.a 0 (i - 1) with
            | true => rfl
            | false => exact absurd (by simp [hA, hb]) h2
          have := (btw_iff _ _ _).1 this
          omega
        · have : btw x.b 0 (i - 1) = true := by
            cases hb : btw x.b 0 (i - 1) with
            | true => rfl
            | false => exact absurd (by simp [hB, hb]) h2
          have := (btw_iff _ _ _).1 this
          omega
        · have : btw x.n 0 2 = true := by
            cases hb : btw x.n 0 2 with
            | true => rfl
            | false => exact absurd (by simp [nmN, hN, hb]) h3
          have := (btw_iff _ _ _).1 this
          omega
theorem treeAt_eq {f : List Nd} {i : Nat} (h : i < f.length) (x : Nd) (hx : f[i] = x) : treeAt f i = treeN (treesOf f i) x := by
  unfold treeAt
  rw [List.getD_eq_getElem?_getD, List.getElem?_eq_getElem h, hx]
  rfl
theorem kid {f : List Nd} {i : Nat} {a : Int} (h : 0 ≤ a ∧ a < i) : (treesOf f i).getD a.toNat .tt = treeAt f a.toNat := treesOf_get f i _ (by omega)
theorem show_len {f : List Nd} (ho : FmOK f) : ∀ (i : Nat), i < f.length → (treeAt f i).show.length + 5 ≤ 6 * 2 ^ (i + 1) := by
  intro i
  induction i using Nat.strongRecOn with
  | _ i ih =>
    intro hi
    have hok := nd_ok (ho.nd i hi)
    rw [treeAt_eq hi _ rfl]
    generalize f[i] = x at *
    obtain ⟨h1, h8, ha, hb, hn⟩ := hok
    have mono : ∀ j, j < i → 2 ^ (j + 1) ≤ 2 ^ i := fun j hj => Nat.pow_le_pow_right (by decide) hj
    have e2 : 2 ^ (i + 1) = 2 * 2 ^ i := by rw [Nat.pow_succ, Nat.mul_comm]
    have h0 : 1 ≤ 2 ^ i := Nat.one_le_two_pow
    unfold treeN
    split
    · simp [Fm.show]; omega
    · split
      · simp [Fm.show]; omega
      · split
        · rename_i hk
          have hA := ha (by rw [hk]; decide)
          rw [kid hA]
          have h3 := ih x.a.toNat (by omega) (by omega)
          have h4 := mono x.a.toNat (by omega)
          simp only [Fm.show, List.length_cons]
          omega
        · split
          · rename_i hk
            have hA := ha (by rw [hk]; decide)
            rw [kid hA]
            have h3 := ih x.a.toNat (by omega) (by omega)
            have h4 := mono x.a.toNat (by omega)
            simp only [Fm.show, List.length_cons]
            omega
          · rename_i k1 k2 k3 k6
            have hk : x.k = 4 ∨ x.k = 5 ∨ x.k = 7 ∨ x.k = 8 := by omega
            have hA := ha (by rcases hk with h | h | h | h <;> rw [h] <;> decide)
            have hB := hb (by rcases hk with h | h | h | h <;> rw [h] <;> decide)
            rw [kid hA, kid hB]
            have h3 := ih x.a.toNat (by omega) (by omega)
            have h4 := mono x.a.toNat (by omega)
            have h5 := ih x.b.toNat (by omega) (by omega)
            have h6 := mono x.b.toNat (by omega)
            simp only [Fm.show, List.length_cons, List.length_append, List.length_nil]
            omega
end Go.Proofs.YtoglgeaiiipchabGreatDoor

namespace Go.Proofs.YtoglgeaiiipchabGreatDoor
open Go Go.RowKit
theorem infoNode : (Tryz.prog.info? 90).map (fun i => (i.zero, i.size, i.bytes)) = some (some (.agg #[.int .i64 0, .int .i64 0, .int .i64 0, .int .i64 0]), 4, 32) := by kernel_rfl
theorem step_appRun {P : Program} {w w' : World} {ops : Array Oper} {o : Oper} {a : Act} {K : Act → World → Prop} {Q : Exit → Act → World → Prop} {E : Prop} (hgd : o.guard = none) (s x : Operand) (t tn : TypeId)
    (ho : o.op = .call { callee := .builtin .append, args := #[s, x], argTypes := #[t, tn] }) (v u r : Value) (hs : a.eval s = v) (hx : a.eval x = u)
    (hrun : (Builtin.append_ #[t, tn] o.type #[v, u]).run P w = .ok r w') (h : K (a.put o.dst r) w') :
    if Region.wanted o (yielded ops a.tmps) = true then Oper.wp P o a w K Q else E := by
  have hw : Region.wanted o (yielded ops a.tmps) = true := by simp [Region.wanted, hgd]
  rw [if_pos hw]
  unfold Oper.wp execOp
  simp only [ho, resolve, invoke, builtin, Sem.run_bind, Sem.run_pure, Result.andThen_ok, List.map_toArray, List.map_cons, List.map_nil, hs, hx, hrun]
  exact h
structure NOwn (base : Nat) (W0 : World) (row : Option Nat) (W : World) (v : Value) (o : List Nd) : Prop where
  own : W.ownsRow base 90 4 v o.length (o.flatMap Nd.cells)
  gr : W0.grownBy W row
  bl : ∀ k, v.ownBlock = some k → row = some k ∨ W0.heap.size ≤ k
section
variable {base : Nat} {W0 W W' : World} {row : Option Nat} {v : Value} {o : List Nd}
theorem NOwn.form (h : NOwn base W0 row W v o) (hl : o.length ≤ 1000000) : ∃ A c, v = .slice A o.length c ∧ Nds W base A c o := SlE.of_own h.own (by omega)
theorem NOwn.below (h : NOwn base W0 row W v o) (hb : Below W.heap.size W W') : NOwn base W0 row W' v o :=
  ⟨own_below h.own hb, h.gr.trans ⟨hb.os, hb.tape, hb.output, hb.size, fun k hk _ => hb.block k hk⟩, h.bl⟩
theorem NOwn.alloc (h : NOwn base W0 row W v o) (x : Obj) : NOwn base W0 row (W.alloc x) v o := h.below ((Below.refl _ _).alloc (Nat.le_refl _) _)
theorem NOwn.refl (h : W.ownsRow base 90 4 v o.length (o.flatMap Nd.cells)) : NOwn base W v.ownBlock W v o := ⟨h, World.grownBy.refl _ _, fun _ hk => .inl hk⟩
theorem NOwn.cell (h : NOwn base W0 row W v o) {a : Addr} {u : Value} (hc : W0.cell? a = some u) (hne : some a.block ≠ row) : W.cell? a = some u := h.gr.cell hc hne
theorem NOwn.belowB {B : Nat} {w : World} (h : NOwn base W0 row W v o) (hb : Below B w W0) (hB : B ≤ W0.heap.size) (hrow : ∀ k, row = some k → B ≤ k) : Below B w W := hb.grown h.gr hB hrow
def NTo (base : Nat) (o' : List Nd) (v : Value) (W : World) (e : Ending) (w' : World) : Prop := ∃ v', e = .returned v' ∧ NOwn base W v.ownBlock w' v' o'
theorem NOwn.call {o' : List Nd} {v' : Value} (h : NOwn base W0 row W v o) (hc : NOwn base W v.ownBlock W' v' o') : NOwn base W0 row W' v' o' := by
  refine ⟨hc.own, h.gr.andThen hc.gr (fun j hj => ?_), fun k hk => ?_⟩
  · rcases h.bl j hj with h1 | h1
    · exact .inr h1
    · exact .inl h1
  · rcases hc.bl k hk with h1 | h1
    · exact h.bl k h1
    · exact .inr (Nat.le_trans h.gr.size h1)
theorem NOwn.app (h : NOwn base W0 row W v o) (x : Nd) (hl : o.length ≤ 1000000) (hb : base ≤ W.heap.size) :
    ∃ T c w', (Builtin.append_ #[48, 48] 48 #[v, .slice (some ⟨W.heap.size, 0, none⟩) 1 1]).run Tryz.prog (W.alloc (.cells #[.int .i64 x.k, .int .i64 x.a, .int .i64 x.b, .int .i64 x.n] 90)) = .ok (.slice T (o.length + 1) c) w' ∧
      NOwn base W0 row w' (.slice T (o.length + 1) c) (o ++ [x]) ∧ W.grownBy w' v.ownBlock := by
  obtain ⟨i0, hi0, hz0, hz1, hz2⟩ := info_parts infoNode
  have ha := h.alloc (.cells #[.int .i64 x.k, .int .i64 x.a, .int .i64 x.b, .int .i64 x.n] 90)
  obtain ⟨v', w', hrun, h2, h3, h4⟩ := run_app (P := Tryz.prog) (W.alloc (.cells #[.int .i64 x.k, .int .i64 x.a, .int .i64 x.b, .int .i64 x.n] 90)) base 48 48 90 i0 _ 4 32 Tryz.underlying48 hi0 hz0 hz1 hz2 rfl (by decide)
    v o.length _ ha.own (some ⟨W.heap.size, 0, none⟩) 1 1 x.cells rfl (fun _ => ⟨_, 0, rfl, Nat.zero_le _, by simp, fun j u hu => by
      have h : (W.alloc (Obj.cells #[.int .i64 x.k, .int .i64 x.a, .int .i64 x.b, .int .i64 x.n] 90)).heap[W.heap.size]? = some (Obj.cells #[.int .i64 x.k, .int .i64 x.a, .int .i64 x.b, .int .i64 x.n] 90) := by
        show (W.heap.push _)[W.heap.size]? = _
        simp
      simp only [World.cell?, h, Nat.zero_add]
      simpa [Nd.cells] using hu⟩)
    (by intro u hu; simp only [Nd.cells, List.mem_cons, List.not_mem_nil, or_false] at hu; rcases hu with rfl | rfl | rfl | rfl <;> rfl)
    (by simp only [maxLen]; omega) (by omega) (by simp; omega)
  have hown : w'.ownsRow base 90 4 v' (o ++ [x]).length ((o ++ [x]).flatMap Nd.cells) := by simpa using h2
  obtain ⟨T, c, hv, _⟩ := own_form hown
  rw [show (o ++ [x]).length = o.length + 1 by simp] at hv
  subst hv
  have hg : W.grownBy w' v.ownBlock := (World.grownBy_alloc W _ _).trans h3
  have hbl : ∀ k, (Value.slice T (o.length + 1) c).ownBlock = some k → v.ownBlock = some k ∨ W.heap.size ≤ k := by
    intro k hk
    rcases h4 with h4 | h4
    · exact .inl (h4 ▸ hk)
    · rw [h4] at hk
      simp at hk
      exact .inr (by omega)
  exact ⟨T, c, w', hrun, h.call ⟨hown, hg, hbl⟩, hg⟩
end
end Go.Proofs.YtoglgeaiiipchabGreatDoor
