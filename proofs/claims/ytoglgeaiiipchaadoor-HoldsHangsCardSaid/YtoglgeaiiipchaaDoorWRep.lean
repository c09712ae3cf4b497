/- Walks: math/bits.Mul of small numbers, slices.Repeat of one bool. -/
import Derived.Test.YtoglgeaiiipchaaDoorTy
import Derived.Laws.CopyOwn
import Derived.Laws.MathBits
import Derived.Deep.RegionLaw
namespace Go.Proofs.YtoglgeaiiipchaaDoor
open Go Go.RowKit

set_option maxRecDepth 100000 in
theorem bitsMul1_ (n : Nat) (w : World) (hn : n < 4294967296) :
    Calls Tryd.prog 65 #[.int .u64 1, .int .u64 n] w fun e w' => e = .returned (.tuple #[.int .u64 0, .int .u64 n]) ∧ w = w' := by
  have e1 : bits .and .u64 1 4294967295 = 1 := by rw [and_low32 _ (by omega) (by omega)]; rfl
  have e2 : bits .and .u64 (n : Int) 4294967295 = n := by rw [and_low32 _ (by omega) (by omega)]; omega
  have e3 : (n : Int) / 4294967296 = 0 := by omega
  have e4 : bits .and .u64 0 4294967295 = 0 := by rw [and_low32 _ (by omega) (by omega)]; rfl
  have e5 : IntKind.u64.wrap (n : Int) = n := by rw [IntKind.wrap_u64]; omega
  go_enter Tryd.func65, Tryd.ntmps65
  go_wp2
  go_ret2
  simp [e1, e2, e3, e4, e5]

theorem rep_snoc (n m : Nat) (b : Bool) (k : Nat) (hk : k ≤ m) (hn : m + k ≤ n) :
    splice (List.replicate m (Value.bool b) ++ List.replicate (n - m) (Value.bool false)) m (List.replicate k (Value.bool b)) = List.replicate (m + k) (Value.bool b) ++ List.replicate (n - (m + k)) (Value.bool false) := by
  unfold splice
  rw [List.take_left' (by simp), List.drop_append, List.drop_eq_nil_of_le (by simp)]
  simp [List.replicate_append_replicate, ← List.append_assoc]
  omega

theorem rep_one (n : Nat) (b : Bool) (h : 1 ≤ n) : splice (List.replicate n (Value.bool false)) 0 [Value.bool b] = List.replicate 1 (Value.bool b) ++ List.replicate (n - 1) (Value.bool false) := by
  unfold splice
  simp
theorem sizeBool : (Tryd.prog.info? 4).map (·.size) = some 1 := by kernel_rfl
/-- the made row, filled up to a place -/
def RepRow (b : Bool) (n : Nat) (t : TypeId) (g m : Nat) (w : World) : Prop :=
  w.heap[g]? = some (.cells (List.replicate m (Value.bool b) ++ List.replicate (n - m) (Value.bool false)).toArray t (0, 0))

set_option maxRecDepth 100000 in
set_option maxHeartbeats 400000 in
theorem RepeatB_ (b : Bool) (B : Nat) (off c n : Nat) (w : World) (hx : w.cell? ⟨B, off, none⟩ = some (.bool b)) (hB : B < w.heap.size) (h1 : 1 ≤ n) (h2 : n ≤ 1000000) :
    Calls Tryd.prog 63 #[.slice (some ⟨B, off, none⟩) 1 c, .int .i64 n] w fun e w' => ∃ g, e = .returned (.slice (some ⟨g, 0, none⟩) n n) ∧ w.heap.size ≤ g ∧
      w'.heap[g]? = some (.cells (List.replicate n (Value.bool b)).toArray 4 (0, 0)) ∧ Below w.heap.size w w' := by
  obtain ⟨i0, hi0, hz0, hz1, hz2⟩ := info_parts infoBool
  have e5 : IntKind.u64.wrap (n : Int) = n := by rw [IntKind.wrap_u64]; omega
  have hmk := run_make (P := Tryd.prog) w 46 4 i0 _ Tryd.underlying46 hi0 hz0 .i64 .i64 n n (by omega) (by omega) (by rw [hz2]; omega) (by omega)
  simp only [Int.toNat_natCast] at hmk
  go_enter Tryd.func63, Tryd.ntmps63
  go_wp2_with fail
  refine (bitsMul1_ n _ (by omega)).mono ?_
  rintro e w' ⟨rfl, rfl⟩
  have hg0 : (w.alloc (Obj.cells (madeCells #[Value.bool false] n) 4)).heap[w.heap.size]? = some (.cells (List.replicate n (Value.bool false)).toArray 4 (0, 0)) := by
    rw [heap_alloc_new]
    rw [← toList_madeCells_one]
  have hb0 : Below w.heap.size w (w.alloc (Obj.cells (madeCells #[Value.bool false] n) 4)) := (Below.refl _ _).alloc (Nat.le_refl _) _
  have HG0 := Lib.hid hg0
  have HB0 := Lib.hid hb0
  clear hg0 hb0
  go_wp2_with (with_reducible refine wpList_copy_splice rfl (.tmp 31) (.tmp 32) 46 46 rfl 4 Tryd.underlying46 (by kernel_rfl) _ _ _ _ _ _ rfl rfl w.heap.size 0 _ _ HG0.out [Value.bool b] (by simp [Nat.min_def]; omega) ?hp (by simp; omega) (by simp [Value.oneCell']) w.heap.size w HB0.out (Nat.le_refl _) ?_)
  case hp =>
    intro j v hj
    match j, hj with
    | 0, hj => simp at hj; subst hj; simpa using hx
    | j + 1, hj => simp at hj
  intro w2 HG2 hB2
  have HB2 := Lib.hid hB2
  have hz2 : w.heap.size < w2.heap.size := by
    have := hB2.size
    rcases Nat.lt_or_ge w.heap.size w2.heap.size with h | h
    · exact h
    · have h3 := HG2.out
      rw [Array.getElem?_eq_none h] at h3
      cases h3
  rw [rep_one n b h1] at HG2
  clear hB2 HG0 HB0
  go_wp2
  go_loopw [8] (fun i wr => ∃ m : Nat, 1 ≤ m ∧ m ≤ n ∧ i = .int .i64 m ∧ RepRow b n 4 w.heap.size m wr ∧ Below w.heap.size w wr) (fun i _ => n - (intOf i).toNat)
  case atStart => exact ⟨1, by omega, h1, rfl, HG2.out, HB2.out⟩
  case round =>
    obtain ⟨m, hm1, hm2, rfl, hrow, hb⟩ := hrel
    by_cases hlt : m < n
    · obtain ⟨k, hk1, hk2, hk3, hk4⟩ : ∃ k, 1 ≤ k ∧ k ≤ m ∧ m + k ≤ n ∧ k = Nat.min m (n - m) := ⟨Nat.min m (n - m), by simp [Nat.min_def]; split <;> omega, by simp [Nat.min_def]; split <;> omega, by simp [Nat.min_def]; split <;> omega, rfl⟩
      have HK := Lib.hid hk4
      clear hk4
      have HR := Lib.hid hrow
      clear hrow
      have hs1 : (List.replicate k (Value.bool b)).length = Nat.min m (n - m) := by simpa using HK.out
      have hs2 : m + (List.replicate k (Value.bool b)).length ≤ (List.replicate m (Value.bool b) ++ List.replicate (n - m) (Value.bool false)).length := by simp; omega
      have hs3 : ∀ v ∈ List.replicate k (Value.bool b), v.oneCell' = true := by intro v hv; rw [(List.mem_replicate.1 hv).2]; rfl
      have hs4 : ∀ j v, (List.replicate k (Value.bool b))[j]? = some v → wr.cell? ((⟨w.heap.size, 0, none⟩ : Addr).add j) = some v := by
        intro j v hj
        have hjk : j < k := by simpa using (List.getElem?_eq_some_iff.1 hj).1
        have hv : v = .bool b := by rw [List.getElem?_replicate, if_pos hjk] at hj; exact (Option.some.inj hj).symm
        have h := HR.out
        unfold RepRow at h
        have hx2 : (List.replicate m (Value.bool b) ++ List.replicate (n - m) (Value.bool false))[j]? = some (Value.bool b) := by
          rw [List.getElem?_append_left (by simp; omega), List.getElem?_replicate, if_pos (by omega)]
        rw [Addr_add_off, Nat.zero_add, hv]
        simp only [World.cell?, h, Option.isSome_none, Bool.false_eq_true, if_false, List.getElem?_toArray]
        exact hx2
      have hrd : wr.drew.heap[w.heap.size]? = some (.cells (List.replicate m (Value.bool b) ++ List.replicate (n - m) (Value.bool false)).toArray 4 (0, 0)) := HR.out
      have HRD := Lib.hid hrd
      clear hrd
      have HBD := Lib.hid hb.drew
      have H1 := Lib.hid hs1
      have H2 := Lib.hid hs2
      have H3 := Lib.hid hs3
      have hs4d : ∀ j v, (List.replicate k (Value.bool b))[j]? = some v → wr.drew.cell? ((⟨w.heap.size, 0, none⟩ : Addr).add j) = some v := hs4
      have H4D := Lib.hid hs4d
      clear hs1 hs2 hs3 hs4 hs4d
      go_wp2
      have hnm : ¬ n = m := by omega
      go_region_law ((refine step_copy_splice (P := Tryd.prog) (w := wr.drew) rfl (.tmp 41) (.tmp 44) 46 46 rfl 4 Tryd.underlying46 sizeBool (some ⟨w.heap.size, m, none⟩) (some ⟨w.heap.size, 0, none⟩) (n - m) (n - m) m n (by go_simp) (by go_simp) w.heap.size m (List.replicate m (Value.bool b) ++ List.replicate (n - m) (Value.bool false)) 4 HRD.out (List.replicate k (Value.bool b)) H1.out (fun _ => ⟨rfl, _, rfl, H4D.out⟩) H2.out H3.out w.heap.size w HBD.out (Nat.le_refl _) ?_; intro w4 hg4 hb4))
      have ew : IntKind.i64.wrap ((m : Int) + (k : Int)) = (m : Int) + (k : Int) := by rw [IntKind.wrap_i64]; omega
      go_simp
      clear ew
      go_wp2
      go_roundw
      case rel =>
        refine ⟨m + k, by omega, by omega, by go_num, ?_, hb4⟩
        have h := hg4.out
        rw [rep_snoc n m b k hk2 hk3] at h
        exact h
      case measure => simp [intOf]; omega
    · go_wp2
      go_ret
      obtain rfl : m = n := by omega
      refine ⟨_, rfl, Nat.le_refl _, ?_, hb⟩
      have := hrow
      unfold RepRow at this
      simpa using this
end Go.Proofs.YtoglgeaiiipchaaDoor
