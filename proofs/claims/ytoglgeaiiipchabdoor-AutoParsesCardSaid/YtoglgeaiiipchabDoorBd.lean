/- Walks: the library's contracts in this claim's words; what the laid variables hold. -/
import Derived.Test.YtoglgeaiiipchabDoorShelf
import Derived.Test.YtoglgeaiiipchabDoorAu
import Derived.Test.YtoglgeaiiipchabDoorPAA
import Derived.Lib.SmallJoins
import Derived.Lib.AppendIntMem
namespace Go.Proofs.YtoglgeaiiipchabDoor
open Go Go.RowKit

def sB (bs : List UInt8) : ByteArray := ⟨bs.toArray⟩
theorem sB_app (a b : List UInt8) : sB a ++ sB b = sB (a ++ b) := by
  apply ByteArray.ext
  simp [sB, ByteArray.data_append]
theorem sB_size (a : List UInt8) : (sB a).size = a.length := by simp [sB, ByteArray.size]
theorem sB_list (a : List UInt8) : (sB a).data.toList = a := by simp [sB]
theorem sB_eta (s : ByteArray) : s = sB s.data.toList := by apply ByteArray.ext; simp [sB]
/-- what the program's laid variables hold -/
structure LaidOK (W : World) : Prop where
  tab : Lib.TabIs Tryd.prog W "internal/strconv.uint64pow10" .u64 Lib.pow10Tab
  ml : ∃ m, W.cell? ⟨0, 0, none⟩ = some (.int .i64 m)
  es : ∃ ev, W.cell? ⟨2, 0, none⟩ = some ev ∧ (ev = .nilIface ∨ ∃ te pe, ev = .iface te pe)
  er : ∃ ev, W.cell? ⟨3, 0, none⟩ = some ev ∧ (ev = .nilIface ∨ ∃ te pe, ev = .iface te pe)
theorem LaidOK.below {W W' : World} {n : Nat} (h : LaidOK W) (hb : Below n W W') (hn : W.heap.size ≤ n) : LaidOK W' := by
  obtain ⟨h1, ⟨m, h2⟩, ⟨e1, h3, h4⟩, ⟨e2, h5, h6⟩⟩ := h
  refine ⟨Go.Joins.tab_stays (g := 1) (by kernel_rfl) h1 hb hn, ⟨m, (hb.cell (p := ⟨0, 0, none⟩) ?_).trans h2⟩, ⟨e1, (hb.cell (p := ⟨2, 0, none⟩) ?_).trans h3, h4⟩, ⟨e2, (hb.cell (p := ⟨3, 0, none⟩) ?_).trans h5, h6⟩⟩
  · exact Nat.lt_of_lt_of_le (World.block_lt_of_cell? _ _ h2) hn
  · exact Nat.lt_of_lt_of_le (World.block_lt_of_cell? _ _ h3) hn
  · exact Nat.lt_of_lt_of_le (World.block_lt_of_cell? _ _ h5) hn
theorem ItoaI_ (n : Int) (h0 : -9223372036854775808 ≤ n) (h1 : n ≤ 9223372036854775807) (w : World) (hL : LaidOK w) : Calls Tryd.prog 18 #[.int .i64 n] w fun e w' => e = .returned (.string (sB (Lib.itoa n))) ∧ Below w.heap.size w w' :=
  (Tryd.strconv_Itoa n h0 h1 w hL.tab).mono fun e w' ⟨he, k, os, hw⟩ => ⟨he, by rw [hw]; exact Lib.below_grow _ _ (Nat.le_refl _) _ _⟩
theorem ItoaN_ (n : Int) (h0 : 0 ≤ n) (h1 : n ≤ 999999) (w : World) (hL : LaidOK w) : Calls Tryd.prog 18 #[.int .i64 n] w fun e w' => e = .returned (.string (sB (dn n))) ∧ Below w.heap.size w w' := by
  have := ItoaI_ n (by omega) (by omega) w hL
  rwa [show Lib.itoa n = dn n by unfold Lib.itoa dn; rw [if_neg (by omega)]] at this
theorem WriteString_ (B b : Nat) (bs : List UInt8) (s : ByteArray) (w : World) (h : Lib.IsBuilder 46 5 B b (Lib.byteCells bs) w) (hlen : bs.length + s.size ≤ 140737488355328) (hBw : B ≤ w.heap.size) :
    Calls Tryd.prog 17 #[.pointer (some ⟨b, 0, none⟩), .string s] w fun e w' => e = .returned (.tuple #[.int .i64 s.size, .nilIface]) ∧ Lib.IsBuilder 46 5 B b (Lib.byteCells (bs ++ s.data.toList)) w' ∧ Below B w w' :=
  (Any.Builder_WriteString { Tryd.lays156 with } Tryd.Builder_Extra_156 B b (Lib.byteCells bs) s w h (by rw [Lib.byteCells_length]; exact hlen) hBw).mono fun e w' ⟨he, hb, hw⟩ => ⟨he, .inr (by rw [Lib.byteCells_append]; exact hb), hw⟩
theorem StringOf_ (B b : Nat) (l : List UInt8) (w : World) (h : Lib.IsBuilder 46 5 B b (Lib.byteCells l) w) (hBw : B ≤ w.heap.size) :
    Calls Tryd.prog 20 #[.pointer (some ⟨b, 0, none⟩)] w fun e w' => e = .returned (.string (sB l)) ∧ Below B w w' := Tryd.Builder_String_any B b l w h hBw
theorem CutS_ (s sep : List UInt8) (w : World) (hL : LaidOK w) (hs : s.length ≤ 1000000) :
    Calls Tryd.prog 32 #[.string (sB s), .string (sB sep)] w fun e w' => e = .returned (.tuple #[.string (sB (Lib.cut s sep).1), .string (sB (Lib.cut s sep).2.1), .bool (Lib.cut s sep).2.2]) ∧ Below w.heap.size w w' := by
  obtain ⟨m, hm⟩ := hL.ml
  have := Tryd.strings_Cut (sB s) (sB sep) m w (by rw [sB_size]; omega) hm
  simp only [sB_list] at this
  exact this.mono fun e w' ⟨he, k, hw⟩ => ⟨he, by rw [hw]; exact below_drewN (Below.refl _ _) k⟩
theorem CutPre_ (s p : List UInt8) (w : World) :
    Calls Tryd.prog 60 #[.string (sB s), .string (sB p)] w fun e w' => e = .returned (.tuple #[.string (sB (Lib.trimPrefix s p)), .bool (Lib.hasPrefix s p)]) ∧ w' = w := by
  have := Tryd.strings_CutPrefix (sB s) (sB p) w
  simp only [sB_list] at this
  exact this
/-- cutting at one sign, as the library tells it -/
theorem cut_none {s : List UInt8} {c : UInt8} (h : ∀ x ∈ s, x ≠ c) : Lib.cut s [c] = (s, [], false) := by
  have : Lib.index s [c] = -1 := Lib.index_none fun j hj => by
    cases ho : Lib.occAt s [c] j with
    | false => rfl
    | true =>
      have := Lib.occAt_head (c := c) (t := []) rfl ho
      obtain ⟨h1, h2⟩ := List.getElem?_eq_some_iff.1 this
      exact absurd h2 (h _ (List.getElem_mem h1))
  unfold Lib.cut
  rw [if_neg (by omega)]
theorem index_at {p r : List UInt8} {c : UInt8} (h : ∀ x ∈ p, x ≠ c) : Lib.index (p ++ c :: r) [c] = p.length := by
  refine Lib.index_first (by simp) ?_ ?_
  · rw [Lib.occAt_iff_take _ _ _ (by simp)]
    simp
  · intro j hj
    cases ho : Lib.occAt (p ++ c :: r) [c] j with
    | false => rfl
    | true =>
      have := Lib.occAt_head (c := c) (t := []) rfl ho
      rw [List.getElem?_append_left hj] at this
      obtain ⟨h1, h2⟩ := List.getElem?_eq_some_iff.1 this
      exact absurd h2 (h _ (List.getElem_mem h1))
theorem cut_at {p r : List UInt8} {c : UInt8} (h : ∀ x ∈ p, x ≠ c) : Lib.cut (p ++ c :: r) [c] = (p, r, true) := by
  unfold Lib.cut
  rw [index_at h, if_pos (by omega)]
  simp
end Go.Proofs.YtoglgeaiiipchabDoor
