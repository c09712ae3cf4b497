/- Walks: a formula's text: digits, signs, show. -/
import Derived.Test.YtoglgeaiiipchaaDoorPSem
import Derived.Test.YtoglgeaiiipchaaDoorApp
import Derived.Test.YtoglgeaiiipchaaDoorQB
import Derived.Test.YtoglgeaiiipchaaDoorProg
import Derived.Maps.OwnSet
import Derived.Maps.Keyed
namespace Go.Proofs.YtoglgeaiiipchaaDoor
open Go Go.RowKit Go.Sort

def sb (bs : List UInt8) : ByteArray := ⟨bs.toArray⟩
theorem sb_app (a b : List UInt8) : sb a ++ sb b = sb (a ++ b) := by
  apply ByteArray.ext
  simp [sb, ByteArray.data_append]
theorem sb_size (a : List UInt8) : (sb a).size = a.length := by simp [sb, ByteArray.size]
/-- what a small number is written as -/
def dgt (n : Nat) : List UInt8 := [UInt8.ofNat (48 + n)]
theorem Small_ (n : Nat) (hn : n ≤ 9) (w : World) : Calls Tryd.prog 66 #[.int .i64 n] w fun e w' => e = .returned (.string (sb (dgt n))) ∧ Below w.heap.size w w' := by
  go_enter Tryd.func66, Tryd.ntmps66
  have h : n = 0 ∨ n = 1 ∨ n = 2 ∨ n = 3 ∨ n = 4 ∨ n = 5 ∨ n = 6 ∨ n = 7 ∨ n = 8 ∨ n = 9 := by omega
  rcases h with rfl | rfl | rfl | rfl | rfl | rfl | rfl | rfl | rfl | rfl
  all_goals
    go_wp2_with fail
    go_ret
    exact ⟨by rfl, by go_grown⟩
theorem Itoa_ (n : Nat) (hn : n ≤ 9) (w : World) : Calls Tryd.prog 36 #[.int .i64 n] w fun e w' => e = .returned (.string (sb (dgt n))) ∧ Below w.heap.size w w' := by
  have h3 : Hid (∀ W, Calls Tryd.prog 64 #[.int .i64 n, .int .i64 10] W fun e w' => e = .returned (.string (sb (dgt n))) ∧ Below W.heap.size W w') := by
    intro W
    have h1 : (0 : Int) ≤ (n : Int) := by omega
    have h2 : (n : Int) < 100 := by omega
    go_enter Tryd.func64, Tryd.ntmps64
    go_wp2_with fail
    refine (Small_ n hn W).mono ?_
    rintro e w' ⟨rfl, hb⟩
    have HB := Lib.hid hb
    clear hb
    go_wp2_with fail
    go_ret
    exact ⟨rfl, HB.out⟩
  have h4 : Hid (∀ W, Calls Tryd.prog 57 #[.int .i64 n] W fun e w' => e = .returned (.string (sb (dgt n))) ∧ Below W.heap.size W w') := by
    intro W
    go_enter Tryd.func57, Tryd.ntmps57
    go_wp2_with fail
    refine (h3.out W).mono ?_
    rintro e w' ⟨rfl, hb⟩
    have HB := Lib.hid hb
    clear hb
    go_wp2_with fail
    go_ret
    exact ⟨rfl, HB.out⟩
  go_enter Tryd.func36, Tryd.ntmps36
  go_wp2_with fail
  refine (h4.out w).mono ?_
  rintro e w' ⟨rfl, hb⟩
  have HB := Lib.hid hb
  clear hb
  go_wp2_with fail
  go_ret
  exact ⟨rfl, HB.out⟩
/-- how a struct of one string reads -/
def oneStr (v : Value) : Option (DataW Unit × List MemPlace) :=
  match v with
  | .agg cs => (match cs.toList with | [.string s] => some (.lit (.string s.data.toList), []) | _ => none)
  | _ => none
theorem oneStr_inv {v : Value} {bs : List UInt8} {ps : List MemPlace} (h : oneStr v = some (.lit (.string bs), ps)) : v = .agg #[.string (sb bs)] := by
  unfold oneStr at h
  split at h
  · rename_i cs
    split at h
    · rename_i s hs
      simp at h
      obtain ⟨h1, _⟩ := h
      obtain ⟨cl⟩ := cs
      simp at hs
      subst hs
      rw [← h1]
      rfl
    · cases h
  · cases h
theorem sgKey (a : Int) (h : (Lit.int .i64 a).wf = true) : keyOf Tryd.prog 3 (.int .i64 a) = some (.int .i64 a) := Maps.keyOf_int_mk Tryd.underlying3 h
theorem sgZero (w : World) : (zeroValue 80).run Tryd.prog w = .ok (.agg #[.string (sb [])]) w := by kernel_rfl
theorem sgFld (s : ByteArray) (w : World) : (Instr.field 80 (.agg #[.string s]) 0).run Tryd.prog w = .ok (.string s) w := by kernel_rfl
set_option maxRecDepth 100000 in
theorem sign_ (k : Int) (hk : k = 4 ∨ k = 5 ∨ k = 7 ∨ k = 8) (w : World) : Calls Tryd.prog 37 #[.int .i64 k] w fun e w' => e = .returned (.string (sb [sgn k])) ∧ Below w.heap.size w w' := by
  have hmm := @run_makeMap Tryd.prog
  have hfl := sgFld
  have K := Maps.int_keyed (P := Tryd.prog) Tryd.underlying3
  have o0 : (w.alloc (.map #[] 0)).ownsMap Tryd.prog 3 oneStr w.heap.size 0 (.map []) := World.ownsMap_made _ _ _ _
  obtain ⟨w1, r1, o1, g1⟩ := o0.update K Tryd.underlying81 (by decide) (sgKey 4 (by decide)) (show oneStr (.agg #[.string ⟨#[38]⟩]) = some (.lit (.string [38]), []) from rfl)
  obtain ⟨w2, r2, o2, g2⟩ := o1.update K Tryd.underlying81 (by decide) (sgKey 5 (by decide)) (show oneStr (.agg #[.string ⟨#[124]⟩]) = some (.lit (.string [124]), []) from rfl)
  obtain ⟨w3, r3, o3, g3⟩ := o2.update K Tryd.underlying81 (by decide) (sgKey 7 (by decide)) (show oneStr (.agg #[.string ⟨#[85]⟩]) = some (.lit (.string [85]), []) from rfl)
  obtain ⟨w4, r4, o4, g4⟩ := o3.update K Tryd.underlying81 (by decide) (sgKey 8 (by decide)) (show oneStr (.agg #[.string ⟨#[82]⟩]) = some (.lit (.string [82]), []) from rfl)
  obtain ⟨v, ps, r5, hv⟩ := o4.lookup K Tryd.underlying81 (sgZero w4) (show oneStr (.agg #[.string ⟨#[]⟩]) = some (.lit (.string []), []) from rfl) (sgKey k (by rcases hk with rfl | rfl | rfl | rfl <;> decide))
  have hv2 : v = .agg #[.string (sb [sgn k])] := by
    refine oneStr_inv (ps := ps) (hv.trans ?_)
    rcases hk with rfl | rfl | rfl | rfl <;> rfl
  subst hv2
  have HB : Hid (Below w.heap.size w w4) := by
    have h0 : Below w.heap.size w (w.alloc (.map #[] 0)) := (Below.refl _ _).alloc (Nat.le_refl _) _
    have f : ∀ {A B : World}, Below w.heap.size w A → A.grownBy B (some w.heap.size) → Below w.heap.size w B := fun h g => h.grown g h.size (fun k e => by cases e; exact Nat.le_refl _)
    exact f (f (f (f h0 g1) g2) g3) g4
  clear hv o0 o1 o2 o3 o4 g1 g2 g3 g4 K
  go_enter Tryd.func37, Tryd.ntmps37
  go_wp2_with fail
  go_ret
  exact ⟨rfl, HB.out⟩
end Go.Proofs.YtoglgeaiiipchaaDoor
