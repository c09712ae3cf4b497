/- Walks: slices.IndexFunc, slices.ContainsFunc at []int over a known predicate. -/
import Derived.Test.YtoglgeaiiipchabDoorMeA
import Derived.Test.YtoglgeaiiipchabDoorProg
import Derived.Shelf.Abstract
namespace Go.Proofs.YtoglgeaiiipchabDoor
open Go Go.RowKit Go.Shelf

/-- a function value that answers a predicate of one number, whatever memory was made since -/
def PredV (P : Program) (g : FuncId) (caps : Array Value) (p : Int → Bool) (w : World) : Prop :=
  ∀ (n : Int) (W : World), Below w.heap.size w W → Calls P g (#[.int .i64 n] ++ caps) W fun e W' => e = .returned (.bool (p n)) ∧ Below W.heap.size W W'

theorem PredV.below {P : Program} {g : FuncId} {caps : Array Value} {p : Int → Bool} {w w' : World} (h : PredV P g caps p w) (hb : Below w.heap.size w w') : PredV P g caps p w' :=
  fun n W hW => h n W (hb.trans (hW.mono hb.size))

def anyB (p : Int → Bool) (xs : List Int) : Bool := xs.any p
def firstIx (p : Int → Bool) : List Int → Nat → Int
  | [], _ => -1
  | x :: r, i => if p x = true then i else firstIx p r (i + 1)
theorem firstIx_step {p : Int → Bool} {xs : List Int} {k : Nat} (hk : k < xs.length) : firstIx p (xs.drop k) k = if p xs[k] = true then (k : Int) else firstIx p (xs.drop (k + 1)) (k + 1) := by
  rw [List.drop_eq_getElem_cons hk]; rfl
theorem firstIx_end {p : Int → Bool} {xs : List Int} {k : Nat} (hk : xs.length ≤ k) : firstIx p (xs.drop k) k = -1 := by
  rw [List.drop_of_length_le hk]; rfl
theorem firstIx_any (p : Int → Bool) (xs : List Int) : ∀ i, decide (0 ≤ firstIx p xs i) = anyB p xs := by
  unfold anyB
  induction xs with
  | nil => intro i; rfl
  | cons x r ih =>
    intro i
    by_cases h : p x = true
    · simp [firstIx, h]
    · simp [firstIx, h, ih]

set_option maxRecDepth 100000 in
theorem IndexFuncI_ (A : Option Addr) (c : Nat) (xs : List Int) (g : FuncId) (caps : Array Value) (p : Int → Bool) (w : World) (hx : Ints w 0 A c xs) (hg : Enters Tryd.prog g) (hp : PredV Tryd.prog g caps p w) :
    Calls Tryd.prog 43 #[.slice A xs.length c, .func (.func g) #[] caps] w fun e w' => e = .returned (.int .i64 (firstIx p xs 0)) ∧ Below w.heap.size w w' := by
  have h1 := hx.le
  have h2 := hx.max
  have H := Lib.hid hp
  clear hp
  have hgr : ∀ (args : Array Value) (w : World), (callFunc g args).run Tryd.prog w = .ok (.enter g args) w := hg
  clear hg
  go_enter Tryd.func43, Tryd.ntmps43
  go_wp2
  go_loopw [8] (fun i wr => ∃ k : Nat, k ≤ xs.length ∧ i = .int .i64 k ∧ firstIx p xs 0 = firstIx p (xs.drop k) k ∧ Below w.heap.size w wr) (fun i _ => xs.length - (intOf i).toNat)
  case atStart => exact ⟨0, Nat.zero_le _, rfl, rfl, Below.refl _ _⟩
  case round =>
    obtain ⟨k, hk, rfl, hc, hb⟩ := hrel
    have HC := Lib.hid hc
    clear hc
    by_cases hlt : k < xs.length
    · obtain ⟨b, o, rfl, _, hbl, hc1⟩ := Ints.at_ (hx.below hb) hlt
      have hs := firstIx_step (p := p) hlt
      have HS := Lib.hid hs
      clear hs
      go_wp2_with fail
      refine (H.out _ _ hb).mono ?_; rintro e w1 ⟨rfl, hb1⟩
      go_wp2
      · have ht : p xs[k] = true := by assumption
        go_ret
        exact ⟨ret_int (by rw [HC.out, HS.out, if_pos ht]), Below_on hb hb1 hb.size⟩
      · have ht : p xs[k] = false := by assumption
        go_roundw
        case rel => exact ⟨k + 1, by omega, by go_num, by rw [HC.out, HS.out, if_neg (by simp [ht])], Below_on hb hb1 hb.size⟩
        case measure => simp [intOf]; omega
    · go_wp2
      go_ret
      exact ⟨ret_int (by rw [HC.out, firstIx_end (by omega)]), hb⟩

theorem ContainsFuncI_ (A : Option Addr) (c : Nat) (xs : List Int) (g : FuncId) (caps : Array Value) (p : Int → Bool) (w : World) (hx : Ints w 0 A c xs) (hg : Enters Tryd.prog g) (hp : PredV Tryd.prog g caps p w) :
    Calls Tryd.prog 29 #[.slice A xs.length c, .func (.func g) #[] caps] w fun e w' => e = .returned (.bool (anyB p xs)) ∧ Below w.heap.size w w' := by
  have H := Lib.hid (IndexFuncI_ A c xs g caps p w hx hg hp)
  have HF := Lib.hid (firstIx_any p xs 0)
  clear hx hp hg
  go_enter Tryd.func29, Tryd.ntmps29
  go_wp2_with fail
  refine H.out.mono ?_
  rintro e w1 ⟨rfl, hb1⟩
  go_wp2
  go_ret
  exact ⟨ret_bool HF.out, hb1⟩
end Go.Proofs.YtoglgeaiiipchabDoor
