/- Plain functions on formulas: what Check answers, without a program. -/
import Derived.Test.YtoglgeaiiipchaaDoorMem
namespace Go.Proofs.YtoglgeaiiipchaaDoor

def btw (n a b : Int) : Bool := decide (a ≤ n) && decide (n ≤ b)
theorem btw_iff (n a b : Int) : btw n a b = true ↔ (a ≤ n ∧ n ≤ b) := by simp [btw]
def nmA (k : Int) : Bool := btw k 3 8
def nmB (k : Int) : Bool := (k == 4) || (k == 5) || (k == 7) || (k == 8)
def nmN (k : Int) : Bool := k == 2
def isTmp (k : Int) : Bool := btw k 6 8
def cntT (f : List Nd) : Nat := (f.filter fun x => isTmp x.k).length
def tooMany (f : List Nd) : Bool := decide (12 < (f.length : Int)) || decide (4 < (cntT f : Int))
def ndErr (x : Nd) (i : Int) : Int :=
  if btw x.k 1 8 = false then 7
  else if (nmA x.k && !btw x.a 0 (i - 1) || nmB x.k && !btw x.b 0 (i - 1)) = true then 5
  else if (nmN x.k && !btw x.n 0 2) = true then 3
  else if (!nmA x.k && (x.a != 0) || (!nmB x.k && (x.b != 0) || !nmN x.k && (x.n != 0))) = true then 1
  else 0
def ckNds : List Nd → Nat → Int
  | [], _ => 0
  | x :: r, i => if ndErr x i = 0 then ckNds r (i + 1) else ndErr x i
def ckF (f : List Nd) : Int := if f.length = 0 then 1 else if tooMany f = true then 2 else ckNds f 0

theorem ckNds_step {f : List Nd} {k : Nat} (hk : k < f.length) : ckNds (f.drop k) k = if ndErr f[k] k = 0 then ckNds (f.drop (k + 1)) (k + 1) else ndErr f[k] k := by
  rw [List.drop_eq_getElem_cons hk]
  rfl
theorem ckNds_end {f : List Nd} {k : Nat} (hk : f.length ≤ k) : ckNds (f.drop k) k = 0 := by
  rw [List.drop_of_length_le hk]
  rfl
theorem cntT_take {f : List Nd} {k : Nat} (hk : k < f.length) : cntT (f.take (k + 1)) = cntT (f.take k) + if isTmp f[k].k = true then 1 else 0 := by
  unfold cntT
  rw [List.take_succ_eq_append_getElem hk, List.filter_append, List.length_append]
  by_cases h : isTmp f[k].k = true <;> simp [h]
theorem cntT_le (f : List Nd) (k : Nat) : cntT (f.take k) ≤ k := by
  unfold cntT
  exact Nat.le_trans (List.length_filter_le _ _) (List.length_take_le _ _)
end Go.Proofs.YtoglgeaiiipchaaDoor
