/- Trim: what it answers. No program in sight. -/
import Derived.Test.YtoglgeaiiipchabDoorPZ
import Derived.Test.YtoglgeaiiipchabDoorPAz
namespace Go.Proofs.YtoglgeaiiipchabDoor
open Classical in
/-- the states that can be come to -/
noncomputable def rchB (a : Au) : List Bool := if h : ∃ k, RchS a k then h.choose else []
theorem rchB_is {a : Au} {k : List Bool} (h : RchS a k) : rchB a = k := by
  have hx : ∃ k, RchS a k := ⟨k, h⟩
  unfold rchB
  rw [dif_pos hx]
  exact RchS.unique hx.choose_spec h
noncomputable def trimV (a : Au) : Au := if ckA a = 0 then madeOf a (rchB a) else nulA
theorem trim_ok {a : Au} {k : List Bool} (h : ckA a = 0) (hk : RchS a k) : trimV a = madeOf a k := by
  unfold trimV
  rw [if_pos h, rchB_is hk]
theorem trim_no {a : Au} (h : ckA a ≠ 0) : trimV a = nulA := by
  unfold trimV
  rw [if_neg h]
end Go.Proofs.YtoglgeaiiipchabDoor
