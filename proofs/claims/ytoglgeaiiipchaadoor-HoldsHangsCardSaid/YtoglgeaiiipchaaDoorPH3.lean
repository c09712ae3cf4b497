/- Plain: the reference's way of looking on: by places that run on behind the end. -/
import Derived.Test.YtoglgeaiiipchaaDoorPH2
namespace Go.Proofs.YtoglgeaiiipchaaDoor

/-- where place k lies, k running on behind the end of n places -/
def plc (n h k : Nat) : Nat := if k < n then k else h + (k - h) % (n - h)
theorem plc_back {n h k : Nat} (hh : h < n) (hk : n ≤ k) : plc n h k = plc n h (k - (n - h)) := by
  unfold plc
  rw [if_neg (by omega)]
  have e : k - h = (k - (n - h) - h) + (n - h) := by omega
  split
  · rename_i h1
    rw [e, Nat.add_mod_right, Nat.mod_eq_of_lt (by omega)]
    omega
  · rw [e, Nat.add_mod_right]
theorem plc_lt {n h k : Nat} (hh : h < n) : plc n h k < n := by
  unfold plc
  split
  · assumption
  · have := Nat.mod_lt (k - h) (show 0 < n - h by omega)
    omega
theorem plc_succ {n h k : Nat} (hh : h < n) : nx n h (plc n h k) = plc n h (k + 1) := by
  unfold plc nx
  by_cases h1 : k < n
  · rw [if_pos h1]
    by_cases h2 : k + 1 = n
    · rw [if_pos h2, if_neg (by omega)]
      have : k + 1 - h = n - h := by omega
      rw [this, Nat.mod_self]
      omega
    · rw [if_neg h2, if_pos (by omega)]
  · have h1' : ¬ k + 1 < n := by omega
    simp only [if_neg h1, if_neg h1']
    have hm := Nat.mod_lt (k - h) (show 0 < n - h by omega)
    have e : k + 1 - h = (k - h) + 1 := by omega
    rw [e, Nat.add_mod]
    generalize (k - h) % (n - h) = r at *
    by_cases h2 : h + r + 1 = n
    · rw [if_pos h2]
      have hr : r = n - h - 1 := by omega
      rcases Nat.lt_or_ge (n - h) 2 with h3 | h3
      · have : n - h = 1 := by omega
        rw [this]
        simp [Nat.mod_one]
      · rw [hr, Nat.mod_eq_of_lt (show 1 < n - h by omega), show n - h - 1 + 1 = n - h by omega, Nat.mod_self]
        omega
    · rw [if_neg h2]
      rcases Nat.lt_or_ge (n - h) 2 with h3 | h3
      · omega
      · rw [Nat.mod_eq_of_lt (show 1 < n - h by omega), Nat.mod_eq_of_lt (by omega)]
        omega
/-- until, told by places that run on -/
theorem unt_plc {n h : Nat} {a b : Nat → Bool} (hh : h < n) (m k : Nat) : unt n h a b (m + 1) (plc n h k) = (b (plc n h k) || a (plc n h k) && unt n h a b m (plc n h (k + 1))) := by
  simp only [unt, plc_succ hh]
theorem rls_plc {n h : Nat} {a b : Nat → Bool} (hh : h < n) (m k : Nat) : rls n h a b (m + 1) (plc n h k) = (b (plc n h k) && (a (plc n h k) || rls n h a b m (plc n h (k + 1)))) := by
  simp only [rls, plc_succ hh]
theorem plc_self {n h p : Nat} (hp : p < n) : plc n h p = p := by unfold plc; rw [if_pos hp]
theorem bit_half (m : Int) (b : Nat) : bitOf m (b + 1) = bitOf (m / 2) b := by
  unfold bitOf
  rw [Int.pow_succ, Int.mul_comm, ← Int.ediv_ediv_of_nonneg (by omega)]
end Go.Proofs.YtoglgeaiiipchaaDoor
