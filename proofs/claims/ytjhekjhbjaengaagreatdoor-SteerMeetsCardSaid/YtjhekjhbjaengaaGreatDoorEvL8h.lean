/- SteerMeets: the plain side. -/
import Derived.Test.YtjhekjhbjaengaaGreatDoorEvL6h
namespace Go.Proofs.YtjhekjhbjaengaaGreatDoor.Ev
open Go
theorem tmod_bound {a b : Int} (hb : 0 < b) : -b < a.tmod b ∧ a.tmod b < b := by
  rw [Int.tmod_eq_emod]
  have h1 := Int.emod_nonneg a (Int.ne_of_gt hb)
  have h2 := Int.emod_lt_of_pos a hb
  split
  · omega
  · rename_i hne
    have : a % b ≠ 0 := fun e => hne (.inr (Int.dvd_of_emod_eq_zero e))
    omega
theorem flr_mul {a b : Int} (hb : 0 < b) : flr a b * b ≤ a ∧ a - b < flr a b * b := by
  rw [flr_eq hb]
  have h1 := Int.ediv_mul_le a (Int.ne_of_gt hb)
  have h2 := Int.lt_ediv_add_one_mul_self a hb
  rw [Int.add_mul, Int.one_mul] at h2
  omega
end Go.Proofs.YtjhekjhbjaengaaGreatDoor.Ev
