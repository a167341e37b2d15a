/- CalmOrder: the answer. -/
import Derived.Test.YtjhekjhbjaengaaGreatDoorEvM6
import Derived.Test.YtjhekjhbjaengaaGreatDoorEvW
namespace Go.Proofs.YtjhekjhbjaengaaGreatDoor.Ev
open Go
theorem tmod_bnd {a b : Int} (hb : 0 < b) : -b < a.tmod b ∧ a.tmod b < b := by
  rw [Int.tmod_eq_emod]
  have h1 := Int.emod_nonneg a (Int.ne_of_gt hb)
  have h2 := Int.emod_lt_of_pos a hb
  split
  · omega
  · rename_i hne
    have : a % b ≠ 0 := fun e => hne (.inr (Int.dvd_of_emod_eq_zero e))
    omega
theorem u8_bounds {n : Int} (h : (Lit.int .u8 n).wf = true) : 0 ≤ n ∧ n ≤ 255 := by
  have e1 : IntKind.u8.min = 0 := by decide
  have e2 : IntKind.u8.max = 255 := by decide
  simp [Lit.wf, e1, e2] at h
  omega
theorem calmorder_ans (n l g : Int) (_ : (Lit.int .i64 n).wf = true) (h1 : (Lit.int .u8 l).wf = true) (h2 : (Lit.int .u8 g).wf = true) : Ans S 60 8 [xs n, .s (.int .u8 l), .s (.int .u8 g)] (.v (.bool true)) := by
  obtain ⟨l1, l2⟩ := u8_bounds h1
  obtain ⟨g1, g2⟩ := u8_bounds h2
  have hn := sn_bounds (shOf n)
  have hA := gen_bounds (shOf n) n
  have p1 := tmod_bnd (a := l) (b := (shOf n).n) (by omega)
  have p2 := Int.tmod_nonneg (b := (shOf n).n) l1
  have a1 := tmod_bnd (a := g) (b := mA (shOf n).n n) (by omega)
  have a2 := Int.tmod_nonneg (b := mA (shOf n).n n) g1
  by_cases hz : l.tmod (shOf n).n = 0
  · exact calmorder_zero 0 _ n l g _ _ rfl l1 l2 g1 g2 rfl rfl p2 p1.2 a2 a1.2 hz
  · exact calmorder_pos 0 _ n l g _ _ rfl l1 l2 g1 g2 rfl rfl p2 p1.2 a2 a1.2 (by omega)
end Go.Proofs.YtjhekjhbjaengaaGreatDoor.Ev
