/- SteerMeets: the answer. -/
import Derived.Test.YtjhekjhbjaengaaGreatDoorEvL8
import Derived.Test.YtjhekjhbjaengaaGreatDoorEvW
namespace Go.Proofs.YtjhekjhbjaengaaGreatDoor.Ev
open Go
theorem meets_ans (n o : Int) (h : (Lit.int .i16 o).wf = true) : Ans S 60 5 [xs n, .s (.int .i16 o)] (.v (.bool true)) := by
  have hr : -32768 ≤ o ∧ o ≤ 32767 := by
    have e1 : IntKind.i16.min = -32768 := by decide
    have e2 : IntKind.i16.max = 32767 := by decide
    simp [Lit.wf, e1, e2] at h
    omega
  exact meets_run 0 _ n o rfl hr.1 hr.2
end Go.Proofs.YtjhekjhbjaengaaGreatDoor.Ev
