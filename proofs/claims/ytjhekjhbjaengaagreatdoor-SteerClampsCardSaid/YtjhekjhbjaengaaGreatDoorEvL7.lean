/- SteerClamps: the answer. -/
import Derived.Test.YtjhekjhbjaengaaGreatDoorEvL6
import Derived.Test.YtjhekjhbjaengaaGreatDoorEvW
namespace Go.Proofs.YtjhekjhbjaengaaGreatDoor.Ev
open Go
theorem clamps_ans (n o : Int) : Ans S 60 4 [xs n, xs o] (.v (.bool true)) := by
  by_cases h1 : o < -mJ (shOf n) n
  · exact clamps_low 0 _ n o rfl h1
  by_cases h2 : o > mJ (shOf n) n
  · exact clamps_high 0 _ n o rfl h2
  by_cases hz : flr (o * 1000000) (mC n) = 0
  · exact clamps_near0 0 _ n o rfl (by omega) (by omega) hz
  · exact clamps_near1 0 _ n o rfl (by omega) (by omega) hz
end Go.Proofs.YtjhekjhbjaengaaGreatDoor.Ev
