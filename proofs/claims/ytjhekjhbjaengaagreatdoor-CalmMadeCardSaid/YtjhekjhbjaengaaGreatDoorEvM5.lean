/- CalmMade: the answer. -/
import Derived.Test.YtjhekjhbjaengaaGreatDoorEvM4
import Derived.Test.YtjhekjhbjaengaaGreatDoorEvW
namespace Go.Proofs.YtjhekjhbjaengaaGreatDoor.Ev
open Go
theorem calmmade_ans (n f t g : Int) (_ : (Lit.int .i64 n).wf = true) (_ : (Lit.int .i64 f).wf = true) (_ : (Lit.int .i64 t).wf = true) (_ : (Lit.int .i64 g).wf = true) : Ans S 60 7 [xs n, xs f, xs t, xs g] (.v (.bool true)) :=
  calmmade 0 _ n f t g rfl
end Go.Proofs.YtjhekjhbjaengaaGreatDoor.Ev
