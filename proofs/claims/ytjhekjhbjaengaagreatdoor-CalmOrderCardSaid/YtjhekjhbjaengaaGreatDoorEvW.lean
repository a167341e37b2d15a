/- From what the second evaluator answers to calls of the program. -/
import Derived.Test.YtjhekjhbjaengaaGreatDoorEvL
namespace Go.Proofs.YtjhekjhbjaengaaGreatDoor.Ev
open Go Go.RowKit
def bs0 : Base := ⟨fun _ => True, fun _ => False, fun _ _ _ _ => trivial⟩
theorem sys0 : SysOK S bs0 := ⟨fun _ _ h => (by cases h), (by kernel_rfl)⟩
/-- A law of numbers. -/
theorem calls_of {d : Nat} {f : FuncId} {args : List XV} {vs : Array Value} (h : Ans S d f args (.v (.bool true))) (hargs : ∀ M, RelT M (erL args id) vs.toList) (w : World) :
    Calls Tryz.prog f vs w fun e w' => e = .returned (.bool true) ∧ Below w.heap.size w w' := by
  obtain ⟨_, hc⟩ := ev_ok (bs := bs0) sys0 f (erL args id) _ h
  refine (hc (fun _ => False) w vs (fun _ h => h.elim) ⟨trivial, fun _ h => h.elim⟩ (hargs _)).mono fun e w' hp => ?_
  obtain ⟨v, F', rfl, hv, _, _, _, hb⟩ := hp
  unfold er Rel at hv
  subst hv
  exact ⟨rfl, hb⟩
end Go.Proofs.YtjhekjhbjaengaaGreatDoor.Ev
