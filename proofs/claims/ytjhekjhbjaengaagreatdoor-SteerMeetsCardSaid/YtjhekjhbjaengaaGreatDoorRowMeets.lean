/- SteerMeets holds: a clock that is steered for one cycle ends as many ticks earlier as it was late, but for less than one tick and rounding; for every input. -/
import Derived.Test.YtjhekjhbjaengaaGreatDoorRows
import Derived.Test.YtjhekjhbjaengaaGreatDoorEvL9
import Derived.Test.YtjhekjhbjaengaaGreatDoorCards
import Derived.Test.YtjhekjhbjaengaaGreatDoorTie
import Derived.SevenTiedAt
import Derived.WalkKit
import Derived.ProofKit
import Derived.OpenShut
import Derived.ChangeSame
import Derived.ChangeVars
import Derived.JoinedOf
import Derived.LaidLaws
import Derived.LaidHandle
import Derived.Stop.Joined
import Derived.SizedLaws
namespace Go.Proofs.YtjhekjhbjaengaaGreatDoor.steerMeets
open Go.ChangeShapes Go.WideShapes Go.ChangeAt Go.RowKit
theorem own : ownKnob Tryz.prog.godebug = none := by kernel_rfl
theorem walk (n o : Int) (hr : (Lit.int .i16 o).wf = true) (w : World) : Calls Tryz.prog 5 #[.int .i64 n, .int .i16 o] w fun e w' => e = .returned (.bool true) ∧ Below w.heap.size w w' :=
  Ev.calls_of (Ev.meets_ans n o hr) (fun _ => .cons (by unfold Ev.er Ev.Rel; rfl) (.cons (by unfold Ev.er Ev.Rel; rfl) .nil)) w
/-- A world that meets the condition: the settled one, the variables' cells laid. -/
noncomputable def laidWorld (os : Os) : World :=
  let w0 := World.holding Tryz.prog os ⟨#[], #[], []⟩
  { w0 with heap := ((w0.heap.modify 1 fun
      | .cells _ t frozen => .cells #[.iface 171 (.agg #[typeHandle Tryz.prog 112])] t frozen
      | o => o).modify 0 fun
      | .cells _ t frozen => .cells #[.iface 220 (.pointer (some ⟨w0.heap.size, 0, none⟩))] t frozen
      | o => o).push (.cells #[.string ⟨#[98, 111, 117, 110, 100, 115, 58, 32, 111, 117, 116, 32, 111, 102, 32, 114, 97, 110, 103, 101]⟩] 242) }
theorem laidWorld_met (os : Os) (args : Array Value) : laidMetH Tryz.prog Rows.steerMeetsRow.laid ((laidWorld os).forCall (fun _ _ => 0) ⟨#[], args, []⟩).memory :=
  laidMetH_of_parts (laidMet_of_run' 8 (by kernel_rfl) (by kernel_rfl)) (by kernel_rfl)
set_option maxRecDepth 100000 in
theorem lifted (os : Os) (started : os.Started) (H : Type) (enc : TypeId × Value → H) :
    ReturnsInHanded {} Tryz.checked os 5 .any (fun w args => (Rows.steerMeetsSpec.pre enc Tryz.prog Tryz.f5 [] false w args ∧ laidMetH Tryz.prog Rows.steerMeetsRow.laid w) ∧ sizedMet enc Tryz.prog Tryz.f5 (OpenSpec.ofChange Rows.steerMeetsSpec) false w args)
      (Rows.steerMeetsSpec.post enc Tryz.prog Tryz.f5 false true false false) := by
  refine returnsInHanded_of_change_and (C := Tryz.checked) (X := fun w _ => laidMetH Tryz.prog Rows.steerMeetsRow.laid w) (fun _ _ _ hh h => h.of_heap hh) own started (by kernel_rfl) Tryz.func5
    (ChangeSpec.witness_shaped (enc := enc) (C := Tryz.checked) (os := os) (X := fun w _ => laidMetH Tryz.prog Rows.steerMeetsRow.laid w) false (laidWorld os) #[.int .i64 0, .int .i16 0] 8 rfl (World.shaped_of_RefB (by kernel_rfl) (by kernel_rfl)) (by kernel_rfl) (by kernel_rfl) (by kernel_rfl) (laidWorld_met os _)) ?_
  intro W base args ds gs before hval0 hW _ _ hL _
  have hval : ∀ (j : Nat) t v, Tryz.f5.params[j]? = some t → args[j]? = some v → Value.okWide Tryz.prog W .any base t v := hval0
  have hW' := hW
  obtain ⟨p, q, hA0, hV, rfl, hfz, hnd⟩ := hW
  have hA : DataW.TrodAll enc Tryz.prog W 0 (fun _ => true) true Tryz.f5.params.toList args.toList ds p := hA0
  rw [Tryz.params5] at hA hval
  obtain ⟨v0, vs0, d0, ds0, p0, q0, hargs, rfl, rfl, h0, r0⟩ := trodAll_cons hA
  obtain ⟨v1, vs1, d1, ds1, p1, q1, rfl, rfl, rfl, h1, r1⟩ := trodAll_cons r0
  obtain ⟨rfl, rfl, rfl⟩ := trodAll_nil r1
  obtain rfl : args = #[v0, v1] := by cases args; simp_all
  obtain ⟨rfl, rfl⟩ := trodVars_none hV
  obtain ⟨a0, rfl, rfl, rfl, w0⟩ := open_int Tryz.underlying3 (hval 0 3 v0 rfl rfl) h0
  obtain ⟨a1, rfl, rfl, rfl, w1⟩ := open_int Tryz.underlying43 (hval 1 43 v1 rfl rfl) h1
  clear hA0 hval0
  refine (walk a0 a1 w1 W).mono fun e W' ⟨he, bel⟩ => ?_
  subst he
  exact ⟨_, rfl, _, _, _, [], _, [], hW', trodAll_mk1 (shut_bool Tryz.underlying4 _), (trodAll_cons_mk (shut_int Tryz.underlying3 w0) (trodAll_cons_mk (shut_int Tryz.underlying43 w1) trodAll_mk0)), rfl, bel.frame _, fun h => by cases h⟩
theorem over : Rows.steerMeetsRow.holds Tryz.pinned (OpenSpec.ofChange Rows.steerMeetsSpec) :=
  OpenClaim.holds_of_wide 5 Tryz.f5 rfl rfl rfl rfl rfl rfl rfl ⟨rfl, rfl, rfl, rfl, rfl⟩ rfl rfl rfl rfl rfl (by kernel_rfl) Tryz.func5 (by kernel_rfl)
    (of_decide_eq_true (by kernel_rfl)) (by unfold Func.isWrapper; first | (rw [if_pos (by decide +kernel)]; kernel_rfl) | (rw [if_neg (by decide +kernel)]; exact ⟨rfl, rfl⟩))
    (fun os started H enc _ => lifted os started H enc)
end Go.Proofs.YtjhekjhbjaengaaGreatDoor.steerMeets
namespace Go.Proofs.YtjhekjhbjaengaaGreatDoor
/-- The tied card. -/
theorem meets_holds : Rows.SteerMeetsCardSaid :=
  Claim7.holds_tied_plain_at .later [] [.handle, .sentinel] true (true, "e1b8a6a6ba95adb17276956bbf0c18be5d1c5a6763c33a4a9e8687d0219b0fcb") true
    steerMeets.over (fun _ h => by cases h) (by kernel_rfl) (fun _ h => by cases h) steerMeets_row_tie rfl ⟨rfl, rfl⟩ (by kernel_rfl) rfl
    (fun f fn hf hfn => by
      obtain rfl : f = 5 := Option.some.inj ((show Tryz.prog.funcNamed "drumline/drumlinelaw16.SteerMeets" = some 5 by kernel_rfl).symm.trans hf) |>.symm
      obtain rfl : fn = Tryz.f5 := (Option.some.inj (Tryz.func5.symm.trans hfn)).symm
      exact ⟨by kernel_rfl, fun j t ht => by
        rw [Tryz.params5] at ht
        rcases j with _ | _ | j
        · obtain rfl : t = 3 := by simpa using ht.symm
          exact (show Tryz.prog.wantsStandIn 3 = false by kernel_rfl)
        · obtain rfl : t = 43 := by simpa using ht.symm
          exact (show Tryz.prog.wantsStandIn 43 = false by kernel_rfl)
        · simp at ht⟩)
    (by kernel_rfl)
end Go.Proofs.YtjhekjhbjaengaaGreatDoor
