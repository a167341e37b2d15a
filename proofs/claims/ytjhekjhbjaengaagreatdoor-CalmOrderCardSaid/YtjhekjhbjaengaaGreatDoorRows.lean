/-
  NARROWER THAN 'FOR EVERY INPUT', by the rows' own cells (each row's printed sentence says how): SteerFollows: laid · SteerClamps: laid · SteerMeets: laid · CalmTells: laid · CalmMade: laid · CalmOrder: laid · GaugeBegins: laid · GaugeAlike: laid · SteerAdopts: laid.
  DERIVED. THE GIVEN ROWS OF THIS SEAT. 9 by the template 'for every input the law returns true; each argument reads behind the call as it read before'; 0 by the template 'total and deterministic' (their statements: YtjhekjhbjaengaaGreatDoorTotals.lean).
  GIVEN WITH THE SEED: the statements are not yours to turn. If you find one false, say at which input.
  Laid BY PROGRAM, IN A SANDBOX (cutbox-rows.mjs): the forced cells as the released guide's own fill.sh prints them over the translation 76dc343613e9f958… (all of the seat's roots in one cut). By AI agents, Wed Nov 11 2026. No macro, syntax, notation, axiom, sorry.
-/
import Derived.Test.YtjhekjhbjaengaaGreatDoorChecked
import GoSem.Claim
import GoSem.ClaimJoined
import GoSem.ClaimMapViews
import Derived.JoinedTies
import Derived.KernelRfl
namespace Go.Proofs.YtjhekjhbjaengaaGreatDoor
/- THE CELL 'sum', in the pinned program and in every row, IS THE sha256 OF THE DUMP (.gsa) THAT YtjhekjhbjaengaaGreatDoorProg.lean LOADS. Nothing in Lean hashes anything: it is a label: what it is worth is what the hold of that sum in a sandbox is worth. -/
noncomputable def Tryz.pinned : Pinned := { name := "ytjhekjhbjaengaagreatdoor", sum := "76dc343613e9f9588d4ca07907e6dc6b1ec969830d743e903d19f0ef0416dca6", checked := Tryz.checked }
namespace Rows
def none {H : Type} : Left H := { results := [], args := [] }

/- WHAT THE LISTED PACKAGE-LEVEL VARIABLES READ AS WHEN THE CALL BEGINS. Each datum BY PROGRAM (the guide's laid-datum.mjs) off the statement by which the dump's own 'gosem.cut.vars' lays the variable. In a bare row this is a premise. The card (YtjhekjhbjaengaaGreatDoorCards.lean) ties it to the program's text. -/
def laid_errors_errorType {H : Type} : DataW H := .iface "internal/reflectlite.rtype" (.agg [.ptr (.lit (.string [101, 114, 114, 111, 114]))])
def laid_drumline_bounds_out {H : Type} : DataW H := .iface "*errors.errorString" (.ptr (.agg [.lit (.string [98, 111, 117, 110, 100, 115, 58, 32, 111, 117, 116, 32, 111, 102, 32, 114, 97, 110, 103, 101])]))

/-- 'drumlinelaw16.SteerFollows': WHATEVER THE INPUT: true; the input reads as it did. -/
def steerFollowsSpec : ChangeSpec := { name := "steerFollows", fn := fun _ => fun
  | [d1, d2, d3] => { results := [.lit (.bool true)], args := [d1, d2, d3] }
  | _ => none }
def steerFollowsRow : OpenClaim := { program := "ytjhekjhbjaengaagreatdoor", sum := "76dc343613e9f9588d4ca07907e6dc6b1ec969830d743e903d19f0ef0416dca6", func := "drumline/drumlinelaw16.SteerFollows", spec := "steerFollows", inPlace := ["internal/reflectlite.ValueOf", "(internal/reflectlite.Value).Type", "(internal/reflectlite.Value).IsNil", "internal/reflectlite.TypeOf", "(internal/reflectlite.Value).Elem", "(internal/reflectlite.Value).Set"], unfollowed := true, recurses := true, named := ["drumline/bounds.out", "errors.errorType"], apart := false, laid := [("errors.errorType", laid_errors_errorType), ("drumline/bounds.out", laid_drumline_bounds_out)] }
def SteerFollowsSaid : Prop := steerFollowsRow.holds Tryz.pinned (OpenSpec.ofChange steerFollowsSpec)

/-- ITS FALSE NEIGHBOUR: 'it returns false'. Refute it at one input. -/
def steerFollowsWrong : ChangeSpec := { name := "steerFollows", fn := fun _ => fun
  | [d1, d2, d3] => { results := [.lit (.bool false)], args := [d1, d2, d3] }
  | _ => none }
def SteerFollowsWrongFalsely : Prop := steerFollowsRow.holds Tryz.pinned (OpenSpec.ofChange steerFollowsWrong)

/-- 'drumlinelaw16.SteerClamps': WHATEVER THE INPUT: true; the input reads as it did. -/
def steerClampsSpec : ChangeSpec := { name := "steerClamps", fn := fun _ => fun
  | [d1, d2] => { results := [.lit (.bool true)], args := [d1, d2] }
  | _ => none }
def steerClampsRow : OpenClaim := { program := "ytjhekjhbjaengaagreatdoor", sum := "76dc343613e9f9588d4ca07907e6dc6b1ec969830d743e903d19f0ef0416dca6", func := "drumline/drumlinelaw16.SteerClamps", spec := "steerClamps", inPlace := ["internal/reflectlite.ValueOf", "(internal/reflectlite.Value).Type", "(internal/reflectlite.Value).IsNil", "internal/reflectlite.TypeOf", "(internal/reflectlite.Value).Elem", "(internal/reflectlite.Value).Set"], unfollowed := true, recurses := true, named := ["drumline/bounds.out", "errors.errorType"], apart := false, laid := [("errors.errorType", laid_errors_errorType), ("drumline/bounds.out", laid_drumline_bounds_out)] }
def SteerClampsSaid : Prop := steerClampsRow.holds Tryz.pinned (OpenSpec.ofChange steerClampsSpec)

/-- ITS FALSE NEIGHBOUR: 'it returns false'. Refute it at one input. -/
def steerClampsWrong : ChangeSpec := { name := "steerClamps", fn := fun _ => fun
  | [d1, d2] => { results := [.lit (.bool false)], args := [d1, d2] }
  | _ => none }
def SteerClampsWrongFalsely : Prop := steerClampsRow.holds Tryz.pinned (OpenSpec.ofChange steerClampsWrong)

/-- 'drumlinelaw16.SteerMeets': WHATEVER THE INPUT: true; the input reads as it did. -/
def steerMeetsSpec : ChangeSpec := { name := "steerMeets", fn := fun _ => fun
  | [d1, d2] => { results := [.lit (.bool true)], args := [d1, d2] }
  | _ => none }
def steerMeetsRow : OpenClaim := { program := "ytjhekjhbjaengaagreatdoor", sum := "76dc343613e9f9588d4ca07907e6dc6b1ec969830d743e903d19f0ef0416dca6", func := "drumline/drumlinelaw16.SteerMeets", spec := "steerMeets", inPlace := ["internal/reflectlite.ValueOf", "(internal/reflectlite.Value).Type", "(internal/reflectlite.Value).IsNil", "internal/reflectlite.TypeOf", "(internal/reflectlite.Value).Elem", "(internal/reflectlite.Value).Set"], unfollowed := true, recurses := true, named := ["drumline/bounds.out", "errors.errorType"], apart := false, laid := [("errors.errorType", laid_errors_errorType), ("drumline/bounds.out", laid_drumline_bounds_out)] }
def SteerMeetsSaid : Prop := steerMeetsRow.holds Tryz.pinned (OpenSpec.ofChange steerMeetsSpec)

/-- ITS FALSE NEIGHBOUR: 'it returns false'. Refute it at one input. -/
def steerMeetsWrong : ChangeSpec := { name := "steerMeets", fn := fun _ => fun
  | [d1, d2] => { results := [.lit (.bool false)], args := [d1, d2] }
  | _ => none }
def SteerMeetsWrongFalsely : Prop := steerMeetsRow.holds Tryz.pinned (OpenSpec.ofChange steerMeetsWrong)

/-- 'drumlinelaw29.CalmTells': WHATEVER THE INPUT: true; the input reads as it did. -/
def calmTellsSpec : ChangeSpec := { name := "calmTells", fn := fun _ => fun
  | [d1, d2, d3, d4] => { results := [.lit (.bool true)], args := [d1, d2, d3, d4] }
  | _ => none }
def calmTellsRow : OpenClaim := { program := "ytjhekjhbjaengaagreatdoor", sum := "76dc343613e9f9588d4ca07907e6dc6b1ec969830d743e903d19f0ef0416dca6", func := "drumline/drumlinelaw29.CalmTells", spec := "calmTells", inPlace := ["internal/reflectlite.ValueOf", "(internal/reflectlite.Value).Type", "(internal/reflectlite.Value).IsNil", "internal/reflectlite.TypeOf", "(internal/reflectlite.Value).Elem", "(internal/reflectlite.Value).Set"], unfollowed := true, recurses := true, named := ["drumline/bounds.out", "errors.errorType"], apart := false, laid := [("errors.errorType", laid_errors_errorType), ("drumline/bounds.out", laid_drumline_bounds_out)] }
def CalmTellsSaid : Prop := calmTellsRow.holds Tryz.pinned (OpenSpec.ofChange calmTellsSpec)

/-- ITS FALSE NEIGHBOUR: 'it returns false'. Refute it at one input. -/
def calmTellsWrong : ChangeSpec := { name := "calmTells", fn := fun _ => fun
  | [d1, d2, d3, d4] => { results := [.lit (.bool false)], args := [d1, d2, d3, d4] }
  | _ => none }
def CalmTellsWrongFalsely : Prop := calmTellsRow.holds Tryz.pinned (OpenSpec.ofChange calmTellsWrong)

/-- 'drumlinelaw29.CalmMade': WHATEVER THE INPUT: true; the input reads as it did. -/
def calmMadeSpec : ChangeSpec := { name := "calmMade", fn := fun _ => fun
  | [d1, d2, d3, d4] => { results := [.lit (.bool true)], args := [d1, d2, d3, d4] }
  | _ => none }
def calmMadeRow : OpenClaim := { program := "ytjhekjhbjaengaagreatdoor", sum := "76dc343613e9f9588d4ca07907e6dc6b1ec969830d743e903d19f0ef0416dca6", func := "drumline/drumlinelaw29.CalmMade", spec := "calmMade", inPlace := ["internal/reflectlite.ValueOf", "(internal/reflectlite.Value).Type", "(internal/reflectlite.Value).IsNil", "internal/reflectlite.TypeOf", "(internal/reflectlite.Value).Elem", "(internal/reflectlite.Value).Set"], unfollowed := true, recurses := true, named := ["drumline/bounds.out", "errors.errorType"], apart := false, laid := [("errors.errorType", laid_errors_errorType), ("drumline/bounds.out", laid_drumline_bounds_out)] }
def CalmMadeSaid : Prop := calmMadeRow.holds Tryz.pinned (OpenSpec.ofChange calmMadeSpec)

/-- ITS FALSE NEIGHBOUR: 'it returns false'. Refute it at one input. -/
def calmMadeWrong : ChangeSpec := { name := "calmMade", fn := fun _ => fun
  | [d1, d2, d3, d4] => { results := [.lit (.bool false)], args := [d1, d2, d3, d4] }
  | _ => none }
def CalmMadeWrongFalsely : Prop := calmMadeRow.holds Tryz.pinned (OpenSpec.ofChange calmMadeWrong)

/-- 'drumlinelaw29.CalmOrder': WHATEVER THE INPUT: true; the input reads as it did. -/
def calmOrderSpec : ChangeSpec := { name := "calmOrder", fn := fun _ => fun
  | [d1, d2, d3] => { results := [.lit (.bool true)], args := [d1, d2, d3] }
  | _ => none }
def calmOrderRow : OpenClaim := { program := "ytjhekjhbjaengaagreatdoor", sum := "76dc343613e9f9588d4ca07907e6dc6b1ec969830d743e903d19f0ef0416dca6", func := "drumline/drumlinelaw29.CalmOrder", spec := "calmOrder", inPlace := ["internal/reflectlite.ValueOf", "(internal/reflectlite.Value).Type", "(internal/reflectlite.Value).IsNil", "internal/reflectlite.TypeOf", "(internal/reflectlite.Value).Elem", "(internal/reflectlite.Value).Set"], unfollowed := true, recurses := true, named := ["drumline/bounds.out", "errors.errorType"], apart := false, laid := [("errors.errorType", laid_errors_errorType), ("drumline/bounds.out", laid_drumline_bounds_out)] }
def CalmOrderSaid : Prop := calmOrderRow.holds Tryz.pinned (OpenSpec.ofChange calmOrderSpec)

/-- ITS FALSE NEIGHBOUR: 'it returns false'. Refute it at one input. -/
def calmOrderWrong : ChangeSpec := { name := "calmOrder", fn := fun _ => fun
  | [d1, d2, d3] => { results := [.lit (.bool false)], args := [d1, d2, d3] }
  | _ => none }
def CalmOrderWrongFalsely : Prop := calmOrderRow.holds Tryz.pinned (OpenSpec.ofChange calmOrderWrong)

/-- 'drumlinelaw12.GaugeBegins': WHATEVER THE INPUT: true; the input reads as it did. -/
def gaugeBeginsSpec : ChangeSpec := { name := "gaugeBegins", fn := fun _ => fun
  | [d1, d2, d3, d4] => { results := [.lit (.bool true)], args := [d1, d2, d3, d4] }
  | _ => none }
def gaugeBeginsRow : OpenClaim := { program := "ytjhekjhbjaengaagreatdoor", sum := "76dc343613e9f9588d4ca07907e6dc6b1ec969830d743e903d19f0ef0416dca6", func := "drumline/drumlinelaw12.GaugeBegins", spec := "gaugeBegins", inPlace := ["internal/reflectlite.ValueOf", "(internal/reflectlite.Value).Type", "(internal/reflectlite.Value).IsNil", "internal/reflectlite.TypeOf", "(internal/reflectlite.Value).Elem", "(internal/reflectlite.Value).Set"], unfollowed := true, recurses := true, named := ["drumline/bounds.out", "errors.errorType"], apart := false, laid := [("errors.errorType", laid_errors_errorType), ("drumline/bounds.out", laid_drumline_bounds_out)] }
def GaugeBeginsSaid : Prop := gaugeBeginsRow.holds Tryz.pinned (OpenSpec.ofChange gaugeBeginsSpec)

/-- ITS FALSE NEIGHBOUR: 'it returns false'. Refute it at one input. -/
def gaugeBeginsWrong : ChangeSpec := { name := "gaugeBegins", fn := fun _ => fun
  | [d1, d2, d3, d4] => { results := [.lit (.bool false)], args := [d1, d2, d3, d4] }
  | _ => none }
def GaugeBeginsWrongFalsely : Prop := gaugeBeginsRow.holds Tryz.pinned (OpenSpec.ofChange gaugeBeginsWrong)

/-- 'drumlinelaw12.GaugeAlike': WHATEVER THE INPUT: true; the input reads as it did. -/
def gaugeAlikeSpec : ChangeSpec := { name := "gaugeAlike", fn := fun _ => fun
  | [d1, d2, d3, d4] => { results := [.lit (.bool true)], args := [d1, d2, d3, d4] }
  | _ => none }
def gaugeAlikeRow : OpenClaim := { program := "ytjhekjhbjaengaagreatdoor", sum := "76dc343613e9f9588d4ca07907e6dc6b1ec969830d743e903d19f0ef0416dca6", func := "drumline/drumlinelaw12.GaugeAlike", spec := "gaugeAlike", inPlace := ["internal/reflectlite.ValueOf", "(internal/reflectlite.Value).Type", "(internal/reflectlite.Value).IsNil", "internal/reflectlite.TypeOf", "(internal/reflectlite.Value).Elem", "(internal/reflectlite.Value).Set"], unfollowed := true, recurses := true, named := ["drumline/bounds.out", "errors.errorType"], apart := false, laid := [("errors.errorType", laid_errors_errorType), ("drumline/bounds.out", laid_drumline_bounds_out)] }
def GaugeAlikeSaid : Prop := gaugeAlikeRow.holds Tryz.pinned (OpenSpec.ofChange gaugeAlikeSpec)

/-- ITS FALSE NEIGHBOUR: 'it returns false'. Refute it at one input. -/
def gaugeAlikeWrong : ChangeSpec := { name := "gaugeAlike", fn := fun _ => fun
  | [d1, d2, d3, d4] => { results := [.lit (.bool false)], args := [d1, d2, d3, d4] }
  | _ => none }
def GaugeAlikeWrongFalsely : Prop := gaugeAlikeRow.holds Tryz.pinned (OpenSpec.ofChange gaugeAlikeWrong)

/-- 'drumlinelaw16.SteerAdopts': WHATEVER THE INPUT: true; the input reads as it did. -/
def steerAdoptsSpec : ChangeSpec := { name := "steerAdopts", fn := fun _ => fun
  | [d1, d2, d3, d4] => { results := [.lit (.bool true)], args := [d1, d2, d3, d4] }
  | _ => none }
def steerAdoptsRow : OpenClaim := { program := "ytjhekjhbjaengaagreatdoor", sum := "76dc343613e9f9588d4ca07907e6dc6b1ec969830d743e903d19f0ef0416dca6", func := "drumline/drumlinelaw16.SteerAdopts", spec := "steerAdopts", inPlace := ["internal/reflectlite.ValueOf", "(internal/reflectlite.Value).Type", "(internal/reflectlite.Value).IsNil", "internal/reflectlite.TypeOf", "(internal/reflectlite.Value).Elem", "(internal/reflectlite.Value).Set"], unfollowed := true, recurses := true, named := ["drumline/bounds.out", "errors.errorType"], apart := false, laid := [("errors.errorType", laid_errors_errorType), ("drumline/bounds.out", laid_drumline_bounds_out)] }
def SteerAdoptsSaid : Prop := steerAdoptsRow.holds Tryz.pinned (OpenSpec.ofChange steerAdoptsSpec)

/-- ITS FALSE NEIGHBOUR: 'it returns false'. Refute it at one input. -/
def steerAdoptsWrong : ChangeSpec := { name := "steerAdopts", fn := fun _ => fun
  | [d1, d2, d3, d4] => { results := [.lit (.bool false)], args := [d1, d2, d3, d4] }
  | _ => none }
def SteerAdoptsWrongFalsely : Prop := steerAdoptsRow.holds Tryz.pinned (OpenSpec.ofChange steerAdoptsWrong)

/- THE SECOND FORM. 'bulk': how many values and letters a reading holds, each counted each time it is reached (what is shared counts as often as it is met; a slice's spare places count too). A statement '..UptoSaid' is the law's where the arguments, and the package variables that the reading takes, are together of bulk at most 1048576: NARROWER than '..Said'. Prove '..Said' where nothing that the law and all that it calls make is longer than what came in: it says more and counts as full. Else prove '..UptoSaid'. A law counts once. -/
mutual
def uptoBulk {H : Type} : DataW H → Nat
  | .lit (.string bytes) => bytes.length + 1
  | .lit _ => 1
  | .nil => 1
  | .ptr d => uptoBulk d + 1
  | .slice elems spare => uptoBulkAll elems + uptoBulkAll spare + 1
  | .agg parts => uptoBulkAll parts + 1
  | .iface _ d => uptoBulk d + 1
  | .map entries => uptoBulkEntries entries + 1
  | .held _ => 1
def uptoBulkAll {H : Type} : List (DataW H) → Nat
  | [] => 0
  | d :: r => uptoBulk d + uptoBulkAll r
def uptoBulkEntries {H : Type} : List (Lit × DataW H) → Nat
  | [] => 0
  | x :: r => uptoBulkEntry x + uptoBulkEntries r
def uptoBulkEntry {H : Type} : Lit × DataW H → Nat
  | (.string bytes, d) => bytes.length + uptoBulk d + 1
  | (_, d) => uptoBulk d + 1
 end
def uptoSmall : (H : Type) → List (DataW H) → Bool := fun _ ds => decide (uptoBulkAll ds ≤ 1048576)
def OpenSpec.upto (s : _root_.Go.ChangeSpec) : _root_.Go.OpenSpec := { _root_.Go.OpenSpec.ofChange s with cond := some uptoSmall }

/-- 'drumlinelaw16.SteerFollows', WHERE WHAT IT READS IS OF BULK AT MOST 1048576: true; the input reads as it did. -/
def steerFollowsUptoRow : OpenClaim := { program := "ytjhekjhbjaengaagreatdoor", sum := "76dc343613e9f9588d4ca07907e6dc6b1ec969830d743e903d19f0ef0416dca6", func := "drumline/drumlinelaw16.SteerFollows", spec := "steerFollows", inPlace := ["internal/reflectlite.ValueOf", "(internal/reflectlite.Value).Type", "(internal/reflectlite.Value).IsNil", "internal/reflectlite.TypeOf", "(internal/reflectlite.Value).Elem", "(internal/reflectlite.Value).Set"], unfollowed := true, recurses := true, named := ["drumline/bounds.out", "errors.errorType"], apart := false, laid := [("errors.errorType", laid_errors_errorType), ("drumline/bounds.out", laid_drumline_bounds_out)], narrowed := true }
def SteerFollowsUptoSaid : Prop := steerFollowsUptoRow.holds Tryz.pinned (OpenSpec.upto steerFollowsSpec)

/-- 'drumlinelaw16.SteerClamps', WHERE WHAT IT READS IS OF BULK AT MOST 1048576: true; the input reads as it did. -/
def steerClampsUptoRow : OpenClaim := { program := "ytjhekjhbjaengaagreatdoor", sum := "76dc343613e9f9588d4ca07907e6dc6b1ec969830d743e903d19f0ef0416dca6", func := "drumline/drumlinelaw16.SteerClamps", spec := "steerClamps", inPlace := ["internal/reflectlite.ValueOf", "(internal/reflectlite.Value).Type", "(internal/reflectlite.Value).IsNil", "internal/reflectlite.TypeOf", "(internal/reflectlite.Value).Elem", "(internal/reflectlite.Value).Set"], unfollowed := true, recurses := true, named := ["drumline/bounds.out", "errors.errorType"], apart := false, laid := [("errors.errorType", laid_errors_errorType), ("drumline/bounds.out", laid_drumline_bounds_out)], narrowed := true }
def SteerClampsUptoSaid : Prop := steerClampsUptoRow.holds Tryz.pinned (OpenSpec.upto steerClampsSpec)

/-- 'drumlinelaw16.SteerMeets', WHERE WHAT IT READS IS OF BULK AT MOST 1048576: true; the input reads as it did. -/
def steerMeetsUptoRow : OpenClaim := { program := "ytjhekjhbjaengaagreatdoor", sum := "76dc343613e9f9588d4ca07907e6dc6b1ec969830d743e903d19f0ef0416dca6", func := "drumline/drumlinelaw16.SteerMeets", spec := "steerMeets", inPlace := ["internal/reflectlite.ValueOf", "(internal/reflectlite.Value).Type", "(internal/reflectlite.Value).IsNil", "internal/reflectlite.TypeOf", "(internal/reflectlite.Value).Elem", "(internal/reflectlite.Value).Set"], unfollowed := true, recurses := true, named := ["drumline/bounds.out", "errors.errorType"], apart := false, laid := [("errors.errorType", laid_errors_errorType), ("drumline/bounds.out", laid_drumline_bounds_out)], narrowed := true }
def SteerMeetsUptoSaid : Prop := steerMeetsUptoRow.holds Tryz.pinned (OpenSpec.upto steerMeetsSpec)

/-- 'drumlinelaw29.CalmTells', WHERE WHAT IT READS IS OF BULK AT MOST 1048576: true; the input reads as it did. -/
def calmTellsUptoRow : OpenClaim := { program := "ytjhekjhbjaengaagreatdoor", sum := "76dc343613e9f9588d4ca07907e6dc6b1ec969830d743e903d19f0ef0416dca6", func := "drumline/drumlinelaw29.CalmTells", spec := "calmTells", inPlace := ["internal/reflectlite.ValueOf", "(internal/reflectlite.Value).Type", "(internal/reflectlite.Value).IsNil", "internal/reflectlite.TypeOf", "(internal/reflectlite.Value).Elem", "(internal/reflectlite.Value).Set"], unfollowed := true, recurses := true, named := ["drumline/bounds.out", "errors.errorType"], apart := false, laid := [("errors.errorType", laid_errors_errorType), ("drumline/bounds.out", laid_drumline_bounds_out)], narrowed := true }
def CalmTellsUptoSaid : Prop := calmTellsUptoRow.holds Tryz.pinned (OpenSpec.upto calmTellsSpec)

/-- 'drumlinelaw29.CalmMade', WHERE WHAT IT READS IS OF BULK AT MOST 1048576: true; the input reads as it did. -/
def calmMadeUptoRow : OpenClaim := { program := "ytjhekjhbjaengaagreatdoor", sum := "76dc343613e9f9588d4ca07907e6dc6b1ec969830d743e903d19f0ef0416dca6", func := "drumline/drumlinelaw29.CalmMade", spec := "calmMade", inPlace := ["internal/reflectlite.ValueOf", "(internal/reflectlite.Value).Type", "(internal/reflectlite.Value).IsNil", "internal/reflectlite.TypeOf", "(internal/reflectlite.Value).Elem", "(internal/reflectlite.Value).Set"], unfollowed := true, recurses := true, named := ["drumline/bounds.out", "errors.errorType"], apart := false, laid := [("errors.errorType", laid_errors_errorType), ("drumline/bounds.out", laid_drumline_bounds_out)], narrowed := true }
def CalmMadeUptoSaid : Prop := calmMadeUptoRow.holds Tryz.pinned (OpenSpec.upto calmMadeSpec)

/-- 'drumlinelaw29.CalmOrder', WHERE WHAT IT READS IS OF BULK AT MOST 1048576: true; the input reads as it did. -/
def calmOrderUptoRow : OpenClaim := { program := "ytjhekjhbjaengaagreatdoor", sum := "76dc343613e9f9588d4ca07907e6dc6b1ec969830d743e903d19f0ef0416dca6", func := "drumline/drumlinelaw29.CalmOrder", spec := "calmOrder", inPlace := ["internal/reflectlite.ValueOf", "(internal/reflectlite.Value).Type", "(internal/reflectlite.Value).IsNil", "internal/reflectlite.TypeOf", "(internal/reflectlite.Value).Elem", "(internal/reflectlite.Value).Set"], unfollowed := true, recurses := true, named := ["drumline/bounds.out", "errors.errorType"], apart := false, laid := [("errors.errorType", laid_errors_errorType), ("drumline/bounds.out", laid_drumline_bounds_out)], narrowed := true }
def CalmOrderUptoSaid : Prop := calmOrderUptoRow.holds Tryz.pinned (OpenSpec.upto calmOrderSpec)

/-- 'drumlinelaw12.GaugeBegins', WHERE WHAT IT READS IS OF BULK AT MOST 1048576: true; the input reads as it did. -/
def gaugeBeginsUptoRow : OpenClaim := { program := "ytjhekjhbjaengaagreatdoor", sum := "76dc343613e9f9588d4ca07907e6dc6b1ec969830d743e903d19f0ef0416dca6", func := "drumline/drumlinelaw12.GaugeBegins", spec := "gaugeBegins", inPlace := ["internal/reflectlite.ValueOf", "(internal/reflectlite.Value).Type", "(internal/reflectlite.Value).IsNil", "internal/reflectlite.TypeOf", "(internal/reflectlite.Value).Elem", "(internal/reflectlite.Value).Set"], unfollowed := true, recurses := true, named := ["drumline/bounds.out", "errors.errorType"], apart := false, laid := [("errors.errorType", laid_errors_errorType), ("drumline/bounds.out", laid_drumline_bounds_out)], narrowed := true }
def GaugeBeginsUptoSaid : Prop := gaugeBeginsUptoRow.holds Tryz.pinned (OpenSpec.upto gaugeBeginsSpec)

/-- 'drumlinelaw12.GaugeAlike', WHERE WHAT IT READS IS OF BULK AT MOST 1048576: true; the input reads as it did. -/
def gaugeAlikeUptoRow : OpenClaim := { program := "ytjhekjhbjaengaagreatdoor", sum := "76dc343613e9f9588d4ca07907e6dc6b1ec969830d743e903d19f0ef0416dca6", func := "drumline/drumlinelaw12.GaugeAlike", spec := "gaugeAlike", inPlace := ["internal/reflectlite.ValueOf", "(internal/reflectlite.Value).Type", "(internal/reflectlite.Value).IsNil", "internal/reflectlite.TypeOf", "(internal/reflectlite.Value).Elem", "(internal/reflectlite.Value).Set"], unfollowed := true, recurses := true, named := ["drumline/bounds.out", "errors.errorType"], apart := false, laid := [("errors.errorType", laid_errors_errorType), ("drumline/bounds.out", laid_drumline_bounds_out)], narrowed := true }
def GaugeAlikeUptoSaid : Prop := gaugeAlikeUptoRow.holds Tryz.pinned (OpenSpec.upto gaugeAlikeSpec)

/-- 'drumlinelaw16.SteerAdopts', WHERE WHAT IT READS IS OF BULK AT MOST 1048576: true; the input reads as it did. -/
def steerAdoptsUptoRow : OpenClaim := { program := "ytjhekjhbjaengaagreatdoor", sum := "76dc343613e9f9588d4ca07907e6dc6b1ec969830d743e903d19f0ef0416dca6", func := "drumline/drumlinelaw16.SteerAdopts", spec := "steerAdopts", inPlace := ["internal/reflectlite.ValueOf", "(internal/reflectlite.Value).Type", "(internal/reflectlite.Value).IsNil", "internal/reflectlite.TypeOf", "(internal/reflectlite.Value).Elem", "(internal/reflectlite.Value).Set"], unfollowed := true, recurses := true, named := ["drumline/bounds.out", "errors.errorType"], apart := false, laid := [("errors.errorType", laid_errors_errorType), ("drumline/bounds.out", laid_drumline_bounds_out)], narrowed := true }
def SteerAdoptsUptoSaid : Prop := steerAdoptsUptoRow.holds Tryz.pinned (OpenSpec.upto steerAdoptsSpec)

end Rows
end Go.Proofs.YtjhekjhbjaengaaGreatDoor
