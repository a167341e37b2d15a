/- The networks of each shape have right parts and links, whatever their numbers. -/
import Derived.Test.YtjhekjhbjaengaaGreatDoorEvL
set_option linter.unusedVariables false
set_option linter.unusedSimpArgs false
set_option maxRecDepth 100000
namespace Go.Proofs.YtjhekjhbjaengaaGreatDoor.Ev
open Go

theorem check1 (d : Nat) (C W D A Lo Li Sp : Int)  : Ans S (d + 12) 87 [cfg P1 L1 C W D A Lo Li Sp] (.tup [xi 0, xi 0]) := by
  have e : (er (.tup [.v (.int .i64 (0)), .v (.int .i64 (0))] : XV) id = er (.tup [xi 0, xi 0]) id) = xpure S none_ (d + 12) 87 [cfg P1 L1 C W D A Lo Li Sp] [] (fun y => er y id = er (.tup [xi 0, xi 0]) id) := by kernel_rfl
  refine ans e (by simp [loL, lo]) ?_
  rfl
theorem rcheck1 (d : Nat) (C W D A Lo Li Sp : Int)  : Ans S (d + 12) 134 [cfg P1 L1 C W D A Lo Li Sp] (.tup [xi 0, xi 0]) := by
  have e : (er (.tup [.v (.int .i64 (0)), .v (.int .i64 (0))] : XV) id = er (.tup [xi 0, xi 0]) id) = xpure S none_ (d + 12) 134 [cfg P1 L1 C W D A Lo Li Sp] [] (fun y => er y id = er (.tup [xi 0, xi 0]) id) := by kernel_rfl
  refine ans e (by simp [loL, lo]) ?_
  rfl
theorem check2 (d : Nat) (C W D A Lo Li Sp : Int)  : Ans S (d + 12) 87 [cfg P2 L2 C W D A Lo Li Sp] (.tup [xi 0, xi 0]) := by
  have e : (er (.tup [.v (.int .i64 (0)), .v (.int .i64 (0))] : XV) id = er (.tup [xi 0, xi 0]) id) = xpure S none_ (d + 12) 87 [cfg P2 L2 C W D A Lo Li Sp] [] (fun y => er y id = er (.tup [xi 0, xi 0]) id) := by kernel_rfl
  refine ans e (by simp [loL, lo]) ?_
  rfl
theorem rcheck2 (d : Nat) (C W D A Lo Li Sp : Int)  : Ans S (d + 12) 134 [cfg P2 L2 C W D A Lo Li Sp] (.tup [xi 0, xi 0]) := by
  have e : (er (.tup [.v (.int .i64 (0)), .v (.int .i64 (0))] : XV) id = er (.tup [xi 0, xi 0]) id) = xpure S none_ (d + 12) 134 [cfg P2 L2 C W D A Lo Li Sp] [] (fun y => er y id = er (.tup [xi 0, xi 0]) id) := by kernel_rfl
  refine ans e (by simp [loL, lo]) ?_
  rfl
theorem check3a (d : Nat) (C W D A Lo Li Sp : Int)  : Ans S (d + 12) 87 [cfg P3a L3a C W D A Lo Li Sp] (.tup [xi 0, xi 0]) := by
  have e : (er (.tup [.v (.int .i64 (0)), .v (.int .i64 (0))] : XV) id = er (.tup [xi 0, xi 0]) id) = xpure S none_ (d + 12) 87 [cfg P3a L3a C W D A Lo Li Sp] [] (fun y => er y id = er (.tup [xi 0, xi 0]) id) := by kernel_rfl
  refine ans e (by simp [loL, lo]) ?_
  rfl
theorem rcheck3a (d : Nat) (C W D A Lo Li Sp : Int)  : Ans S (d + 12) 134 [cfg P3a L3a C W D A Lo Li Sp] (.tup [xi 0, xi 0]) := by
  have e : (er (.tup [.v (.int .i64 (0)), .v (.int .i64 (0))] : XV) id = er (.tup [xi 0, xi 0]) id) = xpure S none_ (d + 12) 134 [cfg P3a L3a C W D A Lo Li Sp] [] (fun y => er y id = er (.tup [xi 0, xi 0]) id) := by kernel_rfl
  refine ans e (by simp [loL, lo]) ?_
  rfl
theorem check3b (d : Nat) (C W D A Lo Li Sp : Int)  : Ans S (d + 12) 87 [cfg P3b L3b C W D A Lo Li Sp] (.tup [xi 0, xi 0]) := by
  have e : (er (.tup [.v (.int .i64 (0)), .v (.int .i64 (0))] : XV) id = er (.tup [xi 0, xi 0]) id) = xpure S none_ (d + 12) 87 [cfg P3b L3b C W D A Lo Li Sp] [] (fun y => er y id = er (.tup [xi 0, xi 0]) id) := by kernel_rfl
  refine ans e (by simp [loL, lo]) ?_
  rfl
theorem rcheck3b (d : Nat) (C W D A Lo Li Sp : Int)  : Ans S (d + 12) 134 [cfg P3b L3b C W D A Lo Li Sp] (.tup [xi 0, xi 0]) := by
  have e : (er (.tup [.v (.int .i64 (0)), .v (.int .i64 (0))] : XV) id = er (.tup [xi 0, xi 0]) id) = xpure S none_ (d + 12) 134 [cfg P3b L3b C W D A Lo Li Sp] [] (fun y => er y id = er (.tup [xi 0, xi 0]) id) := by kernel_rfl
  refine ans e (by simp [loL, lo]) ?_
  rfl
theorem check3c (d : Nat) (C W D A Lo Li Sp : Int)  : Ans S (d + 12) 87 [cfg P3c L3c C W D A Lo Li Sp] (.tup [xi 0, xi 0]) := by
  have e : (er (.tup [.v (.int .i64 (0)), .v (.int .i64 (0))] : XV) id = er (.tup [xi 0, xi 0]) id) = xpure S none_ (d + 12) 87 [cfg P3c L3c C W D A Lo Li Sp] [] (fun y => er y id = er (.tup [xi 0, xi 0]) id) := by kernel_rfl
  refine ans e (by simp [loL, lo]) ?_
  rfl
theorem rcheck3c (d : Nat) (C W D A Lo Li Sp : Int)  : Ans S (d + 12) 134 [cfg P3c L3c C W D A Lo Li Sp] (.tup [xi 0, xi 0]) := by
  have e : (er (.tup [.v (.int .i64 (0)), .v (.int .i64 (0))] : XV) id = er (.tup [xi 0, xi 0]) id) = xpure S none_ (d + 12) 134 [cfg P3c L3c C W D A Lo Li Sp] [] (fun y => er y id = er (.tup [xi 0, xi 0]) id) := by kernel_rfl
  refine ans e (by simp [loL, lo]) ?_
  rfl
theorem check4a (d : Nat) (C W D A Lo Li Sp : Int)  : Ans S (d + 12) 87 [cfg P4a L4a C W D A Lo Li Sp] (.tup [xi 0, xi 0]) := by
  have e : (er (.tup [.v (.int .i64 (0)), .v (.int .i64 (0))] : XV) id = er (.tup [xi 0, xi 0]) id) = xpure S none_ (d + 12) 87 [cfg P4a L4a C W D A Lo Li Sp] [] (fun y => er y id = er (.tup [xi 0, xi 0]) id) := by kernel_rfl
  refine ans e (by simp [loL, lo]) ?_
  rfl
theorem rcheck4a (d : Nat) (C W D A Lo Li Sp : Int)  : Ans S (d + 12) 134 [cfg P4a L4a C W D A Lo Li Sp] (.tup [xi 0, xi 0]) := by
  have e : (er (.tup [.v (.int .i64 (0)), .v (.int .i64 (0))] : XV) id = er (.tup [xi 0, xi 0]) id) = xpure S none_ (d + 12) 134 [cfg P4a L4a C W D A Lo Li Sp] [] (fun y => er y id = er (.tup [xi 0, xi 0]) id) := by kernel_rfl
  refine ans e (by simp [loL, lo]) ?_
  rfl
theorem check4b (d : Nat) (C W D A Lo Li Sp : Int)  : Ans S (d + 12) 87 [cfg P4b L4b C W D A Lo Li Sp] (.tup [xi 0, xi 0]) := by
  have e : (er (.tup [.v (.int .i64 (0)), .v (.int .i64 (0))] : XV) id = er (.tup [xi 0, xi 0]) id) = xpure S none_ (d + 12) 87 [cfg P4b L4b C W D A Lo Li Sp] [] (fun y => er y id = er (.tup [xi 0, xi 0]) id) := by kernel_rfl
  refine ans e (by simp [loL, lo]) ?_
  rfl
theorem rcheck4b (d : Nat) (C W D A Lo Li Sp : Int)  : Ans S (d + 12) 134 [cfg P4b L4b C W D A Lo Li Sp] (.tup [xi 0, xi 0]) := by
  have e : (er (.tup [.v (.int .i64 (0)), .v (.int .i64 (0))] : XV) id = er (.tup [xi 0, xi 0]) id) = xpure S none_ (d + 12) 134 [cfg P4b L4b C W D A Lo Li Sp] [] (fun y => er y id = er (.tup [xi 0, xi 0]) id) := by kernel_rfl
  refine ans e (by simp [loL, lo]) ?_
  rfl
theorem check4c (d : Nat) (C W D A Lo Li Sp : Int)  : Ans S (d + 12) 87 [cfg P4c L4c C W D A Lo Li Sp] (.tup [xi 0, xi 0]) := by
  have e : (er (.tup [.v (.int .i64 (0)), .v (.int .i64 (0))] : XV) id = er (.tup [xi 0, xi 0]) id) = xpure S none_ (d + 12) 87 [cfg P4c L4c C W D A Lo Li Sp] [] (fun y => er y id = er (.tup [xi 0, xi 0]) id) := by kernel_rfl
  refine ans e (by simp [loL, lo]) ?_
  rfl
theorem rcheck4c (d : Nat) (C W D A Lo Li Sp : Int)  : Ans S (d + 12) 134 [cfg P4c L4c C W D A Lo Li Sp] (.tup [xi 0, xi 0]) := by
  have e : (er (.tup [.v (.int .i64 (0)), .v (.int .i64 (0))] : XV) id = er (.tup [xi 0, xi 0]) id) = xpure S none_ (d + 12) 134 [cfg P4c L4c C W D A Lo Li Sp] [] (fun y => er y id = er (.tup [xi 0, xi 0]) id) := by kernel_rfl
  refine ans e (by simp [loL, lo]) ?_
  rfl
end Go.Proofs.YtjhekjhbjaengaaGreatDoor.Ev
