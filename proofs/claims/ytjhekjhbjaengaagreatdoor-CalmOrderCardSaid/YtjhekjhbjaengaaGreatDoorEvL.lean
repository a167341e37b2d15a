/- What is used in all runs of the second evaluator over this program: numbers within their bounds, the networks' shapes. -/
import Derived.Test.YtjhekjhbjaengaaGreatDoorEvK10
import Derived.Test.YtjhekjhbjaengaaGreatDoorProg
import Derived.KernelRfl
namespace Go.Proofs.YtjhekjhbjaengaaGreatDoor.Ev
open Go
noncomputable def S : Sys := ⟨Tryz.prog, fun f => Nat.beq f 48 || Nat.beq f 133, 200, fun _ => none⟩
def none_ (_ : FuncId) : Bool := false
abbrev xi (x : Int) : XV := .v (.int .i64 x)
abbrev xs (x : Int) : XV := .s (.int .i64 x)
theorem w64 {n : Int} (h1 : -9223372036854775808 ≤ n) (h2 : n < 9223372036854775808) : IntKind.i64.wrap n = n := by
  unfold IntKind.wrap IntKind.bits IntKind.signed
  simp only [Bool.true_and]
  split <;> simp_all <;> omega
/-- A run with what is told: the value is as wanted. -/
theorem ans {sum : FuncId → Bool} {d : Nat} {f : FuncId} {args : List XV} {q : List Told} {r : XV} {V : Prop} (e : V = xpure S sum d f args q (fun y => er y id = er r id)) (hl : loL 0 args) (h : V) : Ans S d f args r := xpure_ok hl (e ▸ h)
def ceilM (n : Int) : Int := n.tdiv 1000000 + if n.tmod 1000000 > 0 then 1 else 0
/-- A network: its parts, its links, its numbers. -/
abbrev cfg (P L : List (List XV)) (C W D A Lo Li Sp : Int) : XV := .agg [.fsl P, .fsl L, xs C, xi 60, xi 100, xs W, xs D, xi 300000, xs A, xs Lo, xs Li, xs Sp, xi 12]
abbrev pt (n : Int) : List XV := [xi n, xi 1]
abbrev lk (a b p q r s : Int) : List XV := [xi a, xi b, xi p, xi q, xi r, xi s]
abbrev P1 : List (List XV) := [pt 5]
abbrev L1 : List (List XV) := []
abbrev P2 : List (List XV) := [pt 6, pt 6]
abbrev L2 : List (List XV) := [lk 0 1 0 1 0 1]
abbrev P3a : List (List XV) := [pt 6, pt 8, pt 6]
abbrev L3a : List (List XV) := [lk 0 1 0 1 0 1, lk 1 2 2 3 0 1]
abbrev P3b : List (List XV) := [pt 8, pt 8, pt 8]
abbrev L3b : List (List XV) := [lk 0 1 0 1 0 1, lk 1 2 2 3 0 1, lk 0 2 2 3 2 3]
abbrev P3c : List (List XV) := [pt 8, pt 6, pt 6]
abbrev L3c : List (List XV) := [lk 0 1 0 1 0 1, lk 0 2 2 3 0 1]
abbrev P4a : List (List XV) := [pt 6, pt 8, pt 8, pt 6]
abbrev L4a : List (List XV) := [lk 0 1 0 1 0 1, lk 1 2 2 3 0 1, lk 2 3 2 3 0 1]
abbrev P4b : List (List XV) := [pt 8, pt 8, pt 8, pt 8]
abbrev L4b : List (List XV) := [lk 0 1 0 1 0 1, lk 1 2 2 3 0 1, lk 2 3 2 3 0 1, lk 0 3 2 3 2 3]
abbrev P4c : List (List XV) := [pt 10, pt 6, pt 6, pt 6]
abbrev L4c : List (List XV) := [lk 0 1 0 1 0 1, lk 0 2 2 3 0 1, lk 0 3 4 5 0 1]
end Go.Proofs.YtjhekjhbjaengaaGreatDoor.Ev
