/- The functions of which all is known, at any depth; what holds of the numbers of a network that fits. -/
import Derived.Test.YtjhekjhbjaengaaGreatDoorEvL1
import Derived.Test.YtjhekjhbjaengaaGreatDoorEvL2
namespace Go.Proofs.YtjhekjhbjaengaaGreatDoor.Ev
open Go
def sumA (f : FuncId) : Bool := Nat.beq f 87 || Nat.beq f 134 || Nat.beq f 92 || Nat.beq f 120
theorem deep {P : Nat → Prop} {k D : Nat} (h : ∀ d, P (d + k)) (hD : k ≤ D) : P D := by
  obtain ⟨d, rfl⟩ := Nat.exists_eq_add_of_le' hD
  exact h d
theorem bpart_ok {D : Nat} {x e : Int} (hD : 3 ≤ D) (h0 : 0 ≤ x) (h1 : x < 4000000000000000000) (he : e = ceilM x) : Ans S D 92 [xs x] (xs e) := by
  subst he
  by_cases hp : x.tmod 1000000 > 0
  · exact deep (P := fun D => Ans S D 92 [xs x] (xs (ceilM x))) (fun d => part_pos d x h0 h1 hp) hD
  · exact deep (P := fun D => Ans S D 92 [xs x] (xs (ceilM x))) (fun d => part_neg d x h0 h1 hp) hD
theorem up_ok {D : Nat} {x e : Int} (hD : 3 ≤ D) (h0 : 0 ≤ x) (h1 : x < 4000000000000000000) (he : e = ceilM x) : Ans S D 120 [xs x] (xs e) := by
  subst he
  by_cases hp : x.tmod 1000000 > 0
  · exact deep (P := fun D => Ans S D 120 [xs x] (xs (ceilM x))) (fun d => up_pos d x h0 h1 hp) hD
  · exact deep (P := fun D => Ans S D 120 [xs x] (xs (ceilM x))) (fun d => up_neg d x h0 h1 hp) hD
/-- The shapes. -/
inductive Sh where
  | s1 | s2 | s3a | s3b | s3c | s4a | s4b | s4c
abbrev Sh.P : Sh → List (List XV)
  | .s1 => P1 | .s2 => P2 | .s3a => P3a | .s3b => P3b | .s3c => P3c | .s4a => P4a | .s4b => P4b | .s4c => P4c
abbrev Sh.L : Sh → List (List XV)
  | .s1 => L1 | .s2 => L2 | .s3a => L3a | .s3b => L3b | .s3c => L3c | .s4a => L4a | .s4b => L4b | .s4c => L4c
abbrev Sh.n : Sh → Int
  | .s1 => 1 | .s2 => 2 | .s3a | .s3b | .s3c => 3 | .s4a | .s4b | .s4c => 4
theorem check_ok {D : Nat} (hD : 12 ≤ D) (s : Sh) (C W Dr A Lo Li Sp : Int) : Ans S D 87 [cfg s.P s.L C W Dr A Lo Li Sp] (.tup [xi 0, xi 0]) := by
  refine deep (P := fun D => Ans S D 87 [cfg s.P s.L C W Dr A Lo Li Sp] (.tup [xi 0, xi 0])) (fun d => ?_) hD
  cases s
  · exact check1 d ..
  · exact check2 d ..
  · exact check3a d ..
  · exact check3b d ..
  · exact check3c d ..
  · exact check4a d ..
  · exact check4b d ..
  · exact check4c d ..
theorem rcheck_ok {D : Nat} (hD : 12 ≤ D) (s : Sh) (C W Dr A Lo Li Sp : Int) : Ans S D 134 [cfg s.P s.L C W Dr A Lo Li Sp] (.tup [xi 0, xi 0]) := by
  refine deep (P := fun D => Ans S D 134 [cfg s.P s.L C W Dr A Lo Li Sp] (.tup [xi 0, xi 0])) (fun d => ?_) hD
  cases s
  · exact rcheck1 d ..
  · exact rcheck2 d ..
  · exact rcheck3a d ..
  · exact rcheck3b d ..
  · exact rcheck3c d ..
  · exact rcheck4a d ..
  · exact rcheck4b d ..
  · exact rcheck4c d ..
/-- What holds of a network's numbers. -/
structure Num (p C W D A Lo Li Sp e1 e2 : Int) : Prop where
  c1 : 20000 ≤ C
  c2 : C ≤ 27000
  d1 : 0 ≤ D
  d2 : D ≤ 140
  m1 : 0 ≤ 2 * D * C
  m2 : 2 * D * C ≤ 7560000
  m3 : 0 ≤ D * C
  m4 : D * C ≤ 3780000
  he1 : e1 = ceilM (2 * D * C)
  he2 : e2 = ceilM (D * C)
  b1 : 0 ≤ e1
  b2 : e1 ≤ 8
  b3 : 0 ≤ e2
  b4 : e2 ≤ 4
  w : W = 3 * (e1 + 1)
  l1 : 0 ≤ Lo
  l2 : Lo ≤ 1
  a1 : (p - 1) * (Lo + 1) + 1 ≤ A
  a2 : A ≤ (p - 1) * (Lo + 1) + 4
  i1 : p * (Lo + 1) + 2 ≤ Li
  i2 : Li ≤ p * (Lo + 1) + 3
  sp : Sp = p * (Lo + 1) + 2
  t1 : 0 ≤ 2 * (e1 + 1) * (300000 + D)
  t2 : 2 * (e1 + 1) * (300000 + D) ≤ 6000000
  j1 : 0 ≤ 2 * A * (2 * (2 * (e1 + 1)) + 2 * e2 + 2)
  j2 : 2 * A * (2 * (2 * (e1 + 1)) + 2 * e2 + 2) ≤ 1200
  j3 : 2 * A * (4 * (e1 + 1) + 2 * e2 + 2) = 2 * A * (2 * (2 * (e1 + 1)) + 2 * e2 + 2)
end Go.Proofs.YtjhekjhbjaengaaGreatDoor.Ev
