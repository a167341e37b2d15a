/- The law SteerMeets of networks that are made. -/
import Derived.Test.YtjhekjhbjaengaaGreatDoorEvL8h
import Derived.Test.YtjhekjhbjaengaaGreatDoorEvL6
set_option linter.unusedVariables false
set_option linter.unusedSimpArgs false
set_option maxRecDepth 100000
namespace Go.Proofs.YtjhekjhbjaengaaGreatDoor.Ev
open Go

theorem meets_run (d : Nat) (s : Sh) (n l : Int) (hs : shOf n = s) (hl1 : -32768 ≤ l) (hl2 : l ≤ 32767) : Ans S (d + 60) 5 [xs n, .s (.int .i16 l)] (.v (.bool true)) := by
  have e : ((Ans S (d + 59) 12 [] (.v (.bool true))) ∧ (Ans S (d + 59) 17 [.s (.int .i64 (n))] (.agg [.fsl (s.P), .fsl (s.L), .s (.int .i64 (mC n)), .v (.int .i64 (60)), .v (.int .i64 (100)), .s (.int .i64 (3 * (mE1 n + 1))), .s (.int .i64 (mD n)), .v (.int .i64 (300000)), .s (.int .i64 (mA s.n n)), .s (.int .i64 (mLo n)), .s (.int .i64 (mLi s.n n)), .s (.int .i64 (mSp s.n n)), .v (.int .i64 (12))])) ∧ (Ans S (d + 59) 19 [.agg [.fsl (s.P), .fsl (s.L), .s (.int .i64 (mC n)), .v (.int .i64 (60)), .v (.int .i64 (100)), .s (.int .i64 (3 * (mE1 n + 1))), .s (.int .i64 (mD n)), .v (.int .i64 (300000)), .s (.int .i64 (mA s.n n)), .s (.int .i64 (mLo n)), .s (.int .i64 (mLi s.n n)), .s (.int .i64 (mSp s.n n)), .v (.int .i64 (12))]] (.s (.int .i64 (mJ s n)))) ∧ (IntKind.i64.wrap (mJ s n + 1) ≠ 0) ∧ (Ans S (d + 59) 18 [.agg [.fsl (s.P), .fsl (s.L), .s (.int .i64 (mC n)), .v (.int .i64 (60)), .v (.int .i64 (100)), .s (.int .i64 (3 * (mE1 n + 1))), .s (.int .i64 (mD n)), .v (.int .i64 (300000)), .s (.int .i64 (mA s.n n)), .s (.int .i64 (mLo n)), .s (.int .i64 (mLi s.n n)), .s (.int .i64 (mSp s.n n)), .v (.int .i64 (12))], .s (.int .i64 (bif false then IntKind.i64.wrap ((IntKind.i64.wrap l).tdiv (IntKind.i64.wrap (mJ s n + 1))) else (IntKind.i64.wrap l).tmod (IntKind.i64.wrap (mJ s n + 1))))] (.tup [.s (.int .i64 (flr (l.tmod (mJ s n + 1) * 1000000) (mC n))), .v (.int .i64 (0))])) ∧ (decide (IntKind.i64.wrap (IntKind.i64.wrap (flr (l.tmod (mJ s n + 1) * 1000000) (mC n) * mC n) - IntKind.i64.wrap ((bif false then IntKind.i64.wrap ((IntKind.i64.wrap l).tdiv (IntKind.i64.wrap (mJ s n + 1))) else (IntKind.i64.wrap l).tmod (IntKind.i64.wrap (mJ s n + 1))) * 1000000)) ≤ 0) = true) ∧ er (.s (.bool (decide (IntKind.i64.wrap (IntKind.i64.wrap (flr (l.tmod (mJ s n + 1) * 1000000) (mC n) * mC n) - IntKind.i64.wrap ((bif false then IntKind.i64.wrap ((IntKind.i64.wrap l).tdiv (IntKind.i64.wrap (mJ s n + 1))) else (IntKind.i64.wrap l).tmod (IntKind.i64.wrap (mJ s n + 1))) * 1000000)) > IntKind.i64.wrap (0 - mC n)))) : XV) id = er (.v (.bool true)) id) = xpure S sumC (d + 60) 5 [xs n, .s (.int .i16 l)] [Told.ret (XV.v (Value.bool true)), Told.ret (cfgN s n), Told.ret (xs (mJ s n)), Told.ret (XV.tup [xs (flr (l.tmod (mJ s n + 1) * 1000000) (mC n)), xi 0]), .dec true] (fun y => er y id = er (.v (.bool true)) id) := by kernel_rfl
  refine ans e (by simp [loL, lo]) ?_
  obtain ⟨b1, b2⟩ := mJ_bounds s n; obtain ⟨ho1, ho2⟩ := tmod_bound (a := l) (b := mJ s n + 1) (by omega); obtain ⟨o, hoo⟩ : ∃ o, o = l.tmod (mJ s n + 1) := ⟨_, rfl⟩; rw [← hoo] at ho1 ho2; obtain ⟨k1, k2, k3⟩ := near_bounds (s := s) (n := n) (o := o) (by omega) (by omega); obtain ⟨f1, f2⟩ := flr_bound k3 k1 k2; obtain ⟨g1, g2⟩ := flr_mul (a := o * 1000000) k3; have hC := (num_of s n).c2
  refine ⟨?_, ?_, ?_, ?_, ?_, ?_, ?_⟩
  · exact deep (P := fun D => Ans S D 12 [] (.v (.bool true))) alive16 (by omega)
  · exact (hs ▸ made_ok (by omega) n)
  · exact jump_ok (by omega) s n
  · (try simp only [Bool.not_eq_false', Bool.not_eq_true', decide_eq_true_eq, decide_eq_false_iff_not, beq_iff_eq, bne_iff_ne, ne_eq, bne_eq_false_iff_eq, beq_eq_false_iff_ne, Int.reduceNeg]) <;> (try simp (disch := omega) only [w64, ← hoo, cond_true, cond_false]) <;> (try first | assumption | omega)
  · exact (by simp (disch := omega) only [w64, ← hoo, cond_true, cond_false] <;> exact rate_near_ok (by omega) s n o (by omega) (by omega))
  · (try simp only [Bool.not_eq_false', Bool.not_eq_true', decide_eq_true_eq, decide_eq_false_iff_not, beq_iff_eq, bne_iff_ne, ne_eq, bne_eq_false_iff_eq, beq_eq_false_iff_ne, Int.reduceNeg]) <;> (try simp (disch := omega) only [w64, ← hoo, cond_true, cond_false]) <;> (try first | assumption | omega)
  · simp (disch := omega) only [er, w64, ← hoo, cond_true, cond_false]; refine congrArg (fun b => AV.v (.bool b)) (decide_eq_true ?_); omega
end Go.Proofs.YtjhekjhbjaengaaGreatDoor.Ev
