/- A part of a million, rounded up, as the program and the reference have it. -/
import Derived.Test.YtjhekjhbjaengaaGreatDoorEvL
set_option linter.unusedVariables false
set_option linter.unusedSimpArgs false
set_option maxRecDepth 100000
namespace Go.Proofs.YtjhekjhbjaengaaGreatDoor.Ev
open Go

theorem part_pos (d : Nat) (n : Int) (h0 : 0 ≤ n) (h1 : n < 4000000000000000000) (hp : n.tmod 1000000 > 0) : Ans S (d + 3) 92 [xs n] (xs (ceilM n)) := by
  have e : ((decide (n.tmod 1000000 > 0) = true) ∧ er (.s (.int .i64 (IntKind.i64.wrap (IntKind.i64.wrap (n.tdiv 1000000) + 1))) : XV) id = er (xs (ceilM n)) id) = xpure S none_ (d + 3) 92 [xs n] [.dec true] (fun y => er y id = er (xs (ceilM n)) id) := by kernel_rfl
  refine ans e (by simp [loL, lo]) ?_
  refine ⟨?_, ?_⟩
  · exact decide_eq_true hp
  · unfold ceilM; (first | rw [if_pos hp] | rw [if_neg hp]); rw [Int.tdiv_eq_ediv_of_nonneg h0]; simp (disch := omega) only [w64, Int.add_zero, er]
theorem part_neg (d : Nat) (n : Int) (h0 : 0 ≤ n) (h1 : n < 4000000000000000000) (hp : ¬ n.tmod 1000000 > 0) : Ans S (d + 3) 92 [xs n] (xs (ceilM n)) := by
  have e : ((decide (n.tmod 1000000 > 0) = false) ∧ er (.s (.int .i64 (IntKind.i64.wrap (n.tdiv 1000000))) : XV) id = er (xs (ceilM n)) id) = xpure S none_ (d + 3) 92 [xs n] [.dec false] (fun y => er y id = er (xs (ceilM n)) id) := by kernel_rfl
  refine ans e (by simp [loL, lo]) ?_
  refine ⟨?_, ?_⟩
  · exact decide_eq_false hp
  · unfold ceilM; (first | rw [if_pos hp] | rw [if_neg hp]); rw [Int.tdiv_eq_ediv_of_nonneg h0]; simp (disch := omega) only [w64, Int.add_zero, er]
theorem up_pos (d : Nat) (n : Int) (h0 : 0 ≤ n) (h1 : n < 4000000000000000000) (hp : n.tmod 1000000 > 0) : Ans S (d + 3) 120 [xs n] (xs (ceilM n)) := by
  have e : ((decide (n.tmod 1000000 > 0) = true) ∧ er (.s (.int .i64 (IntKind.i64.wrap (IntKind.i64.wrap (n.tdiv 1000000) + 1))) : XV) id = er (xs (ceilM n)) id) = xpure S none_ (d + 3) 120 [xs n] [.dec true] (fun y => er y id = er (xs (ceilM n)) id) := by kernel_rfl
  refine ans e (by simp [loL, lo]) ?_
  refine ⟨?_, ?_⟩
  · exact decide_eq_true hp
  · unfold ceilM; (first | rw [if_pos hp] | rw [if_neg hp]); rw [Int.tdiv_eq_ediv_of_nonneg h0]; simp (disch := omega) only [w64, Int.add_zero, er]
theorem up_neg (d : Nat) (n : Int) (h0 : 0 ≤ n) (h1 : n < 4000000000000000000) (hp : ¬ n.tmod 1000000 > 0) : Ans S (d + 3) 120 [xs n] (xs (ceilM n)) := by
  have e : ((decide (n.tmod 1000000 > 0) = false) ∧ er (.s (.int .i64 (IntKind.i64.wrap (n.tdiv 1000000))) : XV) id = er (xs (ceilM n)) id) = xpure S none_ (d + 3) 120 [xs n] [.dec false] (fun y => er y id = er (xs (ceilM n)) id) := by kernel_rfl
  refine ans e (by simp [loL, lo]) ?_
  refine ⟨?_, ?_⟩
  · exact decide_eq_false hp
  · unfold ceilM; (first | rw [if_pos hp] | rw [if_neg hp]); rw [Int.tdiv_eq_ediv_of_nonneg h0]; simp (disch := omega) only [w64, Int.add_zero, er]
end Go.Proofs.YtjhekjhbjaengaaGreatDoor.Ev
