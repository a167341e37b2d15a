/- Networks of any shape: widths, distances; what is known of all their functions. -/
import Derived.Test.YtjhekjhbjaengaaGreatDoorEvL5h
import Derived.Test.YtjhekjhbjaengaaGreatDoorEvM1
import Derived.Test.YtjhekjhbjaengaaGreatDoorEvM2
namespace Go.Proofs.YtjhekjhbjaengaaGreatDoor.Ev
open Go
abbrev cfgO (s : Sh) (n : Int) : XV := .agg [.ol s.P, .ol s.L, xs (mC n), xi 60, xi 100, xs (3 * (mE1 n + 1)), xs (mD n), xi 300000, xs (mA s.n n), xs (mLo n), xs (mLi s.n n), xs (mSp s.n n), xi 12]
theorem plen (s : Sh) : (s.P.length : Int) = s.n := by cases s <;> rfl
theorem sn_bounds (s : Sh) : 1 ≤ s.n ∧ s.n ≤ 4 := by cases s <;> decide
def Sh.wd : Sh → Int
  | .s1 => 0 | .s2 => 1 | .s3a => 2 | .s3b => 1 | .s3c => 2 | .s4a => 3 | .s4b => 2 | .s4c => 2
def Sh.ds : Sh → List (List Int)
  | .s1 => [[0]] | .s2 => [[0, 1], [1, 0]] | .s3a => [[0, 1, 2], [1, 0, 1], [2, 1, 0]] | .s3b => [[0, 1, 1], [1, 0, 1], [1, 1, 0]] | .s3c => [[0, 1, 1], [1, 0, 2], [1, 2, 0]]
  | .s4a => [[0, 1, 2, 3], [1, 0, 1, 2], [2, 1, 0, 1], [3, 2, 1, 0]] | .s4b => [[0, 1, 2, 1], [1, 0, 1, 2], [2, 1, 0, 1], [1, 2, 1, 0]] | .s4c => [[0, 1, 1, 1], [1, 0, 2, 2], [1, 2, 0, 2], [1, 2, 2, 0]]
def Sh.dist (s : Sh) (a b : Int) : Int := (s.ds.getD a.toNat []).getD b.toNat 0
theorem rfits_ok {D : Nat} (hD : 20 ≤ D) (s : Sh) (n : Int) : Ans S D 100 [cfgN s n] (.tup [xi 0, xi 0]) := by
  refine deep (P := fun D => Ans S D 100 [cfgN s n] (.tup [xi 0, xi 0])) (fun d => ?_) hD
  have h := num_of s n
  cases s
  · exact rfits1 d _ _ _ _ _ _ _ _ _ h
  · exact rfits2 d _ _ _ _ _ _ _ _ _ h
  · exact rfits3a d _ _ _ _ _ _ _ _ _ h
  · exact rfits3b d _ _ _ _ _ _ _ _ _ h
  · exact rfits3c d _ _ _ _ _ _ _ _ _ h
  · exact rfits4a d _ _ _ _ _ _ _ _ _ h
  · exact rfits4b d _ _ _ _ _ _ _ _ _ h
  · exact rfits4c d _ _ _ _ _ _ _ _ _ h
theorem width_ok {D : Nat} (hD : 20 ≤ D) (s : Sh) (n : Int) : Ans S D 57 [cfgN s n] (xs s.wd) := by
  refine deep (P := fun D => Ans S D 57 [cfgN s n] (xs s.wd)) (fun d => ?_) hD
  cases s
  · exact width1 d ..
  · exact width2 d ..
  · exact width3a d ..
  · exact width3b d ..
  · exact width3c d ..
  · exact width4a d ..
  · exact width4b d ..
  · exact width4c d ..
theorem rwidth_ok {D : Nat} (hD : 20 ≤ D) (s : Sh) (n : Int) : Ans S D 58 [cfgN s n] (xs s.wd) := by
  refine deep (P := fun D => Ans S D 58 [cfgN s n] (xs s.wd)) (fun d => ?_) hD
  cases s
  · exact rwidth1 d ..
  · exact rwidth2 d ..
  · exact rwidth3a d ..
  · exact rwidth3b d ..
  · exact rwidth3c d ..
  · exact rwidth4a d ..
  · exact rwidth4b d ..
  · exact rwidth4c d ..
theorem dist_ok {D : Nat} (hD : 20 ≤ D) (s : Sh) (n a b : Int) (ha : 0 ≤ a ∧ a < s.n) (hb : 0 ≤ b ∧ b < s.n) : Ans S D 63 [cfgN s n, xs a, xs b] (xs (s.dist a b)) := by
  refine deep (P := fun D => Ans S D 63 [cfgN s n, xs a, xs b] (xs (s.dist a b))) (fun d => ?_) hD
  have ha4 : a = 0 ∨ a = 1 ∨ a = 2 ∨ a = 3 := by have := sn_bounds s; omega
  have hb4 : b = 0 ∨ b = 1 ∨ b = 2 ∨ b = 3 := by have := sn_bounds s; omega
  cases s
  · rcases ha4 with rfl | rfl | rfl | rfl <;> rcases hb4 with rfl | rfl | rfl | rfl
    · exact dist1_00 d ..
    · (simp only [Sh.n] at ha hb; omega)
    · (simp only [Sh.n] at ha hb; omega)
    · (simp only [Sh.n] at ha hb; omega)
    · (simp only [Sh.n] at ha hb; omega)
    · (simp only [Sh.n] at ha hb; omega)
    · (simp only [Sh.n] at ha hb; omega)
    · (simp only [Sh.n] at ha hb; omega)
    · (simp only [Sh.n] at ha hb; omega)
    · (simp only [Sh.n] at ha hb; omega)
    · (simp only [Sh.n] at ha hb; omega)
    · (simp only [Sh.n] at ha hb; omega)
    · (simp only [Sh.n] at ha hb; omega)
    · (simp only [Sh.n] at ha hb; omega)
    · (simp only [Sh.n] at ha hb; omega)
    · (simp only [Sh.n] at ha hb; omega)
  · rcases ha4 with rfl | rfl | rfl | rfl <;> rcases hb4 with rfl | rfl | rfl | rfl
    · exact dist2_00 d ..
    · exact dist2_01 d ..
    · (simp only [Sh.n] at ha hb; omega)
    · (simp only [Sh.n] at ha hb; omega)
    · exact dist2_10 d ..
    · exact dist2_11 d ..
    · (simp only [Sh.n] at ha hb; omega)
    · (simp only [Sh.n] at ha hb; omega)
    · (simp only [Sh.n] at ha hb; omega)
    · (simp only [Sh.n] at ha hb; omega)
    · (simp only [Sh.n] at ha hb; omega)
    · (simp only [Sh.n] at ha hb; omega)
    · (simp only [Sh.n] at ha hb; omega)
    · (simp only [Sh.n] at ha hb; omega)
    · (simp only [Sh.n] at ha hb; omega)
    · (simp only [Sh.n] at ha hb; omega)
  · rcases ha4 with rfl | rfl | rfl | rfl <;> rcases hb4 with rfl | rfl | rfl | rfl
    · exact dist3a_00 d ..
    · exact dist3a_01 d ..
    · exact dist3a_02 d ..
    · (simp only [Sh.n] at ha hb; omega)
    · exact dist3a_10 d ..
    · exact dist3a_11 d ..
    · exact dist3a_12 d ..
    · (simp only [Sh.n] at ha hb; omega)
    · exact dist3a_20 d ..
    · exact dist3a_21 d ..
    · exact dist3a_22 d ..
    · (simp only [Sh.n] at ha hb; omega)
    · (simp only [Sh.n] at ha hb; omega)
    · (simp only [Sh.n] at ha hb; omega)
    · (simp only [Sh.n] at ha hb; omega)
    · (simp only [Sh.n] at ha hb; omega)
  · rcases ha4 with rfl | rfl | rfl | rfl <;> rcases hb4 with rfl | rfl | rfl | rfl
    · exact dist3b_00 d ..
    · exact dist3b_01 d ..
    · exact dist3b_02 d ..
    · (simp only [Sh.n] at ha hb; omega)
    · exact dist3b_10 d ..
    · exact dist3b_11 d ..
    · exact dist3b_12 d ..
    · (simp only [Sh.n] at ha hb; omega)
    · exact dist3b_20 d ..
    · exact dist3b_21 d ..
    · exact dist3b_22 d ..
    · (simp only [Sh.n] at ha hb; omega)
    · (simp only [Sh.n] at ha hb; omega)
    · (simp only [Sh.n] at ha hb; omega)
    · (simp only [Sh.n] at ha hb; omega)
    · (simp only [Sh.n] at ha hb; omega)
  · rcases ha4 with rfl | rfl | rfl | rfl <;> rcases hb4 with rfl | rfl | rfl | rfl
    · exact dist3c_00 d ..
    · exact dist3c_01 d ..
    · exact dist3c_02 d ..
    · (simp only [Sh.n] at ha hb; omega)
    · exact dist3c_10 d ..
    · exact dist3c_11 d ..
    · exact dist3c_12 d ..
    · (simp only [Sh.n] at ha hb; omega)
    · exact dist3c_20 d ..
    · exact dist3c_21 d ..
    · exact dist3c_22 d ..
    · (simp only [Sh.n] at ha hb; omega)
    · (simp only [Sh.n] at ha hb; omega)
    · (simp only [Sh.n] at ha hb; omega)
    · (simp only [Sh.n] at ha hb; omega)
    · (simp only [Sh.n] at ha hb; omega)
  · rcases ha4 with rfl | rfl | rfl | rfl <;> rcases hb4 with rfl | rfl | rfl | rfl
    · exact dist4a_00 d ..
    · exact dist4a_01 d ..
    · exact dist4a_02 d ..
    · exact dist4a_03 d ..
    · exact dist4a_10 d ..
    · exact dist4a_11 d ..
    · exact dist4a_12 d ..
    · exact dist4a_13 d ..
    · exact dist4a_20 d ..
    · exact dist4a_21 d ..
    · exact dist4a_22 d ..
    · exact dist4a_23 d ..
    · exact dist4a_30 d ..
    · exact dist4a_31 d ..
    · exact dist4a_32 d ..
    · exact dist4a_33 d ..
  · rcases ha4 with rfl | rfl | rfl | rfl <;> rcases hb4 with rfl | rfl | rfl | rfl
    · exact dist4b_00 d ..
    · exact dist4b_01 d ..
    · exact dist4b_02 d ..
    · exact dist4b_03 d ..
    · exact dist4b_10 d ..
    · exact dist4b_11 d ..
    · exact dist4b_12 d ..
    · exact dist4b_13 d ..
    · exact dist4b_20 d ..
    · exact dist4b_21 d ..
    · exact dist4b_22 d ..
    · exact dist4b_23 d ..
    · exact dist4b_30 d ..
    · exact dist4b_31 d ..
    · exact dist4b_32 d ..
    · exact dist4b_33 d ..
  · rcases ha4 with rfl | rfl | rfl | rfl <;> rcases hb4 with rfl | rfl | rfl | rfl
    · exact dist4c_00 d ..
    · exact dist4c_01 d ..
    · exact dist4c_02 d ..
    · exact dist4c_03 d ..
    · exact dist4c_10 d ..
    · exact dist4c_11 d ..
    · exact dist4c_12 d ..
    · exact dist4c_13 d ..
    · exact dist4c_20 d ..
    · exact dist4c_21 d ..
    · exact dist4c_22 d ..
    · exact dist4c_23 d ..
    · exact dist4c_30 d ..
    · exact dist4c_31 d ..
    · exact dist4c_32 d ..
    · exact dist4c_33 d ..
theorem rdist_ok {D : Nat} (hD : 20 ≤ D) (s : Sh) (n a b : Int) (ha : 0 ≤ a ∧ a < s.n) (hb : 0 ≤ b ∧ b < s.n) : Ans S D 64 [cfgN s n, xs a, xs b] (xs (s.dist a b)) := by
  refine deep (P := fun D => Ans S D 64 [cfgN s n, xs a, xs b] (xs (s.dist a b))) (fun d => ?_) hD
  have ha4 : a = 0 ∨ a = 1 ∨ a = 2 ∨ a = 3 := by have := sn_bounds s; omega
  have hb4 : b = 0 ∨ b = 1 ∨ b = 2 ∨ b = 3 := by have := sn_bounds s; omega
  cases s
  · rcases ha4 with rfl | rfl | rfl | rfl <;> rcases hb4 with rfl | rfl | rfl | rfl
    · exact rdist1_00 d ..
    · (simp only [Sh.n] at ha hb; omega)
    · (simp only [Sh.n] at ha hb; omega)
    · (simp only [Sh.n] at ha hb; omega)
    · (simp only [Sh.n] at ha hb; omega)
    · (simp only [Sh.n] at ha hb; omega)
    · (simp only [Sh.n] at ha hb; omega)
    · (simp only [Sh.n] at ha hb; omega)
    · (simp only [Sh.n] at ha hb; omega)
    · (simp only [Sh.n] at ha hb; omega)
    · (simp only [Sh.n] at ha hb; omega)
    · (simp only [Sh.n] at ha hb; omega)
    · (simp only [Sh.n] at ha hb; omega)
    · (simp only [Sh.n] at ha hb; omega)
    · (simp only [Sh.n] at ha hb; omega)
    · (simp only [Sh.n] at ha hb; omega)
  · rcases ha4 with rfl | rfl | rfl | rfl <;> rcases hb4 with rfl | rfl | rfl | rfl
    · exact rdist2_00 d ..
    · exact rdist2_01 d ..
    · (simp only [Sh.n] at ha hb; omega)
    · (simp only [Sh.n] at ha hb; omega)
    · exact rdist2_10 d ..
    · exact rdist2_11 d ..
    · (simp only [Sh.n] at ha hb; omega)
    · (simp only [Sh.n] at ha hb; omega)
    · (simp only [Sh.n] at ha hb; omega)
    · (simp only [Sh.n] at ha hb; omega)
    · (simp only [Sh.n] at ha hb; omega)
    · (simp only [Sh.n] at ha hb; omega)
    · (simp only [Sh.n] at ha hb; omega)
    · (simp only [Sh.n] at ha hb; omega)
    · (simp only [Sh.n] at ha hb; omega)
    · (simp only [Sh.n] at ha hb; omega)
  · rcases ha4 with rfl | rfl | rfl | rfl <;> rcases hb4 with rfl | rfl | rfl | rfl
    · exact rdist3a_00 d ..
    · exact rdist3a_01 d ..
    · exact rdist3a_02 d ..
    · (simp only [Sh.n] at ha hb; omega)
    · exact rdist3a_10 d ..
    · exact rdist3a_11 d ..
    · exact rdist3a_12 d ..
    · (simp only [Sh.n] at ha hb; omega)
    · exact rdist3a_20 d ..
    · exact rdist3a_21 d ..
    · exact rdist3a_22 d ..
    · (simp only [Sh.n] at ha hb; omega)
    · (simp only [Sh.n] at ha hb; omega)
    · (simp only [Sh.n] at ha hb; omega)
    · (simp only [Sh.n] at ha hb; omega)
    · (simp only [Sh.n] at ha hb; omega)
  · rcases ha4 with rfl | rfl | rfl | rfl <;> rcases hb4 with rfl | rfl | rfl | rfl
    · exact rdist3b_00 d ..
    · exact rdist3b_01 d ..
    · exact rdist3b_02 d ..
    · (simp only [Sh.n] at ha hb; omega)
    · exact rdist3b_10 d ..
    · exact rdist3b_11 d ..
    · exact rdist3b_12 d ..
    · (simp only [Sh.n] at ha hb; omega)
    · exact rdist3b_20 d ..
    · exact rdist3b_21 d ..
    · exact rdist3b_22 d ..
    · (simp only [Sh.n] at ha hb; omega)
    · (simp only [Sh.n] at ha hb; omega)
    · (simp only [Sh.n] at ha hb; omega)
    · (simp only [Sh.n] at ha hb; omega)
    · (simp only [Sh.n] at ha hb; omega)
  · rcases ha4 with rfl | rfl | rfl | rfl <;> rcases hb4 with rfl | rfl | rfl | rfl
    · exact rdist3c_00 d ..
    · exact rdist3c_01 d ..
    · exact rdist3c_02 d ..
    · (simp only [Sh.n] at ha hb; omega)
    · exact rdist3c_10 d ..
    · exact rdist3c_11 d ..
    · exact rdist3c_12 d ..
    · (simp only [Sh.n] at ha hb; omega)
    · exact rdist3c_20 d ..
    · exact rdist3c_21 d ..
    · exact rdist3c_22 d ..
    · (simp only [Sh.n] at ha hb; omega)
    · (simp only [Sh.n] at ha hb; omega)
    · (simp only [Sh.n] at ha hb; omega)
    · (simp only [Sh.n] at ha hb; omega)
    · (simp only [Sh.n] at ha hb; omega)
  · rcases ha4 with rfl | rfl | rfl | rfl <;> rcases hb4 with rfl | rfl | rfl | rfl
    · exact rdist4a_00 d ..
    · exact rdist4a_01 d ..
    · exact rdist4a_02 d ..
    · exact rdist4a_03 d ..
    · exact rdist4a_10 d ..
    · exact rdist4a_11 d ..
    · exact rdist4a_12 d ..
    · exact rdist4a_13 d ..
    · exact rdist4a_20 d ..
    · exact rdist4a_21 d ..
    · exact rdist4a_22 d ..
    · exact rdist4a_23 d ..
    · exact rdist4a_30 d ..
    · exact rdist4a_31 d ..
    · exact rdist4a_32 d ..
    · exact rdist4a_33 d ..
  · rcases ha4 with rfl | rfl | rfl | rfl <;> rcases hb4 with rfl | rfl | rfl | rfl
    · exact rdist4b_00 d ..
    · exact rdist4b_01 d ..
    · exact rdist4b_02 d ..
    · exact rdist4b_03 d ..
    · exact rdist4b_10 d ..
    · exact rdist4b_11 d ..
    · exact rdist4b_12 d ..
    · exact rdist4b_13 d ..
    · exact rdist4b_20 d ..
    · exact rdist4b_21 d ..
    · exact rdist4b_22 d ..
    · exact rdist4b_23 d ..
    · exact rdist4b_30 d ..
    · exact rdist4b_31 d ..
    · exact rdist4b_32 d ..
    · exact rdist4b_33 d ..
  · rcases ha4 with rfl | rfl | rfl | rfl <;> rcases hb4 with rfl | rfl | rfl | rfl
    · exact rdist4c_00 d ..
    · exact rdist4c_01 d ..
    · exact rdist4c_02 d ..
    · exact rdist4c_03 d ..
    · exact rdist4c_10 d ..
    · exact rdist4c_11 d ..
    · exact rdist4c_12 d ..
    · exact rdist4c_13 d ..
    · exact rdist4c_20 d ..
    · exact rdist4c_21 d ..
    · exact rdist4c_22 d ..
    · exact rdist4c_23 d ..
    · exact rdist4c_30 d ..
    · exact rdist4c_31 d ..
    · exact rdist4c_32 d ..
    · exact rdist4c_33 d ..
theorem wd_bounds (s : Sh) : 0 ≤ s.wd ∧ s.wd ≤ s.n - 1 := by cases s <;> decide
end Go.Proofs.YtjhekjhbjaengaaGreatDoor.Ev
