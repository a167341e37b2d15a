/- Hops, waves and the like of networks that are made, whatever is asked. -/
import Derived.Test.YtjhekjhbjaengaaGreatDoorEvM3
namespace Go.Proofs.YtjhekjhbjaengaaGreatDoor.Ev
open Go
def coldV (s : Sh) (n p : Int) : Int := if 0 ≤ p ∧ p < s.n then mLi s.n n + p * mSp s.n n + 1 else 0
def delV (s : Sh) (n p q : Int) : Int := if (0 ≤ p ∧ p < s.n) ∧ 0 ≤ q ∧ q < s.n then s.dist p q * (mLo n + 1) else 0
def envV (s : Sh) (n g : Int) : Int := if 0 ≤ g ∧ g ≤ mA s.n n then g * stp n + 2 * (mE1 n + 1) else 0
theorem hop_ok {D : Nat} (hD : 30 ≤ D) (s : Sh) (n : Int) : Ans S D 21 [cfgO s n] (xs (mLo n + 1)) := deep (P := fun D => Ans S D 21 [cfgO s n] (xs (mLo n + 1))) (fun d => hop d s n) hD
theorem rhop_ok {D : Nat} (hD : 30 ≤ D) (s : Sh) (n : Int) : Ans S D 22 [cfgO s n] (xs (mLo n + 1)) := deep (P := fun D => Ans S D 22 [cfgO s n] (xs (mLo n + 1))) (fun d => rhop d s n) hD
theorem wave_ok {D : Nat} (hD : 30 ≤ D) (s : Sh) (n : Int) : Ans S D 23 [cfgO s n] (xs (s.wd * (mLo n + 1) + 1)) := deep (P := fun D => Ans S D 23 [cfgO s n] (xs (s.wd * (mLo n + 1) + 1))) (fun d => wave d s n) hD
theorem rwave_ok {D : Nat} (hD : 30 ≤ D) (s : Sh) (n : Int) : Ans S D 24 [cfgO s n] (xs (s.wd * (mLo n + 1) + 1)) := deep (P := fun D => Ans S D 24 [cfgO s n] (xs (s.wd * (mLo n + 1) + 1))) (fun d => rwave d s n) hD
theorem settle_ok {D : Nat} (hD : 30 ≤ D) (s : Sh) (n : Int) : Ans S D 25 [cfgO s n] (xs (2 * (s.wd * (mLo n + 1) + 1) + 1)) := deep (P := fun D => Ans S D 25 [cfgO s n] (xs (2 * (s.wd * (mLo n + 1) + 1) + 1))) (fun d => settle d s n) hD
theorem rsettle_ok {D : Nat} (hD : 30 ≤ D) (s : Sh) (n : Int) : Ans S D 26 [cfgO s n] (xs (2 * (s.wd * (mLo n + 1) + 1) + 1)) := deep (P := fun D => Ans S D 26 [cfgO s n] (xs (2 * (s.wd * (mLo n + 1) + 1) + 1))) (fun d => rsettle d s n) hD
theorem cold_ok {D : Nat} (hD : 30 ≤ D) (s : Sh) (n p : Int) : Ans S D 27 [cfgO s n, xs p] (xs (coldV s n p)) := by
  refine deep (P := fun D => Ans S D 27 [cfgO s n, xs p] (xs (coldV s n p))) (fun d => ?_) hD
  unfold coldV
  split
  · rename_i h; exact cold_in d s n p h.1 h.2
  · rename_i h
    by_cases h0 : p < 0
    · exact cold_low d s n p h0
    · exact cold_high d s n p (by omega)
theorem del_ok {D : Nat} (hD : 30 ≤ D) (s : Sh) (n p q : Int) : Ans S D 29 [cfgO s n, xs p, xs q] (xs (delV s n p q)) := by
  refine deep (P := fun D => Ans S D 29 [cfgO s n, xs p, xs q] (xs (delV s n p q))) (fun d => ?_) hD
  unfold delV
  split
  · rename_i h; exact del_in d s n p q h.1.1 h.1.2 h.2.1 h.2.2
  · rename_i h
    by_cases h0 : p < 0
    · exact del_low d s n p q h0
    by_cases h1 : s.n ≤ p
    · exact del_high d s n p q h1
    by_cases h2 : q < 0
    · exact del_lowq d s n p q (by omega) (by omega) h2
    · exact del_highq d s n p q (by omega) (by omega) (by omega)
theorem env_ok {D : Nat} (hD : 30 ≤ D) (s : Sh) (n g : Int) : Ans S D 31 [cfgO s n, xs g] (xs (envV s n g)) := by
  refine deep (P := fun D => Ans S D 31 [cfgO s n, xs g] (xs (envV s n g))) (fun d => ?_) hD
  unfold envV
  split
  · rename_i h; exact env_in d s n g h.1 h.2
  · rename_i h
    by_cases h0 : g < 0
    · exact env_low d s n g h0
    · exact env_high d s n g (by omega)
theorem rcold_ok {D : Nat} (hD : 30 ≤ D) (s : Sh) (n p : Int) : Ans S D 28 [cfgO s n, xs p] (xs (coldV s n p)) := by
  refine deep (P := fun D => Ans S D 28 [cfgO s n, xs p] (xs (coldV s n p))) (fun d => ?_) hD
  unfold coldV
  split
  · rename_i h; exact rcold_in d s n p h.1 h.2
  · rename_i h
    by_cases h0 : p < 0
    · exact rcold_low d s n p h0
    · exact rcold_high d s n p (by omega)
theorem rdel_ok {D : Nat} (hD : 30 ≤ D) (s : Sh) (n p q : Int) : Ans S D 30 [cfgO s n, xs p, xs q] (xs (delV s n p q)) := by
  refine deep (P := fun D => Ans S D 30 [cfgO s n, xs p, xs q] (xs (delV s n p q))) (fun d => ?_) hD
  unfold delV
  split
  · rename_i h; exact rdel_in d s n p q h.1.1 h.1.2 h.2.1 h.2.2
  · rename_i h
    by_cases h0 : p < 0
    · exact rdel_low d s n p q h0
    by_cases h1 : s.n ≤ p
    · exact rdel_high d s n p q h1
    by_cases h2 : q < 0
    · exact rdel_lowq d s n p q (by omega) (by omega) h2
    · exact rdel_highq d s n p q (by omega) (by omega) (by omega)
theorem renv_ok {D : Nat} (hD : 30 ≤ D) (s : Sh) (n g : Int) : Ans S D 32 [cfgO s n, xs g] (xs (envV s n g)) := by
  refine deep (P := fun D => Ans S D 32 [cfgO s n, xs g] (xs (envV s n g))) (fun d => ?_) hD
  unfold envV
  split
  · rename_i h; exact renv_in d s n g h.1 h.2
  · rename_i h
    by_cases h0 : g < 0
    · exact renv_low d s n g h0
    · exact renv_high d s n g (by omega)
theorem dist_wd (s : Sh) (p : Int) (h : 0 ≤ p ∧ p < s.n) : s.dist 0 p ≤ s.wd := by
  have hp4 : p = 0 ∨ p = 1 ∨ p = 2 ∨ p = 3 := by have := sn_bounds s; omega
  rcases hp4 with rfl | rfl | rfl | rfl <;> cases s <;> decide
end Go.Proofs.YtjhekjhbjaengaaGreatDoor.Ev
