/- Made networks; more functions of which all is known. -/
import Derived.Test.YtjhekjhbjaengaaGreatDoorEvL3
import Derived.Test.YtjhekjhbjaengaaGreatDoorEvL4
namespace Go.Proofs.YtjhekjhbjaengaaGreatDoor.Ev
open Go
abbrev cfgN (s : Sh) (n : Int) : XV := cfg s.P s.L (mC n) (3 * (mE1 n + 1)) (mD n) (mA s.n n) (mLo n) (mLi s.n n) (mSp s.n n)
/-- The shape of the network that a number makes. -/
def shOf (n : Int) : Sh :=
  if mOf n % 4 = 0 then .s1 else if mOf n % 4 = 1 then .s2
  else if mOf n % 4 = 2 then (if mOf n / 4 % 4 = 1 then .s3b else if mOf n / 4 % 4 = 2 then .s3c else .s3a)
  else (if mOf n / 4 % 4 = 1 then .s4b else if mOf n / 4 % 4 = 2 then .s4c else .s4a)
theorem made_ok {D : Nat} (hD : 24 ≤ D) (n : Int) : Ans S D 17 [xs n] (cfgN (shOf n) n) := by
  refine deep (P := fun D => Ans S D 17 [xs n] (cfgN (shOf n) n)) (fun d => ?_) hD
  by_cases h1 : mOf n / 4 % 4 = 1
  · by_cases p0 : mOf n % 4 = 0
    · rw [show shOf n = .s1 by simp [shOf, p0]]; exact made1r d n p0 h1
    by_cases p1 : mOf n % 4 = 1
    · rw [show shOf n = .s2 by simp [shOf, p1]]; exact made2r d n p1 h1
    by_cases p2 : mOf n % 4 = 2
    · rw [show shOf n = .s3b by simp [shOf, p2, h1]]; exact made3b d n p2 h1
    have p3 : mOf n % 4 = 3 := by omega
    rw [show shOf n = .s4b by simp [shOf, p3, h1]]; exact made4b d n p3 h1
  by_cases h2 : mOf n / 4 % 4 = 2
  · by_cases p0 : mOf n % 4 = 0
    · rw [show shOf n = .s1 by simp [shOf, p0]]; exact made1x d n p0 h1
    by_cases p1 : mOf n % 4 = 1
    · rw [show shOf n = .s2 by simp [shOf, p1]]; exact made2s d n p1 h2
    by_cases p2 : mOf n % 4 = 2
    · rw [show shOf n = .s3c by simp [shOf, p2, h2]]; exact made3c d n p2 h2
    have p3 : mOf n % 4 = 3 := by omega
    rw [show shOf n = .s4c by simp [shOf, p3, h2]]; exact made4c d n p3 h2
  · by_cases p0 : mOf n % 4 = 0
    · rw [show shOf n = .s1 by simp [shOf, p0]]; exact made1x d n p0 h1
    by_cases p1 : mOf n % 4 = 1
    · rw [show shOf n = .s2 by simp [shOf, p1]]; exact made2x d n p1 h1 h2
    by_cases p2 : mOf n % 4 = 2
    · rw [show shOf n = .s3a by simp [shOf, p2, h1, h2]]; exact made3a d n p2 h1 h2
    have p3 : mOf n % 4 = 3 := by omega
    rw [show shOf n = .s4a by simp [shOf, p3, h1, h2]]; exact made4a d n p3 h1 h2
theorem num_of (s : Sh) (n : Int) : Num s.n (mC n) (3 * (mE1 n + 1)) (mD n) (mA s.n n) (mLo n) (mLi s.n n) (mSp s.n n) (mE1 n) (mE2 n) := num_made s.n n (by cases s <;> decide) (by cases s <;> decide)
theorem fits_ok {D : Nat} (hD : 20 ≤ D) (s : Sh) (n : Int) : Ans S D 50 [cfgN s n] (.tup [xi 0, xi 0]) := by
  refine deep (P := fun D => Ans S D 50 [cfgN s n] (.tup [xi 0, xi 0])) (fun d => ?_) hD
  have h := num_of s n
  cases s
  · exact fits1 d _ _ _ _ _ _ _ _ _ h
  · exact fits2 d _ _ _ _ _ _ _ _ _ h
  · exact fits3a d _ _ _ _ _ _ _ _ _ h
  · exact fits3b d _ _ _ _ _ _ _ _ _ h
  · exact fits3c d _ _ _ _ _ _ _ _ _ h
  · exact fits4a d _ _ _ _ _ _ _ _ _ h
  · exact fits4b d _ _ _ _ _ _ _ _ _ h
  · exact fits4c d _ _ _ _ _ _ _ _ _ h
/-- Jump. -/
abbrev jmp (A e1 e2 : Int) : Int := 2 * A * (2 * (2 * (e1 + 1)) + 2 * e2 + 2) + 2 * (2 * (e1 + 1))
def sumB (f : FuncId) : Bool := sumA f || Nat.beq f 50 || Nat.beq f 100
/-- A part, rounded down. -/
def flr (a b : Int) : Int := a.tdiv b - if a.tmod b < 0 then 1 else 0
theorem flr_eq {a b : Int} (hb : 0 < b) : flr a b = a / b := by
  unfold flr
  rw [Int.tdiv_eq_ediv, Int.tmod_eq_emod]
  have h1 := Int.emod_nonneg a (Int.ne_of_gt hb)
  have h2 := Int.emod_lt_of_pos a hb
  have hs : Int.sign b = 1 := Int.sign_eq_one_of_pos hb
  have hn : (b.natAbs : Int) = b := by omega
  split
  · rw [if_neg (by omega)]; omega
  · rename_i hne
    rw [hs, hn, if_pos (by omega)]; omega
theorem flr_bound {a b k : Int} (hb : 0 < b) (h1 : -(k * b) ≤ a) (h2 : a ≤ k * b) : -k ≤ flr a b ∧ flr a b ≤ k := by
  rw [flr_eq hb]
  refine ⟨?_, ?_⟩
  · exact (Int.le_ediv_iff_mul_le hb).2 (by rw [Int.neg_mul]; exact h1)
  · exact Int.ediv_le_of_le_mul hb h2
theorem tdiv_bound {a b k : Int} (hb : 0 < b) (h1 : -(k * b) ≤ a) (h2 : a ≤ k * b) : -k ≤ a.tdiv b ∧ a.tdiv b ≤ k := by
  by_cases h : 0 ≤ a
  · rw [Int.tdiv_eq_ediv_of_nonneg h]
    have h3 : 0 ≤ a / b := Int.ediv_nonneg h (by omega)
    have h4 : a / b ≤ k := Int.ediv_le_of_le_mul hb h2
    omega
  · have e : a.tdiv b = -((-a).tdiv b) := by rw [Int.neg_tdiv, Int.neg_neg]
    rw [e, Int.tdiv_eq_ediv_of_nonneg (by omega)]
    have h3 : 0 ≤ (-a) / b := Int.ediv_nonneg (by omega) (by omega)
    have h4 : (-a) / b ≤ k := Int.ediv_le_of_le_mul hb (by omega)
    omega
end Go.Proofs.YtjhekjhbjaengaaGreatDoor.Ev
