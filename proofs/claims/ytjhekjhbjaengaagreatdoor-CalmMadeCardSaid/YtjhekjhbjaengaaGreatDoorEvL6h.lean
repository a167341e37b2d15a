/- Steering of made networks, whatever their shape. -/
import Derived.Test.YtjhekjhbjaengaaGreatDoorEvL5
namespace Go.Proofs.YtjhekjhbjaengaaGreatDoor.Ev
open Go
abbrev mJ (s : Sh) (n : Int) : Int := 2 * mA s.n n * (2 * (2 * (mE1 n + 1)) + 2 * mE2 n + 2) + 2 * (2 * (mE1 n + 1))
theorem jump_ok {D : Nat} (hD : 20 ≤ D) (s : Sh) (n : Int) : Ans S D 19 [cfgN s n] (xs (mJ s n)) := by
  refine deep (P := fun D => Ans S D 19 [cfgN s n] (xs (mJ s n))) (fun d => ?_) hD
  have h := num_of s n
  cases s
  · exact jump1 d _ _ _ _ _ _ _ _ _ h
  · exact jump2 d _ _ _ _ _ _ _ _ _ h
  · exact jump3a d _ _ _ _ _ _ _ _ _ h
  · exact jump3b d _ _ _ _ _ _ _ _ _ h
  · exact jump3c d _ _ _ _ _ _ _ _ _ h
  · exact jump4a d _ _ _ _ _ _ _ _ _ h
  · exact jump4b d _ _ _ _ _ _ _ _ _ h
  · exact jump4c d _ _ _ _ _ _ _ _ _ h
theorem mJ_bounds (s : Sh) (n : Int) : 4 ≤ mJ s n ∧ mJ s n ≤ 1236 := by
  have h := num_of s n
  have h1 := h.j1
  have h2 := h.j2
  have h3 := h.b1
  have h4 := h.b2
  unfold mJ
  omega
theorem rate_far_ok {D : Nat} (hD : 24 ≤ D) (s : Sh) (n o : Int) (ho : o < -mJ s n ∨ o > mJ s n) : Ans S D 18 [cfgN s n, xs o] (.tup [xi 0, xs o]) := by
  refine deep (P := fun D => Ans S D 18 [cfgN s n, xs o] (.tup [xi 0, xs o])) (fun d => ?_) hD
  have h := num_of s n
  rcases ho with ho | ho
  · cases s
    · exact rate_low1 d _ _ _ _ _ _ _ _ _ o h ho
    · exact rate_low2 d _ _ _ _ _ _ _ _ _ o h ho
    · exact rate_low3a d _ _ _ _ _ _ _ _ _ o h ho
    · exact rate_low3b d _ _ _ _ _ _ _ _ _ o h ho
    · exact rate_low3c d _ _ _ _ _ _ _ _ _ o h ho
    · exact rate_low4a d _ _ _ _ _ _ _ _ _ o h ho
    · exact rate_low4b d _ _ _ _ _ _ _ _ _ o h ho
    · exact rate_low4c d _ _ _ _ _ _ _ _ _ o h ho
  · cases s
    · exact rate_high1 d _ _ _ _ _ _ _ _ _ o h ho
    · exact rate_high2 d _ _ _ _ _ _ _ _ _ o h ho
    · exact rate_high3a d _ _ _ _ _ _ _ _ _ o h ho
    · exact rate_high3b d _ _ _ _ _ _ _ _ _ o h ho
    · exact rate_high3c d _ _ _ _ _ _ _ _ _ o h ho
    · exact rate_high4a d _ _ _ _ _ _ _ _ _ o h ho
    · exact rate_high4b d _ _ _ _ _ _ _ _ _ o h ho
    · exact rate_high4c d _ _ _ _ _ _ _ _ _ o h ho
theorem near_bounds {s : Sh} {n o : Int} (h1 : -mJ s n ≤ o) (h2 : o ≤ mJ s n) : -(300000 * mC n) ≤ o * 1000000 ∧ o * 1000000 ≤ 300000 * mC n ∧ 0 < mC n := by
  have := mJ_bounds s n
  have h := (num_of s n).c1
  omega
theorem rate_near_ok {D : Nat} (hD : 24 ≤ D) (s : Sh) (n o : Int) (h1 : -mJ s n ≤ o) (h2 : o ≤ mJ s n) : Ans S D 18 [cfgN s n, xs o] (.tup [xs (flr (o * 1000000) (mC n)), xi 0]) := by
  refine deep (P := fun D => Ans S D 18 [cfgN s n, xs o] (.tup [xs (flr (o * 1000000) (mC n)), xi 0])) (fun d => ?_) hD
  have h := num_of s n
  obtain ⟨b1, b2, b3⟩ := near_bounds h1 h2
  obtain ⟨q1, q2⟩ := tdiv_bound b3 b1 b2
  by_cases hr : (o * 1000000).tmod (mC n) < 0
  · cases s
    · exact rate_neg1 d _ _ _ _ _ _ _ _ _ o h h1 h2 q1 q2 hr
    · exact rate_neg2 d _ _ _ _ _ _ _ _ _ o h h1 h2 q1 q2 hr
    · exact rate_neg3a d _ _ _ _ _ _ _ _ _ o h h1 h2 q1 q2 hr
    · exact rate_neg3b d _ _ _ _ _ _ _ _ _ o h h1 h2 q1 q2 hr
    · exact rate_neg3c d _ _ _ _ _ _ _ _ _ o h h1 h2 q1 q2 hr
    · exact rate_neg4a d _ _ _ _ _ _ _ _ _ o h h1 h2 q1 q2 hr
    · exact rate_neg4b d _ _ _ _ _ _ _ _ _ o h h1 h2 q1 q2 hr
    · exact rate_neg4c d _ _ _ _ _ _ _ _ _ o h h1 h2 q1 q2 hr
  · cases s
    · exact rate_pos1 d _ _ _ _ _ _ _ _ _ o h h1 h2 q1 q2 hr
    · exact rate_pos2 d _ _ _ _ _ _ _ _ _ o h h1 h2 q1 q2 hr
    · exact rate_pos3a d _ _ _ _ _ _ _ _ _ o h h1 h2 q1 q2 hr
    · exact rate_pos3b d _ _ _ _ _ _ _ _ _ o h h1 h2 q1 q2 hr
    · exact rate_pos3c d _ _ _ _ _ _ _ _ _ o h h1 h2 q1 q2 hr
    · exact rate_pos4a d _ _ _ _ _ _ _ _ _ o h h1 h2 q1 q2 hr
    · exact rate_pos4b d _ _ _ _ _ _ _ _ _ o h h1 h2 q1 q2 hr
    · exact rate_pos4c d _ _ _ _ _ _ _ _ _ o h h1 h2 q1 q2 hr
def sumC (f : FuncId) : Bool := Nat.beq f 17 || Nat.beq f 18 || Nat.beq f 19 || Nat.beq f 12
end Go.Proofs.YtjhekjhbjaengaaGreatDoor.Ev
