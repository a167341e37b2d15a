/- The law CalmOrder of networks that are made. -/
import Derived.Test.YtjhekjhbjaengaaGreatDoorEvM4
set_option linter.unusedVariables false
set_option linter.unusedSimpArgs false
set_option maxRecDepth 100000
namespace Go.Proofs.YtjhekjhbjaengaaGreatDoor.Ev
open Go
theorem order_bounds (s : Sh) (n p : Int) (h1 : 0 ≤ p) (h2 : p < s.n) : s.wd * (mLo n + 1) + 1 < mSp s.n n ∧ mSp s.n n ≤ mLi s.n n ∧ mLi s.n n ≤ mSp s.n n + 1 ∧ 0 ≤ mSp s.n n ∧ mSp s.n n ≤ 10 ∧ 0 ≤ p * mSp s.n n ∧ p * mSp s.n n ≤ 30 ∧ (p - 1) * mSp s.n n = p * mSp s.n n - mSp s.n n ∧ s.dist 0 p * (mLo n + 1) ≤ s.wd * (mLo n + 1) ∧ 0 ≤ s.wd * (mLo n + 1) ∧ s.wd * (mLo n + 1) ≤ 6 := by
  have h := num_of s n
  have l1 := h.l1
  have l2 := h.l2
  have i1 := h.i1
  have i2 := h.i2
  have sp := h.sp
  have hg := gen_bounds s n
  have hw := wave_bounds s n
  have hc := cold_bounds s n p h1 h2
  have hd := dist_wd s p ⟨h1, h2⟩
  have e : (p - 1) * mSp s.n n = p * mSp s.n n - mSp s.n n := by rw [Int.sub_mul, Int.one_mul]
  have hm : s.dist 0 p * (mLo n + 1) ≤ s.wd * (mLo n + 1) := Int.mul_le_mul_of_nonneg_right hd (by omega)
  refine ⟨?_, by omega, by omega, hg.2.2.1, hg.2.2.2.1, hc.1, hc.2, e, hm, hw.1, hw.2⟩
  rw [sp]
  cases s <;> simp only [Sh.wd, Sh.n] <;> omega
theorem env_order (s : Sh) (n a : Int) (h1 : 0 ≤ a) (h2 : a < mA s.n n) : (a + 1) * stp n = a * stp n + stp n ∧ 2 ≤ stp n ∧ 0 ≤ a * stp n ∧ a * stp n ≤ 552 ∧ 0 * stp n = 0 := by
  have h := num_of s n
  have b1 := h.b1
  have b3 := h.b3
  have he := env_bounds s n a h1 (by omega)
  refine ⟨by rw [Int.add_mul, Int.one_mul], by unfold stp; omega, he.1, he.2, by omega⟩
theorem calmorder_zero (d : Nat) (s : Sh) (n l g p a : Int) (hs : shOf n = s) (hl1 : 0 ≤ l) (hl2 : l ≤ 255) (hg1 : 0 ≤ g) (hg2 : g ≤ 255) (hpp : l.tmod s.n = p) (haa : g.tmod (mA s.n n) = a) (hp1 : 0 ≤ p) (hp2 : p < s.n) (ha1 : 0 ≤ a) (ha2 : a < mA s.n n) (hz : p = 0) : Ans S (d + 60) 8 [xs n, .s (.int .u8 l), .s (.int .u8 g)] (.v (.bool true)) := by
  have e : ((Ans S (d + 59) 20 [] (.v (.bool true))) ∧ (Ans S (d + 59) 17 [.s (.int .i64 (n))] (cfgO s n)) ∧ ((↑s.P.length : Int) ≠ 0) ∧ (mA s.n n ≠ 0) ∧ (decide ((bif false then IntKind.i64.wrap ((IntKind.i64.wrap l).tdiv (↑s.P.length : Int)) else (IntKind.i64.wrap l).tmod (↑s.P.length : Int)) > 0) = false) ∧ (Ans S (d + 59) 23 [cfgO s n] (.s (.int .i64 (s.wd * (mLo n + 1) + 1)))) ∧ (decide (s.wd * (mLo n + 1) + 1 < mLi s.n n) = true) ∧ (Ans S (d + 59) 29 [cfgO s n, .v (.int .i64 (0)), .s (.int .i64 (bif false then IntKind.i64.wrap ((IntKind.i64.wrap l).tdiv (↑s.P.length : Int)) else (IntKind.i64.wrap l).tmod (↑s.P.length : Int)))] (.s (.int .i64 (s.dist 0 p * (mLo n + 1))))) ∧ (Ans S (d + 59) 23 [cfgO s n] (.s (.int .i64 (s.wd * (mLo n + 1) + 1)))) ∧ (decide (s.dist 0 p * (mLo n + 1) < s.wd * (mLo n + 1) + 1) = true) ∧ (Ans S (d + 59) 31 [cfgO s n, .s (.int .i64 (bif false then IntKind.i64.wrap ((IntKind.i64.wrap g).tdiv (mA s.n n)) else (IntKind.i64.wrap g).tmod (mA s.n n)))] (.s (.int .i64 (a * stp n + 2 * (mE1 n + 1))))) ∧ (Ans S (d + 59) 31 [cfgO s n, .s (.int .i64 (IntKind.i64.wrap ((bif false then IntKind.i64.wrap ((IntKind.i64.wrap g).tdiv (mA s.n n)) else (IntKind.i64.wrap g).tmod (mA s.n n)) + 1)))] (.s (.int .i64 ((a + 1) * stp n + 2 * (mE1 n + 1))))) ∧ (decide (a * stp n + 2 * (mE1 n + 1) < (a + 1) * stp n + 2 * (mE1 n + 1)) = true) ∧ (Ans S (d + 59) 31 [cfgO s n, .v (.int .i64 (0))] (.s (.int .i64 (0 * stp n + 2 * (mE1 n + 1))))) ∧ (decide (0 * stp n + 2 * (mE1 n + 1) > 0) = true) ∧ (Ans S (d + 59) 25 [cfgO s n] (.s (.int .i64 (2 * (s.wd * (mLo n + 1) + 1) + 1)))) ∧ (Ans S (d + 59) 23 [cfgO s n] (.s (.int .i64 (s.wd * (mLo n + 1) + 1)))) ∧ er (.s (.bool (2 * (s.wd * (mLo n + 1) + 1) + 1 == IntKind.i64.wrap (IntKind.i64.wrap (2 * (s.wd * (mLo n + 1) + 1)) + 1))) : XV) id = er (.v (.bool true)) id) = xpure S sumO (d + 60) 8 [xs n, .s (.int .u8 l), .s (.int .u8 g)] [Told.ret (XV.v (Value.bool true)), Told.ret (cfgO s n), .dec false, Told.ret (xs (s.wd * (mLo n + 1) + 1)), .dec true, Told.ret (xs (s.dist 0 p * (mLo n + 1))), Told.ret (xs (s.wd * (mLo n + 1) + 1)), .dec true, Told.ret (xs (a * stp n + 2 * (mE1 n + 1))), Told.ret (xs ((a + 1) * stp n + 2 * (mE1 n + 1))), .dec true, Told.ret (xs (0 * stp n + 2 * (mE1 n + 1))), .dec true, Told.ret (xs (2 * (s.wd * (mLo n + 1) + 1) + 1)), Told.ret (xs (s.wd * (mLo n + 1) + 1))] (fun y => er y id = er (.v (.bool true)) id) := by kernel_rfl
  refine ans e (by simp [loL, lo]) ?_
  have hpl := plen s; obtain ⟨n1, n2⟩ := sn_bounds s; obtain ⟨y1, y2, y3, y4, y5, y6, y7, y8, y9, y10, y11⟩ := order_bounds s n p hp1 hp2; obtain ⟨z1, z2, z3, z4, z5⟩ := env_order s n a ha1 ha2; have hgb := (gen_bounds s n).2.1; have hb1 := (num_of s n).b1
  refine ⟨?_, ?_, ?_, ?_, ?_, ?_, ?_, ?_, ?_, ?_, ?_, ?_, ?_, ?_, ?_, ?_, ?_, ?_⟩
  · exact deep (P := fun D => Ans S D 20 [] (.v (.bool true))) alive29 (by omega)
  · exact (hs ▸ made_ok (by omega) n)
  · (try simp only [Bool.not_eq_false', Bool.not_eq_true', decide_eq_true_eq, decide_eq_false_iff_not, beq_iff_eq, bne_iff_ne, ne_eq]) <;> (try simp (disch := omega) only [w64, hpl, hpp, haa, cond_true, cond_false]) <;> (try first | assumption | omega)
  · (try simp only [Bool.not_eq_false', Bool.not_eq_true', decide_eq_true_eq, decide_eq_false_iff_not, beq_iff_eq, bne_iff_ne, ne_eq]) <;> (try simp (disch := omega) only [w64, hpl, hpp, haa, cond_true, cond_false]) <;> (try first | assumption | omega)
  · (try simp only [Bool.not_eq_false', Bool.not_eq_true', decide_eq_true_eq, decide_eq_false_iff_not, beq_iff_eq, bne_iff_ne, ne_eq]) <;> (try simp (disch := omega) only [w64, hpl, hpp, haa, cond_true, cond_false]) <;> (try first | assumption | omega)
  · exact wave_ok (by omega) s n
  · (try simp only [Bool.not_eq_false', Bool.not_eq_true', decide_eq_true_eq, decide_eq_false_iff_not, beq_iff_eq, bne_iff_ne, ne_eq]) <;> (try simp (disch := omega) only [w64, hpl, hpp, haa, cond_true, cond_false]) <;> (try first | assumption | omega)
  · exact (by (try simp (disch := omega) only [w64, hpl, hpp, haa, cond_true, cond_false]) <;> exact deep (P := fun D => Ans S D 29 [cfgO s n, xs 0, xs p] (xs (s.dist 0 p * (mLo n + 1)))) (fun d => del_in d s n 0 p (by omega) (by omega) hp1 hp2) (by omega))
  · exact wave_ok (by omega) s n
  · (try simp only [Bool.not_eq_false', Bool.not_eq_true', decide_eq_true_eq, decide_eq_false_iff_not, beq_iff_eq, bne_iff_ne, ne_eq]) <;> (try simp (disch := omega) only [w64, hpl, hpp, haa, cond_true, cond_false]) <;> (try first | assumption | omega)
  · exact (by (try simp (disch := omega) only [w64, hpl, hpp, haa, cond_true, cond_false]) <;> exact deep (P := fun D => Ans S D 31 [cfgO s n, xs a] (xs (a * stp n + 2 * (mE1 n + 1)))) (fun d => env_in d s n a (by omega) (by omega)) (by omega))
  · exact (by (try simp (disch := omega) only [w64, hpl, hpp, haa, cond_true, cond_false]) <;> exact deep (P := fun D => Ans S D 31 [cfgO s n, xs (a + 1)] (xs ((a + 1) * stp n + 2 * (mE1 n + 1)))) (fun d => env_in d s n (a + 1) (by omega) (by omega)) (by omega))
  · (try simp only [Bool.not_eq_false', Bool.not_eq_true', decide_eq_true_eq, decide_eq_false_iff_not, beq_iff_eq, bne_iff_ne, ne_eq]) <;> (try simp (disch := omega) only [w64, hpl, hpp, haa, cond_true, cond_false]) <;> (try first | assumption | omega)
  · exact (by (try simp (disch := omega) only [w64, hpl, hpp, haa, cond_true, cond_false]) <;> exact deep (P := fun D => Ans S D 31 [cfgO s n, xs 0] (xs (0 * stp n + 2 * (mE1 n + 1)))) (fun d => env_in d s n 0 (by omega) (by omega)) (by omega))
  · (try simp only [Bool.not_eq_false', Bool.not_eq_true', decide_eq_true_eq, decide_eq_false_iff_not, beq_iff_eq, bne_iff_ne, ne_eq]) <;> (try simp (disch := omega) only [w64, hpl, hpp, haa, cond_true, cond_false]) <;> (try first | assumption | omega)
  · exact settle_ok (by omega) s n
  · exact wave_ok (by omega) s n
  · simp (disch := omega) only [er, w64, hpl, hpp, haa, cond_true, cond_false, beq_self_eq_true]
theorem calmorder_pos (d : Nat) (s : Sh) (n l g p a : Int) (hs : shOf n = s) (hl1 : 0 ≤ l) (hl2 : l ≤ 255) (hg1 : 0 ≤ g) (hg2 : g ≤ 255) (hpp : l.tmod s.n = p) (haa : g.tmod (mA s.n n) = a) (hp1 : 0 ≤ p) (hp2 : p < s.n) (ha1 : 0 ≤ a) (ha2 : a < mA s.n n) (hz : 0 < p) : Ans S (d + 60) 8 [xs n, .s (.int .u8 l), .s (.int .u8 g)] (.v (.bool true)) := by
  have e : ((Ans S (d + 59) 20 [] (.v (.bool true))) ∧ (Ans S (d + 59) 17 [.s (.int .i64 (n))] (cfgO s n)) ∧ ((↑s.P.length : Int) ≠ 0) ∧ (mA s.n n ≠ 0) ∧ (decide ((bif false then IntKind.i64.wrap ((IntKind.i64.wrap l).tdiv (↑s.P.length : Int)) else (IntKind.i64.wrap l).tmod (↑s.P.length : Int)) > 0) = true) ∧ (Ans S (d + 59) 27 [cfgO s n, .s (.int .i64 (IntKind.i64.wrap ((bif false then IntKind.i64.wrap ((IntKind.i64.wrap l).tdiv (↑s.P.length : Int)) else (IntKind.i64.wrap l).tmod (↑s.P.length : Int)) - 1)))] (.s (.int .i64 (mLi s.n n + (p - 1) * mSp s.n n + 1)))) ∧ (Ans S (d + 59) 23 [cfgO s n] (.s (.int .i64 (s.wd * (mLo n + 1) + 1)))) ∧ (Ans S (d + 59) 27 [cfgO s n, .s (.int .i64 (bif false then IntKind.i64.wrap ((IntKind.i64.wrap l).tdiv (↑s.P.length : Int)) else (IntKind.i64.wrap l).tmod (↑s.P.length : Int)))] (.s (.int .i64 (mLi s.n n + p * mSp s.n n + 1)))) ∧ (decide (IntKind.i64.wrap (mLi s.n n + (p - 1) * mSp s.n n + 1 + (s.wd * (mLo n + 1) + 1)) ≥ mLi s.n n + p * mSp s.n n + 1) = false) ∧ (Ans S (d + 59) 23 [cfgO s n] (.s (.int .i64 (s.wd * (mLo n + 1) + 1)))) ∧ (decide (s.wd * (mLo n + 1) + 1 < mLi s.n n) = true) ∧ (Ans S (d + 59) 29 [cfgO s n, .v (.int .i64 (0)), .s (.int .i64 (bif false then IntKind.i64.wrap ((IntKind.i64.wrap l).tdiv (↑s.P.length : Int)) else (IntKind.i64.wrap l).tmod (↑s.P.length : Int)))] (.s (.int .i64 (s.dist 0 p * (mLo n + 1))))) ∧ (Ans S (d + 59) 23 [cfgO s n] (.s (.int .i64 (s.wd * (mLo n + 1) + 1)))) ∧ (decide (s.dist 0 p * (mLo n + 1) < s.wd * (mLo n + 1) + 1) = true) ∧ (Ans S (d + 59) 31 [cfgO s n, .s (.int .i64 (bif false then IntKind.i64.wrap ((IntKind.i64.wrap g).tdiv (mA s.n n)) else (IntKind.i64.wrap g).tmod (mA s.n n)))] (.s (.int .i64 (a * stp n + 2 * (mE1 n + 1))))) ∧ (Ans S (d + 59) 31 [cfgO s n, .s (.int .i64 (IntKind.i64.wrap ((bif false then IntKind.i64.wrap ((IntKind.i64.wrap g).tdiv (mA s.n n)) else (IntKind.i64.wrap g).tmod (mA s.n n)) + 1)))] (.s (.int .i64 ((a + 1) * stp n + 2 * (mE1 n + 1))))) ∧ (decide (a * stp n + 2 * (mE1 n + 1) < (a + 1) * stp n + 2 * (mE1 n + 1)) = true) ∧ (Ans S (d + 59) 31 [cfgO s n, .v (.int .i64 (0))] (.s (.int .i64 (0 * stp n + 2 * (mE1 n + 1))))) ∧ (decide (0 * stp n + 2 * (mE1 n + 1) > 0) = true) ∧ (Ans S (d + 59) 25 [cfgO s n] (.s (.int .i64 (2 * (s.wd * (mLo n + 1) + 1) + 1)))) ∧ (Ans S (d + 59) 23 [cfgO s n] (.s (.int .i64 (s.wd * (mLo n + 1) + 1)))) ∧ er (.s (.bool (2 * (s.wd * (mLo n + 1) + 1) + 1 == IntKind.i64.wrap (IntKind.i64.wrap (2 * (s.wd * (mLo n + 1) + 1)) + 1))) : XV) id = er (.v (.bool true)) id) = xpure S sumO (d + 60) 8 [xs n, .s (.int .u8 l), .s (.int .u8 g)] [Told.ret (XV.v (Value.bool true)), Told.ret (cfgO s n), .dec true, Told.ret (xs (mLi s.n n + (p - 1) * mSp s.n n + 1)), Told.ret (xs (s.wd * (mLo n + 1) + 1)), Told.ret (xs (mLi s.n n + p * mSp s.n n + 1)), .dec false, Told.ret (xs (s.wd * (mLo n + 1) + 1)), .dec true, Told.ret (xs (s.dist 0 p * (mLo n + 1))), Told.ret (xs (s.wd * (mLo n + 1) + 1)), .dec true, Told.ret (xs (a * stp n + 2 * (mE1 n + 1))), Told.ret (xs ((a + 1) * stp n + 2 * (mE1 n + 1))), .dec true, Told.ret (xs (0 * stp n + 2 * (mE1 n + 1))), .dec true, Told.ret (xs (2 * (s.wd * (mLo n + 1) + 1) + 1)), Told.ret (xs (s.wd * (mLo n + 1) + 1))] (fun y => er y id = er (.v (.bool true)) id) := by kernel_rfl
  refine ans e (by simp [loL, lo]) ?_
  have hpl := plen s; obtain ⟨n1, n2⟩ := sn_bounds s; obtain ⟨y1, y2, y3, y4, y5, y6, y7, y8, y9, y10, y11⟩ := order_bounds s n p hp1 hp2; obtain ⟨z1, z2, z3, z4, z5⟩ := env_order s n a ha1 ha2; have hgb := (gen_bounds s n).2.1; have hb1 := (num_of s n).b1
  refine ⟨?_, ?_, ?_, ?_, ?_, ?_, ?_, ?_, ?_, ?_, ?_, ?_, ?_, ?_, ?_, ?_, ?_, ?_, ?_, ?_, ?_, ?_⟩
  · exact deep (P := fun D => Ans S D 20 [] (.v (.bool true))) alive29 (by omega)
  · exact (hs ▸ made_ok (by omega) n)
  · (try simp only [Bool.not_eq_false', Bool.not_eq_true', decide_eq_true_eq, decide_eq_false_iff_not, beq_iff_eq, bne_iff_ne, ne_eq]) <;> (try simp (disch := omega) only [w64, hpl, hpp, haa, cond_true, cond_false]) <;> (try first | assumption | omega)
  · (try simp only [Bool.not_eq_false', Bool.not_eq_true', decide_eq_true_eq, decide_eq_false_iff_not, beq_iff_eq, bne_iff_ne, ne_eq]) <;> (try simp (disch := omega) only [w64, hpl, hpp, haa, cond_true, cond_false]) <;> (try first | assumption | omega)
  · (try simp only [Bool.not_eq_false', Bool.not_eq_true', decide_eq_true_eq, decide_eq_false_iff_not, beq_iff_eq, bne_iff_ne, ne_eq]) <;> (try simp (disch := omega) only [w64, hpl, hpp, haa, cond_true, cond_false]) <;> (try first | assumption | omega)
  · exact (by (try simp (disch := omega) only [w64, hpl, hpp, haa, cond_true, cond_false]) <;> exact deep (P := fun D => Ans S D 27 [cfgO s n, xs (p - 1)] (xs (mLi s.n n + (p - 1) * mSp s.n n + 1))) (fun d => cold_in d s n (p - 1) (by omega) (by omega)) (by omega))
  · exact wave_ok (by omega) s n
  · exact (by (try simp (disch := omega) only [w64, hpl, hpp, haa, cond_true, cond_false]) <;> exact deep (P := fun D => Ans S D 27 [cfgO s n, xs p] (xs (mLi s.n n + p * mSp s.n n + 1))) (fun d => cold_in d s n p (by omega) (by omega)) (by omega))
  · (try simp only [Bool.not_eq_false', Bool.not_eq_true', decide_eq_true_eq, decide_eq_false_iff_not, beq_iff_eq, bne_iff_ne, ne_eq]) <;> (try simp (disch := omega) only [w64, hpl, hpp, haa, cond_true, cond_false]) <;> (try first | assumption | omega)
  · exact wave_ok (by omega) s n
  · (try simp only [Bool.not_eq_false', Bool.not_eq_true', decide_eq_true_eq, decide_eq_false_iff_not, beq_iff_eq, bne_iff_ne, ne_eq]) <;> (try simp (disch := omega) only [w64, hpl, hpp, haa, cond_true, cond_false]) <;> (try first | assumption | omega)
  · exact (by (try simp (disch := omega) only [w64, hpl, hpp, haa, cond_true, cond_false]) <;> exact deep (P := fun D => Ans S D 29 [cfgO s n, xs 0, xs p] (xs (s.dist 0 p * (mLo n + 1)))) (fun d => del_in d s n 0 p (by omega) (by omega) hp1 hp2) (by omega))
  · exact wave_ok (by omega) s n
  · (try simp only [Bool.not_eq_false', Bool.not_eq_true', decide_eq_true_eq, decide_eq_false_iff_not, beq_iff_eq, bne_iff_ne, ne_eq]) <;> (try simp (disch := omega) only [w64, hpl, hpp, haa, cond_true, cond_false]) <;> (try first | assumption | omega)
  · exact (by (try simp (disch := omega) only [w64, hpl, hpp, haa, cond_true, cond_false]) <;> exact deep (P := fun D => Ans S D 31 [cfgO s n, xs a] (xs (a * stp n + 2 * (mE1 n + 1)))) (fun d => env_in d s n a (by omega) (by omega)) (by omega))
  · exact (by (try simp (disch := omega) only [w64, hpl, hpp, haa, cond_true, cond_false]) <;> exact deep (P := fun D => Ans S D 31 [cfgO s n, xs (a + 1)] (xs ((a + 1) * stp n + 2 * (mE1 n + 1)))) (fun d => env_in d s n (a + 1) (by omega) (by omega)) (by omega))
  · (try simp only [Bool.not_eq_false', Bool.not_eq_true', decide_eq_true_eq, decide_eq_false_iff_not, beq_iff_eq, bne_iff_ne, ne_eq]) <;> (try simp (disch := omega) only [w64, hpl, hpp, haa, cond_true, cond_false]) <;> (try first | assumption | omega)
  · exact (by (try simp (disch := omega) only [w64, hpl, hpp, haa, cond_true, cond_false]) <;> exact deep (P := fun D => Ans S D 31 [cfgO s n, xs 0] (xs (0 * stp n + 2 * (mE1 n + 1)))) (fun d => env_in d s n 0 (by omega) (by omega)) (by omega))
  · (try simp only [Bool.not_eq_false', Bool.not_eq_true', decide_eq_true_eq, decide_eq_false_iff_not, beq_iff_eq, bne_iff_ne, ne_eq]) <;> (try simp (disch := omega) only [w64, hpl, hpp, haa, cond_true, cond_false]) <;> (try first | assumption | omega)
  · exact settle_ok (by omega) s n
  · exact wave_ok (by omega) s n
  · simp (disch := omega) only [er, w64, hpl, hpp, haa, cond_true, cond_false, beq_self_eq_true]
end Go.Proofs.YtjhekjhbjaengaaGreatDoor.Ev
