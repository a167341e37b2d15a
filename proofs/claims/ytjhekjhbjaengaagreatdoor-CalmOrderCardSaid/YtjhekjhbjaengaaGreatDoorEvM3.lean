/- Hops, waves and the like of networks that are made. -/
import Derived.Test.YtjhekjhbjaengaaGreatDoorEvM3h
set_option linter.unusedVariables false
set_option linter.unusedSimpArgs false
set_option maxRecDepth 100000
namespace Go.Proofs.YtjhekjhbjaengaaGreatDoor.Ev
open Go
def sumM (f : FuncId) : Bool := sumB f || Nat.beq f 57 || Nat.beq f 58 || Nat.beq f 63 || Nat.beq f 64
theorem gen_bounds (s : Sh) (n : Int) : 1 ≤ mA s.n n ∧ mA s.n n ≤ 12 ∧ 0 ≤ mSp s.n n ∧ mSp s.n n ≤ 10 ∧ 0 ≤ mLi s.n n ∧ mLi s.n n ≤ 11 := by
  have h := num_of s n
  have a1 := h.a1
  have a2 := h.a2
  have i1 := h.i1
  have i2 := h.i2
  have sp := h.sp
  have l1 := h.l1
  have l2 := h.l2
  cases s <;> simp only [Sh.n] at * <;> omega
abbrev stp (n : Int) : Int := 2 * (2 * (mE1 n + 1)) + 2 * mE2 n + 2
theorem env_bounds (s : Sh) (n g : Int) (h0 : 0 ≤ g) (h1 : g ≤ mA s.n n) : 0 ≤ g * stp n ∧ g * stp n ≤ 552 := by
  have h := num_of s n
  have b1 := h.b1
  have b2 := h.b2
  have b3 := h.b3
  have b4 := h.b4
  have hA := gen_bounds s n
  have hs : 0 ≤ stp n ∧ stp n ≤ 46 := by unfold stp; omega
  exact ⟨Int.mul_nonneg h0 hs.1, Int.le_trans (Int.mul_le_mul (c := 12) (d := 46) (by omega) hs.2 hs.1 (by decide)) (by decide)⟩
theorem wave_bounds (s : Sh) (n : Int) : 0 ≤ s.wd * (mLo n + 1) ∧ s.wd * (mLo n + 1) ≤ 6 := by
  have h := num_of s n
  have l1 := h.l1
  have l2 := h.l2
  cases s <;> simp only [Sh.wd] <;> omega
theorem dist_bounds (s : Sh) (n a b : Int) (ha : 0 ≤ a ∧ a < s.n) (hb : 0 ≤ b ∧ b < s.n) : 0 ≤ s.dist a b * (mLo n + 1) ∧ s.dist a b * (mLo n + 1) ≤ 6 := by
  have h := num_of s n
  have l1 := h.l1
  have l2 := h.l2
  have ha4 : a = 0 ∨ a = 1 ∨ a = 2 ∨ a = 3 := by have := sn_bounds s; omega
  have hb4 : b = 0 ∨ b = 1 ∨ b = 2 ∨ b = 3 := by have := sn_bounds s; omega
  have hd : s.dist a b = 0 ∨ s.dist a b = 1 ∨ s.dist a b = 2 ∨ s.dist a b = 3 := by
    rcases ha4 with rfl | rfl | rfl | rfl <;> rcases hb4 with rfl | rfl | rfl | rfl <;> cases s <;> decide
  rcases hd with e | e | e | e <;> rw [e] <;> omega
theorem cold_bounds (s : Sh) (n p : Int) (h1 : 0 ≤ p) (h2 : p < s.n) : 0 ≤ p * mSp s.n n ∧ p * mSp s.n n ≤ 30 := by
  have hS := gen_bounds s n
  have hp := sn_bounds s
  exact ⟨Int.mul_nonneg h1 (by omega), Int.le_trans (Int.mul_le_mul (c := 3) (d := 10) (by omega) (by omega) (by omega) (by decide)) (by decide)⟩
theorem hop (d : Nat) (s : Sh) (n : Int)  : Ans S (d + 30) 21 [cfgO s n] (xs (mLo n + 1)) := by
  have e : ((Ans S (d + 28) 50 [cfgO s n] (.tup [.v (.int .i64 (0)), .v (.int .i64 (0))])) ∧ er (.s (.int .i64 (IntKind.i64.wrap (mLo n + 1))) : XV) id = er (xs (mLo n + 1)) id) = xpure S sumM (d + 30) 21 [cfgO s n] [Told.ret (XV.tup [xi 0, xi 0])] (fun y => er y id = er (xs (mLo n + 1)) id) := by kernel_rfl
  refine ans e (by simp [loL, lo]) ?_
  obtain ⟨c1, c2, d1, d2, m1, m2, m3, m4, he1, he2, b1, b2, b3, b4, w, l1, l2, a1, a2, i1, i2, sp, t1, t2, j1, j2, j3⟩ := num_of s n; obtain ⟨x1, x2, x3, x4, x5, x6⟩ := gen_bounds s n; have hpl := plen s; obtain ⟨n1, n2⟩ := sn_bounds s; obtain ⟨v1, v2⟩ := wave_bounds s n; clear a1 a2 i1 i2 sp
  refine ⟨?_, ?_⟩
  · exact fits_ok (by omega) s n
  · simp (disch := omega) only [er, w64]
theorem wave (d : Nat) (s : Sh) (n : Int)  : Ans S (d + 30) 23 [cfgO s n] (xs (s.wd * (mLo n + 1) + 1)) := by
  have e : ((Ans S (d + 28) 50 [cfgO s n] (.tup [.v (.int .i64 (0)), .v (.int .i64 (0))])) ∧ (Ans S (d + 29) 57 [cfgO s n] (.s (.int .i64 (s.wd)))) ∧ (Ans S (d + 27) 50 [cfgO s n] (.tup [.v (.int .i64 (0)), .v (.int .i64 (0))])) ∧ er (.s (.int .i64 (IntKind.i64.wrap (IntKind.i64.wrap (s.wd * IntKind.i64.wrap (mLo n + 1)) + 1))) : XV) id = er (xs (s.wd * (mLo n + 1) + 1)) id) = xpure S sumM (d + 30) 23 [cfgO s n] [Told.ret (XV.tup [xi 0, xi 0]), Told.ret (xs s.wd), Told.ret (XV.tup [xi 0, xi 0])] (fun y => er y id = er (xs (s.wd * (mLo n + 1) + 1)) id) := by kernel_rfl
  refine ans e (by simp [loL, lo]) ?_
  obtain ⟨c1, c2, d1, d2, m1, m2, m3, m4, he1, he2, b1, b2, b3, b4, w, l1, l2, a1, a2, i1, i2, sp, t1, t2, j1, j2, j3⟩ := num_of s n; obtain ⟨x1, x2, x3, x4, x5, x6⟩ := gen_bounds s n; have hpl := plen s; obtain ⟨n1, n2⟩ := sn_bounds s; obtain ⟨v1, v2⟩ := wave_bounds s n; clear a1 a2 i1 i2 sp
  refine ⟨?_, ?_, ?_, ?_⟩
  · exact fits_ok (by omega) s n
  · exact width_ok (by omega) s n
  · exact fits_ok (by omega) s n
  · simp (disch := omega) only [er, w64]
theorem settle (d : Nat) (s : Sh) (n : Int)  : Ans S (d + 30) 25 [cfgO s n] (xs (2 * (s.wd * (mLo n + 1) + 1) + 1)) := by
  have e : ((Ans S (d + 28) 50 [cfgO s n] (.tup [.v (.int .i64 (0)), .v (.int .i64 (0))])) ∧ (Ans S (d + 27) 50 [cfgO s n] (.tup [.v (.int .i64 (0)), .v (.int .i64 (0))])) ∧ (Ans S (d + 28) 57 [cfgO s n] (.s (.int .i64 (s.wd)))) ∧ (Ans S (d + 26) 50 [cfgO s n] (.tup [.v (.int .i64 (0)), .v (.int .i64 (0))])) ∧ er (.s (.int .i64 (IntKind.i64.wrap (IntKind.i64.wrap (2 * IntKind.i64.wrap (IntKind.i64.wrap (s.wd * IntKind.i64.wrap (mLo n + 1)) + 1)) + 1))) : XV) id = er (xs (2 * (s.wd * (mLo n + 1) + 1) + 1)) id) = xpure S sumM (d + 30) 25 [cfgO s n] [Told.ret (XV.tup [xi 0, xi 0]), Told.ret (XV.tup [xi 0, xi 0]), Told.ret (xs s.wd), Told.ret (XV.tup [xi 0, xi 0])] (fun y => er y id = er (xs (2 * (s.wd * (mLo n + 1) + 1) + 1)) id) := by kernel_rfl
  refine ans e (by simp [loL, lo]) ?_
  obtain ⟨c1, c2, d1, d2, m1, m2, m3, m4, he1, he2, b1, b2, b3, b4, w, l1, l2, a1, a2, i1, i2, sp, t1, t2, j1, j2, j3⟩ := num_of s n; obtain ⟨x1, x2, x3, x4, x5, x6⟩ := gen_bounds s n; have hpl := plen s; obtain ⟨n1, n2⟩ := sn_bounds s; obtain ⟨v1, v2⟩ := wave_bounds s n; clear a1 a2 i1 i2 sp
  refine ⟨?_, ?_, ?_, ?_, ?_⟩
  · exact fits_ok (by omega) s n
  · exact fits_ok (by omega) s n
  · exact width_ok (by omega) s n
  · exact fits_ok (by omega) s n
  · simp (disch := omega) only [er, w64]
theorem rhop (d : Nat) (s : Sh) (n : Int)  : Ans S (d + 30) 22 [cfgO s n] (xs (mLo n + 1)) := by
  have e : ((Ans S (d + 27) 100 [cfgO s n] (.tup [.v (.int .i64 (0)), .v (.int .i64 (0))])) ∧ ((!decide (0 < (↑s.P.length : Int))) = false) ∧ er (.s (.int .i64 (IntKind.i64.wrap (mLo n + 1))) : XV) id = er (xs (mLo n + 1)) id) = xpure S sumM (d + 30) 22 [cfgO s n] [Told.ret (XV.tup [xi 0, xi 0]), .dec false] (fun y => er y id = er (xs (mLo n + 1)) id) := by kernel_rfl
  refine ans e (by simp [loL, lo]) ?_
  obtain ⟨c1, c2, d1, d2, m1, m2, m3, m4, he1, he2, b1, b2, b3, b4, w, l1, l2, a1, a2, i1, i2, sp, t1, t2, j1, j2, j3⟩ := num_of s n; obtain ⟨x1, x2, x3, x4, x5, x6⟩ := gen_bounds s n; have hpl := plen s; obtain ⟨n1, n2⟩ := sn_bounds s; obtain ⟨v1, v2⟩ := wave_bounds s n; clear a1 a2 i1 i2 sp
  refine ⟨?_, ?_, ?_⟩
  · exact rfits_ok (by omega) s n
  · (try simp only [Bool.not_eq_false', Bool.not_eq_true', decide_eq_true_eq, decide_eq_false_iff_not, beq_iff_eq, bne_iff_ne, ne_eq, hpl]) <;> (try simp (disch := omega) only [w64]) <;> (try first | assumption | omega)
  · simp (disch := omega) only [er, w64]
theorem rwave (d : Nat) (s : Sh) (n : Int)  : Ans S (d + 30) 24 [cfgO s n] (xs (s.wd * (mLo n + 1) + 1)) := by
  have e : ((Ans S (d + 27) 100 [cfgO s n] (.tup [.v (.int .i64 (0)), .v (.int .i64 (0))])) ∧ ((!decide (0 < (↑s.P.length : Int))) = false) ∧ (Ans S (d + 29) 58 [cfgO s n] (.s (.int .i64 (s.wd)))) ∧ (Ans S (d + 26) 100 [cfgO s n] (.tup [.v (.int .i64 (0)), .v (.int .i64 (0))])) ∧ ((!decide (0 < (↑s.P.length : Int))) = false) ∧ er (.s (.int .i64 (IntKind.i64.wrap (IntKind.i64.wrap (s.wd * IntKind.i64.wrap (mLo n + 1)) + 1))) : XV) id = er (xs (s.wd * (mLo n + 1) + 1)) id) = xpure S sumM (d + 30) 24 [cfgO s n] [Told.ret (XV.tup [xi 0, xi 0]), .dec false, Told.ret (xs s.wd), Told.ret (XV.tup [xi 0, xi 0]), .dec false] (fun y => er y id = er (xs (s.wd * (mLo n + 1) + 1)) id) := by kernel_rfl
  refine ans e (by simp [loL, lo]) ?_
  obtain ⟨c1, c2, d1, d2, m1, m2, m3, m4, he1, he2, b1, b2, b3, b4, w, l1, l2, a1, a2, i1, i2, sp, t1, t2, j1, j2, j3⟩ := num_of s n; obtain ⟨x1, x2, x3, x4, x5, x6⟩ := gen_bounds s n; have hpl := plen s; obtain ⟨n1, n2⟩ := sn_bounds s; obtain ⟨v1, v2⟩ := wave_bounds s n; clear a1 a2 i1 i2 sp
  refine ⟨?_, ?_, ?_, ?_, ?_, ?_⟩
  · exact rfits_ok (by omega) s n
  · (try simp only [Bool.not_eq_false', Bool.not_eq_true', decide_eq_true_eq, decide_eq_false_iff_not, beq_iff_eq, bne_iff_ne, ne_eq, hpl]) <;> (try simp (disch := omega) only [w64]) <;> (try first | assumption | omega)
  · exact rwidth_ok (by omega) s n
  · exact rfits_ok (by omega) s n
  · (try simp only [Bool.not_eq_false', Bool.not_eq_true', decide_eq_true_eq, decide_eq_false_iff_not, beq_iff_eq, bne_iff_ne, ne_eq, hpl]) <;> (try simp (disch := omega) only [w64]) <;> (try first | assumption | omega)
  · simp (disch := omega) only [er, w64]
theorem rsettle (d : Nat) (s : Sh) (n : Int)  : Ans S (d + 30) 26 [cfgO s n] (xs (2 * (s.wd * (mLo n + 1) + 1) + 1)) := by
  have e : ((Ans S (d + 27) 100 [cfgO s n] (.tup [.v (.int .i64 (0)), .v (.int .i64 (0))])) ∧ ((!decide (0 < (↑s.P.length : Int))) = false) ∧ (Ans S (d + 26) 100 [cfgO s n] (.tup [.v (.int .i64 (0)), .v (.int .i64 (0))])) ∧ ((!decide (0 < (↑s.P.length : Int))) = false) ∧ (Ans S (d + 28) 58 [cfgO s n] (.s (.int .i64 (s.wd)))) ∧ (Ans S (d + 25) 100 [cfgO s n] (.tup [.v (.int .i64 (0)), .v (.int .i64 (0))])) ∧ ((!decide (0 < (↑s.P.length : Int))) = false) ∧ er (.s (.int .i64 (IntKind.i64.wrap (IntKind.i64.wrap (2 * IntKind.i64.wrap (IntKind.i64.wrap (s.wd * IntKind.i64.wrap (mLo n + 1)) + 1)) + 1))) : XV) id = er (xs (2 * (s.wd * (mLo n + 1) + 1) + 1)) id) = xpure S sumM (d + 30) 26 [cfgO s n] [Told.ret (XV.tup [xi 0, xi 0]), .dec false, Told.ret (XV.tup [xi 0, xi 0]), .dec false, Told.ret (xs s.wd), Told.ret (XV.tup [xi 0, xi 0]), .dec false] (fun y => er y id = er (xs (2 * (s.wd * (mLo n + 1) + 1) + 1)) id) := by kernel_rfl
  refine ans e (by simp [loL, lo]) ?_
  obtain ⟨c1, c2, d1, d2, m1, m2, m3, m4, he1, he2, b1, b2, b3, b4, w, l1, l2, a1, a2, i1, i2, sp, t1, t2, j1, j2, j3⟩ := num_of s n; obtain ⟨x1, x2, x3, x4, x5, x6⟩ := gen_bounds s n; have hpl := plen s; obtain ⟨n1, n2⟩ := sn_bounds s; obtain ⟨v1, v2⟩ := wave_bounds s n; clear a1 a2 i1 i2 sp
  refine ⟨?_, ?_, ?_, ?_, ?_, ?_, ?_, ?_⟩
  · exact rfits_ok (by omega) s n
  · (try simp only [Bool.not_eq_false', Bool.not_eq_true', decide_eq_true_eq, decide_eq_false_iff_not, beq_iff_eq, bne_iff_ne, ne_eq, hpl]) <;> (try simp (disch := omega) only [w64]) <;> (try first | assumption | omega)
  · exact rfits_ok (by omega) s n
  · (try simp only [Bool.not_eq_false', Bool.not_eq_true', decide_eq_true_eq, decide_eq_false_iff_not, beq_iff_eq, bne_iff_ne, ne_eq, hpl]) <;> (try simp (disch := omega) only [w64]) <;> (try first | assumption | omega)
  · exact rwidth_ok (by omega) s n
  · exact rfits_ok (by omega) s n
  · (try simp only [Bool.not_eq_false', Bool.not_eq_true', decide_eq_true_eq, decide_eq_false_iff_not, beq_iff_eq, bne_iff_ne, ne_eq, hpl]) <;> (try simp (disch := omega) only [w64]) <;> (try first | assumption | omega)
  · simp (disch := omega) only [er, w64]
theorem cold_low (d : Nat) (s : Sh) (n p : Int) (hp1 : p < 0) : Ans S (d + 30) 27 [cfgO s n, xs p] (xi 0) := by
  have e : ((Ans S (d + 27) 50 [cfgO s n] (.tup [.v (.int .i64 (0)), .v (.int .i64 (0))])) ∧ (decide (p ≥ 0) = false) ∧ er (.v (.int .i64 (0)) : XV) id = er (xi 0) id) = xpure S sumM (d + 30) 27 [cfgO s n, xs p] [Told.ret (XV.tup [xi 0, xi 0]), .dec false] (fun y => er y id = er (xi 0) id) := by kernel_rfl
  refine ans e (by simp [loL, lo]) ?_
  obtain ⟨c1, c2, d1, d2, m1, m2, m3, m4, he1, he2, b1, b2, b3, b4, w, l1, l2, a1, a2, i1, i2, sp, t1, t2, j1, j2, j3⟩ := num_of s n; obtain ⟨x1, x2, x3, x4, x5, x6⟩ := gen_bounds s n; have hpl := plen s; obtain ⟨n1, n2⟩ := sn_bounds s; obtain ⟨v1, v2⟩ := wave_bounds s n; clear a1 a2 i1 i2 sp
  refine ⟨?_, ?_, ?_⟩
  · exact fits_ok (by omega) s n
  · (try simp only [Bool.not_eq_false', Bool.not_eq_true', decide_eq_true_eq, decide_eq_false_iff_not, beq_iff_eq, bne_iff_ne, ne_eq, hpl]) <;> (try simp (disch := omega) only [w64]) <;> (try first | assumption | omega)
  · simp (disch := omega) only [er, w64]
theorem cold_high (d : Nat) (s : Sh) (n p : Int) (hp1 : s.n ≤ p) : Ans S (d + 30) 27 [cfgO s n, xs p] (xi 0) := by
  have e : ((Ans S (d + 27) 50 [cfgO s n] (.tup [.v (.int .i64 (0)), .v (.int .i64 (0))])) ∧ (decide (p ≥ 0) = true) ∧ ((!decide (p < (↑s.P.length : Int))) = true) ∧ er (.v (.int .i64 (0)) : XV) id = er (xi 0) id) = xpure S sumM (d + 30) 27 [cfgO s n, xs p] [Told.ret (XV.tup [xi 0, xi 0]), .dec true, .dec true] (fun y => er y id = er (xi 0) id) := by kernel_rfl
  refine ans e (by simp [loL, lo]) ?_
  obtain ⟨c1, c2, d1, d2, m1, m2, m3, m4, he1, he2, b1, b2, b3, b4, w, l1, l2, a1, a2, i1, i2, sp, t1, t2, j1, j2, j3⟩ := num_of s n; obtain ⟨x1, x2, x3, x4, x5, x6⟩ := gen_bounds s n; have hpl := plen s; obtain ⟨n1, n2⟩ := sn_bounds s; obtain ⟨v1, v2⟩ := wave_bounds s n; clear a1 a2 i1 i2 sp
  refine ⟨?_, ?_, ?_, ?_⟩
  · exact fits_ok (by omega) s n
  · (try simp only [Bool.not_eq_false', Bool.not_eq_true', decide_eq_true_eq, decide_eq_false_iff_not, beq_iff_eq, bne_iff_ne, ne_eq, hpl]) <;> (try simp (disch := omega) only [w64]) <;> (try first | assumption | omega)
  · (try simp only [Bool.not_eq_false', Bool.not_eq_true', decide_eq_true_eq, decide_eq_false_iff_not, beq_iff_eq, bne_iff_ne, ne_eq, hpl]) <;> (try simp (disch := omega) only [w64]) <;> (try first | assumption | omega)
  · simp (disch := omega) only [er, w64]
theorem cold_in (d : Nat) (s : Sh) (n p : Int) (hp1 : 0 ≤ p) (hp2 : p < s.n) : Ans S (d + 30) 27 [cfgO s n, xs p] (xs (mLi s.n n + p * mSp s.n n + 1)) := by
  have e : ((Ans S (d + 27) 50 [cfgO s n] (.tup [.v (.int .i64 (0)), .v (.int .i64 (0))])) ∧ (decide (p ≥ 0) = true) ∧ ((!decide (p < (↑s.P.length : Int))) = false) ∧ (Ans S (d + 28) 50 [cfgO s n] (.tup [.v (.int .i64 (0)), .v (.int .i64 (0))])) ∧ (decide (p < 0) = false) ∧ (decide (p ≥ (↑s.P.length : Int)) = false) ∧ er (.s (.int .i64 (IntKind.i64.wrap (IntKind.i64.wrap (mLi s.n n + IntKind.i64.wrap (p * mSp s.n n)) + 1))) : XV) id = er (xs (mLi s.n n + p * mSp s.n n + 1)) id) = xpure S sumM (d + 30) 27 [cfgO s n, xs p] [Told.ret (XV.tup [xi 0, xi 0]), .dec true, .dec false, Told.ret (XV.tup [xi 0, xi 0]), .dec false, .dec false] (fun y => er y id = er (xs (mLi s.n n + p * mSp s.n n + 1)) id) := by kernel_rfl
  refine ans e (by simp [loL, lo]) ?_
  obtain ⟨c1, c2, d1, d2, m1, m2, m3, m4, he1, he2, b1, b2, b3, b4, w, l1, l2, a1, a2, i1, i2, sp, t1, t2, j1, j2, j3⟩ := num_of s n; obtain ⟨x1, x2, x3, x4, x5, x6⟩ := gen_bounds s n; have hpl := plen s; obtain ⟨n1, n2⟩ := sn_bounds s; obtain ⟨v1, v2⟩ := wave_bounds s n; clear a1 a2 i1 i2 sp; obtain ⟨y1, y2⟩ := cold_bounds s n p hp1 hp2
  refine ⟨?_, ?_, ?_, ?_, ?_, ?_, ?_⟩
  · exact fits_ok (by omega) s n
  · (try simp only [Bool.not_eq_false', Bool.not_eq_true', decide_eq_true_eq, decide_eq_false_iff_not, beq_iff_eq, bne_iff_ne, ne_eq, hpl]) <;> (try simp (disch := omega) only [w64]) <;> (try first | assumption | omega)
  · (try simp only [Bool.not_eq_false', Bool.not_eq_true', decide_eq_true_eq, decide_eq_false_iff_not, beq_iff_eq, bne_iff_ne, ne_eq, hpl]) <;> (try simp (disch := omega) only [w64]) <;> (try first | assumption | omega)
  · exact fits_ok (by omega) s n
  · (try simp only [Bool.not_eq_false', Bool.not_eq_true', decide_eq_true_eq, decide_eq_false_iff_not, beq_iff_eq, bne_iff_ne, ne_eq, hpl]) <;> (try simp (disch := omega) only [w64]) <;> (try first | assumption | omega)
  · (try simp only [Bool.not_eq_false', Bool.not_eq_true', decide_eq_true_eq, decide_eq_false_iff_not, beq_iff_eq, bne_iff_ne, ne_eq, hpl]) <;> (try simp (disch := omega) only [w64]) <;> (try first | assumption | omega)
  · simp (disch := omega) only [er, w64]
theorem rcold_low (d : Nat) (s : Sh) (n p : Int) (hp1 : p < 0) : Ans S (d + 30) 28 [cfgO s n, xs p] (xi 0) := by
  have e : ((Ans S (d + 28) 100 [cfgO s n] (.tup [.v (.int .i64 (0)), .v (.int .i64 (0))])) ∧ (decide (p ≥ 0) = false) ∧ er (.v (.int .i64 (0)) : XV) id = er (xi 0) id) = xpure S sumM (d + 30) 28 [cfgO s n, xs p] [Told.ret (XV.tup [xi 0, xi 0]), .dec false] (fun y => er y id = er (xi 0) id) := by kernel_rfl
  refine ans e (by simp [loL, lo]) ?_
  obtain ⟨c1, c2, d1, d2, m1, m2, m3, m4, he1, he2, b1, b2, b3, b4, w, l1, l2, a1, a2, i1, i2, sp, t1, t2, j1, j2, j3⟩ := num_of s n; obtain ⟨x1, x2, x3, x4, x5, x6⟩ := gen_bounds s n; have hpl := plen s; obtain ⟨n1, n2⟩ := sn_bounds s; obtain ⟨v1, v2⟩ := wave_bounds s n; clear a1 a2 i1 i2 sp
  refine ⟨?_, ?_, ?_⟩
  · exact rfits_ok (by omega) s n
  · (try simp only [Bool.not_eq_false', Bool.not_eq_true', decide_eq_true_eq, decide_eq_false_iff_not, beq_iff_eq, bne_iff_ne, ne_eq, hpl]) <;> (try simp (disch := omega) only [w64]) <;> (try first | assumption | omega)
  · simp (disch := omega) only [er, w64]
theorem rcold_high (d : Nat) (s : Sh) (n p : Int) (hp1 : s.n ≤ p) : Ans S (d + 30) 28 [cfgO s n, xs p] (xi 0) := by
  have e : ((Ans S (d + 28) 100 [cfgO s n] (.tup [.v (.int .i64 (0)), .v (.int .i64 (0))])) ∧ (decide (p ≥ 0) = true) ∧ ((!decide (p < (↑s.P.length : Int))) = true) ∧ er (.v (.int .i64 (0)) : XV) id = er (xi 0) id) = xpure S sumM (d + 30) 28 [cfgO s n, xs p] [Told.ret (XV.tup [xi 0, xi 0]), .dec true, .dec true] (fun y => er y id = er (xi 0) id) := by kernel_rfl
  refine ans e (by simp [loL, lo]) ?_
  obtain ⟨c1, c2, d1, d2, m1, m2, m3, m4, he1, he2, b1, b2, b3, b4, w, l1, l2, a1, a2, i1, i2, sp, t1, t2, j1, j2, j3⟩ := num_of s n; obtain ⟨x1, x2, x3, x4, x5, x6⟩ := gen_bounds s n; have hpl := plen s; obtain ⟨n1, n2⟩ := sn_bounds s; obtain ⟨v1, v2⟩ := wave_bounds s n; clear a1 a2 i1 i2 sp
  refine ⟨?_, ?_, ?_, ?_⟩
  · exact rfits_ok (by omega) s n
  · (try simp only [Bool.not_eq_false', Bool.not_eq_true', decide_eq_true_eq, decide_eq_false_iff_not, beq_iff_eq, bne_iff_ne, ne_eq, hpl]) <;> (try simp (disch := omega) only [w64]) <;> (try first | assumption | omega)
  · (try simp only [Bool.not_eq_false', Bool.not_eq_true', decide_eq_true_eq, decide_eq_false_iff_not, beq_iff_eq, bne_iff_ne, ne_eq, hpl]) <;> (try simp (disch := omega) only [w64]) <;> (try first | assumption | omega)
  · simp (disch := omega) only [er, w64]
theorem rcold_in (d : Nat) (s : Sh) (n p : Int) (hp1 : 0 ≤ p) (hp2 : p < s.n) : Ans S (d + 30) 28 [cfgO s n, xs p] (xs (mLi s.n n + p * mSp s.n n + 1)) := by
  have e : ((Ans S (d + 28) 100 [cfgO s n] (.tup [.v (.int .i64 (0)), .v (.int .i64 (0))])) ∧ (decide (p ≥ 0) = true) ∧ ((!decide (p < (↑s.P.length : Int))) = false) ∧ (Ans S (d + 27) 100 [cfgO s n] (.tup [.v (.int .i64 (0)), .v (.int .i64 (0))])) ∧ (decide (p ≥ 0) = true) ∧ ((!decide (p < (↑s.P.length : Int))) = false) ∧ er (.s (.int .i64 (IntKind.i64.wrap (IntKind.i64.wrap (mLi s.n n + IntKind.i64.wrap (p * mSp s.n n)) + 1))) : XV) id = er (xs (mLi s.n n + p * mSp s.n n + 1)) id) = xpure S sumM (d + 30) 28 [cfgO s n, xs p] [Told.ret (XV.tup [xi 0, xi 0]), .dec true, .dec false, Told.ret (XV.tup [xi 0, xi 0]), .dec true, .dec false] (fun y => er y id = er (xs (mLi s.n n + p * mSp s.n n + 1)) id) := by kernel_rfl
  refine ans e (by simp [loL, lo]) ?_
  obtain ⟨c1, c2, d1, d2, m1, m2, m3, m4, he1, he2, b1, b2, b3, b4, w, l1, l2, a1, a2, i1, i2, sp, t1, t2, j1, j2, j3⟩ := num_of s n; obtain ⟨x1, x2, x3, x4, x5, x6⟩ := gen_bounds s n; have hpl := plen s; obtain ⟨n1, n2⟩ := sn_bounds s; obtain ⟨v1, v2⟩ := wave_bounds s n; clear a1 a2 i1 i2 sp; obtain ⟨y1, y2⟩ := cold_bounds s n p hp1 hp2
  refine ⟨?_, ?_, ?_, ?_, ?_, ?_, ?_⟩
  · exact rfits_ok (by omega) s n
  · (try simp only [Bool.not_eq_false', Bool.not_eq_true', decide_eq_true_eq, decide_eq_false_iff_not, beq_iff_eq, bne_iff_ne, ne_eq, hpl]) <;> (try simp (disch := omega) only [w64]) <;> (try first | assumption | omega)
  · (try simp only [Bool.not_eq_false', Bool.not_eq_true', decide_eq_true_eq, decide_eq_false_iff_not, beq_iff_eq, bne_iff_ne, ne_eq, hpl]) <;> (try simp (disch := omega) only [w64]) <;> (try first | assumption | omega)
  · exact rfits_ok (by omega) s n
  · (try simp only [Bool.not_eq_false', Bool.not_eq_true', decide_eq_true_eq, decide_eq_false_iff_not, beq_iff_eq, bne_iff_ne, ne_eq, hpl]) <;> (try simp (disch := omega) only [w64]) <;> (try first | assumption | omega)
  · (try simp only [Bool.not_eq_false', Bool.not_eq_true', decide_eq_true_eq, decide_eq_false_iff_not, beq_iff_eq, bne_iff_ne, ne_eq, hpl]) <;> (try simp (disch := omega) only [w64]) <;> (try first | assumption | omega)
  · simp (disch := omega) only [er, w64]
theorem del_low (d : Nat) (s : Sh) (n p t : Int) (hp1 : p < 0) : Ans S (d + 30) 29 [cfgO s n, xs p, xs t] (xi 0) := by
  have e : ((Ans S (d + 27) 50 [cfgO s n] (.tup [.v (.int .i64 (0)), .v (.int .i64 (0))])) ∧ (decide (p ≥ 0) = false) ∧ er (.v (.int .i64 (0)) : XV) id = er (xi 0) id) = xpure S sumM (d + 30) 29 [cfgO s n, xs p, xs t] [Told.ret (XV.tup [xi 0, xi 0]), .dec false] (fun y => er y id = er (xi 0) id) := by kernel_rfl
  refine ans e (by simp [loL, lo]) ?_
  obtain ⟨c1, c2, d1, d2, m1, m2, m3, m4, he1, he2, b1, b2, b3, b4, w, l1, l2, a1, a2, i1, i2, sp, t1, t2, j1, j2, j3⟩ := num_of s n; obtain ⟨x1, x2, x3, x4, x5, x6⟩ := gen_bounds s n; have hpl := plen s; obtain ⟨n1, n2⟩ := sn_bounds s; obtain ⟨v1, v2⟩ := wave_bounds s n; clear a1 a2 i1 i2 sp
  refine ⟨?_, ?_, ?_⟩
  · exact fits_ok (by omega) s n
  · (try simp only [Bool.not_eq_false', Bool.not_eq_true', decide_eq_true_eq, decide_eq_false_iff_not, beq_iff_eq, bne_iff_ne, ne_eq, hpl]) <;> (try simp (disch := omega) only [w64]) <;> (try first | assumption | omega)
  · simp (disch := omega) only [er, w64]
theorem del_high (d : Nat) (s : Sh) (n p t : Int) (hp1 : s.n ≤ p) : Ans S (d + 30) 29 [cfgO s n, xs p, xs t] (xi 0) := by
  have e : ((Ans S (d + 27) 50 [cfgO s n] (.tup [.v (.int .i64 (0)), .v (.int .i64 (0))])) ∧ (decide (p ≥ 0) = true) ∧ ((!decide (p < (↑s.P.length : Int))) = true) ∧ er (.v (.int .i64 (0)) : XV) id = er (xi 0) id) = xpure S sumM (d + 30) 29 [cfgO s n, xs p, xs t] [Told.ret (XV.tup [xi 0, xi 0]), .dec true, .dec true] (fun y => er y id = er (xi 0) id) := by kernel_rfl
  refine ans e (by simp [loL, lo]) ?_
  obtain ⟨c1, c2, d1, d2, m1, m2, m3, m4, he1, he2, b1, b2, b3, b4, w, l1, l2, a1, a2, i1, i2, sp, t1, t2, j1, j2, j3⟩ := num_of s n; obtain ⟨x1, x2, x3, x4, x5, x6⟩ := gen_bounds s n; have hpl := plen s; obtain ⟨n1, n2⟩ := sn_bounds s; obtain ⟨v1, v2⟩ := wave_bounds s n; clear a1 a2 i1 i2 sp
  refine ⟨?_, ?_, ?_, ?_⟩
  · exact fits_ok (by omega) s n
  · (try simp only [Bool.not_eq_false', Bool.not_eq_true', decide_eq_true_eq, decide_eq_false_iff_not, beq_iff_eq, bne_iff_ne, ne_eq, hpl]) <;> (try simp (disch := omega) only [w64]) <;> (try first | assumption | omega)
  · (try simp only [Bool.not_eq_false', Bool.not_eq_true', decide_eq_true_eq, decide_eq_false_iff_not, beq_iff_eq, bne_iff_ne, ne_eq, hpl]) <;> (try simp (disch := omega) only [w64]) <;> (try first | assumption | omega)
  · simp (disch := omega) only [er, w64]
theorem del_lowq (d : Nat) (s : Sh) (n p t : Int) (hp1 : 0 ≤ p) (hp2 : p < s.n) (hq1 : t < 0) : Ans S (d + 30) 29 [cfgO s n, xs p, xs t] (xi 0) := by
  have e : ((Ans S (d + 27) 50 [cfgO s n] (.tup [.v (.int .i64 (0)), .v (.int .i64 (0))])) ∧ (decide (p ≥ 0) = true) ∧ ((!decide (p < (↑s.P.length : Int))) = false) ∧ (Ans S (d + 27) 50 [cfgO s n] (.tup [.v (.int .i64 (0)), .v (.int .i64 (0))])) ∧ (decide (t ≥ 0) = false) ∧ er (.v (.int .i64 (0)) : XV) id = er (xi 0) id) = xpure S sumM (d + 30) 29 [cfgO s n, xs p, xs t] [Told.ret (XV.tup [xi 0, xi 0]), .dec true, .dec false, Told.ret (XV.tup [xi 0, xi 0]), .dec false] (fun y => er y id = er (xi 0) id) := by kernel_rfl
  refine ans e (by simp [loL, lo]) ?_
  obtain ⟨c1, c2, d1, d2, m1, m2, m3, m4, he1, he2, b1, b2, b3, b4, w, l1, l2, a1, a2, i1, i2, sp, t1, t2, j1, j2, j3⟩ := num_of s n; obtain ⟨x1, x2, x3, x4, x5, x6⟩ := gen_bounds s n; have hpl := plen s; obtain ⟨n1, n2⟩ := sn_bounds s; obtain ⟨v1, v2⟩ := wave_bounds s n; clear a1 a2 i1 i2 sp
  refine ⟨?_, ?_, ?_, ?_, ?_, ?_⟩
  · exact fits_ok (by omega) s n
  · (try simp only [Bool.not_eq_false', Bool.not_eq_true', decide_eq_true_eq, decide_eq_false_iff_not, beq_iff_eq, bne_iff_ne, ne_eq, hpl]) <;> (try simp (disch := omega) only [w64]) <;> (try first | assumption | omega)
  · (try simp only [Bool.not_eq_false', Bool.not_eq_true', decide_eq_true_eq, decide_eq_false_iff_not, beq_iff_eq, bne_iff_ne, ne_eq, hpl]) <;> (try simp (disch := omega) only [w64]) <;> (try first | assumption | omega)
  · exact fits_ok (by omega) s n
  · (try simp only [Bool.not_eq_false', Bool.not_eq_true', decide_eq_true_eq, decide_eq_false_iff_not, beq_iff_eq, bne_iff_ne, ne_eq, hpl]) <;> (try simp (disch := omega) only [w64]) <;> (try first | assumption | omega)
  · simp (disch := omega) only [er, w64]
theorem del_highq (d : Nat) (s : Sh) (n p t : Int) (hp1 : 0 ≤ p) (hp2 : p < s.n) (hq1 : s.n ≤ t) : Ans S (d + 30) 29 [cfgO s n, xs p, xs t] (xi 0) := by
  have e : ((Ans S (d + 27) 50 [cfgO s n] (.tup [.v (.int .i64 (0)), .v (.int .i64 (0))])) ∧ (decide (p ≥ 0) = true) ∧ ((!decide (p < (↑s.P.length : Int))) = false) ∧ (Ans S (d + 27) 50 [cfgO s n] (.tup [.v (.int .i64 (0)), .v (.int .i64 (0))])) ∧ (decide (t ≥ 0) = true) ∧ ((!decide (t < (↑s.P.length : Int))) = true) ∧ er (.v (.int .i64 (0)) : XV) id = er (xi 0) id) = xpure S sumM (d + 30) 29 [cfgO s n, xs p, xs t] [Told.ret (XV.tup [xi 0, xi 0]), .dec true, .dec false, Told.ret (XV.tup [xi 0, xi 0]), .dec true, .dec true] (fun y => er y id = er (xi 0) id) := by kernel_rfl
  refine ans e (by simp [loL, lo]) ?_
  obtain ⟨c1, c2, d1, d2, m1, m2, m3, m4, he1, he2, b1, b2, b3, b4, w, l1, l2, a1, a2, i1, i2, sp, t1, t2, j1, j2, j3⟩ := num_of s n; obtain ⟨x1, x2, x3, x4, x5, x6⟩ := gen_bounds s n; have hpl := plen s; obtain ⟨n1, n2⟩ := sn_bounds s; obtain ⟨v1, v2⟩ := wave_bounds s n; clear a1 a2 i1 i2 sp
  refine ⟨?_, ?_, ?_, ?_, ?_, ?_, ?_⟩
  · exact fits_ok (by omega) s n
  · (try simp only [Bool.not_eq_false', Bool.not_eq_true', decide_eq_true_eq, decide_eq_false_iff_not, beq_iff_eq, bne_iff_ne, ne_eq, hpl]) <;> (try simp (disch := omega) only [w64]) <;> (try first | assumption | omega)
  · (try simp only [Bool.not_eq_false', Bool.not_eq_true', decide_eq_true_eq, decide_eq_false_iff_not, beq_iff_eq, bne_iff_ne, ne_eq, hpl]) <;> (try simp (disch := omega) only [w64]) <;> (try first | assumption | omega)
  · exact fits_ok (by omega) s n
  · (try simp only [Bool.not_eq_false', Bool.not_eq_true', decide_eq_true_eq, decide_eq_false_iff_not, beq_iff_eq, bne_iff_ne, ne_eq, hpl]) <;> (try simp (disch := omega) only [w64]) <;> (try first | assumption | omega)
  · (try simp only [Bool.not_eq_false', Bool.not_eq_true', decide_eq_true_eq, decide_eq_false_iff_not, beq_iff_eq, bne_iff_ne, ne_eq, hpl]) <;> (try simp (disch := omega) only [w64]) <;> (try first | assumption | omega)
  · simp (disch := omega) only [er, w64]
theorem del_in (d : Nat) (s : Sh) (n p t : Int) (hp1 : 0 ≤ p) (hp2 : p < s.n) (hq1 : 0 ≤ t) (hq2 : t < s.n) : Ans S (d + 30) 29 [cfgO s n, xs p, xs t] (xs (s.dist p t * (mLo n + 1))) := by
  have e : ((Ans S (d + 27) 50 [cfgO s n] (.tup [.v (.int .i64 (0)), .v (.int .i64 (0))])) ∧ (decide (p ≥ 0) = true) ∧ ((!decide (p < (↑s.P.length : Int))) = false) ∧ (Ans S (d + 27) 50 [cfgO s n] (.tup [.v (.int .i64 (0)), .v (.int .i64 (0))])) ∧ (decide (t ≥ 0) = true) ∧ ((!decide (t < (↑s.P.length : Int))) = false) ∧ (Ans S (d + 29) 63 [cfgO s n, .s (.int .i64 (p)), .s (.int .i64 (t))] (.s (.int .i64 (s.dist p t)))) ∧ (Ans S (d + 27) 50 [cfgO s n] (.tup [.v (.int .i64 (0)), .v (.int .i64 (0))])) ∧ er (.s (.int .i64 (IntKind.i64.wrap (s.dist p t * IntKind.i64.wrap (mLo n + 1)))) : XV) id = er (xs (s.dist p t * (mLo n + 1))) id) = xpure S sumM (d + 30) 29 [cfgO s n, xs p, xs t] [Told.ret (XV.tup [xi 0, xi 0]), .dec true, .dec false, Told.ret (XV.tup [xi 0, xi 0]), .dec true, .dec false, Told.ret (xs (s.dist p t)), Told.ret (XV.tup [xi 0, xi 0])] (fun y => er y id = er (xs (s.dist p t * (mLo n + 1))) id) := by kernel_rfl
  refine ans e (by simp [loL, lo]) ?_
  obtain ⟨c1, c2, d1, d2, m1, m2, m3, m4, he1, he2, b1, b2, b3, b4, w, l1, l2, a1, a2, i1, i2, sp, t1, t2, j1, j2, j3⟩ := num_of s n; obtain ⟨x1, x2, x3, x4, x5, x6⟩ := gen_bounds s n; have hpl := plen s; obtain ⟨n1, n2⟩ := sn_bounds s; obtain ⟨v1, v2⟩ := wave_bounds s n; clear a1 a2 i1 i2 sp; obtain ⟨y1, y2⟩ := dist_bounds s n p t ⟨hp1, hp2⟩ ⟨hq1, hq2⟩
  refine ⟨?_, ?_, ?_, ?_, ?_, ?_, ?_, ?_, ?_⟩
  · exact fits_ok (by omega) s n
  · (try simp only [Bool.not_eq_false', Bool.not_eq_true', decide_eq_true_eq, decide_eq_false_iff_not, beq_iff_eq, bne_iff_ne, ne_eq, hpl]) <;> (try simp (disch := omega) only [w64]) <;> (try first | assumption | omega)
  · (try simp only [Bool.not_eq_false', Bool.not_eq_true', decide_eq_true_eq, decide_eq_false_iff_not, beq_iff_eq, bne_iff_ne, ne_eq, hpl]) <;> (try simp (disch := omega) only [w64]) <;> (try first | assumption | omega)
  · exact fits_ok (by omega) s n
  · (try simp only [Bool.not_eq_false', Bool.not_eq_true', decide_eq_true_eq, decide_eq_false_iff_not, beq_iff_eq, bne_iff_ne, ne_eq, hpl]) <;> (try simp (disch := omega) only [w64]) <;> (try first | assumption | omega)
  · (try simp only [Bool.not_eq_false', Bool.not_eq_true', decide_eq_true_eq, decide_eq_false_iff_not, beq_iff_eq, bne_iff_ne, ne_eq, hpl]) <;> (try simp (disch := omega) only [w64]) <;> (try first | assumption | omega)
  · exact dist_ok (by omega) s n p t ⟨hp1, hp2⟩ ⟨hq1, hq2⟩
  · exact fits_ok (by omega) s n
  · simp (disch := omega) only [er, w64]
theorem rdel_low (d : Nat) (s : Sh) (n p t : Int) (hp1 : p < 0) : Ans S (d + 30) 30 [cfgO s n, xs p, xs t] (xi 0) := by
  have e : ((Ans S (d + 28) 100 [cfgO s n] (.tup [.v (.int .i64 (0)), .v (.int .i64 (0))])) ∧ (decide (p ≥ 0) = false) ∧ er (.v (.int .i64 (0)) : XV) id = er (xi 0) id) = xpure S sumM (d + 30) 30 [cfgO s n, xs p, xs t] [Told.ret (XV.tup [xi 0, xi 0]), .dec false] (fun y => er y id = er (xi 0) id) := by kernel_rfl
  refine ans e (by simp [loL, lo]) ?_
  obtain ⟨c1, c2, d1, d2, m1, m2, m3, m4, he1, he2, b1, b2, b3, b4, w, l1, l2, a1, a2, i1, i2, sp, t1, t2, j1, j2, j3⟩ := num_of s n; obtain ⟨x1, x2, x3, x4, x5, x6⟩ := gen_bounds s n; have hpl := plen s; obtain ⟨n1, n2⟩ := sn_bounds s; obtain ⟨v1, v2⟩ := wave_bounds s n; clear a1 a2 i1 i2 sp
  refine ⟨?_, ?_, ?_⟩
  · exact rfits_ok (by omega) s n
  · (try simp only [Bool.not_eq_false', Bool.not_eq_true', decide_eq_true_eq, decide_eq_false_iff_not, beq_iff_eq, bne_iff_ne, ne_eq, hpl]) <;> (try simp (disch := omega) only [w64]) <;> (try first | assumption | omega)
  · simp (disch := omega) only [er, w64]
theorem rdel_high (d : Nat) (s : Sh) (n p t : Int) (hp1 : s.n ≤ p) : Ans S (d + 30) 30 [cfgO s n, xs p, xs t] (xi 0) := by
  have e : ((Ans S (d + 28) 100 [cfgO s n] (.tup [.v (.int .i64 (0)), .v (.int .i64 (0))])) ∧ (decide (p ≥ 0) = true) ∧ ((!decide (p < (↑s.P.length : Int))) = true) ∧ er (.v (.int .i64 (0)) : XV) id = er (xi 0) id) = xpure S sumM (d + 30) 30 [cfgO s n, xs p, xs t] [Told.ret (XV.tup [xi 0, xi 0]), .dec true, .dec true] (fun y => er y id = er (xi 0) id) := by kernel_rfl
  refine ans e (by simp [loL, lo]) ?_
  obtain ⟨c1, c2, d1, d2, m1, m2, m3, m4, he1, he2, b1, b2, b3, b4, w, l1, l2, a1, a2, i1, i2, sp, t1, t2, j1, j2, j3⟩ := num_of s n; obtain ⟨x1, x2, x3, x4, x5, x6⟩ := gen_bounds s n; have hpl := plen s; obtain ⟨n1, n2⟩ := sn_bounds s; obtain ⟨v1, v2⟩ := wave_bounds s n; clear a1 a2 i1 i2 sp
  refine ⟨?_, ?_, ?_, ?_⟩
  · exact rfits_ok (by omega) s n
  · (try simp only [Bool.not_eq_false', Bool.not_eq_true', decide_eq_true_eq, decide_eq_false_iff_not, beq_iff_eq, bne_iff_ne, ne_eq, hpl]) <;> (try simp (disch := omega) only [w64]) <;> (try first | assumption | omega)
  · (try simp only [Bool.not_eq_false', Bool.not_eq_true', decide_eq_true_eq, decide_eq_false_iff_not, beq_iff_eq, bne_iff_ne, ne_eq, hpl]) <;> (try simp (disch := omega) only [w64]) <;> (try first | assumption | omega)
  · simp (disch := omega) only [er, w64]
theorem rdel_lowq (d : Nat) (s : Sh) (n p t : Int) (hp1 : 0 ≤ p) (hp2 : p < s.n) (hq1 : t < 0) : Ans S (d + 30) 30 [cfgO s n, xs p, xs t] (xi 0) := by
  have e : ((Ans S (d + 28) 100 [cfgO s n] (.tup [.v (.int .i64 (0)), .v (.int .i64 (0))])) ∧ (decide (p ≥ 0) = true) ∧ ((!decide (p < (↑s.P.length : Int))) = false) ∧ (Ans S (d + 28) 100 [cfgO s n] (.tup [.v (.int .i64 (0)), .v (.int .i64 (0))])) ∧ (decide (t ≥ 0) = false) ∧ er (.v (.int .i64 (0)) : XV) id = er (xi 0) id) = xpure S sumM (d + 30) 30 [cfgO s n, xs p, xs t] [Told.ret (XV.tup [xi 0, xi 0]), .dec true, .dec false, Told.ret (XV.tup [xi 0, xi 0]), .dec false] (fun y => er y id = er (xi 0) id) := by kernel_rfl
  refine ans e (by simp [loL, lo]) ?_
  obtain ⟨c1, c2, d1, d2, m1, m2, m3, m4, he1, he2, b1, b2, b3, b4, w, l1, l2, a1, a2, i1, i2, sp, t1, t2, j1, j2, j3⟩ := num_of s n; obtain ⟨x1, x2, x3, x4, x5, x6⟩ := gen_bounds s n; have hpl := plen s; obtain ⟨n1, n2⟩ := sn_bounds s; obtain ⟨v1, v2⟩ := wave_bounds s n; clear a1 a2 i1 i2 sp
  refine ⟨?_, ?_, ?_, ?_, ?_, ?_⟩
  · exact rfits_ok (by omega) s n
  · (try simp only [Bool.not_eq_false', Bool.not_eq_true', decide_eq_true_eq, decide_eq_false_iff_not, beq_iff_eq, bne_iff_ne, ne_eq, hpl]) <;> (try simp (disch := omega) only [w64]) <;> (try first | assumption | omega)
  · (try simp only [Bool.not_eq_false', Bool.not_eq_true', decide_eq_true_eq, decide_eq_false_iff_not, beq_iff_eq, bne_iff_ne, ne_eq, hpl]) <;> (try simp (disch := omega) only [w64]) <;> (try first | assumption | omega)
  · exact rfits_ok (by omega) s n
  · (try simp only [Bool.not_eq_false', Bool.not_eq_true', decide_eq_true_eq, decide_eq_false_iff_not, beq_iff_eq, bne_iff_ne, ne_eq, hpl]) <;> (try simp (disch := omega) only [w64]) <;> (try first | assumption | omega)
  · simp (disch := omega) only [er, w64]
theorem rdel_highq (d : Nat) (s : Sh) (n p t : Int) (hp1 : 0 ≤ p) (hp2 : p < s.n) (hq1 : s.n ≤ t) : Ans S (d + 30) 30 [cfgO s n, xs p, xs t] (xi 0) := by
  have e : ((Ans S (d + 28) 100 [cfgO s n] (.tup [.v (.int .i64 (0)), .v (.int .i64 (0))])) ∧ (decide (p ≥ 0) = true) ∧ ((!decide (p < (↑s.P.length : Int))) = false) ∧ (Ans S (d + 28) 100 [cfgO s n] (.tup [.v (.int .i64 (0)), .v (.int .i64 (0))])) ∧ (decide (t ≥ 0) = true) ∧ ((!decide (t < (↑s.P.length : Int))) = true) ∧ er (.v (.int .i64 (0)) : XV) id = er (xi 0) id) = xpure S sumM (d + 30) 30 [cfgO s n, xs p, xs t] [Told.ret (XV.tup [xi 0, xi 0]), .dec true, .dec false, Told.ret (XV.tup [xi 0, xi 0]), .dec true, .dec true] (fun y => er y id = er (xi 0) id) := by kernel_rfl
  refine ans e (by simp [loL, lo]) ?_
  obtain ⟨c1, c2, d1, d2, m1, m2, m3, m4, he1, he2, b1, b2, b3, b4, w, l1, l2, a1, a2, i1, i2, sp, t1, t2, j1, j2, j3⟩ := num_of s n; obtain ⟨x1, x2, x3, x4, x5, x6⟩ := gen_bounds s n; have hpl := plen s; obtain ⟨n1, n2⟩ := sn_bounds s; obtain ⟨v1, v2⟩ := wave_bounds s n; clear a1 a2 i1 i2 sp
  refine ⟨?_, ?_, ?_, ?_, ?_, ?_, ?_⟩
  · exact rfits_ok (by omega) s n
  · (try simp only [Bool.not_eq_false', Bool.not_eq_true', decide_eq_true_eq, decide_eq_false_iff_not, beq_iff_eq, bne_iff_ne, ne_eq, hpl]) <;> (try simp (disch := omega) only [w64]) <;> (try first | assumption | omega)
  · (try simp only [Bool.not_eq_false', Bool.not_eq_true', decide_eq_true_eq, decide_eq_false_iff_not, beq_iff_eq, bne_iff_ne, ne_eq, hpl]) <;> (try simp (disch := omega) only [w64]) <;> (try first | assumption | omega)
  · exact rfits_ok (by omega) s n
  · (try simp only [Bool.not_eq_false', Bool.not_eq_true', decide_eq_true_eq, decide_eq_false_iff_not, beq_iff_eq, bne_iff_ne, ne_eq, hpl]) <;> (try simp (disch := omega) only [w64]) <;> (try first | assumption | omega)
  · (try simp only [Bool.not_eq_false', Bool.not_eq_true', decide_eq_true_eq, decide_eq_false_iff_not, beq_iff_eq, bne_iff_ne, ne_eq, hpl]) <;> (try simp (disch := omega) only [w64]) <;> (try first | assumption | omega)
  · simp (disch := omega) only [er, w64]
theorem rdel_in (d : Nat) (s : Sh) (n p t : Int) (hp1 : 0 ≤ p) (hp2 : p < s.n) (hq1 : 0 ≤ t) (hq2 : t < s.n) : Ans S (d + 30) 30 [cfgO s n, xs p, xs t] (xs (s.dist p t * (mLo n + 1))) := by
  have e : ((Ans S (d + 28) 100 [cfgO s n] (.tup [.v (.int .i64 (0)), .v (.int .i64 (0))])) ∧ (decide (p ≥ 0) = true) ∧ ((!decide (p < (↑s.P.length : Int))) = false) ∧ (Ans S (d + 28) 100 [cfgO s n] (.tup [.v (.int .i64 (0)), .v (.int .i64 (0))])) ∧ (decide (t ≥ 0) = true) ∧ ((!decide (t < (↑s.P.length : Int))) = false) ∧ (Ans S (d + 29) 64 [cfgO s n, .s (.int .i64 (p)), .s (.int .i64 (t))] (.s (.int .i64 (s.dist p t)))) ∧ (Ans S (d + 26) 100 [cfgO s n] (.tup [.v (.int .i64 (0)), .v (.int .i64 (0))])) ∧ ((!decide (0 < (↑s.P.length : Int))) = false) ∧ er (.s (.int .i64 (IntKind.i64.wrap (s.dist p t * IntKind.i64.wrap (mLo n + 1)))) : XV) id = er (xs (s.dist p t * (mLo n + 1))) id) = xpure S sumM (d + 30) 30 [cfgO s n, xs p, xs t] [Told.ret (XV.tup [xi 0, xi 0]), .dec true, .dec false, Told.ret (XV.tup [xi 0, xi 0]), .dec true, .dec false, Told.ret (xs (s.dist p t)), Told.ret (XV.tup [xi 0, xi 0]), .dec false] (fun y => er y id = er (xs (s.dist p t * (mLo n + 1))) id) := by kernel_rfl
  refine ans e (by simp [loL, lo]) ?_
  obtain ⟨c1, c2, d1, d2, m1, m2, m3, m4, he1, he2, b1, b2, b3, b4, w, l1, l2, a1, a2, i1, i2, sp, t1, t2, j1, j2, j3⟩ := num_of s n; obtain ⟨x1, x2, x3, x4, x5, x6⟩ := gen_bounds s n; have hpl := plen s; obtain ⟨n1, n2⟩ := sn_bounds s; obtain ⟨v1, v2⟩ := wave_bounds s n; clear a1 a2 i1 i2 sp; obtain ⟨y1, y2⟩ := dist_bounds s n p t ⟨hp1, hp2⟩ ⟨hq1, hq2⟩
  refine ⟨?_, ?_, ?_, ?_, ?_, ?_, ?_, ?_, ?_, ?_⟩
  · exact rfits_ok (by omega) s n
  · (try simp only [Bool.not_eq_false', Bool.not_eq_true', decide_eq_true_eq, decide_eq_false_iff_not, beq_iff_eq, bne_iff_ne, ne_eq, hpl]) <;> (try simp (disch := omega) only [w64]) <;> (try first | assumption | omega)
  · (try simp only [Bool.not_eq_false', Bool.not_eq_true', decide_eq_true_eq, decide_eq_false_iff_not, beq_iff_eq, bne_iff_ne, ne_eq, hpl]) <;> (try simp (disch := omega) only [w64]) <;> (try first | assumption | omega)
  · exact rfits_ok (by omega) s n
  · (try simp only [Bool.not_eq_false', Bool.not_eq_true', decide_eq_true_eq, decide_eq_false_iff_not, beq_iff_eq, bne_iff_ne, ne_eq, hpl]) <;> (try simp (disch := omega) only [w64]) <;> (try first | assumption | omega)
  · (try simp only [Bool.not_eq_false', Bool.not_eq_true', decide_eq_true_eq, decide_eq_false_iff_not, beq_iff_eq, bne_iff_ne, ne_eq, hpl]) <;> (try simp (disch := omega) only [w64]) <;> (try first | assumption | omega)
  · exact rdist_ok (by omega) s n p t ⟨hp1, hp2⟩ ⟨hq1, hq2⟩
  · exact rfits_ok (by omega) s n
  · (try simp only [Bool.not_eq_false', Bool.not_eq_true', decide_eq_true_eq, decide_eq_false_iff_not, beq_iff_eq, bne_iff_ne, ne_eq, hpl]) <;> (try simp (disch := omega) only [w64]) <;> (try first | assumption | omega)
  · simp (disch := omega) only [er, w64]
theorem env_low (d : Nat) (s : Sh) (n g : Int) (hg : g < 0) : Ans S (d + 30) 31 [cfgO s n, xs g] (xi 0) := by
  have e : ((Ans S (d + 28) 50 [cfgO s n] (.tup [.v (.int .i64 (0)), .v (.int .i64 (0))])) ∧ (decide (g < 0) = true) ∧ er (.v (.int .i64 (0)) : XV) id = er (xi 0) id) = xpure S sumM (d + 30) 31 [cfgO s n, xs g] [Told.ret (XV.tup [xi 0, xi 0]), .dec true] (fun y => er y id = er (xi 0) id) := by kernel_rfl
  refine ans e (by simp [loL, lo]) ?_
  obtain ⟨c1, c2, d1, d2, m1, m2, m3, m4, he1, he2, b1, b2, b3, b4, w, l1, l2, a1, a2, i1, i2, sp, t1, t2, j1, j2, j3⟩ := num_of s n; obtain ⟨x1, x2, x3, x4, x5, x6⟩ := gen_bounds s n; have hpl := plen s; obtain ⟨n1, n2⟩ := sn_bounds s; obtain ⟨v1, v2⟩ := wave_bounds s n; clear a1 a2 i1 i2 sp
  refine ⟨?_, ?_, ?_⟩
  · exact fits_ok (by omega) s n
  · (try simp only [Bool.not_eq_false', Bool.not_eq_true', decide_eq_true_eq, decide_eq_false_iff_not, beq_iff_eq, bne_iff_ne, ne_eq, hpl]) <;> (try simp (disch := omega) only [w64]) <;> (try first | assumption | omega)
  · simp (disch := omega) only [er, w64]
theorem env_high (d : Nat) (s : Sh) (n g : Int) (hg : mA s.n n < g) : Ans S (d + 30) 31 [cfgO s n, xs g] (xi 0) := by
  have e : ((Ans S (d + 28) 50 [cfgO s n] (.tup [.v (.int .i64 (0)), .v (.int .i64 (0))])) ∧ (decide (g < 0) = false) ∧ (decide (g > mA s.n n) = true) ∧ er (.v (.int .i64 (0)) : XV) id = er (xi 0) id) = xpure S sumM (d + 30) 31 [cfgO s n, xs g] [Told.ret (XV.tup [xi 0, xi 0]), .dec false, .dec true] (fun y => er y id = er (xi 0) id) := by kernel_rfl
  refine ans e (by simp [loL, lo]) ?_
  obtain ⟨c1, c2, d1, d2, m1, m2, m3, m4, he1, he2, b1, b2, b3, b4, w, l1, l2, a1, a2, i1, i2, sp, t1, t2, j1, j2, j3⟩ := num_of s n; obtain ⟨x1, x2, x3, x4, x5, x6⟩ := gen_bounds s n; have hpl := plen s; obtain ⟨n1, n2⟩ := sn_bounds s; obtain ⟨v1, v2⟩ := wave_bounds s n; clear a1 a2 i1 i2 sp
  refine ⟨?_, ?_, ?_, ?_⟩
  · exact fits_ok (by omega) s n
  · (try simp only [Bool.not_eq_false', Bool.not_eq_true', decide_eq_true_eq, decide_eq_false_iff_not, beq_iff_eq, bne_iff_ne, ne_eq, hpl]) <;> (try simp (disch := omega) only [w64]) <;> (try first | assumption | omega)
  · (try simp only [Bool.not_eq_false', Bool.not_eq_true', decide_eq_true_eq, decide_eq_false_iff_not, beq_iff_eq, bne_iff_ne, ne_eq, hpl]) <;> (try simp (disch := omega) only [w64]) <;> (try first | assumption | omega)
  · simp (disch := omega) only [er, w64]
theorem env_in (d : Nat) (s : Sh) (n g : Int) (hg1 : 0 ≤ g) (hg2 : g ≤ mA s.n n) : Ans S (d + 30) 31 [cfgO s n, xs g] (xs (g * stp n + 2 * (mE1 n + 1))) := by
  have e : ((Ans S (d + 28) 50 [cfgO s n] (.tup [.v (.int .i64 (0)), .v (.int .i64 (0))])) ∧ (decide (g < 0) = false) ∧ (decide (g > mA s.n n) = false) ∧ (Ans S (d + 26) 87 [cfgO s n] (.tup [.v (.int .i64 (0)), .v (.int .i64 (0))])) ∧ (decide (mC n ≥ 1000) = true) ∧ (decide (mD n ≥ 0) = true) ∧ (decide (mA s.n n ≥ 1) = true) ∧ (decide (mLo n ≥ 0) = true) ∧ ((!decide (mC n ≤ 1000000)) = false) ∧ ((!decide (mD n ≤ 500)) = false) ∧ ((!decide (mA s.n n ≤ 200)) = false) ∧ ((!decide (mLo n ≤ 20)) = false) ∧ (Ans S (d + 26) 92 [.s (.int .i64 (IntKind.i64.wrap (IntKind.i64.wrap (2 * mD n) * mC n)))] (.s (.int .i64 (mE1 n)))) ∧ (Ans S (d + 26) 92 [.s (.int .i64 (IntKind.i64.wrap (mD n * mC n)))] (.s (.int .i64 (mE2 n)))) ∧ (Ans S (d + 26) 92 [.s (.int .i64 (IntKind.i64.wrap (IntKind.i64.wrap (2 * IntKind.i64.wrap (mE1 n + 1)) * IntKind.i64.wrap (300000 + mD n))))] (.s (.int .i64 (ceilM (2 * (mE1 n + 1) * (300000 + mD n)))))) ∧ (Ans S (d + 26) 87 [cfgO s n] (.tup [.v (.int .i64 (0)), .v (.int .i64 (0))])) ∧ (decide (mC n ≥ 1000) = true) ∧ (decide (mD n ≥ 0) = true) ∧ (decide (mA s.n n ≥ 1) = true) ∧ (decide (mLo n ≥ 0) = true) ∧ ((!decide (mC n ≤ 1000000)) = false) ∧ ((!decide (mD n ≤ 500)) = false) ∧ ((!decide (mA s.n n ≤ 200)) = false) ∧ ((!decide (mLo n ≤ 20)) = false) ∧ (Ans S (d + 26) 92 [.s (.int .i64 (IntKind.i64.wrap (IntKind.i64.wrap (2 * mD n) * mC n)))] (.s (.int .i64 (mE1 n)))) ∧ (Ans S (d + 26) 92 [.s (.int .i64 (IntKind.i64.wrap (mD n * mC n)))] (.s (.int .i64 (mE2 n)))) ∧ (Ans S (d + 26) 92 [.s (.int .i64 (IntKind.i64.wrap (IntKind.i64.wrap (2 * IntKind.i64.wrap (mE1 n + 1)) * IntKind.i64.wrap (300000 + mD n))))] (.s (.int .i64 (ceilM (2 * (mE1 n + 1) * (300000 + mD n)))))) ∧ er (.s (.int .i64 (IntKind.i64.wrap (IntKind.i64.wrap (g * IntKind.i64.wrap (IntKind.i64.wrap (IntKind.i64.wrap (2 * IntKind.i64.wrap (2 * IntKind.i64.wrap (mE1 n + 1))) + IntKind.i64.wrap (2 * mE2 n)) + 2)) + IntKind.i64.wrap (2 * IntKind.i64.wrap (mE1 n + 1))))) : XV) id = er (xs (g * stp n + 2 * (mE1 n + 1))) id) = xpure S sumM (d + 30) 31 [cfgO s n, xs g] [Told.ret (XV.tup [xi 0, xi 0]), .dec false, .dec false, Told.ret (XV.tup [xi 0, xi 0]), .dec true, .dec true, .dec true, .dec true, .dec false, .dec false, .dec false, .dec false, Told.ret (xs (mE1 n)), Told.ret (xs (mE2 n)), Told.ret (xs (ceilM (2 * (mE1 n + 1) * (300000 + mD n)))), Told.ret (XV.tup [xi 0, xi 0]), .dec true, .dec true, .dec true, .dec true, .dec false, .dec false, .dec false, .dec false, Told.ret (xs (mE1 n)), Told.ret (xs (mE2 n)), Told.ret (xs (ceilM (2 * (mE1 n + 1) * (300000 + mD n))))] (fun y => er y id = er (xs (g * stp n + 2 * (mE1 n + 1))) id) := by kernel_rfl
  refine ans e (by simp [loL, lo]) ?_
  obtain ⟨c1, c2, d1, d2, m1, m2, m3, m4, he1, he2, b1, b2, b3, b4, w, l1, l2, a1, a2, i1, i2, sp, t1, t2, j1, j2, j3⟩ := num_of s n; obtain ⟨x1, x2, x3, x4, x5, x6⟩ := gen_bounds s n; have hpl := plen s; obtain ⟨n1, n2⟩ := sn_bounds s; obtain ⟨v1, v2⟩ := wave_bounds s n; clear a1 a2 i1 i2 sp; obtain ⟨y1, y2⟩ := env_bounds s n g hg1 hg2; simp only [stp] at y1 y2; have hst : 4 * (mE1 n + 1) + 2 * mE2 n + 2 = 2 * (2 * (mE1 n + 1)) + 2 * mE2 n + 2 := (by omega)
  refine ⟨?_, ?_, ?_, ?_, ?_, ?_, ?_, ?_, ?_, ?_, ?_, ?_, ?_, ?_, ?_, ?_, ?_, ?_, ?_, ?_, ?_, ?_, ?_, ?_, ?_, ?_, ?_, ?_⟩
  · exact fits_ok (by omega) s n
  · (try simp only [Bool.not_eq_false', Bool.not_eq_true', decide_eq_true_eq, decide_eq_false_iff_not, beq_iff_eq, bne_iff_ne, ne_eq, hpl]) <;> (try simp (disch := omega) only [w64]) <;> (try first | assumption | omega)
  · (try simp only [Bool.not_eq_false', Bool.not_eq_true', decide_eq_true_eq, decide_eq_false_iff_not, beq_iff_eq, bne_iff_ne, ne_eq, hpl]) <;> (try simp (disch := omega) only [w64]) <;> (try first | assumption | omega)
  · exact check_ok (by omega) s ..
  · (try simp only [Bool.not_eq_false', Bool.not_eq_true', decide_eq_true_eq, decide_eq_false_iff_not, beq_iff_eq, bne_iff_ne, ne_eq, hpl]) <;> (try simp (disch := omega) only [w64]) <;> (try first | assumption | omega)
  · (try simp only [Bool.not_eq_false', Bool.not_eq_true', decide_eq_true_eq, decide_eq_false_iff_not, beq_iff_eq, bne_iff_ne, ne_eq, hpl]) <;> (try simp (disch := omega) only [w64]) <;> (try first | assumption | omega)
  · (try simp only [Bool.not_eq_false', Bool.not_eq_true', decide_eq_true_eq, decide_eq_false_iff_not, beq_iff_eq, bne_iff_ne, ne_eq, hpl]) <;> (try simp (disch := omega) only [w64]) <;> (try first | assumption | omega)
  · (try simp only [Bool.not_eq_false', Bool.not_eq_true', decide_eq_true_eq, decide_eq_false_iff_not, beq_iff_eq, bne_iff_ne, ne_eq, hpl]) <;> (try simp (disch := omega) only [w64]) <;> (try first | assumption | omega)
  · (try simp only [Bool.not_eq_false', Bool.not_eq_true', decide_eq_true_eq, decide_eq_false_iff_not, beq_iff_eq, bne_iff_ne, ne_eq, hpl]) <;> (try simp (disch := omega) only [w64]) <;> (try first | assumption | omega)
  · (try simp only [Bool.not_eq_false', Bool.not_eq_true', decide_eq_true_eq, decide_eq_false_iff_not, beq_iff_eq, bne_iff_ne, ne_eq, hpl]) <;> (try simp (disch := omega) only [w64]) <;> (try first | assumption | omega)
  · (try simp only [Bool.not_eq_false', Bool.not_eq_true', decide_eq_true_eq, decide_eq_false_iff_not, beq_iff_eq, bne_iff_ne, ne_eq, hpl]) <;> (try simp (disch := omega) only [w64]) <;> (try first | assumption | omega)
  · (try simp only [Bool.not_eq_false', Bool.not_eq_true', decide_eq_true_eq, decide_eq_false_iff_not, beq_iff_eq, bne_iff_ne, ne_eq, hpl]) <;> (try simp (disch := omega) only [w64]) <;> (try first | assumption | omega)
  · exact bpart_ok (by omega) (by simp (disch := omega) only [w64] <;> omega) (by simp (disch := omega) only [w64] <;> omega) (by simp (disch := omega) only [w64] <;> exact rfl)
  · exact bpart_ok (by omega) (by simp (disch := omega) only [w64] <;> omega) (by simp (disch := omega) only [w64] <;> omega) (by simp (disch := omega) only [w64] <;> exact rfl)
  · exact bpart_ok (by omega) (by simp (disch := omega) only [w64] <;> omega) (by simp (disch := omega) only [w64] <;> omega) (by simp (disch := omega) only [w64] <;> exact rfl)
  · exact check_ok (by omega) s ..
  · (try simp only [Bool.not_eq_false', Bool.not_eq_true', decide_eq_true_eq, decide_eq_false_iff_not, beq_iff_eq, bne_iff_ne, ne_eq, hpl]) <;> (try simp (disch := omega) only [w64]) <;> (try first | assumption | omega)
  · (try simp only [Bool.not_eq_false', Bool.not_eq_true', decide_eq_true_eq, decide_eq_false_iff_not, beq_iff_eq, bne_iff_ne, ne_eq, hpl]) <;> (try simp (disch := omega) only [w64]) <;> (try first | assumption | omega)
  · (try simp only [Bool.not_eq_false', Bool.not_eq_true', decide_eq_true_eq, decide_eq_false_iff_not, beq_iff_eq, bne_iff_ne, ne_eq, hpl]) <;> (try simp (disch := omega) only [w64]) <;> (try first | assumption | omega)
  · (try simp only [Bool.not_eq_false', Bool.not_eq_true', decide_eq_true_eq, decide_eq_false_iff_not, beq_iff_eq, bne_iff_ne, ne_eq, hpl]) <;> (try simp (disch := omega) only [w64]) <;> (try first | assumption | omega)
  · (try simp only [Bool.not_eq_false', Bool.not_eq_true', decide_eq_true_eq, decide_eq_false_iff_not, beq_iff_eq, bne_iff_ne, ne_eq, hpl]) <;> (try simp (disch := omega) only [w64]) <;> (try first | assumption | omega)
  · (try simp only [Bool.not_eq_false', Bool.not_eq_true', decide_eq_true_eq, decide_eq_false_iff_not, beq_iff_eq, bne_iff_ne, ne_eq, hpl]) <;> (try simp (disch := omega) only [w64]) <;> (try first | assumption | omega)
  · (try simp only [Bool.not_eq_false', Bool.not_eq_true', decide_eq_true_eq, decide_eq_false_iff_not, beq_iff_eq, bne_iff_ne, ne_eq, hpl]) <;> (try simp (disch := omega) only [w64]) <;> (try first | assumption | omega)
  · (try simp only [Bool.not_eq_false', Bool.not_eq_true', decide_eq_true_eq, decide_eq_false_iff_not, beq_iff_eq, bne_iff_ne, ne_eq, hpl]) <;> (try simp (disch := omega) only [w64]) <;> (try first | assumption | omega)
  · exact bpart_ok (by omega) (by simp (disch := omega) only [w64] <;> omega) (by simp (disch := omega) only [w64] <;> omega) (by simp (disch := omega) only [w64] <;> exact rfl)
  · exact bpart_ok (by omega) (by simp (disch := omega) only [w64] <;> omega) (by simp (disch := omega) only [w64] <;> omega) (by simp (disch := omega) only [w64] <;> exact rfl)
  · exact bpart_ok (by omega) (by simp (disch := omega) only [w64] <;> omega) (by simp (disch := omega) only [w64] <;> omega) (by simp (disch := omega) only [w64] <;> exact rfl)
  · simp (disch := omega) only [er, w64, hst]
theorem renv_low (d : Nat) (s : Sh) (n g : Int) (hg : g < 0) : Ans S (d + 30) 32 [cfgO s n, xs g] (xi 0) := by
  have e : ((Ans S (d + 27) 100 [cfgO s n] (.tup [.v (.int .i64 (0)), .v (.int .i64 (0))])) ∧ ((!decide (0 < (↑s.P.length : Int))) = false) ∧ (decide (g < 0) = true) ∧ er (.v (.int .i64 (0)) : XV) id = er (xi 0) id) = xpure S sumM (d + 30) 32 [cfgO s n, xs g] [Told.ret (XV.tup [xi 0, xi 0]), .dec false, .dec true] (fun y => er y id = er (xi 0) id) := by kernel_rfl
  refine ans e (by simp [loL, lo]) ?_
  obtain ⟨c1, c2, d1, d2, m1, m2, m3, m4, he1, he2, b1, b2, b3, b4, w, l1, l2, a1, a2, i1, i2, sp, t1, t2, j1, j2, j3⟩ := num_of s n; obtain ⟨x1, x2, x3, x4, x5, x6⟩ := gen_bounds s n; have hpl := plen s; obtain ⟨n1, n2⟩ := sn_bounds s; obtain ⟨v1, v2⟩ := wave_bounds s n; clear a1 a2 i1 i2 sp
  refine ⟨?_, ?_, ?_, ?_⟩
  · exact rfits_ok (by omega) s n
  · (try simp only [Bool.not_eq_false', Bool.not_eq_true', decide_eq_true_eq, decide_eq_false_iff_not, beq_iff_eq, bne_iff_ne, ne_eq, hpl]) <;> (try simp (disch := omega) only [w64]) <;> (try first | assumption | omega)
  · (try simp only [Bool.not_eq_false', Bool.not_eq_true', decide_eq_true_eq, decide_eq_false_iff_not, beq_iff_eq, bne_iff_ne, ne_eq, hpl]) <;> (try simp (disch := omega) only [w64]) <;> (try first | assumption | omega)
  · simp (disch := omega) only [er, w64]
theorem renv_high (d : Nat) (s : Sh) (n g : Int) (hg : mA s.n n < g) : Ans S (d + 30) 32 [cfgO s n, xs g] (xi 0) := by
  have e : ((Ans S (d + 27) 100 [cfgO s n] (.tup [.v (.int .i64 (0)), .v (.int .i64 (0))])) ∧ ((!decide (0 < (↑s.P.length : Int))) = false) ∧ (decide (g < 0) = false) ∧ (decide (g > mA s.n n) = true) ∧ er (.v (.int .i64 (0)) : XV) id = er (xi 0) id) = xpure S sumM (d + 30) 32 [cfgO s n, xs g] [Told.ret (XV.tup [xi 0, xi 0]), .dec false, .dec false, .dec true] (fun y => er y id = er (xi 0) id) := by kernel_rfl
  refine ans e (by simp [loL, lo]) ?_
  obtain ⟨c1, c2, d1, d2, m1, m2, m3, m4, he1, he2, b1, b2, b3, b4, w, l1, l2, a1, a2, i1, i2, sp, t1, t2, j1, j2, j3⟩ := num_of s n; obtain ⟨x1, x2, x3, x4, x5, x6⟩ := gen_bounds s n; have hpl := plen s; obtain ⟨n1, n2⟩ := sn_bounds s; obtain ⟨v1, v2⟩ := wave_bounds s n; clear a1 a2 i1 i2 sp
  refine ⟨?_, ?_, ?_, ?_, ?_⟩
  · exact rfits_ok (by omega) s n
  · (try simp only [Bool.not_eq_false', Bool.not_eq_true', decide_eq_true_eq, decide_eq_false_iff_not, beq_iff_eq, bne_iff_ne, ne_eq, hpl]) <;> (try simp (disch := omega) only [w64]) <;> (try first | assumption | omega)
  · (try simp only [Bool.not_eq_false', Bool.not_eq_true', decide_eq_true_eq, decide_eq_false_iff_not, beq_iff_eq, bne_iff_ne, ne_eq, hpl]) <;> (try simp (disch := omega) only [w64]) <;> (try first | assumption | omega)
  · (try simp only [Bool.not_eq_false', Bool.not_eq_true', decide_eq_true_eq, decide_eq_false_iff_not, beq_iff_eq, bne_iff_ne, ne_eq, hpl]) <;> (try simp (disch := omega) only [w64]) <;> (try first | assumption | omega)
  · simp (disch := omega) only [er, w64]
theorem renv_in (d : Nat) (s : Sh) (n g : Int) (hg1 : 0 ≤ g) (hg2 : g ≤ mA s.n n) : Ans S (d + 30) 32 [cfgO s n, xs g] (xs (g * stp n + 2 * (mE1 n + 1))) := by
  have e : ((Ans S (d + 27) 100 [cfgO s n] (.tup [.v (.int .i64 (0)), .v (.int .i64 (0))])) ∧ ((!decide (0 < (↑s.P.length : Int))) = false) ∧ (decide (g < 0) = false) ∧ (decide (g > mA s.n n) = false) ∧ (Ans S (d + 26) 134 [cfgO s n] (.tup [.v (.int .i64 (0)), .v (.int .i64 (0))])) ∧ (decide (0 < (↑s.P.length : Int)) = true) ∧ (decide (mC n < 1000) = false) ∧ (decide (mC n > 1000000) = false) ∧ (decide (mD n < 0) = false) ∧ (decide (mD n > 500) = false) ∧ (decide (mA s.n n < 1) = false) ∧ (decide (mA s.n n > 200) = false) ∧ (decide (mLo n < 0) = false) ∧ (decide (mLo n > 20) = false) ∧ (Ans S (d + 26) 120 [.s (.int .i64 (IntKind.i64.wrap (IntKind.i64.wrap (2 * mD n) * mC n)))] (.s (.int .i64 (mE1 n)))) ∧ (Ans S (d + 26) 120 [.s (.int .i64 (IntKind.i64.wrap (mD n * mC n)))] (.s (.int .i64 (mE2 n)))) ∧ (Ans S (d + 25) 134 [cfgO s n] (.tup [.v (.int .i64 (0)), .v (.int .i64 (0))])) ∧ (decide (0 < (↑s.P.length : Int)) = true) ∧ (decide (mC n < 1000) = false) ∧ (decide (mC n > 1000000) = false) ∧ (decide (mD n < 0) = false) ∧ (decide (mD n > 500) = false) ∧ (decide (mA s.n n < 1) = false) ∧ (decide (mA s.n n > 200) = false) ∧ (decide (mLo n < 0) = false) ∧ (decide (mLo n > 20) = false) ∧ (Ans S (d + 26) 120 [.s (.int .i64 (IntKind.i64.wrap (IntKind.i64.wrap (2 * mD n) * mC n)))] (.s (.int .i64 (mE1 n)))) ∧ er (.s (.int .i64 (IntKind.i64.wrap (IntKind.i64.wrap (g * IntKind.i64.wrap (IntKind.i64.wrap (IntKind.i64.wrap (4 * IntKind.i64.wrap (mE1 n + 1)) + IntKind.i64.wrap (2 * mE2 n)) + 2)) + IntKind.i64.wrap (2 * IntKind.i64.wrap (mE1 n + 1))))) : XV) id = er (xs (g * stp n + 2 * (mE1 n + 1))) id) = xpure S sumM (d + 30) 32 [cfgO s n, xs g] [Told.ret (XV.tup [xi 0, xi 0]), .dec false, .dec false, .dec false, Told.ret (XV.tup [xi 0, xi 0]), .dec true, .dec false, .dec false, .dec false, .dec false, .dec false, .dec false, .dec false, .dec false, Told.ret (xs (mE1 n)), Told.ret (xs (mE2 n)), Told.ret (XV.tup [xi 0, xi 0]), .dec true, .dec false, .dec false, .dec false, .dec false, .dec false, .dec false, .dec false, .dec false, Told.ret (xs (mE1 n))] (fun y => er y id = er (xs (g * stp n + 2 * (mE1 n + 1))) id) := by kernel_rfl
  refine ans e (by simp [loL, lo]) ?_
  obtain ⟨c1, c2, d1, d2, m1, m2, m3, m4, he1, he2, b1, b2, b3, b4, w, l1, l2, a1, a2, i1, i2, sp, t1, t2, j1, j2, j3⟩ := num_of s n; obtain ⟨x1, x2, x3, x4, x5, x6⟩ := gen_bounds s n; have hpl := plen s; obtain ⟨n1, n2⟩ := sn_bounds s; obtain ⟨v1, v2⟩ := wave_bounds s n; clear a1 a2 i1 i2 sp; obtain ⟨y1, y2⟩ := env_bounds s n g hg1 hg2; simp only [stp] at y1 y2; have hst : 4 * (mE1 n + 1) + 2 * mE2 n + 2 = 2 * (2 * (mE1 n + 1)) + 2 * mE2 n + 2 := (by omega)
  refine ⟨?_, ?_, ?_, ?_, ?_, ?_, ?_, ?_, ?_, ?_, ?_, ?_, ?_, ?_, ?_, ?_, ?_, ?_, ?_, ?_, ?_, ?_, ?_, ?_, ?_, ?_, ?_, ?_⟩
  · exact rfits_ok (by omega) s n
  · (try simp only [Bool.not_eq_false', Bool.not_eq_true', decide_eq_true_eq, decide_eq_false_iff_not, beq_iff_eq, bne_iff_ne, ne_eq, hpl]) <;> (try simp (disch := omega) only [w64]) <;> (try first | assumption | omega)
  · (try simp only [Bool.not_eq_false', Bool.not_eq_true', decide_eq_true_eq, decide_eq_false_iff_not, beq_iff_eq, bne_iff_ne, ne_eq, hpl]) <;> (try simp (disch := omega) only [w64]) <;> (try first | assumption | omega)
  · (try simp only [Bool.not_eq_false', Bool.not_eq_true', decide_eq_true_eq, decide_eq_false_iff_not, beq_iff_eq, bne_iff_ne, ne_eq, hpl]) <;> (try simp (disch := omega) only [w64]) <;> (try first | assumption | omega)
  · exact rcheck_ok (by omega) s ..
  · (try simp only [Bool.not_eq_false', Bool.not_eq_true', decide_eq_true_eq, decide_eq_false_iff_not, beq_iff_eq, bne_iff_ne, ne_eq, hpl]) <;> (try simp (disch := omega) only [w64]) <;> (try first | assumption | omega)
  · (try simp only [Bool.not_eq_false', Bool.not_eq_true', decide_eq_true_eq, decide_eq_false_iff_not, beq_iff_eq, bne_iff_ne, ne_eq, hpl]) <;> (try simp (disch := omega) only [w64]) <;> (try first | assumption | omega)
  · (try simp only [Bool.not_eq_false', Bool.not_eq_true', decide_eq_true_eq, decide_eq_false_iff_not, beq_iff_eq, bne_iff_ne, ne_eq, hpl]) <;> (try simp (disch := omega) only [w64]) <;> (try first | assumption | omega)
  · (try simp only [Bool.not_eq_false', Bool.not_eq_true', decide_eq_true_eq, decide_eq_false_iff_not, beq_iff_eq, bne_iff_ne, ne_eq, hpl]) <;> (try simp (disch := omega) only [w64]) <;> (try first | assumption | omega)
  · (try simp only [Bool.not_eq_false', Bool.not_eq_true', decide_eq_true_eq, decide_eq_false_iff_not, beq_iff_eq, bne_iff_ne, ne_eq, hpl]) <;> (try simp (disch := omega) only [w64]) <;> (try first | assumption | omega)
  · (try simp only [Bool.not_eq_false', Bool.not_eq_true', decide_eq_true_eq, decide_eq_false_iff_not, beq_iff_eq, bne_iff_ne, ne_eq, hpl]) <;> (try simp (disch := omega) only [w64]) <;> (try first | assumption | omega)
  · (try simp only [Bool.not_eq_false', Bool.not_eq_true', decide_eq_true_eq, decide_eq_false_iff_not, beq_iff_eq, bne_iff_ne, ne_eq, hpl]) <;> (try simp (disch := omega) only [w64]) <;> (try first | assumption | omega)
  · (try simp only [Bool.not_eq_false', Bool.not_eq_true', decide_eq_true_eq, decide_eq_false_iff_not, beq_iff_eq, bne_iff_ne, ne_eq, hpl]) <;> (try simp (disch := omega) only [w64]) <;> (try first | assumption | omega)
  · (try simp only [Bool.not_eq_false', Bool.not_eq_true', decide_eq_true_eq, decide_eq_false_iff_not, beq_iff_eq, bne_iff_ne, ne_eq, hpl]) <;> (try simp (disch := omega) only [w64]) <;> (try first | assumption | omega)
  · exact up_ok (by omega) (by simp (disch := omega) only [w64] <;> omega) (by simp (disch := omega) only [w64] <;> omega) (by simp (disch := omega) only [w64] <;> exact rfl)
  · exact up_ok (by omega) (by simp (disch := omega) only [w64] <;> omega) (by simp (disch := omega) only [w64] <;> omega) (by simp (disch := omega) only [w64] <;> exact rfl)
  · exact rcheck_ok (by omega) s ..
  · (try simp only [Bool.not_eq_false', Bool.not_eq_true', decide_eq_true_eq, decide_eq_false_iff_not, beq_iff_eq, bne_iff_ne, ne_eq, hpl]) <;> (try simp (disch := omega) only [w64]) <;> (try first | assumption | omega)
  · (try simp only [Bool.not_eq_false', Bool.not_eq_true', decide_eq_true_eq, decide_eq_false_iff_not, beq_iff_eq, bne_iff_ne, ne_eq, hpl]) <;> (try simp (disch := omega) only [w64]) <;> (try first | assumption | omega)
  · (try simp only [Bool.not_eq_false', Bool.not_eq_true', decide_eq_true_eq, decide_eq_false_iff_not, beq_iff_eq, bne_iff_ne, ne_eq, hpl]) <;> (try simp (disch := omega) only [w64]) <;> (try first | assumption | omega)
  · (try simp only [Bool.not_eq_false', Bool.not_eq_true', decide_eq_true_eq, decide_eq_false_iff_not, beq_iff_eq, bne_iff_ne, ne_eq, hpl]) <;> (try simp (disch := omega) only [w64]) <;> (try first | assumption | omega)
  · (try simp only [Bool.not_eq_false', Bool.not_eq_true', decide_eq_true_eq, decide_eq_false_iff_not, beq_iff_eq, bne_iff_ne, ne_eq, hpl]) <;> (try simp (disch := omega) only [w64]) <;> (try first | assumption | omega)
  · (try simp only [Bool.not_eq_false', Bool.not_eq_true', decide_eq_true_eq, decide_eq_false_iff_not, beq_iff_eq, bne_iff_ne, ne_eq, hpl]) <;> (try simp (disch := omega) only [w64]) <;> (try first | assumption | omega)
  · (try simp only [Bool.not_eq_false', Bool.not_eq_true', decide_eq_true_eq, decide_eq_false_iff_not, beq_iff_eq, bne_iff_ne, ne_eq, hpl]) <;> (try simp (disch := omega) only [w64]) <;> (try first | assumption | omega)
  · (try simp only [Bool.not_eq_false', Bool.not_eq_true', decide_eq_true_eq, decide_eq_false_iff_not, beq_iff_eq, bne_iff_ne, ne_eq, hpl]) <;> (try simp (disch := omega) only [w64]) <;> (try first | assumption | omega)
  · (try simp only [Bool.not_eq_false', Bool.not_eq_true', decide_eq_true_eq, decide_eq_false_iff_not, beq_iff_eq, bne_iff_ne, ne_eq, hpl]) <;> (try simp (disch := omega) only [w64]) <;> (try first | assumption | omega)
  · exact up_ok (by omega) (by simp (disch := omega) only [w64] <;> omega) (by simp (disch := omega) only [w64] <;> omega) (by simp (disch := omega) only [w64] <;> exact rfl)
  · simp (disch := omega) only [er, w64, hst]
end Go.Proofs.YtjhekjhbjaengaaGreatDoor.Ev
