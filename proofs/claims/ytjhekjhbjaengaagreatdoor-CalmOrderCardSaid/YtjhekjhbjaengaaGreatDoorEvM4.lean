/- The laws CalmMade and CalmOrder of networks that are made. -/
import Derived.Test.YtjhekjhbjaengaaGreatDoorEvM4h
set_option linter.unusedVariables false
set_option linter.unusedSimpArgs false
set_option maxRecDepth 100000
namespace Go.Proofs.YtjhekjhbjaengaaGreatDoor.Ev
open Go
def sumO (f : FuncId) : Bool := Nat.beq f 17 || Nat.beq f 20 || Nat.beq f 21 || Nat.beq f 23 || Nat.beq f 25 || Nat.beq f 27 || Nat.beq f 29 || Nat.beq f 31 || Nat.beq f 22 || Nat.beq f 24 || Nat.beq f 26 || Nat.beq f 28 || Nat.beq f 30 || Nat.beq f 32
theorem alive29 (d : Nat)   : Ans S (d + 40) 20 [] (.v (.bool true)) := by
  have e : (er (.v (.bool true) : XV) id = er (.v (.bool true)) id) = xpure S none_ (d + 40) 20 [] [] (fun y => er y id = er (.v (.bool true)) id) := by kernel_rfl
  refine ans e (by simp [loL, lo]) ?_
  rfl
theorem calmmade (d : Nat) (s : Sh) (n f t g : Int) (hs : shOf n = s) : Ans S (d + 60) 7 [xs n, xs f, xs t, xs g] (.v (.bool true)) := by
  have e : ((Ans S (d + 59) 20 [] (.v (.bool true))) ∧ (Ans S (d + 59) 17 [.s (.int .i64 (n))] (cfgO s n)) ∧ (Ans S (d + 59) 21 [cfgO s n] (.s (.int .i64 (mLo n + 1)))) ∧ (Ans S (d + 59) 22 [cfgO s n] (.s (.int .i64 (mLo n + 1)))) ∧ ((mLo n + 1 == mLo n + 1) = true) ∧ (Ans S (d + 59) 23 [cfgO s n] (.s (.int .i64 (s.wd * (mLo n + 1) + 1)))) ∧ (Ans S (d + 59) 24 [cfgO s n] (.s (.int .i64 (s.wd * (mLo n + 1) + 1)))) ∧ ((s.wd * (mLo n + 1) + 1 == s.wd * (mLo n + 1) + 1) = true) ∧ (Ans S (d + 59) 25 [cfgO s n] (.s (.int .i64 (2 * (s.wd * (mLo n + 1) + 1) + 1)))) ∧ (Ans S (d + 59) 26 [cfgO s n] (.s (.int .i64 (2 * (s.wd * (mLo n + 1) + 1) + 1)))) ∧ ((2 * (s.wd * (mLo n + 1) + 1) + 1 == 2 * (s.wd * (mLo n + 1) + 1) + 1) = true) ∧ (Ans S (d + 59) 27 [cfgO s n, .s (.int .i64 (f))] (.s (.int .i64 (coldV s n f)))) ∧ (Ans S (d + 59) 28 [cfgO s n, .s (.int .i64 (f))] (.s (.int .i64 (coldV s n f)))) ∧ ((coldV s n f == coldV s n f) = true) ∧ (Ans S (d + 59) 29 [cfgO s n, .s (.int .i64 (f)), .s (.int .i64 (t))] (.s (.int .i64 (delV s n f t)))) ∧ (Ans S (d + 59) 30 [cfgO s n, .s (.int .i64 (f)), .s (.int .i64 (t))] (.s (.int .i64 (delV s n f t)))) ∧ ((delV s n f t == delV s n f t) = true) ∧ (Ans S (d + 59) 31 [cfgO s n, .s (.int .i64 (g))] (.s (.int .i64 (envV s n g)))) ∧ (Ans S (d + 59) 32 [cfgO s n, .s (.int .i64 (g))] (.s (.int .i64 (envV s n g)))) ∧ er (.s (.bool (envV s n g == envV s n g)) : XV) id = er (.v (.bool true)) id) = xpure S sumO (d + 60) 7 [xs n, xs f, xs t, xs g] [Told.ret (XV.v (Value.bool true)), Told.ret (cfgO s n), Told.ret (xs (mLo n + 1)), Told.ret (xs (mLo n + 1)), .dec true, Told.ret (xs (s.wd * (mLo n + 1) + 1)), Told.ret (xs (s.wd * (mLo n + 1) + 1)), .dec true, Told.ret (xs (2 * (s.wd * (mLo n + 1) + 1) + 1)), Told.ret (xs (2 * (s.wd * (mLo n + 1) + 1) + 1)), .dec true, Told.ret (xs (coldV s n f)), Told.ret (xs (coldV s n f)), .dec true, Told.ret (xs (delV s n f t)), Told.ret (xs (delV s n f t)), .dec true, Told.ret (xs (envV s n g)), Told.ret (xs (envV s n g))] (fun y => er y id = er (.v (.bool true)) id) := by kernel_rfl
  refine ans e (by simp [loL, lo]) ?_
  refine ⟨?_, ?_, ?_, ?_, ?_, ?_, ?_, ?_, ?_, ?_, ?_, ?_, ?_, ?_, ?_, ?_, ?_, ?_, ?_, ?_⟩
  · exact deep (P := fun D => Ans S D 20 [] (.v (.bool true))) alive29 (by omega)
  · exact (hs ▸ made_ok (by omega) n)
  · exact hop_ok (by omega) s n
  · exact rhop_ok (by omega) s n
  · simp only [beq_iff_eq, beq_self_eq_true]
  · exact wave_ok (by omega) s n
  · exact rwave_ok (by omega) s n
  · simp only [beq_iff_eq, beq_self_eq_true]
  · exact settle_ok (by omega) s n
  · exact rsettle_ok (by omega) s n
  · simp only [beq_iff_eq, beq_self_eq_true]
  · exact cold_ok (by omega) s n f
  · exact rcold_ok (by omega) s n f
  · simp only [beq_iff_eq, beq_self_eq_true]
  · exact del_ok (by omega) s n f t
  · exact rdel_ok (by omega) s n f t
  · simp only [beq_iff_eq, beq_self_eq_true]
  · exact env_ok (by omega) s n g
  · exact renv_ok (by omega) s n g
  · simp only [er, beq_self_eq_true]
end Go.Proofs.YtjhekjhbjaengaaGreatDoor.Ev
