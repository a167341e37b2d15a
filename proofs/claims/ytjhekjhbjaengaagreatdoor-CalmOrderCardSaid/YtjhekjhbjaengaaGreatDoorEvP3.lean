/- Each operation of the evaluator is the model's: slices of slices, built values, new rows. -/
import Derived.Test.YtjhekjhbjaengaaGreatDoorEvP2
import Derived.Laws.Append
namespace Go.Proofs.YtjhekjhbjaengaaGreatDoor.Ev
open Go Go.RowKit

section
variable {P : Program} {M : Mem} {h : Heap} {w : World} {a : Act} {t : List AV} {slot : Nat} {x : AV} {ws : Ws} {rs : List Nat} {dst : Option Tmp} {type : TypeId} {pos : String} {after : Array Edge} {guard : Option (Nat × Bool)}
  {cf : FuncId → List AV → HM (AV × Ws)}

theorem bnd_inv {q : Option Operand} {d n : Nat} {r : List Nat} (ht : RelT M t a.tmps.toList) (hr : (bnd t q d).run h = some (n, r)) : (q = none ∧ n = d) ∨ ∃ q' k, q = some q' ∧ a.eval q' = .int k n := by
  cases q with
  | none => exact .inl ⟨rfl, ((HM.run_ret hr).1).symm⟩
  | some q' =>
    obtain ⟨z, r1, r2, h1, h2, _⟩ := HM.run_bind hr
    have h3 := aev_rel (M := M) ht (HM.run_ofOption h1).1
    obtain ⟨k, hk⟩ := asNat_run h3 (HM.run_ofOption h2).1
    exact .inr ⟨q', k, rfl, hk⟩
theorem sliceBound_run {k : IntKind} {n y : Nat} {code : BoundsCode} (hn : n ≤ y) : (Instr.sliceBound (.int k n) y code).run P w = .ok n w := by
  simp [Instr.sliceBound, asIntOf, hn]
theorem bounds_run {lo hi mx : Option Operand} {l hh m n cap : Nat} {r1 r2 r3 : List Nat} (ht : RelT M t a.tmps.toList) (h1 : (bnd t lo 0).run h = some (l, r1)) (h2 : (bnd t hi n).run h = some (hh, r2)) (h3 : (bnd t mx n).run h = some (m, r3))
    (hc : l ≤ hh ∧ hh ≤ m ∧ m ≤ n ∧ (mx.isNone ∨ hi.isSome)) (hcap : n ≤ cap) : (Instr.sliceBounds true n cap (lo.map a.eval) (hi.map a.eval) (mx.map a.eval)).run P w = .ok (l, hh, if mx.isSome then m else cap) w := by
  obtain ⟨c1, c2, c3, c4⟩ := hc
  rcases bnd_inv ht h3 with ⟨rfl, rfl⟩ | ⟨qm, km, rfl, em⟩ <;> rcases bnd_inv ht h2 with ⟨rfl, rfl⟩ | ⟨qh, kh, rfl, eh⟩ <;> rcases bnd_inv ht h1 with ⟨rfl, rfl⟩ | ⟨ql, kl, rfl, el⟩
  all_goals simp at c4
  all_goals
    simp only [Instr.sliceBounds, Option.map_some, Option.map_none, Option.isSome_some, Option.isSome_none, if_true, Bool.false_eq_true, if_false, Sem.run_bind, Sem.run_pure, Result.andThen_ok, *]
    first
      | rfl
      | (repeat rw [sliceBound_run (by omega)]; simp only [Result.andThen_ok])
      | (simp only [Sem.run_bind, Sem.run_pure, Result.andThen_ok]; (repeat (rw [sliceBound_run (by omega)]; simp only [Result.andThen_ok])))

theorem subS_rel {sz l hh c : Nat} {z : Bool} {y : AV} {u : Value} (hb : Rel M y u) (hs : subS sz y l hh z = some x) : ∃ A cap, u = .slice A (alen y) cap ∧ alen y ≤ cap ∧
    ((z = true → c = l) → l ≤ hh → hh ≤ c → c ≤ cap → hh ≤ alen y → Rel M x (.slice (if c = l then A else A.map (·.add (l * sz))) (hh - l) (c - l))) := by
  unfold subS at hs
  split at hs
  · rename_i b k off n
    unfold Rel at hb
    obtain ⟨A, cap, B, rfl, hlc, hB, hA, hsz⟩ := hb
    refine ⟨A, cap, rfl, hlc, fun hz h1 h2 h3 h4 => ?_⟩
    split at hs
    · rename_i hz'
      cases hs
      have := hz hz'
      unfold Rel
      exact ⟨_, by rw [show hh - l = 0 by omega, show c - l = 0 by omega]⟩
    · split at hs
      · rename_i hk
        cases hs
        unfold Rel
        refine ⟨_, c - l, B, rfl, by omega, hB, fun hc => ?_, ?_⟩
        · rw [if_neg (by omega), hA (by omega), hk]
          simp [addr_add, Nat.add_mul]
        · exact Nat.le_trans (Nat.mul_le_mul_right k (by omega)) hsz
      · cases hs
  · rename_i e
    unfold Rel at hb
    obtain ⟨A, cap, rfl, hlc, hA⟩ := hb
    refine ⟨A, cap, rfl, hlc, fun hz h1 h2 h3 h4 => ?_⟩
    simp only [alen] at h4
    split at hs
    · rename_i hz'
      cases hs
      have := hz hz'
      unfold Rel
      exact ⟨_, by rw [show hh - l = 0 by omega, show c - l = 0 by omega]⟩
    · split at hs
      · rename_i hk
        cases hs
        unfold Rel
        have hlen : ((e.take hh).drop l).length = hh - l := by simp; omega
        refine ⟨_, c - l, by rw [hlen], by rw [hlen]; omega, ?_⟩
        by_cases hlt : l < hh
        · rcases hA with rfl | ⟨B, o, k, rfl, hF, hR⟩
          · simp at h4; omega
          · have hk2 : k = sz := by
              cases e with
              | nil => simp at h4; omega
              | cons e0 er =>
                have := (hR.get (i := 0) rfl).1
                simp at hk
                omega
            subst hk2
            refine .inr ⟨B, o + l * k, k, ?_, hF, ?_⟩
            · rw [if_neg (by omega)]
              simp [addr_add]
            · rw [← List.drop_drop]
              exact (hR.take hh).drop l
        · exact .inl (by apply List.eq_nil_of_length_eq_zero; simp; omega)
      · cases hs
  · cases hs
    unfold Rel at hb
    obtain ⟨A, rfl⟩ := hb
    refine ⟨A, 0, rfl, Nat.le_refl _, fun hz h1 h2 h3 h4 => ?_⟩
    unfold Rel
    exact ⟨_, by rw [show hh - l = 0 by omega, show c - l = 0 by omega]⟩
  · cases hs
    unfold Rel at hb
    subst hb
    refine ⟨none, 0, rfl, Nat.le_refl _, fun hz h1 h2 h3 h4 => ?_⟩
    unfold Rel
    rw [show hh - l = 0 by omega, show c - l = 0 by omega]
    simp
  · cases hs

theorem op_slice {ty : TypeId} {y : Operand} {lo hi mx : Option Operand} (ok : MemOK M h) (hw : w.heap = M.H) (ht : RelT M t a.tmps.toList) (hr : (aop P cf ⟨dst, .slice ty y lo hi mx, type, pos, after, guard⟩ t slot).run h = some ((x, ws), rs)) :
    OpOK P ⟨dst, .slice ty y lo hi mx, type, pos, after, guard⟩ a w M h slot x ws := by
  replace hr := ev_inv hr; obtain ⟨b, r, hb, hr⟩ := hr
  replace hb := aev_rel ht hb
  split at hr
  · rename_i et hu
    split at hr
    · exact (HM.run_bad hr).elim
    · rename_i sz hsz
      replace hr := HM.run_bind hr; obtain ⟨l, r1, r', hlo, hr, _⟩ := hr
      replace hr := HM.run_bind hr; obtain ⟨hh, r2, r', hhi, hr, _⟩ := hr
      replace hr := HM.run_bind hr; obtain ⟨m, r3, r', hmx, hr, _⟩ := hr
      split at hr
      · rename_i hcond
        replace hr := out_inv hr; obtain ⟨h1, rfl⟩ := hr
        obtain ⟨A, cap, hv, hcap, _⟩ := subS_rel (c := 0) hb h1
        obtain ⟨A', cap', hv', hcap', hrel⟩ := subS_rel (c := if mx.isSome then m else cap) hb h1
        rw [hv] at hv'
        cases hv'
        have hbr := bounds_run (P := P) (w := w) ht hlo hhi hmx hcond hcap
        obtain ⟨c1, c2, c3, c4⟩ := hcond
        refine .value ok hw ⟨_, ?_, hrel ?_ c1 ?_ ?_ (by omega)⟩
        · simp only [execOp, Instr.sliceAt, Instr.slice, Sem.run_bind, run_underlying hu, Result.andThen_ok, hv, hbr, tsize_run hsz, Sem.run_pure]
        · intro hz
          simp at hz
          simp [hz.1, hz.2]
        · split <;> omega
        · split <;> omega
      · exact (HM.run_bad hr).elim
  · replace hr := out_inv hr; obtain ⟨h1, rfl⟩ := hr
    exact .value ok hw (scalar_run (by intro cs b; simp) ht h1)
end
end Go.Proofs.YtjhekjhbjaengaaGreatDoor.Ev
