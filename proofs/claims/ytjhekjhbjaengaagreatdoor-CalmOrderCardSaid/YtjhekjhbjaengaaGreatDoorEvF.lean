/- Regions in the text's order, code, functions: the evaluator is sound. -/
import Derived.Test.YtjhekjhbjaengaaGreatDoorEvE
import Derived.Test.YtjhekjhbjaengaaGreatDoorEvI
namespace Go.Proofs.YtjhekjhbjaengaaGreatDoor.Ev
open Go Go.RowKit

section
variable {S : Sys} {bs : Base} {rf : RF} {ops : Array Oper} {Q : Exit → Act → World → Prop}

theorem callf_ok (hS : SysOK S bs) (hrf : RunOK S.P bs rf) : CfOK S.P bs (callf S rf) := by
  intro g xs h x ws rs hr
  unfold callf at hr
  split at hr
  · rename_i f hf
    exact acall_ok (hS.G g f hf) hr
  · split at hr
    · exact incall_ok hrf hr
    · exact acall_ok (pure_ok hrf g) hr

theorem inplace_ok (hrf : RunOK S.P bs rf) {o : Oper} {s : AS} {x : AV} {h' : Heap} (hr : inplace S rf o s = some (x, h')) {M : Mem} {a : Act} {w : World} (h0 : Stt bs M s a w) {next : Act → World → Prop}
    (hn : ∀ v w' M', Rel M' x v → MemOK M' h' → Fr M s.h M' h' → w'.heap = M'.H → Same w w' → next (a.put o.dst v) w') : o.wp S.P a w next Q := by
  obtain ⟨dst, op, type, pos, after, guard⟩ := o
  unfold inplace at hr
  split at hr
  · rename_i c hop
    simp only at hop
    subst hop
    split at hr
    · rename_i f hc
      split at hr
      · rename_i g cap xs hf hxs
        split at hr
        · have hy := aev_rel h0.t hf
          have hxs := evs_rel (ht := h0.t) hxs
          obtain ⟨he, hcall⟩ := hrf g _ s.h x h' hr
          unfold Rel at hy
          obtain ⟨cs, hy, hcs⟩ := hy
          unfold Oper.wp
          have hex : (execOp a.eval ⟨dst, .call c, type, pos, after, guard⟩).run S.P w = (callFunc g (c.args.map a.eval ++ cs)).run S.P w := by
            simp [execOp, resolve, hc, hy, Deferred.ofValue, invoke]
          rw [hex, callFunc_run he, Oper.upon_enter]
          refine (hcall M w _ h0.w h0.m h0.b (by simpa using hxs.append hcs)).mono fun e w' hpost => ?_
          obtain ⟨v, M', rfl, p1, p2, p3, p5, p6⟩ := hpost
          exact hn v w' M' p1 p2 p3 p5 p6
        · cases hr
      · cases hr
    · cases hr
  · cases hr

theorem Stt.more {M : Mem} {s : AS} {a : Act} {w : World} (h0 : Stt bs M s a w) (n : Nat) : Stt bs M ⟨s.t, s.h ++ List.replicate n none⟩ a w := ⟨h0.t, h0.d, h0.m.more n, h0.b, h0.w⟩
theorem Stt.free {M : Mem} {s : AS} {a : Act} {w : World} (h0 : Stt bs M s a w) {b : Nat} (hb : s.h.length ≤ b) : M.μ b = none := by
  cases h : M.μ b with
  | none => rfl
  | some B => have := (h0.m.dom b B h).1; omega

theorem aseq_ok (hS : SysOK S bs) (hrf : RunOK S.P bs rf) : ∀ (n i : Nat) (s s' : AS), i + n = ops.size → aseq S rf ops (ops.toList.drop i) s = some s' → ∀ (M : Mem) (a : Act) (w : World), Stt bs M s a w →
    (∀ M' a' w', Stt bs M' s' a' w' → Fr M s.h M' s'.h → Same w w' → Q .normal a' w') → wpOps S.P ops Q (List.range' i n) a w
  | 0, i, s, s', hi, hr, M, a, w, h0, hQ => by
    rw [List.drop_eq_nil_of_le (by simp; omega)] at hr
    simp only [aseq, Option.some.injEq] at hr
    subst hr
    exact hQ M a w h0 (Fr.refl _ _) (Same.refl _)
  | n + 1, i, s, s', hi, hr, M, a, w, h0, hQ => by
    have hil : i < ops.size := by omega
    rw [List.drop_eq_getElem_cons (by simpa using hil)] at hr
    have ho : ops[i]? = some ops[i] := by simp [hil]
    rw [List.range'_succ, wpOps_cons]
    unfold wpOp
    simp only [ho]
    rw [wanted_eq h0.t]
    simp only [aseq, Array.getElem_toList] at hr
    split at hr
    · rename_i hw
      rw [if_pos hw]
      refine .inl ?_
      split at hr
      · rename_i x h' hin
        refine inplace_ok hrf hin h0 fun v w' M' p1 p2 p3 p4 p5 => ?_
        refine aseq_ok hS hrf n (i + 1) _ s' (by omega) hr M' _ w' ⟨put_rel (RelT.mono (p3.keeps h0.m) h0.t) p1 _, by rw [put_defers]; exact h0.d, p2, Base.fr h0.b h0.m p3, p4⟩ fun M'' a'' w'' g1 g2 g3 => hQ M'' a'' w'' g1 (p3.trans g2) (p5.trans g3)
      · split at hr
        · rename_i x ws rs hrun
          have h1 := h0.more 1
          simp only [List.replicate_one] at h1
          refine aop_ok (callf_ok hS hrf) h1.b h1.m h1.w (by simp) (h0.free (Nat.le_refl _)) h1.t hrun _ Q fun v w' M' p1 p2 p3 _ p4 p5 => ?_
          refine aseq_ok hS hrf n (i + 1) _ s' (by omega) hr M' _ w' ⟨put_rel (RelT.mono (p3.keeps h1.m) h0.t) p1 _, by rw [put_defers]; exact h0.d, p2, Base.fr h1.b h1.m p3, p4⟩ fun M'' a'' w'' g1 g2 g3 => hQ M'' a'' w'' g1 ?_ (p5.trans g3)
          exact (Fr.trans (by have := Fr.more (M := M) (h := s.h) 1; simpa using this) p3).trans g2
        · cases hr
    · rename_i hw
      rw [if_neg hw]
      refine aseq_ok hS hrf n (i + 1) _ s' (by omega) hr M _ w ⟨put_rel h0.t (by unfold Rel; rfl) _, by rw [put_defers]; exact h0.d, h0.m, h0.b, h0.w⟩ fun M'' a'' w'' g1 g2 g3 => hQ M'' a'' w'' g1 g2 g3

def exOf : Ex → Exit
  | .normal => .normal
  | .exit id => .exit id
  | .ret => .ret

/-- A stretch of code. -/
def CodeOK (S : Sys) (bs : Base) (f : AS → Option (Ex × AS)) (c : Code) : Prop :=
  ∀ (s : AS) (e : Ex) (s' : AS), f s = some (e, s') → ∀ (M : Mem) (a : Act) (w : World), Stt bs M s a w → ∀ Q : Exit → Act → World → Prop,
    (∀ M' a' w', Stt bs M' s' a' w' → Fr M s.h M' s'.h → Same w w' → Q (exOf e) a' w') → c.wp S.P Q a w

theorem aregion_ok (hS : SysOK S bs) (hrf : RunOK S.P bs rf) (id : Nat) (ops : Array Oper) (draw : Bool) : CodeOK S bs (fun s => (aregion S rf ops draw s).map fun s' => (.normal, s')) (.region id ops draw) := by
  intro s e s' hr M a w h0 Q hQ
  cases hreg : aregion S rf ops draw s with
  | none => simp [hreg] at hr
  | some s1 =>
    simp [hreg] at hr
    obtain ⟨rfl, rfl⟩ := hr
    unfold aregion at hreg
    cases draw with
    | true =>
      simp only [if_true] at hreg
      split at hreg
      · rename_i s2 fs hrun
        split at hreg
        · rename_i hord
          cases hreg
          have h1 := h0.more ops.size
          refine wp_region_any hS.mixed (any_ok (base := s.h.length) (callf_ok hS hrf) hrun hord (by simp) (M0 := M) (w0 := { w with drawn := w.drawn + 1 }) ⟨h1.t, h1.d, h1.m, h1.b, h1.w⟩ (fun j _ => h0.free (by omega)) fun M' a' w' g1 g2 g3 => hQ M' a' w' g1 ((Fr.more ops.size).trans g2) ⟨g3.os, g3.tape, g3.output⟩)
        · cases hreg
      · cases hreg
    | false =>
      simp only [Bool.false_eq_true, if_false] at hreg
      refine wp_region ?_
      rw [List.range_eq_range']
      exact aseq_ok hS hrf ops.size 0 s s1 (by omega) (by simpa using hreg) M a w h0 hQ

theorem least_exists {p : Nat → Prop} : ∀ n, p n → ∃ m, p m ∧ ∀ k, p k → m ≤ k := by
  intro n
  induction n using Nat.strongRecOn with
  | _ n ih =>
    intro hn
    by_cases h : ∃ k, k < n ∧ p k
    · obtain ⟨k, hk, hpk⟩ := h
      exact ih k hk hpk
    · exact ⟨n, hn, fun k hk => Classical.byContradiction fun hlt => h ⟨k, by omega, hk⟩⟩
noncomputable def leastOf (p : Nat → Prop) : Nat := @dite _ (∃ m, p m ∧ ∀ k, p k → m ≤ k) (Classical.propDecidable _) (fun h => Classical.choose h) (fun _ => 0)
theorem leastOf_spec {p : Nat → Prop} {n : Nat} (h : p n) : p (leastOf p) ∧ ∀ k, p k → leastOf p ≤ k := by
  have h1 := least_exists n h
  unfold leastOf
  rw [dif_pos h1]
  exact Classical.choose_spec h1

theorem rounds_ok {f : AS → Option (Ex × AS)} {c : Code} (hc : CodeOK S bs f c) (n : Nat) : CodeOK S bs (rounds f n) (.loop c) := by
  intro s e s' hr M a w h0 Q hQ
  let R : Act → World → Nat → Prop := fun a1 w1 n => ∃ s1 M1, rounds f n s1 = some (e, s') ∧ Stt bs M1 s1 a1 w1 ∧ Fr M s.h M1 s1.h ∧ Same w w1
  refine wp_loop (I := fun a1 w1 => ∃ n, R a1 w1 n) (μ := fun a1 w1 => leastOf (R a1 w1)) ⟨n, s, M, hr, h0, Fr.refl _ _, Same.refl _⟩ ?_
  intro a1 w1 ⟨n1, hn1⟩
  obtain ⟨⟨s1, M1, h1, h2, h3, h4⟩, _⟩ := leastOf_spec hn1
  generalize hg : leastOf (R a1 w1) = m at h1
  cases m with
  | zero => simp [rounds] at h1
  | succ m =>
    simp only [rounds] at h1
    split at h1
    · rename_i s2 hf
      refine hc s1 .normal s2 hf M1 a1 w1 h2 _ fun M' a' w' g1 g2 g3 => ?_
      have hR : R a' w' m := ⟨s2, M', h1, g1, h3.trans g2, h4.trans g3⟩
      show (∃ n, R a' w' n) ∧ leastOf (R a' w') < m + 1
      refine ⟨⟨m, hR⟩, ?_⟩
      have := (leastOf_spec hR).2 m hR
      omega
    · rename_i hx
      refine hc s1 e s' h1 M1 a1 w1 h2 _ fun M' a' w' g1 g2 g3 => ?_
      have hq := hQ M' a' w' g1 (h3.trans g2) (h4.trans g3)
      cases e with
      | normal => exact absurd h1 (hx s')
      | exit id => exact hq
      | ret => exact hq

theorem aexec_ok (hS : SysOK S bs) (hrf : RunOK S.P bs rf) : ∀ c : Code, CodeOK S bs (aexec S rf c) c
  | .skip => fun s e s' hr M a w h0 Q hQ => by
    simp only [aexec, Option.some.injEq, Prod.mk.injEq] at hr
    obtain ⟨rfl, rfl⟩ := hr
    exact wp_skip (hQ M a w h0 (Fr.refl _ _) (Same.refl _))
  | .region id ops draw => aregion_ok hS hrf id ops draw
  | .seq x y => fun s e s' hr M a w h0 Q hQ => by
    simp only [aexec] at hr
    refine wp_seq ?_
    split at hr
    · rename_i s1 h1
      refine aexec_ok hS hrf x s .normal s1 h1 M a w h0 _ fun M' a' w' g1 g2 g3 => ?_
      exact aexec_ok hS hrf y s1 e s' hr M' a' w' g1 Q fun M'' a'' w'' k1 k2 k3 => hQ M'' a'' w'' k1 (g2.trans k2) (g3.trans k3)
    · rename_i hx
      refine aexec_ok hS hrf x s e s' hr M a w h0 _ fun M' a' w' g1 g2 g3 => ?_
      have hq := hQ M' a' w' g1 g2 g3
      cases e with
      | normal => exact absurd hr (hx s')
      | exit id => exact hq
      | ret => exact hq
  | .cond c x y => fun s e s' hr M a w h0 Q hQ => by
    simp only [aexec] at hr
    split at hr
    · rename_i hc
      have := aev_rel h0.t hc
      unfold Rel at this
      exact wp_cond_true this (aexec_ok hS hrf x s e s' hr M a w h0 Q hQ)
    · rename_i hc
      have := aev_rel h0.t hc
      unfold Rel at this
      exact wp_cond_false this (aexec_ok hS hrf y s e s' hr M a w h0 Q hQ)
    · cases hr
  | .block id x => fun s e s' hr M a w h0 Q hQ => by
    simp only [aexec] at hr
    refine wp_block ?_
    split at hr
    · rename_i i s1 h1
      refine aexec_ok hS hrf x s (.exit i) s1 h1 M a w h0 _ fun M' a' w' g1 g2 g3 => ?_
      show (if i = id then Q .normal a' w' else Q (.exit i) a' w')
      split at hr
      · rename_i hid
        cases hr
        rw [if_pos hid]
        exact hQ M' a' w' g1 g2 g3
      · rename_i hid
        cases hr
        rw [if_neg hid]
        exact hQ M' a' w' g1 g2 g3
    · rename_i hx
      refine aexec_ok hS hrf x s e s' hr M a w h0 _ fun M' a' w' g1 g2 g3 => ?_
      have hq := hQ M' a' w' g1 g2 g3
      cases e with
      | normal => exact hq
      | exit i => exact absurd hr (hx i s')
      | ret => exact hq
  | .loop x => by
    have := rounds_ok (aexec_ok hS hrf x) S.N
    exact this
  | .exit id => fun s e s' hr M a w h0 Q hQ => by
    simp only [aexec, Option.some.injEq, Prod.mk.injEq] at hr
    obtain ⟨rfl, rfl⟩ := hr
    exact wp_exit (hQ M a w h0 (Fr.refl _ _) (Same.refl _))
  | .ret => fun s e s' hr M a w h0 Q hQ => by
    simp only [aexec, Option.some.injEq, Prod.mk.injEq] at hr
    obtain ⟨rfl, rfl⟩ := hr
    exact wp_ret (hQ M a w h0 (Fr.refl _ _) (Same.refl _))
  | .rangeFunc .. | .scope _ | .label _ | .goto _ | .refuse _ => fun s e s' hr => by simp [aexec] at hr

theorem aresult_run {M : Mem} {s : AS} {a : Act} {w : World} (h0 : Stt bs M s a w) {f : ResultVar → Sem Value} (hf1 : ∀ t, f (.tmp t) = pure (a.tmps.getD t undef)) (hf2 : ∀ x t, f (.cell x t) = do loadVar t (← asAddr (a.tmps.getD x undef))) : ∀ {l : List ResultVar} {xs : List AV}, l.mapM (aresult S.P s) = some xs →
    ∃ vs, (l.mapM f).run S.P w = .ok vs w ∧ RelT M xs vs
  | [], xs, h => by
    simp at h
    subst h
    exact ⟨[], rfl, .nil⟩
  | r :: l, xs, h => by
    simp only [List.mapM_cons] at h
    cases h1 : aresult S.P s r with
    | none => simp [h1] at h
    | some x =>
      cases h2 : l.mapM (aresult S.P s) with
      | none => simp [h1, h2] at h
      | some ys =>
        simp [h1, h2] at h
        subst h
        obtain ⟨vs, g1, g2⟩ := aresult_run h0 hf1 hf2 h2
        have key : ∃ v, (f r).run S.P w = .ok v w ∧ Rel M x v := by
          cases r with
          | tmp t =>
            obtain ⟨c, k1, k2⟩ := h0.t.get h1
            have : a.tmps[t]? = some c := by simpa using k1
            exact ⟨c, by rw [hf1]; simp [this], k2⟩
          | cell y t =>
            simp only [aresult] at h1
            split at h1
            · rename_i b k i j hy
              obtain ⟨c, k1, k2⟩ := h0.t.get hy
              have hc : a.tmps[y]? = some c := by simpa using k1
              unfold Rel at k2
              obtain ⟨B, rfl, hB⟩ := k2
              split at h1
              · rename_i blk hblk
                split at h1
                · rename_i e he
                  split at h1
                  · rename_i hk
                    have hR := (liveCells h0.m hblk hB).1.get he
                    rw [hk] at hR
                    obtain ⟨u, q1, q2⟩ := cut_run (P := S.P) (w := w) (B := B) (o := i * k) h0.w (by rw [hR.1]; exact hR.2) h1
                    exact ⟨u, by rw [hf2]; simp [hc, asAddr, q1], q2⟩
                  · cases h1
                · cases h1
              · cases h1
            · cases h1
        obtain ⟨v, k1, k2⟩ := key
        refine ⟨v :: vs, ?_, .cons k2 g2⟩
        simp only [List.mapM_cons, Sem.run_bind, k1, Result.andThen_ok, g1, Sem.run_pure]

theorem aresults_run {M : Mem} {s : AS} {a : Act} {w : World} (h0 : Stt bs M s a w) {fn : Func} {x : AV} (h : aresults S.P fn s = some x) : ∃ v, (results fn a.tmps).run S.P w = .ok v w ∧ Rel M x v := by
  unfold aresults at h
  have hm : ∀ {xs}, fn.results.toList.mapM (aresult S.P s) = some xs → ∃ vs, (results fn a.tmps).run S.P w = .ok (if h : vs.toArray.size = 1 then vs.toArray[0] else .tuple vs.toArray) w ∧ RelT M xs vs := by
    intro xs hxs
    refine Exists.elim (aresult_run (f := fun | .tmp t => pure (a.tmps.getD t undef) | .cell x t => do loadVar t (← asAddr (a.tmps.getD x undef))) h0 (fun _ => rfl) (fun _ _ => rfl) hxs) fun vs h1 => ?_
    obtain ⟨g1, g2⟩ := h1
    refine ⟨vs, ?_, g2⟩
    unfold results
    simp only [Array.mapM_eq_mapM_toList, Sem.run_bind, Sem.run_map]
    have g1' := congrArg (fun r => (r.andThen fun a w' => Result.ok a.toArray w').andThen fun (a : Array Value) w' => Sem.run S.P (pure (if h : a.size = 1 then a[0] else Value.tuple a)) w') g1
    exact g1'

  split at h
  · rename_i y hy
    cases h
    obtain ⟨vs, g1, g2⟩ := hm hy
    unfold RelT at g2
    obtain ⟨c, r, rfl, g3, g4⟩ := g2
    unfold RelT at g4
    subst g4
    exact ⟨c, by simpa using g1, g3⟩
  · rename_i l hne hl
    cases h
    obtain ⟨vs, g1, g2⟩ := hm hl
    have hlen := g2.length
    have h1 : ¬ vs.toArray.size = 1 := by
      intro h1
      have : l.length = 1 := by simp at h1; omega
      obtain ⟨y, rfl⟩ := List.length_eq_one_iff.1 this
      exact hne y rfl
    rw [dif_neg h1] at g1
    exact ⟨_, g1, by unfold Rel; exact ⟨_, rfl, by simpa using g2⟩⟩
  · cases h

theorem undefs (M : Mem) : ∀ n, RelT M (List.replicate n (.v undef)) (List.replicate n undef)
  | 0 => .nil
  | n + 1 => by
    rw [List.replicate_succ, List.replicate_succ]
    exact .cons (by unfold Rel; rfl) (undefs M n)
/-- The evaluator is sound. -/
theorem arun_ok (hS : SysOK S bs) : ∀ d, RunOK S.P bs (arun S d)
  | 0 => fun g xs h r h' hr => by simp [arun] at hr
  | d + 1 => fun g xs h r h' hr => by
    have ih := arun_ok hS d
    simp only [arun] at hr
    split at hr
    · rename_i fn hfn
      split at hr
      · rename_i c hc
        split at hr
        · cases hr
        · rename_i hname
          refine ⟨⟨fn, hfn, by simpa using hname, by rw [hc]; rfl⟩, fun M w vs hw ok hb hxs => ?_⟩
          have hlen := hxs.length
          have h0 : Stt bs M ⟨xs ++ List.replicate (fn.ntmps - xs.length) (.v undef), h⟩ { tmps := vs ++ Array.replicate (fn.ntmps - vs.size) undef, defers := [] } w := by
            refine ⟨?_, rfl, ok, hb, hw⟩
            have : vs.size = xs.length := by simpa using hlen
            simpa [this] using hxs.append (undefs M (fn.ntmps - xs.length))
          have post : ∀ {e s'}, aexec S (arun S d) c ⟨xs ++ List.replicate (fn.ntmps - xs.length) (.v undef), h⟩ = some (e, s') → (e = .normal ∨ e = .ret) → (aresults S.P fn s').map (fun r => (r, s'.h)) = some (r, h') →
              Calls S.P g vs w fun e w' => ∃ v M', e = .returned v ∧ Rel M' r v ∧ MemOK M' h' ∧ Fr M h M' h' ∧ w'.heap = M'.H ∧ Same w w' := by
            intro e s' hex he hres
            cases hr2 : aresults S.P fn s' with
            | none => simp [hr2] at hres
            | some r2 =>
              simp [hr2] at hres
              obtain ⟨rfl, rfl⟩ := hres
              refine calls_of_wp hfn hc (aexec_ok hS ih c _ e s' hex M _ w h0 _ fun M' a' w' g1 g2 g3 => ?_)
              obtain ⟨v, k1, k2⟩ := aresults_run g1 hr2
              rcases he with rfl | rfl
              · exact ⟨g1.d, v, k1, v, M', rfl, k2, g1.m, g2, g1.w, g3⟩
              · exact ⟨g1.d, v, k1, v, M', rfl, k2, g1.m, g2, g1.w, g3⟩
          split at hr
          · rename_i s' hex
            exact post hex (.inl rfl) hr
          · rename_i s' hex
            exact post hex (.inr rfl) hr
          · cases hr
      · cases hr
    · cases hr
/-- A call that the evaluator answers. -/
theorem ev_ok (hS : SysOK S bs) {d : Nat} (g : FuncId) : PureOK S.P bs g (ev S d g) := pure_ok (arun_ok hS d) g
end
end Go.Proofs.YtjhekjhbjaengaaGreatDoor.Ev
