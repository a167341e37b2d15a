/- Regions whose order is drawn. -/
import Derived.Test.YtjhekjhbjaengaaGreatDoorEvG
namespace Go.Proofs.YtjhekjhbjaengaaGreatDoor.Ev
open Go Go.RowKit

theorem fold_bit {acc : Array Nat} {j : Nat} : ∀ {es : List Edge} {s0 : Nat}, (es.foldl (fun s e => if Region.binds .any e then s ||| 2 ^ e.on ||| acc.getD e.on 0 else s) s0).testBit j = true →
    s0.testBit j = true ∨ ∃ e ∈ es, Region.binds .any e = true ∧ (j = e.on ∨ (acc.getD e.on 0).testBit j = true)
  | [], _, h => .inl h
  | e :: es, s0, h => by
    simp only [List.foldl_cons] at h
    rcases fold_bit h with h1 | ⟨e', he', h1⟩
    · split at h1
      · rename_i hb
        simp only [Nat.testBit_or, Bool.or_eq_true, Nat.testBit_two_pow, decide_eq_true_eq] at h1
        rcases h1 with (h1 | h1) | h1
        · exact .inl h1
        · exact .inr ⟨e, by simp, hb, .inl h1.symm⟩
        · exact .inr ⟨e, by simp, hb, .inr h1⟩
      · exact .inl h1
    · exact .inr ⟨e', by simp [he'], h1⟩
def befStep (acc : Array Nat) (o : Oper) : Array Nat := acc.push (o.after.foldl (fun s e => if Region.binds .any e then s ||| 2 ^ e.on ||| acc.getD e.on 0 else s) 0)
theorem befStep_size (acc : Array Nat) (o : Oper) : (befStep acc o).size = acc.size + 1 := by simp [befStep]
theorem bef_old : ∀ {l : List Oper} {acc : Array Nat} {d : Nat}, d < acc.size → (l.foldl befStep acc).getD d 0 = acc.getD d 0
  | [], _, _, _ => rfl
  | o :: l, acc, d, h => by
    simp only [List.foldl_cons]
    rw [bef_old (by rw [befStep_size]; omega)]
    simp [befStep, Array.getD_eq_getD_getElem?, Array.getElem?_push, show d ≠ acc.size by omega]
theorem bef_bit {j : Nat} : ∀ {l : List Oper} {acc : Array Nat} {d : Nat}, acc.size ≤ d → ((l.foldl befStep acc).getD d 0).testBit j = true →
    ∃ o e, l[d - acc.size]? = some o ∧ e ∈ o.after.toList ∧ Region.binds .any e = true ∧ (j = e.on ∨ (e.on < d ∧ ((l.foldl befStep acc).getD e.on 0).testBit j = true))
  | [], acc, d, hd, h => by
    simp [Array.getD_eq_getD_getElem?, Array.getElem?_eq_none hd] at h
  | o :: l, acc, d, hd, h => by
    simp only [List.foldl_cons] at h ⊢
    by_cases hde : d = acc.size
    · subst hde
      rw [bef_old (by rw [befStep_size]; omega)] at h
      have h1 : (befStep acc o).getD acc.size 0 = o.after.foldl (fun s e => if Region.binds .any e then s ||| 2 ^ e.on ||| acc.getD e.on 0 else s) 0 := by simp [befStep, Array.getD_eq_getD_getElem?]
      rw [h1, ← Array.foldl_toList] at h
      rcases fold_bit h with h2 | ⟨e, he, hb, h2⟩
      · simp at h2
      · refine ⟨o, e, by simp, he, hb, ?_⟩
        rcases h2 with h2 | h2
        · exact .inl h2
        · have hlt : e.on < acc.size := Classical.byContradiction fun hn => by
            rw [Array.getD_eq_getD_getElem?, Array.getElem?_eq_none (by omega)] at h2
            simp at h2
          refine .inr ⟨hlt, ?_⟩
          rw [bef_old (by rw [befStep_size]; omega)]
          have : (befStep acc o).getD e.on 0 = acc.getD e.on 0 := by simp [befStep, Array.getD_eq_getD_getElem?, Array.getElem?_push, show e.on ≠ acc.size by omega]
          rw [this]
          exact h2
    · obtain ⟨o', e, h1, h2, h3, h4⟩ := bef_bit (l := l) (acc := befStep acc o) (d := d) (by rw [befStep_size]; omega) h
      refine ⟨o', e, ?_, h2, h3, h4⟩
      rw [befStep_size] at h1
      rw [show d - acc.size = (d - (acc.size + 1)) + 1 by omega]
      simpa using h1
theorem before_bit {ops : Array Oper} {d j : Nat} (h : ((Region.before ops).getD d 0).testBit j = true) :
    ∃ o e, ops[d]? = some o ∧ e ∈ o.after.toList ∧ Region.binds .any e = true ∧ (j = e.on ∨ (e.on < d ∧ ((Region.before ops).getD e.on 0).testBit j = true)) := by
  have hb : Region.before ops = ops.toList.foldl befStep #[] := by
    unfold Region.before
    rw [← Array.foldl_toList]
    rfl
  rw [hb] at h ⊢
  obtain ⟨o, e, h1, h2⟩ := bef_bit (acc := #[]) (by simp) h
  exact ⟨o, e, by simpa using h1, h2⟩
/-- What is closed along the edges is closed along their ways. -/
theorem closed_before {ops : Array Oper} {b : Nat → Bool} (hb : ∀ d o e, b d = true → ops[d]? = some o → e ∈ o.after.toList → Region.binds .any e = true → b e.on = true) :
    ∀ (m d j : Nat), d ≤ m → b d = true → ((Region.before ops).getD d 0).testBit j = true → b j = true := by
  intro m
  induction m with
  | zero =>
    intro d j hd hbd hj
    obtain ⟨o, e, h1, h2, h3, h4⟩ := before_bit hj
    rcases h4 with rfl | ⟨h4, _⟩
    · exact hb d o e hbd h1 h2 h3
    · omega
  | succ m ih =>
    intro d j hd hbd hj
    obtain ⟨o, e, h1, h2, h3, h4⟩ := before_bit hj
    have := hb d o e hbd h1 h2 h3
    rcases h4 with rfl | ⟨h4, h5⟩
    · exact this
    · exact ih e.on j (by omega) this h5

theorem edges_earlier : ∀ {l : List Oper} {n i : Nat} {o : Oper} {e : Edge}, edgesOk n l = true → l[i]? = some o → e ∈ o.after.toList → Region.binds .any e = true → e.on < n + i
  | [], _, _, _, _, _, h, _, _ => by simp at h
  | o0 :: l, n, 0, o, e, h, ho, he, hb => by
    simp only [edgesOk, Bool.and_eq_true] at h
    simp at ho
    subst ho
    have := List.all_eq_true.1 h.1 e he
    simp [hb] at this
    omega
  | o0 :: l, n, i + 1, o, e, h, ho, he, hb => by
    simp only [edgesOk, Bool.and_eq_true] at h
    have := edges_earlier h.2 (by simpa using ho) he hb
    omega

theorem meets_false {a b : List Nat} (h : meets a b = false) {k : Nat} (ha : k ∈ a) : k ∉ b := by
  intro hb
  have : meets a b = true := List.any_eq_true.2 ⟨k, ha, by simpa using hb⟩
  rw [this] at h
  cases h
theorem conflict_false {ops : Array Oper} {fs : List Foot} {i j : Nat} {oi oj : Oper} {fi fj : Foot} (h : conflict ops fs i j = false) (h1 : ops[i]? = some oi) (h2 : ops[j]? = some oj) (h3 : fs[i]? = some fi) (h4 : fs[j]? = some fj) :
    (∀ d, oj.dst = some d → d ∉ looks ops oi) ∧ (∀ d, oj.dst = some d → oi.dst ≠ some d) ∧ (∀ d, oi.dst = some d → d ∉ looks ops oj) ∧ (∀ k ∈ fj.ws, k ∉ fi.rs) ∧ (∀ k ∈ fj.ws, k ∉ fi.ws) ∧ (∀ k ∈ fi.ws, k ∉ fj.rs) := by
  unfold conflict at h
  simp only [h1, h2, h3, h4, Bool.or_eq_false_iff] at h
  obtain ⟨⟨⟨⟨g1, g2⟩, g3⟩, g4⟩, g5⟩ := h
  refine ⟨fun d hd => ?_, fun d hd => ?_, fun d hd => ?_, fun k hk => meets_false g3 hk, fun k hk => meets_false g4 hk, fun k hk => meets_false g5 hk⟩
  · simp only [hd, Bool.or_eq_false_iff] at g1
    simpa using g1.1
  · simp only [hd, Bool.or_eq_false_iff] at g1
    simpa using g1.2
  · simp only [hd] at g2
    simpa using g2

theorem evs_congr {t t' : List AV} : ∀ {xs : List Operand}, (∀ x ∈ xs, aev t x = aev t' x) → evs t xs = evs t' xs
  | [], _ => rfl
  | x :: xs, h => by
    have := evs_congr (xs := xs) fun y hy => h y (by simp [hy])
    simp only [evs, List.mapM_cons] at this ⊢
    rw [h x (by simp), this]
theorem bnd_congr {t t' : List AV} {q : Option Operand} {d : Nat} (h : ∀ x, q = some x → aev t x = aev t' x) : bnd t q d = bnd t' q d := by
  cases q with
  | none => rfl
  | some x => simp only [bnd, h x rfl]
theorem parts_congr {t t' : List AV} {pl : Nat → Option (Nat × Nat)} : ∀ {ps : List (Nat × Operand)}, (∀ p ∈ ps, aev t p.2 = aev t' p.2) → partsOf t pl ps = partsOf t' pl ps
  | [], _ => rfl
  | (i, x) :: r, h => by
    simp only [partsOf]
    rw [h (i, x) (by simp), parts_congr fun p hp => h p (by simp [hp])]
theorem sets_congr {t t' : List AV} {n len : Nat} : ∀ {ps : List (Nat × Operand)} {acc : List (List AV)}, (∀ p ∈ ps, aev t p.2 = aev t' p.2) → setsOf t n len ps acc = setsOf t' n len ps acc
  | [], _, _ => rfl
  | (i, x) :: r, acc, h => by
    have hr : ∀ acc, setsOf t n len r acc = setsOf t' n len r acc := fun acc => sets_congr fun p hp => h p (by simp [hp])
    have hx : aev t x = aev t' x := h (i, x) (by simp)
    simp only [setsOf, hx, hr]
theorem scalar_congr {P : Program} {o : Oper} {t t' : List AV} (hs : ∀ cs b, o.op ≠ .select cs b) (h : ∀ x ∈ o.op.operands, aev t x = aev t' x) : scalar P o t = scalar P o t' := by
  have h1 : (o.op.operands.all fun x => ((aev t x).bind toVal).isSome) = (o.op.operands.all fun x => ((aev t' x).bind toVal).isSome) := by
    rw [Bool.eq_iff_iff, Array.all_eq_true', Array.all_eq_true']
    exact ⟨fun g x hx => by rw [← h x hx]; exact g x hx, fun g x hx => by rw [h x hx]; exact g x hx⟩
  have h2 : execOp (rho t) o = execOp (rho t') o := execOp_congr o hs fun x hx => by unfold rho; rw [h x hx]
  unfold scalar
  rw [h1, h2]
theorem aop_congr {P : Program} {cf : FuncId → List AV → HM (AV × Ws)} {o : Oper} {t t' : List AV} {slot : Nat} (h : ∀ x ∈ o.op.operands, aev t x = aev t' x) : aop P cf o t slot = aop P cf o t' slot := by
  obtain ⟨dst, op, type, pos, after, guard⟩ := o
  have hsc : (∀ cs b, op ≠ .select cs b) → scalar P ⟨dst, op, type, pos, after, guard⟩ t = scalar P ⟨dst, op, type, pos, after, guard⟩ t' := fun hs => scalar_congr (o := ⟨dst, op, type, pos, after, guard⟩) hs h
  cases op <;> simp only [Op.operands] at h hsc <;> simp only [aop]
  case build ty ps => rw [parts_congr fun p hp => h p.2 (by simp; exact ⟨p.1, by simpa using hp⟩)]
  case buildSlice ty n ps =>
    have : ∀ {n len acc}, setsOf t n len ps.toList acc = setsOf t' n len ps.toList acc := sets_congr fun p hp => h p.2 (by simp; exact ⟨p.1, by simpa using hp⟩)
    simp only [this]
  case makeFunc fn first captured =>
    cases fn <;> simp only
    rw [evs_congr fun x hx => h x (by simp [(by simpa using hx : x ∈ captured)])]
  case slice ty x lo hi mx =>
    have h0 := h x (by simp)
    have h1 : ∀ d, bnd t lo d = bnd t' lo d := fun d => bnd_congr fun q hq => h q (by subst hq; simp)
    have h2 : ∀ d, bnd t hi d = bnd t' hi d := fun d => bnd_congr fun q hq => h q (by subst hq; cases lo <;> simp)
    have h3 : ∀ d, bnd t mx d = bnd t' mx d := fun d => bnd_congr fun q hq => h q (by subst hq; cases lo <;> cases hi <;> simp)
    simp only [h0, h1, h2, h3, hsc (by intro cs b; simp)]
  case call c =>
    cases hc : c.callee with
    | value f =>
      have h0 := h f (by simp [Call.operands, hc])
      simp only [h0, evs_congr (t := t) (t' := t') (xs := c.args.toList) fun x hx => h x (by simp [Call.operands, (by simpa using hx : x ∈ c.args)])]
    | invoke r m => rfl
    | builtin b =>
      have hargs : ∀ x ∈ c.args.toList, aev t x = aev t' x := fun x hx => h x (by simp [Call.operands, (by simpa using hx : x ∈ c.args)])
      cases b <;> simp only [hsc (by intro cs b; simp)]
      all_goals
        split
        all_goals first
          | rfl
          | (rename_i heq; rw [heq] at hargs; simp only [List.mem_cons, List.not_mem_nil, or_false, forall_eq] at hargs; simp only [hargs])
          | (rename_i heq _; rw [heq] at hargs; simp only [List.mem_cons, List.not_mem_nil, or_false, forall_eq_or_imp, forall_eq] at hargs; simp only [hargs])
  all_goals first
    | rfl
    | (simp only [List.mem_toArray, List.mem_cons, List.not_mem_nil, or_false, forall_eq_or_imp, forall_eq] at h
       first
         | (simp only [h]; done)
         | (simp only [h, hsc (by intro cs b; simp)]; done))

/-- The relation that holds whatever is listed so far. -/
structure Held (bs : Base) (M0 : Mem) (s0 : AS) (w0 : World) (tr : List Tr) (base n : Nat) (b : Nat → Bool) (a : Act) (w : World) (M : Mem) : Prop where
  rt : RelT M (selT b 0 tr s0.t) a.tmps.toList
  df : a.defers = []
  mm : MemOK M (selH b 0 tr s0.h)
  bk : bs.ok M
  wh : w.heap = M.H
  fr : Fr M0 s0.h M (selH b 0 tr s0.h)
  same : Same w0 w
  free : ∀ j, j < n → b j = false → M.μ (base + j) = none

section
variable {P : Program} {bs : Base} {cf : FuncId → List AV → HM (AV × Ws)} {ops : Array Oper} {base : Nat} {s s' : AS} {fs : List Foot}

/-- One step, whatever came up before it. -/
theorem inv_step (hcf : CfOK P bs cf) {tr : List Tr} {M0 : Mem} {w0 : World} (hlen : tr.length = ops.size) (hbase : base + ops.size ≤ s.h.length)
    (htr : ∀ i o, ops.toList[i]? = some o → ∃ r, tr[i]? = some r ∧ r.o = o ∧
        ((awanted ops o (selT (fun j => decide (j < i)) 0 tr s.t) = true ∧ (aop P cf o (selT (fun j => decide (j < i)) 0 tr s.t) (base + i)).run (selH (fun j => decide (j < i)) 0 tr s.h) = some ((r.x, r.ws), r.rs)) ∨
         (awanted ops o (selT (fun j => decide (j < i)) 0 tr s.t) = false ∧ r.x = .v undef ∧ r.ws = [])))
    (hord : ∀ i j, i < j → j < ops.size → ((Region.before ops).getD j 0).testBit i = true ∨ conflict ops (tr.map Tr.foot) i j = false)
    {Q : Exit → Act → World → Prop} {K : Act → World → Prop} {b : Nat → Bool} {i : Nat} {a : Act} {w : World} {M : Mem} (hi : i < ops.size) (hbi : b i = false) (hclosed : ∀ d j, b d = true → ((Region.before ops).getD d 0).testBit j = true → b j = true)
    (hready : ∀ j, ((Region.before ops).getD i 0).testBit j = true → b j = true) (hI : Held bs M0 s w0 tr base ops.size b a w M)
    (hK : ∀ a' w' M', Held bs M0 s w0 tr base ops.size (up b i) a' w' M' → K a' w') : wpOp P ops Q i K a w := by
  have ho : ops[i]? = some ops[i] := by simp [hi]
  obtain ⟨r, hri, hro, hcase⟩ := htr i ops[i] (by simp)
  have hfoot : ∀ {k : Nat} {rk : Tr}, tr[k]? = some rk → (tr.map Tr.foot)[k]? = some rk.foot := fun h => by simp [h]
  have opsOf : ∀ {j : Nat} {rj : Tr}, tr[j]? = some rj → j < ops.size ∧ ops[j]? = some rj.o := by
    intro j rj hj
    have hjl : j < ops.size := by rw [← hlen]; exact (List.getElem?_eq_some_iff.1 hj).1
    obtain ⟨r', h1, h2, _⟩ := htr j ops[j] (by simp [hjl])
    rw [hj] at h1
    cases h1
    exact ⟨hjl, by rw [h2]; simp [hjl]⟩
  -- what conflicts with i and comes ahead of it is listed, what comes behind is not
  have early : ∀ (j : Nat) (rj : Tr), tr[j]? = some rj → j < i → conflict ops (tr.map Tr.foot) j i = true → b j = true := fun j rj hj hlt hc => by
    rcases hord j i hlt hi with h1 | h1
    · exact hready j h1
    · rw [hc] at h1; cases h1
  have late : ∀ (j : Nat) (rj : Tr), tr[j]? = some rj → i < j → conflict ops (tr.map Tr.foot) i j = true → b j = false := fun j rj hj hlt hc => by
    rcases hord i j hlt (opsOf hj).1 with h1 | h1
    · cases hb : b j with
      | false => rfl
      | true => have := hclosed j i hb h1; rw [hbi] at this; cases this
    · rw [hc] at h1; cases h1
  have agree : ∀ (j : Nat) (rj : Tr), tr[j]? = some rj → (j < i → conflict ops (tr.map Tr.foot) j i = true) → (i < j → conflict ops (tr.map Tr.foot) i j = true) → b (0 + j) = decide (0 + j < i) := by
    intro j rj hj h1 h2
    rw [Nat.zero_add]
    rcases Nat.lt_trichotomy j i with h3 | h3 | h3
    · rw [early j rj hj h3 (h1 h3)]; simp [h3]
    · subst h3; rw [hbi]; simp
    · rw [late j rj hj h3 (h2 h3)]; simp; omega
  have tr_ : ∀ {c : Bool}, ¬ c = false → c = true := fun h => by simpa using h
  have lookT : ∀ d, d ∈ looks ops ops[i] → (selT b 0 tr s.t)[d]? = (selT (fun j => decide (j < i)) 0 tr s.t)[d]? := by
    intro d hd
    refine selT_at (fun j rj hj hdj => agree j rj hj (fun hlt => tr_ fun hc => ?_) (fun hlt => tr_ fun hc => ?_)) rfl rfl
    · obtain ⟨_, _, g3, _⟩ := conflict_false hc (opsOf hj).2 ho (hfoot hj) (hfoot hri)
      exact g3 d hdj hd
    · obtain ⟨g1, _⟩ := conflict_false hc ho (opsOf hj).2 (hfoot hri) (hfoot hj)
      exact g1 d hdj hd
  have hwant : awanted ops ops[i] (selT b 0 tr s.t) = awanted ops ops[i] (selT (fun j => decide (j < i)) 0 tr s.t) := by
    unfold awanted
    cases hg : ops[i].guard with
    | none => rfl
    | some p =>
      obtain ⟨j, want⟩ := p
      simp only
      cases hd : (ops[j]?).bind (·.dst) with
      | none => simp
      | some d =>
        simp only [Option.bind_some]
        rw [lookT d (by simp [looks, hg, hd])]
  have insT : selT (up b i) 0 tr s.t = put (selT b 0 tr s.t) r.o.dst r.x := by
    have := selT_up (b := b) (tr := tr) (i := 0) (k := i) (t := s.t) hri (by simpa using hbi) (fun j rj hj hlt hb d hd hdj => by
      rw [Nat.zero_add] at hb
      have hc : conflict ops (tr.map Tr.foot) i j = true := tr_ fun hc => by
        obtain ⟨_, g2, _⟩ := conflict_false hc ho (opsOf hj).2 (hfoot hri) (hfoot hj)
        exact g2 d hdj (by rw [← hro]; exact hd)
      rw [late j rj hj hlt hc] at hb
      cases hb)
    simpa using this
  have insH : selH (up b i) 0 tr s.h = applyWs (selH b 0 tr s.h) r.ws := by
    have := selH_up (b := b) (tr := tr) (i := 0) (k := i) (t := s.h) hri (by simpa using hbi) (fun j rj hj hlt hb d hd hdj => by
      rw [Nat.zero_add] at hb
      have hc : conflict ops (tr.map Tr.foot) i j = true := tr_ fun hc => by
        obtain ⟨_, _, _, _, g5, _⟩ := conflict_false hc ho (opsOf hj).2 (hfoot hri) (hfoot hj)
        exact g5 d hdj hd
      rw [late j rj hj hlt hc] at hb
      cases hb)
    simpa using this
  unfold wpOp
  simp only [ho]
  rw [wanted_eq hI.rt, hwant]
  rcases hcase with ⟨hw, hrun⟩ | ⟨hw, hx, hws⟩
  · rw [hw, if_pos rfl]
    refine .inl ?_
    have hcong : aop P cf ops[i] (selT b 0 tr s.t) (base + i) = aop P cf ops[i] (selT (fun j => decide (j < i)) 0 tr s.t) (base + i) := aop_congr fun x hx => by
      cases x with
      | tmp d => exact lookT d (by simp only [looks, List.mem_append, List.mem_filterMap]; exact .inl ⟨.tmp d, by simpa using hx, rfl⟩)
      | _ => rfl
    have hrun' : (aop P cf ops[i] (selT b 0 tr s.t) (base + i)).run (selH b 0 tr s.h) = some ((r.x, r.ws), r.rs) := by
      rw [hcong]
      refine HM.run_local hrun fun k hk => selH_at (fun j rj hj hdj => agree j rj hj (fun hlt => tr_ fun hc => ?_) (fun hlt => tr_ fun hc => ?_)) rfl rfl
      · obtain ⟨_, _, _, _, _, g6⟩ := conflict_false hc (opsOf hj).2 ho (hfoot hj) (hfoot hri)
        exact g6 k hdj hk
      · obtain ⟨_, _, _, g4, _⟩ := conflict_false hc ho (opsOf hj).2 (hfoot hri) (hfoot hj)
        exact g4 k hdj hk
    refine aop_ok hcf hI.bk hI.mm hI.wh (by rw [selH_length]; omega) (hI.free i hi hbi) hI.rt hrun' K Q fun v w' M' p1 p2 p3 p4 p5 p6 => hK _ w' M' ⟨?_, by rw [put_defers]; exact hI.df, by rw [insH]; exact p2, Base.fr hI.bk hI.mm p3, p5, by rw [insH]; exact hI.fr.trans p3, hI.same.trans p6, fun j hj hbj => ?_⟩
    · rw [insT, hro]
      exact put_rel (hI.rt.mono (p3.keeps hI.mm)) p1 _
    · have hji : j ≠ i := fun e => by subst e; rw [up_self] at hbj; cases hbj
      rw [up_ne hji] at hbj
      exact p4 _ (by omega) (hI.free j hj hbj)
  · rw [hw, if_neg (by simp)]
    refine hK _ w M ⟨?_, by rw [put_defers]; exact hI.df, by rw [insH, hws]; exact hI.mm, hI.bk, hI.wh, by rw [insH, hws]; exact hI.fr, hI.same, fun j hj hbj => ?_⟩
    · rw [insT, hro, hx]
      exact put_rel hI.rt (by unfold Rel; rfl) _
    · have hji : j ≠ i := fun e => by subst e; rw [up_self] at hbj; cases hbj
      rw [up_ne hji] at hbj
      exact hI.free j hj hbj
end
end Go.Proofs.YtjhekjhbjaengaaGreatDoor.Ev
