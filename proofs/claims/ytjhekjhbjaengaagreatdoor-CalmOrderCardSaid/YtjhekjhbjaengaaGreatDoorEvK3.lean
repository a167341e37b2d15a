/- The second evaluator: operations on plain values, made rows. -/
import Derived.Test.YtjhekjhbjaengaaGreatDoorEvK2
namespace Go.Proofs.YtjhekjhbjaengaaGreatDoor.Ev
open Go Go.RowKit

section
variable {P : Program} {cf : FuncId → List AV → HM (AV × Ws)} {o : Oper} {t : T XV} {h : T XB} {nx m slot : Nat} {ι : Nat → Nat} {D : Nat → Prop} {a : AS} {r : XR}

theorem xplainL_ok : ∀ {l : List XV} {xs : List Value} {b : Bool}, xplainL l = some (xs, b) → ∀ ι, (erL l ι).mapM AV.plain? = some xs
  | [], xs, b, h, ι => by
    simp only [xplainL, Option.some.injEq, Prod.mk.injEq] at h
    rw [← h.1]
    simp [erL]
  | x :: l, xs, b, h, ι => by
    cases x <;> simp only [xplainL] at h <;> first | (cases h; done) | skip
    case v y =>
      split at h
      · rename_i m b' hm
        cases h
        simp only [erL, er, List.mapM_cons, AV.plain?, xplainL_ok hm ι]
        rfl
      · cases h
    case s y =>
      split at h
      · rename_i m b' hm
        cases h
        simp only [erL, er, List.mapM_cons, AV.plain?, xplainL_ok hm ι]
        rfl
      · cases h
theorem xplain_ok {x : XV} {y : Value} {b : Bool} (h : xplain x = some (y, b)) (ι : Nat → Nat) : toVal (er x ι) = some y := by
  cases x <;> simp only [xplain] at h <;> first | (cases h; done) | skip
  case v z => cases h; simp [er, toVal]
  case s z => cases h; simp [er, toVal]
  case agg l =>
    split at h
    · rename_i m b' hm
      cases h
      simp only [er, toVal, xplainL_ok hm ι]
      rfl
    · cases h
theorem xofVal_ok (sym : Bool) (x : Value) (ι : Nat → Nat) (n : Nat) : er (xofVal sym x) ι = ofConst x ∧ lo n (xofVal sym x) := by
  cases x
  case agg cs =>
    simp only [xofVal, ofConst]
    cases hc : cs.all (·.oneCell') with
    | false => simp only [cond_false, Bool.false_eq_true, if_false]; exact ⟨by simp [er], by simp [lo]⟩
    | true =>
      simp only [cond_true, if_true]
      cases sym
      · simp only [cond_false]
        exact ⟨by simp [er, erL_vals], by unfold lo; exact loL_vals _⟩
      · simp only [cond_true]
        refine ⟨by simp [er, erL_eq], ?_⟩
        unfold lo
        exact loL_iff.2 fun x hx => by obtain ⟨y, _, rfl⟩ := List.mem_map.1 hx; simp [lo]
  all_goals cases sym <;> exact ⟨by simp [xofVal, ofConst, er], by simp [xofVal, lo]⟩

variable (R : XRel D ι m ⟨t, h, nx⟩ a)
include R
theorem xscalar_ok (hs : ∀ cs b, o.op ≠ .select cs b) (hr : xscalar P o t = some r) : ∃ x, r = ⟨x, [], [], false⟩ ∧ lo nx x ∧ scalar P o a.t = some (er x ι) := by
  unfold xscalar at hr
  cases hall : (o.op.operands.toList.all fun x => ((xev t x).bind xplain).isSome) with
  | false => simp [hall] at hr
  | true =>
    simp only [hall, cond_true] at hr
    have key : ∀ x ∈ o.op.operands, ∃ y b, (xev t x).bind xplain = some (y, b) ∧ (aev a.t x).bind toVal = some y := by
      intro x hx
      have h1 := List.all_eq_true.1 hall x (by simpa using hx)
      obtain ⟨p, hp⟩ := Option.isSome_iff_exists.1 h1
      cases hv : xev t x with
      | none => simp [hv] at hp
      | some v =>
        simp only [hv, Option.bind_some] at hp
        obtain ⟨y, b⟩ := p
        exact ⟨y, b, by simpa using hp, by rw [(xev_ok R hv).1]; simpa using xplain_ok hp ι⟩
    have hexec : execOp (rho a.t) o = execOp (xrho t) o := execOp_congr o hs fun x hx => by
      obtain ⟨y, b, h1, h2⟩ := key x hx
      unfold rho xrho
      rw [h1, h2]
      rfl
    have hall' : (o.op.operands.all fun x => ((aev a.t x).bind toVal).isSome) = true := by
      rw [Array.all_eq_true']
      intro x hx
      obtain ⟨y, b, _, h2⟩ := key x hx
      rw [h2]; rfl
    split at hr
    · rename_i v hv
      simp only [XR.of, Option.some.injEq] at hr
      refine ⟨_, hr.symm, (xofVal_ok _ v ι nx).2, ?_⟩
      unfold scalar
      rw [hall', hexec, hv]
      simp only [if_true]
      rw [(xofVal_ok _ v ι nx).1]
    · cases hr
theorem scalar_runs (hs : ∀ cs b, o.op ≠ .select cs b) (hr : xscalar P o t = some r) (ho : ∀ y, scalar P o a.t = some y → (aop P cf o a.t slot).run a.h = some ((y, []), [])) : Runs P cf o a.t a.h slot nx D ι r := by
  obtain ⟨x, rfl, h1, h2⟩ := xscalar_ok R hs hr
  exact runs_pure h1 (ho _ h2)
theorem op_index' {ty : TypeId} {x ix : Operand} {y z : XV} (ho : o.op = .index ty x ix) (hy : xev t x = some y) (hz : xev t ix = some z) (hr : xindex P o ty y z t = some r) : Runs P cf o a.t a.h slot nx D ι r := by
  obtain ⟨ha, hl⟩ := xev_ok R hy
  obtain ⟨ha', _⟩ := xev_ok R hz
  unfold xindex at hr
  split at hr
  · rename_i l
    split at hr
    · rename_i i k et hi hu
      have hn' := xnat_ok hi ι
      split at hr
      · rename_i n hn
        cases hc : Nat.blt i k with
        | false => simp [hc] at hr
        | true =>
          simp only [hc, cond_true] at hr
          unfold XR.opt at hr
          split at hr
          · rename_i x' hx'
            cases hr
            have h4 := xcut_ok hx' ι
            refine runs_pure (h4.2 nx (by simpa [lo] using hl)) ?_
            simp only [aop, ho, ha, ha', of_some, bind_ret, hn', hu, hn, er, if_pos (blt_nat hc), h4.1]
            rfl
          · cases hr
      · cases hr
    · cases hr
  · rename_i hne
    refine scalar_runs R (by rw [ho]; simp) hr fun v hv => ?_
    simp only [aop, ho, ha, ha', of_some, bind_ret, hv]
    cases y <;> first | (exact absurd rfl (hne _)) | skip
    all_goals
      simp only [er]
      split
      · rename_i h1 h2; cases h2
      · rfl
theorem xbnd_ok {q : Option Operand} {d n : Nat} (hq : xbnd t q d = some n) : bnd a.t q d = .ret n := by
  unfold xbnd at hq
  unfold bnd
  split at hq
  · cases hq; rfl
  · rename_i x
    cases hx : xev t x with
    | none => simp [hx] at hq
    | some y =>
      simp only [hx, Option.bind_some] at hq
      simp only [(xev_ok R hx).1, of_some, bind_ret, xnat_ok hq ι]
omit R
theorem xlen_ok (y : XV) (hy : ∀ l, y ≠ .ol l) (ι : Nat → Nat) : alen (er y ι) = xlen y := by
  cases y <;> simp [er, alen, xlen, erLL_length]
  rename_i l
  exact absurd rfl (hy l)
theorem xsub_ok {sz l h : Nat} {z : Bool} {y x : XV} (hx : xsub sz y l h z = some x) (ι : Nat → Nat) : (∀ l, y ≠ .ol l) ∧ subS sz (er y ι) l h z = some (er x ι) ∧ ∀ n, lo n y → lo n x := by
  unfold xsub at hx
  split at hx
  · rename_i b k off len
    refine ⟨by simp, ?_⟩
    cases z with
    | true => simp only [cond_true, Option.some.injEq] at hx; subst hx; exact ⟨by simp [er, subS], fun n _ => by simp [lo]⟩
    | false =>
      simp only [cond_false] at hx
      cases hc : Nat.beq k sz with
      | false => simp [hc] at hx
      | true => simp only [hc, cond_true, Option.some.injEq] at hx; subst hx; exact ⟨by simp [er, subS, beq_nat hc], fun n hn => by simpa [lo] using hn⟩
  · rename_i e
    refine ⟨by simp, ?_⟩
    cases z with
    | true => simp only [cond_true, Option.some.injEq] at hx; subst hx; exact ⟨by simp [er, subS], fun n _ => by simp [lo]⟩
    | false =>
      simp only [cond_false] at hx
      cases hc : (e.head?.all fun c => Nat.beq c.length sz) with
      | false => simp [hc] at hx
      | true =>
        simp only [hc, cond_true, Option.some.injEq] at hx
        subst hx
        refine ⟨?_, fun n _ => by simp [lo]⟩
        simp only [er, subS, Bool.false_eq_true, if_false]
        have : ((erLL e id).head?.all fun c => c.length == sz) = true := by
          cases e with
          | nil => simp [erLL]
          | cons c e => simpa [erLL, erL_length] using hc
        rw [if_pos this]
        simp [erLL_take, erLL_drop]
  · cases hx
    exact ⟨by simp, by simp [er, subS], fun n _ => by simp [lo]⟩
  · cases hx
    exact ⟨by simp, by simp [er, subS], fun n _ => by simp [lo]⟩
  · cases hx
include R
theorem op_slice' {ty : TypeId} {x : Operand} {lw hi mx : Option Operand} {y : XV} (ho : o.op = .slice ty x lw hi mx) (hy : xev t x = some y) (hr : xslice P o ty y lw hi mx t = some r) : Runs P cf o a.t a.h slot nx D ι r := by
  obtain ⟨ha, hl⟩ := xev_ok R hy
  unfold xslice at hr
  split at hr
  · rename_i et hu
    split at hr
    · rename_i sz l hh mm hsz h1 h2 h3
      cases hc : (Nat.ble l hh && Nat.ble hh mm && Nat.ble mm (xlen y) && (mx.isNone || hi.isSome)) with
      | false => simp [hc] at hr
      | true =>
        simp only [hc, cond_true] at hr
        simp only [Bool.and_eq_true, Bool.or_eq_true] at hc
        obtain ⟨⟨⟨c1, c2⟩, c3⟩, c4⟩ := hc
        unfold XR.opt at hr
        split at hr
        · rename_i x' hx'
          cases hr
          obtain ⟨g0, g1, g2⟩ := xsub_ok hx' ι
          refine runs_pure (g2 nx hl) ?_
          have e1 := xbnd_ok R h1
          have e2 := xbnd_ok R h2
          have e3 := xbnd_ok R h3
          simp only [aop, ho, ha, of_some, bind_ret, hu, hsz, xlen_ok y g0 ι, e1, e2, e3]
          rw [if_pos ⟨ble_nat c1, ble_nat c2, ble_nat c3, by simpa using c4⟩]
          have hb : (Nat.beq mm l) = (mm == l) := by
            cases hq : Nat.beq mm l with
            | true => simp [beq_nat hq]
            | false => simpa using beq_nat_false hq
          rw [hb] at g1
          rw [g1]
          rfl
        · cases hr
    · cases hr
  · rename_i hne
    refine scalar_runs R (by rw [ho]; simp) hr fun v hv => ?_
    simp only [aop, ho, ha, of_some, bind_ret, hv]
    rfl
omit R
theorem xzero_ok {ty : TypeId} {z : List XV} (hz : xzero P ty = some z) (ι : Nat → Nat) : zcells P ty = some (erL z ι) ∧ ∀ n, loL n z := by
  unfold xzero at hz
  unfold zcells
  cases hq : ((P.info? ty).bind (·.zero)) with
  | none => simp [hq] at hz
  | some v =>
    simp only [hq, Option.bind_some] at hz ⊢
    cases hc : v.cells.all (·.oneCell') with
    | false => simp [hc] at hz
    | true =>
      simp only [hc, cond_true, Option.some.injEq] at hz
      subst hz
      simp only [if_true]
      exact ⟨by rw [erL_vals], fun n => loL_vals _⟩
include R
theorem xparts_ok {pl : Nat → Option (Nat × Nat)} : ∀ {ps : List (Nat × Operand)} {l : List (Nat × List XV)}, xparts t pl ps = some l → partsOf a.t pl ps = some (l.map fun p => (p.1, erL p.2 ι)) ∧ ∀ p ∈ l, loL nx p.2
  | [], l, hp => by
    simp only [xparts, Option.some.injEq] at hp
    subst hp
    exact ⟨rfl, by simp⟩
  | (f, x) :: q, l, hp => by
    simp only [xparts] at hp
    split at hp
    · rename_i off n c l' h1 h2 h3
      cases hc : Nat.beq c.length n with
      | false => simp [hc] at hp
      | true =>
        simp only [hc, cond_true, Option.some.injEq] at hp
        subst hp
        cases hx : xev t x with
        | none => simp [hx] at h2
        | some y =>
          simp only [hx, Option.bind_some] at h2
          obtain ⟨g1, g2⟩ := xev_ok R hx
          obtain ⟨g3, g4⟩ := xcells_ok h2 ι
          obtain ⟨g5, g6⟩ := xparts_ok h3
          refine ⟨?_, ?_⟩
          · simp only [partsOf, h1, g1, Option.bind_some, g3, g5, erL_length, beq_nat hc, if_true, List.map_cons]
          · intro p hp'
            rcases List.mem_cons.1 hp' with rfl | hp'
            · exact g4 nx g2
            · exact g6 p hp'
    · cases hp
omit R
theorem xfill_ok : ∀ {ps : List (Nat × List XV)} {z c : List XV}, xfill z ps = some c → ∀ ι, fillAt (erL z ι) (ps.map fun p => (p.1, erL p.2 ι)) = some (erL c ι) ∧ ∀ n, loL n z → (∀ p ∈ ps, loL n p.2) → loL n c
  | [], z, c, h, ι => by
    simp only [xfill, Option.some.injEq] at h
    subst h
    exact ⟨rfl, fun n h1 _ => h1⟩
  | (q, e) :: ps, z, c, h, ι => by
    simp only [xfill] at h
    cases hc : Nat.ble (q + e.length) z.length with
    | false => simp [hc] at h
    | true =>
      simp only [hc, cond_true] at h
      obtain ⟨g1, g2⟩ := xfill_ok h ι
      refine ⟨?_, fun n h1 h2 => g2 n (loL_append.2 ⟨loL_append.2 ⟨loL_take h1 _, h2 (q, e) (by simp)⟩, loL_drop h1 _⟩) fun p hp => h2 p (by simp [hp])⟩
      simp only [List.map_cons, fillAt, erL_length]
      rw [if_pos (ble_nat hc), ← g1]
      simp [erL_append, erL_take, erL_drop]
include R
theorem op_build' {ty : TypeId} {ps : Array (Nat × Operand)} (ho : o.op = .build ty ps) (hr : xbuild P ty ps.toList t = some r) : Runs P cf o a.t a.h slot nx D ι r := by
  unfold xbuild at hr
  split at hr
  · rename_i z hz
    cases hb : xbuildOk P ty with
    | false => simp [hb] at hr
    | true =>
      simp only [hb, cond_true] at hr
      split at hr
      · rename_i l hl
        split at hr
        · rename_i c hcf
          simp only [XR.of, Option.some.injEq] at hr
          subst hr
          obtain ⟨z1, z2⟩ := xzero_ok hz ι
          obtain ⟨p1, p2⟩ := xparts_ok R hl
          obtain ⟨f1, f2⟩ := xfill_ok hcf ι
          refine runs_pure (by unfold lo; exact f2 nx (z2 nx) p2) ?_
          unfold xbuildOk at hb
          split at hb
          · rename_i fs hu
            simp only [aop, ho, z1, hu, hb, if_true, p1, Option.bind_some, f1, Option.map_some, of_some, bind_ret, er]
            rfl
          · rename_i et hu
            simp only [aop, ho, z1, hu, hb, if_true, p1, Option.bind_some, f1, Option.map_some, of_some, bind_ret, er]
            rfl
          · cases hb
        · cases hr
      · cases hr
  · cases hr
theorem xsets_ok {n len : Nat} : ∀ {ps : List (Nat × Operand)} {acc es : List (List XV)}, xsets t n len ps acc = some es → setsOf a.t n len ps (erLL acc ι) = some (erLL es ι) ∧ (loLL nx acc → loLL nx es)
  | [], acc, es, h => by
    simp only [xsets, Option.some.injEq] at h
    subst h
    exact ⟨rfl, fun h => h⟩
  | (i, x) :: q, acc, es, h => by
    simp only [xsets] at h
    split at h
    · rename_i c h2
      cases hc : (Nat.beq c.length n && Nat.blt i len) with
      | false => simp [hc] at h
      | true =>
        simp only [hc, cond_true] at h
        simp only [Bool.and_eq_true] at hc
        cases hx : xev t x with
        | none => simp [hx] at h2
        | some y =>
          simp only [hx, Option.bind_some] at h2
          obtain ⟨g1, g2⟩ := xev_ok R hx
          obtain ⟨g3, g4⟩ := xcells_ok h2 ι
          obtain ⟨g5, g6⟩ := xsets_ok h
          refine ⟨?_, fun hl => g6 (loLL_iff.2 fun e he => ?_)⟩
          · simp only [setsOf, g1, Option.bind_some, g3, erL_length]
            rw [if_pos ⟨beq_nat hc.1, blt_nat hc.2⟩, ← erLL_set]
            exact g5
          · rcases List.mem_or_eq_of_mem_set he with he | he
            · exact loLL_iff.1 hl e he
            · rw [he]; exact g4 nx g2
    · cases h
omit R
theorem runs_new {x : XV} {els : List (List XV)} {k : Nat} {l : List Nat} {pre : List (Nat × Option XB)} (hx : lo (nx + 1) x) (hels : loLL nx els) (hl : ∀ c ∈ l, c < nx ∧ D c) (hpre : ∀ w ∈ pre, (w.1 < nx ∧ D w.1) ∧ w.2 = none)
    (hrun : ∃ rs, (aop P cf o a.t slot).run a.h = some ((er x (up1 ι nx slot), (pre.map fun w => (ι w.1, none)) ++ [(slot, some ⟨k, true, erLL els ι⟩)]), rs) ∧ ∀ b ∈ rs, ∃ c ∈ l, ι c = b) :
    Runs P cf o a.t a.h slot nx D ι ⟨x, pre ++ [(nx, some ⟨k, true, els, false⟩)], l, true⟩ := by
  obtain ⟨rs, h1, h2⟩ := hrun
  refine ⟨⟨rs, ?_, h2⟩, by simpa [nxt] using hx, ?_, hl⟩
  · rw [h1]
    simp only [List.map_append, List.map_cons, List.map_nil, up1_at, Option.map_some]
    have e1 : pre.map (fun w => (ι w.1, (none : Option Blk))) = pre.map fun w => (up1 ι nx slot w.1, w.2.map (erB (up1 ι nx slot))) := List.map_congr_left fun w hw => by
      rw [up1_lt (hpre w hw).1.1, (hpre w hw).2]; rfl
    rw [e1]
    have e2 : erB (up1 ι nx slot) ⟨k, true, els, false⟩ = ⟨k, true, erLL els ι⟩ := by
      rw [erB_congr (n := nx) (fun b hb => up1_lt hb) (Or.inr hels)]
      rfl
    rw [e2]
  · intro w hw
    rcases List.mem_append.1 hw with hw | hw
    · obtain ⟨g1, g2⟩ := hpre w hw
      exact ⟨.inl g1, fun q hq => by rw [g2] at hq; cases hq⟩
    · simp only [List.mem_singleton] at hw
      subst hw
      exact ⟨.inr ⟨rfl, rfl⟩, fun q hq => by cases hq; exact Or.inr (loLL_mono (by simp [nxt]) _ hels)⟩
theorem op_alloc' {ty : TypeId} {z : List XV} (ho : o.op = .alloc ty) (hz : xzero P ty = some z) : Runs P cf o a.t a.h slot nx D ι ⟨.ptr nx z.length 0 0, [(nx, some ⟨z.length, true, [z], false⟩)], [], true⟩ := by
  obtain ⟨z1, z2⟩ := xzero_ok hz ι
  refine runs_new (pre := []) (by simp [lo]) (by simp [loLL, z2 nx]) (by simp) (by simp) ⟨[], ?_, by simp⟩
  simp only [aop, ho, z1, er, up1_at, erL_length, newBlk, List.map_nil, List.nil_append, erLL]
  rfl
include R
theorem op_box' {ty : TypeId} {x : Operand} {y : XV} {z : List XV} (ho : o.op = .box ty x) (hy : xev t x = some y) (hz : y.cells? = some z) : Runs P cf o a.t a.h slot nx D ι ⟨.ptr nx z.length 0 0, [(nx, some ⟨z.length, true, [z], false⟩)], [], true⟩ := by
  obtain ⟨ha, hl⟩ := xev_ok R hy
  obtain ⟨g1, g2⟩ := xcells_ok hz ι
  refine runs_new (pre := []) (by simp [lo]) (by simp [loLL, g2 nx hl]) (by simp) (by simp) ⟨[], ?_, by simp⟩
  simp only [aop, ho, ha, of_some, bind_ret, g1, er, up1_at, erL_length, newBlk, List.map_nil, List.nil_append, erLL]
  rfl
theorem op_buildSlice' {ty : TypeId} {len : Nat} {ps : Array (Nat × Operand)} (ho : o.op = .buildSlice ty len ps) (hr : xbuildSlice P ty len ps.toList t nx = some r) : Runs P cf o a.t a.h slot nx D ι r := by
  unfold xbuildSlice at hr
  split at hr
  · rename_i et hu
    split at hr
    · rename_i n z hn hz
      cases hc : (Nat.beq n 0 || !(Nat.ble (len * n) (2 ^ 24)) || !(Nat.beq z.length n)) with
      | true => simp [hc] at hr
      | false =>
        simp only [hc, cond_false] at hr
        simp only [Bool.or_eq_false_iff, Bool.not_eq_false'] at hc
        obtain ⟨⟨c1, c2⟩, c3⟩ := hc
        split at hr
        · rename_i es hes
          unfold xnew at hr
          cases hr
          obtain ⟨z1, z2⟩ := xzero_ok hz ι
          obtain ⟨s1, s2⟩ := xsets_ok R hes
          refine runs_new (pre := []) (by simp [lo]) (s2 (loLL_iff.2 fun e he => by rw [List.eq_of_mem_replicate he]; exact z2 nx)) (by simp) (by simp) ⟨[], ?_, by simp⟩
          rw [erLL_replicate] at s1
          simp only [aop, ho, hu, hn, z1, erL_length]
          rw [if_neg (by have := beq_nat_false c1; have := ble_nat c2; have := beq_nat c3; omega), s1]
          simp only [of_some, bind_ret, er, up1_at, newBlk, List.map_nil, List.nil_append]
          rfl
        · cases hr
    · cases hr
  · cases hr
theorem op_makeSlice' {ty : TypeId} {p q : Operand} {x y : XV} (ho : o.op = .makeSlice ty p q) (hx : xev t p = some x) (hy : xev t q = some y) (hr : xmakeSlice P ty x y nx = some r) : Runs P cf o a.t a.h slot nx D ι r := by
  obtain ⟨ha, ha2⟩ := xev_ok R hx
  obtain ⟨hb, hb2⟩ := xev_ok R hy
  unfold xmakeSlice at hr
  split at hr
  · rename_i k l et hu
    split at hr
    · rename_i inf n z hi hn hz
      cases hc : (Nat.beq k l && !(Nat.beq n 0) && Nat.beq z.length n && Nat.ble k (2 ^ 40) && Nat.ble (inf.bytes * k) (2 ^ 40)) with
      | false => simp [hc] at hr
      | true =>
        simp only [hc, cond_true] at hr
        simp only [Bool.and_eq_true, Bool.not_eq_true'] at hc
        obtain ⟨⟨⟨⟨c1, c2⟩, c3⟩, c4⟩, c5⟩ := hc
        unfold xnew at hr
        cases hr
        obtain ⟨z1, z2⟩ := xzero_ok hz ι
        refine runs_new (pre := []) (by simp [lo]) (loLL_iff.2 fun e he => by rw [List.eq_of_mem_replicate he]; exact z2 nx) (by simp) (by simp) ⟨[], ?_, by simp⟩
        have e1 := beq_nat c1
        have e2 := beq_nat_false c2
        have e3 := beq_nat c3
        have e4 := ble_nat c4
        have e5 := ble_nat c5
        subst e1
        simp only [aop, ho, ha, hb, of_some, bind_ret, er, hu, hi, hn, z1, erL_length]
        have h4 : (Int.ofNat k : Int) ≤ 2 ^ 40 := by show ((k : Nat) : Int) ≤ 2 ^ 40; omega
        have h5 : (inf.bytes : Int) * Int.ofNat k ≤ 2 ^ 40 := by
          show (inf.bytes : Int) * ((k : Nat) : Int) ≤ 2 ^ 40
          have := Int.natCast_mul inf.bytes k
          omega
        rw [if_pos ⟨trivial, Int.natCast_nonneg k, e2, e3, h4, h5⟩]
        simp only [up1_at, newBlk, List.map_nil, List.nil_append, erLL_replicate]
        rfl
    · cases hr
  · cases hr
end
end Go.Proofs.YtjhekjhbjaengaaGreatDoor.Ev
