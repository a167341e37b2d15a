/- The second evaluator: append, copy, comparisons; any operation that is no call. -/
import Derived.Test.YtjhekjhbjaengaaGreatDoorEvK3
namespace Go.Proofs.YtjhekjhbjaengaaGreatDoor.Ev
open Go Go.RowKit

section
variable {P : Program} {cf : FuncId → List AV → HM (AV × Ws)} {o : Oper} {t : T XV} {h : T XB} {nx m slot : Nat} {ι : Nat → Nat} {D : Nat → Prop} {a : AS} {r : XR}

theorem fzc_er {x : XV} (h : fzc x = true) (ι ι' : Nat → Nat) : er x ι = er x ι' := by
  cases x <;> simp [fzc] at h <;> simp [er]
theorem fzc_lo {x : XV} (h : fzc x = true) (n : Nat) : lo n x := by
  cases x <;> simp [fzc] at h <;> simp [lo]
theorem fzcL_er {l : List (List XV)} (h : ∀ e ∈ l, ∀ x ∈ e, fzc x = true) (ι ι' : Nat → Nat) : erLL l ι = erLL l ι' := by
  rw [erLL_eq, erLL_eq]
  refine List.map_congr_left fun e he => ?_
  rw [erL_eq, erL_eq]
  exact List.map_congr_left fun x hx => fzc_er (h e he x hx) ι ι'
theorem fzcL_lo {l : List (List XV)} (h : ∀ e ∈ l, ∀ x ∈ e, fzc x = true) (n : Nat) : loLL n l :=
  loLL_iff.2 fun e he => loL_iff.2 fun x hx => fzc_lo (h e he x hx) n

variable (R : XRel D ι m ⟨t, h, nx⟩ a)
include R
/-- The elements of a slice. -/
theorem xelems_ok {y : XV} {ys : List (List XV)} {rs : List Nat} {n : Nat} (hy : xelems y h = some (ys, rs))
    (hn : elsOk n y ys = true) :
    (∃ rs', (elems (er y ι)).run a.h = some (erLL ys ι, rs') ∧ (∀ b ∈ rs', ∃ c ∈ rs, ι c = b)) ∧ (∀ c ∈ rs, c < nx ∧ D c) ∧ loLL nx ys ∧ (erLL ys ι).all (fun e => e.length == n) = true := by
  have hlen : (erLL ys ι).all (fun e => e.length == n) = true := by
    rw [List.all_eq_true]
    intro e he
    rw [erLL_eq] at he
    obtain ⟨e', he', rfl⟩ := List.mem_map.1 he
    rw [erL_length]
    unfold elsOk at hn
    split at hn
    · simpa using beq_nat (List.all_eq_true.1 hn e' he')
    · have := List.all_eq_true.1 hn e' he'
      simp only [Bool.and_eq_true] at this
      simpa using beq_nat this.1
  unfold xelems at hy
  split at hy
  · rename_i b k off len
    split at hy
    · rename_i blk hblk
      cases hc : (Nat.beq blk.k k && !blk.op && Nat.ble (off + len) blk.els.length) with
      | false => simp [hc] at hy
      | true =>
        simp only [hc, cond_true, Option.some.injEq, Prod.mk.injEq] at hy
        obtain ⟨rfl, rfl⟩ := hy
        simp only [Bool.and_eq_true, Bool.not_eq_true'] at hc
        obtain ⟨⟨c1, c2⟩, c3⟩ := hc
        obtain ⟨h1, h2, h3⟩ := blk_ok R hblk
        refine ⟨⟨[ι b], ?_, by simp⟩, by simpa using h1, loLL_take (loLL_drop (loB_els c2 h3) _) _, hlen⟩
        simp only [er, elems]
        rw [get_run h2, erB_get c2, erB_k, if_pos ⟨beq_nat c1, by rw [erLL_length]; exact ble_nat c3⟩]
        simp only [ret_run, erLL_take, erLL_drop]
    · cases hy
  · rename_i l
    simp only [Option.some.injEq, Prod.mk.injEq] at hy
    obtain ⟨rfl, rfl⟩ := hy
    have hf : ∀ e ∈ l, ∀ x ∈ e, fzc x = true := by
      intro e he x hx
      simp only [elsOk] at hn
      have := List.all_eq_true.1 hn e he
      simp only [Bool.and_eq_true] at this
      exact List.all_eq_true.1 this.2 x hx
    exact ⟨⟨[], by simp only [er, elems, ret_run, fzcL_er hf ι id], by simp⟩, by simp, fzcL_lo hf nx, hlen⟩
  · simp only [Option.some.injEq, Prod.mk.injEq] at hy
    obtain ⟨rfl, rfl⟩ := hy
    exact ⟨⟨[], by simp [er, elems, ret_run, erLL], by simp⟩, by simp, by simp [loLL], hlen⟩
  · simp only [Option.some.injEq, Prod.mk.injEq] at hy
    obtain ⟨rfl, rfl⟩ := hy
    exact ⟨⟨[], by simp [er, elems, ret_run, erLL], by simp⟩, by simp, by simp [loLL], hlen⟩
  · cases hy
omit R
theorem bind_run {α β : Type} {h : Heap} {x : HM α} {f : α → HM β} {y : α} {z : β} {r1 r2 : List Nat} (h1 : x.run h = some (y, r1)) (h2 : (f y).run h = some (z, r2)) : (x.bind f).run h = some (z, r1 ++ r2) := by
  induction x generalizing r1 with
  | ret w => simp only [ret_run, Option.some.injEq, Prod.mk.injEq] at h1; obtain ⟨rfl, rfl⟩ := h1; simpa [bind_ret] using h2
  | get b k ih =>
    simp only [HM.run] at h1
    cases hb : h[b]? with
    | none => simp [hb] at h1
    | some ob =>
      cases ob with
      | none => simp [hb] at h1
      | some blk =>
        simp only [hb] at h1
        cases hk : (k blk).run h with
        | none => simp [hk] at h1
        | some p =>
          obtain ⟨w, r⟩ := p
          simp only [hk, Option.some.injEq, Prod.mk.injEq] at h1
          obtain ⟨rfl, rfl⟩ := h1
          rw [bind_get, get_run hb, ih blk hk]
          rfl
  | bad => simp [HM.run] at h1
include R
theorem op_append' {c : Call} {p q : Operand} {ta tb et e2 : TypeId} {x y : XV} (ho : o.op = .call c) (hc0 : c.callee = .builtin .append) (hargs : c.args.toList = [p, q]) (hty : c.argTypes.toList = [ta, tb]) (hu : P.underlying ta = some (.slice et)) (hu2 : P.underlying tb = some (.slice e2))
    (hx : xev t p = some x) (hy : xev t q = some y) (hr : xappend P et x y h nx = some r) : Runs P cf o a.t a.h slot nx D ι r := by
  obtain ⟨ha, hla⟩ := xev_ok R hx
  obtain ⟨hb, hlb⟩ := xev_ok R hy
  unfold xappend at hr
  split at hr
  · rename_i inf n z hi hn hz
    cases hc : (Nat.beq n 0 || Nat.beq inf.bytes 0 || !(Nat.beq z.length n)) with
    | true => simp [hc] at hr
    | false =>
      simp only [hc, cond_false] at hr
      simp only [Bool.or_eq_false_iff, Bool.not_eq_false'] at hc
      obtain ⟨⟨c1, c2⟩, c3⟩ := hc
      have z1 := (xzero_ok hz ι).1
      have hcond : ¬ (n = 0 ∨ inf.bytes = 0 ∨ (erL z ι).length ≠ n) := by
        rw [erL_length]
        have := beq_nat_false c1
        have := beq_nat_false c2
        have := beq_nat c3
        omega
      split at hr
      · cases hr
      · rename_i ys rs hel
        cases hall : elsOk n y ys with
        | false => simp [hall] at hr
        | true =>
          simp only [hall, cond_true] at hr
          obtain ⟨⟨rs', g1, g2⟩, g3, g4, g5⟩ := xelems_ok R hel hall
          have start : ∀ {w : AV × Ws} {r2 : List Nat}, (match er x ι with
              | .sl b k 0 len => if k = n then HM.get b fun blk => if blk.k = k ∧ blk.rw = true ∧ len ≤ blk.els.length ∧ (len + (erLL ys ι).length) * inf.bytes ≤ 2 ^ 40 then
                  .ret (AV.sl slot n 0 (len + (erLL ys ι).length), (b, none) :: newBlk slot n (blk.els.take len ++ erLL ys ι)) else .bad else .bad
              | .e0 => if (erLL ys ι).isEmpty = true then .ret (.e0, []) else if (erLL ys ι).length * inf.bytes ≤ 2 ^ 40 then .ret (.sl slot n 0 (erLL ys ι).length, newBlk slot n (erLL ys ι)) else .bad
              | .v (.slice none 0 0) => if (erLL ys ι).isEmpty = true then .ret (.v (.slice none 0 0), []) else if (erLL ys ι).length * inf.bytes ≤ 2 ^ 40 then .ret (.sl slot n 0 (erLL ys ι).length, newBlk slot n (erLL ys ι)) else .bad
              | _ => .bad : HM (AV × Ws)).run a.h = some (w, r2) → (aop P cf o a.t slot).run a.h = some (w, rs' ++ r2) := by
            intro w r2 hw
            simp only [aop, ho, hc0, hargs, hty, ha, hb, of_some, bind_ret, hu, hu2, hi, hn, z1, if_neg hcond]
            refine bind_run g1 ?_
            rw [if_pos g5]
            exact hw
          rw [erLL_length] at start
          have hemp : (erLL ys ι).isEmpty = ys.isEmpty := by cases ys <;> simp [erLL]
          rw [hemp] at start
          split at hr
          · rename_i b k off len
            cases d1 : (Nat.beq off 0 && Nat.beq k n) with
            | false => simp [d1] at hr
            | true =>
              simp only [d1, cond_true] at hr
              simp only [Bool.and_eq_true] at d1
              split at hr
              · rename_i blk hblk
                cases d2 : (!blk.op && Nat.beq blk.k k && blk.rw && Nat.ble len blk.els.length && Nat.ble ((len + ys.length) * inf.bytes) (2 ^ 40)) with
                | false => simp [d2] at hr
                | true =>
                  simp only [d2, cond_true, Option.some.injEq] at hr
                  subst hr
                  simp only [Bool.and_eq_true, Bool.not_eq_true'] at d2
                  obtain ⟨⟨⟨⟨e1, e2'⟩, e3⟩, e4⟩, e5⟩ := d2
                  obtain ⟨h1, h2, h3⟩ := blk_ok R hblk
                  have e6 := beq_nat d1.1
                  subst e6
                  refine runs_new (pre := [(b, none)]) (by simp [lo]) (loLL_append.2 ⟨loLL_take (loB_els e1 h3) _, g4⟩) (by simpa using ⟨h1, fun c hc => g3 c hc⟩) (by simpa using h1) ⟨rs' ++ [ι b], start ?_, ?_⟩
                  · simp only [er]
                    rw [if_pos (beq_nat d1.2), get_run h2, erB_get e1, erB_k, erB_rw, erLL_length, if_pos ⟨beq_nat e2', e3, ble_nat e4, ble_nat e5⟩]
                    simp only [ret_run, up1_at, newBlk, List.map_cons, List.map_nil, List.cons_append, List.nil_append, erLL_append, erLL_take]
                  · intro b' hb'
                    rcases List.mem_append.1 hb' with hb' | hb'
                    · obtain ⟨c, hc, hc'⟩ := g2 b' hb'
                      exact ⟨c, by simp [hc], hc'⟩
                    · simp only [List.mem_singleton] at hb'
                      exact ⟨b, by simp, hb'.symm⟩
              · cases hr
          · cases d1 : ys.isEmpty with
            | true =>
              simp only [d1, cond_true, Option.some.injEq] at hr
              subst hr
              exact runs_val (by simp [lo]) g3 ⟨rs' ++ [], start (by simp [er, d1, ret_run]), by simpa using g2⟩
            | false =>
              simp only [d1, cond_false] at hr
              cases d2 : Nat.ble (ys.length * inf.bytes) (2 ^ 40) with
              | false => simp [d2] at hr
              | true =>
                simp only [d2, cond_true, Option.some.injEq] at hr
                subst hr
                refine runs_new (pre := []) (by simp [lo]) g4 g3 (by simp) ⟨rs' ++ [], start ?_, by simpa using g2⟩
                simp only [er, d1, Bool.false_eq_true, if_false]
                rw [if_pos (ble_nat d2)]
                simp only [ret_run, up1_at, newBlk, List.map_nil, List.nil_append]
          · cases d1 : ys.isEmpty with
            | true =>
              simp only [d1, cond_true, Option.some.injEq] at hr
              subst hr
              exact runs_val (by simp [lo]) g3 ⟨rs' ++ [], start (by simp [er, d1, ret_run]), by simpa using g2⟩
            | false =>
              simp only [d1, cond_false] at hr
              cases d2 : Nat.ble (ys.length * inf.bytes) (2 ^ 40) with
              | false => simp [d2] at hr
              | true =>
                simp only [d2, cond_true, Option.some.injEq] at hr
                subst hr
                refine runs_new (pre := []) (by simp [lo]) g4 g3 (by simp) ⟨rs' ++ [], start ?_, by simpa using g2⟩
                simp only [er, d1, Bool.false_eq_true, if_false]
                rw [if_pos (ble_nat d2)]
                simp only [ret_run, up1_at, newBlk, List.map_nil, List.nil_append]
          · cases hr
  · cases hr
theorem op_copy' {c : Call} {p q : Operand} {ta tb et : TypeId} {x y : XV} (ho : o.op = .call c) (hc0 : c.callee = .builtin .copy) (hargs : c.args.toList = [p, q]) (hty : c.argTypes.toList = [ta, tb]) (hu : P.underlying ta = some (.slice et))
    (hx : xev t p = some x) (hy : xev t q = some y) (hr : xcopy P et x y h = some r) : Runs P cf o a.t a.h slot nx D ι r := by
  obtain ⟨ha, hla⟩ := xev_ok R hx
  obtain ⟨hb, hlb⟩ := xev_ok R hy
  unfold xcopy at hr
  split at hr
  · rename_i n ys rs hn hel
    cases hall : elsOk n y ys with
    | false => simp [hall] at hr
    | true =>
      simp only [hall, cond_true] at hr
      obtain ⟨⟨rs', g1, g2⟩, g3, g4, g5⟩ := xelems_ok R hel hall
      split at hr
      · rename_i b k off len
        cases d1 : Nat.beq k n with
        | false => simp [d1] at hr
        | true =>
          simp only [d1, cond_true] at hr
          split at hr
          · rename_i blk hblk
            cases d2 : (!blk.op && Nat.beq blk.k k && blk.rw && Nat.ble (off + len) blk.els.length) with
            | false => simp [d2] at hr
            | true =>
              simp only [d2, cond_true, Option.some.injEq] at hr
              subst hr
              simp only [Bool.and_eq_true, Bool.not_eq_true'] at d2
              obtain ⟨⟨⟨e1, e2'⟩, e3⟩, e4⟩ := d2
              obtain ⟨h1, h2, h3⟩ := blk_ok R hblk
              have hnew : loLL nx (blk.els.take off ++ ys.take (min ys.length len) ++ blk.els.drop (off + min ys.length len)) := loLL_append.2 ⟨loLL_append.2 ⟨loLL_take (loB_els e1 h3) _, loLL_take g4 _⟩, loLL_drop (loB_els e1 h3) _⟩
              refine ⟨⟨rs' ++ [ι b], ?_, ?_⟩, by simp [lo], ?_, by simpa using ⟨h1, fun c hc => g3 c hc⟩⟩
              · simp only [aop, ho, hc0, hargs, hty, ha, hb, of_some, bind_ret, hu, hn]
                refine bind_run g1 ?_
                rw [if_pos g5]
                simp only [er]
                rw [if_pos (beq_nat d1), get_run h2, erB_get e1, erB_k, erB_rw, erLL_length, erLL_length, if_pos ⟨beq_nat e2', e3, ble_nat e4⟩]
                simp only [ret_run, List.map_cons, List.map_nil, up1_lt h1.1, Option.map_some]
                rw [erB_congr (n := nx) (fun b hb => up1_lt hb) (Or.inr hnew)]
                simp [erB, e3, erLL_append, erLL_take, erLL_drop]
              · intro b' hb'
                rcases List.mem_append.1 hb' with hb' | hb'
                · obtain ⟨c, hc, hc'⟩ := g2 b' hb'
                  exact ⟨c, by simp [hc], hc'⟩
                · simp only [List.mem_singleton] at hb'
                  exact ⟨b, by simp, hb'.symm⟩
              · intro w hw
                simp only [List.mem_singleton] at hw
                subst hw
                exact ⟨.inl h1, fun q hq => by cases hq; exact Or.inr hnew⟩
          · cases hr
      · cases hr
  · cases hr
theorem xevs_ok : ∀ {xs : List Operand} {ys : List XV}, xevs t xs = some ys → evs a.t xs = some (erL ys ι) ∧ loL nx ys
  | [], ys, h => by
    simp only [xevs, Option.some.injEq] at h
    subst h
    exact ⟨rfl, by simp [loL]⟩
  | x :: xs, ys, h => by
    simp only [xevs] at h
    split at h
    · rename_i y l h1 h2
      cases h
      obtain ⟨g1, g2⟩ := xev_ok R h1
      obtain ⟨g3, g4⟩ := xevs_ok h2
      refine ⟨?_, by simp [loL, g2, g4]⟩
      unfold evs at g3 ⊢
      simp only [List.mapM_cons, g1, g3, erL]
      rfl
    · cases h
omit R
theorem xnum_ok {x : XV} {k : IntKind} {u : Int} {b : Bool} (h : xnum x = some (k, u, b)) (ι : Nat → Nat) : er x ι = .v (.int k u) := by
  unfold xnum at h
  split at h
  · cases h; simp [er]
  · cases h; simp [er]
  · cases h
theorem kindEq_ok {k k' : IntKind} (h : kindEq k k' = true) : k = k' := by
  cases k <;> cases k' <;> first | rfl | cases h
theorem rho_of {ta : List AV} {x : Operand} {v : Value} (h : aev ta x = some (.v v)) : rho ta x = v := by
  unfold rho
  rw [h]
  rfl
theorem xint_ok {op : BinOp} {ty yt : TypeId} {p q : Operand} {k : IntKind} {u v : Int} {w : Value} {ta : List AV} (ho : o.op = .binOp op ty p q yt) (hx : aev ta p = some (.v (.int k u))) (hy : aev ta q = some (.v (.int k v))) (hw : xint op k u v = some w) :
    scalar P o ta = some (.v w) := by
  unfold scalar
  have hall : (o.op.operands.all fun x => ((aev ta x).bind toVal).isSome) = true := by
    rw [Array.all_eq_true']
    intro x hx'
    rw [ho] at hx'
    simp only [Op.operands, List.mem_toArray, List.mem_cons, List.not_mem_nil, or_false] at hx'
    rcases hx' with rfl | rfl
    · rw [hx]; rfl
    · rw [hy]; rfl
  rw [hall]
  simp only [if_true]
  have hexec : runP P (execOp (rho ta) o) = some (.value w) := by
    unfold execOp
    simp only [ho, rho_of hx, rho_of hy]
    cases op <;> simp only [xint, Option.some.injEq] at hw <;> first | (cases hw; done) | skip
    all_goals
      subst hw
      simp only [eqGuard, binOp, ne_eq, not_true_eq_false, if_false, Op.intArith, Op.intCmp]
      rfl
  rw [hexec]
  simp only
  cases op <;> simp only [xint, Option.some.injEq] at hw <;> first | (cases hw; done) | (subst hw; rfl)
theorem scalar_plain {ta : List AV} {v : AV} (h : scalar P o ta = some v) {x : Operand} (hx : x ∈ o.op.operands) : ((aev ta x).bind toVal).isSome = true := by
  unfold scalar at h
  split at h
  · rename_i hall
    rw [Array.all_eq_true'] at hall
    exact hall x hx
  · cases h
include R
theorem op_bin {op : BinOp} {ty yt : TypeId} {p q : Operand} {x y : XV} (ho : o.op = .binOp op ty p q yt) (hx : xev t p = some x) (hy : xev t q = some y) (hr : xbin P o op x y t = some r) : ∃ v, r = ⟨v, [], [], false⟩ ∧ lo nx v ∧ scalar P o a.t = some (er v ι) := by
  have slow : xscalar P o t = some r → ∃ v, r = ⟨v, [], [], false⟩ ∧ lo nx v ∧ scalar P o a.t = some (er v ι) := fun h => xscalar_ok R (by rw [ho]; simp) h
  unfold xbin at hr
  split at hr
  · rename_i k u b1 k' v b2 h1 h2
    cases hk : kindEq k k' with
    | false => simp only [hk, cond_false] at hr; exact slow hr
    | true =>
      simp only [hk, cond_true] at hr
      split at hr
      · rename_i w hw
        have e := kindEq_ok hk
        subst e
        have g1 := (xev_ok R hx).1
        have g2 := (xev_ok R hy).1
        rw [xnum_ok h1 ι] at g1
        rw [xnum_ok h2 ι] at g2
        have g3 := xint_ok (P := P) ho g1 g2 hw
        simp only [XR.of, Option.some.injEq] at hr
        subst hr
        refine ⟨_, rfl, ?_, ?_⟩
        · cases (b1 || b2) <;> simp [lo]
        · rw [g3]; cases (b1 || b2) <;> simp [er]
      · exact slow hr
  · exact slow hr
/-- Any operation that is no call of a function. -/
theorem xop_ok (hr : xop P o t h nx = some r) : Runs P cf o a.t a.h slot nx D ι r := by
  unfold xop at hr
  have opt : ∀ {q : Option XV}, XR.opt q = some r → ∃ x, q = some x ∧ r = ⟨x, [], [], false⟩ := fun {q} hq => by
    cases q with
    | none => cases hq
    | some x => exact ⟨x, rfl, by simpa [XR.opt] using hq.symm⟩
  split at hr
  · rename_i x ho
    obtain ⟨y, hy, rfl⟩ := opt hr
    obtain ⟨ha, hl⟩ := xev_ok R hy
    exact runs_pure hl (by simp only [aop, ho, ha, of_some, bind_ret, ret_run])
  · rename_i x ho
    obtain ⟨y, hy, rfl⟩ := opt hr
    obtain ⟨ha, hl⟩ := xev_ok R hy
    exact runs_pure hl (by simp only [aop, ho, ha, of_some, bind_ret, ret_run])
  · rename_i c x y ho
    split at hr
    · rename_i hc
      obtain ⟨z, hz, rfl⟩ := opt hr
      obtain ⟨ha, hl⟩ := xev_ok R hz
      have hc' := (xev_ok R hc).1
      exact runs_pure hl (by simp only [aop, ho, ha, hc', er, of_some, bind_ret, ret_run])
    · rename_i hc
      obtain ⟨z, hz, rfl⟩ := opt hr
      obtain ⟨ha, hl⟩ := xev_ok R hz
      have hc' := (xev_ok R hc).1
      exact runs_pure hl (by simp only [aop, ho, ha, hc', er, of_some, bind_ret, ret_run])
    · cases hr
  · rename_i x i ho
    split at hr
    · rename_i l hx
      obtain ⟨z, hz, rfl⟩ := opt hr
      obtain ⟨ha, hl⟩ := xev_ok R hx
      rw [nth_eq] at hz
      unfold lo at hl
      exact runs_pure (loL_iff.1 hl z (List.mem_of_getElem? hz)) (by simp only [aop, ho, ha, er, erL_get, hz, Option.map_some, of_some, bind_ret, ret_run])
    · cases hr
  · rename_i x ho
    split at hr
    · rename_i b k i j hx
      simp only [XR.of, Option.some.injEq] at hr
      subst hr
      obtain ⟨ha, hl⟩ := xev_ok R hx
      exact runs_pure hl (by simp only [aop, ho, ha, er, of_some, bind_ret, ret_run])
    · rename_i l j hx
      simp only [XR.of, Option.some.injEq] at hr
      subst hr
      obtain ⟨ha, hl⟩ := xev_ok R hx
      exact runs_pure hl (by simp only [aop, ho, ha, er, of_some, bind_ret, ret_run])
    · cases hr
  · rename_i ty x ho
    split at hr
    · rename_i y d hy hu
      split at hr
      · cases hr
      · rename_i hd
        simp only [XR.of, Option.some.injEq] at hr
        subst hr
        obtain ⟨ha, hl⟩ := xev_ok R hy
        refine runs_pure (by unfold lo; exact hl) ?_
        simp only [aop, ho, ha, hu, er, of_some, bind_ret, ret_run]
    · cases hr
  · rename_i f first cap ho
    cases hc : Nat.beq first.size 0 with
    | false => simp [hc] at hr
    | true =>
      simp only [hc, cond_true] at hr
      split at hr
      · rename_i c hcap
        simp only [XR.of, Option.some.injEq] at hr
        subst hr
        obtain ⟨g1, g2⟩ := xevs_ok R hcap
        refine runs_pure (by unfold lo; exact g2) ?_
        simp only [aop, ho, if_pos (beq_nat hc), g1, er, of_some, bind_ret, ret_run]
      · cases hr
  · rename_i ty ho
    split at hr
    · rename_i z hz
      unfold xnew at hr
      cases hr
      exact op_alloc' ho hz
    · cases hr
  · rename_i ty x ho
    split at hr
    · rename_i z hz
      unfold xnew at hr
      cases hr
      cases hx : xev t x with
      | none => simp [hx] at hz
      | some y => exact op_box' R ho hx (by simpa [hx] using hz)
    · cases hr
  · rename_i ty x ho
    split at hr
    · rename_i y hy
      exact op_load' R ho hy hr
    · cases hr
  · rename_i ty p q ho
    split at hr
    · rename_i y z hy hz
      exact op_store' R ho hy hz hr
    · cases hr
  · rename_i s x f ho
    split at hr
    · rename_i y hy
      exact op_fieldAddr' R ho hy hr
    · cases hr
  · rename_i s x f ho
    split at hr
    · rename_i y hy
      exact op_field' R ho hy hr
    · cases hr
  · rename_i ty x ix ho
    split at hr
    · rename_i y z hy hz
      exact op_indexAddr' R ho hy hz hr
    · cases hr
  · rename_i ty x ix ho
    split at hr
    · rename_i y z hy hz
      exact op_index' R ho hy hz hr
    · cases hr
  · rename_i ty x lw hi mx ho
    split at hr
    · rename_i y hy
      exact op_slice' R ho hy hr
    · cases hr
  · rename_i ty ps ho
    exact op_build' R ho hr
  · rename_i ty len ps ho
    exact op_buildSlice' R ho hr
  · rename_i ty p q ho
    split at hr
    · rename_i x y hx hy
      exact op_makeSlice' R ho hx hy hr
    · cases hr
  · rename_i c ho
    split at hr
    · rename_i p hcal hargs
      have hs : ∀ cs b, o.op ≠ .select cs b := by rw [ho]; simp
      split at hr
      · rename_i b k off n et hx hu
        simp only [XR.of, Option.some.injEq] at hr
        subst hr
        have ha := (xev_ok R hx).1
        exact runs_pure (by simp [lo]) (by simp only [aop, ho, hcal, hargs, ha, of_some, bind_ret, hu, er, ret_run])
      · rename_i l et hx hu
        simp only [XR.of, Option.some.injEq] at hr
        subst hr
        have ha := (xev_ok R hx).1
        exact runs_pure (by simp [lo]) (by simp only [aop, ho, hcal, hargs, ha, of_some, bind_ret, hu, er, ret_run, erLL_length])
      · rename_i l et hx hu
        simp only [XR.of, Option.some.injEq] at hr
        subst hr
        have ha := (xev_ok R hx).1
        exact runs_pure (by simp [lo]) (by simp only [aop, ho, hcal, hargs, ha, of_some, bind_ret, hu, er, ret_run, erLL_length])
      · rename_i et hx hu
        simp only [XR.of, Option.some.injEq] at hr
        subst hr
        have ha := (xev_ok R hx).1
        exact runs_pure (by simp [lo]) (by simp only [aop, ho, hcal, hargs, ha, of_some, bind_ret, hu, er, ret_run])
      · rename_i x hx h1 h2 h3 h4
        obtain ⟨v, rfl, hv, hsc⟩ := xscalar_ok R hs hr
        have ha := (xev_ok R hx).1
        refine runs_pure hv ?_
        simp only [aop, ho, hcal, hargs, ha, of_some, bind_ret]
        split
        · rename_i w1 w2
          cases x <;> simp only [er] at w2 <;> first | (cases w2; done) | exact (h1 _ _ _ _ _ w1 rfl).elim
        · rename_i w1 w2
          cases x <;> simp only [er] at w2 <;> first | (cases w2; done) | exact (h2 _ _ w1 rfl).elim | exact (h3 _ _ w1 rfl).elim
        · rename_i w1 w2
          cases x <;> simp only [er] at w2 <;> first | (cases w2; done) | exact (h4 _ w1 rfl).elim
        · rw [hsc]; rfl
      · cases hr
    · rename_i p q hcal hargs
      split at hr
      · rename_i x y ta tb hx hy hty
        split at hr
        · rename_i et e2 hu1 hu2
          exact op_append' R ho hcal hargs hty hu1 hu2 hx hy hr
        · cases hr
      · cases hr
    · rename_i p q hcal hargs
      split at hr
      · rename_i x y ta tb hx hy hty
        split at hr
        · rename_i et hu1
          exact op_copy' R ho hcal hargs hty hu1 hx hy hr
        · cases hr
      · cases hr
    · rename_i hcal
      refine scalar_runs R (by rw [ho]; simp) hr fun v hv => ?_
      simp only [aop, ho, hcal, hv, of_some, bind_ret, ret_run]
    · rename_i hcal
      refine scalar_runs R (by rw [ho]; simp) hr fun v hv => ?_
      simp only [aop, ho, hcal, hv, of_some, bind_ret, ret_run]
    · cases hr
  · rename_i op ty p q yt ho
    split at hr
    · rename_i ti x hx hy
      split at hr
      · rename_i hu
        simp only [XR.of, Option.some.injEq] at hr
        subst hr
        exact runs_pure (by simp [lo]) (by simp only [aop, ho, (xev_ok R hx).1, (xev_ok R hy).1, of_some, bind_ret, hu, er, ret_run])
      · rename_i hu
        simp only [XR.of, Option.some.injEq] at hr
        subst hr
        exact runs_pure (by simp [lo]) (by simp only [aop, ho, (xev_ok R hx).1, (xev_ok R hy).1, of_some, bind_ret, hu, er, ret_run])
      · cases hr
    · rename_i ti x hx hy
      split at hr
      · rename_i hu
        simp only [XR.of, Option.some.injEq] at hr
        subst hr
        exact runs_pure (by simp [lo]) (by simp only [aop, ho, (xev_ok R hx).1, (xev_ok R hy).1, of_some, bind_ret, hu, er, ret_run])
      · rename_i hu
        simp only [XR.of, Option.some.injEq] at hr
        subst hr
        exact runs_pure (by simp [lo]) (by simp only [aop, ho, (xev_ok R hx).1, (xev_ok R hy).1, of_some, bind_ret, hu, er, ret_run])
      · cases hr
    · rename_i x y n1 n2 hx hy
      obtain ⟨v, rfl, hv, hsc⟩ := op_bin R ho hx hy hr
      refine runs_pure hv ?_
      have k1 := scalar_plain hsc (x := p) (by rw [ho]; simp [Op.operands])
      have k2 := scalar_plain hsc (x := q) (by rw [ho]; simp [Op.operands])
      rw [(xev_ok R hx).1, Option.bind_some] at k1
      rw [(xev_ok R hy).1, Option.bind_some] at k2
      simp only [aop, ho, (xev_ok R hx).1, (xev_ok R hy).1, of_some, bind_ret, hsc]
      generalize er x ι = x1 at k1
      generalize er y ι = y1 at k2
      split
      · simp [toVal] at k1
      · simp [toVal] at k2
      · simp [toVal] at k1
      · simp [toVal] at k2
      · rfl
    · cases hr
  · rename_i op ty p ho
    refine scalar_runs R (by rw [ho]; simp) hr fun v hv => ?_
    simp only [aop, ho, hv, of_some, bind_ret, ret_run]
  · rename_i s d p ho
    refine scalar_runs R (by rw [ho]; simp) hr fun v hv => ?_
    simp only [aop, ho, hv, of_some, bind_ret, ret_run]
  · cases hr
end
end Go.Proofs.YtjhekjhbjaengaaGreatDoor.Ev
