/- The second evaluator: what is told, one operation after another, regions. -/
import Derived.Test.YtjhekjhbjaengaaGreatDoorEvK7
namespace Go.Proofs.YtjhekjhbjaengaaGreatDoor.Ev
open Go Go.RowKit

section
variable {C : Cfg} {rfx : XRF} {rf : RF} {ops : Array Oper} {t : T XV} {h : T XB} {nx m slot : Nat} {ι : Nat → Nat} {D : Nat → Prop} {a : AS}
theorem setOp_ok {x : Operand} {y y' : XV} (R : XRel D ι m ⟨t, h, nx⟩ a) (hx : xev t x = some y) (he : er y' ι = er y ι) (hl : lo nx y') : XRel D ι m ⟨setOp x y' t, h, nx⟩ a := by
  cases x with
  | tmp i =>
    refine ⟨fun j z hz => ?_, R.h, R.dom, R.dlt, R.inj, R.lt, R.le⟩
    simp only [setOp] at hz
    rw [get_put] at hz
    split at hz
    · rename_i e
      subst e
      cases hz
      have := R.t i y hx
      exact ⟨by rw [he]; exact this.1, hl⟩
    · exact R.t j z hz
  | const _ => exact R
  | global _ => exact R
  | func _ => exact R
theorem conc_ok {x : Operand} {q : List Told} {K : T XV → List Told → Prop} (R : XRel D ι m ⟨t, h, nx⟩ a) (hk : conc x t q K) : ∃ t' q', XRel D ι m ⟨t', h, nx⟩ a ∧ K t' q' := by
  unfold conc at hk
  split at hk
  · rename_i b hx
    split at hk
    · obtain ⟨rfl, hk⟩ := hk
      exact ⟨_, _, setOp_ok R hx (by simp [er]) (by simp [lo]), hk⟩
    · cases b
      · exact ⟨_, _, setOp_ok R hx (by simp [er]) (by simp [lo]), hk.2 rfl⟩
      · exact ⟨_, _, setOp_ok R hx (by simp [er]) (by simp [lo]), hk.1 rfl⟩
    · cases hk
  · rename_i k e hx
    split at hk
    · obtain ⟨rfl, hk⟩ := hk
      exact ⟨_, _, setOp_ok R hx (by simp [er]) (by simp [lo]), hk⟩
    · cases hk
  · exact ⟨t, q, R, hk⟩
theorem concO_ok {x : Option Operand} {q : List Told} {K : T XV → List Told → Prop} (R : XRel D ι m ⟨t, h, nx⟩ a) (hk : conc? x t q K) : ∃ t' q', XRel D ι m ⟨t', h, nx⟩ a ∧ K t' q' := by
  cases x with
  | none => exact ⟨t, q, R, hk⟩
  | some x => exact conc_ok R hk
theorem wants_ok {o : Oper} {q : List Told} {K : T XV → List Told → Prop} (R : XRel D ι m ⟨t, h, nx⟩ a) (hk : wants o t q K) : ∃ t' q', XRel D ι m ⟨t', h, nx⟩ a ∧ K t' q' := by
  unfold wants at hk
  split at hk
  · exact conc_ok R hk
  · exact conc_ok R hk
  · exact conc_ok R hk
  · split at hk
    · exact ⟨t, q, R, hk⟩
    · obtain ⟨t1, q1, R1, hk⟩ := concO_ok R hk
      obtain ⟨t2, q2, R2, hk⟩ := concO_ok R1 hk
      exact concO_ok R2 hk
  · obtain ⟨t1, q1, R1, hk⟩ := conc_ok R hk
    exact conc_ok R1 hk
  · exact ⟨t, q, R, hk⟩
theorem xother_ok {o : Oper} {q : List Told} {K : T XV → XR → List Told → Prop} {cf : FuncId → List AV → HM (AV × Ws)} (R : XRel D ι m ⟨t, h, nx⟩ a) (hk : xother C o t h nx q K) :
    ∃ t' y q', XRel D ι m ⟨t', h, nx⟩ a ∧ RunsM (aop C.S.P cf o a.t slot) a.h slot nx D ι y ∧ K t' y q' := by
  obtain ⟨t', q', R', hk⟩ := wants_ok R hk
  split at hk
  · rename_i r hr
    exact ⟨t', r, q', R', (xop_ok R' hr).toM, hk⟩
  · cases hk
theorem xcalled_ok {c : Call} {g : FuncId} {xs : List XV} (R : XRel D ι m ⟨t, h, nx⟩ a) (hc : xcalled t c = some (g, xs)) : loL nx xs ∧ ∃ f cap ys, c.callee = .value f ∧ aev a.t f = some (.fn g (erL cap ι)) ∧ evs a.t c.args.toList = some (erL ys ι) ∧ erL ys ι ++ erL cap ι = erL xs ι := by
  unfold xcalled at hc
  split at hc
  · rename_i f hf
    split at hc
    · rename_i g' cap ys h1 h2
      simp only [Option.some.injEq, Prod.mk.injEq] at hc
      obtain ⟨rfl, rfl⟩ := hc
      obtain ⟨k1, k2⟩ := xev_ok R h1
      obtain ⟨k3, k4⟩ := xevs_ok R h2
      unfold lo at k2
      exact ⟨loL_append.2 ⟨k4, k2⟩, f, cap, ys, hf, by simpa [er] using k1, k3, by rw [erL_append]⟩
    · cases hc
  · cases hc
/-- A division by what is not known. -/
theorem xdiv_ok {o : Oper} {op : BinOp} {ty yt : TypeId} {x y : Operand} {qr : Bool} {k' : IntKind} {e : Int} {q : List Told} {K : T XV → XR → List Told → Prop} {cf : FuncId → List AV → HM (AV × Ws)} (R : XRel D ι m ⟨t, h, nx⟩ a) (ho : o.op = .binOp op ty x y yt)
    (hop : divBy op = some qr) (hy : xev t y = some (.s (.int k' e))) (hk : xdiv o qr x k' e t q K) : ∃ r, RunsM (aop C.S.P cf o a.t slot) a.h slot nx D ι r ∧ K t r q := by
  unfold xdiv at hk
  split at hk
  · rename_i k u b hx
    cases hke : kindEq k k' with
    | false => rw [hke] at hk; cases hk
    | true =>
      rw [hke] at hk
      obtain ⟨hne, hk⟩ := hk
      have ek := kindEq_ok hke
      subst ek
      refine ⟨_, (runs_pure (by simp [lo]) ?_).toM, hk⟩
      cases hx' : xev t x with
      | none => simp [hx'] at hx
      | some v =>
        simp only [hx', Option.bind_some] at hx
        have ha := (xev_ok R hx').1
        rw [xnum_ok hx ι] at ha
        have hb := (xev_ok R hy).1
        simp only [er] at hb
        have hsc : scalar C.S.P o a.t = some (.v (.int k (bif qr then k.wrap (u.tdiv e) else u.tmod e))) := by
          unfold scalar
          have hall : (o.op.operands.all fun x => ((aev a.t x).bind toVal).isSome) = true := by
            rw [Array.all_eq_true']
            intro z hz
            rw [ho] at hz
            simp only [Op.operands, List.mem_toArray, List.mem_cons, List.not_mem_nil, or_false] at hz
            rcases hz with rfl | rfl
            · rw [ha]; rfl
            · rw [hb]; rfl
          rw [hall]
          simp only [if_true]
          have hexec : runP C.S.P (execOp (rho a.t) o) = some (.value (.int k (bif qr then k.wrap (u.tdiv e) else u.tmod e))) := by
            unfold execOp
            simp only [ho, rho_of ha, rho_of hb]
            cases op <;> simp only [divBy, Option.some.injEq] at hop <;> first | (cases hop; done) | skip
            all_goals
              subst hop
              simp only [eqGuard, binOp, ne_eq, not_true_eq_false, if_false, Op.intDiv, if_neg hne, cond_true, cond_false]
              rfl
          rw [hexec]
          rfl
        simp only [aop, ho, ha, hb, of_some, bind_ret, hsc, er]
        cases op <;> simp only [divBy] at hop <;> first | (cases hop; done) | rfl
  · cases hk
/-- An operation among others. -/
theorem xdo_ok {o : Oper} {q : List Told} {K : T XV → XR → List Told → Prop} (hrf : RFOK rfx rf) (how : ∀ g ys r, C.sum g = true → C.owed g ys r → pure_ rf g (erL ys id) = some (er r id))
    (R : XRel D ι m ⟨t, h, nx⟩ a) (hk : xdo C rfx o t h nx q K) : ∃ t' y q', XRel D ι m ⟨t', h, nx⟩ a ∧ RunsM (aop C.S.P (callf C.S rf) o a.t slot) a.h slot nx D ι y ∧ K t' y q' := by
  unfold xdo at hk
  split at hk
  · rename_i c ho
    cases hfn : isFn c with
    | true =>
      rw [hfn] at hk
      simp only [cond_true] at hk
      split at hk
      · rename_i g xs hc
        obtain ⟨hl, f, cap, ys, hcal, h1, h2, h3⟩ := xcalled_ok R hc
        have hcomp : aop C.S.P (callf C.S rf) o a.t slot = callf C.S rf g (erL xs ι) := by
          simp only [aop, ho, hcal, h1, h2, of_some, bind_ret, h3]
        rw [hcomp]
        split at hk
        · cases hk
        · rename_i hG
          cases hI : C.S.inl g with
          | true =>
            rw [hI] at hk
            obtain ⟨y, q', k1, k2⟩ := xincall_ok (slot := slot) R hrf hG hI hl hk
            exact ⟨t, y, q', R, k1, k2⟩
          | false =>
            rw [hI] at hk
            obtain ⟨y, q', k1, k2⟩ := xcall_ok (slot := slot) R hrf how hG hI hl hk
            exact ⟨t, y, q', R, k1, k2⟩
      · cases hk
    | false =>
      rw [hfn] at hk
      simp only [cond_false] at hk
      split at hk
      · rename_i p p2 ta tb hcal hargs hty
        cases hb : (isOp h (xev t p) && isSl C.S.P tb) with
        | true =>
          rw [hb] at hk
          simp only [cond_true] at hk
          simp only [Bool.and_eq_true] at hb
          split at hk
          · rename_i x y hx hy
            split at hk
            · rename_i r ps hr
              obtain ⟨hps, hk⟩ := dues_ok hk
              have hu2 : ∃ e2, C.S.P.underlying tb = some (.slice e2) := by
                have := hb.2
                unfold isSl at this
                split at this
                · rename_i e2 hu; exact ⟨e2, hu⟩
                · cases this
              obtain ⟨e2, hu2⟩ := hu2
              exact ⟨t, r, q, R, (xgrow_ok R ho hcal hargs hty hu2 hx hy hr hps).toM, hk⟩
            · cases hk
          · cases hk
        | false =>
          rw [hb] at hk
          exact xother_ok R hk
      · rename_i p ta hcal hargs hty
        cases hb : (isOp h (xev t p) && isSl C.S.P ta) with
        | true =>
          rw [hb] at hk
          simp only [cond_true] at hk
          simp only [Bool.and_eq_true] at hb
          split at hk
          · rename_i b k off n hx
            have hu : ∃ e2, (c.argTypes[0]?).bind C.S.P.underlying = some (.slice e2) := by
              have := hb.2
              unfold isSl at this
              split at this
              · rename_i e2 hu; exact ⟨e2, by rw [← Array.getElem?_toList, hty]; simpa using hu⟩
              · cases this
            obtain ⟨e2, hu⟩ := hu
            have ha := (xev_ok R hx).1
            exact ⟨t, _, q, R, (runs_pure (by simp [lo]) (by simp only [aop, ho, hcal, hargs, ha, of_some, bind_ret, hu, er, ret_run])).toM, hk⟩
          · cases hk
        | false =>
          rw [hb] at hk
          exact xother_ok R hk
      · exact xother_ok R hk
  · rename_i ty x ix ho
    split at hk
    · rename_i l hx
      obtain ⟨y, q', k1, k2⟩ := xelem_ok (cf := callf C.S rf) (slot := slot) R ho hx hk
      exact ⟨t, y, q', R, k1.toM, k2⟩
    · exact xother_ok R hk
  · rename_i op ty x y yt ho
    split at hk
    · rename_i qr k e hop hy
      obtain ⟨r, k1, k2⟩ := xdiv_ok (cf := callf C.S rf) (slot := slot) R ho hop hy hk
      exact ⟨t, r, q, R, k1, k2⟩
    · exact xother_ok R hk
  · exact xother_ok R hk
theorem xwanted_ok {o : Oper} {q : List Told} {K : Bool → T XV → List Told → Prop} (R : XRel D ι m ⟨t, h, nx⟩ a) (hk : xwanted ops o t q K) : ∃ t' q', XRel D ι m ⟨t', h, nx⟩ a ∧ K (awanted ops o a.t) t' q' := by
  unfold xwanted at hk
  unfold awanted
  split at hk
  · rename_i hg
    rw [hg]
    exact ⟨t, q, R, hk⟩
  · rename_i j want hg
    rw [hg]
    simp only
    split at hk
    · rename_i d hd
      rw [hd]
      obtain ⟨t', q', R', hk⟩ := conc_ok R hk
      refine ⟨t', q', R', ?_⟩
      simp only [Option.bind_some]
      split at hk
      · rename_i b hb
        rw [(R'.t d _ hb).1]
        simpa [er] using hk
      · rename_i x hne hb
        rw [(R'.t d _ hb).1]
        simp only [er]
        split
        · rename_i b e; cases e; exact absurd rfl (hne b)
        · exact hk
      · cases hk
    · rename_i hd
      rw [hd]
      exact ⟨t, q, R, hk⟩

/-- Writes. -/
theorem xapply_ok {ι : Nat → Nat} {E : Nat → Prop} (inj : ∀ b c, E b → E c → ι b = ι c → b = c) : ∀ {ws : List (Nat × Option XB)} {h : T XB} {ha : Heap}, (∀ w ∈ ws, E w.1 ∧ ι w.1 < ha.length) → (∀ b x, h.get (path b) = some x → E b ∧ ha[ι b]? = some (some (erB ι x))) →
    ∀ b x, (xapply h ws).get (path b) = some x → E b ∧ (applyWs ha (mapWs ι ws))[ι b]? = some (some (erB ι x)) ∧ ((∃ w ∈ ws, w.1 = b ∧ w.2 = some x) ∨ h.get (path b) = some x)
  | [], h, ha, _, hh, b, x, hb => ⟨(hh b x hb).1, (hh b x hb).2, .inr hb⟩
  | (c, y) :: ws, h, ha, hw, hh, b, x, hb => by
    obtain ⟨hc1, hc2⟩ := hw (c, y) (by simp)
    simp only [xapply] at hb
    have hh' : ∀ b x, (h.put y (path c)).get (path b) = some x → E b ∧ (ha.set (ι c) (y.map (erB ι)))[ι b]? = some (some (erB ι x)) := by
      intro b x hb
      rw [get_put] at hb
      split at hb
      · rename_i e
        subst e
        subst hb
        exact ⟨hc1, by rw [List.getElem?_set_self hc2]; rfl⟩
      · rename_i e
        obtain ⟨k1, k2⟩ := hh b x hb
        exact ⟨k1, by rw [List.getElem?_set_ne (fun e2 => e (inj _ _ hc1 k1 e2))]; exact k2⟩
    obtain ⟨k1, k2, k3⟩ := xapply_ok inj (fun w hw' => ⟨(hw w (by simp [hw'])).1, by rw [List.length_set]; exact (hw w (by simp [hw'])).2⟩) hh' b x hb
    refine ⟨k1, k2, ?_⟩
    rcases k3 with ⟨w, hw', e⟩ | k3
    · exact .inl ⟨w, by simp [hw'], e⟩
    · rw [get_put] at k3
      split at k3
      · rename_i e
        subst e
        exact .inl ⟨(c, y), by simp, rfl, k3⟩
      · exact .inr k3
theorem put_get {ta : List AV} {dst : Option Tmp} {x : AV} {i : Nat} {y : AV} (h : ta[i]? = some y) (hne : dst ≠ some i) : (put ta dst x)[i]? = some y := by
  cases dst with
  | none => exact h
  | some d =>
    simp only [put]
    rw [List.getElem?_set_ne (fun e => hne (by rw [e]))]
    exact h
/-- After an operation. -/
theorem step_ok {comp : HM (AV × Ws)} {y : XR} {dst : Option Tmp} (R : XRel D ι m ⟨t, h, nx⟩ a) (k : RunsM comp a.h slot nx D ι y) (hm : m ≤ slot) (hs : slot < a.h.length) (hd : ∀ d, dst = some d → d < a.t.length) :
    ∃ x' ws' rs' D' ι', comp.run a.h = some ((x', ws'), rs') ∧ XRel D' ι' (slot + 1) (xstep ⟨t, h, nx⟩ t dst y) ⟨put a.t dst x', applyWs a.h ws'⟩ ∧ nx ≤ (xstep ⟨t, h, nx⟩ t dst y).n ∧ (∀ b, b < nx → ι' b = ι b) ∧ (∀ b, D b → D' b) ∧
      (∀ b ∈ rs', ∃ c ∈ y.rs, ι' c = b) ∧ (∀ w ∈ ws', ∃ v ∈ y.ws, ι' v.1 = w.1) ∧ (∀ c ∈ y.rs, D' c) ∧ (∀ w ∈ y.ws, D' w.1) := by
  obtain ⟨rs', ws', e1, e2, e3, e4⟩ := k.ex
  have hD : ∀ b, (D b ∨ b = nx ∧ y.nw = true) → b < nxt nx y := by
    rintro b (hb | ⟨rfl, hn⟩)
    · exact Nat.lt_of_lt_of_le (R.dlt b hb) (nxt_le nx y)
    · simp [nxt, hn]
  have hn : (xstep ⟨t, h, nx⟩ t dst y).n = nxt nx y := rfl
  have hup : ∀ b, b < nx → up1 ι nx slot b = ι b := fun b hb => up1_lt hb
  have inj : ∀ b c, (D b ∨ b = nx ∧ y.nw = true) → (D c ∨ c = nx ∧ y.nw = true) → up1 ι nx slot b = up1 ι nx slot c → b = c := by
    rintro b c (hb | ⟨rfl, h1⟩) (hc | ⟨rfl, h2⟩) e
    · rw [hup b (R.dlt b hb), hup c (R.dlt c hc)] at e
      exact R.inj b c hb hc e
    · rw [hup b (R.dlt b hb), up1_at] at e
      have := R.lt b hb
      omega
    · rw [hup c (R.dlt c hc), up1_at] at e
      have := R.lt c hc
      omega
    · rfl
  have lt : ∀ b, (D b ∨ b = nx ∧ y.nw = true) → up1 ι nx slot b < slot + 1 := by
    rintro b (hb | ⟨rfl, h1⟩)
    · rw [hup b (R.dlt b hb)]
      have := R.lt b hb
      omega
    · rw [up1_at]; omega
  refine ⟨_, ws', rs', fun b => D b ∨ b = nx ∧ y.nw = true, up1 ι nx slot, e1, ⟨?_, ?_, ?_, hD, inj, lt, ?_⟩, nxt_le nx y, hup, fun b hb => .inl hb, ?_, ?_, fun c hc => .inl (k.rs c hc).2, ?_⟩
  · intro i x hx
    rw [hn]
    have old : ∀ i x, t.get (path i) = some x → dst ≠ some i → (put a.t dst (er y.x (up1 ι nx slot)))[i]? = some (er x (up1 ι nx slot)) ∧ lo (nxt nx y) x := by
      intro i x hx hne
      obtain ⟨k1, k2⟩ := R.t i x hx
      exact ⟨by rw [er_congr hup x k2]; exact put_get k1 hne, lo_mono (nxt_le nx y) x k2⟩
    have hx' : (xput dst y.x t).get (path i) = some x := hx
    cases hdst : dst with
    | none => rw [hdst] at hx'; have := old i x hx' (by rw [hdst]; simp); rwa [hdst] at this
    | some d =>
      rw [hdst] at hx'
      simp only [xput] at hx'
      rw [get_put] at hx'
      split at hx'
      · rename_i e
        subst e
        cases hx'
        refine ⟨?_, k.lo⟩
        simp only [put]
        rw [List.getElem?_set_self (hd d hdst)]
      · rename_i e
        have := old i x hx' (by rw [hdst]; simpa using e)
        rwa [hdst] at this
  · intro b x hb
    rw [hn]
    have hb' : (xapply h y.ws).get (path b) = some x := hb
    obtain ⟨k1, k2, k3⟩ := xapply_ok (ι := up1 ι nx slot) (ha := a.h) inj (fun w hw => by
      rcases (k.ws w hw).1 with h1 | h1
      · exact ⟨.inl h1.2, by rw [hup _ h1.1]; exact Nat.lt_of_lt_of_le (Nat.lt_of_lt_of_le (R.lt _ h1.2) R.le) (Nat.le_refl _)⟩
      · exact ⟨.inr h1, by rw [h1.1, up1_at]; exact hs⟩) (fun b x hb => by
      obtain ⟨q1, q2, q3⟩ := R.h b x hb
      exact ⟨.inl (R.dom b x hb), by rw [hup b q1, erB_congr hup q3]; exact q2⟩) b x hb'
    refine ⟨hD b k1, by show (applyWs a.h ws')[_]? = _; rw [e2]; exact k2, ?_⟩
    rcases k3 with ⟨w, hw, e5, e6⟩ | k3
    · exact (k.ws w hw).2 x e6
    · exact loB_mono (nxt_le nx y) (R.h b x k3).2.2
  · intro b x hb
    have hb' : (xapply h y.ws).get (path b) = some x := hb
    exact (xapply_ok (ι := up1 ι nx slot) (ha := a.h) inj (fun w hw => by
      rcases (k.ws w hw).1 with h1 | h1
      · exact ⟨.inl h1.2, by rw [hup _ h1.1]; exact Nat.lt_of_lt_of_le (R.lt _ h1.2) R.le⟩
      · exact ⟨.inr h1, by rw [h1.1, up1_at]; exact hs⟩) (fun b x hb => by
      obtain ⟨q1, q2, q3⟩ := R.h b x hb
      exact ⟨.inl (R.dom b x hb), by rw [hup b q1, erB_congr hup q3]; exact q2⟩) b x hb').1
  · show slot + 1 ≤ (applyWs a.h ws').length
    rw [applyWs_length]
    omega
  · intro b hb
    obtain ⟨c, hc, e⟩ := e4 b hb
    exact ⟨c, hc, by rw [hup c (k.rs c hc).1]; exact e⟩
  · intro w hw
    obtain ⟨v, hv, e⟩ := e3 w hw
    exact ⟨v, hv, e.symm⟩
  · intro w hw
    rcases (k.ws w hw).1 with h1 | h1
    · exact .inl h1.2
    · exact .inr h1
/-- After an operation that is not wanted. -/
theorem skip_ok {dst : Option Tmp} (R : XRel D ι m ⟨t, h, nx⟩ a) : XRel D ι m ⟨xput dst (.v undef) t, h, nx⟩ ⟨put a.t dst (.v undef), a.h⟩ ∨ ∃ d, dst = some d ∧ a.t.length ≤ d := by
  cases dst with
  | none => exact .inl R
  | some d =>
    by_cases hd : d < a.t.length
    · left
      refine ⟨fun i x hx => ?_, R.h, R.dom, R.dlt, R.inj, R.lt, R.le⟩
      simp only [xput] at hx
      rw [get_put] at hx
      split at hx
      · rename_i e
        subst e
        cases hx
        exact ⟨by simp only [put]; rw [List.getElem?_set_self hd]; simp [er], by simp [lo]⟩
      · rename_i e
        obtain ⟨k1, k2⟩ := R.t i x hx
        exact ⟨by simp only [put]; rw [List.getElem?_set_ne e]; exact k1, k2⟩
    · exact .inr ⟨d, rfl, Nat.le_of_not_lt hd⟩
end
end Go.Proofs.YtjhekjhbjaengaaGreatDoor.Ev
