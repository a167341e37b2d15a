/- The second evaluator: calls with a memory of their own, rows that grow, elements of lists that are not known. -/
import Derived.Test.YtjhekjhbjaengaaGreatDoorEvK5
namespace Go.Proofs.YtjhekjhbjaengaaGreatDoor.Ev
open Go Go.RowKit

def HRel (D : Nat → Prop) (ι : Nat → Nat) (m : Nat) (h : T XB) (n : Nat) (ha : Heap) : Prop := XRel D ι m ⟨.leaf, h, n⟩ ⟨[], ha⟩
section
variable {P : Program} {cf : FuncId → List AV → HM (AV × Ws)} {o : Oper} {t : T XV} {h : T XB} {nx m slot : Nat} {ι : Nat → Nat} {D : Nat → Prop} {a : AS} {r : XR}
theorem XRel.heap (R : XRel D ι m ⟨t, h, nx⟩ a) : HRel D ι m h nx a.h :=
  ⟨fun i x hx => (by have hx' : T.get (path i) (.leaf : T XV) = some x := hx; rw [T.get_leaf] at hx'; cases hx'), R.h, R.dom, R.dlt, R.inj, R.lt, R.le⟩
theorem HRel.of {ta : List AV} {ha : Heap} (R : HRel D ι m h nx ha) (ht : ∀ i x, t.get (path i) = some x → ta[i]? = some (er x ι) ∧ lo nx x) : XRel D ι m ⟨t, h, nx⟩ ⟨ta, ha⟩ :=
  ⟨ht, R.h, R.dom, R.dlt, R.inj, R.lt, R.le⟩
theorem HRel.nil : HRel (fun _ => False) id 0 .leaf 0 [] :=
  ⟨fun i x hx => (by have hx' : T.get (path i) (.leaf : T XV) = some x := hx; rw [T.get_leaf] at hx'; cases hx'), fun b x hx => (by have hx' : T.get (path b) (.leaf : T XB) = some x := hx; rw [T.get_leaf] at hx'; cases hx'), fun b x hx => (by have hx' : T.get (path b) (.leaf : T XB) = some x := hx; rw [T.get_leaf] at hx'; cases hx'), fun _ h => h.elim, fun _ _ h => h.elim, fun _ h => h.elim, Nat.le_refl _⟩

/-- A run of the second evaluator's is one of the first's. -/
def RFOK (rfx : XRF) (rf : RF) : Prop := ∀ pu g xs h n q K, rfx pu g xs h n q K → ∀ D ι ha, HRel D ι ha.length h n ha → loL n xs →
  ∃ r h' n' q' D' ι' ha', rf g (erL xs ι) ha = some (er r ι', ha') ∧ lo n' r ∧ HRel D' ι' ha'.length h' n' ha' ∧ (pu = false → n ≤ n' ∧ (∀ b, b < n → ι' b = ι b) ∧ ∀ b, D b → D' b) ∧ K r h' n' q'

theorem dues_ok : ∀ {ps : List Prop} {K : Prop}, dues ps K → AllP ps ∧ K
  | [], _, h => ⟨trivial, h⟩
  | _ :: _, _, h => ⟨⟨h.1, (dues_ok h.2).1⟩, (dues_ok h.2).2⟩
theorem xplainB_ok (ι : Nat → Nat) : ∀ l : List XV, (erL l ι).all plainB = l.all xplainB
  | [] => by simp [erL]
  | x :: l => by
    simp only [erL, List.all_cons, xplainB_ok ι l]
    cases x <;> simp [er, plainB, xplainB]
theorem xplainA_ok (ι : Nat → Nat) : ∀ l : List XV, (erL l ι).all Ev.plainA = l.all xplainA
  | [] => by simp [erL]
  | x :: l => by
    simp only [erL, List.all_cons, xplainA_ok ι l]
    cases x <;> simp [er, Ev.plainA, xplainA, xplainB_ok]
theorem xleads_ok (x : XV) (ι : Nat → Nat) : leads (er x ι) = xleads x := by
  cases x <;> simp [er, leads, xleads, xplainB_ok, xplainA_ok]

variable (R : XRel D ι m ⟨t, h, nx⟩ a)
include R
theorem xfreeze_ok : ∀ {bs : List Nat} {ws : List (Nat × Option XB)}, xfreeze h bs = some ws →
    (∃ rs, (freezes (bs.map ι)).run a.h = some (mapWs ι ws, rs) ∧ ∀ b ∈ rs, ∃ c ∈ bs, ι c = b) ∧ ∀ w ∈ ws, (w.1 < nx ∧ D w.1) ∧ ∀ blk, w.2 = some blk → loB nx blk
  | [], ws, hr => by
    simp only [xfreeze, Option.some.injEq] at hr
    subst hr
    exact ⟨⟨[], rfl, by simp⟩, by simp⟩
  | b :: bs, ws, hr => by
    simp only [xfreeze] at hr
    split at hr
    · rename_i blk ws' hblk hws
      simp only [Option.some.injEq] at hr
      obtain ⟨h1, h2, h3⟩ := blk_ok R hblk
      obtain ⟨⟨rs, g1, g2⟩, g3⟩ := xfreeze_ok hws
      refine ⟨⟨ι b :: (rs ++ []), ?_, ?_⟩, ?_⟩
      · simp only [List.map_cons, freezes]
        rw [get_run h2, erB_rw, bind_run (f := fun ws => HM.ret (if blk.rw = true then (ι b, some { k := (erB ι blk).k, rw := false, els := (erB ι blk).els }) :: ws else ws)) g1 (ret_run _ _)]
        subst hr
        cases hrw : blk.rw
        · simp
        · simp only [if_true, cond_true, mapWs, List.map_cons, Option.map_some]
          rfl
      · intro c hc
        rcases List.mem_cons.1 hc with rfl | hc
        · exact ⟨b, by simp, rfl⟩
        · obtain ⟨c', h5, h6⟩ := g2 c (by simpa using hc)
          exact ⟨c', by simp [h5], h6⟩
      · intro w hw
        subst hr
        cases hrw : blk.rw
        · rw [hrw] at hw
          exact g3 w hw
        · rw [hrw] at hw
          rcases List.mem_cons.1 hw with rfl | hw
          · exact ⟨h1, fun q hq => by cases hq; exact h3⟩
          · exact g3 w hw
    · cases hr
omit R
theorem applyWs_eq {ha : Heap} {ws : Ws} : applyWs ha ws = applyWs ha ws := rfl
theorem mapWs_congr {n : Nat} {ι ι' : Nat → Nat} (h : ∀ b, b < n → ι' b = ι b) {ws : List (Nat × Option XB)} (hw : ∀ w ∈ ws, w.1 < n ∧ ∀ blk, w.2 = some blk → loB n blk) : mapWs ι' ws = mapWs ι ws := by
  unfold mapWs
  refine List.map_congr_left fun w hw' => ?_
  obtain ⟨g1, g2⟩ := hw w hw'
  obtain ⟨b, ob⟩ := w
  cases ob with
  | none => simp [h b g1]
  | some blk => simp [h b g1, erB_congr h (g2 blk rfl)]
include R
/-- A call with a memory of its own. -/
theorem xcall_ok {C : Cfg} {rfx : XRF} {rf : RF} {g : FuncId} {xs : List XV} {q : List Told} {K : XR → List Told → Prop} (hrf : RFOK rfx rf) (how : ∀ g ys r, C.sum g = true → C.owed g ys r → pure_ rf g (erL ys id) = some (er r id))
    (hG : C.S.G g = none) (hI : C.S.inl g = false) (hl : loL nx xs) (hx : xcall C rfx g xs h q K) : ∃ y q', RunsM (callf C.S rf g (erL xs ι)) a.h slot nx D ι y ∧ K y q' := by
  unfold xcall at hx
  split at hx
  · cases hx
  · rename_i ys bs ps hsn
    obtain ⟨hps, hx⟩ := dues_ok hx
    obtain ⟨⟨rs, g1, g2⟩, g3, g4⟩ := xsnapL_ok (xsnap_ok R snapD) hsn hps hl
    have fin : ∀ {r : XV} {q' : List Told}, pure_ rf g (erL ys ι) = some (er r id) → fz 4 r = true → (bif xleads r then (match xfreeze h bs with | some ws => K ⟨r, ws, bs, false⟩ q' | none => False) else K ⟨r, [], bs, false⟩ q') →
        ∃ y q', RunsM (callf C.S rf g (erL xs ι)) a.h slot nx D ι y ∧ K y q' := by
      intro r q' hr hf hk
      have hlr : lo nx r := xcutF_ok.fz_lo 4 nx r hf
      have her : er r id = er r (up1 ι nx slot) := fz_er _ _ 4 r hf
      have hcall : callf C.S rf g (erL xs ι) = acall (pure_ rf g) (erL xs ι) := by
        unfold callf
        rw [hG]
        simp only [hI, Bool.false_eq_true, if_false]
      rw [hcall]
      unfold acall snaps
      cases hlead : xleads r with
      | false =>
        rw [hlead] at hk
        refine ⟨_, q', ⟨⟨rs ++ [], [], ?_, rfl, by simp, by simpa using g2⟩, by simpa [nxt] using hlr, by simp, g3⟩, hk⟩
        refine bind_run g1 ?_
        simp only [hr, xleads_ok, hlead, Bool.false_eq_true, if_false]
        rw [her]
        rfl
      | true =>
        rw [hlead] at hk
        simp only [cond_true] at hk
        split at hk
        · rename_i ws hws
          obtain ⟨⟨rs2, k1, k2⟩, k3⟩ := xfreeze_ok R hws
          refine ⟨_, q', ⟨⟨rs ++ (rs2 ++ []), mapWs ι ws, ?_, ?_, ?_, ?_⟩, by simpa [nxt] using hlr, ?_, g3⟩, hk⟩
          · refine bind_run g1 ?_
            simp only [hr, xleads_ok, hlead, if_true]
            rw [her]
            exact bind_run k1 (ret_run _ _)
          · rw [mapWs_congr (fun b hb => up1_lt hb) fun w hw => ⟨(k3 w hw).1.1, (k3 w hw).2⟩]
          · intro w hw
            obtain ⟨v, hv, rfl⟩ := List.mem_map.1 hw
            exact ⟨v, hv, by rw [up1_lt (k3 v hv).1.1]⟩
          · intro b hb
            rcases List.mem_append.1 hb with hb | hb
            · exact g2 b hb
            · exact k2 b (by simpa using hb)
          · intro w hw
            exact ⟨.inl (k3 w hw).1, (k3 w hw).2⟩
        · exact hk.elim
    have hys : erL ys ι = erL ys id := g4.1 ι id
    cases hsum : C.sum g with
    | true =>
      rw [hsum] at hx
      simp only [cond_true] at hx
      cases q with
      | nil => cases hx
      | cons z q' =>
        cases z with
        | ret r =>
          obtain ⟨h1, h2⟩ := hx
          cases hf : fz 4 r with
          | false => rw [hf] at h2; cases h2
          | true =>
            rw [hf] at h2
            exact fin (by rw [hys]; exact how g ys r hsum h1) hf h2
        | _ => cases hx
    | false =>
      rw [hsum] at hx
      simp only [cond_false] at hx
      obtain ⟨r0, h', n', q', D', ι', ha', k1, k2, k3, _, k5⟩ := hrf true g ys .leaf 0 q _ hx _ id [] HRel.nil (g4.2 0)
      split at k5
      · rename_i y bs2 ps2 hsn2
        obtain ⟨hps2, k6⟩ := dues_ok k5
        cases hf : fz 4 y with
        | false => rw [hf] at k6; cases k6
        | true =>
          rw [hf] at k6
          obtain ⟨⟨rs3, j1, j2⟩, j3, j4⟩ := xsnap_ok k3 snapD r0 y bs2 ps2 hsn2 hps2 k2
          refine fin ?_ hf k6
          unfold pure_
          rw [hys, k1]
          simp only [j1]
          rw [j4.1 ι' id]
      · cases k5
/-- A row that is not known element by element grows. -/
theorem xgrow_ok {c : Call} {p q : Operand} {ta tb e2 : TypeId} {x y : XV} {ps : List Prop} (ho : o.op = .call c) (hc0 : c.callee = .builtin .append) (hargs : c.args.toList = [p, q]) (hty : c.argTypes.toList = [ta, tb]) (hu2 : P.underlying tb = some (.slice e2))
    (hx : xev t p = some x) (hy : xev t q = some y) (hr : xgrow P (P.underlying ta) x y h nx = some (r, ps)) (hps : AllP ps) : Runs P cf o a.t a.h slot nx D ι r := by
  obtain ⟨ha, hla⟩ := xev_ok R hx
  obtain ⟨hb, hlb⟩ := xev_ok R hy
  unfold xgrow at hr
  split at hr
  · rename_i et hu
    split at hr
    · rename_i inf n z b k off len ys rs hi hn hz hel
      split at hr
      · rename_i blk hblk
        cases hc : (blk.op && !(Nat.beq n 0) && !(Nat.beq inf.bytes 0) && Nat.beq z.length n && Nat.beq off 0 && Nat.beq k n && Nat.beq blk.k k && blk.rw && ys.all (fun e => Nat.beq e.length n && e.all fzc)) with
        | false => simp [hc] at hr
        | true =>
          simp only [hc, cond_true, Option.some.injEq, Prod.mk.injEq] at hr
          obtain ⟨rfl, rfl⟩ := hr
          simp only [Bool.and_eq_true, Bool.not_eq_true'] at hc
          obtain ⟨⟨⟨⟨⟨⟨⟨⟨c1, c2⟩, c3⟩, c4⟩, c5⟩, c6⟩, c7⟩, c8⟩, c9⟩ := hc
          obtain ⟨q1, q2, _⟩ := hps
          have z1 := (xzero_ok hz ι).1
          have e5 := beq_nat c5
          subst e5
          have hfz : ∀ e ∈ ys, ∀ x ∈ e, fzc x = true := fun e he x hx => by
            have := List.all_eq_true.1 c9 e he
            simp only [Bool.and_eq_true] at this
            exact List.all_eq_true.1 this.2 x hx
          have hok : elsOk n y ys = true := by
            unfold elsOk
            split
            · refine List.all_eq_true.2 fun e he => ?_
              have := List.all_eq_true.1 c9 e he
              simp only [Bool.and_eq_true] at this
              exact this.1
            · exact c9
          obtain ⟨⟨rs', g1, g2⟩, g3, g4, g5⟩ := xelems_ok R hel hok
          obtain ⟨h1, h2, h3⟩ := blk_ok R hblk
          have hcond : ¬ (n = 0 ∨ inf.bytes = 0 ∨ (erL z ι).length ≠ n) := by
            rw [erL_length]
            have := beq_nat_false c2
            have := beq_nat_false c3
            have := beq_nat c4
            omega
          have els : (erB ι blk).els = erLL blk.els id := by unfold erB; rw [c1]; rfl
          refine ⟨⟨rs' ++ [ι b], ?_, ?_⟩, by simp [lo, nxt], ?_, by simpa using ⟨h1, fun c hc => g3 c hc⟩⟩
          · simp only [aop, ho, hc0, hargs, hty, ha, hb, of_some, bind_ret, hu, hu2, hi, hn, z1, if_neg hcond]
            refine bind_run g1 ?_
            rw [if_pos g5]
            simp only [er, erLL_length]
            rw [if_pos (beq_nat c6), get_run h2, els, erB_k, erB_rw, erLL_length, if_pos ⟨beq_nat c7, c8, by omega, q2⟩]
            simp only [ret_run, up1_at, newBlk, List.map_cons, List.map_nil, Option.map_some, Option.map_none, up1_lt h1.1]
            have e1 : (erLL blk.els id).take len = erLL blk.els id := List.take_of_length_le (by rw [erLL_length]; omega)
            rw [e1]
            have e2 : erB (up1 ι nx slot) ⟨n, true, blk.els ++ ys, true⟩ = ⟨n, true, erLL blk.els id ++ erLL ys ι⟩ := by
              simp [erB, erLL_append, fzcL_er hfz id ι]
            rw [e2]
          · intro b' hb'
            rcases List.mem_append.1 hb' with hb' | hb'
            · obtain ⟨c, hc, hc'⟩ := g2 b' hb'
              exact ⟨c, by simp [hc], hc'⟩
            · simp only [List.mem_singleton] at hb'
              exact ⟨b, by simp, hb'.symm⟩
          · intro w hw
            simp only [List.mem_cons, List.not_mem_nil, or_false] at hw
            rcases hw with rfl | rfl
            · exact ⟨.inl h1, fun q hq => by cases hq⟩
            · exact ⟨.inr ⟨rfl, rfl⟩, fun q hq => by cases hq; exact .inl rfl⟩
      · cases hr
    · cases hr
  · cases hr
/-- An element of a list that is not known. -/
theorem xelem_ok {C : Cfg} {ty : TypeId} {x ix : Operand} {l : List (List XV)} {q : List Told} {K : T XV → XR → List Told → Prop} (ho : o.op = .indexAddr ty x ix) (hx : xev t x = some (.ol l)) (hk : xelem C ty l (xev t ix) t q K) :
    ∃ y q', Runs C.S.P cf o a.t a.h slot nx D ι y ∧ K t y q' := by
  unfold xelem at hk
  split at hk
  · rename_i e q' k i b n hz hn
    obtain ⟨⟨h1, h2⟩, hk⟩ := hk
    cases hc : (Nat.beq e.length n && !(Nat.beq n 0)) with
    | false => rw [hc] at hk; cases hk
    | true =>
      rw [hc] at hk
      simp only [Bool.and_eq_true, Bool.not_eq_true'] at hc
      refine ⟨_, q', runs_pure (by simp [lo]) ?_, hk⟩
      cases hz' : xev t ix with
      | none => simp [hz'] at hz
      | some z =>
        simp only [hz', Option.bind_some] at hz
        have ha := (xev_ok R hx).1
        have hb := (xev_ok R hz').1
        rw [xnum_ok hz ι] at hb
        unfold xsliceEl at hn
        split at hn
        · rename_i et hu
          simp only [aop, ho, ha, hb, of_some, bind_ret, asNat, if_pos h1, hu, hn, if_neg (beq_nat_false hc.2), er]
          rw [erLL_get, h2]
          simp only [Option.map_some, erL_length, beq_nat hc.1, if_true]
          rfl
        · cases hn
  · cases hk
end
end Go.Proofs.YtjhekjhbjaengaaGreatDoor.Ev
