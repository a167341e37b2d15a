/- The second evaluator: operations. -/
import Derived.Test.YtjhekjhbjaengaaGreatDoorEvK1
namespace Go.Proofs.YtjhekjhbjaengaaGreatDoor.Ev
open Go Go.RowKit

/-- The next number and its block. -/
def up1 (ι : Nat → Nat) (nx slot : Nat) : Nat → Nat := fun b => if b = nx then slot else ι b
theorem up1_lt {ι : Nat → Nat} {nx slot b : Nat} (h : b < nx) : up1 ι nx slot b = ι b := by
  unfold up1
  rw [if_neg (by omega)]
theorem up1_at {ι : Nat → Nat} {nx slot : Nat} : up1 ι nx slot nx = slot := by simp [up1]
def nxt (nx : Nat) (r : XR) : Nat := bif r.nw then nx + 1 else nx
theorem nxt_le (nx : Nat) (r : XR) : nx ≤ nxt nx r := by unfold nxt; cases r.nw <;> simp

/-- The first evaluator comes to the same. -/
structure Runs (P : Program) (cf : FuncId → List AV → HM (AV × Ws)) (o : Oper) (ta : List AV) (ha : Heap) (slot nx : Nat) (D : Nat → Prop) (ι : Nat → Nat) (r : XR) : Prop where
  ex : ∃ rs, (aop P cf o ta slot).run ha = some ((er r.x (up1 ι nx slot), r.ws.map fun w => (up1 ι nx slot w.1, w.2.map (erB (up1 ι nx slot)))), rs) ∧ ∀ b ∈ rs, ∃ c ∈ r.rs, ι c = b
  lo : lo (nxt nx r) r.x
  ws : ∀ w ∈ r.ws, (w.1 < nx ∧ D w.1 ∨ w.1 = nx ∧ r.nw = true) ∧ ∀ blk, w.2 = some blk → loB (nxt nx r) blk
  rs : ∀ c ∈ r.rs, c < nx ∧ D c

section
variable {P : Program} {cf : FuncId → List AV → HM (AV × Ws)} {o : Oper} {t : T XV} {h : T XB} {nx m slot : Nat} {ι : Nat → Nat} {D : Nat → Prop} {a : AS} {r : XR}

theorem runs_val {x : XV} {l : List Nat} (hx : lo nx x) (hl : ∀ c ∈ l, c < nx ∧ D c) (hrun : ∃ rs, (aop P cf o a.t slot).run a.h = some ((er x ι, []), rs) ∧ ∀ b ∈ rs, ∃ c ∈ l, ι c = b) : Runs P cf o a.t a.h slot nx D ι ⟨x, [], l, false⟩ := by
  obtain ⟨rs, h1, h2⟩ := hrun
  refine ⟨⟨rs, ?_, h2⟩, by simpa [nxt] using hx, by simp, hl⟩
  rw [h1]
  simp only [List.map_nil]
  rw [er_congr (n := nx) (fun b hb => up1_lt hb) x hx]
theorem runs_pure {x : XV} (hx : lo nx x) (hrun : (aop P cf o a.t slot).run a.h = some ((er x ι, []), [])) : Runs P cf o a.t a.h slot nx D ι ⟨x, [], [], false⟩ :=
  runs_val hx (by simp) ⟨[], hrun, by simp⟩
theorem ret_run {α : Type} (h : Heap) (x : α) : (HM.ret x).run h = some (x, []) := rfl
theorem of_some {α : Type} (x : α) : HM.ofOption (some x) = .ret x := rfl
theorem bind_ret {α β : Type} (x : α) (f : α → HM β) : (HM.ret x).bind f = f x := rfl
theorem bind_get {α β : Type} (b : Nat) (k : Blk → HM α) (f : α → HM β) : (HM.get b k).bind f = .get b fun x => (k x).bind f := rfl
theorem get_run {α : Type} {h : Heap} {b : Nat} {x : Blk} (hb : h[b]? = some (some x)) (k : Blk → HM α) : (HM.get b k).run h = match (k x).run h with | some (a, r) => some (a, b :: r) | none => none := by
  simp only [HM.run, hb]
  cases (k x).run h <;> rfl

theorem ofConst_x (x : Value) (ι : Nat → Nat) : er (xconst x) ι = ofConst x := by
  cases x <;> simp only [xconst, ofConst, er]
  split <;> simp only [er, erL_vals]
theorem lo_xconst (x : Value) (n : Nat) : lo n (xconst x) := by
  cases x <;> simp only [xconst] <;> first | (unfold lo; trivial) | skip
  split <;> unfold lo
  · exact loL_vals _
  · trivial
variable (R : XRel D ι m ⟨t, h, nx⟩ a)
include R
theorem xev_ok {x : Operand} {y : XV} (hx : xev t x = some y) : aev a.t x = some (er y ι) ∧ lo nx y := by
  cases x with
  | tmp i => exact R.t i y hx
  | const x =>
    simp only [xev, Option.some.injEq] at hx
    subst hx
    exact ⟨by rw [ofConst_x]; rfl, lo_xconst _ _⟩
  | global g =>
    simp only [xev, Option.some.injEq] at hx
    subst hx
    exact ⟨by simp [aev, er], by simp [lo]⟩
  | func f =>
    simp only [xev, Option.some.injEq] at hx
    subst hx
    exact ⟨by simp [aev, er, erL], by simp [lo, loL]⟩
theorem blk_ok {b : Nat} {x : XB} (hb : h.get (path b) = some x) : (b < nx ∧ D b) ∧ a.h[ι b]? = some (some (erB ι x)) ∧ loB nx x := ⟨⟨(R.h b x hb).1, R.dom b x hb⟩, (R.h b x hb).2⟩
omit R

theorem xcut_ok {ty : TypeId} {e : List XV} {j : Nat} {x : XV} (hx : xcut P ty e j = some x) (ι : Nat → Nat) : cut P ty (erL e ι) j = some (er x ι) ∧ ∀ n, loL n e → lo n x := by
  unfold xcut at hx
  split at hx
  · rename_i ht
    split at hx
    · rename_i n hn
      cases hb : Nat.ble (j + n) e.length with
      | false => simp [hb] at hx
      | true =>
        simp only [hb, cond_true, Option.some.injEq] at hx
        subst hx
        unfold cut
        rw [ht, hn]
        simp only [erL_length]
        rw [if_pos (ble_nat hb)]
        exact ⟨by simp [er, erL_take, erL_drop], fun n hl => by unfold lo; exact loL_take (loL_drop hl _) _⟩
    · cases hx
  · rename_i ht
    rw [nth_eq] at hx
    unfold cut
    rw [ht]
    simp only [erL_get, hx, Option.map_some]
    exact ⟨trivial, fun n hl => loL_iff.1 hl x (List.mem_of_getElem? hx)⟩
  · cases hx
theorem xcutF_ok {ty : TypeId} {e : List XV} {j : Nat} {x : XV} (hx : xcutF P ty e j = some x) (ι : Nat → Nat) (n : Nat) : cut P ty (erL e id) j = some (er x ι) ∧ lo n x := by
  unfold xcutF at hx
  split at hx
  · rename_i y hy
    cases hb : fz 2 y with
    | false => simp [hb] at hx
    | true =>
      simp only [hb, cond_true, Option.some.injEq] at hx
      subst hx
      refine ⟨by rw [(xcut_ok hy id).1, fz_er id ι 2 y hb], fz_lo _ _ _ hb⟩
  · cases hx
where
  fz_lo : ∀ (d n : Nat) (x : XV), fz d x = true → lo n x
  | 0, n, x, h => by simp [fz] at h
  | d + 1, n, x, h => by
    have hl : ∀ l : List XV, l.all (fz d) = true → loL n l := fun l hl => loL_iff.2 fun x hx => fz_lo d n x (List.all_eq_true.1 hl x hx)
    cases x <;> simp only [fz] at h <;> unfold lo <;> first | trivial | exact hl _ h | exact fz_lo d n _ h | cases h

theorem xcells_ok {y : XV} {c : List XV} (hc : y.cells? = some c) (ι : Nat → Nat) : (er y ι).cells? = some (erL c ι) ∧ ∀ n, lo n y → loL n c := by
  cases y <;> simp only [XV.cells?, XV.flat, cond_true, cond_false, Option.some.injEq] at hc
  case agg l => subst hc; exact ⟨by simp [er, AV.cells?], fun n hl => by unfold lo at hl; exact hl⟩
  case v x =>
    cases hx : x.oneCell' with
    | false => simp [hx] at hc
    | true => simp only [hx, cond_true, Option.some.injEq] at hc; subst hc; exact ⟨by simp [er, AV.cells?, AV.flat, hx, erL], fun n hl => by simp [loL, lo]⟩
  case s x =>
    cases hx : x.oneCell' with
    | false => simp [hx] at hc
    | true => simp only [hx, cond_true, Option.some.injEq] at hc; subst hc; exact ⟨by simp [er, AV.cells?, AV.flat, hx, erL], fun n hl => by simp [loL, lo]⟩
  case tup => cases hc
  all_goals
    subst hc
    exact ⟨by simp [er, AV.cells?, AV.flat, erL], fun n hl => by simpa [loL] using hl⟩

theorem xnat_ok {z : XV} {i : Nat} (hz : xnat z = some i) (ι : Nat → Nat) : asNat (er z ι) = some i := by
  unfold xnat at hz
  split at hz
  · cases hz
    simp [er, asNat]
  · cases hz
theorem erB_get {ι : Nat → Nat} {blk : XB} (hop : blk.op = false) : (erB ι blk).els = erLL blk.els ι := by unfold erB; rw [hop]; rfl
theorem erB_k {ι : Nat → Nat} {blk : XB} : (erB ι blk).k = blk.k := rfl
theorem erB_rw {ι : Nat → Nat} {blk : XB} : (erB ι blk).rw = blk.rw := rfl
theorem loB_els {n : Nat} {blk : XB} (hop : blk.op = false) (h : loB n blk) : loLL n blk.els := h.resolve_left (by rw [hop]; simp)

variable (R : XRel D ι m ⟨t, h, nx⟩ a)
include R
theorem op_load' {ty : TypeId} {x : Operand} {y : XV} (ho : o.op = .load ty x) (hy : xev t x = some y) (hr : xload P ty y h = some r) : Runs P cf o a.t a.h slot nx D ι r := by
  obtain ⟨ha, hl⟩ := xev_ok R hy
  unfold xload at hr
  split at hr
  · rename_i b k i j
    split at hr
    · rename_i blk hblk
      cases hc : (Nat.beq blk.k k && !blk.op) with
      | false => simp [hc] at hr
      | true =>
        simp only [hc, cond_true] at hr
        simp only [Bool.and_eq_true, Bool.not_eq_true'] at hc
        split at hr
        · rename_i e he
          split at hr
          · rename_i x' hx'
            cases hr
            rw [nth_eq] at he
            obtain ⟨h1, h2, h3⟩ := blk_ok R hblk
            have h4 := xcut_ok hx' ι
            have hle := loLL_iff.1 (loB_els hc.2 h3) e (List.mem_of_getElem? he)
            refine runs_val (h4.2 nx hle) (by simpa using h1) ⟨[ι b], ?_, by simp⟩
            simp only [aop, ho, ha, of_some, bind_ret, er]
            rw [get_run h2, erB_get hc.2, erLL_get, he]
            simp only [Option.map_some, erB_k, beq_nat hc.1, if_true]
            rw [h4.1]
            rfl
          · cases hr
        · cases hr
    · cases hr
  · rename_i l j
    unfold XR.opt at hr
    split at hr
    · rename_i x' hx'
      cases hr
      have h4 := xcutF_ok hx' ι nx
      refine runs_pure h4.2 ?_
      simp only [aop, ho, ha, of_some, bind_ret, er, h4.1]
      rfl
    · cases hr
  · cases hr
theorem op_store' {ty : TypeId} {x z : Operand} {y y' : XV} (ho : o.op = .store ty x z) (hy : xev t x = some y) (hz : xev t z = some y') (hr : xstore P ty y y' h = some r) : Runs P cf o a.t a.h slot nx D ι r := by
  obtain ⟨ha, hl⟩ := xev_ok R hy
  obtain ⟨ha', hl'⟩ := xev_ok R hz
  unfold xstore at hr
  split at hr
  · rename_i b k i j
    split at hr
    · rename_i c blk n hcs hblk hn
      split at hr
      · rename_i e he
        cases hc : (Nat.beq blk.k k && !blk.op && blk.rw && Nat.beq c.length n && Nat.ble (j + n) e.length) with
        | false => simp [hc] at hr
        | true =>
          simp only [hc, cond_true, Option.some.injEq] at hr
          subst hr
          simp only [Bool.and_eq_true, Bool.not_eq_true'] at hc
          obtain ⟨⟨⟨⟨c1, c2⟩, c3⟩, c4⟩, c5⟩ := hc
          rw [nth_eq] at he
          obtain ⟨h1, h2, h3⟩ := blk_ok R hblk
          obtain ⟨g1, g2⟩ := xcells_ok hcs ι
          have hle := loLL_iff.1 (loB_els c2 h3) e (List.mem_of_getElem? he)
          have hnew : loLL nx (blk.els.set i (e.take j ++ c ++ e.drop (j + n))) := loLL_iff.2 fun q hq => by
            rcases List.mem_or_eq_of_mem_set hq with hq | hq
            · exact loLL_iff.1 (loB_els c2 h3) q hq
            · rw [hq]; exact loL_append.2 ⟨loL_append.2 ⟨loL_take hle _, g2 nx hl'⟩, loL_drop hle _⟩
          refine ⟨⟨[ι b], ?_, by simp⟩, by simp [lo], ?_, by simpa using h1⟩
          · simp only [aop, ho, ha, ha', of_some, bind_ret, er, g1]
            rw [get_run h2, erB_get c2, erLL_get, he, hn]
            simp only [Option.map_some, erB_k, erB_rw, erL_length]
            rw [if_pos ⟨beq_nat c1, c3, beq_nat c4, ble_nat c5⟩]
            simp only [HM.run, List.map_cons, List.map_nil, up1_lt h1.1, Option.map_some]
            rw [erB_congr (n := nx) (fun b hb => up1_lt hb) (Or.inr hnew)]
            simp [erB, c2, erLL_set, erL_append, erL_take, erL_drop]
          · intro w hw
            simp only [List.mem_singleton] at hw
            subst hw
            exact ⟨.inl h1, fun q hq => by cases hq; exact Or.inr hnew⟩
      · cases hr
    · cases hr
  · cases hr
theorem op_fieldAddr' {s : TypeId} {x : Operand} {f : Nat} {y : XV} (ho : o.op = .fieldAddr s x f) (hy : xev t x = some y) (hr : xfieldAddr P s y f = some r) : Runs P cf o a.t a.h slot nx D ι r := by
  obtain ⟨ha, hl⟩ := xev_ok R hy
  unfold xfieldAddr at hr
  split at hr
  · cases hr
  · rename_i off ft hf
    split at hr
    · rename_i n hn
      split at hr
      · cases hr
        refine runs_pure (by simpa [lo] using hl) ?_
        simp only [aop, ho, ha, of_some, bind_ret, er, hf, hn]
        rfl
      · cases hr
        refine runs_pure (by simp [lo]) ?_
        simp only [aop, ho, ha, of_some, bind_ret, er, hf, hn]
        rfl
      · cases hr
    · cases hr
theorem op_field' {s : TypeId} {x : Operand} {f : Nat} {y : XV} (ho : o.op = .field s x f) (hy : xev t x = some y) (hr : xfield P s y f = some r) : Runs P cf o a.t a.h slot nx D ι r := by
  obtain ⟨ha, hl⟩ := xev_ok R hy
  unfold xfield at hr
  split at hr
  · rename_i l
    split at hr
    · rename_i off ft hf
      unfold XR.opt at hr
      split at hr
      · rename_i x' hx'
        cases hr
        have h4 := xcut_ok hx' ι
        refine runs_pure (h4.2 nx (by simpa [lo] using hl)) ?_
        simp only [aop, ho, ha, of_some, bind_ret, er, hf, h4.1]
        rfl
      · cases hr
    · cases hr
  · cases hr
theorem op_indexAddr' {ty : TypeId} {x ix : Operand} {y z : XV} (ho : o.op = .indexAddr ty x ix) (hy : xev t x = some y) (hz : xev t ix = some z) (hr : xindexAddr P ty y z = some r) : Runs P cf o a.t a.h slot nx D ι r := by
  obtain ⟨ha, hl⟩ := xev_ok R hy
  obtain ⟨ha', _⟩ := xev_ok R hz
  unfold xindexAddr at hr
  split at hr
  · rename_i i et hi hu
    have hn' := xnat_ok hi ι
    split at hr
    · cases hr
    · rename_i n hn
      cases hc : Nat.beq n 0 with
      | true => simp [hc] at hr
      | false =>
        have hn0 := beq_nat_false hc
        simp only [hc, cond_false] at hr
        split at hr
        · rename_i b k off len
          cases hc2 : (Nat.beq k n && Nat.blt i len) with
          | false => simp [hc2] at hr
          | true =>
            simp only [hc2, cond_true] at hr
            cases hr
            simp only [Bool.and_eq_true] at hc2
            refine runs_pure (by simpa [lo] using hl) ?_
            simp only [aop, ho, ha, ha', of_some, bind_ret, hn', hu, hn, if_neg hn0, er]
            rw [if_pos ⟨beq_nat hc2.1, blt_nat hc2.2⟩]
            rfl
        · rename_i l
          split at hr
          · rename_i e he
            cases hc2 : Nat.beq e.length n with
            | false => simp [hc2] at hr
            | true =>
              simp only [hc2, cond_true] at hr
              cases hr
              rw [nth_eq] at he
              refine runs_pure (by simp [lo]) ?_
              simp only [aop, ho, ha, ha', of_some, bind_ret, hn', hu, hn, if_neg hn0, er]
              rw [erLL_get, he]
              simp only [Option.map_some, erL_length, beq_nat hc2, if_true]
              rfl
          · cases hr
        · cases hr
  · rename_i i k et hi hu
    have hn' := xnat_ok hi ι
    split at hr
    · cases hr
    · rename_i n hn
      cases hc : (Nat.blt i k && !(Nat.beq n 0)) with
      | false => simp [hc] at hr
      | true =>
        simp only [hc, cond_true] at hr
        simp only [Bool.and_eq_true, Bool.not_eq_true'] at hc
        split at hr
        · cases hr
          refine runs_pure (by simpa [lo] using hl) ?_
          simp only [aop, ho, ha, ha', of_some, bind_ret, hn', hu, hn, er]
          rw [if_pos ⟨blt_nat hc.1, beq_nat_false hc.2⟩]
          rfl
        · cases hr
          refine runs_pure (by simp [lo]) ?_
          simp only [aop, ho, ha, ha', of_some, bind_ret, hn', hu, hn, er]
          rw [if_pos ⟨blt_nat hc.1, beq_nat_false hc.2⟩]
          rfl
        · cases hr
  · cases hr
end
end Go.Proofs.YtjhekjhbjaengaaGreatDoor.Ev
