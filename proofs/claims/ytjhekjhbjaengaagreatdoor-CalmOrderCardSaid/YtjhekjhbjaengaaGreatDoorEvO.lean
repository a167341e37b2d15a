/- Each operation of the evaluator is the model's. -/
import Derived.Test.YtjhekjhbjaengaaGreatDoorEvM
namespace Go.Proofs.YtjhekjhbjaengaaGreatDoor.Ev
open Go Go.RowKit

section
variable {P : Program} {M : Mem} {h : Heap} {w : World} {a : Act} {t : List AV} {slot : Nat}

theorem cell_at (w : World) (B i : Nat) : w.cell? ⟨B, i, none⟩ = (cellsAt w.heap B)[i]? := by
  unfold World.cell? cellsAt
  show (match w.heap[B]? with | some (.cells c _ _) => if (none : Option Nat).isSome then none else c[i]? | _ => none) = _
  cases hB : w.heap[B]? with
  | none => simp
  | some o => cases o <;> simp
theorem addr_add (B o i : Nat) : (⟨B, o, none⟩ : Addr).add i = ⟨B, o + i, none⟩ := by unfold Addr.add; split <;> simp_all

theorem tsize_run {ty : TypeId} {n : Nat} (hn : tsize P ty = some n) (w : World) : (sizeOf ty).run P w = .ok n w := by
  unfold tsize at hn
  cases hi : P.info? ty with
  | none => simp [hi] at hn
  | some i =>
    simp [hi] at hn
    simp [sizeOf, typeInfo, hi, hn]
theorem tinfo_run {ty : TypeId} {i : TypeInfo} (hi : P.info? ty = some i) (w : World) : (typeInfo ty).run P w = .ok i w := by simp [typeInfo, hi]
theorem tagg_run {ty : TypeId} {b : Bool} (hb : tagg P ty = some b) (w : World) : (isAgg ty).run P w = .ok b w := by
  unfold tagg at hb
  cases hu : P.underlying ty with
  | none => simp [hu] at hb
  | some d =>
    simp [hu] at hb
    subst hb
    simp only [isAgg, Sem.run_bind, run_underlying hu, Result.andThen_ok]
    cases d <;> rfl
theorem vs_rel : ∀ {cs : List Value}, (∀ v ∈ cs, v.oneCell' = true) → RelC M (cs.map .v) cs
  | [], _ => .nil
  | c :: r, hc => by
    refine .cons ?_ (by unfold Rel; rfl) (vs_rel fun v hv => hc v (by simp [hv]))
    simpa [AV.flat] using hc c (by simp)
theorem zcells_run {ty : TypeId} {z : List AV} (hz : zcells P ty = some z) (w : World) : ∃ zv, (zeroValue ty).run P w = .ok zv w ∧ (∀ M : Mem, RelC M z zv.cells.toList) := by
  unfold zcells at hz
  cases hi : P.info? ty with
  | none => simp [hi] at hz
  | some i =>
    cases hv : i.zero with
    | none => simp [hi, hv] at hz
    | some zv =>
      simp only [hi, hv, Option.bind_some] at hz
      split at hz
      · rename_i hall
        cases hz
        refine ⟨zv, by simp [zeroValue, typeInfo, hi, hv], fun M => vs_rel fun v hv => ?_⟩
        have := Array.all_eq_true'.1 hall v (by simpa using hv)
        simpa using this
      · cases hz

/-- A variable read. -/
theorem cut_run {ty : TypeId} {e : List AV} {j B o : Nat} {x : AV} (hw : w.heap = M.H) (hr : RelC M e (((cellsAt M.H B).drop o).take e.length)) (hc : cut P ty e j = some x) :
    ∃ u, (loadVar ty ⟨B, o + j, none⟩).run P w = .ok u w ∧ Rel M x u := by
  unfold cut at hc
  split at hc
  · rename_i n h1 h2
    split at hc
    · rename_i hle
      cases hc
      have hr2 := (hr.drop j).take n
      have e1 : ((((cellsAt M.H B).drop o).take e.length).drop j).take n = ((cellsAt M.H B).drop (o + j)).take n := by
        rw [List.drop_take, List.take_take, List.drop_drop, Nat.min_eq_left (by omega)]
      rw [e1] at hr2
      have hlen : (((cellsAt M.H B).drop (o + j)).take n).length = n := by rw [hr2.length]; simp; omega
      refine ⟨.agg (((cellsAt M.H B).drop (o + j)).take n).toArray, ?_, ?_⟩
      · have hl := run_loadCells_list (P := P) w ⟨B, o + j, none⟩ (((cellsAt M.H B).drop (o + j)).take n) (fun i v hi => by
          rw [addr_add, cell_at, hw]
          rw [List.getElem?_take] at hi
          split at hi
          · rwa [List.getElem?_drop] at hi
          · cases hi)
        rw [hlen] at hl
        simp [loadVar, tagg_run h1, tsize_run h2, hl]
      · unfold Rel
        exact ⟨_, rfl, by simpa using hr2⟩
    · cases hc
  · rename_i h1
    obtain ⟨c, hc1, _, hc2⟩ := hr.get hc
    refine ⟨c, ?_, hc2⟩
    have hcell : w.cell? ⟨B, o + j, none⟩ = some c := by
      rw [cell_at, hw]
      rw [List.getElem?_take] at hc1
      split at hc1
      · rwa [List.getElem?_drop] at hc1
      · cases hc1
    simp [loadVar, tagg_run h1, hcell]
  · cases hc
/-- A part of a value. -/
theorem part_run {ty : TypeId} {e : List AV} {j : Nat} {x : AV} {cs : Array Value} (hr : RelC M e cs.toList) (hc : cut P ty e j = some x) :
    ∃ u, (part ty cs j).run P w = .ok u w ∧ Rel M x u := by
  unfold cut at hc
  split at hc
  · rename_i n h1 h2
    split at hc
    · rename_i hle
      cases hc
      have hr2 := (hr.drop j).take n
      refine ⟨.agg (cs.extract j (j + n)), by simp [part, tagg_run h1, tsize_run h2], ?_⟩
      unfold Rel
      refine ⟨_, rfl, ?_⟩
      simpa [List.extract_eq_take_drop] using hr2
    · cases hc
  · rename_i h1
    obtain ⟨c, hc1, _, hc2⟩ := hr.get hc
    refine ⟨c, ?_, hc2⟩
    have : cs[j]? = some c := by simpa using hc1
    simp [part, tagg_run h1, this]
  · cases hc

theorem ofConst_rel (u : Value) : Rel M (ofConst u) u := by
  unfold ofConst
  split
  · rename_i cs
    split
    · rename_i hall
      unfold Rel
      exact ⟨cs, rfl, vs_rel fun v hv => by have := Array.all_eq_true'.1 hall v (by simpa using hv); simpa using this⟩
    · unfold Rel; rfl
  · unfold Rel; rfl
theorem aev_rel {x : Operand} {y : AV} (ht : RelT M t a.tmps.toList) (hx : aev t x = some y) : Rel M y (a.eval x) := by
  cases x with
  | tmp i =>
    obtain ⟨c, h1, h2⟩ := ht.get hx
    have : a.tmps[i]? = some c := by simpa using h1
    simpa [Act.eval, this] using h2
  | const v => simp [aev] at hx; subst hx; exact ofConst_rel v
  | global g => simp [aev] at hx; subst hx; unfold Rel; rfl
  | func f => simp [aev] at hx; subst hx; unfold Rel; exact ⟨#[], rfl, .nil⟩
theorem evs_rel {ht : RelT M t a.tmps.toList} : ∀ {xs : List Operand} {ys : List AV}, evs t xs = some ys → RelT M ys (xs.map a.eval)
  | [], ys, h => by simp [evs] at h; subst h; exact .nil
  | x :: xs, ys, h => by
    simp only [evs, List.mapM_cons] at h
    cases h1 : aev t x with
    | none => simp [h1] at h
    | some y =>
      cases h2 : xs.mapM (aev t) with
      | none => simp [h1, h2] at h
      | some ys' =>
        simp [h1, h2] at h
        subst h
        exact .cons (aev_rel ht h1) (evs_rel (ht := ht) h2)

theorem plain_rel : ∀ {l : List AV} {cs xs : List Value}, RelC M l cs → l.mapM AV.plain? = some xs → cs = xs
  | [], cs, xs, h, e => by unfold RelC at h; simp at e; rw [h, e]
  | y :: l, cs, xs, h, e => by
    unfold RelC at h
    obtain ⟨c, r, rfl, _, h3, h4⟩ := h
    simp only [List.mapM_cons] at e
    cases h1 : AV.plain? y with
    | none => simp [h1] at e
    | some c' =>
      cases h2 : l.mapM AV.plain? with
      | none => simp [h1, h2] at e
      | some xs' =>
        simp [h1, h2] at e
        subst e
        rw [plain_rel h4 h2]
        cases y <;> simp [AV.plain?] at h1
        subst h1
        unfold Rel at h3
        rw [h3]
theorem toVal_rel {x : AV} {u c : Value} (hr : Rel M x u) (hv : toVal x = some c) : u = c := by
  unfold toVal at hv
  split at hv
  · cases hv; unfold Rel at hr; exact hr
  · rename_i l
    cases h1 : l.mapM AV.plain? with
    | none => simp [h1] at hv
    | some xs =>
      simp [h1] at hv
      subst hv
      unfold Rel at hr
      obtain ⟨cs, rfl, h2⟩ := hr
      have := plain_rel h2 h1
      simp [← this]
  · cases hv
theorem runP_run {α : Type} {P : Program} : ∀ {x : Sem α} {r : α}, runP P x = some r → ∀ w, x.run P w = .ok r w
  | .pure b, r, h, w => by simp [runP] at h; subst h; rfl
  | .program k, r, h, w => by simp only [runP] at h; simp only [Sem.run]; exact runP_run h w
  | .load .., _, h, _ | .store .., _, h, _ | .new .., _, h, _ | .shape .., _, h, _ | .freeze .., _, h, _ | .frozen .., _, h, _ | .getObj .., _, h, _ | .setObj .., _, h, _ | .choose .., _, h, _ | .sys .., _, h, _ | .mark .., _, h, _ | .halt .., _, h, _ => by simp [runP] at h
theorem scalar_run {o : Oper} {r : AV} (hsel : ∀ cs b, o.op ≠ .select cs b) (ht : RelT M t a.tmps.toList) (hr : scalar P o t = some r) : ∃ u, (execOp a.eval o).run P w = .ok (.value u) w ∧ Rel M r u := by
  unfold scalar at hr
  split at hr
  · rename_i hall
    have hcong : execOp a.eval o = execOp (rho t) o := execOp_congr o hsel fun x hx => by
      have h1 := Array.all_eq_true'.1 hall x hx
      unfold rho
      cases h2 : aev t x with
      | none => simp [h2] at h1
      | some y =>
        cases h3 : toVal y with
        | none => simp [h2, h3] at h1
        | some c => simp [h3]; exact toVal_rel (aev_rel ht h2) h3
    split at hr
    · rename_i u hu
      cases hr
      exact ⟨u, by rw [hcong]; exact runP_run hu w, ofConst_rel u⟩
    · cases hr
  · cases hr

/-- What an operation comes to. -/
def OpOK (P : Program) (o : Oper) (a : Act) (w : World) (M : Mem) (h : Heap) (slot : Nat) (x : AV) (ws : Ws) : Prop :=
  ∀ (next : Act → World → Prop) (Q : Exit → Act → World → Prop), (∀ v w' M', Rel M' x v → MemOK M' (applyWs h ws) → Fr M h M' (applyWs h ws) → (∀ b, b ≠ slot → M.μ b = none → M'.μ b = none) → w'.heap = M'.H → Same w w' → next (a.put o.dst v) w') → o.wp P a w next Q

theorem OpOK.value {o : Oper} {x : AV} (ok : MemOK M h) (hw : w.heap = M.H) (he : ∃ u, (execOp a.eval o).run P w = .ok (.value u) w ∧ Rel M x u) : OpOK P o a w M h slot x [] := by
  intro next Q hn
  obtain ⟨u, h1, h2⟩ := he
  unfold Oper.wp
  rw [h1, Oper.upon_value]
  exact hn u w M h2 ok (Fr.refl M h) (fun _ _ h => h) hw (Same.refl w)
end
end Go.Proofs.YtjhekjhbjaengaaGreatDoor.Ev
