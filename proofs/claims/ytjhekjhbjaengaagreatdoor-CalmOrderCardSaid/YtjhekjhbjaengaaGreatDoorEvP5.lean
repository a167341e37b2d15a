/- Each operation of the evaluator is the model's: rows that are made, that grow, that are copied into; lengths; numbers. -/
import Derived.Test.YtjhekjhbjaengaaGreatDoorEvP4
namespace Go.Proofs.YtjhekjhbjaengaaGreatDoor.Ev
open Go Go.RowKit

section
variable {P : Program} {M : Mem} {h : Heap} {w : World} {a : Act} {t : List AV} {slot : Nat} {x : AV} {ws : Ws} {rs : List Nat} {dst : Option Tmp} {type : TypeId} {pos : String} {after : Array Edge} {guard : Option (Nat × Bool)}
  {cf : FuncId → List AV → HM (AV × Ws)}

theorem wrap_small {n : Int} (h0 : 0 ≤ n) (h1 : n ≤ 2 ^ 40) : IntKind.i64.wrap n = n := by
  have h2 : n % 18446744073709551616 = n := Int.emod_eq_of_lt h0 (by omega)
  simp [IntKind.wrap, IntKind.bits, IntKind.signed, h2]
  omega

theorem op_makeSlice {ty : TypeId} {y z : Operand} (ok : MemOK M h) (hw : w.heap = M.H) (hs : slot < h.length) (hμ : M.μ slot = none) (ht : RelT M t a.tmps.toList) (hr : (aop P cf ⟨dst, .makeSlice ty y z, type, pos, after, guard⟩ t slot).run h = some ((x, ws), rs)) :
    OpOK P ⟨dst, .makeSlice ty y z, type, pos, after, guard⟩ a w M h slot x ws := by
  replace hr := ev_inv hr; obtain ⟨b, r, hb, hr⟩ := hr
  replace hb := aev_rel ht hb
  replace hr := ev_inv hr; obtain ⟨c, r, hc, hr⟩ := hr
  replace hc := aev_rel ht hc
  split at hr
  · rename_i p q et hu
    split at hr
    · rename_i inf n zl hi hn hz
      split at hr
      · rename_i hcond
        obtain ⟨rfl, h0, hn0, hzn, ha, hby⟩ := hcond
        have := (HM.run_ret hr).1
        cases this
        unfold Rel at hb hc
        obtain ⟨zv, hzr, hzc⟩ := zcells_run hz w
        obtain ⟨m, rfl⟩ := Int.eq_ofNat_of_zero_le h0
        have hwr := wrap_small h0 ha
        have hsz : inf.size = n := by simpa [tsize, hi] using hn
        have hrow := zero_row (M := M) (m := m) (hzc M) hzn hn0
        refine OpOK.row (ws0 := []) (h1 := h) (cells := (Array.range (m * n)).map (zv.cells[· % zv.cells.size]!)) (cap := m) (ty := et) (w' := { w with heap := w.heap.push (.cells ((Array.range (m * n)).map (zv.cells[· % zv.cells.size]!)) et) }) hw hs hμ rfl ok rfl (fun _ _ h => h) hrow (Nat.le_refl _) (by simp) ?_ rfl ⟨rfl, rfl, rfl⟩
        have hlarge : ¬ ((decide ((m : Int) < 0) || decide ((inf.bytes : Int) * (m : Int) > 2 ^ 48)) = true) := by simp; omega
        by_cases hmn : m * n = 0
        · have hm0 : m = 0 := by rcases Nat.mul_eq_zero.1 hmn with h0 | h0 <;> omega
          subst hm0
          simp [execOp, Instr.makeSlice, run_underlying hu, hb, hc, asInt, asIntOf, typeInfo, hi, sizeOf, newRow, IntKind.wrap, IntKind.bits, IntKind.signed]
          have hE : ∀ f : Nat → Value, (Array.range 0).map f = #[] := fun f => by simp
          rw [hE, hE]
        · simp only [execOp, Instr.makeSlice, Sem.run_bind, run_underlying hu, Result.andThen_ok, hb, hc, asInt, asIntOf, Sem.run_pure, tinfo_run hi, tsize_run hn, Int.ofNat_eq_natCast, hwr, Int.toNat_natCast, run_askRoom, if_neg hmn, hzr, Sem.run_ite]
          rw [if_neg]
          · simp [newRow]
          · simp only [Bool.or_eq_true, decide_eq_true_eq, Bool.not_eq_true] at hlarge ⊢
            omega
      · exact (HM.run_bad hr).elim
    · exact (HM.run_bad hr).elim
  · exact (HM.run_bad hr).elim

theorem loadCells_seg {B o : Nat} {cs : List Value} (hw : w.heap = M.H) (hcs : ∀ j v, cs[j]? = some v → (cellsAt M.H B)[o + j]? = some v) : (loadCells ⟨B, o, none⟩ cs.length).run P w = .ok cs.toArray w :=
  run_loadCells_list (P := P) w ⟨B, o, none⟩ cs fun j v hj => by rw [addr_add, cell_at, hw]; exact hcs j v hj
/-- What a slice holds, read. -/
theorem elems_run {y : AV} {u : Value} {ys : List (List AV)} {r : List Nat} {n m : Nat} (ok : MemOK M h) (hr : (elems y).run h = some (ys, r)) (hall : ∀ e ∈ ys, e.length = n) (hb : Rel M y u) (hm : m ≤ ys.length) :
    ∃ A c, u = .slice A ys.length c ∧ ∃ cs : List Value, (∀ w : World, w.heap = M.H → (Builtin.firstCells n m u).run P w = .ok cs.toArray w) ∧ RelR M (ys.take m) n cs ∧ cs.length = m * n := by
  have empty : ∀ {A : Option Addr} {c : Nat}, m = 0 → u = .slice A ys.length c → ∃ A c, u = .slice A ys.length c ∧ ∃ cs : List Value, (∀ w : World, w.heap = M.H → (Builtin.firstCells n m u).run P w = .ok cs.toArray w) ∧ RelR M (ys.take m) n cs ∧ cs.length = m * n := by
    intro A c h0 hu
    subst h0
    refine ⟨A, c, hu, [], fun w _ => ?_, by simp; exact .nil, by simp⟩
    subst hu
    cases A <;> simp [Builtin.firstCells, loadCells, loadCellsFrom]
  have full : ∀ {B o c k : Nat}, m ≠ 0 → u = .slice (some ⟨B, o, none⟩) ys.length c → RelR M ys k ((cellsAt M.H B).drop o) → ∃ A c, u = .slice A ys.length c ∧ ∃ cs : List Value, (∀ w : World, w.heap = M.H → (Builtin.firstCells n m u).run P w = .ok cs.toArray w) ∧ RelR M (ys.take m) n cs ∧ cs.length = m * n := by
    intro B o c k h0 hu hR
    have hk : k = n := by
      cases ys with
      | nil => simp at hm; omega
      | cons e0 er => rw [← (hR.get (i := 0) rfl).1]; exact hall e0 (by simp)
    subst hk
    have hlen := hR.length
    have hmk : m * k ≤ ys.length * k := Nat.mul_le_mul_right k hm
    have hl : (((cellsAt M.H B).drop o).take (m * k)).length = m * k := by rw [List.length_take]; omega
    refine ⟨_, c, hu, ((cellsAt M.H B).drop o).take (m * k), fun w hw => ?_, ?_, hl⟩
    · have := loadCells_seg (P := P) (w := w) (M := M) (B := B) (o := o) (cs := ((cellsAt M.H B).drop o).take (m * k)) hw (fun j v hj => by
        rw [List.getElem?_take] at hj
        split at hj
        · rwa [List.getElem?_drop] at hj
        · cases hj)
      rw [hl] at this
      subst hu
      simp only [Builtin.firstCells, this]
    · refine (hR.take m).more (fun j hj => ?_) ?_
      · rw [List.getElem?_take_of_lt]
        have : (ys.take m).length ≤ m := by simp; omega
        exact Nat.lt_of_lt_of_le hj (Nat.mul_le_mul_right k this)
      · rw [hl]
        exact Nat.mul_le_mul_right k (by simp; omega)
  unfold elems at hr
  split at hr
  · rename_i b k off len
    replace hr := HM.run_get hr; obtain ⟨blk, r', hblk, hr, _⟩ := hr
    split at hr
    · rename_i hcond
      obtain ⟨rfl, hle⟩ := hcond
      have := (HM.run_ret hr).1
      subst this
      have hyl : ((blk.els.drop off).take len).length = len := by simp; omega
      unfold Rel at hb
      obtain ⟨A, c, B, hu, hlc, hB, hA, _⟩ := hb
      rw [hyl] at empty full hm ⊢
      by_cases h0 : m = 0
      · exact empty h0 hu
      · have hA' := hA (by omega)
        subst hA'
        refine full (k := blk.k) h0 hu ?_
        exact ((liveCells ok hblk hB).1.drop off).take len
    · exact (HM.run_bad hr).elim
  · rename_i l
    have := (HM.run_ret hr).1
    subst this
    unfold Rel at hb
    obtain ⟨A, c, hu, hlc, hA⟩ := hb
    by_cases h0 : m = 0
    · exact empty h0 hu
    · rcases hA with rfl | ⟨B, o, k, rfl, hF, hR⟩
      · simp at hm; omega
      · exact full h0 hu (hR.mono (Keeps.ofBare M))
  · have := (HM.run_ret hr).1
    subst this
    unfold Rel at hb
    obtain ⟨A, hu⟩ := hb
    exact empty (by simpa using hm) hu
  · have := (HM.run_ret hr).1
    subst this
    unfold Rel at hb
    exact empty (A := none) (c := 0) (by simpa using hm) hb
  · exact (HM.run_bad hr).elim

theorem args1 {xs : Array Operand} {p : Operand} (h : xs.toList = [p]) : xs = #[p] := by
  apply Array.ext'; simpa using h
theorem args2 {xs : Array Operand} {p q : Operand} (h : xs.toList = [p, q]) : xs = #[p, q] := by
  apply Array.ext'; simpa using h
theorem tys2 {xs : Array TypeId} {p q : TypeId} (h : xs.toList = [p, q]) : xs = #[p, q] := by
  apply Array.ext'; simpa using h

theorem op_len {c : Call} (hc : c.callee = .builtin .len) (ok : MemOK M h) (hw : w.heap = M.H) (ht : RelT M t a.tmps.toList) (hr : (aop P cf ⟨dst, .call c, type, pos, after, guard⟩ t slot).run h = some ((x, ws), rs)) :
    OpOK P ⟨dst, .call c, type, pos, after, guard⟩ a w M h slot x ws := by
  simp only [aop, hc] at hr
  split at hr
  · rename_i p hp
    replace hp := args1 hp
    replace hr := ev_inv hr; obtain ⟨b, r, hb, hr⟩ := hr
    replace hb := aev_rel ht hb
    have key : ∀ {et : TypeId} {A : Option Addr} {n cap : Nat}, c.argTypes[0]?.bind P.underlying = some (.slice et) → a.eval p = .slice A n cap → (execOp a.eval ⟨dst, .call c, type, pos, after, guard⟩).run P w = .ok (.value (.int .i64 n)) w := by
      intro et A n cap hu hv
      cases h0 : c.argTypes[0]? with
      | none => simp [h0] at hu
      | some t0 =>
        simp [h0] at hu
        simp [execOp, resolve, hc, hp, invoke, builtin, Builtin.len_, h0, run_underlying hu, hv, goInt]
    split at hr
    · rename_i et b k o n hu
      have := (HM.run_ret hr).1
      cases this
      unfold Rel at hb
      obtain ⟨A, cap, B, hv, _⟩ := hb
      exact .value ok hw ⟨_, key hu hv, by unfold Rel; rfl⟩
    · rename_i et l hu
      have := (HM.run_ret hr).1
      cases this
      unfold Rel at hb
      obtain ⟨A, cap, hv, _⟩ := hb
      exact .value ok hw ⟨_, key hu hv, by unfold Rel; rfl⟩
    · rename_i et hu
      have := (HM.run_ret hr).1
      cases this
      unfold Rel at hb
      obtain ⟨A, hv⟩ := hb
      exact .value ok hw ⟨_, key hu hv, by unfold Rel; rfl⟩
    · replace hr := out_inv hr; obtain ⟨h1, rfl⟩ := hr
      exact .value ok hw (scalar_run (by intro cs b; simp) ht h1)
  · exact (HM.run_bad hr).elim

theorem op_minmax {c : Call} (hc : c.callee = .builtin .max ∨ c.callee = .builtin .min) (ok : MemOK M h) (hw : w.heap = M.H) (ht : RelT M t a.tmps.toList) (hr : (aop P cf ⟨dst, .call c, type, pos, after, guard⟩ t slot).run h = some ((x, ws), rs)) :
    OpOK P ⟨dst, .call c, type, pos, after, guard⟩ a w M h slot x ws := by
  rcases hc with hc | hc
  all_goals
    simp only [aop, hc] at hr
    replace hr := out_inv hr; obtain ⟨h1, rfl⟩ := hr
    exact .value ok hw (scalar_run (by intro cs b; simp) ht h1)

theorem op_unOp {op : UnOp} {ty : TypeId} {y : Operand} (ok : MemOK M h) (hw : w.heap = M.H) (ht : RelT M t a.tmps.toList) (hr : (aop P cf ⟨dst, .unOp op ty y, type, pos, after, guard⟩ t slot).run h = some ((x, ws), rs)) :
    OpOK P ⟨dst, .unOp op ty y, type, pos, after, guard⟩ a w M h slot x ws := by
  replace hr := out_inv hr; obtain ⟨h1, rfl⟩ := hr
  exact .value ok hw (scalar_run (by intro cs b; simp) ht h1)
theorem op_convert {s d : TypeId} {y : Operand} (ok : MemOK M h) (hw : w.heap = M.H) (ht : RelT M t a.tmps.toList) (hr : (aop P cf ⟨dst, .convert s d y, type, pos, after, guard⟩ t slot).run h = some ((x, ws), rs)) :
    OpOK P ⟨dst, .convert s d y, type, pos, after, guard⟩ a w M h slot x ws := by
  replace hr := out_inv hr; obtain ⟨h1, rfl⟩ := hr
  exact .value ok hw (scalar_run (by intro cs b; simp) ht h1)

theorem iface_nil {ty : TypeId} {ms : Array (String × TypeId)} (hu : P.underlying ty = some (.interface ms)) (tt : TypeId) (v : Value) :
    (Op.equal ty (.iface tt v) .nilIface).run P w = .ok false w ∧ (Op.equal ty .nilIface (.iface tt v)).run P w = .ok false w := by
  constructor
  · show (Op.equalIn (9999 + 1) ty (.iface tt v) .nilIface).run P w = _
    unfold Op.equalIn
    simp only [Sem.run_bind, run_underlying hu, Result.andThen_ok, Sem.run_pure]
  · show (Op.equalIn (9999 + 1) ty .nilIface (.iface tt v)).run P w = _
    unfold Op.equalIn
    simp only [Sem.run_bind, run_underlying hu, Result.andThen_ok, Sem.run_pure]
theorem op_binOp {op : BinOp} {ty yt : TypeId} {y z : Operand} (ok : MemOK M h) (hw : w.heap = M.H) (ht : RelT M t a.tmps.toList) (hr : (aop P cf ⟨dst, .binOp op ty y z yt, type, pos, after, guard⟩ t slot).run h = some ((x, ws), rs)) :
    OpOK P ⟨dst, .binOp op ty y z yt, type, pos, after, guard⟩ a w M h slot x ws := by
  replace hr := ev_inv hr; obtain ⟨b, r, hb, hr⟩ := hr
  replace hb := aev_rel ht hb
  replace hr := ev_inv hr; obtain ⟨c, r, hc, hr⟩ := hr
  replace hc := aev_rel ht hc
  split at hr
  all_goals first
    | (rename_i hu
       have := (HM.run_ret hr).1
       cases this
       unfold Rel at hb hc
       first
         | (obtain ⟨v, hv, _⟩ := hb
            exact .value ok hw ⟨_, by simp [execOp, eqGuard, binOp, hv, hc, (iface_nil (w := w) hu _ _).1]; rfl, by unfold Rel; rfl⟩)
         | (obtain ⟨v, hv, _⟩ := hc
            exact .value ok hw ⟨_, by simp [execOp, eqGuard, binOp, hv, hb, (iface_nil (w := w) hu _ _).2]; rfl, by unfold Rel; rfl⟩))
    | (replace hr := out_inv hr; obtain ⟨h1, rfl⟩ := hr
       exact .value ok hw (scalar_run (by intro cs b; simp) ht h1))
end
end Go.Proofs.YtjhekjhbjaengaaGreatDoor.Ev
