/- Each operation of the evaluator is the model's: those that read, and those that make or write a variable. -/
import Derived.Test.YtjhekjhbjaengaaGreatDoorEvO
namespace Go.Proofs.YtjhekjhbjaengaaGreatDoor.Ev
open Go Go.RowKit

section
variable {P : Program} {M : Mem} {h : Heap} {w : World} {a : Act} {t : List AV} {slot : Nat} {x : AV} {ws : Ws} {rs : List Nat} {dst : Option Tmp} {type : TypeId} {pos : String} {after : Array Edge} {guard : Option (Nat × Bool)}
  {cf : FuncId → List AV → HM (AV × Ws)}

theorem out_inv {q : Option AV} (h1 : ((HM.ofOption q).bind fun r => HM.ret (r, ([] : Ws))).run h = some ((x, ws), rs)) : q = some x ∧ ws = [] := by
  obtain ⟨y, r, r', h2, h3, _⟩ := HM.run_bind h1
  have h4 := (HM.run_ofOption h2).1
  have h5 := (HM.run_ret h3).1
  cases h5
  exact ⟨h4, rfl⟩
theorem ev_inv {q : Option AV} {f : AV → HM (AV × Ws)} {y : AV × Ws} (h1 : ((HM.ofOption q).bind f).run h = some (y, rs)) : ∃ z r, q = some z ∧ (f z).run h = some (y, r) := by
  obtain ⟨z, r, r', h2, h3, _⟩ := HM.run_bind h1
  exact ⟨z, r', (HM.run_ofOption h2).1, h3⟩
theorem evl_inv {β : Type} {q : Option β} {f : β → HM (AV × Ws)} {y : AV × Ws} (h1 : ((HM.ofOption q).bind f).run h = some (y, rs)) : ∃ z r, q = some z ∧ (f z).run h = some (y, r) := by
  obtain ⟨z, r, r', h2, h3, _⟩ := HM.run_bind h1
  exact ⟨z, r', (HM.run_ofOption h2).1, h3⟩

theorem op_move {y : Operand} (ok : MemOK M h) (hw : w.heap = M.H) (ht : RelT M t a.tmps.toList) (hr : (aop P cf ⟨dst, .move y, type, pos, after, guard⟩ t slot).run h = some ((x, ws), rs)) :
    OpOK P ⟨dst, .move y, type, pos, after, guard⟩ a w M h slot x ws := by
  obtain ⟨h1, rfl⟩ := out_inv hr
  exact .value ok hw ⟨_, rfl, aev_rel ht h1⟩
theorem op_assign {y : Operand} (ok : MemOK M h) (hw : w.heap = M.H) (ht : RelT M t a.tmps.toList) (hr : (aop P cf ⟨dst, .assign y, type, pos, after, guard⟩ t slot).run h = some ((x, ws), rs)) :
    OpOK P ⟨dst, .assign y, type, pos, after, guard⟩ a w M h slot x ws := by
  obtain ⟨h1, rfl⟩ := out_inv hr
  exact .value ok hw ⟨_, rfl, aev_rel ht h1⟩
theorem op_pick {c y z : Operand} (ok : MemOK M h) (hw : w.heap = M.H) (ht : RelT M t a.tmps.toList) (hr : (aop P cf ⟨dst, .pick c y z, type, pos, after, guard⟩ t slot).run h = some ((x, ws), rs)) :
    OpOK P ⟨dst, .pick c y z, type, pos, after, guard⟩ a w M h slot x ws := by
  obtain ⟨b, r, hb, hr⟩ := ev_inv hr
  replace hb := aev_rel ht hb
  split at hr
  · obtain ⟨h1, rfl⟩ := out_inv hr
    unfold Rel at hb
    exact .value ok hw ⟨a.eval y, by simp [execOp, hb, asBool], aev_rel ht h1⟩
  · obtain ⟨h1, rfl⟩ := out_inv hr
    unfold Rel at hb
    exact .value ok hw ⟨a.eval z, by simp [execOp, hb, asBool], aev_rel ht h1⟩
  · exact (HM.run_bad hr).elim
theorem op_extract {y : Operand} {i : Nat} (ok : MemOK M h) (hw : w.heap = M.H) (ht : RelT M t a.tmps.toList) (hr : (aop P cf ⟨dst, .extract y i, type, pos, after, guard⟩ t slot).run h = some ((x, ws), rs)) :
    OpOK P ⟨dst, .extract y i, type, pos, after, guard⟩ a w M h slot x ws := by
  obtain ⟨b, r, hb, hr⟩ := ev_inv hr
  replace hb := aev_rel ht hb
  split at hr
  · obtain ⟨h1, rfl⟩ := out_inv hr
    unfold Rel at hb
    obtain ⟨cs, hc, hl⟩ := hb
    obtain ⟨c, hc1, hc2⟩ := hl.get h1
    have hc3 : cs[i]? = some c := by simpa using hc1
    exact .value ok hw ⟨c, by simp [execOp, hc, Instr.extract, hc3], hc2⟩
  · exact (HM.run_bad hr).elim
theorem op_nilCheck {y : Operand} (ok : MemOK M h) (hw : w.heap = M.H) (ht : RelT M t a.tmps.toList) (hr : (aop P cf ⟨dst, .nilCheck y, type, pos, after, guard⟩ t slot).run h = some ((x, ws), rs)) :
    OpOK P ⟨dst, .nilCheck y, type, pos, after, guard⟩ a w M h slot x ws := by
  obtain ⟨b, r, hb, hr⟩ := ev_inv hr
  replace hb := aev_rel ht hb
  split at hr
  · have := (HM.run_ret hr).1
    cases this
    refine .value ok hw ⟨a.eval y, ?_, hb⟩
    unfold Rel at hb
    obtain ⟨B, hb1, _⟩ := hb
    simp [execOp, hb1]
  · have := (HM.run_ret hr).1
    cases this
    refine .value ok hw ⟨a.eval y, ?_, hb⟩
    unfold Rel at hb
    obtain ⟨B, o, hb1, _⟩ := hb
    simp [execOp, hb1]
  · exact (HM.run_bad hr).elim
theorem op_makeInterface {ty : TypeId} {y : Operand} (ok : MemOK M h) (hw : w.heap = M.H) (ht : RelT M t a.tmps.toList) (hr : (aop P cf ⟨dst, .makeInterface ty y, type, pos, after, guard⟩ t slot).run h = some ((x, ws), rs)) :
    OpOK P ⟨dst, .makeInterface ty y, type, pos, after, guard⟩ a w M h slot x ws := by
  obtain ⟨b, r, hb, hr⟩ := ev_inv hr
  replace hb := aev_rel ht hb
  split at hr
  · exact (HM.run_bad hr).elim
  · rename_i d hni hd
    have := (HM.run_ret hr).1
    cases this
    refine .value ok hw ⟨.iface ty (a.eval y), ?_, by unfold Rel; exact ⟨_, rfl, hb⟩⟩
    simp only [execOp, Instr.makeInterface, Sem.run_bind, run_underlying hd, Result.andThen_ok]
    simp
  · exact (HM.run_bad hr).elim
theorem op_makeFunc {f : FuncId} {first cap : Array Operand} (ok : MemOK M h) (hw : w.heap = M.H) (ht : RelT M t a.tmps.toList) (hr : (aop P cf ⟨dst, .makeFunc (.func f) first cap, type, pos, after, guard⟩ t slot).run h = some ((x, ws), rs)) :
    OpOK P ⟨dst, .makeFunc (.func f) first cap, type, pos, after, guard⟩ a w M h slot x ws := by
  simp only [aop] at hr
  split at hr
  · rename_i h0
    obtain ⟨c, r, hc, hr⟩ := evl_inv hr
    have := (HM.run_ret hr).1
    cases this
    refine .value ok hw ⟨.func (.func f) #[] (cap.map a.eval), ?_, ?_⟩
    · have : first = #[] := Array.eq_empty_of_size_eq_zero h0
      simp [execOp, Instr.makeFunc, this]
    · unfold Rel
      exact ⟨_, rfl, by simpa using evs_rel (ht := ht) hc⟩
  · exact (HM.run_bad hr).elim

theorem cells_rel {y : AV} {u : Value} {c : List AV} (hb : Rel M y u) (hc : y.cells? = some c) : RelC M c u.cells.toList := by
  cases y <;> simp [AV.cells?] at hc
  case agg l =>
    subst hc
    unfold Rel at hb
    obtain ⟨cs, rfl, h⟩ := hb
    exact h
  all_goals
    obtain ⟨hf, rfl⟩ := hc
    have hcell : u.cells.toList = [u] := by
      first
        | (unfold Rel at hb; subst hb; cases u <;> simp [AV.flat, Value.oneCell'] at hf <;> rfl)
        | (unfold Rel at hb; obtain ⟨_, _, rfl, _⟩ := hb; rfl)
        | (unfold Rel at hb; obtain ⟨_, _, _, rfl, _⟩ := hb; rfl)
        | (unfold Rel at hb; obtain ⟨_, rfl, _⟩ := hb; rfl)
        | (unfold Rel at hb; obtain ⟨_, rfl⟩ := hb; rfl)
        | (simp [AV.flat] at hf)
    rw [hcell]
    exact .cons hf hb .nil

theorem getNone {h : Heap} {slot : Nat} (hs : slot < h.length) (hsn : h[slot]? = some none) : ∀ (b : Nat) (y : Blk), h[b]? = some (some y) → b ≠ slot := fun b y hb e => by
  subst e; rw [hsn] at hb; cases hb

/-- A new variable. -/
theorem OpOK.fresh {o : Oper} {z : List AV} {u : Value} {ty : TypeId} (ok : MemOK M h) (hw : w.heap = M.H) (hs : slot < h.length) (hμ : M.μ slot = none)
    (hz : RelC M z u.cells.toList) (he : (execOp a.eval o).run P w = .ok (.value (.pointer (some ⟨w.heap.size, 0, none⟩))) { w with heap := w.heap.push (.cells u.cells ty) }) :
    OpOK P o a w M h slot (.ptr slot z.length 0 0) (newBlk slot z.length [z]) := by
  intro next Q hn
  unfold Oper.wp
  rw [he, Oper.upon_value]
  have hr : RelR M [z] z.length u.cells.toList := .cons rfl (by rw [List.take_of_length_le (by rw [hz.length]; omega)]; exact hz) .nil
  obtain ⟨h1, h2, h3⟩ := ok.new (h0 := h) rfl (fun _ _ h => h) (arr := u.cells) ty hs hμ hr
  refine hn _ _ _ ?_ h2 h3 (fun b hb hm => by show (if b = slot then _ else M.μ b) = none; rw [if_neg hb, hm]) (by simp [hw]) ⟨rfl, rfl, rfl⟩
  unfold Rel
  exact ⟨M.H.size, by simp [hw], by simp⟩
theorem op_alloc {ty : TypeId} (ok : MemOK M h) (hw : w.heap = M.H) (hs : slot < h.length) (hμ : M.μ slot = none) (hr : (aop P cf ⟨dst, .alloc ty, type, pos, after, guard⟩ t slot).run h = some ((x, ws), rs)) :
    OpOK P ⟨dst, .alloc ty, type, pos, after, guard⟩ a w M h slot x ws := by
  simp only [aop] at hr
  split at hr
  · rename_i z hz
    have := (HM.run_ret hr).1
    cases this
    obtain ⟨zv, h1, h2⟩ := zcells_run hz w
    refine .fresh (ty := ty) ok hw hs hμ (h2 M) ?_
    simp [execOp, Instr.alloc, h1, newVar, newRow]
  · exact (HM.run_bad hr).elim
theorem op_box {ty : TypeId} {y : Operand} (ok : MemOK M h) (hw : w.heap = M.H) (ht : RelT M t a.tmps.toList) (hs : slot < h.length) (hμ : M.μ slot = none) (hr : (aop P cf ⟨dst, .box ty y, type, pos, after, guard⟩ t slot).run h = some ((x, ws), rs)) :
    OpOK P ⟨dst, .box ty y, type, pos, after, guard⟩ a w M h slot x ws := by
  obtain ⟨b, r, hb, hr⟩ := ev_inv hr
  replace hb := aev_rel ht hb
  obtain ⟨z, r, hz, hr⟩ := evl_inv hr
  have := (HM.run_ret hr).1
  cases this
  refine .fresh (ty := ty) ok hw hs hμ (cells_rel hb hz) ?_
  simp [execOp, Instr.box, newVar, newRow]

/-- A live block. -/
theorem liveCells {b B : Nat} {blk : Blk} (ok : MemOK M h) (hb : h[b]? = some (some blk)) (hB : M.μ b = some B) : RelR M blk.els blk.k (cellsAt M.H B) ∧ (blk.rw = true ↔ ¬ M.F B) ∧ ∃ arr ty, M.H[B]? = some (.cells arr ty (0, 0)) ∧ cellsAt M.H B = arr.toList := by
  obtain ⟨B', arr, ty, h1, h2, h3, h4⟩ := ok.live b blk hb
  rw [hB] at h1
  cases h1
  have : cellsAt M.H B = arr.toList := by simp [cellsAt, h2]
  exact ⟨by rw [this]; exact h3, h4, arr, ty, h2, this⟩

theorem op_load {ty : TypeId} {y : Operand} (ok : MemOK M h) (hw : w.heap = M.H) (ht : RelT M t a.tmps.toList) (hr : (aop P cf ⟨dst, .load ty y, type, pos, after, guard⟩ t slot).run h = some ((x, ws), rs)) :
    OpOK P ⟨dst, .load ty y, type, pos, after, guard⟩ a w M h slot x ws := by
  obtain ⟨b, r, hb, hr⟩ := ev_inv hr
  replace hb := aev_rel ht hb
  split at hr
  · rename_i b k i j
    obtain ⟨blk, r, hblk, hr, _⟩ := HM.run_get hr
    split at hr
    · rename_i e he
      split at hr
      · rename_i hk
        obtain ⟨h1, rfl⟩ := out_inv hr
        unfold Rel at hb
        obtain ⟨B, hu, hB⟩ := hb
        obtain ⟨hR, _⟩ := liveCells ok hblk hB
        have hR2 := hR.get he
        rw [hk] at hR2
        obtain ⟨u, h2, h3⟩ := cut_run (P := P) (w := w) (B := B) (o := i * k) hw (by rw [hR2.1]; exact hR2.2) h1
        exact .value ok hw ⟨u, by simp [execOp, Instr.loadAt, hu, Instr.sureAddr, h2], h3⟩
      · exact (HM.run_bad hr).elim
    · exact (HM.run_bad hr).elim
  · rename_i l j
    obtain ⟨h1, rfl⟩ := out_inv hr
    unfold Rel at hb
    obtain ⟨B, o, hu, hB, hR⟩ := hb
    obtain ⟨u, h2, h3⟩ := cut_run (P := P) (w := w) (M := M.bare) (B := B) (o := o) hw hR h1
    exact .value ok hw ⟨u, by simp [execOp, Instr.loadAt, hu, Instr.sureAddr, h2], h3.mono (Keeps.ofBare M)⟩
  · exact (HM.run_bad hr).elim
end
end Go.Proofs.YtjhekjhbjaengaaGreatDoor.Ev
