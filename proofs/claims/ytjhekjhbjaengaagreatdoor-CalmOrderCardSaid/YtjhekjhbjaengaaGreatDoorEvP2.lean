/- Each operation of the evaluator is the model's: stores, fields, elements, slices of slices. -/
import Derived.Test.YtjhekjhbjaengaaGreatDoorEvP
namespace Go.Proofs.YtjhekjhbjaengaaGreatDoor.Ev
open Go Go.RowKit

theorem splice_get {α : Type} {cs vs : List α} {p : Nat} (hp : p + vs.length ≤ cs.length) (n : Nat) :
    (cs.take p ++ vs ++ cs.drop (p + vs.length))[n]? = if p ≤ n ∧ n < p + vs.length then vs[n - p]? else cs[n]? := by
  have hl : (cs.take p).length = p := by simp; omega
  by_cases h1 : n < p
  · rw [List.append_assoc, List.getElem?_append_left (by omega), List.getElem?_take, if_pos h1, if_neg (by omega)]
  · by_cases h2 : n < p + vs.length
    · rw [List.append_assoc, List.getElem?_append_right (by omega), hl, List.getElem?_append_left (by omega), if_pos (by omega)]
    · rw [List.getElem?_append_right (by simp; omega), List.getElem?_drop, if_neg (by omega)]
      congr 1
      simp
      omega
theorem splice_length {α : Type} {cs vs : List α} {p : Nat} (hp : p + vs.length ≤ cs.length) : (cs.take p ++ vs ++ cs.drop (p + vs.length)).length = cs.length := by
  simp; omega

theorem RelR.of_get {M : Mem} : ∀ {l : List (List AV)} {k : Nat} {cs : List Value}, (∀ i e, l[i]? = some e → e.length = k ∧ RelC M e ((cs.drop (i * k)).take k)) → RelR M l k cs
  | [], _, _, _ => .nil
  | e :: l, k, cs, h => by
    have h0 := h 0 e rfl
    refine .cons h0.1 (by simpa using h0.2) (RelR.of_get fun i e' he => ?_)
    have := h (i + 1) e' (by simpa using he)
    simpa [Nat.add_mul, Nat.add_comm] using this

section
variable {P : Program} {M : Mem} {h : Heap} {w : World} {a : Act} {t : List AV} {slot : Nat} {x : AV} {ws : Ws} {rs : List Nat} {dst : Option Tmp} {type : TypeId} {pos : String} {after : Array Edge} {guard : Option (Nat × Bool)}
  {cf : FuncId → List AV → HM (AV × Ws)}

/-- Part of one element is written. -/
theorem RelR.splice {els : List (List AV)} {k i j : Nat} {e c : List AV} {cs vs : List Value} (hR : RelR M els k cs) (he : els[i]? = some e) (hj : j + c.length ≤ e.length) (hc : RelC M c vs) :
    i * k + j + vs.length ≤ cs.length ∧ RelR M (els.set i (e.take j ++ c ++ e.drop (j + c.length))) k (cs.take (i * k + j) ++ vs ++ cs.drop (i * k + j + vs.length)) := by
  have hvl := hc.length
  have hg := hR.get he
  have hil : i < els.length := (List.getElem?_eq_some_iff.1 he).1
  have hlen : i * k + k ≤ cs.length := by
    have := hR.length
    have h2 : (i + 1) * k ≤ els.length * k := Nat.mul_le_mul_right k hil
    rw [Nat.add_mul] at h2
    omega
  have hp : i * k + j + vs.length ≤ cs.length := by omega
  refine ⟨hp, RelR.of_get fun i' e' he' => ?_⟩
  by_cases hii : i' = i
  · subst hii
    rw [List.getElem?_set_self hil] at he'
    cases he'
    refine ⟨by simp; omega, ?_⟩
    have hr1 := ((hg.2.take j).append hc).append (hg.2.drop (j + c.length))
    have : ((cs.take (i' * k + j) ++ vs ++ cs.drop (i' * k + j + vs.length)).drop (i' * k)).take k = ((cs.drop (i' * k)).take k).take j ++ vs ++ ((cs.drop (i' * k)).take k).drop (j + c.length) := by
      apply List.ext_getElem?
      intro n
      have hs := splice_get (cs := (cs.drop (i' * k)).take k) (vs := vs) (p := j) (by simp; omega) n
      rw [hvl] at hs
      rw [hs, List.getElem?_take]
      by_cases hn : n < k
      · rw [if_pos hn, List.getElem?_drop, splice_get hp]
        by_cases hc1 : j ≤ n ∧ n < j + c.length
        · rw [if_pos (by omega), if_pos hc1]
          congr 1
          omega
        · rw [if_neg (by omega), if_neg hc1, List.getElem?_take, if_pos hn, List.getElem?_drop]
      · rw [if_neg hn, if_neg (by omega), List.getElem?_take, if_neg hn]
    rw [this]
    exact hr1
  · rw [List.getElem?_set_ne (fun e => hii e.symm)] at he'
    have hg' := hR.get he'
    refine ⟨hg'.1, ?_⟩
    have : ((cs.take (i * k + j) ++ vs ++ cs.drop (i * k + j + vs.length)).drop (i' * k)).take k = (cs.drop (i' * k)).take k := by
      apply List.ext_getElem?
      intro n
      rw [List.getElem?_take, List.getElem?_take]
      split
      · rw [List.getElem?_drop, List.getElem?_drop, splice_get hp, if_neg]
        rintro ⟨h1, h2⟩
        rcases Nat.lt_or_gt_of_ne hii with h3 | h3
        · have := Nat.mul_le_mul_right k (show i' + 1 ≤ i from h3)
          rw [Nat.add_mul] at this
          omega
        · have := Nat.mul_le_mul_right k (show i + 1 ≤ i' from h3)
          rw [Nat.add_mul] at this
          omega
      · rfl
    rw [this]
    exact hg'.2

/-- A block of the activation's own is written, its size kept. -/
theorem MemOK.store {b B : Nat} {blk : Blk} {els : List (List AV)} {cs : List Value} (ok : MemOK M h) (hw : w.heap = M.H) (hb : h[b]? = some (some blk)) (hrw : blk.rw = true) (hB : M.μ b = some B)
    (hl : cs.length = (cellsAt M.H B).length) (hr : RelR M els blk.k cs) :
    Keeps M ⟨M.F, (w.setRow B cs.toArray).heap, fun b' => if b' = b then some B else M.μ b'⟩ ∧ MemOK ⟨M.F, (w.setRow B cs.toArray).heap, fun b' => if b' = b then some B else M.μ b'⟩ (h.set b (some { blk with els := els })) ∧
      Fr M h ⟨M.F, (w.setRow B cs.toArray).heap, fun b' => if b' = b then some B else M.μ b'⟩ (h.set b (some { blk with els := els })) := by
  obtain ⟨_, hF, arr, ty, hH, harr⟩ := liveCells ok hb hB
  have hbl : b < h.length := (List.getElem?_eq_some_iff.1 hb).1
  have hoth : ∀ j, j ≠ B → (w.setRow B cs.toArray).heap[j]? = M.H[j]? := fun j hj => by rw [setRow_other w B j _ hj, hw]
  have hsz : M.H.size ≤ (w.setRow B cs.toArray).heap.size := by simp [hw]
  have hcell : (w.setRow B cs.toArray).heap[B]? = some (.cells cs.toArray ty (0, 0)) := setRow_heap w B arr _ ty (0, 0) (by rw [hw]; exact hH)
  have h1 := ok.write (slot := b) (B := B) (k := blk.k) (els := els) (H' := (w.setRow B cs.toArray).heap) (arr := cs.toArray) (ty := ty) hbl (.inr hB) (hF.1 hrw)
    (fun b' y hne hy hm => hne (ok.inj b' b y blk B hy hb hm hB)) hcell hoth hsz (fun _ _ => by simpa using hl) (by simpa using hr)
  have h2 := Fr.write (k := blk.k) (els := els) (h0 := h) (h := h) rfl (fun _ _ h => h) h1.1 hoth hsz (.inl ⟨b, blk, hb, hrw, hB⟩)
  have e : ({ blk with els := els } : Blk) = ⟨blk.k, true, els⟩ := by rw [← hrw]
  rw [e]
  exact ⟨h1.1, h1.2, h2⟩

theorem op_store {ty : TypeId} {y z : Operand} (ok : MemOK M h) (hw : w.heap = M.H) (ht : RelT M t a.tmps.toList) (hr : (aop P cf ⟨dst, .store ty y z, type, pos, after, guard⟩ t slot).run h = some ((x, ws), rs)) :
    OpOK P ⟨dst, .store ty y z, type, pos, after, guard⟩ a w M h slot x ws := by
  replace hr := ev_inv hr; obtain ⟨b, r, hb, hr⟩ := hr
  replace hb := aev_rel ht hb
  split at hr
  · rename_i b k i j
    replace hr := ev_inv hr; obtain ⟨v, r, hv, hr⟩ := hr
    replace hv := aev_rel ht hv
    replace hr := evl_inv hr; obtain ⟨c, r, hc, hr⟩ := hr
    replace hc := cells_rel hv hc
    replace hr := HM.run_get hr; obtain ⟨blk, r, hblk, hr, _⟩ := hr
    split at hr
    · rename_i e n he hn
      split at hr
      · rename_i hcond
        obtain ⟨hk, hrw, hcn, hj⟩ := hcond
        have := (HM.run_ret hr).1
        cases this
        unfold Rel at hb
        obtain ⟨B, hu, hB⟩ := hb
        obtain ⟨hR, hF, arr, ty', hH, harr⟩ := liveCells ok hblk hB
        have hsp := hR.splice he (by rw [hcn]; exact hj) hc
        have hvl := hc.length
        have hst := run_storeCells_at P B (blk.k * 0 + (i * blk.k + j)) ty' (a.eval z).cells.toList 0 arr w (by rw [hw]; exact hH) (by rw [harr] at hsp; simpa using hsp.1) hc.cell1
        simp only [Nat.mul_zero, Nat.zero_add, Nat.add_zero] at hst
        obtain ⟨h1, h2, h3⟩ := ok.store hw hblk hrw hB (splice_length hsp.1) hsp.2
        intro next Q hN
        unfold Oper.wp
        have hrun : (execOp a.eval ⟨dst, .store ty y z, type, pos, after, guard⟩).run P w = .ok .skip (w.setRow B ((cellsAt M.H B).take (i * blk.k + j) ++ (a.eval z).cells.toList ++ (cellsAt M.H B).drop (i * blk.k + j + (a.eval z).cells.toList.length)).toArray) := by
          have hsz : (a.eval z).cells.size = n := by have := hc.length; simp at this; omega
          rw [harr]
          simp only [execOp, Instr.storeAt, hu, Instr.sureAddr, Sem.run_bind, Sem.run_pure, Result.andThen_ok, storeVar, tsize_run hn, hsz, ne_eq, not_true_eq_false, if_false]
          rw [← hk, hst]
          rfl
        rw [hrun, Oper.upon_skip]
        refine hN undef _ ⟨M.F, (w.setRow B ((cellsAt M.H B).take (i * blk.k + j) ++ (a.eval z).cells.toList ++ (cellsAt M.H B).drop (i * blk.k + j + (a.eval z).cells.toList.length)).toArray).heap, fun b' => if b' = b then some B else M.μ b'⟩ (by unfold Rel; rfl) ?_ ?_ (fun b' hb' hm => ?_) rfl ⟨rfl, rfl, rfl⟩
        · rw [hcn] at h2
          exact h2
        · rw [hcn] at h3
          exact h3
        · show (if b' = b then some B else M.μ b') = none
          split
          · rename_i e'
            rw [e', hB] at hm
            cases hm
          · exact hm
      · exact (HM.run_bad hr).elim
    · exact (HM.run_bad hr).elim
  · exact (HM.run_bad hr).elim

theorem fieldOf_run {s : TypeId} {f off : Nat} {ft : TypeId} (hf : fieldOf P s f = some (off, ft)) : ∃ fs fd, P.underlying s = some (.struct fs) ∧ fs[f]? = some fd ∧ fd.offset = off ∧ fd.type = ft := by
  unfold fieldOf at hf
  split at hf
  · rename_i fs hu
    cases h1 : fs[f]? with
    | none => simp [h1] at hf
    | some fd =>
      simp [h1] at hf
      exact ⟨fs, fd, hu, h1, hf.1, hf.2⟩
  · cases hf
theorem op_fieldAddr {s : TypeId} {y : Operand} {f : Nat} (ok : MemOK M h) (hw : w.heap = M.H) (ht : RelT M t a.tmps.toList) (hr : (aop P cf ⟨dst, .fieldAddr s y f, type, pos, after, guard⟩ t slot).run h = some ((x, ws), rs)) :
    OpOK P ⟨dst, .fieldAddr s y f, type, pos, after, guard⟩ a w M h slot x ws := by
  replace hr := ev_inv hr; obtain ⟨b, r, hb, hr⟩ := hr
  replace hb := aev_rel ht hb
  split at hr
  · exact (HM.run_bad hr).elim
  · rename_i off ft hf
    obtain ⟨fs, fd, hu, hfd, rfl, rfl⟩ := fieldOf_run hf
    split at hr
    · rename_i n b k i j hn
      have := (HM.run_ret hr).1
      cases this
      unfold Rel at hb
      obtain ⟨B, hv, hB⟩ := hb
      refine .value ok hw ⟨.pointer (some ⟨B, i * k + (j + fd.offset), none⟩), ?_, by unfold Rel; exact ⟨B, rfl, hB⟩⟩
      simp [execOp, Instr.fieldAt, run_underlying hu, hfd, hv, Instr.sureAddr, fieldPlace, tsize_run hn, addr_add, Nat.add_assoc]
    · rename_i n l j hn
      have := (HM.run_ret hr).1
      cases this
      unfold Rel at hb
      obtain ⟨B, o, hv, hB, hR⟩ := hb
      refine .value ok hw ⟨.pointer (some ⟨B, o + (j + fd.offset), none⟩), ?_, by unfold Rel; exact ⟨B, o, rfl, hB, hR⟩⟩
      simp [execOp, Instr.fieldAt, run_underlying hu, hfd, hv, Instr.sureAddr, fieldPlace, tsize_run hn, addr_add, Nat.add_assoc]
    · exact (HM.run_bad hr).elim
theorem op_field {s : TypeId} {y : Operand} {f : Nat} (ok : MemOK M h) (hw : w.heap = M.H) (ht : RelT M t a.tmps.toList) (hr : (aop P cf ⟨dst, .field s y f, type, pos, after, guard⟩ t slot).run h = some ((x, ws), rs)) :
    OpOK P ⟨dst, .field s y f, type, pos, after, guard⟩ a w M h slot x ws := by
  replace hr := ev_inv hr; obtain ⟨b, r, hb, hr⟩ := hr
  replace hb := aev_rel ht hb
  split at hr
  · rename_i off ft l hf
    obtain ⟨fs, fd, hu, hfd, rfl, rfl⟩ := fieldOf_run hf
    obtain ⟨h1, rfl⟩ := out_inv hr
    unfold Rel at hb
    obtain ⟨cs, hv, hR⟩ := hb
    obtain ⟨u, h2, h3⟩ := part_run (P := P) (w := w) hR h1
    exact .value ok hw ⟨u, by simp [execOp, Instr.field, run_underlying hu, hfd, hv, asAgg, h2], h3⟩
  · exact (HM.run_bad hr).elim
theorem asNat_run {y : AV} {u : Value} {n : Nat} (hb : Rel M y u) (hn : asNat y = some n) : ∃ k, u = .int k n := by
  unfold asNat at hn
  split at hn
  · rename_i k i
    split at hn
    · rename_i h0
      cases hn
      unfold Rel at hb
      exact ⟨k, by rw [hb, Int.toNat_of_nonneg h0]⟩
    · cases hn
  · cases hn
theorem op_indexAddr {ty : TypeId} {y ix : Operand} (ok : MemOK M h) (hw : w.heap = M.H) (ht : RelT M t a.tmps.toList) (hr : (aop P cf ⟨dst, .indexAddr ty y ix, type, pos, after, guard⟩ t slot).run h = some ((x, ws), rs)) :
    OpOK P ⟨dst, .indexAddr ty y ix, type, pos, after, guard⟩ a w M h slot x ws := by
  replace hr := ev_inv hr; obtain ⟨b, r, hb, hr⟩ := hr
  replace hb := aev_rel ht hb
  replace hr := ev_inv hr; obtain ⟨c, r, hc, hr⟩ := hr
  replace hc := aev_rel ht hc
  split at hr
  · rename_i i et hi hu
    obtain ⟨ik, hix⟩ := asNat_run hc hi
    split at hr
    · exact (HM.run_bad hr).elim
    · rename_i n hn
      split at hr
      · exact (HM.run_bad hr).elim
      · rename_i hn0
        split at hr
        · rename_i b k off len
          split at hr
          · rename_i hcond
            obtain ⟨rfl, hlt⟩ := hcond
            have := (HM.run_ret hr).1
            cases this
            unfold Rel at hb
            obtain ⟨A, cap, B, hv, hlc, hB, hA, _⟩ := hb
            have hA' := hA (by omega)
            subst hA'
            refine .value ok hw ⟨.pointer (some ⟨B, (off + i) * k + 0, none⟩), ?_, by unfold Rel; exact ⟨B, rfl, hB⟩⟩
            simp [execOp, Instr.indexAt, hix, asIntOf, run_underlying hu, hv, tsize_run hn, addr_add, hlt, Nat.add_mul]
          · exact (HM.run_bad hr).elim
        · rename_i l
          split at hr
          · rename_i e he
            split at hr
            · rename_i hel
              have := (HM.run_ret hr).1
              cases this
              unfold Rel at hb
              obtain ⟨A, cap, hv, hlc, hA⟩ := hb
              have hil : i < l.length := (List.getElem?_eq_some_iff.1 he).1
              rcases hA with rfl | ⟨B, o, k, rfl, hF, hR⟩
              · simp at hil
              · have hg := hR.get he
                have hk : k = n := by rw [← hel, hg.1]
                subst hk
                refine .value ok hw ⟨.pointer (some ⟨B, (o + i * k) + 0, none⟩), ?_, ?_⟩
                · simp [execOp, Instr.indexAt, hix, asIntOf, run_underlying hu, hv, tsize_run hn, addr_add, hil]
                · unfold Rel
                  refine ⟨B, o + i * k, rfl, hF, ?_⟩
                  rw [hel]
                  simpa [List.drop_drop] using hg.2
            · exact (HM.run_bad hr).elim
          · exact (HM.run_bad hr).elim
        · exact (HM.run_bad hr).elim
  · rename_i i m et hi hu
    obtain ⟨ik, hix⟩ := asNat_run hc hi
    split at hr
    · exact (HM.run_bad hr).elim
    · rename_i n hn
      split at hr
      · rename_i hcond
        obtain ⟨him, hn0⟩ := hcond
        split at hr
        · rename_i b k q j
          have := (HM.run_ret hr).1
          cases this
          unfold Rel at hb
          obtain ⟨B, hv, hB⟩ := hb
          refine .value ok hw ⟨.pointer (some ⟨B, q * k + (j + i * n), none⟩), ?_, by unfold Rel; exact ⟨B, rfl, hB⟩⟩
          simp [execOp, Instr.indexAt, hix, asIntOf, run_underlying hu, hv, Instr.sureAddr, tsize_run hn, addr_add, him, Nat.add_assoc]
        · rename_i l j
          have := (HM.run_ret hr).1
          cases this
          unfold Rel at hb
          obtain ⟨B, o, hv, hB, hR⟩ := hb
          refine .value ok hw ⟨.pointer (some ⟨B, o + (j + i * n), none⟩), ?_, by unfold Rel; exact ⟨B, o, rfl, hB, hR⟩⟩
          simp [execOp, Instr.indexAt, hix, asIntOf, run_underlying hu, hv, Instr.sureAddr, tsize_run hn, addr_add, him, Nat.add_assoc]
        · exact (HM.run_bad hr).elim
      · exact (HM.run_bad hr).elim
  · exact (HM.run_bad hr).elim
theorem op_index {ty : TypeId} {y ix : Operand} (ok : MemOK M h) (hw : w.heap = M.H) (ht : RelT M t a.tmps.toList) (hr : (aop P cf ⟨dst, .index ty y ix, type, pos, after, guard⟩ t slot).run h = some ((x, ws), rs)) :
    OpOK P ⟨dst, .index ty y ix, type, pos, after, guard⟩ a w M h slot x ws := by
  replace hr := ev_inv hr; obtain ⟨b, r, hb, hr⟩ := hr
  replace hb := aev_rel ht hb
  replace hr := ev_inv hr; obtain ⟨c, r, hc, hr⟩ := hr
  replace hc := aev_rel ht hc
  split at hr
  · rename_i i m et l hi hu
    obtain ⟨ik, hix⟩ := asNat_run hc hi
    split at hr
    · rename_i n hn
      split at hr
      · rename_i him
        obtain ⟨h1, rfl⟩ := out_inv hr
        unfold Rel at hb
        obtain ⟨cs, hv, hR⟩ := hb
        obtain ⟨u, h2, h3⟩ := part_run (P := P) (w := w) hR h1
        exact .value ok hw ⟨u, by simp [execOp, Instr.index, hix, asIntOf, run_underlying hu, hv, tsize_run hn, him, h2], h3⟩
      · exact (HM.run_bad hr).elim
    · exact (HM.run_bad hr).elim
  · obtain ⟨h1, rfl⟩ := out_inv hr
    exact .value ok hw (scalar_run (by intro cs b; simp) ht h1)
end
end Go.Proofs.YtjhekjhbjaengaaGreatDoor.Ev
