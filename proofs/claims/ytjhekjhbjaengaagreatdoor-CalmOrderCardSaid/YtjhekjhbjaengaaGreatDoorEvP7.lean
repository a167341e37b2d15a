/- Each operation of the evaluator is the model's: append and copy. -/
import Derived.Test.YtjhekjhbjaengaaGreatDoorEvP6
namespace Go.Proofs.YtjhekjhbjaengaaGreatDoor.Ev
open Go Go.RowKit

section
variable {P : Program} {M : Mem} {h : Heap} {w : World} {a : Act} {t : List AV} {slot : Nat} {x : AV} {ws : Ws} {rs : List Nat} {dst : Option Tmp} {type : TypeId} {pos : String} {after : Array Edge} {guard : Option (Nat × Bool)}
  {cf : FuncId → List AV → HM (AV × Ws)}

/-- A block of the activation's own goes on under a new number. -/
theorem OpOK.adopt {o : Oper} {b B k : Nat} {blk : Blk} {els : List (List AV)} {arr : Array Value} {ty : TypeId} {w' : World} {u : Value} (ok : MemOK M h) (hs : slot < h.length) (hμ : M.μ slot = none)
    (hblk : h[b]? = some (some blk)) (hrw : blk.rw = true) (hB : M.μ b = some B) (hH : w'.heap[B]? = some (.cells arr ty (0, 0))) (hoth : ∀ j, j ≠ B → w'.heap[j]? = M.H[j]?) (hszz : M.H.size ≤ w'.heap.size)
    (hlen : arr.size = (cellsAt M.H B).length) (hr : RelR M els k arr.toList) (hsame : Same w w') (he : (execOp a.eval o).run P w = .ok (.value u) w')
    (hx : ∀ M' : Mem, M'.μ slot = some B → (cellsAt M'.H B).length = (cellsAt M.H B).length → Rel M' x u) : OpOK P o a w M h slot x ((b, none) :: newBlk slot k els) := by
  intro next Q hn
  unfold Oper.wp
  rw [he, Oper.upon_value]
  have hF : ¬ M.F B := ((liveCells ok hblk hB).2.1).1 hrw
  have hsub : ∀ (b' : Nat) (y : Blk), (h.set b none)[b']? = some (some y) → b' ≠ b ∧ h[b']? = some (some y) := by
    intro b' y hy
    rcases set_get hy with ⟨_, h2⟩ | h2
    · cases h2
    · exact h2
  have h1 := (ok.kill b).write (slot := slot) (B := B) (k := k) (els := els) (H' := w'.heap) (arr := arr) (ty := ty) (by simpa using hs) (.inl hμ) hF
    (fun b' y _ hy hm => (hsub b' y hy).1 (ok.inj b' b y blk B (hsub b' y hy).2 hblk hm hB)) hH hoth hszz (fun _ _ => hlen) hr
  have h2 := Fr.write (k := k) (els := els) (h0 := h) (h := h.set b none) (slot := slot) (by simp) (fun b' y hy => (hsub b' y hy).2) h1.1 hoth hszz (.inl ⟨b, blk, hblk, hrw, hB⟩)
  refine hn u w' ⟨M.F, w'.heap, fun b => if b = slot then some B else M.μ b⟩ (hx _ (by simp) ?_) h1.2 h2 (fun b' hb' hm => by show (if b' = slot then _ else M.μ b') = none; rw [if_neg hb', hm]) rfl hsame
  simp [cellsAt, hH, hlen]

theorem op_append {c : Call} (hc : c.callee = .builtin .append) (ok : MemOK M h) (hw : w.heap = M.H) (hs : slot < h.length) (hμ : M.μ slot = none) (ht : RelT M t a.tmps.toList) (hr : (aop P cf ⟨dst, .call c, type, pos, after, guard⟩ t slot).run h = some ((x, ws), rs)) :
    OpOK P ⟨dst, .call c, type, pos, after, guard⟩ a w M h slot x ws := by
  simp only [aop, hc] at hr
  split at hr
  · rename_i p q ta tb hp hty
    replace hp := args2 hp
    replace hty := tys2 hty
    replace hr := ev_inv hr; obtain ⟨y, r, hy, hr⟩ := hr
    replace hy := aev_rel ht hy
    replace hr := ev_inv hr; obtain ⟨z, r, hz, hr⟩ := hr
    replace hz := aev_rel ht hz
    have hex : ∀ {u' : Value} {w' : World}, (Builtin.append_ #[ta, tb] type #[a.eval p, a.eval q]).run P w = .ok u' w' → (execOp a.eval ⟨dst, .call c, type, pos, after, guard⟩).run P w = .ok (.value u') w' := by
      intro u' w' h1
      simp [execOp, resolve, hc, hp, hty, invoke, builtin, h1]
    split at hr
    · rename_i et e2 hta htb
      split at hr
      · rename_i inf n zl hi hn hzl
        split at hr
        · exact (HM.run_bad hr).elim
        · rename_i hcond
          simp only [not_or, Decidable.not_not] at hcond
          obtain ⟨hn0, hb0, hzn⟩ := hcond
          replace hr := HM.run_bind hr; obtain ⟨ys, r1, r2, hys, hr, _⟩ := hr
          split at hr
          · rename_i hall
            replace hall : ∀ e ∈ ys, e.length = n := fun e he => by simpa using List.all_eq_true.1 hall e he
            obtain ⟨A2, c2, hv2, news, hnew, hrn, hnl⟩ := elems_run (P := P) (m := ys.length) ok hys hall hz (Nat.le_refl _)
            rw [List.take_of_length_le (Nat.le_refl _)] at hrn
            rw [hv2] at hnew hex
            obtain ⟨zv, hzr0, hzc⟩ := zcells_run hzl w
            have hzr : ∀ w, (zeroValue et).run P w = .ok zv w := by
              intro w1
              obtain ⟨zv', h1, h2⟩ := zcells_run hzl w1
              have : zv' = zv := by
                simp [zeroValue, typeInfo, hi] at h1 hzr0
                cases hz0 : inf.zero with
                | none => simp [hz0] at h1
                | some z0 => simp [hz0] at h1 hzr0; rw [← h1, ← hzr0]
              rw [← this]; exact h1
            have hzs : zv.cells.size = n := by have := (hzc M).length; simp at this; omega
            have fresh : ∀ {A : Option Addr}, a.eval p = .slice A 0 0 → ¬ ys.isEmpty = true → ys.length * inf.bytes ≤ 2 ^ 40 → OpOK P ⟨dst, .call c, type, pos, after, guard⟩ a w M h slot (.sl slot n 0 ys.length) (newBlk slot n ys) := by
              intro A hv hne hby
              have hlen : ys.length ≠ 0 := fun h0 => hne (by simpa using h0)
              have hold : ∀ w' : World, w'.heap = w.heap → (Builtin.firstCells n 0 (.slice A 0 0)).run P w' = .ok ([] : List Value).toArray w' := fun w' _ => by cases A <;> simp [Builtin.firstCells, loadCells, loadCellsFrom]
              obtain ⟨cap, cells, w', h1, h2, h3, h4, h5, rest, h6⟩ := append_grow (w := w) (ty := type) (olds := []) (sLen := 0) (sCap := 0) (base := A) hta htb hi hn hzr hzs (fun w' hw' => hnew w' (hw'.trans hw)) hold (by omega) hb0 (by simpa using hby) (by simp) hnl
              refine OpOK.row (ws0 := []) (h1 := h) (cells := cells) (cap := cap) (ty := et) (w' := w') hw hs hμ rfl ok rfl (fun _ _ h => h) ?_ (by omega) h5 (hex (by rw [hv, h1]; simp)) h2 h3
              rw [h6, List.nil_append]
              exact hrn.more (fun j hj => by rw [List.getElem?_append_left (by omega)]) (by rw [List.length_append]; omega)
            have stay : ∀ {A : Option Addr}, a.eval p = .slice A 0 0 → ys.isEmpty = true → (execOp a.eval ⟨dst, .call c, type, pos, after, guard⟩).run P w = .ok (.value (.slice A 0 0)) w := by
              intro A hv hne
              have hlen : ys.length = 0 := by simpa using hne
              have hn0 : news = [] := List.eq_nil_of_length_eq_zero (by rw [hnl, hlen]; simp)
              have := append_room (w := w) (ty := type) (sLen := 0) (sCap := 0) (base := A) hta htb hn (hnew w hw) (by omega) (w' := w) (fun b _ => by rw [hn0]; simp [storeCells]) (fun _ => rfl)
              rw [hlen] at this hex
              exact hex (by rw [hv]; exact this)
            split at hr
            · rename_i b k len
              split at hr
              · rename_i hkn
                subst hkn
                replace hr := HM.run_get hr; obtain ⟨blk, r', hblk, hr, _⟩ := hr
                split at hr
                · rename_i hcond
                  obtain ⟨hk, hrw, hle, hby⟩ := hcond
                  have := (HM.run_ret hr).1
                  cases this
                  unfold Rel at hy
                  obtain ⟨A, cap, B, hv, hlc, hB, hA, hsz⟩ := hy
                  obtain ⟨hR, hF, arr, ty', hH, harr⟩ := liveCells ok hblk hB
                  rw [hk] at hR
                  have hlk : len * k ≤ (cellsAt M.H B).length := Nat.le_trans (Nat.mul_le_mul_right k (by omega : len ≤ 0 + cap)) hsz
                  have holdl : ((cellsAt M.H B).take (len * k)).length = len * k := by rw [List.length_take]; omega
                  have htl : (blk.els.take len).length = len := by simp; omega
                  have hRo : RelR M (blk.els.take len) k ((cellsAt M.H B).take (len * k)) := (hR.take len).more (fun j hj => by rw [htl] at hj; rw [List.getElem?_take_of_lt hj]) (by rw [htl, holdl]; exact Nat.le_refl _)
                  by_cases hroom : len + ys.length ≤ cap
                  · by_cases hc0 : cap = 0
                    · have hl0 : len = 0 := by omega
                      have hy0 : ys = [] := List.eq_nil_of_length_eq_zero (by omega)
                      subst hl0 hy0 hc0
                      have hn0 : news = [] := List.eq_nil_of_length_eq_zero (by rw [hnl]; simp)
                      have := append_room (w := w) (ty := type) (sLen := 0) (sCap := 0) (base := A) hta htb hn (hnew w hw) (by simp) (w' := w) (fun b _ => by rw [hn0]; simp [storeCells]) (fun _ => rfl)
                      refine OpOK.adopt (arr := arr) (ty := ty') (w' := w) ok hs hμ hblk hrw hB (by rw [hw]; exact hH) (fun j _ => by rw [hw]) (by rw [hw]; exact Nat.le_refl _) (by rw [harr]; simp) (by simp; exact .nil) (Same.refl w) (hex (by rw [hv]; exact this)) (fun M' h1 h2 => ?_)
                      unfold Rel
                      exact ⟨A, 0, B, by simp, by simp, h1, by simp, by simp⟩
                    · have hA' := hA hc0
                      subst hA'
                      have hfit : len * k + news.length ≤ (cellsAt M.H B).length := by
                        rw [hnl, ← Nat.add_mul]
                        exact Nat.le_trans (Nat.mul_le_mul_right k (by omega : len + ys.length ≤ 0 + cap)) hsz
                      have hst := run_storeCells_at P B (len * k) ty' news 0 arr w (by rw [hw]; exact hH) (by rw [harr] at hfit; simpa using hfit) (by
                        have := hrn.flat
                        rw [List.take_of_length_le (by omega)] at this
                        exact this.cell1)
                      simp only [Nat.add_zero] at hst
                      have := append_room (w := w) (ty := type) (sLen := len) (sCap := cap) (base := some ⟨B, 0 * k, none⟩) hta htb hn (hnew w hw) hroom (w' := _) (fun b hb => by
                        cases hb
                        rw [addr_add, Nat.zero_mul, Nat.zero_add]
                        exact hst) (fun h0 => by cases h0)
                      refine OpOK.adopt (arr := (arr.toList.take (len * k) ++ news ++ arr.toList.drop (len * k + news.length)).toArray) (ty := ty') ok hs hμ hblk hrw hB (setRow_heap w B arr _ ty' (0, 0) (by rw [hw]; exact hH)) (fun j hj => by rw [setRow_other w B j _ hj, hw]) (by simp [hw]) ?_ ?_ ⟨rfl, rfl, rfl⟩ (hex (by rw [hv]; exact this)) (fun M' h1 h2 => ?_)
                      · have := splice_length (cs := arr.toList) (vs := news) (p := len * k) (by rw [← harr]; exact hfit)
                        rw [harr]
                        simpa using this
                      · rw [← harr]
                        simp only [List.append_assoc]
                        exact hRo.append (by rw [holdl, htl]) (hrn.more (fun j hj => by rw [List.getElem?_append_left (by omega)]) (by rw [List.length_append]; omega))
                      · unfold Rel
                        exact ⟨_, cap, B, rfl, by omega, h1, fun _ => rfl, by rw [h2]; exact hsz⟩
                  · have hold : ∀ w' : World, w'.heap = w.heap → (Builtin.firstCells k len (.slice A len cap)).run P w' = .ok ((cellsAt M.H B).take (len * k)).toArray w' := by
                      intro w' hw'
                      by_cases hl0 : len = 0
                      · subst hl0
                        cases A <;> simp [Builtin.firstCells, loadCells, loadCellsFrom]
                      · have hA' := hA (by omega)
                        subst hA'
                        have := loadCells_seg (P := P) (w := w') (M := M) (B := B) (o := 0 * k) (cs := (cellsAt M.H B).take (len * k)) (hw'.trans hw) (fun j v hj => by
                          rw [List.getElem?_take] at hj
                          split at hj
                          · simpa using hj
                          · cases hj)
                        rw [holdl] at this
                        simp only [Builtin.firstCells, this]
                    obtain ⟨cap', cells, w', h1, h2, h3, h4, h5, rest, h6⟩ := append_grow (w := w) (ty := type) (sLen := len) (sCap := cap) (base := A) hta htb hi hn hzr hzs (fun w' hw' => hnew w' (hw'.trans hw)) hold hroom hb0 hby holdl hnl
                    refine OpOK.row (ws0 := [(b, none)]) (h1 := h.set b none) (cells := cells) (cap := cap') (ty := et) (w' := w') hw hs hμ rfl (ok.kill b) (by simp) (fun b' y hy => ?_) ?_ h4 h5 (hex (by rw [hv, h1])) h2 h3
                    · rcases set_get hy with ⟨_, h2⟩ | h2
                      · cases h2
                      · exact h2.2
                    · rw [h6]
                      exact hRo.append (by rw [holdl, htl]) (hrn.more (fun j hj => by rw [List.getElem?_append_left (by omega)]) (by rw [List.length_append]; omega))
                · exact (HM.run_bad hr).elim
              · exact (HM.run_bad hr).elim
            · unfold Rel at hy
              obtain ⟨A, hv⟩ := hy
              split at hr
              · rename_i he
                have := (HM.run_ret hr).1
                cases this
                exact .value ok hw ⟨_, stay hv he, by unfold Rel; exact ⟨A, rfl⟩⟩
              · rename_i he
                split at hr
                · rename_i hby
                  have := (HM.run_ret hr).1
                  cases this
                  exact fresh hv he hby
                · exact (HM.run_bad hr).elim
            · unfold Rel at hy
              split at hr
              · rename_i he
                have := (HM.run_ret hr).1
                cases this
                exact .value ok hw ⟨_, stay hy he, by unfold Rel; rfl⟩
              · rename_i he
                split at hr
                · rename_i hby
                  have := (HM.run_ret hr).1
                  cases this
                  exact fresh hy he hby
                · exact (HM.run_bad hr).elim
            · exact (HM.run_bad hr).elim
          · exact (HM.run_bad hr).elim
      · exact (HM.run_bad hr).elim
    · exact (HM.run_bad hr).elim
  · exact (HM.run_bad hr).elim
end
end Go.Proofs.YtjhekjhbjaengaaGreatDoor.Ev
