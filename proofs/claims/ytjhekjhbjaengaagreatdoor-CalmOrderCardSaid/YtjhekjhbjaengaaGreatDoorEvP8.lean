/- Each operation of the evaluator is the model's: copy; a call's shape. -/
import Derived.Test.YtjhekjhbjaengaaGreatDoorEvP7
namespace Go.Proofs.YtjhekjhbjaengaaGreatDoor.Ev
open Go Go.RowKit

section
variable {P : Program} {M : Mem} {h : Heap} {w : World} {a : Act} {t : List AV} {slot : Nat} {x : AV} {ws : Ws} {rs : List Nat} {dst : Option Tmp} {type : TypeId} {pos : String} {after : Array Edge} {guard : Option (Nat × Bool)}
  {cf : FuncId → List AV → HM (AV × Ws)}

theorem op_copy {c : Call} (hc : c.callee = .builtin .copy) (ok : MemOK M h) (hw : w.heap = M.H) (ht : RelT M t a.tmps.toList) (hr : (aop P cf ⟨dst, .call c, type, pos, after, guard⟩ t slot).run h = some ((x, ws), rs)) :
    OpOK P ⟨dst, .call c, type, pos, after, guard⟩ a w M h slot x ws := by
  simp only [aop, hc] at hr
  split at hr
  · rename_i p q ta tb hp hty
    replace hp := args2 hp
    replace hty := tys2 hty
    replace hr := ev_inv hr; obtain ⟨y, r, hy, hr⟩ := hr
    replace hy := aev_rel ht hy
    replace hr := ev_inv hr; obtain ⟨z, r, hz, hr⟩ := hr
    replace hz := aev_rel ht hz
    have hex : ∀ {u' : Value} {w' : World}, (Builtin.copy_ #[ta, tb] type #[a.eval p, a.eval q]).run P w = .ok u' w' → (execOp a.eval ⟨dst, .call c, type, pos, after, guard⟩).run P w = .ok (.value u') w' := by
      intro u' w' h1
      simp [execOp, resolve, hc, hp, hty, invoke, builtin, h1]
    split at hr
    · rename_i et hta
      split at hr
      · rename_i n hn
        replace hr := HM.run_bind hr; obtain ⟨ys, r1, r2, hys, hr, _⟩ := hr
        split at hr
        · rename_i hall
          replace hall : ∀ e ∈ ys, e.length = n := fun e he => by simpa using List.all_eq_true.1 hall e he
          split at hr
          · rename_i b k off len
            split at hr
            · rename_i hkn
              subst hkn
              replace hr := HM.run_get hr; obtain ⟨blk, r', hblk, hr, _⟩ := hr
              split at hr
              · rename_i hcond
                obtain ⟨hk, hrw, hle⟩ := hcond
                have := (HM.run_ret hr).1
                cases this
                obtain ⟨A2, c2, hv2, news, hnew, hrn, hnl⟩ := elems_run (P := P) (m := min ys.length len) ok hys hall hz (Nat.min_le_left _ _)
                unfold Rel at hy
                obtain ⟨A, cap, B, hv, hlc, hB, hA, hsz⟩ := hy
                obtain ⟨hR, hF, arr, ty', hH, harr⟩ := liveCells ok hblk hB
                rw [hk] at hR
                have hml : min ys.length len ≤ len := Nat.min_le_right _ _
                have hfit : off * k + news.length ≤ (cellsAt M.H B).length := by
                  rw [hnl, ← Nat.add_mul]
                  exact Nat.le_trans (Nat.mul_le_mul_right k (by omega : off + min ys.length len ≤ off + cap)) hsz
                have hRn : RelR M (blk.els.take off ++ ys.take (min ys.length len) ++ blk.els.drop (off + min ys.length len)) k ((cellsAt M.H B).take (off * k) ++ news ++ (cellsAt M.H B).drop (off * k + news.length)) := by
                  have htl : (blk.els.take off).length = off := by simp; omega
                  have htl2 : (ys.take (min ys.length len)).length = min ys.length len := by simp
                  have hol : ((cellsAt M.H B).take (off * k)).length = off * k := by rw [List.length_take]; omega
                  have h1 : RelR M (blk.els.take off) k ((cellsAt M.H B).take (off * k)) := (hR.take off).more (fun j hj => by rw [htl] at hj; rw [List.getElem?_take_of_lt hj]) (by rw [htl, hol]; exact Nat.le_refl _)
                  have h2 := h1.append (by rw [hol, htl]) hrn
                  refine h2.append (by rw [List.length_append, List.length_append, hol, hnl, htl, htl2, Nat.add_mul]) ?_
                  have := hR.drop (off + min ys.length len)
                  rwa [Nat.add_mul, ← hnl] at this
                obtain ⟨m1, m2, m3⟩ := ok.store hw hblk hrw hB (splice_length hfit) (by rw [hk]; exact hRn)
                have hst : ∀ b, A = some b → (storeCells b news).run P w = .ok () (w.setRow B ((cellsAt M.H B).take (off * k) ++ news ++ (cellsAt M.H B).drop (off * k + news.length)).toArray) := by
                  intro b' hb'
                  by_cases hc0 : cap = 0
                  · have hn0 : news = [] := List.eq_nil_of_length_eq_zero (by rw [hnl, show min ys.length len = 0 by omega]; simp)
                    rw [hn0]
                    simp only [storeCells, List.append_nil, List.length_nil, Nat.add_zero, List.take_append_drop]
                    rw [harr, Array.toArray_toList, setRow_self w B arr ty' (0, 0) (by rw [hw]; exact hH)]
                    rfl
                  · have := hA hc0
                    rw [this] at hb'
                    cases hb'
                    have hst := run_storeCells_at P B (off * k) ty' news 0 arr w (by rw [hw]; exact hH) (by rw [harr] at hfit; simpa using hfit) (by
                      have := hrn.flat
                      rw [show (ys.take (min ys.length len)).length = min ys.length len by simp, ← hnl, List.take_length] at this
                      exact this.cell1)
                    simp only [Nat.add_zero] at hst
                    rw [harr]
                    exact hst
                have hrun : (Builtin.copy_ #[ta, tb] type #[a.eval p, a.eval q]).run P w = .ok (.int .i64 (min ys.length len : Nat)) (w.setRow B ((cellsAt M.H B).take (off * k) ++ news ++ (cellsAt M.H B).drop (off * k + news.length)).toArray) := by
                  have hnew' := hnew w hw
                  rw [hv2] at hnew'
                  have hmin : Nat.min ys.length len = min ys.length len := rfl
                  cases A with
                  | none =>
                    have hc0 : cap = 0 := Classical.byContradiction fun h0 => by have := hA h0; cases this
                    have hn0 : news = [] := List.eq_nil_of_length_eq_zero (by rw [hnl, show min ys.length len = 0 by omega]; simp)
                    have he : (w.setRow B ((cellsAt M.H B).take (off * k) ++ news ++ (cellsAt M.H B).drop (off * k + news.length)).toArray) = w := by
                      rw [hn0]
                      simp only [List.append_nil, List.length_nil, Nat.add_zero, List.take_append_drop]
                      rw [harr, Array.toArray_toList, setRow_self w B arr ty' (0, 0) (by rw [hw]; exact hH)]
                    rw [he]
                    simp [Builtin.copy_, run_underlying hta, hv, hv2, Builtin.lenOf, tsize_run hn, hmin, hnew', goInt]
                  | some b' =>
                    simp [Builtin.copy_, run_underlying hta, hv, hv2, Builtin.lenOf, tsize_run hn, hmin, hnew', hst b' rfl, goInt]
                intro next Q hN
                unfold Oper.wp
                rw [hex hrun, Oper.upon_value]
                refine hN _ _ ⟨M.F, (w.setRow B ((cellsAt M.H B).take (off * k) ++ news ++ (cellsAt M.H B).drop (off * k + news.length)).toArray).heap, fun b' => if b' = b then some B else M.μ b'⟩ (by unfold Rel; rfl) m2 m3 (fun b' hb' hm => ?_) rfl ⟨rfl, rfl, rfl⟩
                show (if b' = b then some B else M.μ b') = none
                split
                · rename_i e'
                  rw [e', hB] at hm
                  cases hm
                · exact hm
              · exact (HM.run_bad hr).elim
            · exact (HM.run_bad hr).elim
          · exact (HM.run_bad hr).elim
        · exact (HM.run_bad hr).elim
      · exact (HM.run_bad hr).elim
    · exact (HM.run_bad hr).elim
  · exact (HM.run_bad hr).elim
end
end Go.Proofs.YtjhekjhbjaengaaGreatDoor.Ev
