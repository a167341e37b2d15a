/- Each operation of the evaluator is the model's: built values, new rows. -/
import Derived.Test.YtjhekjhbjaengaaGreatDoorEvP3
namespace Go.Proofs.YtjhekjhbjaengaaGreatDoor.Ev
open Go Go.RowKit

section
variable {P : Program} {M : Mem} {h : Heap} {w : World} {a : Act} {t : List AV} {slot : Nat} {x : AV} {ws : Ws} {rs : List Nat} {dst : Option Tmp} {type : TypeId} {pos : String} {after : Array Edge} {guard : Option (Nat × Bool)}
  {cf : FuncId → List AV → HM (AV × Ws)}

theorem fold_splice : ∀ (vs : List Value) (n off : Nat) (cells : Array Value), off + n + vs.length ≤ cells.size →
    ((vs.zipIdx n).foldl (fun cs (p : Value × Nat) => cs.setIfInBounds (off + p.2) p.1) cells).toList = cells.toList.take (off + n) ++ vs ++ cells.toList.drop (off + n + vs.length)
  | [], n, off, cells, _ => by simp
  | v :: vs, n, off, cells, h => by
    simp only [List.zipIdx_cons, List.foldl_cons]
    simp only [List.length_cons] at h
    rw [fold_splice vs (n + 1) off _ (by simp; omega)]
    have e := list_seg_step cells.toList (off + n) v vs (by simp; omega)
    simpa [Array.toList_setIfInBounds, Nat.add_assoc, Nat.add_comm, Nat.add_left_comm] using e
theorem fold_splice' (u : Value) (off : Nat) (cells : Array Value) (h : off + u.cells.size ≤ cells.size) :
    (u.cells.zipIdx.foldl (fun cs (p : Value × Nat) => cs.setIfInBounds (off + p.2) p.1) cells).toList = cells.toList.take off ++ u.cells.toList ++ cells.toList.drop (off + u.cells.toList.length) := by
  have := fold_splice u.cells.toList 0 off cells (by simpa using h)
  rw [← Array.foldl_toList, Array.toList_zipIdx]
  simpa using this

theorem RelC.splice {z c : List AV} {cs vs : List Value} {p : Nat} (hz : RelC M z cs) (hc : RelC M c vs) : RelC M (z.take p ++ c ++ z.drop (p + c.length)) (cs.take p ++ vs ++ cs.drop (p + vs.length)) := by
  rw [hc.length]
  exact ((hz.take p).append hc).append (hz.drop _)

theorem fill_run {pl : Nat → Option (Nat × Nat)} {place : Nat → Option (Nat × Nat)} (hpl : ∀ i r, pl i = some r → place i = some r) (ht : RelT M t a.tmps.toList) : ∀ (parts : List (Nat × Operand)) (ps : List (Nat × List AV)) (z res : List AV) (cells : Array Value),
    partsOf t pl parts = some ps → fillAt z ps = some res → RelC M z cells.toList → ∃ cs', Instr.fill place cells (parts.map fun (i, x) => (i, a.eval x)) = some cs' ∧ RelC M res cs'.toList
  | [], ps, z, res, cells, h1, h2, h3 => by
    simp [partsOf] at h1
    subst h1
    simp [fillAt] at h2
    subst h2
    exact ⟨cells, rfl, h3⟩
  | (i, y) :: r, ps, z, res, cells, h1, h2, h3 => by
    unfold partsOf at h1
    split at h1
    · rename_i off n c l hp hc hl
      split at h1
      · rename_i hcn
        cases h1
        unfold fillAt at h2
        split at h2
        · rename_i hle
          cases hy : aev t y with
          | none => simp [hy] at hc
          | some yv =>
            simp only [hy, Option.bind_some] at hc
            have hcr := cells_rel (aev_rel ht hy) hc
            have hcl := hcr.length
            have hzl := h3.length
            have hsz : (a.eval y).cells.size = n := by simp at hcl; omega
            have hfit : off + (a.eval y).cells.size ≤ cells.size := by simp at hcl hzl; omega
            have h3' : RelC M (z.take off ++ c ++ z.drop (off + c.length)) ((a.eval y).cells.zipIdx.foldl (fun cs (p : Value × Nat) => cs.setIfInBounds (off + p.2) p.1) cells).toList := by
              rw [fold_splice' _ _ _ hfit]
              exact h3.splice hcr
            obtain ⟨cs', h4, h5⟩ := fill_run hpl ht r l _ res _ hl h2 h3'
            refine ⟨cs', ?_, h5⟩
            simp only [List.map_cons, Instr.fill, hpl _ _ hp]
            rw [if_neg (by simp [hsz]; omega)]
            exact h4
        · cases h2
      · cases h1
    · cases h1

theorem places_run : ∀ (l : List Field), (l.all fun f => (tsize P f.type).isSome) = true → ∃ ps, (l.mapM fun f => (do pure (f.offset, ← sizeOf f.type) : Sem (Nat × Nat))).run P w = .ok ps w ∧ ∀ i : Nat, ps[i]? = (l[i]?).bind fun f => (tsize P f.type).map fun n => (f.offset, n)
  | [], _ => ⟨[], rfl, by simp⟩
  | f :: l, hl => by
    simp only [List.all_cons, Bool.and_eq_true] at hl
    obtain ⟨ps, h1, h2⟩ := places_run l hl.2
    cases hn : tsize P f.type with
    | none => simp [hn] at hl
    | some n =>
      refine ⟨(f.offset, n) :: ps, by simp [List.mapM_cons, tsize_run hn] ; simp at h1; simp [h1], fun i => ?_⟩
      cases i with
      | zero => simp [hn]
      | succ i => simpa using h2 i

theorem op_build {ty : TypeId} {parts : Array (Nat × Operand)} (ok : MemOK M h) (hw : w.heap = M.H) (ht : RelT M t a.tmps.toList) (hr : (aop P cf ⟨dst, .build ty parts, type, pos, after, guard⟩ t slot).run h = some ((x, ws), rs)) :
    OpOK P ⟨dst, .build ty parts, type, pos, after, guard⟩ a w M h slot x ws := by
  have key : ∀ {z : List AV}, zcells P ty = some z → ((HM.ofOption (((partsOf t (placeOf P ty) parts.toList).bind (fillAt z)).map .agg)).bind fun r => HM.ret (r, ([] : Ws))).run h = some ((x, ws), rs) →
      ws = [] ∧ ∃ ps res, partsOf t (placeOf P ty) parts.toList = some ps ∧ fillAt z ps = some res ∧ x = .agg res := by
    intro z hz hr
    replace hr := out_inv hr; obtain ⟨h1, rfl⟩ := hr
    refine ⟨rfl, ?_⟩
    cases hps : partsOf t (placeOf P ty) parts.toList with
    | none => simp [hps] at h1
    | some ps =>
      cases hfill : fillAt z ps with
      | none => simp [hps, hfill] at h1
      | some res =>
        simp [hps, hfill] at h1
        exact ⟨ps, res, rfl, hfill, h1.symm⟩
  simp only [aop] at hr
  split at hr
  · rename_i z fs hz hu
    split at hr
    · rename_i hall
      obtain ⟨rfl, ps, res, hps, hfill, rfl⟩ := key hz hr
      obtain ⟨zv, hzr, hzc⟩ := zcells_run hz w
      obtain ⟨pl, hpl1, hpl2⟩ := places_run (P := P) (w := w) fs.toList hall
      obtain ⟨cs', h4, h5⟩ := fill_run (M := M) (place := (pl.toArray[·]?)) (fun i r hi => by
        unfold placeOf at hi
        rw [hu] at hi
        simp only [List.getElem?_toArray]
        rw [hpl2 i]
        simpa using hi) ht parts.toList ps z res zv.cells hps hfill (hzc M)
      refine .value ok hw ⟨.agg cs', ?_, by unfold Rel; exact ⟨cs', rfl, h5⟩⟩
      have e1 : (parts.map fun (i, x) => (i, a.eval x)).toList = parts.toList.map fun (i, x) => (i, a.eval x) := by simp
      simp only [execOp, Instr.build, Sem.run_bind, hzr, Result.andThen_ok, run_underlying hu, Array.mapM_eq_mapM_toList, Sem.run_map, e1]
      rw [hpl1]
      simp only [Result.andThen_ok, h4, Sem.run_bind, Sem.run_pure]
    · exact (HM.run_bad hr).elim
  · rename_i z m et hz hu
    split at hr
    · rename_i hall
      obtain ⟨rfl, ps, res, hps, hfill, rfl⟩ := key hz hr
      obtain ⟨zv, hzr, hzc⟩ := zcells_run hz w
      cases hn : tsize P et with
      | none => simp [hn] at hall
      | some n =>
        obtain ⟨cs', h4, h5⟩ := fill_run (M := M) (place := fun i => some (i * n, n)) (fun i r hi => by
          unfold placeOf at hi
          rw [hu] at hi
          simpa [hn] using hi) ht parts.toList ps z res zv.cells hps hfill (hzc M)
        refine .value ok hw ⟨.agg cs', ?_, by unfold Rel; exact ⟨cs', rfl, h5⟩⟩
        have e1 : (parts.map fun (i, x) => (i, a.eval x)).toList = parts.toList.map fun (i, x) => (i, a.eval x) := by simp
        simp only [execOp, Instr.build, Sem.run_bind, hzr, Result.andThen_ok, run_underlying hu, tsize_run hn, e1, h4, Sem.run_pure]
    · exact (HM.run_bad hr).elim
  · exact (HM.run_bad hr).elim

/-- A new row. -/
theorem OpOK.row {o : Oper} {h1 : Heap} {els : List (List AV)} {k len cap : Nat} {cells : Array Value} {ty : TypeId} {w' : World} {ws0 : Ws} (hw : w.heap = M.H) (hs : slot < h.length) (hμ : M.μ slot = none)
    (h1e : applyWs h (ws0 ++ newBlk slot k els) = h1.set slot (some ⟨k, true, els⟩)) (ok1 : MemOK M h1) (hl : h1.length = h.length) (hsub : ∀ (b : Nat) (x : Blk), h1[b]? = some (some x) → h[b]? = some (some x))
    (hr : RelR M els k cells.toList) (hlc : len ≤ cap) (hcap : cap * k ≤ cells.size)
    (he : (execOp a.eval o).run P w = .ok (.value (.slice (some ⟨w.heap.size, 0, none⟩) len cap)) w') (hw' : w'.heap = w.heap.push (.cells cells ty)) (hsame : Same w w') :
    OpOK P o a w M h slot (.sl slot k 0 len) (ws0 ++ newBlk slot k els) := by
  intro next Q hn
  unfold Oper.wp
  rw [he, Oper.upon_value]
  obtain ⟨k1, k2, k3⟩ := ok1.new (h0 := h) hl hsub (arr := cells) ty (slot := slot) (k := k) (els := els) (by omega) hμ hr
  refine hn _ _ _ ?_ (by rw [h1e]; exact k2) (by rw [h1e]; exact k3) (fun b hb hm => by show (if b = slot then _ else M.μ b) = none; rw [if_neg hb, hm]) (by rw [hw', hw]) hsame
  unfold Rel
  refine ⟨_, cap, M.H.size, rfl, hlc, by simp, fun _ => by simp [hw], ?_⟩
  simp [cellsAt]
  exact hcap

theorem zero_row {z : List AV} {zero : Array Value} {n m : Nat} (hz : RelC M z zero.toList) (hn : z.length = n) (hn0 : n ≠ 0) : RelR M (List.replicate m z) n ((Array.range (m * n)).map (zero[· % zero.size]!)).toList := by
  have hsz : zero.size = n := by have := hz.length; simpa [hn] using this
  refine RelR.of_get fun i e he => ?_
  rw [List.getElem?_replicate] at he
  split at he
  · rename_i him
    cases he
    refine ⟨hn, ?_⟩
    have : ((((Array.range (m * n)).map (zero[· % zero.size]!)).toList.drop (i * n)).take n) = zero.toList := by
      apply List.ext_getElem?
      intro j
      have hle : i * n + n ≤ m * n := by have := Nat.mul_le_mul_right n (show i + 1 ≤ m from him); rw [Nat.add_mul] at this; omega
      by_cases hj : j < n
      · rw [List.getElem?_take_of_lt hj, List.getElem?_drop]
        have h1 : (i * n + j) % n = j := by rw [Nat.add_comm, Nat.add_mul_mod_self_right, Nat.mod_eq_of_lt hj]
        simp [hsz, show i * n + j < m * n by omega, h1]
        rw [getElem!_pos zero j (by omega), Array.getElem?_eq_getElem (by omega)]
      · rw [List.getElem?_eq_none (by simp; omega), List.getElem?_eq_none (by simp; omega)]
    rw [this]
    exact hz
  · cases he

theorem sets_run {n len : Nat} (ht : RelT M t a.tmps.toList) : ∀ (parts : List (Nat × Operand)) (acc es : List (List AV)) (cells : Array Value),
    setsOf t n len parts acc = some es → RelR M acc n cells.toList → acc.length = len → ∃ cs', Instr.fill (fun i => some (i * n, n)) cells (parts.map fun (i, x) => (i, a.eval x)) = some cs' ∧ RelR M es n cs'.toList ∧ cs'.size = cells.size ∧ es.length = len
  | [], acc, es, cells, h1, h2, h3 => by
    simp [setsOf] at h1
    subst h1
    exact ⟨cells, rfl, h2, rfl, h3⟩
  | (i, y) :: r, acc, es, cells, h1, h2, h3 => by
    unfold setsOf at h1
    split at h1
    · rename_i c hc
      split at h1
      · rename_i hcond
        obtain ⟨hcn, hil⟩ := hcond
        cases hy : aev t y with
        | none => simp [hy] at hc
        | some yv =>
          simp only [hy, Option.bind_some] at hc
          have hcr := cells_rel (aev_rel ht hy) hc
          have hcl := hcr.length
          have hsz : (a.eval y).cells.size = n := by simp at hcl; omega
          have he : acc[i]? = some acc[i] := List.getElem?_eq_getElem (by omega)
          have hel := (h2.get he).1
          have hsp := h2.splice (j := 0) he (by omega) hcr
          have hset : (acc[i].take 0 ++ c ++ acc[i].drop (0 + c.length)) = c := by
            rw [List.drop_eq_nil_of_le (by omega)]
            simp
          rw [hset] at hsp
          simp only [Nat.add_zero] at hsp
          have hfit : i * n + (a.eval y).cells.size ≤ cells.size := by simpa using hsp.1
          have h2' : RelR M (acc.set i c) n ((a.eval y).cells.zipIdx.foldl (fun cs (p : Value × Nat) => cs.setIfInBounds (i * n + p.2) p.1) cells).toList := by
            rw [fold_splice' _ _ _ hfit]
            exact hsp.2
          obtain ⟨cs', h4, h5, h6, h7⟩ := sets_run ht r (acc.set i c) es _ h1 h2' (by simpa using h3)
          refine ⟨cs', ?_, h5, ?_, h7⟩
          · simp only [List.map_cons, Instr.fill]
            rw [if_neg (by simp [hsz]; omega)]
            exact h4
          · rw [h6, ← Array.length_toList, fold_splice' _ _ _ hfit, splice_length (by simpa using hfit)]
            simp
      · cases h1
    · cases h1

theorem op_buildSlice {ty : TypeId} {len : Nat} {parts : Array (Nat × Operand)} (ok : MemOK M h) (hw : w.heap = M.H) (hs : slot < h.length) (hμ : M.μ slot = none) (ht : RelT M t a.tmps.toList) (hr : (aop P cf ⟨dst, .buildSlice ty len parts, type, pos, after, guard⟩ t slot).run h = some ((x, ws), rs)) :
    OpOK P ⟨dst, .buildSlice ty len parts, type, pos, after, guard⟩ a w M h slot x ws := by
  simp only [aop] at hr
  split at hr
  · rename_i et hu
    split at hr
    · rename_i n z hn hz
      split at hr
      · exact (HM.run_bad hr).elim
      · rename_i hcond
        simp only [not_or, Decidable.not_not] at hcond
        obtain ⟨hn0, hlim, hzn⟩ := hcond
        replace hr := evl_inv hr; obtain ⟨es, r, hes, hr⟩ := hr
        have := (HM.run_ret hr).1
        cases this
        obtain ⟨zv, hzr, hzc⟩ := zcells_run hz w
        obtain ⟨cs', h4, h5, h6, h7⟩ := sets_run ht parts.toList _ es _ hes (zero_row (hzc M) hzn hn0) (by simp)
        have e1 : (parts.map fun (i, x) => (i, a.eval x)).toList = parts.toList.map fun (i, x) => (i, a.eval x) := by simp
        refine OpOK.row (ws0 := []) (h1 := h) (cells := cs') (cap := len) (ty := et) (w' := { w with heap := w.heap.push (.cells cs' et) }) hw hs hμ rfl ok rfl (fun _ _ h => h) h5 (Nat.le_refl _) (by rw [h6]; simp) ?_ rfl ⟨rfl, rfl, rfl⟩
        have hz0 : ¬ (len * n = 0) ∨ len * n = 0 := by omega
        by_cases hln : len * n = 0
        · have hl0 : len = 0 := by rcases Nat.mul_eq_zero.1 hln with h0 | h0 <;> omega
          subst hl0
          have hE : ∀ f : Nat → Value, (Array.range 0).map f = #[] := fun f => by simp
          simp only [Nat.zero_mul, hE] at h4
          simp only [execOp, Instr.buildSlice, Sem.run_bind, run_underlying hu, Result.andThen_ok, tsize_run hn, e1, Nat.zero_mul, hE, Sem.run_ite, if_true, Sem.run_pure, h4]
          simp [newRow]
        · simp only [execOp, Instr.buildSlice, Sem.run_bind, run_underlying hu, Result.andThen_ok, tsize_run hn, if_neg hlim, if_neg hln, hzr, Sem.run_ite, Sem.run_pure, e1, h4]
          simp [newRow]
    · exact (HM.run_bad hr).elim
  · exact (HM.run_bad hr).elim
end
end Go.Proofs.YtjhekjhbjaengaaGreatDoor.Ev
