/- Calls: with a memory of their own. -/
import Derived.Test.YtjhekjhbjaengaaGreatDoorEvS
namespace Go.Proofs.YtjhekjhbjaengaaGreatDoor.Ev
open Go Go.RowKit

/-- What is known of memory throughout, and which blocks it speaks of. -/
structure Base where
  J : Array Obj → Prop
  FJ : Nat → Prop
  keep : ∀ H H', J H → (∀ B, FJ B → H'[B]? = H[B]?) → J H'
def Base.ok (b : Base) (M : Mem) : Prop := b.J M.H ∧ ∀ B, b.FJ B → M.F B
theorem Base.fr {b : Base} {M M' : Mem} {h h' : Heap} (hb : b.ok M) (ok : MemOK M h) (f : Fr M h M' h') : b.ok M' :=
  ⟨b.keep _ _ hb.1 fun B hB => f.old B (ok.F B (hb.2 B hB)) fun ho => ho.notF ok (hb.2 B hB), fun B hB => f.F B (hb.2 B hB)⟩

/-- The function is one that is entered. -/
def Entered (P : Program) (g : FuncId) : Prop := ∃ fn, P.funcs[g]? = some fn ∧ (fn.name == "runtime.NumGoroutine") = false ∧ fn.body.isNone = false

/-- What a call with a memory of its own comes to. -/
def PureOK (P : Program) (b : Base) (g : FuncId) (f : List AV → Option AV) : Prop :=
  ∀ xs r, f xs = some r → Entered P g ∧ ∀ (F : Nat → Prop) (w : World) (vs : Array Value), (∀ B, F B → B < w.heap.size) → b.ok ⟨F, w.heap, fun _ => none⟩ → RelT ⟨F, w.heap, fun _ => none⟩ xs vs.toList →
    Calls P g vs w fun e w' => ∃ v F', e = .returned v ∧ Rel ⟨F', w'.heap, fun _ => none⟩ r v ∧ (∀ B, F B → F' B) ∧ (∀ B, F' B → F B ∨ w.heap.size ≤ B) ∧ (∀ B, F' B → B < w'.heap.size) ∧ Below w.heap.size w w'

/-- What a call among a region's operations comes to. -/
def CfOK (P : Program) (b : Base) (cf : FuncId → List AV → HM (AV × Ws)) : Prop :=
  ∀ g xs (h : Heap) x ws rs, (cf g xs).run h = some ((x, ws), rs) → Entered P g ∧ ∀ (M : Mem) (w : World) (vs : Array Value), w.heap = M.H → MemOK M h → b.ok M → RelT M xs vs.toList →
    Calls P g vs w fun e w' => ∃ v M', e = .returned v ∧ Rel M' x v ∧ MemOK M' (applyWs h ws) ∧ Fr M h M' (applyWs h ws) ∧ (∀ b, M.μ b = none → M'.μ b = none) ∧ w'.heap = M'.H ∧ Same w w'

section
variable {P : Program} {M : Mem} {h : Heap} {w : World} {a : Act} {t : List AV} {slot : Nat} {x : AV} {ws : Ws} {rs : List Nat} {dst : Option Tmp} {type : TypeId} {pos : String} {after : Array Edge} {guard : Option (Nat × Bool)}
  {cf : FuncId → List AV → HM (AV × Ws)} {bs : Base}

theorem callFunc_run {g : FuncId} {vs : Array Value} (he : Entered P g) : (callFunc g vs).run P w = .ok (.enter g vs) w := by
  obtain ⟨fn, h1, h2, h3⟩ := he
  simp only [callFunc, Sem.run_bind, run_program, Result.andThen_ok, h1, h2, h3, Bool.false_eq_true, if_false, Sem.run_pure]
theorem op_call {c : Call} {f : Operand} (hc : c.callee = .value f) (hcf : CfOK P bs cf) (hbs : bs.ok M) (ok : MemOK M h) (hw : w.heap = M.H) (ht : RelT M t a.tmps.toList) (hr : (aop P cf ⟨dst, .call c, type, pos, after, guard⟩ t slot).run h = some ((x, ws), rs)) :
    OpOK P ⟨dst, .call c, type, pos, after, guard⟩ a w M h slot x ws := by
  simp only [aop, hc] at hr
  replace hr := ev_inv hr; obtain ⟨y, r, hy, hr⟩ := hr
  replace hy := aev_rel ht hy
  replace hr := evl_inv hr; obtain ⟨xs, r, hxs, hr⟩ := hr
  replace hxs := evs_rel (ht := ht) hxs
  have fin : ∀ {g : FuncId} {ys : List AV} {vs : Array Value}, (cf g ys).run h = some ((x, ws), r) → RelT M ys vs.toList → (execOp a.eval ⟨dst, .call c, type, pos, after, guard⟩).run P w = (callFunc g vs).run P w → OpOK P ⟨dst, .call c, type, pos, after, guard⟩ a w M h slot x ws := by
    intro g ys vs h1 h2 h3 next Q hn
    obtain ⟨he, hcall⟩ := hcf g ys h x ws r h1
    unfold Oper.wp
    rw [h3, callFunc_run he, Oper.upon_enter]
    refine (hcall M w vs hw ok hbs h2).mono fun e w' hpost => ?_
    obtain ⟨v, M', rfl, p1, p2, p3, p4, p5, p6⟩ := hpost
    exact hn v w' M' p1 p2 p3 (fun b _ => p4 b) p5 p6
  split at hr
  · rename_i g cap
    unfold Rel at hy
    obtain ⟨cs, hy, hcs⟩ := hy
    refine fin (vs := c.args.map a.eval ++ cs) hr (by simpa using hxs.append hcs) ?_
    simp [execOp, resolve, hc, hy, Deferred.ofValue, invoke]
  · exact (HM.run_bad hr).elim

theorem plain_c {N N' : Mem} : ∀ {l : List AV} {cs : List Value}, RelC N l cs → l.all plainB = true → RelC N' l cs
  | [], _, h, _ => by unfold RelC at h ⊢; exact h
  | x :: l, _, h, hl => by
    unfold RelC at h
    obtain ⟨c, r, rfl, h2, h3, h4⟩ := h
    simp only [List.all_cons, Bool.and_eq_true] at hl
    refine .cons h2 ?_ (plain_c h4 hl.2)
    cases x <;> simp [plainB] at hl
    unfold Rel at h3 ⊢
    exact h3
theorem plain_a {N N' : Mem} {x : AV} {u : Value} (hx : Rel N x u) (hl : Ev.plainA x = true) : Rel N' x u := by
  cases x <;> simp only [Ev.plainA, Bool.false_eq_true] at hl
  · unfold Rel at hx ⊢; exact hx
  · unfold Rel at hx ⊢
    obtain ⟨cs, h1, h2⟩ := hx
    exact ⟨cs, h1, plain_c h2 hl⟩
theorem plain_t {N N' : Mem} : ∀ {l : List AV} {cs : List Value}, RelT N l cs → l.all Ev.plainA = true → RelT N' l cs
  | [], _, h, _ => by unfold RelT at h ⊢; exact h
  | x :: l, _, h, hl => by
    unfold RelT at h
    obtain ⟨c, r, rfl, h3, h4⟩ := h
    simp only [List.all_cons, Bool.and_eq_true] at hl
    exact .cons (plain_a h3 hl.1) (plain_t h4 hl.2)
/-- What leads to no memory stands for the same in every memory. -/
theorem noLeads {N N' : Mem} {x : AV} {u : Value} (hx : Rel N x u) (hl : leads x = false) : Rel N' x u := by
  cases x <;> simp only [leads, reduceCtorEq, Bool.not_eq_false'] at hl
  · unfold Rel at hx ⊢; exact hx
  · unfold Rel at hx ⊢
    obtain ⟨cs, h1, h2⟩ := hx
    exact ⟨cs, h1, plain_c h2 hl⟩
  · unfold Rel at hx ⊢
    obtain ⟨cs, h1, h2⟩ := hx
    exact ⟨cs, h1, plain_t h2 hl⟩

theorem acall_ok {g : FuncId} {f : List AV → Option AV} (hp : PureOK P bs g f) {xs : List AV} (hr : (acall f xs).run h = some ((x, ws), rs)) :
    Entered P g ∧ ∀ (M : Mem) (w : World) (vs : Array Value), w.heap = M.H → MemOK M h → bs.ok M → RelT M xs vs.toList →
    Calls P g vs w fun e w' => ∃ v M', e = .returned v ∧ Rel M' x v ∧ MemOK M' (applyWs h ws) ∧ Fr M h M' (applyWs h ws) ∧ (∀ b, M.μ b = none → M'.μ b = none) ∧ w'.heap = M'.H ∧ Same w w' := by
  unfold acall at hr
  replace hr := HM.run_bind hr; obtain ⟨⟨ys, as⟩, r1, r2, hs, hr, _⟩ := hr
  split at hr
  · exact (HM.run_bad hr).elim
  · rename_i r hf
    obtain ⟨he, hp⟩ := hp ys r hf
    refine ⟨he, fun M w vs hw ok hbs hxs => ?_⟩
    obtain ⟨s1, s2, s3⟩ := snapL_ok (snap_ok ok snapD) hs
    let Fc : Nat → Prop := fun B => M.F B ∨ ∃ b ∈ as, M.μ b = some B
    have hcov : Cover M as Fc := ⟨fun B h => .inl h, fun b hb B hB => .inr ⟨b, hb, hB⟩⟩
    have hFc : ∀ B, Fc B → B < w.heap.size := by
      rintro B (h1 | ⟨b, _, h1⟩)
      · rw [hw]; exact ok.F B h1
      · rw [hw]; exact (ok.dom b B h1).2
    have hlive : ∀ b ∈ as, ∃ y : Blk, h[b]? = some (some y) := fun b hb => run_live hs b (s1 b hb)
    refine (hp Fc w vs hFc ⟨by show bs.J w.heap; rw [hw]; exact hbs.1, fun B hB => .inl (hbs.2 B hB)⟩ (by rw [hw]; exact (s3 _ Fc hcov).2 hxs)).mono fun e w' hpost => ?_
    obtain ⟨v, F', rfl, q1, q2, q3, q4, q5⟩ := hpost
    have hblock : ∀ B, B < M.H.size → w'.heap[B]? = M.H[B]? := fun B hB => by rw [q5.block B (by rw [hw]; exact hB), hw]
    have hsz : M.H.size ≤ w'.heap.size := by rw [← hw]; exact q5.size
    by_cases hl : leads r = true
    · rw [if_pos hl] at hr
      replace hr := HM.run_bind hr; obtain ⟨ws', r3, r4, hfz, hr, _⟩ := hr
      have := (HM.run_ret hr).1
      cases this
      obtain ⟨f1, f2, f3⟩ := freezes_ok hfz h rfl
      -- what the blocks are now
      have hnow : ∀ (b : Nat) (y : Blk), (applyWs h ws)[b]? = some (some y) → ∃ y0 : Blk, h[b]? = some (some y0) ∧ y.els = y0.els ∧ y.k = y0.k ∧ ((b ∈ as ∧ y.rw = false) ∨ (b ∉ as ∧ y.rw = y0.rw)) := by
        intro b y hy
        by_cases hb : b ∈ as
        · obtain ⟨y0, hy0⟩ := hlive b hb
          cases hrw : y0.rw with
          | true =>
            rw [f2 b y0 hb hy0 hrw] at hy
            cases hy
            exact ⟨y0, hy0, rfl, rfl, .inl ⟨hb, rfl⟩⟩
          | false =>
            rw [f3 b (.inr ⟨y0, hy0, hrw⟩), hy0] at hy
            cases hy
            exact ⟨_, hy0, rfl, rfl, .inl ⟨hb, hrw⟩⟩
        · rw [f3 b (.inl hb)] at hy
          exact ⟨y, hy, rfl, rfl, .inr ⟨hb, rfl⟩⟩
      have hk : Keeps M ⟨F', w'.heap, M.μ⟩ := ⟨fun B hB => q2 B (.inl hB), fun B hB => cellsAt_of (hblock B (ok.F B hB)), fun _ _ h => h, fun b B hb => by
        show (cellsAt w'.heap B).length = _
        rw [cellsAt_of (hblock B (ok.dom b B hb).2)]⟩
      refine ⟨v, ⟨F', w'.heap, M.μ⟩, rfl, Rel.mono (show Keeps ⟨F', w'.heap, fun _ => none⟩ ⟨F', w'.heap, M.μ⟩ from ⟨fun _ h => h, fun _ _ => rfl, fun _ _ h => (by cases h), fun _ _ h => (by cases h)⟩) q1, ?_, ?_, fun _ h => h, rfl, ⟨q5.os, q5.tape, q5.output⟩⟩
      · refine ⟨fun b y hy => ?_, fun b b' y y' B h1 h2 h3 h4 => ?_, fun b B hb => ?_, fun B hB => q4 B hB⟩
        · obtain ⟨y0, hy0, e1, e2, e3⟩ := hnow b y hy
          obtain ⟨B, arr, ty, g1, g2, g3, g4⟩ := ok.live b y0 hy0
          have hBs := (ok.dom b B g1).2
          refine ⟨B, arr, ty, g1, by show w'.heap[B]? = _; rw [hblock B hBs, g2], by rw [e1, e2]; exact g3.mono hk, ?_⟩
          rcases e3 with ⟨hb, e3⟩ | ⟨hb, e3⟩
          · rw [e3]
            simp only [Bool.false_eq_true, false_iff, Classical.not_not]
            exact q2 B (.inr ⟨b, hb, g1⟩)
          · rw [e3, g4]
            refine not_congr ⟨fun hF => q2 B (.inl hF), fun hF => ?_⟩
            rcases q3 B hF with (hF | ⟨b', hb', g5⟩) | hF
            · exact hF
            · obtain ⟨y', hy'⟩ := hlive b' hb'
              have := ok.inj b b' y0 y' B hy0 hy' g1 g5
              exact absurd (this ▸ hb') hb
            · rw [hw] at hF; omega
        · obtain ⟨y0, hy0, _⟩ := hnow b y h1
          obtain ⟨y1, hy1, _⟩ := hnow b' y' h2
          exact ok.inj b b' y0 y1 B hy0 hy1 h3 h4
        · have := ok.dom b B hb
          exact ⟨by rw [f1]; exact this.1, Nat.lt_of_lt_of_le this.2 hsz⟩
      · refine ⟨fun B hB => q2 B (.inl hB), fun B hB => ?_, fun _ _ h => h, hk.len, hsz, fun B hB _ => hblock B hB, ?_, by rw [f1]; exact Nat.le_refl _⟩
        · rcases q3 B hB with (hF | ⟨b', hb', g5⟩) | hF
          · exact .inl hF
          · obtain ⟨y', hy'⟩ := hlive b' hb'
            obtain ⟨_, hrw, _⟩ := liveCells ok hy' g5
            by_cases hF : M.F B
            · exact .inl hF
            · exact .inr (.inr ⟨b', y', hy', hrw.2 hF, g5⟩)
          · rw [hw] at hF; exact .inr (.inl hF)
        · rintro B ⟨b, y, h1, h2, h3⟩
          obtain ⟨y0, hy0, e1, e2, e3⟩ := hnow b y h1
          rcases e3 with ⟨hb, e3⟩ | ⟨hb, e3⟩
          · rw [e3] at h2; cases h2
          · exact .inl ⟨b, y0, hy0, by rw [← e3]; exact h2, h3⟩
    · rw [if_neg hl] at hr
      have := (HM.run_ret hr).1
      cases this
      have hk : Keeps M ⟨M.F, w'.heap, M.μ⟩ := ⟨fun B hB => hB, fun B hB => cellsAt_of (hblock B (ok.F B hB)), fun _ _ h => h, fun b B hb => by
        show (cellsAt w'.heap B).length = _
        rw [cellsAt_of (hblock B (ok.dom b B hb).2)]⟩
      refine ⟨v, ⟨M.F, w'.heap, M.μ⟩, rfl, noLeads q1 (by simpa using hl), ?_, ?_, fun _ h => h, rfl, ⟨q5.os, q5.tape, q5.output⟩⟩
      · refine ⟨fun b y hy => ?_, fun b b' y y' B h1 h2 h3 h4 => ok.inj b b' y y' B h1 h2 h3 h4, fun b B hb => ?_, fun B hB => Nat.lt_of_lt_of_le (ok.F B hB) hsz⟩
        · obtain ⟨B, arr, ty, g1, g2, g3, g4⟩ := ok.live b y hy
          exact ⟨B, arr, ty, g1, by show w'.heap[B]? = _; rw [hblock B (ok.dom b B g1).2, g2], g3.mono hk, g4⟩
        · have := ok.dom b B hb
          exact ⟨this.1, Nat.lt_of_lt_of_le this.2 hsz⟩
      · exact ⟨fun B hB => hB, fun B hB => .inl hB, fun _ _ h => h, hk.len, hsz, fun B hB _ => hblock B hB, fun B hB => .inl hB, Nat.le_refl _⟩
end
end Go.Proofs.YtjhekjhbjaengaaGreatDoor.Ev
