/- Any operation; a function run with a memory of its own; regions in the text's order. -/
import Derived.Test.YtjhekjhbjaengaaGreatDoorEvC
namespace Go.Proofs.YtjhekjhbjaengaaGreatDoor.Ev
open Go Go.RowKit

section
variable {P : Program} {M : Mem} {h : Heap} {w : World} {a : Act} {t : List AV} {slot : Nat} {x : AV} {ws : Ws} {rs : List Nat}
  {cf : FuncId → List AV → HM (AV × Ws)} {bs : Base}

theorem aop_ok {o : Oper} (hcf : CfOK P bs cf) (hbs : bs.ok M) (ok : MemOK M h) (hw : w.heap = M.H) (hs : slot < h.length) (hμ : M.μ slot = none) (ht : RelT M t a.tmps.toList) (hr : (aop P cf o t slot).run h = some ((x, ws), rs)) :
    OpOK P o a w M h slot x ws := by
  obtain ⟨dst, op, type, pos, after, guard⟩ := o
  cases op
  case move y => exact op_move ok hw ht hr
  case assign y => exact op_assign ok hw ht hr
  case pick c y z => exact op_pick ok hw ht hr
  case extract y i => exact op_extract ok hw ht hr
  case nilCheck y => exact op_nilCheck ok hw ht hr
  case makeInterface ty y => exact op_makeInterface ok hw ht hr
  case makeFunc f first cap =>
    cases f
    case func f => exact op_makeFunc ok hw ht hr
    all_goals exact (HM.run_bad hr).elim
  case alloc ty => exact op_alloc ok hw hs hμ hr
  case box ty y => exact op_box ok hw ht hs hμ hr
  case load ty y => exact op_load ok hw ht hr
  case store ty y z => exact op_store ok hw ht hr
  case fieldAddr s y f => exact op_fieldAddr ok hw ht hr
  case field s y f => exact op_field ok hw ht hr
  case indexAddr ty y ix => exact op_indexAddr ok hw ht hr
  case index ty y ix => exact op_index ok hw ht hr
  case slice ty y lo hi mx => exact op_slice ok hw ht hr
  case build ty parts => exact op_build ok hw ht hr
  case buildSlice ty len parts => exact op_buildSlice ok hw hs hμ ht hr
  case makeSlice ty y z => exact op_makeSlice ok hw hs hμ ht hr
  case binOp op ty y z yt => exact op_binOp ok hw ht hr
  case unOp op ty y => exact op_unOp ok hw ht hr
  case convert s d y => exact op_convert ok hw ht hr
  case call c =>
    cases hc : c.callee with
    | value f => exact op_call hc hcf hbs ok hw ht hr
    | invoke r m => simp only [aop, hc] at hr; exact (HM.run_bad hr).elim
    | builtin b =>
      cases b
      case len => exact op_len hc ok hw ht hr
      case append => exact op_append hc ok hw hs hμ ht hr
      case copy => exact op_copy hc ok hw ht hr
      case max => exact op_minmax (.inl hc) ok hw ht hr
      case min => exact op_minmax (.inr hc) ok hw ht hr
      all_goals (simp only [aop, hc] at hr; exact (HM.run_bad hr).elim)
  all_goals exact (HM.run_bad hr).elim
end

/-- What a call that works on its caller's memory comes to. -/
def RunOK (P : Program) (b : Base) (rf : RF) : Prop :=
  ∀ g xs (h : Heap) r h', rf g xs h = some (r, h') → Entered P g ∧ ∀ (M : Mem) (w : World) (vs : Array Value), w.heap = M.H → MemOK M h → b.ok M → RelT M xs vs.toList →
    Calls P g vs w fun e w' => ∃ v M', e = .returned v ∧ Rel M' r v ∧ MemOK M' h' ∧ Fr M h M' h' ∧ w'.heap = M'.H ∧ Same w w'

section
variable {P : Program} {bs : Base}
theorem noOwn {M : Mem} {B : Nat} : ¬ Own M [] B := by
  rintro ⟨b, x, h1, _⟩
  simp at h1
theorem memEmpty {F : Nat → Prop} {H : Array Obj} (hF : ∀ B, F B → B < H.size) : MemOK ⟨F, H, fun _ => none⟩ [] :=
  ⟨fun b x hx => by simp at hx, fun b b' x y B h1 => by simp at h1, fun b B hb => (by cases hb), hF⟩

theorem pure_ok {rf : RF} (hrf : RunOK P bs rf) (g : FuncId) : PureOK P bs g (pure_ rf g) := by
  intro xs r hr
  unfold pure_ at hr
  split at hr
  · rename_i r0 h' hrun
    split at hr
    · rename_i x as rs hsnap
      cases hr
      obtain ⟨he, hcall⟩ := hrf g xs [] r0 h' hrun
      refine ⟨he, fun F w vs hF hb hxs => (hcall ⟨F, w.heap, fun _ => none⟩ w vs rfl (memEmpty hF) hb hxs).mono fun e w' hpost => ?_⟩
      obtain ⟨v, M', rfl, p1, p2, p3, p4, p5⟩ := hpost
      obtain ⟨s1, s2, s3⟩ := snap_ok p2 snapD r0 r as rs hsnap
      have hnew : ∀ B, M'.F B → F B ∨ w.heap.size ≤ B := fun B hB => by
        rcases p3.new B hB with h1 | h1 | h1
        · exact .inl h1
        · exact .inr h1
        · exact (noOwn h1).elim
      refine ⟨v, fun B => M'.F B ∨ ∃ b ∈ as, M'.μ b = some B, rfl, ?_, fun B hB => .inl (p3.F B hB), ?_, ?_, ⟨p5.os, p5.tape, p5.output, by rw [p4]; exact p3.size, fun k hk => by rw [p4]; exact p3.old k hk noOwn⟩⟩
      · rw [p4]
        exact s3 v _ p1 ⟨fun B h => .inl h, fun b hb B hB => .inr ⟨b, hb, hB⟩⟩
      · rintro B (hB | ⟨b, hb, hB⟩)
        · exact hnew B hB
        · obtain ⟨y, hy⟩ := run_live hsnap b (s1 b hb)
          obtain ⟨_, hrw, _⟩ := liveCells p2 hy hB
          by_cases hF' : M'.F B
          · exact hnew B hF'
          · rcases p3.own B ⟨b, y, hy, hrw.2 hF', hB⟩ with h1 | h1
            · exact (noOwn h1).elim
            · exact .inr h1
      · rintro B (hB | ⟨b, hb, hB⟩)
        · rw [p4]; exact p2.F B hB
        · rw [p4]; exact (p2.dom b B hB).2
    · cases hr
  · cases hr

/-- What the program may be asked. -/
structure SysOK (S : Sys) (bs : Base) : Prop where
  G : ∀ g f, S.G g = some f → PureOK S.P bs g f
  mixed : S.P.follows .mixedOrders = true

/-- The state of an activation. -/
structure Stt (bs : Base) (M : Mem) (s : AS) (a : Act) (w : World) : Prop where
  t : RelT M s.t a.tmps.toList
  d : a.defers = []
  m : MemOK M s.h
  b : bs.ok M
  w : w.heap = M.H

theorem put_rel {M : Mem} {t : List AV} {a : Act} {x : AV} {v : Value} (ht : RelT M t a.tmps.toList) (hx : Rel M x v) (dst : Option Tmp) : RelT M (put t dst x) (a.put dst v).tmps.toList := by
  cases dst with
  | none => exact ht
  | some d =>
    simp only [put, Act.put, Array.toList_setIfInBounds]
    exact ht.set hx
theorem put_defers (a : Act) (dst : Option Tmp) (v : Value) : (a.put dst v).defers = a.defers := by cases dst <;> rfl

/-- A guard that told is told. -/
theorem wanted_eq {M : Mem} {t : List AV} {a : Act} {ops : Array Oper} {o : Oper} (ht : RelT M t a.tmps.toList) : Region.wanted o (yielded ops a.tmps) = awanted ops o t := by
  unfold Region.wanted awanted
  cases hg : o.guard with
  | none => rfl
  | some p =>
    obtain ⟨j, want⟩ := p
    simp only [yielded]
    cases hd : (ops[j]?).bind (·.dst) with
    | none => simp
    | some d =>
      simp only [Option.bind_some]
      cases hx : t[d]? with
      | none =>
        have : a.tmps[d]? = none := by
          have h1 := ht.length
          rw [Array.getElem?_eq_none_iff]
          rw [List.getElem?_eq_none_iff] at hx
          simp at h1
          omega
        simp [this]
      | some x =>
        obtain ⟨c, h1, h2⟩ := ht.get hx
        have h3 : a.tmps[d]? = some c := by simpa using h1
        simp only [h3]
        cases x with
        | v u =>
          unfold Rel at h2
          subst h2
          cases c <;> simp
        | _ =>
          have hb : ∀ b, c ≠ .bool b := by
            intro b hb
            subst hb
            unfold Rel at h2
            simp at h2
          cases c <;> simp at hb ⊢
end
end Go.Proofs.YtjhekjhbjaengaaGreatDoor.Ev
