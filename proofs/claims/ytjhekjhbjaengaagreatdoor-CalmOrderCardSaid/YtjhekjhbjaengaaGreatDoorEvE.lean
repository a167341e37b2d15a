/- Regions, code, functions. -/
import Derived.Test.YtjhekjhbjaengaaGreatDoorEvG2
namespace Go.Proofs.YtjhekjhbjaengaaGreatDoor.Ev
open Go Go.RowKit

theorem filter_le {p p' : Nat → Bool} : ∀ {l : List Nat}, (∀ j ∈ l, p' j = true → p j = true) → (l.filter p').length ≤ (l.filter p).length
  | [], _ => Nat.le_refl _
  | x :: l, h => by
    have ih := filter_le (l := l) fun j hj => h j (by simp [hj])
    have hx := h x (by simp)
    rw [List.filter_cons, List.filter_cons]
    cases h1 : p' x with
    | true => rw [hx h1]; simp [ih]
    | false => cases p x <;> simp <;> omega
theorem filter_lt {p p' : Nat → Bool} {i : Nat} : ∀ {l : List Nat}, (∀ j ∈ l, p' j = true → p j = true) → i ∈ l → p i = true → p' i = false → (l.filter p').length < (l.filter p).length
  | [], _, hi, _, _ => by simp at hi
  | x :: l, h, hi, h1, h2 => by
    rw [List.filter_cons, List.filter_cons]
    by_cases hx : x = i
    · subst hx
      rw [h1, h2]
      have := filter_le (l := l) fun j hj => h j (by simp [hj])
      simp
      omega
    · have hil : i ∈ l := by
        rcases List.mem_cons.1 hi with h3 | h3
        · exact absurd h3.symm hx
        · exact h3
      have ih := filter_lt (l := l) (fun j hj => h j (by simp [hj])) hil h1 h2
      have hx' := h x (by simp)
      cases h3 : p' x with
      | true => rw [hx' h3]; simpa using ih
      | false => cases p x <;> simp <;> omega

section
variable {P : Program} {bs : Base} {cf : FuncId → List AV → HM (AV × Ws)} {ops : Array Oper} {base : Nat} {s s' : AS} {fs : List Foot} {Q : Exit → Act → World → Prop}

theorem mem_ready {listed : Array Bool} {i : Nat} (h : i ∈ Region.ready .any ops listed) : i < ops.size ∧ listed.getD i true = false ∧ ∀ (o : Oper) (e : Edge), ops[i]? = some o → e ∈ o.after.toList → Region.binds .any e = true → listed.getD e.on false = true := by
  unfold Region.ready at h
  rw [List.mem_filter, List.mem_range] at h
  obtain ⟨h1, h2⟩ := h
  simp only [Bool.and_eq_true, Bool.not_eq_true'] at h2
  refine ⟨h1, h2.1, fun o e ho he hb => ?_⟩
  have h3 := h2.2
  simp only [ho, Option.map_some, Option.getD_some] at h3
  have := Array.all_eq_true'.1 h3 e (by simpa using he)
  rw [hb] at this
  simpa using this
theorem ready_mem {listed : Array Bool} {i : Nat} (h1 : i < ops.size) (h2 : listed.getD i true = false) (h3 : ∀ (o : Oper) (e : Edge), ops[i]? = some o → e ∈ o.after.toList → Region.binds .any e = true → listed.getD e.on false = true) : i ∈ Region.ready .any ops listed := by
  unfold Region.ready
  rw [List.mem_filter, List.mem_range]
  refine ⟨h1, ?_⟩
  have ho : ops[i]? = some ops[i] := by simp [h1]
  simp only [Bool.and_eq_true, Bool.not_eq_true', ho, Option.map_some, Option.getD_some]
  refine ⟨h2, Array.all_eq_true'.2 fun e he => ?_⟩
  cases hb : Region.binds .any e with
  | false => rfl
  | true => simpa using h3 ops[i] e ho (by simpa using he) hb

theorem any_ok (hcf : CfOK P bs cf) (hrun : aops P cf ops ops.toList base s [] = some (s', fs)) (hord : anyOrder ops fs = true) (hbase : base + ops.size ≤ s.h.length) {M0 : Mem} {a0 : Act} {w0 : World} (h0 : Stt bs M0 s a0 w0)
    (hfree : ∀ j, j < ops.size → M0.μ (base + j) = none) (hQ : ∀ M' a' w', Stt bs M' s' a' w' → Fr M0 s.h M' s'.h → Same w0 w' → Q .normal a' w') :
    wpAny P .any ops Q ops.size (Array.replicate ops.size false) a0 w0 := by
  obtain ⟨tr, t1, t2, t3, t4⟩ := aops_trace hrun
  have hlen : tr.length = ops.size := by simpa using t1
  simp only [anyOrder, Bool.and_eq_true] at hord
  obtain ⟨hedge, hord⟩ := hord
  have hfs : fs = tr.map Tr.foot := by simpa using t3
  have hord' : ∀ i j, i < j → j < ops.size → ((Region.before ops).getD j 0).testBit i = true ∨ conflict ops (tr.map Tr.foot) i j = false := by
    intro i j hij hj
    have h1 := List.all_eq_true.1 hord j (List.mem_range.2 hj)
    have h2 := List.all_eq_true.1 h1 i (List.mem_range.2 hij)
    rw [← hfs]
    simpa [Bool.or_eq_true] using h2
  have hedge' : ∀ {d : Nat} {o : Oper} {e : Edge}, ops[d]? = some o → e ∈ o.after.toList → Region.binds .any e = true → e.on < d := fun ho he hb => by
    simpa using edges_earlier hedge (by simpa using ho) he hb
  have key : ∀ (fuel : Nat) (listed : Array Bool) (a : Act) (w : World), listed.size = ops.size → ((List.range ops.size).filter fun j => !listed.getD j true).length ≤ fuel →
      (∀ (d : Nat) (o : Oper) (e : Edge), listed.getD d false = true → ops[d]? = some o → e ∈ o.after.toList → Region.binds .any e = true → listed.getD e.on false = true) →
      (∃ M, Held bs M0 s w0 tr base ops.size (fun j => listed.getD j false) a w M) → wpAny P .any ops Q fuel listed a w := by
    have done : ∀ (listed : Array Bool) (a : Act) (w : World), listed.size = ops.size → (∀ j, j < ops.size → listed.getD j true = true) → (∃ M, Held bs M0 s w0 tr base ops.size (fun j => listed.getD j false) a w M) → Region.ready .any ops listed = [] ∧ Q .normal a w := by
      intro listed a w hsz hall ⟨M, hI⟩
      have hall' : ∀ j, j < ops.size → listed.getD j false = true := fun j hj => by
        have := hall j hj
        rw [Array.getD_eq_getD_getElem?, Array.getElem?_eq_getElem (by omega)] at this ⊢
        exact this
      refine ⟨List.eq_nil_iff_forall_not_mem.2 fun i hi => ?_, ?_⟩
      · obtain ⟨h1, h2, _⟩ := mem_ready hi
        rw [hall i h1] at h2
        cases h2
      · have e1 : selT (fun j => listed.getD j false) 0 tr s.t = s'.t := by
          rw [t2 0]
          exact selT_congr fun j hj => by rw [Nat.zero_add]; exact hall' j (by omega)
        have e2 : selH (fun j => listed.getD j false) 0 tr s.h = s'.h := by
          rw [t2 0]
          exact selH_congr fun j hj => by rw [Nat.zero_add]; exact hall' j (by omega)
        have g1 := hI.rt
        have g2 := hI.mm
        have g3 := hI.fr
        rw [e1] at g1
        rw [e2] at g2 g3
        exact hQ M a w ⟨g1, hI.df, g2, hI.bk, hI.wh⟩ g3 hI.same
    intro fuel
    induction fuel with
    | zero =>
      intro listed a w hsz hcnt hcl hI
      refine done listed a w hsz (fun j hj => ?_) hI
      have hnil : (List.range ops.size).filter (fun j => !listed.getD j true) = [] := List.eq_nil_of_length_eq_zero (by omega)
      have := List.filter_eq_nil_iff.1 hnil j (List.mem_range.2 hj)
      simpa using this
    | succ fuel ih =>
      intro listed a w hsz hcnt hcl hI
      refine ⟨fun hr => ?_, fun i hi => ?_⟩
      · refine (done listed a w hsz (fun j hj => ?_) hI).2
        -- the least that is not listed would be ready
        have : ∀ m j, j ≤ m → j < ops.size → listed.getD j true = true := by
          intro m
          induction m with
          | zero =>
            intro j hj hjs
            refine Classical.byContradiction fun hn => ?_
            have : j ∈ Region.ready .any ops listed := ready_mem hjs (by simpa using hn) fun o e ho he hb => by
              have := hedge' ho he hb
              omega
            rw [hr] at this
            cases this
          | succ m ihm =>
            intro j hj hjs
            refine Classical.byContradiction fun hn => ?_
            have : j ∈ Region.ready .any ops listed := ready_mem hjs (by simpa using hn) fun o e ho he hb => by
              have h1 := hedge' ho he hb
              have h2 := ihm e.on (by omega) (by omega)
              rw [Array.getD_eq_getD_getElem?, Array.getElem?_eq_getElem (by omega)] at h2 ⊢
              exact h2
            rw [hr] at this
            cases this
        exact this j j (Nat.le_refl _) hj
      · obtain ⟨h1, h2, h3⟩ := mem_ready hi
        obtain ⟨M, hI⟩ := hI
        have hbi : listed.getD i false = false := by
          rw [Array.getD_eq_getD_getElem?, Array.getElem?_eq_getElem (by omega)] at h2 ⊢
          exact h2
        have hclosed : ∀ d j, listed.getD d false = true → ((Region.before ops).getD d 0).testBit j = true → listed.getD j false = true := fun d j hd hj =>
          closed_before (b := fun j => listed.getD j false) hcl d d j (Nat.le_refl _) hd hj
        have hup : (fun j => (listed.setIfInBounds i true).getD j false) = up (fun j => listed.getD j false) i := by
          funext j
          by_cases hj : j = i
          · subst hj
            rw [up_self, Array.getD_eq_getD_getElem?, Array.getElem?_setIfInBounds_self_of_lt (by omega)]
            rfl
          · rw [up_ne hj, Array.getD_eq_getD_getElem?, Array.getElem?_setIfInBounds_ne (fun e => hj e.symm), Array.getD_eq_getD_getElem?]
        refine inv_step hcf hlen hbase t4 hord' h1 hbi hclosed (fun j hj => ?_) hI fun a' w' M' hI' => ?_
        · obtain ⟨o, e, g1, g2, g3, g4⟩ := before_bit hj
          have := h3 o e g1 g2 g3
          rcases g4 with rfl | ⟨_, g4⟩
          · exact this
          · exact hclosed e.on j this g4
        · refine ih _ a' w' (by simpa using hsz) ?_ (fun d o e hd ho he hb => ?_) ⟨M', by rw [hup]; exact hI'⟩
          · have hlt := filter_lt (p := fun j => !listed.getD j true) (p' := fun j => !(listed.setIfInBounds i true).getD j true) (i := i) (l := List.range ops.size) (fun j _ hj => by
              by_cases hji : j = i
              · subst hji; simpa using h2
              · simp only [Array.getD_eq_getD_getElem?, Array.getElem?_setIfInBounds_ne (fun e => hji e.symm)] at hj ⊢
                exact hj) (List.mem_range.2 h1) (by simpa using h2) (by rw [Array.getD_eq_getD_getElem?, Array.getElem?_setIfInBounds_self_of_lt (by omega)]; rfl)
            omega
          · have g : ∀ j, (listed.setIfInBounds i true).getD j false = up (fun j => listed.getD j false) i j := fun j => congrFun hup j
            rw [g] at hd ⊢
            by_cases hdi : d = i
            · subst hdi
              have := h3 o e ho he hb
              by_cases hei : e.on = d
              · rw [hei, up_self]
              · rw [up_ne hei]; exact this
            · rw [up_ne hdi] at hd
              have := hcl d o e hd ho he hb
              by_cases hei : e.on = i
              · rw [hei, up_self]
              · rw [up_ne hei]; exact this
  refine key ops.size _ a0 w0 (by simp) ?_ (fun d o e hd => ?_) ⟨M0, ?_⟩
  · exact Nat.le_trans (List.length_filter_le _ _) (by simp)
  · rw [Array.getD_eq_getD_getElem?, Array.getElem?_replicate] at hd
    split at hd <;> cases hd
  · have hb : ∀ j, (Array.replicate ops.size false).getD j false = false := fun j => by
      rw [Array.getD_eq_getD_getElem?, Array.getElem?_replicate]
      split <;> rfl
    have e1 := selT_none (b := fun j => (Array.replicate ops.size false).getD j false) (tr := tr) (i := 0) (t := s.t) hb
    have e2 := selH_none (b := fun j => (Array.replicate ops.size false).getD j false) (tr := tr) (i := 0) (t := s.h) hb
    exact ⟨by rw [e1]; exact h0.t, h0.d, by rw [e2]; exact h0.m, h0.b, h0.w, by rw [e2]; exact Fr.refl _ _, Same.refl _, fun j hj _ => hfree j hj⟩
end
end Go.Proofs.YtjhekjhbjaengaaGreatDoor.Ev
