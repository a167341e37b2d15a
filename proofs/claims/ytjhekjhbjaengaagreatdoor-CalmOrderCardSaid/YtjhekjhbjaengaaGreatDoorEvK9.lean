/- The second evaluator: regions, code, functions. It is sound. -/
import Derived.Test.YtjhekjhbjaengaaGreatDoorEvK8
namespace Go.Proofs.YtjhekjhbjaengaaGreatDoor.Ev
open Go Go.RowKit

section
variable {C : Cfg} {rfx : XRF} {rf : RF} {ops : Array Oper} {ι : Nat → Nat} {D : Nat → Prop}
/-- What a stretch of a run keeps. -/
def Kept (s s' : XS) (sa sa' : AS) (D D' : Nat → Prop) (ι ι' : Nat → Nat) : Prop := sa'.t.length = sa.t.length ∧ s.n ≤ s'.n ∧ (∀ b, b < s.n → ι' b = ι b) ∧ ∀ b, D b → D' b
theorem Kept.refl {s : XS} {sa : AS} : Kept s s sa sa D D ι ι := ⟨rfl, Nat.le_refl _, fun _ _ => rfl, fun _ h => h⟩
theorem Kept.trans {s s' s'' : XS} {sa sa' sa'' : AS} {D D' D'' : Nat → Prop} {ι ι' ι'' : Nat → Nat} (h : Kept s s' sa sa' D D' ι ι') (k : Kept s' s'' sa' sa'' D' D'' ι' ι'') : Kept s s'' sa sa'' D D'' ι ι'' :=
  ⟨k.1.trans h.1, Nat.le_trans h.2.1 k.2.1, fun b hb => (k.2.2.1 b (Nat.lt_of_lt_of_le hb h.2.1)).trans (h.2.2.1 b hb), fun b hb => k.2.2.2 b (h.2.2.2 b hb)⟩
def Owing (C : Cfg) (rf : RF) : Prop := ∀ g ys r, C.sum g = true → C.owed g ys r → pure_ rf g (erL ys id) = some (er r id)
theorem XRel.more {s : XS} {sa : AS} {m : Nat} (R : XRel D ι m s sa) (k : Nat) : XRel D ι m s ⟨sa.t, sa.h ++ List.replicate k none⟩ := by
  refine ⟨R.t, fun b x hb => ?_, R.dom, R.dlt, R.inj, R.lt, ?_⟩
  · obtain ⟨h1, h2, h3⟩ := R.h b x hb
    refine ⟨h1, ?_, h3⟩
    show (sa.h ++ List.replicate k none)[ι b]? = _
    rw [List.getElem?_append_left (Nat.lt_of_lt_of_le (R.lt b (R.dom b x hb)) R.le)]
    exact h2
  · show m ≤ (sa.h ++ List.replicate k none).length
    rw [List.length_append]
    have := R.le
    omega
theorem XRel.upto {s : XS} {sa : AS} {m m' : Nat} (R : XRel D ι m s sa) (h : m ≤ m') (h' : m' ≤ sa.h.length) : XRel D ι m' s sa := ⟨R.t, R.h, R.dom, R.dlt, R.inj, fun b hb => Nat.lt_of_lt_of_le (R.lt b hb) h, h'⟩
def dstOk (n : Nat) (o : Oper) : Bool := match o.dst with | some d => Nat.blt d n | none => true
theorem dstOk_lt {n : Nat} {o : Oper} (h : dstOk n o = true) : ∀ d, o.dst = some d → d < n := by
  intro d hd
  unfold dstOk at h
  rw [hd] at h
  exact blt_nat h
theorem skip_dst {s : XS} {sa : AS} {m : Nat} {o : Oper} (R : XRel D ι m s sa) (hd : dstOk sa.t.length o = true) : XRel D ι m ⟨xput o.dst (.v undef) s.t, s.h, s.n⟩ ⟨put sa.t o.dst (.v undef), sa.h⟩ := by
  rcases skip_ok (dst := o.dst) (a := sa) (t := s.t) (h := s.h) (nx := s.n) R with h | ⟨d, h1, h2⟩
  · exact h
  · exact absurd (dstOk_lt hd d h1) (Nat.not_lt.2 h2)
theorem put_len (t : List AV) (dst : Option Tmp) (x : AV) : (put t dst x).length = t.length := by cases dst <;> simp [put]

/-- Operations in the text's order. -/
theorem xseq_ok (hrf : RFOK rfx rf) (how : Owing C rf) : ∀ (l : List Oper) (s : XS) (q : List Told) (K : XS → List Told → Prop) (D : Nat → Prop) (ι : Nat → Nat) (sa : AS), xseq C rfx ops l s q K → XRel D ι sa.h.length s sa → (l.all (dstOk sa.t.length)) = true →
    ∃ s' sa' q' D' ι', aseq C.S rf ops l sa = some sa' ∧ XRel D' ι' sa'.h.length s' sa' ∧ Kept s s' sa sa' D D' ι ι' ∧ K s' q'
  | [], s, q, K, D, ι, sa, hk, R, _ => ⟨s, sa, q, D, ι, rfl, R, .refl, hk⟩
  | o :: r, s, q, K, D, ι, sa, hk, R, hd => by
    simp only [List.all_cons, Bool.and_eq_true] at hd
    simp only [xseq] at hk
    obtain ⟨t1, q1, R1, hk⟩ := xwanted_ok (t := s.t) (h := s.h) (nx := s.n) R hk
    simp only [aseq]
    cases hw : awanted ops o sa.t with
    | false =>
      rw [hw] at hk
      simp only [cond_false] at hk
      simp only [Bool.false_eq_true, if_false]
      have R2 := skip_dst R1 hd.1
      obtain ⟨s', sa', q', D', ι', k1, k2, k3, k4⟩ := xseq_ok hrf how r _ _ _ D ι ⟨put sa.t o.dst (.v undef), sa.h⟩ hk R2 (by show r.all (dstOk (put sa.t o.dst (.v undef)).length) = true; rw [put_len]; exact hd.2)
      exact ⟨s', sa', q', D', ι', k1, k2, ⟨by rw [k3.1, put_len], k3.2⟩, k4⟩
    | true =>
      rw [hw] at hk
      simp only [cond_true] at hk
      simp only [if_true]
      split at hk
      · rename_i g xs hp
        unfold xplace at hp
        split at hp
        · rename_i c ho
          split at hp
          · rename_i g' xs' hc
            cases hI : C.S.inl g' with
            | false => simp [hI] at hp
            | true =>
              simp only [hI, cond_true, Option.some.injEq, Prod.mk.injEq] at hp
              obtain ⟨rfl, rfl⟩ := hp
              obtain ⟨hl, f, cap, ys, hcal, h1, h2, h3⟩ := xcalled_ok R1 hc
              obtain ⟨r0, h', n', q2, D', ι', ha', k1, k2, k3, k4, k5⟩ := hrf false g' xs' s.h s.n q1 _ hk D ι sa.h R1.heap hl
              obtain ⟨f1, f2, f3⟩ := k4 rfl
              have hin : inplace C.S rf o sa = some (er r0 ι', ha') := by
                unfold inplace
                simp only [ho, hcal, h1, h2, hI, if_true, h3, k1]
              rw [hin]
              simp only
              have R3 : XRel D' ι' ha'.length ⟨xput o.dst r0 t1, h', n'⟩ ⟨put sa.t o.dst (er r0 ι'), ha'⟩ := by
                refine HRel.of k3 fun i x hx => ?_
                have old : ∀ i x, t1.get (path i) = some x → o.dst ≠ some i → (put sa.t o.dst (er r0 ι'))[i]? = some (er x ι') ∧ lo n' x := by
                  intro i x hx hne
                  obtain ⟨j1, j2⟩ := R1.t i x hx
                  exact ⟨by rw [er_congr f2 x j2]; exact put_get j1 hne, lo_mono f1 x j2⟩
                cases hdst : o.dst with
                | none => rw [hdst] at hx; have := old i x hx (by rw [hdst]; simp); rwa [hdst] at this
                | some d =>
                  rw [hdst] at hx
                  simp only [xput] at hx
                  rw [get_put] at hx
                  split at hx
                  · rename_i e
                    subst e
                    cases hx
                    refine ⟨?_, k2⟩
                    simp only [put]
                    rw [List.getElem?_set_self (dstOk_lt hd.1 d hdst)]
                  · rename_i e
                    have := old i x hx (by rw [hdst]; simpa using e)
                    rwa [hdst] at this
              obtain ⟨s', sa', q', D'', ι'', j1, j2, j3, j4⟩ := xseq_ok hrf how r _ _ _ D' ι' ⟨put sa.t o.dst (er r0 ι'), ha'⟩ k5 R3 (by show r.all (dstOk (put sa.t o.dst (er r0 ι')).length) = true; rw [put_len]; exact hd.2)
              refine ⟨s', sa', q', D'', ι'', j1, j2, Kept.trans (s' := ⟨xput o.dst r0 t1, h', n'⟩) (sa' := ⟨put sa.t o.dst (er r0 ι'), ha'⟩) ⟨put_len _ _ _, f1, f2, f3⟩ j3, j4⟩
          · cases hp
        · cases hp
      · rename_i hp
        have hin : inplace C.S rf o sa = none ∨ ∃ c, o.op = .call c ∧ isFn c = true ∧ xcalled t1 c = none := by
          unfold xplace at hp
          split at hp
          · rename_i c ho
            cases hfn : isFn c with
            | false =>
              left
              unfold inplace
              unfold isFn at hfn
              split at hfn
              · cases hfn
              · rename_i hne
                simp only [ho]
            | true =>
              split at hp
              · rename_i g' xs' hc
                left
                obtain ⟨hl, f, cap, ys, hcal, h1, h2, h3⟩ := xcalled_ok R1 hc
                cases hI : C.S.inl g' with
                | true => simp [hI] at hp
                | false =>
                  unfold inplace
                  simp only [ho, hcal, h1, h2, hI, Bool.false_eq_true, if_false]
              · rename_i hc
                exact .inr ⟨c, ho, hfn, hc⟩
          · rename_i hne
            left
            unfold inplace
            split
            · rename_i c ho
              exact absurd ho (hne c)
            · rfl
        rcases hin with hin | ⟨c, ho, hfn, hc⟩
        · rw [hin]
          simp only
          have R2 : XRel D ι sa.h.length ⟨t1, s.h, s.n⟩ ⟨sa.t, sa.h ++ [none]⟩ := R1.more 1
          obtain ⟨t2, y, q2, R3, kr, hk⟩ := xdo_ok (slot := sa.h.length) hrf how R2 hk
          obtain ⟨x', ws', rs', D', ι', e1, R4, f1, f2, f3, _⟩ := step_ok (dst := o.dst) R3 kr (Nat.le_refl _) (by simp) (by intro d hd'; exact dstOk_lt hd.1 d hd')
          simp only at e1
          rw [e1]
          simp only
          obtain ⟨s', sa', q', D'', ι'', j1, j2, j3, j4⟩ := xseq_ok hrf how r _ _ _ D' ι' _ hk (R4.upto (by show sa.h.length + 1 ≤ (applyWs (sa.h ++ [none]) ws').length; rw [applyWs_length]; simp) (Nat.le_refl _)) (by show r.all (dstOk (put sa.t o.dst x').length) = true; rw [put_len]; exact hd.2)
          exact ⟨s', sa', q', D'', ι'', j1, j2, Kept.trans (s' := xstep ⟨t2, s.h, s.n⟩ t2 o.dst y) ⟨put_len _ _ _, f1, f2, f3⟩ j3, j4⟩
        · exfalso
          unfold xdo at hk
          simp only [ho, hfn, cond_true, hc] at hk
          nomatch hk

structure FootOk (D : Nat → Prop) (ι : Nat → Nat) (fa fx : Foot) : Prop where
  rs : ∀ b ∈ fa.rs, ∃ c ∈ fx.rs, ι c = b
  ws : ∀ b ∈ fa.ws, ∃ c ∈ fx.ws, ι c = b
  drs : ∀ c ∈ fx.rs, D c
  dws : ∀ c ∈ fx.ws, D c
inductive FeetOk (D : Nat → Prop) (ι : Nat → Nat) : List Foot → List Foot → Prop
  | nil : FeetOk D ι [] []
  | cons {fa fx : Foot} {la lx : List Foot} : FootOk D ι fa fx → FeetOk D ι la lx → FeetOk D ι (fa :: la) (fx :: lx)
theorem FeetOk.mono {D' : Nat → Prop} {ι' : Nat → Nat} (hD : ∀ b, D b → D' b) (hι : ∀ b, D b → ι' b = ι b) {la lx : List Foot} (h : FeetOk D ι la lx) : FeetOk D' ι' la lx := by
  induction h with
  | nil => exact .nil
  | cons h _ ih =>
    refine .cons ⟨fun b hb => ?_, fun b hb => ?_, fun c hc => hD c (h.drs c hc), fun c hc => hD c (h.dws c hc)⟩ ih
    · obtain ⟨c, hc, e⟩ := h.rs b hb; exact ⟨c, hc, by rw [hι c (h.drs c hc)]; exact e⟩
    · obtain ⟨c, hc, e⟩ := h.ws b hb; exact ⟨c, hc, by rw [hι c (h.dws c hc)]; exact e⟩
theorem FeetOk.append {la lx ma mx : List Foot} (h : FeetOk D ι la lx) (k : FeetOk D ι ma mx) : FeetOk D ι (la ++ ma) (lx ++ mx) := by
  induction h with
  | nil => exact k
  | cons h _ ih => exact .cons h ih
theorem FeetOk.reverse {la lx : List Foot} (h : FeetOk D ι la lx) : FeetOk D ι la.reverse lx.reverse := by
  induction h with
  | nil => exact .nil
  | cons h _ ih => simp only [List.reverse_cons]; exact ih.append (.cons h .nil)
theorem FeetOk.get {la lx : List Foot} (h : FeetOk D ι la lx) : ∀ {i : Nat} {fa : Foot}, la[i]? = some fa → ∃ fx, lx[i]? = some fx ∧ FootOk D ι fa fx := by
  induction h with
  | nil => intro i fa hi; simp at hi
  | cons h _ ih =>
    intro i fa hi
    cases i with
    | zero => simp at hi; subst hi; exact ⟨_, rfl, h⟩
    | succ i => simpa using ih (by simpa using hi)
/-- Operations of a region in the text's order. -/
theorem xaops_ok (hrf : RFOK rfx rf) (how : Owing C rf) : ∀ (l : List Oper) (s : XS) (fs : List Foot) (q : List Told) (K : XS → List Foot → List Told → Prop) (D : Nat → Prop) (ι : Nat → Nat) (slot : Nat) (sa : AS) (fa : List Foot), xaops C rfx ops l s fs q K → XRel D ι slot s sa → slot + l.length ≤ sa.h.length → (l.all (dstOk sa.t.length)) = true → FeetOk D ι fa fs →
    ∃ s' sa' fs' fa' q' D' ι', aops C.S.P (callf C.S rf) ops l slot sa fa = some (sa', fa') ∧ XRel D' ι' (slot + l.length) s' sa' ∧ sa'.h.length = sa.h.length ∧ Kept s s' sa sa' D D' ι ι' ∧ FeetOk D' ι' fa' fs' ∧ fa'.length = fa.length + l.length ∧ K s' fs' q'
  | [], s, fs, q, K, D, ι, slot, sa, fa, hk, R, _, _, hf => ⟨s, sa, fs.reverse, fa.reverse, q, D, ι, rfl, R, rfl, .refl, hf.reverse, by simp, hk⟩
  | o :: r, s, fs, q, K, D, ι, slot, sa, fa, hk, R, hlen, hd, hf => by
    simp only [List.all_cons, Bool.and_eq_true] at hd
    simp only [List.length_cons] at hlen
    simp only [xaops] at hk
    obtain ⟨t1, q1, R1, hk⟩ := xwanted_ok (t := s.t) (h := s.h) (nx := s.n) R hk
    simp only [aops]
    cases hw : awanted ops o sa.t with
    | false =>
      rw [hw] at hk
      simp only [cond_false] at hk
      simp only [Bool.false_eq_true, if_false]
      have R2 := (skip_dst R1 hd.1).upto (m' := slot + 1) (by omega) (by show slot + 1 ≤ sa.h.length; omega)
      obtain ⟨s', sa', fs', fa', q', D', ι', k1, k2, k3, k4, k5, k6, k7⟩ := xaops_ok hrf how r _ _ _ _ D ι (slot + 1) _ (⟨[], []⟩ :: fa) hk R2 (by show slot + 1 + r.length ≤ sa.h.length; omega) (by show r.all (dstOk (put sa.t o.dst (.v undef)).length) = true; rw [put_len]; exact hd.2) (.cons ⟨by simp, by simp, by simp, by simp⟩ hf)
      exact ⟨s', sa', fs', fa', q', D', ι', k1, by have : slot + (r.length + 1) = slot + 1 + r.length := by omega
                                                   simpa [this] using k2, k3, ⟨by rw [k4.1, put_len], k4.2⟩, k5, by simp only [List.length_cons] at k6 ⊢; omega, k7⟩
    | true =>
      rw [hw] at hk
      simp only [cond_true] at hk
      simp only [if_true]
      obtain ⟨t2, y, q2, R3, kr, hk⟩ := xdo_ok (slot := slot) hrf how R1 hk
      obtain ⟨x', ws', rs', D', ι', e1, R4, f1, f2, f3, g1, g2, g3, g4⟩ := step_ok (dst := o.dst) R3 kr (Nat.le_refl _) (by omega) (fun d hd' => dstOk_lt hd.1 d hd')
      rw [e1]
      simp only
      have hf' : FeetOk D' ι' (⟨rs', ws'.map (·.1)⟩ :: fa) (⟨y.rs, y.ws.map (·.1)⟩ :: fs) := by
        refine .cons ⟨g1, ?_, g3, ?_⟩ (hf.mono f3 fun b hb => f2 b (R3.dlt b hb))
        · intro b hb
          obtain ⟨w, hw', rfl⟩ := List.mem_map.1 hb
          obtain ⟨v, hv, e⟩ := g2 w hw'
          exact ⟨v.1, List.mem_map.2 ⟨v, hv, rfl⟩, e⟩
        · intro c hc
          obtain ⟨v, hv, rfl⟩ := List.mem_map.1 hc
          exact g4 v hv
      obtain ⟨s', sa', fs', fa', q', D'', ι'', k1, k2, k3, k4, k5, k6, k7⟩ := xaops_ok hrf how r _ _ _ _ D' ι' (slot + 1) _ _ hk R4 (by show slot + 1 + r.length ≤ (applyWs sa.h ws').length; rw [applyWs_length]; omega) (by show r.all (dstOk (put sa.t o.dst x').length) = true; rw [put_len]; exact hd.2) hf'
      refine ⟨s', sa', fs', fa', q', D'', ι'', k1, ?_, ?_, Kept.trans (s' := xstep ⟨t2, s.h, s.n⟩ t2 o.dst y) ⟨put_len _ _ _, f1, f2, f3⟩ k4, k5, ?_, k7⟩
      · have : slot + (r.length + 1) = slot + 1 + r.length := by omega
        simpa [this] using k2
      · rw [k3]; exact applyWs_length _ _
      · simp only [List.length_cons] at k6 ⊢; omega
theorem meets_ok {fa gb : List Nat} {fx gx : List Nat} (inj : ∀ b c, D b → D c → ι b = ι c → b = c) (hf : ∀ b ∈ fa, ∃ c ∈ fx, ι c = b) (hg : ∀ b ∈ gb, ∃ c ∈ gx, ι c = b) (df : ∀ c ∈ fx, D c) (dg : ∀ c ∈ gx, D c) (h : meets fx gx = false) : meets fa gb = false := by
  cases hm : meets fa gb with
  | false => rfl
  | true =>
    obtain ⟨b, hb, hb'⟩ := List.any_eq_true.1 hm
    obtain ⟨c, hc, e⟩ := hf b hb
    obtain ⟨c', hc', e'⟩ := hg b (by simpa using hb')
    have := inj c c' (df c hc) (dg c' hc') (e.trans e'.symm)
    subst this
    exact absurd hc' (meets_false h hc)
theorem order_ok {fa fx : List Foot} (inj : ∀ b c, D b → D c → ι b = ι c → b = c) (hf : FeetOk D ι fa fx) (hlen : fa.length = ops.size) (h : (free ops && (quietF fx || (unord ops).all fun p => !xconf fx p)) = true) : anyOrder ops fa = true := by
  simp only [Bool.and_eq_true, Bool.or_eq_true] at h
  obtain ⟨h1, h2⟩ := h
  unfold free at h1
  simp only [Bool.and_eq_true] at h1
  unfold anyOrder
  simp only [Bool.and_eq_true]
  refine ⟨h1.1, List.all_eq_true.2 fun j hj => List.all_eq_true.2 fun i hi => ?_⟩
  have hj' := List.mem_range.1 hj
  have hi' := List.mem_range.1 hi
  cases hb : ((Region.before ops).getD j 0).testBit i with
  | true => rfl
  | false =>
    have hu : (i, j) ∈ unord ops := by
      unfold unord
      refine List.mem_flatMap.2 ⟨j, hj, List.mem_map.2 ⟨i, List.mem_filter.2 ⟨hi, ?_⟩, rfl⟩⟩
      rw [hb]; rfl
    have hc := all_mem h1.2 (i, j) hu
    simp only [Bool.not_eq_true'] at hc
    have gi : fa[i]? = some fa[i] := List.getElem?_eq_getElem (by omega)
    have gj : fa[j]? = some fa[j] := List.getElem?_eq_getElem (by omega)
    obtain ⟨xi, hxi, oi⟩ := hf.get gi
    obtain ⟨xj, hxj, oj⟩ := hf.get gj
    have dyn : meets xj.ws xi.rs = false ∧ meets xj.ws xi.ws = false ∧ meets xi.ws xj.rs = false := by
      rcases h2 with h2 | h2
      · have q1 := all_mem h2 xi (List.mem_of_getElem? hxi)
        have q2 := all_mem h2 xj (List.mem_of_getElem? hxj)
        rw [List.isEmpty_iff] at q1 q2
        rw [q1, q2]
        exact ⟨rfl, rfl, rfl⟩
      · have q := all_mem h2 (i, j) hu
        unfold xconf at q
        rw [nth_eq, nth_eq, hxi, hxj] at q
        simp only [Bool.not_eq_true', Bool.or_eq_false_iff] at q
        exact ⟨q.1.1, q.1.2, q.2⟩
    have oi' : ops[i]? = some ops[i] := Array.getElem?_eq_getElem (by omega)
    have oj' : ops[j]? = some ops[j] := Array.getElem?_eq_getElem (by omega)
    unfold clash at hc
    unfold conflict
    rw [oi', oj'] at hc
    rw [oi', oj', gi, gj]
    simp only at hc ⊢
    rw [meets_ok inj oj.ws oi.rs oj.dws oi.drs dyn.1, meets_ok inj oj.ws oi.ws oj.dws oi.dws dyn.2.1, meets_ok inj oi.ws oj.rs oi.dws oj.drs dyn.2.2]
    simp only [Bool.or_false]
    exact congrArg (fun b => false || !b) hc
theorem xregion_ok (hrf : RFOK rfx rf) (how : Owing C rf) {draw : Bool} {s : XS} {q : List Told} {K : XS → List Told → Prop} {sa : AS} (hk : xregion C rfx ops draw s q K) (R : XRel D ι sa.h.length s sa) (hd : ops.toList.all (dstOk sa.t.length) = true) :
    ∃ s' sa' q' D' ι', aregion C.S rf ops draw sa = some sa' ∧ XRel D' ι' sa'.h.length s' sa' ∧ Kept s s' sa sa' D D' ι ι' ∧ K s' q' := by
  unfold xregion at hk
  unfold aregion
  cases draw with
  | false =>
    simp only [cond_false] at hk
    simp only [Bool.false_eq_true, if_false]
    exact xseq_ok hrf how ops.toList s q K D ι sa hk R hd
  | true =>
    simp only [cond_true] at hk
    simp only [if_true]
    obtain ⟨s', sa', fs', fa', q', D', ι', k1, k2, k3, k4, k5, k6, k7⟩ := xaops_ok hrf how ops.toList s [] q _ D ι sa.h.length ⟨sa.t, sa.h ++ List.replicate ops.size none⟩ [] hk (R.more ops.size) (by simp) hd .nil
    rw [k1]
    simp only
    cases hc : (free ops && (quietF fs' || (unord ops).all fun p => !xconf fs' p)) with
    | false => rw [hc] at k7; cases k7
    | true =>
      rw [hc] at k7
      rw [order_ok k2.inj k5 (by simpa using k6) hc]
      simp only [if_true]
      exact ⟨s', sa', q', D', ι', rfl, k2.upto (by rw [k3]; simp) (Nat.le_refl _), k4, k7⟩
end
end Go.Proofs.YtjhekjhbjaengaaGreatDoor.Ev
