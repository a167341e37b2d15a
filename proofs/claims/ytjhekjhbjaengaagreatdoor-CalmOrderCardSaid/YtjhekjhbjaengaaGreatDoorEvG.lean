/- Writes in any order: what a selection of writes leaves. -/
import Derived.Test.YtjhekjhbjaengaaGreatDoorEvA
namespace Go.Proofs.YtjhekjhbjaengaaGreatDoor.Ev
open Go Go.RowKit

/-- What an operation came to. -/
structure Tr where
  o : Oper
  x : AV
  ws : Ws
  rs : List Nat
def Tr.foot (r : Tr) : Foot := ⟨r.rs, r.ws.map (·.1)⟩

def up (b : Nat → Bool) (i : Nat) : Nat → Bool := fun j => if j = i then true else b j
theorem up_self (b : Nat → Bool) (i : Nat) : up b i i = true := by simp [up]
theorem up_ne {b : Nat → Bool} {i j : Nat} (h : j ≠ i) : up b i j = b j := by simp [up, h]

def selT (b : Nat → Bool) : Nat → List Tr → List AV → List AV
  | _, [], t => t
  | i, r :: tr, t => selT b (i + 1) tr (if b i then put t r.o.dst r.x else t)
def selH (b : Nat → Bool) : Nat → List Tr → Heap → Heap
  | _, [], h => h
  | i, r :: tr, h => selH b (i + 1) tr (if b i then applyWs h r.ws else h)

theorem put_length (t : List AV) (dst : Option Tmp) (x : AV) : (put t dst x).length = t.length := by cases dst <;> simp [put]
theorem applyWs_length : ∀ (ws : Ws) (h : Heap), (applyWs h ws).length = h.length
  | [], _ => rfl
  | (b, x) :: r, h => by simp [applyWs, applyWs_length r]
theorem selT_length (b : Nat → Bool) : ∀ (tr : List Tr) (i : Nat) (t : List AV), (selT b i tr t).length = t.length
  | [], _, _ => rfl
  | r :: tr, i, t => by simp only [selT]; rw [selT_length b tr]; split <;> simp [put_length]
theorem selH_length (b : Nat → Bool) : ∀ (tr : List Tr) (i : Nat) (h : Heap), (selH b i tr h).length = h.length
  | [], _, _ => rfl
  | r :: tr, i, h => by simp only [selH]; rw [selH_length b tr]; split <;> simp [applyWs_length]
theorem put_other {t : List AV} {dst : Option Tmp} {x : AV} {d : Nat} (h : dst ≠ some d) : (put t dst x)[d]? = t[d]? := by
  cases dst with
  | none => rfl
  | some e => simp only [put]; rw [List.getElem?_set_ne (fun k => h (by rw [k]))]
theorem put_at {t t' : List AV} {dst : Option Tmp} {x : AV} {d : Nat} (h : dst = some d) (hl : t.length = t'.length) : (put t dst x)[d]? = (put t' dst x)[d]? := by
  subst h
  simp [put, List.getElem?_set, hl]
theorem applyWs_other : ∀ {ws : Ws} {h : Heap} {d : Nat}, d ∉ ws.map (·.1) → (applyWs h ws)[d]? = h[d]?
  | [], _, _, _ => rfl
  | (b, x) :: r, h, d, hd => by
    simp only [List.map_cons, List.mem_cons, not_or] at hd
    simp only [applyWs]
    rw [applyWs_other hd.2, List.getElem?_set_ne (fun k => hd.1 k.symm)]
theorem applyWs_at : ∀ {ws : Ws} {h h' : Heap} {d : Nat}, d ∈ ws.map (·.1) → h.length = h'.length → (applyWs h ws)[d]? = (applyWs h' ws)[d]?
  | [], _, _, _, hd, _ => by simp at hd
  | (b, x) :: r, h, h', d, hd, hl => by
    simp only [applyWs]
    by_cases hr : d ∈ r.map (·.1)
    · exact applyWs_at hr (by simp [hl])
    · have hb : b = d := by simp only [List.map_cons, List.mem_cons] at hd; rcases hd with hd | hd; exact hd.symm; exact absurd hd hr
      subst hb
      rw [applyWs_other hr, applyWs_other hr, List.getElem?_set, List.getElem?_set]
      simp [hl]

theorem selT_at {b b' : Nat → Bool} {d : Nat} : ∀ {tr : List Tr} {i : Nat} {t t' : List AV}, (∀ j r, tr[j]? = some r → r.o.dst = some d → b (i + j) = b' (i + j)) → t.length = t'.length → t[d]? = t'[d]? → (selT b i tr t)[d]? = (selT b' i tr t')[d]?
  | [], _, _, _, _, _, h => h
  | r :: tr, i, t, t', hw, hl, h => by
    simp only [selT]
    refine selT_at (fun j r' hr hd => ?_) ?_ ?_
    · have := hw (j + 1) r' (by simpa using hr) hd
      rwa [show i + (j + 1) = i + 1 + j by omega] at this
    · split <;> split <;> simp [put_length, hl]
    · by_cases hd : r.o.dst = some d
      · have h0 := hw 0 r rfl hd
        simp only [Nat.add_zero] at h0
        rw [← h0]
        split
        · exact put_at hd hl
        · exact h
      · have e1 : (if b i then put t r.o.dst r.x else t)[d]? = t[d]? := by split; exact put_other hd; rfl
        have e2 : (if b' i then put t' r.o.dst r.x else t')[d]? = t'[d]? := by split; exact put_other hd; rfl
        rw [e1, e2, h]
theorem selH_at {b b' : Nat → Bool} {d : Nat} : ∀ {tr : List Tr} {i : Nat} {h h' : Heap}, (∀ j r, tr[j]? = some r → d ∈ r.ws.map (·.1) → b (i + j) = b' (i + j)) → h.length = h'.length → h[d]? = h'[d]? → (selH b i tr h)[d]? = (selH b' i tr h')[d]?
  | [], _, _, _, _, _, h => h
  | r :: tr, i, t, t', hw, hl, h => by
    simp only [selH]
    refine selH_at (fun j r' hr hd => ?_) ?_ ?_
    · have := hw (j + 1) r' (by simpa using hr) hd
      rwa [show i + (j + 1) = i + 1 + j by omega] at this
    · split <;> split <;> simp [applyWs_length, hl]
    · by_cases hd : d ∈ r.ws.map (·.1)
      · have h0 := hw 0 r rfl hd
        simp only [Nat.add_zero] at h0
        rw [← h0]
        split
        · exact applyWs_at hd hl
        · exact h
      · have e1 : (if b i then applyWs t r.ws else t)[d]? = t[d]? := by split; exact applyWs_other hd; rfl
        have e2 : (if b' i then applyWs t' r.ws else t')[d]? = t'[d]? := by split; exact applyWs_other hd; rfl
        rw [e1, e2, h]

theorem put_comm' {t : List AV} {d e : Option Tmp} {x y : AV} (h : ∀ k, d = some k → e ≠ some k) : put (put t d x) e y = put (put t e y) d x := by
  cases d with
  | none => cases e <;> rfl
  | some k =>
    cases e with
    | none => rfl
    | some l =>
      have : k ≠ l := fun hk => h k rfl (by rw [hk])
      simp only [put]
      exact List.set_comm _ _ this
theorem applyWs_comm {h : Heap} {ws us : Ws} (hd : ∀ k, k ∈ ws.map (·.1) → k ∉ us.map (·.1)) : applyWs (applyWs h ws) us = applyWs (applyWs h us) ws := by
  apply List.ext_getElem?
  intro k
  by_cases hk : k ∈ ws.map (·.1)
  · rw [applyWs_other (hd k hk)]
    exact applyWs_at hk (by simp [applyWs_length])
  · rw [applyWs_other (d := k) (ws := ws) hk]
    by_cases hu : k ∈ us.map (·.1)
    · exact applyWs_at hu (by simp [applyWs_length])
    · rw [applyWs_other hu, applyWs_other hu, applyWs_other hk]
theorem selT_push {b : Nat → Bool} {dst : Option Tmp} {x : AV} : ∀ {tr : List Tr} {i : Nat} {t : List AV}, (∀ j r, tr[j]? = some r → b (i + j) = true → ∀ k, dst = some k → r.o.dst ≠ some k) → selT b i tr (put t dst x) = put (selT b i tr t) dst x
  | [], _, _, _ => rfl
  | r :: tr, i, t, h => by
    have hn := fun j r' (hr : tr[j]? = some r') (hb : b (i + 1 + j) = true) => h (j + 1) r' (by simpa using hr) (by rwa [show i + (j + 1) = i + 1 + j by omega])
    simp only [selT]
    split
    · rename_i hb
      rw [put_comm' (h 0 r rfl (by simpa using hb)), selT_push hn]
    · exact selT_push hn
theorem selH_push {b : Nat → Bool} {ws : Ws} : ∀ {tr : List Tr} {i : Nat} {h : Heap}, (∀ j r, tr[j]? = some r → b (i + j) = true → ∀ k, k ∈ ws.map (·.1) → k ∉ r.ws.map (·.1)) → selH b i tr (applyWs h ws) = applyWs (selH b i tr h) ws
  | [], _, _, _ => rfl
  | r :: tr, i, t, h => by
    have hn := fun j r' (hr : tr[j]? = some r') (hb : b (i + 1 + j) = true) => h (j + 1) r' (by simpa using hr) (by rwa [show i + (j + 1) = i + 1 + j by omega])
    simp only [selH]
    split
    · rename_i hb
      rw [applyWs_comm (h 0 r rfl (by simpa using hb)), selH_push hn]
    · exact selH_push hn
theorem selT_congr {b b' : Nat → Bool} : ∀ {tr : List Tr} {i : Nat} {t : List AV}, (∀ j, j < tr.length → b (i + j) = b' (i + j)) → selT b i tr t = selT b' i tr t
  | [], _, _, _ => rfl
  | r :: tr, i, t, h => by
    have h0 := h 0 (by simp)
    simp only [Nat.add_zero] at h0
    simp only [selT, h0]
    exact selT_congr fun j hj => by have := h (j + 1) (by simpa using hj); rwa [show i + (j + 1) = i + 1 + j by omega] at this
theorem selH_congr {b b' : Nat → Bool} : ∀ {tr : List Tr} {i : Nat} {t : Heap}, (∀ j, j < tr.length → b (i + j) = b' (i + j)) → selH b i tr t = selH b' i tr t
  | [], _, _, _ => rfl
  | r :: tr, i, t, h => by
    have h0 := h 0 (by simp)
    simp only [Nat.add_zero] at h0
    simp only [selH, h0]
    exact selH_congr fun j hj => by have := h (j + 1) (by simpa using hj); rwa [show i + (j + 1) = i + 1 + j by omega] at this
/-- One more of them. -/
theorem selT_up {b : Nat → Bool} : ∀ {tr : List Tr} {i k : Nat} {t : List AV} {r : Tr}, tr[k]? = some r → b (i + k) = false → (∀ j r', tr[j]? = some r' → k < j → b (i + j) = true → ∀ d, r.o.dst = some d → r'.o.dst ≠ some d) →
    selT (up b (i + k)) i tr t = put (selT b i tr t) r.o.dst r.x
  | [], _, _, _, _, h, _, _ => by simp at h
  | r0 :: tr, i, 0, t, r, h, hb, hd => by
    simp at h
    subst h
    simp only [Nat.add_zero] at hb ⊢
    simp only [selT, up_self, if_true, hb]
    rw [selT_congr (b' := b) (fun j _ => up_ne (by omega))]
    exact selT_push fun j r' hr hbj => hd (j + 1) r' (by simpa using hr) (by omega) (by rwa [show i + (j + 1) = i + 1 + j by omega])
  | r0 :: tr, i, k + 1, t, r, h, hb, hd => by
    simp only [selT]
    rw [up_ne (show i ≠ i + (k + 1) by omega), show i + (k + 1) = i + 1 + k by omega]
    exact selT_up (by simpa using h) (by rwa [show i + 1 + k = i + (k + 1) by omega]) fun j r' hr hk hbj => hd (j + 1) r' (by simpa using hr) (by omega) (by rwa [show i + (j + 1) = i + 1 + j by omega])
theorem selH_up {b : Nat → Bool} : ∀ {tr : List Tr} {i k : Nat} {t : Heap} {r : Tr}, tr[k]? = some r → b (i + k) = false → (∀ j r', tr[j]? = some r' → k < j → b (i + j) = true → ∀ d, d ∈ r.ws.map (·.1) → d ∉ r'.ws.map (·.1)) →
    selH (up b (i + k)) i tr t = applyWs (selH b i tr t) r.ws
  | [], _, _, _, _, h, _, _ => by simp at h
  | r0 :: tr, i, 0, t, r, h, hb, hd => by
    simp at h
    subst h
    simp only [Nat.add_zero] at hb ⊢
    simp only [selH, up_self, if_true, hb]
    rw [selH_congr (b' := b) (fun j _ => up_ne (by omega))]
    exact selH_push fun j r' hr hbj => hd (j + 1) r' (by simpa using hr) (by omega) (by rwa [show i + (j + 1) = i + 1 + j by omega])
  | r0 :: tr, i, k + 1, t, r, h, hb, hd => by
    simp only [selH]
    rw [up_ne (show i ≠ i + (k + 1) by omega), show i + (k + 1) = i + 1 + k by omega]
    exact selH_up (by simpa using h) (by rwa [show i + 1 + k = i + (k + 1) by omega]) fun j r' hr hk hbj => hd (j + 1) r' (by simpa using hr) (by omega) (by rwa [show i + (j + 1) = i + 1 + j by omega])
theorem selT_none {b : Nat → Bool} : ∀ {tr : List Tr} {i : Nat} {t : List AV}, (∀ j, b j = false) → selT b i tr t = t
  | [], _, _, _ => rfl
  | r :: tr, i, t, h => by simp only [selT, h i]; exact selT_none h
theorem selH_none {b : Nat → Bool} : ∀ {tr : List Tr} {i : Nat} {t : Heap}, (∀ j, b j = false) → selH b i tr t = t
  | [], _, _, _ => rfl
  | r :: tr, i, t, h => by simp only [selH, h i]; exact selH_none h

/-- The text's order, operation by operation. -/
theorem aops_trace {P : Program} {cf : FuncId → List AV → HM (AV × Ws)} {ops : Array Oper} : ∀ {l : List Oper} {slot : Nat} {s s' : AS} {fs fs' : List Foot}, aops P cf ops l slot s fs = some (s', fs') →
    ∃ tr : List Tr, tr.length = l.length ∧ (∀ i, s' = ⟨selT (fun _ => true) i tr s.t, selH (fun _ => true) i tr s.h⟩) ∧ fs' = fs.reverse ++ tr.map Tr.foot ∧
      ∀ i o, l[i]? = some o → ∃ r, tr[i]? = some r ∧ r.o = o ∧
        ((awanted ops o (selT (fun j => decide (j < i)) 0 tr s.t) = true ∧ (aop P cf o (selT (fun j => decide (j < i)) 0 tr s.t) (slot + i)).run (selH (fun j => decide (j < i)) 0 tr s.h) = some ((r.x, r.ws), r.rs)) ∨
         (awanted ops o (selT (fun j => decide (j < i)) 0 tr s.t) = false ∧ r.x = .v undef ∧ r.ws = []))
  | [], slot, s, s', fs, fs', h => by
    simp only [aops, Option.some.injEq, Prod.mk.injEq] at h
    obtain ⟨rfl, rfl⟩ := h
    exact ⟨[], rfl, fun _ => rfl, by simp, fun i o h => by simp at h⟩
  | o :: l, slot, s, s', fs, fs', h => by
    have shiftT : ∀ (b : Nat → Bool) (tr : List Tr) (i : Nat) (t : List AV), selT (fun j => b (j + 1)) i tr t = selT b (i + 1) tr t := by
      intro b tr
      induction tr with
      | nil => intros; rfl
      | cons r tr ih => intro i t; simp only [selT]; exact ih (i + 1) _
    have shiftH : ∀ (b : Nat → Bool) (tr : List Tr) (i : Nat) (t : Heap), selH (fun j => b (j + 1)) i tr t = selH b (i + 1) tr t := by
      intro b tr
      induction tr with
      | nil => intros; rfl
      | cons r tr ih => intro i t; simp only [selH]; exact ih (i + 1) _
    have step : ∀ {x : AV} {ws : Ws} {rs : List Nat}, aops P cf ops l (slot + 1) ⟨put s.t o.dst x, applyWs s.h ws⟩ (⟨rs, ws.map (·.1)⟩ :: fs) = some (s', fs') →
        ((awanted ops o s.t = true ∧ (aop P cf o s.t slot).run s.h = some ((x, ws), rs)) ∨ (awanted ops o s.t = false ∧ x = .v undef ∧ ws = [])) →
        ∃ tr : List Tr, tr.length = (o :: l).length ∧ (∀ i, s' = ⟨selT (fun _ => true) i tr s.t, selH (fun _ => true) i tr s.h⟩) ∧ fs' = fs.reverse ++ tr.map Tr.foot ∧
          ∀ i o', (o :: l)[i]? = some o' → ∃ r, tr[i]? = some r ∧ r.o = o' ∧
            ((awanted ops o' (selT (fun j => decide (j < i)) 0 tr s.t) = true ∧ (aop P cf o' (selT (fun j => decide (j < i)) 0 tr s.t) (slot + i)).run (selH (fun j => decide (j < i)) 0 tr s.h) = some ((r.x, r.ws), r.rs)) ∨
             (awanted ops o' (selT (fun j => decide (j < i)) 0 tr s.t) = false ∧ r.x = .v undef ∧ r.ws = [])) := by
      intro x ws rs hrec hfirst
      obtain ⟨tr, h1, h2, h3, h4⟩ := aops_trace hrec
      refine ⟨⟨o, x, ws, rs⟩ :: tr, by simp [h1], fun i => ?_, by simp [h3, Tr.foot], fun i o' hi => ?_⟩
      · simp only [selT, selH, if_true]
        exact h2 (i + 1)
      · cases i with
        | zero =>
          simp at hi
          subst hi
          refine ⟨_, rfl, rfl, ?_⟩
          simp only [Nat.not_lt_zero, decide_false, Nat.add_zero]
          rw [selT_none (fun _ => rfl), selH_none (fun _ => rfl)]
          exact hfirst
        | succ i =>
          obtain ⟨r, g1, g2, g3⟩ := h4 i o' (by simpa using hi)
          refine ⟨r, by simpa using g1, g2, ?_⟩
          have e1 : selT (fun j => decide (j < i + 1)) 0 (⟨o, x, ws, rs⟩ :: tr) s.t = selT (fun j => decide (j < i)) 0 tr (put s.t o.dst x) := by
            simp only [selT, Nat.zero_lt_succ, decide_true, if_true]
            rw [← shiftT]
            exact selT_congr fun j _ => by simp
          have e2 : selH (fun j => decide (j < i + 1)) 0 (⟨o, x, ws, rs⟩ :: tr) s.h = selH (fun j => decide (j < i)) 0 tr (applyWs s.h ws) := by
            simp only [selH, Nat.zero_lt_succ, decide_true, if_true]
            rw [← shiftH]
            exact selH_congr fun j _ => by simp
          rw [e1, e2, show slot + (i + 1) = slot + 1 + i by omega]
          exact g3
    simp only [aops] at h
    split at h
    · rename_i hw
      split at h
      · rename_i x ws rs hrun
        exact step h (.inl ⟨hw, hrun⟩)
      · cases h
    · rename_i hw
      exact step (x := .v undef) (ws := []) (rs := []) h (.inr ⟨by simpa using hw, rfl, rfl⟩)
end Go.Proofs.YtjhekjhbjaengaaGreatDoor.Ev
