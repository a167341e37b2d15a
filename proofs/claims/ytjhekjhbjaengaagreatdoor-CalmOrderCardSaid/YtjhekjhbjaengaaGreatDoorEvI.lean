/- Calls in place among others: the callee works on those of the caller's blocks that it is led to. -/
import Derived.Test.YtjhekjhbjaengaaGreatDoorEvG
namespace Go.Proofs.YtjhekjhbjaengaaGreatDoor.Ev
open Go Go.RowKit

mutual
/-- A value leads to none but these numbers. -/
def LowP (p : Nat → Prop) : AV → Prop
  | .agg l => LowL p l
  | .tup l => LowL p l
  | .sl b _ _ _ => p b
  | .ptr b _ _ _ => p b
  | .ifc _ y => LowP p y
  | .fn _ c => LowL p c
  | _ => True
def LowL (p : Nat → Prop) : List AV → Prop
  | [] => True
  | x :: l => LowP p x ∧ LowL p l
end
theorem LowL.mem {p : Nat → Prop} : ∀ {l : List AV}, (∀ x ∈ l, LowP p x) → LowL p l
  | [], _ => by unfold LowL; trivial
  | x :: l, h => by unfold LowL; exact ⟨h x (by simp), LowL.mem fun y hy => h y (by simp [hy])⟩
theorem LowL.all {p : Nat → Prop} : ∀ {l : List AV}, LowL p l → ∀ x ∈ l, LowP p x
  | [], _ => by simp
  | x :: l, h => by
    unfold LowL at h
    intro y hy
    rcases List.mem_cons.1 hy with rfl | hy
    · exact h.1
    · exact LowL.all h.2 y hy

section
variable {F : Nat → Prop} {H : Array Obj} {μ μ' : Nat → Option Nat} {p : Nat → Prop}
mutual
theorem Rel.swap (hp : ∀ b, p b → μ' b = μ b) : ∀ {x : AV} {u : Value}, Rel ⟨F, H, μ⟩ x u → LowP p x → Rel ⟨F, H, μ'⟩ x u
  | .v _, _, h, _ => by unfold Rel at h ⊢; exact h
  | .agg l, _, h, k => by unfold Rel at h ⊢; unfold LowP at k; obtain ⟨cs, h1, h2⟩ := h; exact ⟨cs, h1, RelC.swap hp h2 k⟩
  | .tup l, _, h, k => by unfold Rel at h ⊢; unfold LowP at k; obtain ⟨cs, h1, h2⟩ := h; exact ⟨cs, h1, RelT.swap hp h2 k⟩
  | .fsl l, _, h, _ => by unfold Rel at h ⊢; exact h
  | .e0, _, h, _ => by unfold Rel at h ⊢; exact h
  | .sl b k off len, _, h, g => by
    unfold Rel at h ⊢
    unfold LowP at g
    obtain ⟨A, c, B, h1, h2, h3, h4⟩ := h
    exact ⟨A, c, B, h1, h2, by show μ' b = _; rw [hp b g]; exact h3, h4⟩
  | .ptr b k i j, _, h, g => by
    unfold Rel at h ⊢
    unfold LowP at g
    obtain ⟨B, h1, h2⟩ := h
    exact ⟨B, h1, by show μ' b = _; rw [hp b g]; exact h2⟩
  | .fptr l j, _, h, _ => by unfold Rel at h ⊢; exact h
  | .ifc t x, _, h, k => by unfold Rel at h ⊢; unfold LowP at k; obtain ⟨y, h1, h2⟩ := h; exact ⟨y, h1, Rel.swap hp h2 k⟩
  | .fn f c, _, h, k => by unfold Rel at h ⊢; unfold LowP at k; obtain ⟨cs, h1, h2⟩ := h; exact ⟨cs, h1, RelT.swap hp h2 k⟩
theorem RelC.swap (hp : ∀ b, p b → μ' b = μ b) : ∀ {l : List AV} {cs : List Value}, RelC ⟨F, H, μ⟩ l cs → LowL p l → RelC ⟨F, H, μ'⟩ l cs
  | [], _, h, _ => by unfold RelC at h ⊢; exact h
  | x :: l, _, h, k => by unfold RelC at h ⊢; unfold LowL at k; obtain ⟨c, r, h1, h2, h3, h4⟩ := h; exact ⟨c, r, h1, h2, Rel.swap hp h3 k.1, RelC.swap hp h4 k.2⟩
theorem RelT.swap (hp : ∀ b, p b → μ' b = μ b) : ∀ {l : List AV} {cs : List Value}, RelT ⟨F, H, μ⟩ l cs → LowL p l → RelT ⟨F, H, μ'⟩ l cs
  | [], _, h, _ => by unfold RelT at h ⊢; exact h
  | x :: l, _, h, k => by unfold RelT at h ⊢; unfold LowL at k; obtain ⟨c, r, h1, h3, h4⟩ := h; exact ⟨c, r, h1, Rel.swap hp h3 k.1, RelT.swap hp h4 k.2⟩
end
theorem RelR.swap (hp : ∀ b, p b → μ' b = μ b) : ∀ {l : List (List AV)} {k : Nat} {cs : List Value}, RelR ⟨F, H, μ⟩ l k cs → (∀ x ∈ l.flatten, LowP p x) → RelR ⟨F, H, μ'⟩ l k cs
  | [], _, _, _, _ => .nil
  | e :: l, k, cs, h, g => by
    unfold RelR at h
    exact .cons h.1 (RelC.swap hp h.2.2.1 (LowL.mem fun x hx => g x (by simp [hx]))) (RelR.swap hp h.2.2.2 fun x hx => g x (by rw [List.flatten_cons]; exact List.mem_append_right _ hx))
end

theorem low_ok {ids : List Nat} : ∀ (d : Nat) (x : AV), low ids d x = true → LowP (fun b => b ∈ ids) x
  | 0, _, h => by simp [low] at h
  | d + 1, x, h => by
    have hl : ∀ l : List AV, lowL (low ids d) l = true → LowL (fun b => b ∈ ids) l := by
      intro l
      induction l with
      | nil => intro _; unfold LowL; trivial
      | cons y l ih =>
        intro h
        simp only [lowL, Bool.and_eq_true] at h
        unfold LowL
        exact ⟨low_ok d y h.1, ih h.2⟩
    cases x <;> simp only [low] at h <;> unfold LowP
    all_goals first
      | trivial
      | exact hl _ h
      | exact low_ok d _ h
      | simpa using h
theorem lowL_ok {ids : List Nat} {d : Nat} : ∀ {l : List AV}, lowL (low ids d) l = true → ∀ x ∈ l, LowP (fun b => b ∈ ids) x
  | [], _ => by simp
  | y :: l, h => by
    simp only [lowL, Bool.and_eq_true] at h
    intro x hx
    rcases List.mem_cons.1 hx with rfl | hx
    · exact low_ok d _ h.1
    · exact lowL_ok h.2 x hx

def GathOK (h : Heap) (f : AV → HM (List (Nat × Blk))) : Prop := ∀ x bs rs, (f x).run h = some (bs, rs) → (∀ q ∈ bs, h[q.1]? = some (some q.2)) ∧ ∀ p : Nat → Prop, (∀ q ∈ bs, p q.1) → LowP p x ∧ ∀ q ∈ bs, ∀ y ∈ q.2.els.flatten, LowP p y
theorem gathL_ok {h : Heap} {f : AV → HM (List (Nat × Blk))} (hf : GathOK h f) : ∀ {l : List AV} {bs : List (Nat × Blk)} {rs : List Nat}, (gathL f l).run h = some (bs, rs) →
    (∀ q ∈ bs, h[q.1]? = some (some q.2)) ∧ ∀ p : Nat → Prop, (∀ q ∈ bs, p q.1) → LowL p l ∧ ∀ q ∈ bs, ∀ y ∈ q.2.els.flatten, LowP p y
  | [], bs, rs, hr => by
    obtain ⟨rfl, _⟩ := HM.run_ret hr
    exact ⟨by simp, fun p _ => ⟨by unfold LowL; trivial, by simp⟩⟩
  | x :: l, bs, rs, hr => by
    replace hr := HM.run_bind hr; obtain ⟨b1, r1, r2, h1, hr, _⟩ := hr
    replace hr := HM.run_bind hr; obtain ⟨b2, r3, r4, h2, hr, _⟩ := hr
    obtain ⟨rfl, _⟩ := HM.run_ret hr
    obtain ⟨p1, p2⟩ := hf x b1 r1 h1
    obtain ⟨q1, q2⟩ := gathL_ok hf h2
    refine ⟨fun q hq => ?_, fun p hp => ⟨?_, fun q hq => ?_⟩⟩
    · rcases List.mem_append.1 hq with hq | hq
      · exact p1 q hq
      · exact q1 q hq
    · unfold LowL
      exact ⟨(p2 p fun q hq => hp q (by simp [hq])).1, (q2 p fun q hq => hp q (by simp [hq])).1⟩
    · rcases List.mem_append.1 hq with hq | hq
      · exact (p2 p fun q hq => hp q (by simp [hq])).2 q hq
      · exact (q2 p fun q hq => hp q (by simp [hq])).2 q hq
theorem gath_ok {h : Heap} : ∀ d : Nat, GathOK h (gath d)
  | 0 => fun x bs rs hr => (HM.run_bad hr).elim
  | d + 1 => by
    intro x bs rs hr
    have ih := gath_ok (h := h) d
    have own : ∀ {b : Nat} {x : AV}, (∀ p : Nat → Prop, p b → LowP p x) → (HM.get b fun blk => (gathL (gath d) blk.els.flatten).bind fun r => .ret ((b, blk) :: r)).run h = some (bs, rs) →
        (∀ q ∈ bs, h[q.1]? = some (some q.2)) ∧ ∀ p : Nat → Prop, (∀ q ∈ bs, p q.1) → LowP p x ∧ ∀ q ∈ bs, ∀ y ∈ q.2.els.flatten, LowP p y := by
      intro b x hx hr
      replace hr := HM.run_get hr; obtain ⟨blk, r1, hblk, hr, _⟩ := hr
      replace hr := HM.run_bind hr; obtain ⟨b1, r2, r3, h1, hr, _⟩ := hr
      obtain ⟨rfl, _⟩ := HM.run_ret hr
      obtain ⟨p1, p2⟩ := gathL_ok ih h1
      refine ⟨fun q hq => ?_, fun p hp => ⟨hx p (hp (b, blk) (by simp)), fun q hq => ?_⟩⟩
      · rcases List.mem_cons.1 hq with rfl | hq
        · exact hblk
        · exact p1 q hq
      · have := p2 p fun q hq => hp q (by simp [hq])
        rcases List.mem_cons.1 hq with rfl | hq
        · exact LowL.all this.1
        · exact this.2 q hq
    unfold gath at hr
    split at hr
    · obtain ⟨p1, p2⟩ := gathL_ok ih hr
      exact ⟨p1, fun p hp => ⟨by unfold LowP; exact (p2 p hp).1, (p2 p hp).2⟩⟩
    · obtain ⟨p1, p2⟩ := gathL_ok ih hr
      exact ⟨p1, fun p hp => ⟨by unfold LowP; exact (p2 p hp).1, (p2 p hp).2⟩⟩
    · exact own (fun p h => by unfold LowP; exact h) hr
    · exact own (fun p h => by unfold LowP; exact h) hr
    · obtain ⟨p1, p2⟩ := ih _ bs rs hr
      exact ⟨p1, fun p hp => ⟨by unfold LowP; exact (p2 p hp).1, (p2 p hp).2⟩⟩
    · obtain ⟨p1, p2⟩ := gathL_ok ih hr
      exact ⟨p1, fun p hp => ⟨by unfold LowP; exact (p2 p hp).1, (p2 p hp).2⟩⟩
    · rename_i h1 h2 h3 h4 h5 h6
      obtain ⟨rfl, _⟩ := HM.run_ret hr
      refine ⟨by simp, fun p _ => ⟨?_, by simp⟩⟩
      cases x <;> unfold LowP <;> first | trivial | skip
      · exact (h1 _ rfl).elim
      · exact (h2 _ rfl).elim
      · exact (h3 _ _ _ _ rfl).elim
      · exact (h4 _ _ _ _ rfl).elim
      · exact (h5 _ _ rfl).elim
      · exact (h6 _ _ rfl).elim

theorem topOf_lt : ∀ {bs : List (Nat × Blk)} {q : Nat × Blk}, q ∈ bs → q.1 < topOf bs
  | [], _, h => by simp at h
  | (b, x) :: r, q, h => by
    simp only [topOf]
    rcases List.mem_cons.1 h with rfl | h
    · exact Nat.lt_of_lt_of_le (Nat.lt_succ_self _) (Nat.le_max_left _ _)
    · exact Nat.lt_of_lt_of_le (topOf_lt h) (Nat.le_max_right _ _)
theorem heapOf_length : ∀ (bs : List (Nat × Blk)) (h : Heap), (heapOf bs h).length = h.length
  | [], _ => rfl
  | (b, x) :: r, h => by simp [heapOf, heapOf_length r]
theorem heapOf_get : ∀ {bs : List (Nat × Blk)} {h : Heap} {b : Nat} {y : Blk}, (heapOf bs h)[b]? = some (some y) → (b, y) ∈ bs ∨ h[b]? = some (some y)
  | [], _, _, _, h => .inr h
  | (c, x) :: r, h, b, y, hh => by
    simp only [heapOf] at hh
    rcases heapOf_get hh with h1 | h1
    · exact .inl (by simp [h1])
    · rcases set_get h1 with ⟨rfl, h2⟩ | ⟨_, h2⟩
      · cases h2; exact .inl (by simp)
      · exact .inr h2

theorem sameV_eq {a b : Value} (h : sameV a b = true) : a = b := by
  unfold sameV at h
  split at h <;> simp at h
  · rw [h.1, h.2]
  · rw [h]
  · rfl
  · rfl
theorem sameL_eq {α : Type} {f : α → α → Bool} (hf : ∀ x y, f x y = true → x = y) : ∀ {l m : List α}, sameL f l m = true → l = m
  | [], [], _ => rfl
  | [], _ :: _, h => by simp [sameL] at h
  | _ :: _, [], h => by simp [sameL] at h
  | x :: l, y :: m, h => by
    simp only [sameL, Bool.and_eq_true] at h
    rw [hf x y h.1, sameL_eq hf h.2]
theorem same_eq : ∀ (d : Nat) (x y : AV), same d x y = true → x = y
  | 0, _, _, h => by simp [same] at h
  | d + 1, x, y, h => by
    have ih := same_eq d
    unfold same at h
    split at h
    · rw [sameV_eq h]
    · rw [sameL_eq ih h]
    · rw [sameL_eq ih h]
    · rw [sameL_eq (fun _ _ => sameL_eq ih) h]
    · rfl
    · have := of_decide_eq_true h; cases this; rfl
    · have := of_decide_eq_true h; cases this; rfl
    · cases h

theorem backs_ok {ids : List Nat} {h' : Heap} : ∀ {bs : List (Nat × Blk)} {ws : Ws}, backs ids h' bs = some ws →
    (∀ q ∈ ws, h'[q.1]? = some q.2 ∧ ∃ x y, (q.1, x) ∈ bs ∧ x.rw = true ∧ q.2 = some y ∧ ∀ z ∈ y.els.flatten, LowP (fun b => b ∈ ids) z) ∧
      ∀ b x, (b, x) ∈ bs → ∃ y, h'[b]? = some (some y) ∧ (x.rw = true → (b, some y) ∈ ws ∨ y = x)
  | [], ws, hr => by
    simp [backs] at hr
    subst hr
    exact ⟨by simp, by simp⟩
  | (b0, x0) :: r, ws, hr => by
    unfold backs at hr
    split at hr
    · rename_i y ws' hy hrec
      obtain ⟨p1, p2⟩ := backs_ok hrec
      split at hr
      · rename_i hc
        simp only [Bool.and_eq_true] at hc
        split at hr
        · rename_i hlow
          cases hr
          refine ⟨fun q hq => ?_, fun b x hb => ?_⟩
          · rcases List.mem_cons.1 hq with rfl | hq
            · exact ⟨hy, x0, y, by simp, hc.1, rfl, lowL_ok hlow⟩
            · obtain ⟨g1, x, y', g2, g3⟩ := p1 q hq
              exact ⟨g1, x, y', by simp [g2], g3⟩
          · rcases List.mem_cons.1 hb with hb | hb
            · cases hb
              exact ⟨y, hy, fun _ => .inl (by simp)⟩
            · obtain ⟨y', g1, g2⟩ := p2 b x hb
              exact ⟨y', g1, fun h => (g2 h).imp (fun h => by simp [h]) id⟩
        · cases hr
      · rename_i hc
        cases hr
        refine ⟨fun q hq => ?_, fun b x hb => ?_⟩
        · obtain ⟨g1, x, y', g2, g3⟩ := p1 q hq
          exact ⟨g1, x, y', by simp [g2], g3⟩
        · rcases List.mem_cons.1 hb with hb | hb
          · cases hb
            refine ⟨y, hy, fun hrw => .inr ?_⟩
            have hs : (y.rw && x0.k == y.k && sameL (sameL (same snapD)) x0.els y.els) = true := by
              cases hs : (y.rw && x0.k == y.k && sameL (sameL (same snapD)) x0.els y.els) with
              | true => rfl
              | false => exact absurd (by simp [hrw, hs]) hc
            simp only [Bool.and_eq_true, beq_iff_eq] at hs
            have he := sameL_eq (fun _ _ => sameL_eq (same_eq snapD)) hs.2
            cases y
            cases x0
            simp only at hs hrw he
            rw [← hs.1.2, he, hs.1.1, hrw]
          · obtain ⟨y', g1, g2⟩ := p2 b x hb
            exact ⟨y', g1, g2⟩
    · cases hr
theorem applyWs_from {h' : Heap} : ∀ {ws : Ws} {h0 : Heap} {b : Nat}, (∀ q ∈ ws, h'[q.1]? = some q.2) → b < h0.length → (h0[b]? = h'[b]? ∨ ∃ v, (b, v) ∈ ws) → (applyWs h0 ws)[b]? = h'[b]?
  | [], h0, b, _, _, h => by
    rcases h with h | ⟨v, h⟩
    · exact h
    · simp at h
  | (c, v) :: r, h0, b, hw, hb, h => by
    simp only [applyWs]
    refine applyWs_from (fun q hq => hw q (by simp [hq])) (by simpa using hb) ?_
    by_cases hcb : c = b
    · subst hcb
      refine .inl ?_
      rw [List.getElem?_set_self hb]
      exact (hw (c, v) (by simp)).symm
    · rcases h with h | ⟨v', h⟩
      · exact .inl (by rw [List.getElem?_set_ne hcb]; exact h)
      · rcases List.mem_cons.1 h with h | h
        · cases h; exact absurd rfl hcb
        · exact .inr ⟨v', h⟩

theorem incall_ok {P : Program} {bs : Base} {rf : RF} {g : FuncId} {h : Heap} {x : AV} {ws : Ws} {rs : List Nat} (hrf : RunOK P bs rf) {xs : List AV} (hr : (incall (rf g) xs).run h = some ((x, ws), rs)) :
    Entered P g ∧ ∀ (M : Mem) (w : World) (vs : Array Value), w.heap = M.H → MemOK M h → bs.ok M → RelT M xs vs.toList →
    Calls P g vs w fun e w' => ∃ v M', e = .returned v ∧ Rel M' x v ∧ MemOK M' (applyWs h ws) ∧ Fr M h M' (applyWs h ws) ∧ (∀ b, M.μ b = none → M'.μ b = none) ∧ w'.heap = M'.H ∧ Same w w' := by
  unfold incall at hr
  replace hr := HM.run_bind hr; obtain ⟨qs, r1, r2, hg, hr, _⟩ := hr
  obtain ⟨hin, hlow⟩ := gathL_ok (gath_ok snapD) hg
  split at hr
  · rename_i r h' hcall
    split at hr
    · rename_i hrl
      replace hr := HM.run_bind hr; obtain ⟨ws', r3, r4, hb, hr, _⟩ := hr
      have hb := (HM.run_ofOption hb).1
      have := (HM.run_ret hr).1
      cases this
      obtain ⟨he, hc⟩ := hrf g xs _ _ h' hcall
      obtain ⟨b1, b2⟩ := backs_ok hb
      let ids := qs.map (·.1)
      have hid : ∀ q ∈ qs, q.1 ∈ ids := fun q hq => List.mem_map.2 ⟨q, hq, rfl⟩
      have hblk : ∀ b, b ∈ ids → ∃ x0 : Blk, (b, x0) ∈ qs ∧ h[b]? = some (some x0) := fun b hb => by
        obtain ⟨⟨b', x0⟩, hq, rfl⟩ := List.mem_map.1 hb
        exact ⟨x0, hq, hin _ hq⟩
      obtain ⟨hlx, hle⟩ := hlow (fun b => b ∈ ids) hid
      have hsubR : ∀ (b : Nat) (y : Blk), (heapOf qs (List.replicate (topOf qs) none))[b]? = some (some y) → (b, y) ∈ qs := fun b y hy => by
        rcases heapOf_get hy with h1 | h1
        · exact h1
        · rw [List.getElem?_replicate] at h1
          split at h1 <;> simp at h1
      refine ⟨he, fun M w vs hw ok hbs hxs => ?_⟩
      have hlv : ∀ b, b ∈ ids → ∃ B, M.μ b = some B := fun b hb => by
        obtain ⟨x0, _, h2⟩ := hblk b hb
        obtain ⟨B, _, _, h3, _⟩ := ok.live b x0 h2
        exact ⟨B, h3⟩
      let MR : Mem := ⟨M.F, M.H, fun b => if b ∈ ids then M.μ b else none⟩
      have hp : ∀ b, b ∈ ids → MR.μ b = M.μ b := fun b hb => if_pos hb
      have hp2 : ∀ b B, MR.μ b = some B → b ∈ ids ∧ M.μ b = some B := fun b B hb => by
        change (if b ∈ ids then M.μ b else none) = some B at hb
        split at hb
        · exact ⟨by assumption, hb⟩
        · cases hb
      have okR : MemOK MR (heapOf qs (List.replicate (topOf qs) none)) := by
        refine ⟨fun b y hy => ?_, fun b b' y y' B h1 h2 h3 h4 => ?_, fun b B hb => ?_, ok.F⟩
        · have hq := hsubR b y hy
          obtain ⟨B, arr, ty, g1, g2, g3, g4⟩ := ok.live b y (hin _ hq)
          exact ⟨B, arr, ty, by rw [hp b (hid _ hq)]; exact g1, g2, RelR.swap hp g3 (hle _ hq), g4⟩
        · exact ok.inj b b' y y' B (hin _ (hsubR b y h1)) (hin _ (hsubR b' y' h2)) (hp2 b B h3).2 (hp2 b' B h4).2
        · obtain ⟨h1, h2⟩ := hp2 b B hb
          obtain ⟨x0, hq, _⟩ := hblk b h1
          exact ⟨by rw [heapOf_length]; simpa using topOf_lt hq, (ok.dom b B h2).2⟩
      have ownR : ∀ B, Own MR (heapOf qs (List.replicate (topOf qs) none)) B → ∃ b x0, (b, x0) ∈ qs ∧ x0.rw = true ∧ M.μ b = some B := by
        rintro B ⟨b, y, h1, h2, h3⟩
        exact ⟨b, y, hsubR b y h1, h2, (hp2 b B h3).2⟩
      have ownM : ∀ B, Own MR (heapOf qs (List.replicate (topOf qs) none)) B → Own M h B := fun B ho => by
        obtain ⟨b, x0, h1, h2, h3⟩ := ownR B ho
        exact ⟨b, x0, hin _ h1, h2, h3⟩
      refine (hc MR w vs hw okR hbs (RelT.swap hp hxs hlx)).mono fun e w' hpost => ?_
      obtain ⟨v, M1, rfl, p1, p2, p3, p4, p5⟩ := hpost
      have hμ1 : ∀ b, b ∈ ids → M.μ b = M1.μ b := fun b hb => by
        obtain ⟨B, hB⟩ := hlv b hb
        rw [hB, p3.μ b B (by rw [hp b hb]; exact hB)]
      have hk : Keeps M ⟨M1.F, M1.H, M.μ⟩ := by
        have hkR := p3.keeps okR
        refine ⟨hkR.F, hkR.cells, fun _ _ h => h, fun b B hb => ?_⟩
        by_cases ho : Own MR (heapOf qs (List.replicate (topOf qs) none)) B
        · obtain ⟨b', x0, h1, h2, h3⟩ := ownR B ho
          exact hkR.len b' B (by rw [hp b' (hid _ h1)]; exact h3)
        · exact congrArg List.length (cellsAt_of (p3.old B (ok.dom b B hb).2 ho))
      -- what the blocks are now
      have hnow : ∀ (b : Nat) (y : Blk), (applyWs h ws)[b]? = some (some y) → ∃ y0 : Blk, h[b]? = some (some y0) ∧
          ((b ∈ ids ∧ h'[b]? = some (some y) ∧ ∀ z ∈ y.els.flatten, LowP (fun b => b ∈ ids) z) ∨ (b ∈ ids ∧ y = y0 ∧ y.rw = false) ∨ (b ∉ ids ∧ y = y0)) := by
        intro b y hy
        by_cases hb : b ∈ ids
        · obtain ⟨x0, hq, hx0⟩ := hblk b hb
          obtain ⟨y1, g1, g2⟩ := b2 b x0 hq
          have hbl : b < h.length := (List.getElem?_eq_some_iff.1 hx0).1
          refine ⟨x0, hx0, ?_⟩
          by_cases hkey : ∃ v, (b, v) ∈ ws
          · have := applyWs_from (h0 := h) (b := b) (fun q hq => (b1 q hq).1) hbl (.inr hkey)
            obtain ⟨v', hv'⟩ := hkey
            obtain ⟨k1, x1, y2, k2, k3, k4, k5⟩ := b1 _ hv'
            rw [this] at hy
            have : y = y2 := by
              simp only at k1 k4
              rw [k4] at k1
              rw [k1] at hy
              cases hy
              rfl
            subst this
            exact .inl ⟨hb, hy, k5⟩
          · have hun : (applyWs h ws)[b]? = h[b]? := applyWs_other fun hm => by
              obtain ⟨⟨b', v⟩, h1, rfl⟩ := List.mem_map.1 hm
              exact hkey ⟨v, h1⟩
            rw [hun, hx0] at hy
            cases hy
            cases hrw : y.rw with
            | true =>
              rcases g2 hrw with g2 | g2
              · exact absurd ⟨_, g2⟩ hkey
              · subst g2
                exact .inl ⟨hb, g1, hle _ hq⟩
            | false => exact .inr (.inl ⟨hb, rfl, rfl⟩)
        · have hun : (applyWs h ws)[b]? = h[b]? := applyWs_other fun hm => by
            obtain ⟨⟨b', v⟩, h1, rfl⟩ := List.mem_map.1 hm
            obtain ⟨_, x1, _, k2, _⟩ := b1 _ h1
            exact hb (hid _ k2)
          rw [hun] at hy
          exact ⟨y, hy, .inr (.inr ⟨hb, rfl⟩)⟩
      have hswap : ∀ {els : List (List AV)} {k : Nat} {cs : List Value}, RelR M1 els k cs → (∀ z ∈ els.flatten, LowP (fun b => b ∈ ids) z) → RelR ⟨M1.F, M1.H, M.μ⟩ els k cs := fun h1 h2 =>
        RelR.swap (F := M1.F) (H := M1.H) (μ := M1.μ) (μ' := M.μ) hμ1 h1 h2
      have notOwn : ∀ b y B, h[b]? = some (some y) → M.μ b = some B → (b ∉ ids ∨ y.rw = false) → ¬ Own MR (heapOf qs (List.replicate (topOf qs) none)) B := by
        intro b y B h1 h2 h3 ho
        obtain ⟨b', x0, k1, k2, k3⟩ := ownR B ho
        have := ok.inj b b' y x0 B h1 (hin _ k1) h2 k3
        subst this
        rcases h3 with h3 | h3
        · exact h3 (hid _ k1)
        · have := hin _ k1
          rw [h1] at this
          cases this
          rw [h3] at k2
          cases k2
      have hlenw := applyWs_length ws h
      refine ⟨v, ⟨M1.F, M1.H, M.μ⟩, rfl, Rel.swap (F := M1.F) (H := M1.H) (μ := M1.μ) (μ' := M.μ) hμ1 p1 (low_ok snapD _ hrl), ⟨fun b y hy => ?_, fun b b' y y' B h1 h2 h3 h4 => ?_, fun b B hb => ?_, p2.F⟩, ⟨hk.F, fun B hB => ?_, fun _ _ h => h, hk.len, p3.size, fun B hB ho => p3.old B hB fun h1 => ho (ownM B h1), ?_, by rw [hlenw]; exact Nat.le_refl _⟩, fun _ h => h, p4, p5⟩
      · obtain ⟨y0, hy0, hcase⟩ := hnow b y hy
        have old : y = y0 → (b ∉ ids ∨ y0.rw = false) → ∃ B arr ty, M.μ b = some B ∧ M1.H[B]? = some (.cells arr ty (0, 0)) ∧ RelR ⟨M1.F, M1.H, M.μ⟩ y.els y.k arr.toList ∧ (y.rw = true ↔ ¬ M1.F B) := by
          intro hyy hor
          subst hyy
          obtain ⟨B, arr, ty, g1, g2, g3, g4⟩ := ok.live b y hy0
          have hno := notOwn b y B hy0 g1 hor
          have hBs := (ok.dom b B g1).2
          refine ⟨B, arr, ty, g1, by rw [p3.old B hBs hno]; exact g2, RelR.mono hk g3, ?_⟩
          rw [g4]
          refine not_congr ⟨hk.F B, fun hF => ?_⟩
          rcases p3.new B hF with h1 | h1 | h1
          · exact h1
          · change M.H.size ≤ B at h1; omega
          · exact absurd h1 hno
        rcases hcase with ⟨k1, k2, k3⟩ | ⟨k1, k2, k3⟩ | ⟨k1, k2⟩
        · obtain ⟨B, arr, ty, g1, g2, g3, g4⟩ := p2.live b y k2
          exact ⟨B, arr, ty, by show M.μ b = _; rw [hμ1 b k1]; exact g1, g2, hswap g3 k3, g4⟩
        · exact old k2 (.inr (by rw [← k2]; exact k3))
        · exact old k2 (.inl k1)
      · obtain ⟨y0, hy0, _⟩ := hnow b y h1
        obtain ⟨y1, hy1, _⟩ := hnow b' y' h2
        exact ok.inj b b' y0 y1 B hy0 hy1 h3 h4
      · have := ok.dom b B hb
        exact ⟨by rw [hlenw]; exact this.1, Nat.lt_of_lt_of_le this.2 p3.size⟩
      · rcases p3.new B hB with h1 | h1 | h1
        · exact .inl h1
        · exact .inr (.inl h1)
        · exact .inr (.inr (ownM B h1))
      · rintro B ⟨b, y, h1, h2, h3⟩
        obtain ⟨y0, hy0, hcase⟩ := hnow b y h1
        rcases hcase with ⟨k1, k2, k3⟩ | ⟨k1, k2, k3⟩ | ⟨k1, k2⟩
        · rcases p3.own B ⟨b, y, k2, h2, by rw [← hμ1 b k1]; exact h3⟩ with g1 | g1
          · exact .inl (ownM B g1)
          · exact .inr g1
        · rw [k3] at h2; cases h2
        · subst k2
          exact .inl ⟨b, y, hy0, h2, h3⟩
    · exact (HM.run_bad hr).elim
  · exact (HM.run_bad hr).elim
end Go.Proofs.YtjhekjhbjaengaaGreatDoor.Ev
