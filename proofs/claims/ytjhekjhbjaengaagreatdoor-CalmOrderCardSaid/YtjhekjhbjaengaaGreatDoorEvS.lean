/- A value as a callee sees it: told by what it holds. -/
import Derived.Test.YtjhekjhbjaengaaGreatDoorEvP8
namespace Go.Proofs.YtjhekjhbjaengaaGreatDoor.Ev
open Go Go.RowKit

def Cover (M : Mem) (bs : List Nat) (F' : Nat → Prop) : Prop := (∀ B, M.F B → F' B) ∧ ∀ b ∈ bs, ∀ B, M.μ b = some B → F' B
theorem Cover.left {M : Mem} {bs cs : List Nat} {F' : Nat → Prop} (h : Cover M (bs ++ cs) F') : Cover M bs F' := ⟨h.1, fun b hb => h.2 b (by simp [hb])⟩
theorem Cover.right {M : Mem} {bs cs : List Nat} {F' : Nat → Prop} (h : Cover M (bs ++ cs) F') : Cover M cs F' := ⟨h.1, fun b hb => h.2 b (by simp [hb])⟩

def SnapOK (M : Mem) (h : Heap) (f : AV → HM (AV × List Nat)) : Prop :=
  ∀ x y bs rs, (f x).run h = some ((y, bs), rs) → (∀ b ∈ bs, b ∈ rs) ∧ (x.flat = true → y.flat = true) ∧ ∀ u F', Rel M x u → Cover M bs F' → Rel ⟨F', M.H, fun _ => none⟩ y u

section
variable {M : Mem} {h : Heap}
theorem snapL_ok {f : AV → HM (AV × List Nat)} (hf : SnapOK M h f) : ∀ {l l' : List AV} {bs rs : List Nat}, (snapL f l).run h = some ((l', bs), rs) →
    (∀ b ∈ bs, b ∈ rs) ∧ l'.length = l.length ∧ ∀ cs F', Cover M bs F' → (RelC M l cs → RelC ⟨F', M.H, fun _ => none⟩ l' cs) ∧ (RelT M l cs → RelT ⟨F', M.H, fun _ => none⟩ l' cs)
  | [], l', bs, rs, hr => by
    have := (HM.run_ret hr).1
    cases this
    refine ⟨by simp, rfl, fun cs F' _ => ⟨fun h => ?_, fun h => ?_⟩⟩
    · unfold RelC at h; subst h; exact .nil
    · unfold RelT at h; subst h; exact .nil
  | x :: l, l', bs, rs, hr => by
    replace hr := HM.run_bind hr; obtain ⟨⟨y, b1⟩, r1, r', h1, hr, rfl⟩ := hr
    replace hr := HM.run_bind hr; obtain ⟨⟨ys, b2⟩, r2, r3, h2, hr, rfl⟩ := hr
    have := HM.run_ret hr
    obtain ⟨e1, rfl⟩ := this
    cases e1
    obtain ⟨p1, p2, p3⟩ := hf x y b1 r1 h1
    obtain ⟨q1, q2, q3⟩ := snapL_ok hf h2
    refine ⟨fun b hb => ?_, by simp [q2], fun cs F' hc => ⟨fun h => ?_, fun h => ?_⟩⟩
    · rcases List.mem_append.1 hb with hb | hb
      · exact List.mem_append_left _ (p1 b hb)
      · exact List.mem_append_right _ (List.mem_append_left _ (q1 b hb))
    · unfold RelC at h
      obtain ⟨c, r, rfl, g1, g2, g3⟩ := h
      exact .cons (p2 g1) (p3 c F' g2 hc.left) ((q3 r F' hc.right).1 g3)
    · unfold RelT at h
      obtain ⟨c, r, rfl, g2, g3⟩ := h
      exact .cons (p3 c F' g2 hc.left) ((q3 r F' hc.right).2 g3)
theorem snapLL_ok {f : AV → HM (AV × List Nat)} (hf : SnapOK M h f) : ∀ {l l' : List (List AV)} {bs rs : List Nat}, (snapLL f l).run h = some ((l', bs), rs) →
    (∀ b ∈ bs, b ∈ rs) ∧ l'.length = l.length ∧ ∀ k cs F', Cover M bs F' → RelR M l k cs → RelR ⟨F', M.H, fun _ => none⟩ l' k cs
  | [], l', bs, rs, hr => by
    have := (HM.run_ret hr).1
    cases this
    exact ⟨by simp, rfl, fun k cs F' _ _ => .nil⟩
  | x :: l, l', bs, rs, hr => by
    replace hr := HM.run_bind hr; obtain ⟨⟨y, b1⟩, r1, r', h1, hr, rfl⟩ := hr
    replace hr := HM.run_bind hr; obtain ⟨⟨ys, b2⟩, r2, r3, h2, hr, rfl⟩ := hr
    have := HM.run_ret hr
    obtain ⟨e1, rfl⟩ := this
    cases e1
    obtain ⟨p1, p2, p3⟩ := snapL_ok hf h1
    obtain ⟨q1, q2, q3⟩ := snapLL_ok hf h2
    refine ⟨fun b hb => ?_, by simp [q2], fun k cs F' hc h => ?_⟩
    · rcases List.mem_append.1 hb with hb | hb
      · exact List.mem_append_left _ (p1 b hb)
      · exact List.mem_append_right _ (List.mem_append_left _ (q1 b hb))
    · unfold RelR at h
      obtain ⟨g1, g2, g3, g4⟩ := h
      exact .cons (by rw [p2]; exact g1) ((p3 _ F' hc.left).1 g3) (q3 k _ F' hc.right g4)

theorem bareKeeps {F' : Nat → Prop} (hF : ∀ B, M.F B → F' B) : Keeps M.bare ⟨F', M.H, fun _ => none⟩ := ⟨hF, fun _ _ => rfl, fun _ _ h => (by cases h), fun _ _ h => (by cases h)⟩

theorem snap_ok (ok : MemOK M h) : ∀ d : Nat, SnapOK M h (snap d)
  | 0 => fun x y bs rs hr => (HM.run_bad hr).elim
  | d + 1 => by
    intro x y bs rs hr
    have ih := snap_ok ok d
    unfold snap at hr
    split at hr
    · obtain ⟨e1, rfl⟩ := HM.run_ret hr
      cases e1
      refine ⟨by simp, fun _ => rfl, fun u F' hu _ => ?_⟩
      unfold Rel at hu
      subst hu
      unfold Rel
      exact ⟨none, 0, rfl, by simp, .inl rfl⟩
    · obtain ⟨e1, rfl⟩ := HM.run_ret hr
      cases e1
      refine ⟨by simp, fun h => h, fun u F' hu _ => ?_⟩
      unfold Rel at hu ⊢
      exact hu
    · rename_i l
      replace hr := HM.run_bind hr; obtain ⟨⟨l', b1⟩, r1, r', h1, hr, rfl⟩ := hr
      obtain ⟨e1, rfl⟩ := HM.run_ret hr
      cases e1
      obtain ⟨p1, p2, p3⟩ := snapL_ok ih h1
      refine ⟨fun b hb => by simpa using p1 b hb, fun h => by simp [AV.flat] at h, fun u F' hu hc => ?_⟩
      unfold Rel at hu ⊢
      obtain ⟨cs, rfl, g⟩ := hu
      exact ⟨cs, rfl, (p3 _ F' hc).1 g⟩
    · rename_i l
      replace hr := HM.run_bind hr; obtain ⟨⟨l', b1⟩, r1, r', h1, hr, rfl⟩ := hr
      obtain ⟨e1, rfl⟩ := HM.run_ret hr
      cases e1
      obtain ⟨p1, p2, p3⟩ := snapL_ok ih h1
      refine ⟨fun b hb => by simpa using p1 b hb, fun h => by simp [AV.flat] at h, fun u F' hu hc => ?_⟩
      unfold Rel at hu ⊢
      obtain ⟨cs, rfl, g⟩ := hu
      exact ⟨cs, rfl, (p3 _ F' hc).2 g⟩
    · rename_i l
      obtain ⟨e1, rfl⟩ := HM.run_ret hr
      cases e1
      refine ⟨by simp, fun _ => rfl, fun u F' hu hc => ?_⟩
      unfold Rel at hu ⊢
      obtain ⟨A, c, h1, h2, h3⟩ := hu
      refine ⟨A, c, h1, h2, ?_⟩
      rcases h3 with h3 | ⟨B, o, k, h3, h4, h5⟩
      · exact .inl h3
      · exact .inr ⟨B, o, k, h3, hc.1 B h4, h5.mono (bareKeeps hc.1)⟩
    · obtain ⟨e1, rfl⟩ := HM.run_ret hr
      cases e1
      refine ⟨by simp, fun _ => rfl, fun u F' hu hc => ?_⟩
      unfold Rel at hu ⊢
      obtain ⟨A, rfl⟩ := hu
      exact ⟨A, 0, rfl, by simp, .inl rfl⟩
    · rename_i b k off len
      replace hr := HM.run_get hr; obtain ⟨blk, r1, hblk, hr, rfl⟩ := hr
      split at hr
      · rename_i hcond
        obtain ⟨hk, hle⟩ := hcond
        replace hr := HM.run_bind hr; obtain ⟨⟨l', b1⟩, r2, r', h1, hr, rfl⟩ := hr
        obtain ⟨e1, rfl⟩ := HM.run_ret hr
        cases e1
        obtain ⟨p1, p2, p3⟩ := snapLL_ok ih h1
        refine ⟨fun b' hb => ?_, fun _ => rfl, fun u F' hu hc => ?_⟩
        · rcases List.mem_cons.1 hb with rfl | hb
          · simp
          · simpa using Or.inr (p1 b' hb)
        · have hl : l'.length = len := by rw [p2]; simp; omega
          show Rel _ (AV.fsl l') u
          unfold Rel at hu ⊢
          obtain ⟨A, c, B, rfl, hlc, hB, hA, hsz⟩ := hu
          refine ⟨A, c, by rw [hl], by omega, ?_⟩
          by_cases h0 : len = 0
          · exact .inl (List.eq_nil_of_length_eq_zero (by omega))
          · refine .inr ⟨B, off * k, k, hA (by omega), hc.2 b (by simp) B hB, ?_⟩
            have hR := (liveCells ok hblk hB).1
            rw [hk] at hR
            exact p3 k _ F' ⟨hc.1, fun b' hb' => hc.2 b' (by simp [hb'])⟩ ((hR.drop off).take len)
      · exact (HM.run_bad hr).elim
    · rename_i b k i j
      replace hr := HM.run_get hr; obtain ⟨blk, r1, hblk, hr, rfl⟩ := hr
      split at hr
      · rename_i e he
        split at hr
        · rename_i hk
          replace hr := HM.run_bind hr; obtain ⟨⟨l', b1⟩, r2, r', h1, hr, rfl⟩ := hr
          obtain ⟨e1, rfl⟩ := HM.run_ret hr
          cases e1
          obtain ⟨p1, p2, p3⟩ := snapL_ok ih h1
          refine ⟨fun b' hb => ?_, fun _ => rfl, fun u F' hu hc => ?_⟩
          · rcases List.mem_cons.1 hb with rfl | hb
            · simp
            · simpa using Or.inr (p1 b' hb)
          · unfold Rel at hu ⊢
            obtain ⟨B, rfl, hB⟩ := hu
            have hR := (liveCells ok hblk hB).1.get he
            rw [hk] at hR
            refine ⟨B, i * k, rfl, hc.2 b (by simp) B hB, ?_⟩
            have hl : l'.length = k := by rw [p2, hR.1]
            rw [hl]
            exact (p3 _ F' ⟨hc.1, fun b' hb' => hc.2 b' (by simp [hb'])⟩).1 hR.2
        · exact (HM.run_bad hr).elim
      · exact (HM.run_bad hr).elim
    · rename_i l j
      obtain ⟨e1, rfl⟩ := HM.run_ret hr
      cases e1
      refine ⟨by simp, fun _ => rfl, fun u F' hu hc => ?_⟩
      unfold Rel at hu ⊢
      obtain ⟨B, o, h1, h2, h3⟩ := hu
      exact ⟨B, o, h1, hc.1 B h2, h3.mono (bareKeeps hc.1)⟩
    · rename_i tt y'
      replace hr := HM.run_bind hr; obtain ⟨⟨l', b1⟩, r1, r', h1, hr, rfl⟩ := hr
      obtain ⟨e1, rfl⟩ := HM.run_ret hr
      cases e1
      obtain ⟨p1, p2, p3⟩ := ih _ _ _ _ h1
      refine ⟨fun b hb => by simpa using p1 b hb, fun _ => rfl, fun u F' hu hc => ?_⟩
      unfold Rel at hu ⊢
      obtain ⟨v, rfl, g⟩ := hu
      exact ⟨v, rfl, p3 v F' g hc⟩
    · rename_i f c
      replace hr := HM.run_bind hr; obtain ⟨⟨l', b1⟩, r1, r', h1, hr, rfl⟩ := hr
      obtain ⟨e1, rfl⟩ := HM.run_ret hr
      cases e1
      obtain ⟨p1, p2, p3⟩ := snapL_ok ih h1
      refine ⟨fun b hb => by simpa using p1 b hb, fun _ => rfl, fun u F' hu hc => ?_⟩
      unfold Rel at hu ⊢
      obtain ⟨cs, rfl, g⟩ := hu
      exact ⟨cs, rfl, (p3 _ F' hc).2 g⟩

theorem run_live {α : Type} {h : Heap} : ∀ {m : HM α} {b : α} {rs : List Nat}, m.run h = some (b, rs) → ∀ i ∈ rs, ∃ x : Blk, h[i]? = some (some x)
  | .ret a, b, rs, e => by obtain ⟨_, rfl⟩ := HM.run_ret e; simp
  | .bad, b, rs, e => (HM.run_bad e).elim
  | .get i k, b, rs, e => by
    obtain ⟨x, r, hx, h1, rfl⟩ := HM.run_get e
    intro j hj
    rcases List.mem_cons.1 hj with rfl | hj
    · exact ⟨x, hx⟩
    · exact run_live h1 j hj

/-- What is frozen, and what stays. -/
theorem freezes_ok : ∀ {bs : List Nat} {ws : Ws} {rs : List Nat}, (freezes bs).run h = some (ws, rs) → ∀ h0 : Heap, h0.length = h.length →
    (applyWs h0 ws).length = h0.length ∧ (∀ b x, b ∈ bs → h[b]? = some (some x) → x.rw = true → (applyWs h0 ws)[b]? = some (some { x with rw := false })) ∧
      (∀ b : Nat, (b ∉ bs ∨ ∃ x : Blk, h[b]? = some (some x) ∧ x.rw = false) → (applyWs h0 ws)[b]? = h0[b]?)
  | [], ws, rs, hr, h0, hl => by
    obtain ⟨rfl, _⟩ := HM.run_ret hr
    exact ⟨rfl, by simp, fun b _ => rfl⟩
  | b0 :: bs, ws, rs, hr, h0, hl => by
    replace hr := HM.run_get hr; obtain ⟨blk, r1, hblk, hr, _⟩ := hr
    replace hr := HM.run_bind hr; obtain ⟨ws', r2, r3, h1, hr, _⟩ := hr
    obtain ⟨rfl, _⟩ := HM.run_ret hr
    have hb0 : b0 < h.length := (List.getElem?_eq_some_iff.1 hblk).1
    split
    · rename_i hrw
      obtain ⟨p1, p2, p3⟩ := freezes_ok h1 (h0.set b0 (some { blk with rw := false })) (by simpa using hl)
      refine ⟨by simpa [applyWs] using p1, fun b x hb hx hxr => ?_, fun b hb => ?_⟩
      · by_cases hbs : b ∈ bs
        · exact p2 b x hbs hx hxr
        · have hbb : b = b0 := by simpa [hbs] using hb
          subst hbb
          rw [hblk] at hx
          cases hx
          show (applyWs (h0.set b (some { blk with rw := false })) ws')[b]? = _
          rw [p3 b (.inl hbs), List.getElem?_set_self (by omega)]
      · have hne : b ≠ b0 := by
          rintro rfl
          rcases hb with hb | ⟨x, hx, hxr⟩
          · simp at hb
          · rw [hblk] at hx; cases hx; rw [hrw] at hxr; cases hxr
        show (applyWs (h0.set b0 (some { blk with rw := false })) ws')[b]? = _
        rw [p3 b (hb.imp (fun hb hbs => hb (by simp [hbs])) id), List.getElem?_set_ne (fun e => hne e.symm)]
    · rename_i hrw
      obtain ⟨p1, p2, p3⟩ := freezes_ok h1 h0 hl
      refine ⟨p1, fun b x hb hx hxr => ?_, fun b hb => ?_⟩
      · by_cases hbs : b ∈ bs
        · exact p2 b x hbs hx hxr
        · have hbb : b = b0 := by simpa [hbs] using hb
          subst hbb
          rw [hblk] at hx
          cases hx
          exact absurd hxr hrw
      · refine p3 b (hb.imp (fun hb hbs => hb (by simp [hbs])) id)
end
end Go.Proofs.YtjhekjhbjaengaaGreatDoor.Ev
