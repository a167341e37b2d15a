/- The memory of an activation: when it is as its blocks say, what a write or a new block makes of it; what reads blocks reads no others. -/
import Derived.Test.YtjhekjhbjaengaaGreatDoorEvR
namespace Go.Proofs.YtjhekjhbjaengaaGreatDoor.Ev
open Go Go.RowKit

def Own (M : Mem) (h : Heap) (B : Nat) : Prop := ∃ (b : Nat) (x : Blk), h[b]? = some (some x) ∧ x.rw = true ∧ M.μ b = some B

structure MemOK (M : Mem) (h : Heap) : Prop where
  live : ∀ (b : Nat) (x : Blk), h[b]? = some (some x) → ∃ B arr ty, M.μ b = some B ∧ M.H[B]? = some (.cells arr ty (0, 0)) ∧ RelR M x.els x.k arr.toList ∧ (x.rw = true ↔ ¬ M.F B)
  inj : ∀ (b b' : Nat) (x y : Blk) (B : Nat), h[b]? = some (some x) → h[b']? = some (some y) → M.μ b = some B → M.μ b' = some B → b = b'
  dom : ∀ b B, M.μ b = some B → b < h.length ∧ B < M.H.size
  F : ∀ B, M.F B → B < M.H.size

/-- What a stretch of a run does to memory. -/
structure Fr (M : Mem) (h : Heap) (M' : Mem) (h' : Heap) : Prop where
  F : ∀ B, M.F B → M'.F B
  new : ∀ B, M'.F B → M.F B ∨ M.H.size ≤ B ∨ Own M h B
  μ : ∀ b B, M.μ b = some B → M'.μ b = some B
  len : ∀ b B, M.μ b = some B → (cellsAt M'.H B).length = (cellsAt M.H B).length
  size : M.H.size ≤ M'.H.size
  old : ∀ B, B < M.H.size → ¬ Own M h B → M'.H[B]? = M.H[B]?
  own : ∀ B, Own M' h' B → Own M h B ∨ M.H.size ≤ B
  hlen : h.length ≤ h'.length

theorem Own.notF {M : Mem} {h : Heap} (ok : MemOK M h) {B : Nat} (ho : Own M h B) : ¬ M.F B := by
  obtain ⟨b, x, h1, h2, h3⟩ := ho
  obtain ⟨B', _, _, h4, _, _, h5⟩ := ok.live b x h1
  rw [h3] at h4
  cases h4
  exact h5.1 h2

theorem cellsAt_of {H H' : Array Obj} {B : Nat} (h : H'[B]? = H[B]?) : cellsAt H' B = cellsAt H B := by unfold cellsAt; rw [h]

theorem Fr.keeps {M M' : Mem} {h h' : Heap} (f : Fr M h M' h') (ok : MemOK M h) : Keeps M M' :=
  ⟨f.F, fun B hB => cellsAt_of (f.old B (ok.F B hB) fun ho => ho.notF ok hB), f.μ, f.len⟩

theorem Fr.refl (M : Mem) (h : Heap) : Fr M h M h := ⟨fun _ h => h, fun _ h => .inl h, fun _ _ h => h, fun _ _ _ => rfl, Nat.le_refl _, fun _ _ _ => rfl, fun _ h => .inl h, Nat.le_refl _⟩
theorem Fr.trans {M M' M'' : Mem} {h h' h'' : Heap} (f : Fr M h M' h') (g : Fr M' h' M'' h'') : Fr M h M'' h'' where
  F B hB := g.F B (f.F B hB)
  new B hB := by
    rcases g.new B hB with h1 | h1 | h1
    · exact f.new B h1
    · exact .inr (.inl (Nat.le_trans f.size h1))
    · rcases f.own B h1 with h2 | h2
      · exact .inr (.inr h2)
      · exact .inr (.inl h2)
  μ b B hb := g.μ b B (f.μ b B hb)
  len b B hb := (g.len b B (f.μ b B hb)).trans (f.len b B hb)
  size := Nat.le_trans f.size g.size
  old B hB ho := by
    rw [g.old B (Nat.lt_of_lt_of_le hB f.size) (fun h1 => ?_), f.old B hB ho]
    rcases f.own B h1 with h2 | h2
    · exact ho h2
    · omega
  own B hB := by
    rcases g.own B hB with h1 | h1
    · exact f.own B h1
    · exact .inr (Nat.le_trans f.size h1)
  hlen := Nat.le_trans f.hlen g.hlen

/-- The world beside its memory. -/
structure Same (w w' : World) : Prop where
  os : w'.os = w.os
  tape : w'.tape = w.tape
  output : w'.output = w.output
theorem Same.refl (w : World) : Same w w := ⟨rfl, rfl, rfl⟩
theorem Same.trans {a b c : World} (h : Same a b) (k : Same b c) : Same a c := ⟨k.os.trans h.os, k.tape.trans h.tape, k.output.trans h.output⟩

/-- More numbers, none in use. -/
theorem MemOK.more {M : Mem} {h : Heap} (ok : MemOK M h) (n : Nat) : MemOK M (h ++ List.replicate n none) := by
  have hg : ∀ (b : Nat) (x : Blk), (h ++ List.replicate n none)[b]? = some (some x) → h[b]? = some (some x) := by
    intro b x hx
    by_cases hb : b < h.length
    · rwa [List.getElem?_append_left hb] at hx
    · rw [List.getElem?_append_right (by omega), List.getElem?_replicate] at hx
      split at hx <;> simp at hx
  exact ⟨fun b x hx => ok.live b x (hg b x hx), fun b b' x y B h1 h2 h3 h4 => ok.inj b b' x y B (hg _ _ h1) (hg _ _ h2) h3 h4, fun b B hb => ⟨by have := (ok.dom b B hb).1; simp; omega, (ok.dom b B hb).2⟩, ok.F⟩
theorem Fr.more {M : Mem} {h : Heap} (n : Nat) : Fr M h M (h ++ List.replicate n none) := by
  refine { Fr.refl M h with own := ?_, hlen := by simp }
  rintro B ⟨b, x, h1, h2, h3⟩
  by_cases hb : b < h.length
  · rw [List.getElem?_append_left hb] at h1
    exact .inl ⟨b, x, h1, h2, h3⟩
  · rw [List.getElem?_append_right (by omega), List.getElem?_replicate] at h1
    split at h1 <;> simp at h1

theorem set_get {α : Type} {l : List α} {i j : Nat} {a x : α} (h : (l.set i a)[j]? = some x) : (j = i ∧ x = a) ∨ (j ≠ i ∧ l[j]? = some x) := by
  rw [List.getElem?_set] at h
  split at h
  · rename_i e
    split at h
    · exact .inl ⟨e.symm, by simpa using h.symm⟩
    · simp at h
  · rename_i e
    exact .inr ⟨fun k => e k.symm, h⟩

/-- A block is forgotten. -/
theorem MemOK.kill {M : Mem} {h : Heap} (ok : MemOK M h) (b : Nat) : MemOK M (h.set b none) := by
  have hg : ∀ (b' : Nat) (x : Blk), (h.set b none)[b']? = some (some x) → b' ≠ b ∧ h[b']? = some (some x) := by
    intro b' x hx
    rcases set_get hx with ⟨_, h2⟩ | h2
    · simp at h2
    · exact h2
  exact ⟨fun b' x hx => ok.live b' x (hg b' x hx).2, fun b' b'' x y B h1 h2 h3 h4 => ok.inj b' b'' x y B (hg _ _ h1).2 (hg _ _ h2).2 h3 h4, fun b' B hb => by simpa using ok.dom b' B hb, ok.F⟩

/-- Number 'slot' becomes block B with what stands there now. -/
theorem MemOK.write {M : Mem} {h : Heap} (ok : MemOK M h) {slot B k : Nat} {els : List (List AV)} {H' : Array Obj} {arr : Array Value} {ty : TypeId}
    (hs : slot < h.length) (hμ : M.μ slot = none ∨ M.μ slot = some B) (hF : ¬ M.F B) (hno : ∀ (b : Nat) (x : Blk), b ≠ slot → h[b]? = some (some x) → M.μ b ≠ some B)
    (hH : H'[B]? = some (.cells arr ty (0, 0))) (hoth : ∀ j, j ≠ B → H'[j]? = M.H[j]?) (hsz : M.H.size ≤ H'.size)
    (hlen : ∀ b, M.μ b = some B → arr.size = (cellsAt M.H B).length) (hr : RelR M els k arr.toList) :
    Keeps M ⟨M.F, H', fun b => if b = slot then some B else M.μ b⟩ ∧ MemOK ⟨M.F, H', fun b => if b = slot then some B else M.μ b⟩ (h.set slot (some ⟨k, true, els⟩)) := by
  have hBs : B < H'.size := (Array.getElem?_eq_some_iff.1 hH).1
  have hk : Keeps M ⟨M.F, H', fun b => if b = slot then some B else M.μ b⟩ := by
    refine ⟨fun _ h => h, fun B' hB' => cellsAt_of (hoth B' fun e => hF (e ▸ hB')), fun b B' hb => ?_, fun b B' hb => ?_⟩
    · show (if b = slot then some B else M.μ b) = some B'
      split
      · rename_i e
        subst e
        rcases hμ with h1 | h1
        · rw [h1] at hb; cases hb
        · rw [h1] at hb; exact hb
      · exact hb
    · by_cases e : B' = B
      · subst e
        show (cellsAt H' B').length = _
        rw [← hlen b hb]
        simp [cellsAt, hH]
      · show (cellsAt H' B').length = _
        rw [cellsAt_of (hoth B' e)]
  refine ⟨hk, ?_, ?_, ?_, ?_⟩
  · intro b x hx
    rcases set_get hx with ⟨rfl, h2⟩ | ⟨hne, h2⟩
    · cases h2
      exact ⟨B, arr, ty, by simp, hH, RelR.mono hk hr, by simp [hF]⟩
    · obtain ⟨B', arr', ty', h3, h4, h5, h6⟩ := ok.live b x h2
      have hB' : B' ≠ B := fun e => hno b x hne h2 (e ▸ h3)
      exact ⟨B', arr', ty', by simp [hne, h3], by show H'[B']? = _; rw [hoth B' hB', h4], RelR.mono hk h5, h6⟩
  · intro b b' x y B' h1 h2 h3 h4
    rcases set_get h1 with ⟨e1, _⟩ | ⟨n1, g1⟩ <;> rcases set_get h2 with ⟨e2, _⟩ | ⟨n2, g2⟩
    · exact e1.trans e2.symm
    · exfalso
      simp only [e1, if_true] at h3
      simp only [n2, if_false] at h4
      cases h3
      exact hno b' y n2 g2 h4
    · exfalso
      simp only [e2, if_true] at h4
      simp only [n1, if_false] at h3
      cases h4
      exact hno b x n1 g1 h3
    · simp only [n1, n2, if_false] at h3 h4
      exact ok.inj b b' x y B' g1 g2 h3 h4
  · intro b B' hb
    change (if b = slot then some B else M.μ b) = some B' at hb
    rw [List.length_set]
    split at hb
    · rename_i e
      cases hb
      exact ⟨e ▸ hs, hBs⟩
    · have := ok.dom b B' hb
      exact ⟨this.1, Nat.lt_of_lt_of_le this.2 hsz⟩
  · intro B' hB'
    exact Nat.lt_of_lt_of_le (ok.F B' hB') hsz

/-- What such a write does. h0: the blocks ahead of it, some of which may have been forgotten. -/
theorem Fr.write {M : Mem} {h0 h : Heap} {slot B k : Nat} {els : List (List AV)} {H' : Array Obj}
    (hl : h.length = h0.length) (hsub : ∀ (b : Nat) (x : Blk), h[b]? = some (some x) → h0[b]? = some (some x)) (hk : Keeps M ⟨M.F, H', fun b => if b = slot then some B else M.μ b⟩)
    (hoth : ∀ j, j ≠ B → H'[j]? = M.H[j]?) (hsz : M.H.size ≤ H'.size) (hown : Own M h0 B ∨ M.H.size ≤ B) :
    Fr M h0 ⟨M.F, H', fun b => if b = slot then some B else M.μ b⟩ (h.set slot (some ⟨k, true, els⟩)) where
  F _ h := h
  new _ h := .inl h
  μ := hk.μ
  len := hk.len
  size := hsz
  old B' hB' ho := hoth B' fun e => by
    subst e
    rcases hown with h1 | h1
    · exact ho h1
    · omega
  own B' := by
    rintro ⟨b, x, h1, h2, h3⟩
    change (if b = slot then some B else M.μ b) = some B' at h3
    split at h3
    · cases h3; exact hown
    · rename_i hne
      rcases set_get h1 with ⟨e1, _⟩ | ⟨_, g1⟩
      · exact absurd e1 hne
      · exact .inl ⟨b, x, hsub b x g1, h2, h3⟩
  hlen := by simp [hl]

/-- A new block. -/
theorem MemOK.new {M : Mem} {h0 h : Heap} (ok : MemOK M h) (hl : h.length = h0.length) (hsub : ∀ (b : Nat) (x : Blk), h[b]? = some (some x) → h0[b]? = some (some x)) {slot k : Nat} {els : List (List AV)} {arr : Array Value} (ty : TypeId)
    (hs : slot < h.length) (hμ : M.μ slot = none) (hr : RelR M els k arr.toList) :
    let M' : Mem := ⟨M.F, M.H.push (.cells arr ty), fun b => if b = slot then some M.H.size else M.μ b⟩
    Keeps M M' ∧ MemOK M' (h.set slot (some ⟨k, true, els⟩)) ∧ Fr M h0 M' (h.set slot (some ⟨k, true, els⟩)) := by
  intro M'
  have hoth : ∀ j, j ≠ M.H.size → (M.H.push (.cells arr ty))[j]? = M.H[j]? := fun j hj => by rw [Array.getElem?_push, if_neg hj]
  have hnew : ∀ b, M.μ b ≠ some M.H.size := fun b hb => Nat.lt_irrefl _ (ok.dom b _ hb).2
  have h1 := ok.write (slot := slot) (B := M.H.size) (k := k) (els := els) (H' := M.H.push (.cells arr ty)) (arr := arr) (ty := ty) hs (.inl hμ) (fun hF => Nat.lt_irrefl _ (ok.F _ hF)) (fun b x _ _ => hnew b)
    (by simp) hoth (by simp) (fun b hb => absurd hb (hnew b)) hr
  exact ⟨h1.1, h1.2, Fr.write hl hsub h1.1 hoth (by simp) (.inr (Nat.le_refl _))⟩

/- What reads blocks. -/
namespace HM
theorem run_ret {α : Type} {h : Heap} {a b : α} {rs : List Nat} (e : (HM.ret a).run h = some (b, rs)) : a = b ∧ rs = [] := by
  simp [run] at e; exact ⟨e.1, e.2⟩
theorem run_bad {α : Type} {h : Heap} {b : α × List Nat} (e : (HM.bad : HM α).run h = some b) : False := by simp [run] at e
theorem run_ofOption {α : Type} {h : Heap} {o : Option α} {b : α} {rs : List Nat} (e : (HM.ofOption o).run h = some (b, rs)) : o = some b ∧ rs = [] := by
  cases o with
  | none => simp [ofOption, run] at e
  | some a => simp [ofOption, run] at e; exact ⟨by rw [e.1], e.2⟩
theorem run_get {α : Type} {h : Heap} {i : Nat} {f : Blk → HM α} {b : α} {rs : List Nat} (e : (HM.get i f).run h = some (b, rs)) : ∃ x r, h[i]? = some (some x) ∧ (f x).run h = some (b, r) ∧ rs = i :: r := by
  simp only [run] at e
  split at e
  · rename_i x hx
    split at e
    · rename_i a r hr
      simp at e
      exact ⟨x, r, hx, by rw [hr, e.1], e.2.symm⟩
    · simp at e
  · simp at e
theorem run_bind {α β : Type} {h : Heap} : ∀ {m : HM α} {f : α → HM β} {b : β} {rs : List Nat}, (m.bind f).run h = some (b, rs) → ∃ a r r', m.run h = some (a, r) ∧ (f a).run h = some (b, r') ∧ rs = r ++ r'
  | .ret a, f, b, rs, e => ⟨a, [], rs, rfl, e, rfl⟩
  | .bad, f, b, rs, e => by simp [bind, run] at e
  | .get i k, f, b, rs, e => by
    simp only [bind] at e
    obtain ⟨x, r, hx, h1, rfl⟩ := run_get e
    obtain ⟨a, r1, r2, h2, h3, rfl⟩ := run_bind h1
    exact ⟨a, i :: r1, r2, by simp [run, hx, h2], h3, rfl⟩
/-- What is read is all that counts. -/
theorem run_local {α : Type} {h h' : Heap} : ∀ {m : HM α} {b : α} {rs : List Nat}, m.run h = some (b, rs) → (∀ i ∈ rs, h'[i]? = h[i]?) → m.run h' = some (b, rs)
  | .ret a, b, rs, e, _ => by simpa [run] using e
  | .bad, b, rs, e, _ => by simp [run] at e
  | .get i k, b, rs, e, hl => by
    obtain ⟨x, r, hx, h1, rfl⟩ := run_get e
    have := run_local (m := k x) h1 fun j hj => hl j (by simp [hj])
    simp [run, hl i (by simp), hx, this]
end HM
end Go.Proofs.YtjhekjhbjaengaaGreatDoor.Ev
