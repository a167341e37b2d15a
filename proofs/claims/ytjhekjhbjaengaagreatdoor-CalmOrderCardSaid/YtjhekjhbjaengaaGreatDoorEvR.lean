/- What a plain value stands for, and when a memory is as a list of blocks says. -/
import Derived.Test.YtjhekjhbjaengaaGreatDoorEvD
namespace Go.Proofs.YtjhekjhbjaengaaGreatDoor.Ev
open Go Go.RowKit

/-- The cells of block B. -/
def cellsAt (H : Array Obj) (B : Nat) : List Value := match H[B]? with | some (.cells c _ _) => c.toList | _ => []

/-- Blocks that are only read, the memory, which of its blocks is which of the activation's. -/
structure Mem where
  F : Nat → Prop
  H : Array Obj
  μ : Nat → Option Nat

/-- The same, with no block of one's own: what is only read leads to none. -/
def Mem.bare (M : Mem) : Mem := ⟨M.F, M.H, fun _ => none⟩
mutual
def Rel : Mem → AV → Value → Prop
  | _, .v x, u => u = x
  | M, .agg l, u => ∃ cs : Array Value, u = .agg cs ∧ RelC M l cs.toList
  | M, .tup l, u => ∃ cs : Array Value, u = .tuple cs ∧ RelT M l cs.toList
  | M, .fsl l, u => ∃ A c, u = .slice A l.length c ∧ l.length ≤ c ∧ (l = [] ∨ ∃ B o k, A = some ⟨B, o, none⟩ ∧ M.F B ∧ RelR M.bare l k ((cellsAt M.H B).drop o))
  | _, .e0, u => ∃ A, u = .slice A 0 0
  | M, .sl b k off len, u => ∃ A c B, u = .slice A len c ∧ len ≤ c ∧ M.μ b = some B ∧ (c ≠ 0 → A = some ⟨B, off * k, none⟩) ∧ (off + c) * k ≤ (cellsAt M.H B).length
  | M, .ptr b k i j, u => ∃ B, u = .pointer (some ⟨B, i * k + j, none⟩) ∧ M.μ b = some B
  | M, .fptr l j, u => ∃ B o, u = .pointer (some ⟨B, o + j, none⟩) ∧ M.F B ∧ RelC M.bare l (((cellsAt M.H B).drop o).take l.length)
  | M, .ifc t x, u => ∃ y, u = .iface t y ∧ Rel M x y
  | M, .fn f c, u => ∃ cs : Array Value, u = .func (.func f) #[] cs ∧ RelT M c cs.toList
def RelC : Mem → List AV → List Value → Prop
  | _, [], cs => cs = []
  | M, x :: l, cs => ∃ c r, cs = c :: r ∧ x.flat = true ∧ Rel M x c ∧ RelC M l r
def RelT : Mem → List AV → List Value → Prop
  | _, [], cs => cs = []
  | M, x :: l, cs => ∃ c r, cs = c :: r ∧ Rel M x c ∧ RelT M l r
def RelR : Mem → List (List AV) → Nat → List Value → Prop
  | _, [], _, _ => True
  | M, e :: l, k, cs => e.length = k ∧ k ≤ cs.length ∧ RelC M e (cs.take k) ∧ RelR M l k (cs.drop k)
end

/-- What stays as a memory goes on. -/
structure Keeps (M M' : Mem) : Prop where
  F : ∀ B, M.F B → M'.F B
  cells : ∀ B, M.F B → cellsAt M'.H B = cellsAt M.H B
  μ : ∀ b B, M.μ b = some B → M'.μ b = some B
  len : ∀ b B, M.μ b = some B → (cellsAt M'.H B).length = (cellsAt M.H B).length

theorem Keeps.refl (M : Mem) : Keeps M M := ⟨fun _ h => h, fun _ _ => rfl, fun _ _ h => h, fun _ _ _ => rfl⟩
theorem Keeps.bare {M M' : Mem} (h : Keeps M M') : Keeps M.bare M'.bare := ⟨h.F, h.cells, fun _ _ h => (by cases h), fun _ _ h => (by cases h)⟩
theorem Keeps.ofBare (M : Mem) : Keeps M.bare M := ⟨fun _ h => h, fun _ _ => rfl, fun _ _ h => (by cases h), fun _ _ h => (by cases h)⟩
theorem Keeps.trans {M M' M'' : Mem} (h : Keeps M M') (k : Keeps M' M'') : Keeps M M'' :=
  ⟨fun B hB => k.F B (h.F B hB), fun B hB => (k.cells B (h.F B hB)).trans (h.cells B hB), fun b B hb => k.μ b B (h.μ b B hb), fun b B hb => (k.len b B (h.μ b B hb)).trans (h.len b B hb)⟩

mutual
theorem Rel.mono : ∀ {M M' : Mem} (_ : Keeps M M') {x : AV} {u : Value}, Rel M x u → Rel M' x u
  | _, _, hk, .v _, _, h => by unfold Rel at h ⊢; exact h
  | _, _, hk, .agg l, _, h => by unfold Rel at h ⊢; obtain ⟨cs, h1, h2⟩ := h; exact ⟨cs, h1, RelC.mono hk h2⟩
  | _, _, hk, .tup l, _, h => by unfold Rel at h ⊢; obtain ⟨cs, h1, h2⟩ := h; exact ⟨cs, h1, RelT.mono hk h2⟩
  | _, _, hk, .fsl l, _, h => by
    unfold Rel at h ⊢
    obtain ⟨A, c, h1, h2, h3⟩ := h
    refine ⟨A, c, h1, h2, ?_⟩
    rcases h3 with h3 | ⟨B, o, k, h3, h4, h5⟩
    · exact .inl h3
    · exact .inr ⟨B, o, k, h3, hk.F B h4, by rw [hk.cells B h4]; exact RelR.mono hk.bare h5⟩
  | _, _, hk, .e0, _, h => by unfold Rel at h ⊢; exact h
  | _, _, hk, .sl b k off len, _, h => by
    unfold Rel at h ⊢
    obtain ⟨A, c, B, h1, h2, h3, h4, h5⟩ := h
    exact ⟨A, c, B, h1, h2, hk.μ b B h3, h4, by rw [hk.len b B h3]; exact h5⟩
  | _, _, hk, .ptr b k i j, _, h => by unfold Rel at h ⊢; obtain ⟨B, h1, h2⟩ := h; exact ⟨B, h1, hk.μ b B h2⟩
  | _, _, hk, .fptr l j, _, h => by
    unfold Rel at h ⊢
    obtain ⟨B, o, h1, h2, h3⟩ := h
    exact ⟨B, o, h1, hk.F B h2, by rw [hk.cells B h2]; exact RelC.mono hk.bare h3⟩
  | _, _, hk, .ifc t x, _, h => by unfold Rel at h ⊢; obtain ⟨y, h1, h2⟩ := h; exact ⟨y, h1, Rel.mono hk h2⟩
  | _, _, hk, .fn f c, _, h => by unfold Rel at h ⊢; obtain ⟨cs, h1, h2⟩ := h; exact ⟨cs, h1, RelT.mono hk h2⟩
theorem RelC.mono : ∀ {M M' : Mem} (_ : Keeps M M') {l : List AV} {cs : List Value}, RelC M l cs → RelC M' l cs
  | _, _, hk, [], _, h => by unfold RelC at h ⊢; exact h
  | _, _, hk, x :: l, _, h => by unfold RelC at h ⊢; obtain ⟨c, r, h1, h2, h3, h4⟩ := h; exact ⟨c, r, h1, h2, Rel.mono hk h3, RelC.mono hk h4⟩
theorem RelT.mono : ∀ {M M' : Mem} (_ : Keeps M M') {l : List AV} {cs : List Value}, RelT M l cs → RelT M' l cs
  | _, _, hk, [], _, h => by unfold RelT at h ⊢; exact h
  | _, _, hk, x :: l, _, h => by unfold RelT at h ⊢; obtain ⟨c, r, h1, h3, h4⟩ := h; exact ⟨c, r, h1, Rel.mono hk h3, RelT.mono hk h4⟩
theorem RelR.mono : ∀ {M M' : Mem} (_ : Keeps M M') {l : List (List AV)} {k : Nat} {cs : List Value}, RelR M l k cs → RelR M' l k cs
  | _, _, hk, [], _, _, h => by unfold RelR; trivial
  | _, _, hk, e :: l, k, cs, h => by unfold RelR at h ⊢; obtain ⟨h1, h2, h3, h4⟩ := h; exact ⟨h1, h2, RelC.mono hk h3, RelR.mono hk h4⟩
end

section
variable {M : Mem}
theorem RelC.length : ∀ {l : List AV} {cs : List Value}, RelC M l cs → cs.length = l.length
  | [], _, h => by unfold RelC at h; simp [h]
  | x :: l, _, h => by unfold RelC at h; obtain ⟨c, r, rfl, _, _, h4⟩ := h; simp [RelC.length h4]
theorem RelT.length : ∀ {l : List AV} {cs : List Value}, RelT M l cs → cs.length = l.length
  | [], _, h => by unfold RelT at h; simp [h]
  | x :: l, _, h => by unfold RelT at h; obtain ⟨c, r, rfl, _, h4⟩ := h; simp [RelT.length h4]
theorem RelC.nil : RelC M [] [] := by unfold RelC; rfl
theorem RelT.nil : RelT M [] [] := by unfold RelT; rfl
theorem RelC.cons {x : AV} {l : List AV} {c : Value} {r : List Value} (hf : x.flat = true) (h : Rel M x c) (k : RelC M l r) : RelC M (x :: l) (c :: r) := by unfold RelC; exact ⟨c, r, rfl, hf, h, k⟩
theorem RelT.cons {x : AV} {l : List AV} {c : Value} {r : List Value} (h : Rel M x c) (k : RelT M l r) : RelT M (x :: l) (c :: r) := by unfold RelT; exact ⟨c, r, rfl, h, k⟩
theorem RelC.toT : ∀ {l : List AV} {cs : List Value}, RelC M l cs → RelT M l cs
  | [], _, h => by unfold RelC at h; subst h; exact .nil
  | x :: l, _, h => by unfold RelC at h; obtain ⟨c, r, rfl, _, h3, h4⟩ := h; exact .cons h3 h4.toT
theorem RelC.append : ∀ {l m : List AV} {cs ds : List Value}, RelC M l cs → RelC M m ds → RelC M (l ++ m) (cs ++ ds)
  | [], _, _, _, h, k => by unfold RelC at h; subst h; exact k
  | x :: l, _, _, _, h, k => by unfold RelC at h; obtain ⟨c, r, rfl, h2, h3, h4⟩ := h; exact .cons h2 h3 (h4.append k)
theorem RelT.append : ∀ {l m : List AV} {cs ds : List Value}, RelT M l cs → RelT M m ds → RelT M (l ++ m) (cs ++ ds)
  | [], _, _, _, h, k => by unfold RelT at h; subst h; exact k
  | x :: l, _, _, _, h, k => by unfold RelT at h; obtain ⟨c, r, rfl, h3, h4⟩ := h; exact .cons h3 (h4.append k)
theorem RelC.drop : ∀ (n : Nat) {l : List AV} {cs : List Value}, RelC M l cs → RelC M (l.drop n) (cs.drop n)
  | 0, _, _, h => h
  | n + 1, [], _, h => by unfold RelC at h; subst h; simp; exact .nil
  | n + 1, x :: l, _, h => by unfold RelC at h; obtain ⟨c, r, rfl, _, _, h4⟩ := h; simpa using RelC.drop n h4
theorem RelC.take : ∀ (n : Nat) {l : List AV} {cs : List Value}, RelC M l cs → RelC M (l.take n) (cs.take n)
  | 0, _, _, _ => by simp; exact .nil
  | n + 1, [], _, h => by unfold RelC at h; subst h; simp; exact .nil
  | n + 1, x :: l, _, h => by unfold RelC at h; obtain ⟨c, r, rfl, h2, h3, h4⟩ := h; simpa using .cons h2 h3 (RelC.take n h4)
theorem RelC.get : ∀ {l : List AV} {cs : List Value} {i : Nat} {x : AV}, RelC M l cs → l[i]? = some x → ∃ c, cs[i]? = some c ∧ x.flat = true ∧ Rel M x c
  | [], _, _, _, _, h => by simp at h
  | y :: l, _, 0, x, h, hx => by unfold RelC at h; obtain ⟨c, r, rfl, h2, h3, _⟩ := h; simp at hx; subst hx; exact ⟨c, rfl, h2, h3⟩
  | y :: l, _, i + 1, x, h, hx => by unfold RelC at h; obtain ⟨c, r, rfl, _, _, h4⟩ := h; simpa using h4.get (by simpa using hx)
theorem RelT.get : ∀ {l : List AV} {cs : List Value} {i : Nat} {x : AV}, RelT M l cs → l[i]? = some x → ∃ c, cs[i]? = some c ∧ Rel M x c
  | [], _, _, _, _, h => by simp at h
  | y :: l, _, 0, x, h, hx => by unfold RelT at h; obtain ⟨c, r, rfl, h3, _⟩ := h; simp at hx; subst hx; exact ⟨c, rfl, h3⟩
  | y :: l, _, i + 1, x, h, hx => by unfold RelT at h; obtain ⟨c, r, rfl, _, h4⟩ := h; simpa using h4.get (by simpa using hx)
theorem RelT.set : ∀ {l : List AV} {cs : List Value} {i : Nat} {x : AV} {c : Value}, RelT M l cs → Rel M x c → RelT M (l.set i x) (cs.set i c)
  | [], _, _, _, _, h, _ => by unfold RelT at h; subst h; simp; exact .nil
  | y :: l, _, 0, x, c, h, hx => by unfold RelT at h; obtain ⟨c', r, rfl, h3, h4⟩ := h; simpa using .cons hx h4
  | y :: l, _, i + 1, x, c, h, hx => by unfold RelT at h; obtain ⟨c', r, rfl, h3, h4⟩ := h; simpa using .cons h3 (h4.set hx)
theorem RelC.cell1 : ∀ {l : List AV} {cs : List Value}, RelC M l cs → ∀ v ∈ cs, v.oneCell' = true
  | [], _, h => by unfold RelC at h; subst h; simp
  | x :: l, _, h => by
    unfold RelC at h
    obtain ⟨c, r, rfl, h2, h3, h4⟩ := h
    intro v hv
    rcases List.mem_cons.1 hv with rfl | hv
    · cases x <;> unfold Rel at h3 <;> simp [AV.flat] at h2 <;> first
        | (subst h3; exact h2)
        | (obtain ⟨_, _, rfl, _⟩ := h3; rfl)
        | (obtain ⟨_, _, _, rfl, _⟩ := h3; rfl)
        | (obtain ⟨_, rfl, _⟩ := h3; rfl)
        | (obtain ⟨_, rfl⟩ := h3; rfl)
    · exact h4.cell1 v hv
theorem RelR.nil {k : Nat} {cs : List Value} : RelR M [] k cs := by unfold RelR; trivial
theorem RelR.cons {e : List AV} {l : List (List AV)} {k : Nat} {cs : List Value} (h1 : e.length = k) (h2 : RelC M e (cs.take k)) (h3 : RelR M l k (cs.drop k)) : RelR M (e :: l) k cs := by
  unfold RelR
  refine ⟨h1, ?_, h2, h3⟩
  have := h2.length
  simp at this
  omega
theorem RelR.length : ∀ {l : List (List AV)} {k : Nat} {cs : List Value}, RelR M l k cs → l.length * k ≤ cs.length
  | [], _, _, _ => by simp
  | e :: l, k, cs, h => by
    unfold RelR at h
    obtain ⟨_, h2, _, h4⟩ := h
    have := h4.length
    simp [Nat.add_mul] at this ⊢
    omega
theorem RelR.drop : ∀ (n : Nat) {l : List (List AV)} {k : Nat} {cs : List Value}, RelR M l k cs → RelR M (l.drop n) k (cs.drop (n * k))
  | 0, _, _, _, h => by simpa using h
  | n + 1, [], _, _, h => by simp; exact .nil
  | n + 1, e :: l, k, cs, h => by
    unfold RelR at h
    have := RelR.drop n h.2.2.2
    simpa [Nat.add_mul, Nat.add_comm] using this
theorem RelR.take : ∀ (n : Nat) {l : List (List AV)} {k : Nat} {cs : List Value}, RelR M l k cs → RelR M (l.take n) k cs
  | 0, _, _, _, h => by simp; exact .nil
  | n + 1, [], _, _, h => by simp; exact .nil
  | n + 1, e :: l, k, cs, h => by
    unfold RelR at h
    exact .cons h.1 h.2.2.1 (RelR.take n h.2.2.2)
theorem RelR.get : ∀ {l : List (List AV)} {k : Nat} {cs : List Value} {i : Nat} {e : List AV}, RelR M l k cs → l[i]? = some e → e.length = k ∧ RelC M e ((cs.drop (i * k)).take k)
  | [], _, _, _, _, _, h => by simp at h
  | x :: l, k, cs, 0, e, h, he => by unfold RelR at h; simp at he; subst he; simpa using ⟨h.1, h.2.2.1⟩
  | x :: l, k, cs, i + 1, e, h, he => by
    unfold RelR at h
    have := h.2.2.2.get (by simpa using he)
    simpa [Nat.add_mul, Nat.add_comm] using this
/-- A prefix of the cells is enough. -/
theorem RelR.more : ∀ {l : List (List AV)} {k : Nat} {cs ds : List Value}, RelR M l k cs → (∀ n, n < l.length * k → ds[n]? = cs[n]?) → l.length * k ≤ ds.length → RelR M l k ds
  | [], _, _, _, _, _, _ => .nil
  | e :: l, k, cs, ds, h, hd, hl => by
    have hlen := h.length
    unfold RelR at h
    have e1 : ds.take k = cs.take k := by
      apply List.ext_getElem?
      intro n
      by_cases hn : n < k
      · rw [List.getElem?_take_of_lt hn, List.getElem?_take_of_lt hn]
        exact hd n (by simp [Nat.add_mul]; omega)
      · rw [List.getElem?_eq_none (by simp; omega), List.getElem?_eq_none (by simp; omega)]
    refine .cons h.1 (by rw [e1]; exact h.2.2.1) (h.2.2.2.more (fun n hn => ?_) ?_)
    · rw [List.getElem?_drop, List.getElem?_drop]
      exact hd _ (by simp [Nat.add_mul]; omega)
    · simp [Nat.add_mul] at hl ⊢; omega
theorem RelR.of_flat : ∀ {l : List (List AV)} {k : Nat} {cs : List Value}, RelC M l.flatten cs → (∀ e ∈ l, e.length = k) → RelR M l k cs
  | [], _, _, _, _ => .nil
  | e :: l, k, cs, h, hk => by
    have he := hk e (by simp)
    have h1 := RelC.take k h
    have h2 := RelC.drop k h
    simp only [List.flatten_cons] at h1 h2
    rw [List.take_append_of_le_length (by omega), List.take_of_length_le (by omega)] at h1
    rw [List.drop_append_of_le_length (by omega), List.drop_eq_nil_of_le (by omega), List.nil_append] at h2
    exact .cons he h1 (RelR.of_flat h2 fun x hx => hk x (by simp [hx]))
theorem RelR.flat : ∀ {l : List (List AV)} {k : Nat} {cs : List Value}, RelR M l k cs → RelC M l.flatten (cs.take (l.length * k))
  | [], _, _, _ => by simp; exact .nil
  | e :: l, k, cs, h => by
    unfold RelR at h
    have h4 := h.2.2.1.append h.2.2.2.flat
    simp only [List.flatten_cons, List.length_cons]
    rw [Nat.add_mul, Nat.one_mul, Nat.add_comm, List.take_add]
    exact h4
theorem RelR.lens : ∀ {l : List (List AV)} {k : Nat} {cs : List Value}, RelR M l k cs → ∀ e ∈ l, e.length = k
  | [], _, _, _ => by simp
  | e :: l, k, cs, h => by
    unfold RelR at h
    intro x hx
    rcases List.mem_cons.1 hx with rfl | hx
    · exact h.1
    · exact h.2.2.2.lens x hx
end
end Go.Proofs.YtjhekjhbjaengaaGreatDoor.Ev
