/- The second evaluator: tries, numbers of slots, what values stand for. -/
import Derived.Test.YtjhekjhbjaengaaGreatDoorEvK
namespace Go.Proofs.YtjhekjhbjaengaaGreatDoor.Ev
open Go

namespace T
variable {α : Type}
theorem get_nil_leaf : T.get (α := α) [] .leaf = none := rfl
theorem get_nil_node (x : Option α) (l r : T α) : T.get [] (.node x l r) = x := rfl
theorem get_cons_leaf (b : Bool) (p : List Bool) : T.get (α := α) (b :: p) .leaf = none := rfl
theorem get_cons_node (b : Bool) (p : List Bool) (x : Option α) (l r : T α) : T.get (b :: p) (.node x l r) = bif b then T.get p r else T.get p l := by cases b <;> rfl
theorem get_leaf (p : List Bool) : T.get (α := α) p .leaf = none := by cases p <;> rfl
theorem put_nil_leaf (a : Option α) : T.put a [] .leaf = .node a .leaf .leaf := rfl
theorem put_nil_node (a x : Option α) (l r : T α) : T.put a [] (.node x l r) = .node a l r := rfl
theorem put_cons_leaf (a : Option α) (b : Bool) (p : List Bool) : T.put a (b :: p) .leaf = bif b then .node none .leaf (T.put a p .leaf) else .node none (T.put a p .leaf) .leaf := by cases b <;> rfl
theorem put_cons_node (a : Option α) (b : Bool) (p : List Bool) (x : Option α) (l r : T α) : T.put a (b :: p) (.node x l r) = bif b then .node x l (T.put a p r) else .node x (T.put a p l) r := by cases b <;> rfl
theorem get_put_same (a : Option α) : ∀ (p : List Bool) (t : T α), (T.put a p t).get p = a
  | [], .leaf => rfl
  | [], .node _ _ _ => rfl
  | b :: p, .leaf => by
    rw [put_cons_leaf]
    cases b
    · exact (get_cons_node _ _ _ _ _).trans (get_put_same a p .leaf)
    · exact (get_cons_node _ _ _ _ _).trans (get_put_same a p .leaf)
  | b :: p, .node x l r => by
    rw [put_cons_node]
    cases b
    · exact (get_cons_node _ _ _ _ _).trans (get_put_same a p l)
    · exact (get_cons_node _ _ _ _ _).trans (get_put_same a p r)
theorem get_put_ne (a : Option α) : ∀ (p p' : List Bool) (t : T α), p ≠ p' → (T.put a p t).get p' = t.get p'
  | [], [], _, h => absurd rfl h
  | [], b :: p', .leaf, _ => by rw [put_nil_leaf, get_cons_node, get_leaf, get_leaf]; cases b <;> rfl
  | [], b :: p', .node x l r, _ => by rw [put_nil_node, get_cons_node, get_cons_node]
  | b :: p, [], .leaf, _ => by rw [put_cons_leaf]; cases b <;> rfl
  | b :: p, [], .node x l r, _ => by rw [put_cons_node]; cases b <;> rfl
  | b :: p, b' :: p', .leaf, h => by
    rw [put_cons_leaf, get_leaf]
    cases b <;> cases b' <;> simp only [cond_true, cond_false, get_cons_node, get_leaf]
    · rw [get_put_ne a p p' .leaf (fun e => h (by rw [e])), get_leaf]
    · rw [get_put_ne a p p' .leaf (fun e => h (by rw [e])), get_leaf]
  | b :: p, b' :: p', .node x l r, h => by
    rw [put_cons_node]
    cases b <;> cases b' <;> simp only [cond_true, cond_false, get_cons_node]
    · exact get_put_ne a p p' l (fun e => h (by rw [e]))
    · exact get_put_ne a p p' r (fun e => h (by rw [e]))
end T

def unpath : List Bool → Nat
  | [] => 1
  | b :: p => 2 * unpath p + (bif b then 1 else 0)
theorem unpath_pathF : ∀ (f i : Nat), 1 ≤ i → i ≤ f → unpath (pathF f i) = i
  | 0, i, h1, h2 => by omega
  | f + 1, i, h1, h2 => by
    unfold pathF
    by_cases h : i ≤ 1
    · rw [Nat.ble_eq_true_of_le h]
      simp only [cond_true, unpath]
      omega
    · have hb : Nat.ble i 1 = false := by
        cases hc : Nat.ble i 1 with
        | false => rfl
        | true => exact absurd (Nat.le_of_ble_eq_true hc) h
      rw [hb]
      simp only [cond_false, unpath]
      rw [unpath_pathF f (i / 2) (by omega) (by omega)]
      by_cases h2 : i % 2 = 1
      · have e : Nat.beq 1 1 = true := rfl
        rw [h2, e]; simp only [cond_true]; omega
      · have : i % 2 = 0 := by omega
        have e : Nat.beq 0 1 = false := rfl
        rw [this, e]; simp only [cond_false]; omega
theorem path_inj {i j : Nat} (h : path i = path j) : i = j := by
  have h1 := unpath_pathF (i + 1) (i + 1) (by omega) (by omega)
  have h2 := unpath_pathF (j + 1) (j + 1) (by omega) (by omega)
  unfold path at h
  rw [h, h2] at h1
  omega
theorem get_put {α : Type} (a : Option α) (i j : Nat) (t : T α) : (T.put a (path i) t).get (path j) = if i = j then a else t.get (path j) := by
  split
  · rename_i h; subst h; exact T.get_put_same a _ t
  · rename_i h; exact T.get_put_ne a _ _ t fun e => h (path_inj e)

theorem nth_eq {α : Type} : ∀ (l : List α) (i : Nat), nth l i = l[i]?
  | [], i => rfl
  | x :: l, 0 => rfl
  | x :: l, i + 1 => by rw [List.getElem?_cons_succ, ← nth_eq l i]; rfl

theorem beq_nat {a b : Nat} (h : Nat.beq a b = true) : a = b := Nat.eq_of_beq_eq_true h
theorem ble_nat {a b : Nat} (h : Nat.ble a b = true) : a ≤ b := Nat.le_of_ble_eq_true h
theorem blt_nat {a b : Nat} (h : Nat.blt a b = true) : a < b := Nat.le_of_ble_eq_true h
theorem beq_nat_false {a b : Nat} (h : Nat.beq a b = false) : a ≠ b := Nat.ne_of_beq_eq_false h

section
variable (ι : Nat → Nat)
theorem erL_eq : ∀ l : List XV, erL l ι = l.map fun x => er x ι
  | [] => by simp [erL]
  | x :: l => by simp [erL, erL_eq l]
theorem erLL_eq : ∀ l : List (List XV), erLL l ι = l.map fun x => erL x ι
  | [] => by simp [erLL]
  | x :: l => by simp [erLL, erLL_eq l]
theorem erL_length (l : List XV) : (erL l ι).length = l.length := by simp [erL_eq]
theorem erLL_length (l : List (List XV)) : (erLL l ι).length = l.length := by simp [erLL_eq]
theorem erL_get (l : List XV) (i : Nat) : (erL l ι)[i]? = (l[i]?).map fun x => er x ι := by simp [erL_eq]
theorem erLL_get (l : List (List XV)) (i : Nat) : (erLL l ι)[i]? = (l[i]?).map fun x => erL x ι := by simp [erLL_eq]
theorem erL_append (l m : List XV) : erL (l ++ m) ι = erL l ι ++ erL m ι := by simp [erL_eq]
theorem erLL_append (l m : List (List XV)) : erLL (l ++ m) ι = erLL l ι ++ erLL m ι := by simp [erLL_eq]
theorem erL_take (l : List XV) (n : Nat) : erL (l.take n) ι = (erL l ι).take n := by simp [erL_eq, List.map_take]
theorem erL_drop (l : List XV) (n : Nat) : erL (l.drop n) ι = (erL l ι).drop n := by simp [erL_eq, List.map_drop]
theorem erLL_take (l : List (List XV)) (n : Nat) : erLL (l.take n) ι = (erLL l ι).take n := by simp [erLL_eq, List.map_take]
theorem erLL_drop (l : List (List XV)) (n : Nat) : erLL (l.drop n) ι = (erLL l ι).drop n := by simp [erLL_eq, List.map_drop]
theorem erLL_set (l : List (List XV)) (n : Nat) (e : List XV) : erLL (l.set n e) ι = (erLL l ι).set n (erL e ι) := by simp [erLL_eq, List.map_set]
theorem erL_vals (l : List Value) : erL (l.map .v) ι = l.map .v := by simp [erL_eq, er]
theorem erLL_replicate (n : Nat) (e : List XV) : erLL (List.replicate n e) ι = List.replicate n (erL e ι) := by simp [erLL_eq]
theorem erL_flatten (l : List (List XV)) : erL l.flatten ι = (erLL l ι).flatten := by
  induction l with
  | nil => simp [erL, erLL]
  | cons e l ih => simp [erLL, erL_append, ih]
end

section
variable {n : Nat}
theorem loL_iff : ∀ {l : List XV}, loL n l ↔ ∀ x ∈ l, lo n x
  | [] => by simp [loL]
  | x :: l => by simp [loL, loL_iff (l := l)]
theorem loLL_iff : ∀ {l : List (List XV)}, loLL n l ↔ ∀ x ∈ l, loL n x
  | [] => by simp [loLL]
  | x :: l => by simp [loLL, loLL_iff (l := l)]
theorem loL_sub {l m : List XV} (h : loL n l) (hs : ∀ x ∈ m, x ∈ l) : loL n m := loL_iff.2 fun x hx => loL_iff.1 h x (hs x hx)
theorem loLL_sub {l m : List (List XV)} (h : loLL n l) (hs : ∀ x ∈ m, x ∈ l) : loLL n m := loLL_iff.2 fun x hx => loLL_iff.1 h x (hs x hx)
theorem loL_append {l m : List XV} : loL n (l ++ m) ↔ loL n l ∧ loL n m := by simp only [loL_iff, List.mem_append]; exact ⟨fun h => ⟨fun x hx => h x (.inl hx), fun x hx => h x (.inr hx)⟩, fun h x hx => hx.elim (h.1 x) (h.2 x)⟩
theorem loLL_append {l m : List (List XV)} : loLL n (l ++ m) ↔ loLL n l ∧ loLL n m := by simp only [loLL_iff, List.mem_append]; exact ⟨fun h => ⟨fun x hx => h x (.inl hx), fun x hx => h x (.inr hx)⟩, fun h x hx => hx.elim (h.1 x) (h.2 x)⟩
theorem loL_take {l : List XV} (h : loL n l) (k : Nat) : loL n (l.take k) := loL_sub h fun _ hx => List.mem_of_mem_take hx
theorem loL_drop {l : List XV} (h : loL n l) (k : Nat) : loL n (l.drop k) := loL_sub h fun _ hx => List.mem_of_mem_drop hx
theorem loLL_take {l : List (List XV)} (h : loLL n l) (k : Nat) : loLL n (l.take k) := loLL_sub h fun _ hx => List.mem_of_mem_take hx
theorem loLL_drop {l : List (List XV)} (h : loLL n l) (k : Nat) : loLL n (l.drop k) := loLL_sub h fun _ hx => List.mem_of_mem_drop hx
theorem loL_vals (l : List Value) : loL n (l.map .v) := loL_iff.2 fun x hx => by
  obtain ⟨y, _, rfl⟩ := List.mem_map.1 hx
  simp [lo]
mutual
theorem lo_mono {m : Nat} (h : n ≤ m) : ∀ x : XV, lo n x → lo m x
  | .v _, _ => by simp [lo]
  | .s _, _ => by simp [lo]
  | .agg l, hx => by unfold lo at hx ⊢; exact loL_mono h l hx
  | .tup l, hx => by unfold lo at hx ⊢; exact loL_mono h l hx
  | .fsl _, _ => by simp [lo]
  | .ol _, _ => by simp [lo]
  | .e0, _ => by simp [lo]
  | .sl b k o c, hx => by unfold lo at hx ⊢; omega
  | .ptr b k i j, hx => by unfold lo at hx ⊢; omega
  | .fptr _ _, _ => by simp [lo]
  | .ifc _ x, hx => by unfold lo at hx ⊢; exact lo_mono h x hx
  | .fn _ l, hx => by unfold lo at hx ⊢; exact loL_mono h l hx
theorem loL_mono {m : Nat} (h : n ≤ m) : ∀ l : List XV, loL n l → loL m l
  | [], _ => by simp [loL]
  | x :: l, hx => by unfold loL at hx ⊢; exact ⟨lo_mono h x hx.1, loL_mono h l hx.2⟩
end
theorem loLL_mono {m : Nat} (h : n ≤ m) (l : List (List XV)) (hl : loLL n l) : loLL m l := loLL_iff.2 fun x hx => loL_mono h x (loLL_iff.1 hl x hx)
theorem loB_mono {m : Nat} (h : n ≤ m) {b : XB} (hb : loB n b) : loB m b := hb.elim .inl fun h1 => .inr (loLL_mono h _ h1)
mutual
theorem er_congr {ι ι' : Nat → Nat} (h : ∀ b, b < n → ι' b = ι b) : ∀ x : XV, lo n x → er x ι' = er x ι
  | .v _, _ => by simp [er]
  | .s _, _ => by simp [er]
  | .agg l, hx => by unfold lo at hx; simp [er, erL_congr h l hx]
  | .tup l, hx => by unfold lo at hx; simp [er, erL_congr h l hx]
  | .fsl _, _ => by simp [er]
  | .ol _, _ => by simp [er]
  | .e0, _ => by simp [er]
  | .sl b k o c, hx => by unfold lo at hx; simp [er, h b hx]
  | .ptr b k i j, hx => by unfold lo at hx; simp [er, h b hx]
  | .fptr _ _, _ => by simp [er]
  | .ifc _ x, hx => by unfold lo at hx; simp [er, er_congr h x hx]
  | .fn _ l, hx => by unfold lo at hx; simp [er, erL_congr h l hx]
theorem erL_congr {ι ι' : Nat → Nat} (h : ∀ b, b < n → ι' b = ι b) : ∀ l : List XV, loL n l → erL l ι' = erL l ι
  | [], _ => by simp [erL]
  | x :: l, hx => by unfold loL at hx; simp [erL, er_congr h x hx.1, erL_congr h l hx.2]
end
theorem erLL_congr {ι ι' : Nat → Nat} (h : ∀ b, b < n → ι' b = ι b) {l : List (List XV)} (hl : loLL n l) : erLL l ι' = erLL l ι := by
  rw [erLL_eq, erLL_eq]
  exact List.map_congr_left fun x hx => erL_congr h x (loLL_iff.1 hl x hx)
theorem erB_congr {ι ι' : Nat → Nat} (h : ∀ b, b < n → ι' b = ι b) {x : XB} (hx : loB n x) : erB ι' x = erB ι x := by
  unfold erB
  rcases hx with hx | hx
  · rw [hx]; rfl
  · rw [erLL_congr h hx]
end

mutual
/-- What leads to no block of one's own. -/
theorem fz_er (ι ι' : Nat → Nat) : ∀ (d : Nat) (x : XV), fz d x = true → er x ι = er x ι'
  | 0, x, h => by simp [fz] at h
  | _ + 1, .v _, _ => by simp [er]
  | _ + 1, .s _, _ => by simp [er]
  | d + 1, .agg l, h => by simp only [fz] at h; simp only [er]; rw [fz_erL ι ι' d l h]
  | d + 1, .tup l, h => by simp only [fz] at h; simp only [er]; rw [fz_erL ι ι' d l h]
  | _ + 1, .fsl _, _ => by simp [er]
  | _ + 1, .ol _, _ => by simp [er]
  | _ + 1, .e0, _ => by simp [er]
  | _ + 1, .sl b k o c, h => by simp [fz] at h
  | _ + 1, .ptr b k i j, h => by simp [fz] at h
  | _ + 1, .fptr _ _, _ => by simp [er]
  | d + 1, .ifc _ x, h => by simp only [fz] at h; simp only [er]; rw [fz_er ι ι' d x h]
  | d + 1, .fn _ l, h => by simp only [fz] at h; simp only [er]; rw [fz_erL ι ι' d l h]
theorem fz_erL (ι ι' : Nat → Nat) : ∀ (d : Nat) (l : List XV), l.all (fz d) = true → erL l ι = erL l ι'
  | d, [], _ => by simp [erL]
  | d, x :: l, h => by
    simp only [List.all_cons, Bool.and_eq_true] at h
    simp only [erL]
    rw [fz_er ι ι' d x h.1, fz_erL ι ι' d l h.2]
end
end Go.Proofs.YtjhekjhbjaengaaGreatDoor.Ev
