/- Each operation of the evaluator is the model's: append and copy. -/
import Derived.Test.YtjhekjhbjaengaaGreatDoorEvP5
namespace Go.Proofs.YtjhekjhbjaengaaGreatDoor.Ev
open Go Go.RowKit

section
variable {P : Program} {M : Mem} {h : Heap} {w : World} {a : Act} {t : List AV} {slot : Nat} {x : AV} {ws : Ws} {rs : List Nat} {dst : Option Tmp} {type : TypeId} {pos : String} {after : Array Edge} {guard : Option (Nat × Bool)}
  {cf : FuncId → List AV → HM (AV × Ws)}

theorem RelR.append : ∀ {l m : List (List AV)} {k : Nat} {cs ds : List Value}, RelR M l k cs → cs.length = l.length * k → RelR M m k ds → RelR M (l ++ m) k (cs ++ ds)
  | [], m, k, cs, ds, h, hl, g => by
    have : cs = [] := List.eq_nil_of_length_eq_zero (by simpa using hl)
    subst this
    exact g
  | e :: l, m, k, cs, ds, h, hl, g => by
    unfold RelR at h
    simp only [List.length_cons, Nat.add_mul, Nat.one_mul] at hl
    refine .cons h.1 ?_ ?_
    · rw [List.take_append_of_le_length (by omega)]
      exact h.2.2.1
    · rw [List.drop_append_of_le_length (by omega)]
      exact h.2.2.2.append (by simp; omega) g

section
variable {ta tb et e2 ty : TypeId} {inf : TypeInfo} {n : Nat} {zv : Value} {base A : Option Addr} {sLen sCap m c : Nat} {olds news : List Value}
theorem append_room (hta : P.underlying ta = some (.slice et)) (htb : P.underlying tb = some (.slice e2)) (hn : tsize P et = some n) (hnew : (Builtin.firstCells n m (.slice A m c)).run P w = .ok news.toArray w)
    (hroom : sLen + m ≤ sCap) {w' : World} (hst : ∀ b, base = some b → (storeCells (b.add (sLen * n)) news).run P w = .ok () w') (hno : base = none → w' = w) :
    (Builtin.append_ #[ta, tb] ty #[.slice base sLen sCap, .slice A m c]).run P w = .ok (.slice base (sLen + m) sCap) w' := by
  cases base with
  | none =>
    cases hno rfl
    simp [Builtin.append_, run_underlying hta, run_underlying htb, tsize_run hn, Builtin.lenOf, hroom, hnew]
  | some b =>
    simp [Builtin.append_, run_underlying hta, run_underlying htb, tsize_run hn, Builtin.lenOf, hroom, hnew, hst b rfl]
theorem append_grow (hta : P.underlying ta = some (.slice et)) (htb : P.underlying tb = some (.slice e2)) (hi : P.info? et = some inf) (hn : tsize P et = some n) (hz : ∀ w, (zeroValue et).run P w = .ok zv w) (hzs : zv.cells.size = n)
    (hnew : ∀ w', w'.heap = w.heap → (Builtin.firstCells n m (.slice A m c)).run P w' = .ok news.toArray w') (hold : ∀ w', w'.heap = w.heap → (Builtin.firstCells n sLen (.slice base sLen sCap)).run P w' = .ok olds.toArray w')
    (hroom : ¬ (sLen + m ≤ sCap)) (hb0 : inf.bytes ≠ 0) (hby : (sLen + m) * inf.bytes ≤ 2 ^ 40) (hol : olds.length = sLen * n) (hnl : news.length = m * n) :
    ∃ cap cells w', (Builtin.append_ #[ta, tb] ty #[.slice base sLen sCap, .slice A m c]).run P w = .ok (.slice (some ⟨w.heap.size, 0, none⟩) (sLen + m) cap) w' ∧ w'.heap = w.heap.push (.cells cells et) ∧ Same w w' ∧ sLen + m ≤ cap ∧
      cap * n ≤ cells.size ∧ ∃ rest, cells.toList = olds ++ (news ++ rest) := by
  have hfit := growslice_fits (need := sLen + m) (old := sCap) (bytes := inf.bytes) (by omega) (by omega)
  generalize hcap : (Question.appendCap (sLen + m) sCap et).cut (w.tape w.drawn (.appendCap (sLen + m) sCap et)) = cap
  have hge : sLen + m ≤ cap := by rw [← hcap]; simp [Question.cut]
  refine ⟨cap, olds.toArray ++ (news.toArray ++ Builtin.zeroCells zv.cells (cap - (sLen + m))), w.drew.alloc (.cells (olds.toArray ++ (news.toArray ++ Builtin.zeroCells zv.cells (cap - (sLen + m)))) et), ?_, rfl, ⟨rfl, rfl, rfl⟩, hge, ?_, (Builtin.zeroCells zv.cells (cap - (sLen + m))).toList, by simp⟩
  · have hf : (Question.appendCap (sLen + m) sCap et).forced = false := rfl
    have h1 := hold w.drew rfl
    have h2 := hnew w.drew rfl
    have h3 := hz w.drew
    simp [Builtin.append_, run_underlying hta, run_underlying htb, tsize_run hn, Builtin.lenOf, hroom, tinfo_run hi, hb0, Nat.not_lt.2 hfit, hf, hcap, h1, h2, h3, newRow]
  · simp only [Array.size_append, List.size_toArray, size_zeroCells, hzs, hol, hnl, ← Nat.add_mul, ← Nat.add_assoc]
    exact Nat.mul_le_mul_right n (by omega)
end

theorem all_len {ys : List (List AV)} {n : Nat} (h : ys.all (fun e => e.length == n) = true) : ∀ e ∈ ys, e.length = n := fun e he => by
  have := List.all_eq_true.1 h e he
  simpa using this

end
end Go.Proofs.YtjhekjhbjaengaaGreatDoor.Ev
