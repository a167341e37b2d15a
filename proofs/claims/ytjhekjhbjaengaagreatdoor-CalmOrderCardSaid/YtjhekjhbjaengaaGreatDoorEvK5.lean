/- The second evaluator: what callees see; calls with a memory of their own; rows that grow. -/
import Derived.Test.YtjhekjhbjaengaaGreatDoorEvK4
namespace Go.Proofs.YtjhekjhbjaengaaGreatDoor.Ev
open Go Go.RowKit

def AllP : List Prop → Prop
  | [] => True
  | p :: r => p ∧ AllP r
theorem allP_append : ∀ {l m : List Prop}, AllP (l ++ m) → AllP l ∧ AllP m
  | [], _, h => ⟨trivial, h⟩
  | _ :: _, _, h => ⟨⟨h.1, (allP_append h.2).1⟩, (allP_append h.2).2⟩
def mapWs (ι : Nat → Nat) (ws : List (Nat × Option XB)) : Ws := ws.map fun w => (ι w.1, w.2.map (erB ι))
/-- A computation of the first evaluator's comes to what the second one has. -/
structure RunsM (comp : HM (AV × Ws)) (ha : Heap) (slot nx : Nat) (D : Nat → Prop) (ι : Nat → Nat) (r : XR) : Prop where
  ex : ∃ rs ws', comp.run ha = some ((er r.x (up1 ι nx slot), ws'), rs) ∧ applyWs ha ws' = applyWs ha (mapWs (up1 ι nx slot) r.ws) ∧ (∀ w ∈ ws', ∃ v ∈ r.ws, w.1 = up1 ι nx slot v.1) ∧ ∀ b ∈ rs, ∃ c ∈ r.rs, ι c = b
  lo : lo (nxt nx r) r.x
  ws : ∀ w ∈ r.ws, (w.1 < nx ∧ D w.1 ∨ w.1 = nx ∧ r.nw = true) ∧ ∀ blk, w.2 = some blk → loB (nxt nx r) blk
  rs : ∀ c ∈ r.rs, c < nx ∧ D c

section
variable {P : Program} {cf : FuncId → List AV → HM (AV × Ws)} {o : Oper} {t : T XV} {h : T XB} {nx m slot : Nat} {ι : Nat → Nat} {D : Nat → Prop} {a : AS} {r : XR}
theorem Runs.toM {ta : List AV} {ha : Heap} (k : Runs P cf o ta ha slot nx D ι r) : RunsM (aop P cf o ta slot) ha slot nx D ι r := by
  obtain ⟨rs, h1, h2⟩ := k.ex
  refine ⟨⟨rs, _, h1, rfl, ?_, h2⟩, k.lo, k.ws, k.rs⟩
  intro w hw
  obtain ⟨v, hv, rfl⟩ := List.mem_map.1 hw
  exact ⟨v, hv, rfl⟩

/-- The same whatever the numbers. -/
def Cl (x : XV) : Prop := (∀ ι ι', er x ι = er x ι') ∧ ∀ n, lo n x
def ClL (l : List XV) : Prop := (∀ ι ι', erL l ι = erL l ι') ∧ ∀ n, loL n l
def ClLL (l : List (List XV)) : Prop := (∀ ι ι', erLL l ι = erLL l ι') ∧ ∀ n, loLL n l

variable (R : XRel D ι m ⟨t, h, nx⟩ a)
def SnapX (D : Nat → Prop) (ι : Nat → Nat) (nx : Nat) (ha : Heap) (f : XV → Option (XV × List Nat × List Prop)) (g : AV → HM (AV × List Nat)) : Prop :=
  ∀ x y bs ps, f x = some (y, bs, ps) → AllP ps → lo nx x → (∃ rs, (g (er x ι)).run ha = some ((er y ι, bs.map ι), rs) ∧ ∀ b ∈ rs, ∃ c ∈ bs, ι c = b) ∧ (∀ c ∈ bs, c < nx ∧ D c) ∧ Cl y
theorem mem_app {bs cs : List Nat} {r1 r2 : List Nat} {ι : Nat → Nat} (h1 : ∀ b ∈ r1, ∃ c ∈ bs, ι c = b) (h2 : ∀ b ∈ r2, ∃ c ∈ cs, ι c = b) : ∀ b ∈ r1 ++ r2, ∃ c ∈ bs ++ cs, ι c = b := by
  intro b hb
  rcases List.mem_append.1 hb with hb | hb
  · obtain ⟨c, hc, e⟩ := h1 b hb; exact ⟨c, by simp [hc], e⟩
  · obtain ⟨c, hc, e⟩ := h2 b hb; exact ⟨c, by simp [hc], e⟩
theorem xsnapL_ok {ha : Heap} {f : XV → Option (XV × List Nat × List Prop)} {g : AV → HM (AV × List Nat)} (hf : SnapX D ι nx ha f g) : ∀ {l l' : List XV} {bs : List Nat} {ps : List Prop}, xsnapL f l = some (l', bs, ps) → AllP ps → loL nx l →
    (∃ rs, (snapL g (erL l ι)).run ha = some ((erL l' ι, bs.map ι), rs) ∧ ∀ b ∈ rs, ∃ c ∈ bs, ι c = b) ∧ (∀ c ∈ bs, c < nx ∧ D c) ∧ ClL l'
  | [], l', bs, ps, hr, _, _ => by
    simp only [xsnapL, Option.some.injEq, Prod.mk.injEq] at hr
    obtain ⟨rfl, rfl, rfl⟩ := hr
    exact ⟨⟨[], by simp [erL, snapL, ret_run], by simp⟩, by simp, fun _ _ => by simp [erL], fun _ => by simp [loL]⟩
  | x :: l, l', bs, ps, hr, hp, hl => by
    simp only [xsnapL] at hr
    split at hr
    · rename_i y b1 p1 h1
      split at hr
      · rename_i m' b2 p2 h2
        simp only [Option.some.injEq, Prod.mk.injEq] at hr
        obtain ⟨rfl, rfl, rfl⟩ := hr
        have hp' := allP_append hp
        unfold loL at hl
        obtain ⟨⟨r1, g1, g2⟩, g3, g4⟩ := hf x y b1 p1 h1 hp'.1 hl.1
        obtain ⟨⟨r2, k1, k2⟩, k3, k4⟩ := xsnapL_ok hf h2 hp'.2 hl.2
        refine ⟨⟨r1 ++ (r2 ++ []), ?_, ?_⟩, ?_, fun ι ι' => by simp only [erL]; rw [g4.1 ι ι', k4.1 ι ι'], fun n => ⟨g4.2 n, k4.2 n⟩⟩
        · simp only [erL, snapL]
          exact bind_run g1 (bind_run k1 (by simp [ret_run]))
        · simpa using mem_app g2 k2
        · intro c hc
          rcases List.mem_append.1 hc with hc | hc
          · exact g3 c hc
          · exact k3 c hc
      · cases hr
    · cases hr
theorem xsnapLL_ok {ha : Heap} {f : XV → Option (XV × List Nat × List Prop)} {g : AV → HM (AV × List Nat)} (hf : SnapX D ι nx ha f g) : ∀ {l l' : List (List XV)} {bs : List Nat} {ps : List Prop}, xsnapLL f l = some (l', bs, ps) → AllP ps → loLL nx l →
    (∃ rs, (snapLL g (erLL l ι)).run ha = some ((erLL l' ι, bs.map ι), rs) ∧ ∀ b ∈ rs, ∃ c ∈ bs, ι c = b) ∧ (∀ c ∈ bs, c < nx ∧ D c) ∧ ClLL l'
  | [], l', bs, ps, hr, _, _ => by
    simp only [xsnapLL, Option.some.injEq, Prod.mk.injEq] at hr
    obtain ⟨rfl, rfl, rfl⟩ := hr
    exact ⟨⟨[], by simp [erLL, snapLL, ret_run], by simp⟩, by simp, fun _ _ => by simp [erLL], fun _ => by simp [loLL]⟩
  | x :: l, l', bs, ps, hr, hp, hl => by
    simp only [xsnapLL] at hr
    split at hr
    · rename_i y b1 p1 h1
      split at hr
      · rename_i m' b2 p2 h2
        simp only [Option.some.injEq, Prod.mk.injEq] at hr
        obtain ⟨rfl, rfl, rfl⟩ := hr
        have hp' := allP_append hp
        unfold loLL at hl
        obtain ⟨⟨r1, g1, g2⟩, g3, g4⟩ := xsnapL_ok hf h1 hp'.1 hl.1
        obtain ⟨⟨r2, k1, k2⟩, k3, k4⟩ := xsnapLL_ok hf h2 hp'.2 hl.2
        refine ⟨⟨r1 ++ (r2 ++ []), ?_, ?_⟩, ?_, fun ι ι' => by simp only [erLL]; rw [g4.1 ι ι', k4.1 ι ι'], fun n => ⟨g4.2 n, k4.2 n⟩⟩
        · simp only [erLL, snapLL]
          exact bind_run g1 (bind_run k1 (by simp [ret_run]))
        · simpa using mem_app g2 k2
        · intro c hc
          rcases List.mem_append.1 hc with hc | hc
          · exact g3 c hc
          · exact k3 c hc
      · cases hr
    · cases hr
theorem inert_snap {x : XV} (hx : inert x = true) (d : Nat) : snap (d + 1) (er x id) = .ret (er x id, []) := by
  unfold inert at hx
  split at hx <;> first | (simp [er, snap]; done) | cases hx
theorem inert_cl {x : XV} (hx : inert x = true) : Cl x := by
  unfold inert at hx
  split at hx <;> first | exact ⟨fun _ _ => by simp [er], fun _ => by simp [lo]⟩ | cases hx
theorem inertL_snap (d : Nat) : ∀ (l : List XV), (∀ x ∈ l, inert x = true) → snapL (snap (d + 1)) (erL l id) = .ret (erL l id, [])
  | [], _ => by simp [erL, snapL]
  | x :: l, hl => by
    simp only [erL, snapL]
    rw [inert_snap (hl x (by simp)), bind_ret, inertL_snap d l (fun y hy => hl y (by simp [hy])), bind_ret]
    simp
theorem inertLL_snap (d : Nat) : ∀ (l : List (List XV)), inertLL l → snapLL (snap (d + 1)) (erLL l id) = .ret (erLL l id, [])
  | [], _ => by simp [erLL, snapLL]
  | x :: l, hl => by
    simp only [erLL, snapLL]
    rw [inertL_snap d x (hl x (by simp)), bind_ret, inertLL_snap d l (fun y hy => hl y (by simp [hy])), bind_ret]
    simp
include R
theorem xsnap_ok : ∀ d : Nat, SnapX D ι nx a.h (xsnap h d) (snap d)
  | 0 => fun x y bs ps hr => by simp [xsnap] at hr
  | d + 1 => fun x y bs ps hr hp hl => by
    have ih := xsnap_ok d
    have triv : ∀ {z : XV}, er x ι = er x ι → Cl z → snap (d + 1) (er x ι) = .ret (er z ι, []) → (∃ rs, (snap (d + 1) (er x ι)).run a.h = some ((er z ι, ([] : List Nat).map ι), rs) ∧ ∀ b ∈ rs, ∃ c ∈ ([] : List Nat), ι c = b) ∧ (∀ c ∈ ([] : List Nat), c < nx ∧ D c) ∧ Cl z :=
      fun _ hz hs => ⟨⟨[], by rw [hs]; simp [ret_run], by simp⟩, by simp, hz⟩
    have clv : ∀ u, Cl (.v u) := fun u => ⟨fun _ _ => by simp [er], fun _ => by simp [lo]⟩
    have cls : ∀ u, Cl (.s u) := fun u => ⟨fun _ _ => by simp [er], fun _ => by simp [lo]⟩
    have clf : ∀ u, Cl (.fsl u) := fun u => ⟨fun _ _ => by simp [er], fun _ => by simp [lo]⟩
    cases x with
    | v u =>
      simp only [xsnap] at hr
      split at hr
      · simp only [Option.some.injEq, Prod.mk.injEq] at hr
        obtain ⟨rfl, rfl, rfl⟩ := hr
        exact triv rfl (clf _) (by simp [er, erLL, snap])
      · rename_i hne
        simp only [Option.some.injEq, Prod.mk.injEq] at hr
        obtain ⟨rfl, rfl, rfl⟩ := hr
        refine triv rfl (clv _) ?_
        simp only [er, snap]
    | s u =>
      simp only [xsnap] at hr
      split at hr
      · simp only [Option.some.injEq, Prod.mk.injEq] at hr
        obtain ⟨rfl, rfl, rfl⟩ := hr
        exact triv rfl (cls _) (by simp [er, snap])
      · simp only [Option.some.injEq, Prod.mk.injEq] at hr
        obtain ⟨rfl, rfl, rfl⟩ := hr
        exact triv rfl (cls _) (by simp [er, snap])
      · cases hr
    | agg l =>
      simp only [xsnap] at hr
      split at hr
      · rename_i m' b p hm
        simp only [Option.some.injEq, Prod.mk.injEq] at hr
        obtain ⟨rfl, rfl, rfl⟩ := hr
        unfold lo at hl
        obtain ⟨⟨rs, g1, g2⟩, g3, g4⟩ := xsnapL_ok ih hm hp hl
        exact ⟨⟨rs ++ [], by simp only [er, snap]; exact bind_run g1 (by simp [ret_run]), by simpa using g2⟩, g3, fun ι ι' => by simp only [er]; rw [g4.1 ι ι'], fun n => by unfold lo; exact g4.2 n⟩
      · cases hr
    | tup l =>
      simp only [xsnap] at hr
      split at hr
      · rename_i m' b p hm
        simp only [Option.some.injEq, Prod.mk.injEq] at hr
        obtain ⟨rfl, rfl, rfl⟩ := hr
        unfold lo at hl
        obtain ⟨⟨rs, g1, g2⟩, g3, g4⟩ := xsnapL_ok ih hm hp hl
        exact ⟨⟨rs ++ [], by simp only [er, snap]; exact bind_run g1 (by simp [ret_run]), by simpa using g2⟩, g3, fun ι ι' => by simp only [er]; rw [g4.1 ι ι'], fun n => by unfold lo; exact g4.2 n⟩
      · cases hr
    | fsl l =>
      simp only [xsnap, Option.some.injEq, Prod.mk.injEq] at hr
      obtain ⟨rfl, rfl, rfl⟩ := hr
      exact triv rfl (clf _) (by simp [er, snap])
    | ol l =>
      simp only [xsnap, Option.some.injEq, Prod.mk.injEq] at hr
      obtain ⟨rfl, rfl, rfl⟩ := hr
      exact triv rfl ⟨fun _ _ => by simp [er], fun _ => by simp [lo]⟩ (by simp [er, snap])
    | e0 =>
      simp only [xsnap, Option.some.injEq, Prod.mk.injEq] at hr
      obtain ⟨rfl, rfl, rfl⟩ := hr
      exact triv rfl (clf _) (by simp [er, erLL, snap])
    | sl b k off len =>
      simp only [xsnap] at hr
      split at hr
      · rename_i blk hblk
        obtain ⟨h1, h2, h3⟩ := blk_ok R hblk
        cases hop : blk.op with
        | true =>
          simp only [hop, cond_true] at hr
          cases hc : (Nat.beq blk.k k && Nat.beq off 0 && Nat.blt 1 d) with
          | false => simp [hc] at hr
          | true =>
            simp only [hc, cond_true, Option.some.injEq, Prod.mk.injEq] at hr
            obtain ⟨rfl, rfl, rfl⟩ := hr
            simp only [Bool.and_eq_true] at hc
            obtain ⟨⟨c1, c2⟩, c3⟩ := hc
            obtain ⟨q1, q2, _⟩ := hp
            have e2 := beq_nat c2
            have e3 := blt_nat c3
            subst e2
            have hin : snapLL (snap d) (erLL blk.els id) = .ret (erLL blk.els id, []) := by
              obtain ⟨d', hd⟩ : ∃ d', d = d' + 1 := ⟨d - 1, by omega⟩
              rw [hd]
              exact inertLL_snap d' _ q2
            refine ⟨⟨[ι b], ?_, by simp⟩, by simpa using h1, fun _ _ => by simp [er], fun _ => by simp [lo]⟩
            simp only [er, snap]
            have e1 := beq_nat c1
            rw [get_run h2]
            have els : (erB ι blk).els = erLL blk.els id := by unfold erB; rw [hop]; rfl
            rw [els, erB_k, if_pos ⟨e1, by rw [erLL_length]; omega⟩]
            rw [List.drop_zero, List.take_of_length_le (by rw [erLL_length]; omega), hin, bind_ret]
            simp [ret_run]
        | false =>
          simp only [hop, cond_false] at hr
          cases hc : (Nat.beq blk.k k && Nat.ble (off + len) blk.els.length) with
          | false => simp [hc] at hr
          | true =>
            simp only [hc, cond_true] at hr
            simp only [Bool.and_eq_true] at hc
            split at hr
            · rename_i m' b2 p hm
              simp only [Option.some.injEq, Prod.mk.injEq] at hr
              obtain ⟨rfl, rfl, rfl⟩ := hr
              obtain ⟨⟨rs, g1, g2⟩, g3, g4⟩ := xsnapLL_ok ih hm hp (loLL_take (loLL_drop (loB_els hop h3) _) _)
              refine ⟨⟨ι b :: (rs ++ []), ?_, ?_⟩, ?_, fun _ _ => by simp [er], fun _ => by simp [lo]⟩
              · simp only [er, snap]
                rw [get_run h2, erB_get hop, erB_k, if_pos ⟨beq_nat hc.1, by rw [erLL_length]; exact ble_nat hc.2⟩, ← erLL_drop, ← erLL_take, bind_run (f := fun r => HM.ret (AV.fsl r.fst, ι b :: r.snd)) g1 (ret_run _ _)]
                simp [g4.1 ι id]
              · intro c hc
                rcases List.mem_cons.1 hc with rfl | hc
                · exact ⟨b, by simp, rfl⟩
                · obtain ⟨c', h5, h6⟩ := g2 c (by simpa using hc)
                  exact ⟨c', by simp [h5], h6⟩
              · intro c hc
                rcases List.mem_cons.1 hc with rfl | hc
                · exact h1
                · exact g3 c hc
            · cases hr
      · cases hr
    | ptr b k i j =>
      simp only [xsnap] at hr
      split at hr
      · rename_i blk hblk
        obtain ⟨h1, h2, h3⟩ := blk_ok R hblk
        cases hop : blk.op with
        | true => simp [hop] at hr
        | false =>
          simp only [hop, cond_false] at hr
          split at hr
          · rename_i e he
            rw [nth_eq] at he
            cases hc : Nat.beq blk.k k with
            | false => simp [hc] at hr
            | true =>
              simp only [hc, cond_true] at hr
              split at hr
              · rename_i m' b2 p hm
                simp only [Option.some.injEq, Prod.mk.injEq] at hr
                obtain ⟨rfl, rfl, rfl⟩ := hr
                obtain ⟨⟨rs, g1, g2⟩, g3, g4⟩ := xsnapL_ok ih hm hp (loLL_iff.1 (loB_els hop h3) e (List.mem_of_getElem? he))
                refine ⟨⟨ι b :: (rs ++ []), ?_, ?_⟩, ?_, fun _ _ => by simp [er], fun _ => by simp [lo]⟩
                · simp only [er, snap]
                  rw [get_run h2, erB_get hop, erLL_get, he]
                  simp only [Option.map_some, erB_k, beq_nat hc, if_true]
                  rw [bind_run (f := fun r => HM.ret (AV.fptr r.fst j, ι b :: r.snd)) g1 (ret_run _ _)]
                  simp [g4.1 ι id]
                · intro c hc
                  rcases List.mem_cons.1 hc with rfl | hc
                  · exact ⟨b, by simp, rfl⟩
                  · obtain ⟨c', h5, h6⟩ := g2 c (by simpa using hc)
                    exact ⟨c', by simp [h5], h6⟩
                · intro c hc
                  rcases List.mem_cons.1 hc with rfl | hc
                  · exact h1
                  · exact g3 c hc
              · cases hr
          · cases hr
      · cases hr
    | fptr l j =>
      simp only [xsnap, Option.some.injEq, Prod.mk.injEq] at hr
      obtain ⟨rfl, rfl, rfl⟩ := hr
      exact triv rfl ⟨fun _ _ => by simp [er], fun _ => by simp [lo]⟩ (by simp [er, snap])
    | ifc ty z =>
      simp only [xsnap] at hr
      split at hr
      · rename_i z' r' p hm
        simp only [Option.some.injEq, Prod.mk.injEq] at hr
        obtain ⟨rfl, rfl, rfl⟩ := hr
        unfold lo at hl
        obtain ⟨⟨rs, g1, g2⟩, g3, g4⟩ := ih z z' _ _ hm hp hl
        exact ⟨⟨rs ++ [], by simp only [er, snap]; exact bind_run g1 (by simp [ret_run]), by simpa using g2⟩, g3, fun ι ι' => by simp only [er]; rw [g4.1 ι ι'], fun n => by unfold lo; exact g4.2 n⟩
      · cases hr
    | fn f l =>
      simp only [xsnap] at hr
      split at hr
      · rename_i m' b p hm
        simp only [Option.some.injEq, Prod.mk.injEq] at hr
        obtain ⟨rfl, rfl, rfl⟩ := hr
        unfold lo at hl
        obtain ⟨⟨rs, g1, g2⟩, g3, g4⟩ := xsnapL_ok ih hm hp hl
        exact ⟨⟨rs ++ [], by simp only [er, snap]; exact bind_run g1 (by simp [ret_run]), by simpa using g2⟩, g3, fun ι ι' => by simp only [er]; rw [g4.1 ι ι'], fun n => by unfold lo; exact g4.2 n⟩
      · cases hr
end
end Go.Proofs.YtjhekjhbjaengaaGreatDoor.Ev
