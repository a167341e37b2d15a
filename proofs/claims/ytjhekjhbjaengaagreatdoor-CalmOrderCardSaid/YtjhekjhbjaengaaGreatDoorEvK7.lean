/- The second evaluator: calls in place among others. -/
import Derived.Test.YtjhekjhbjaengaaGreatDoorEvK6
namespace Go.Proofs.YtjhekjhbjaengaaGreatDoor.Ev
open Go Go.RowKit

section
variable {P : Program} {t : T XV} {h : T XB} {nx m slot : Nat} {ι : Nat → Nat} {D : Nat → Prop} {a : AS}
def mapBs (ι : Nat → Nat) (bs : List (Nat × XB)) : List (Nat × Blk) := bs.map fun p => (ι p.1, erB ι p.2)
variable (R : XRel D ι m ⟨t, h, nx⟩ a)
def GathX (ι : Nat → Nat) (h : T XB) (ha : Heap) (f : XV → Option (List (Nat × XB))) (g : AV → HM (List (Nat × Blk))) : Prop :=
  ∀ x bs, f x = some bs → (∃ rs, (g (er x ι)).run ha = some (mapBs ι bs, rs) ∧ ∀ b ∈ rs, ∃ p ∈ bs, ι p.1 = b) ∧ ∀ p ∈ bs, h.get (path p.1) = some p.2 ∧ p.2.op = false
theorem xgathL_ok {ha : Heap} {f : XV → Option (List (Nat × XB))} {g : AV → HM (List (Nat × Blk))} (hf : GathX ι h ha f g) : ∀ {l : List XV} {bs : List (Nat × XB)}, xgathL f l = some bs →
    (∃ rs, (gathL g (erL l ι)).run ha = some (mapBs ι bs, rs) ∧ ∀ b ∈ rs, ∃ p ∈ bs, ι p.1 = b) ∧ ∀ p ∈ bs, h.get (path p.1) = some p.2 ∧ p.2.op = false
  | [], bs, hr => by
    simp only [xgathL, Option.some.injEq] at hr
    subst hr
    exact ⟨⟨[], by simp [erL, gathL, ret_run, mapBs], by simp⟩, by simp⟩
  | x :: l, bs, hr => by
    simp only [xgathL] at hr
    split at hr
    · rename_i b1 b2 h1 h2
      cases hr
      obtain ⟨⟨r1, g1, g2⟩, g3⟩ := hf x b1 h1
      obtain ⟨⟨r2, k1, k2⟩, k3⟩ := xgathL_ok hf h2
      refine ⟨⟨r1 ++ (r2 ++ []), ?_, ?_⟩, ?_⟩
      · simp only [erL, gathL]
        exact bind_run g1 (bind_run k1 (by simp [ret_run, mapBs]))
      · intro b hb
        rcases List.mem_append.1 hb with hb | hb
        · obtain ⟨c, hc, e⟩ := g2 b hb; exact ⟨c, by simp [hc], e⟩
        · obtain ⟨c, hc, e⟩ := k2 b (by simpa using hb); exact ⟨c, by simp [hc], e⟩
      · intro p hp
        rcases List.mem_append.1 hp with hp | hp
        · exact g3 p hp
        · exact k3 p hp
    · cases hr
include R
theorem xgath_ok : ∀ d : Nat, GathX ι h a.h (xgath h d) (gath d)
  | 0 => fun x bs hr => by simp [xgath] at hr
  | d + 1 => fun x bs hr => by
    have ih := xgath_ok d
    have none_ : ∀ {g : HM (List (Nat × Blk))}, bs = [] → g = .ret [] → (∃ rs, g.run a.h = some (mapBs ι bs, rs) ∧ ∀ b ∈ rs, ∃ p ∈ bs, ι p.1 = b) ∧ ∀ p ∈ bs, h.get (path p.1) = some p.2 ∧ p.2.op = false := by
      rintro g rfl rfl
      exact ⟨⟨[], rfl, by simp⟩, by simp⟩
    have blk_ : ∀ {b : Nat} {F : Blk → HM (List (Nat × Blk))}, (∀ blk, F blk = (gathL (gath d) blk.els.flatten).bind fun r => .ret ((ι b, blk) :: r)) → (match h.get (path b) with
        | some blk => bif blk.op then none else match xgathL (xgath h d) blk.els.flatten with
          | some r => some ((b, blk) :: r)
          | none => none
        | none => none) = some bs → (∃ rs, (HM.get (ι b) F).run a.h = some (mapBs ι bs, rs) ∧ ∀ b ∈ rs, ∃ p ∈ bs, ι p.1 = b) ∧ ∀ p ∈ bs, h.get (path p.1) = some p.2 ∧ p.2.op = false := by
      intro b F hF hr
      split at hr
      · rename_i blk hblk
        cases hop : blk.op with
        | true => simp [hop] at hr
        | false =>
          simp only [hop, cond_false] at hr
          split at hr
          · rename_i r hr2
            cases hr
            obtain ⟨h1, h2, h3⟩ := blk_ok R hblk
            obtain ⟨⟨rs, g1, g2⟩, g3⟩ := xgathL_ok ih hr2
            refine ⟨⟨ι b :: (rs ++ []), ?_, ?_⟩, ?_⟩
            · rw [get_run h2, hF, erB_get hop, ← erL_flatten, bind_run (f := fun r => HM.ret ((ι b, erB ι blk) :: r)) g1 (ret_run _ _)]
              rfl
            · intro c hc
              rcases List.mem_cons.1 hc with rfl | hc
              · exact ⟨(b, blk), by simp, rfl⟩
              · obtain ⟨p, hp, e⟩ := g2 c (by simpa using hc); exact ⟨p, by simp [hp], e⟩
            · intro p hp
              rcases List.mem_cons.1 hp with rfl | hp
              · exact ⟨hblk, hop⟩
              · exact g3 p hp
          · cases hr
      · cases hr
    cases x with
    | agg l => simp only [xgath] at hr; simp only [er, gath]; exact xgathL_ok ih hr
    | tup l => simp only [xgath] at hr; simp only [er, gath]; exact xgathL_ok ih hr
    | fn f l => simp only [xgath] at hr; simp only [er, gath]; exact xgathL_ok ih hr
    | ifc ty y => simp only [xgath] at hr; simp only [er, gath]; exact ih y bs hr
    | sl b k o c => simp only [xgath] at hr; simp only [er, gath]; exact blk_ (fun _ => rfl) hr
    | ptr b k i j => simp only [xgath] at hr; simp only [er, gath]; exact blk_ (fun _ => rfl) hr
    | v y => simp only [xgath, Option.some.injEq] at hr; exact none_ hr.symm (by simp [er, gath])
    | s y => simp only [xgath, Option.some.injEq] at hr; exact none_ hr.symm (by simp [er, gath])
    | fsl y => simp only [xgath, Option.some.injEq] at hr; exact none_ hr.symm (by simp [er, gath])
    | ol y => simp only [xgath, Option.some.injEq] at hr; exact none_ hr.symm (by simp [er, gath])
    | e0 => simp only [xgath, Option.some.injEq] at hr; exact none_ hr.symm (by simp [er, gath])
    | fptr y j => simp only [xgath, Option.some.injEq] at hr; exact none_ hr.symm (by simp [er, gath])
omit R
theorem heapOf_at : ∀ {bs : List (Nat × Blk)} {hp : Heap} {b : Nat} {x : Blk}, (hp[b]? = some (some x) ∨ (b, x) ∈ bs) → (∀ y, (b, y) ∈ bs → y = x) → b < hp.length → (heapOf bs hp)[b]? = some (some x)
  | [], hp, b, x, h1, _, _ => by
    rcases h1 with h1 | h1
    · exact h1
    · simp at h1
  | (b0, x0) :: r, hp, b, x, h1, h2, h3 => by
    simp only [heapOf]
    by_cases e : b0 = b
    · subst e
      have := h2 x0 (by simp)
      subst this
      exact heapOf_at (.inl (by simp [h3])) (fun y hy => h2 y (by simp [hy])) (by simpa using h3)
    · refine heapOf_at ?_ (fun y hy => h2 y (by simp [hy])) (by simpa using h3)
      rcases h1 with h1 | h1
      · exact .inl (by rw [List.getElem?_set_ne e]; exact h1)
      · rcases List.mem_cons.1 h1 with h1 | h1
        · cases h1; exact absurd rfl e
        · exact .inr h1
theorem putL_get {α : Type} : ∀ {l : List (Nat × α)} {t : T α} {b : Nat} {x : α}, (putL l t).get (path b) = some x → t.get (path b) = some x ∨ (b, x) ∈ l
  | [], t, b, x, hx => .inl hx
  | (i, y) :: l, t, b, x, hx => by
    simp only [putL] at hx
    rcases putL_get hx with h1 | h1
    · rw [get_put] at h1
      split at h1
      · rename_i e; subst e; cases h1; exact .inr (by simp)
      · exact .inl h1
    · exact .inr (by simp [h1])
theorem all_mem {α : Type} {p : α → Bool} {l : List α} (h : l.all p = true) : ∀ x ∈ l, p x = true := List.all_eq_true.1 h
theorem lowL_of {f : AV → Bool} : ∀ {l : List AV}, (∀ x ∈ l, f x = true) → lowL f l = true
  | [], _ => rfl
  | x :: l, h => by simp only [lowL, Bool.and_eq_true]; exact ⟨h x (by simp), lowL_of fun y hy => h y (by simp [hy])⟩
theorem xlow_ok {ids : List Nat} (hids : ∀ i ∈ ids, i < nx) : ∀ (d : Nat) (x : XV), xlow ids d x = true → low (ids.map ι) d (er x ι) = true ∧ lo nx x
  | 0, x, hx => by simp [xlow] at hx
  | d + 1, x, hx => by
    have lst : ∀ l : List XV, l.all (xlow ids d) = true → lowL (low (ids.map ι) d) (erL l ι) = true ∧ loL nx l := fun l hl => by
      have h1 := fun x hx => xlow_ok hids d x (all_mem hl x hx)
      refine ⟨lowL_of fun y hy => ?_, loL_iff.2 fun x hx => (h1 x hx).2⟩
      rw [erL_eq] at hy
      obtain ⟨x, hx, rfl⟩ := List.mem_map.1 hy
      exact (h1 x hx).1
    have con : ∀ b, ids.contains b = true → (ids.map ι).contains (ι b) = true ∧ b < nx := fun b hb => by
      have hb' : b ∈ ids := by simpa using hb
      exact ⟨by simpa using ⟨b, hb', rfl⟩, hids b hb'⟩
    cases x <;> simp only [xlow] at hx <;> simp only [er, low] <;> unfold lo <;> first | exact lst _ hx | exact con _ hx | exact xlow_ok hids d _ hx | exact ⟨trivial, trivial⟩
theorem sameV_refl {y : Value} (h : (match y with | .int _ _ | .bool _ | .slice none 0 0 | .nilIface => true | _ => false) = true) : sameV y y = true := by
  split at h <;> first | (simp [sameV]; done) | cases h
theorem sameL_of {α : Type} {f : α → α → Bool} : ∀ {l : List α}, (∀ x ∈ l, f x x = true) → sameL f l l = true
  | [], _ => rfl
  | x :: l, h => by simp only [sameL, Bool.and_eq_true]; exact ⟨h x (by simp), sameL_of fun y hy => h y (by simp [hy])⟩
theorem xrefl_ok : ∀ (d : Nat) (x : XV) (ι : Nat → Nat), xrefl d x = true → same d (er x ι) (er x ι) = true
  | 0, x, ι, hx => by simp [xrefl] at hx
  | d + 1, x, ι, hx => by
    have lst : ∀ (l : List XV) (ι : Nat → Nat), l.all (xrefl d) = true → sameL (same d) (erL l ι) (erL l ι) = true := fun l ι hl => sameL_of fun y hy => by
      rw [erL_eq] at hy
      obtain ⟨x, hx, rfl⟩ := List.mem_map.1 hy
      exact xrefl_ok d x ι (all_mem hl x hx)
    cases x with
    | v y => simp only [xrefl] at hx; simp only [er, same]; exact sameV_refl hx
    | s y =>
      simp only [xrefl] at hx
      simp only [er, same]
      split at hx
      · simp [sameV]
      · simp [sameV]
      · cases hx
    | agg l => simp only [xrefl] at hx; simp only [er, same]; exact lst l ι hx
    | tup l => simp only [xrefl] at hx; simp only [er, same]; exact lst l ι hx
    | fsl l =>
      simp only [xrefl] at hx
      simp only [er, same]
      refine sameL_of fun y hy => ?_
      rw [erLL_eq] at hy
      obtain ⟨e, he, rfl⟩ := List.mem_map.1 hy
      exact lst e id (all_mem hx e he)
    | e0 => simp [er, same]
    | sl b k o c => simp [er, same]
    | ptr b k i j => simp [er, same]
    | ol l => simp [xrefl] at hx
    | fptr l j => simp [xrefl] at hx
    | ifc ty z => simp [xrefl] at hx
    | fn f l => simp [xrefl] at hx
theorem set_self {α : Type} {l : List α} {i : Nat} {x : α} (h : l[i]? = some x) : l.set i x = l := by
  apply List.ext_getElem?
  intro j
  rw [List.getElem?_set]
  split
  · rename_i e
    subst e
    split
    · exact h.symm
    · rename_i hlt
      rw [List.getElem?_eq_none (by omega)] at h
      cases h
  · rfl
theorem xbacks_ok {ids chg : List Nat} {h' : T XB} {n' : Nat} {D' : Nat → Prop} {ι' : Nat → Nat} {ha' : Heap} {m' : Nat} (hids : ∀ i ∈ ids, i < nx) (R' : HRel D' ι' m' h' n' ha') (hf : ∀ b, b < nx → ι' b = ι b) :
    ∀ {bs : List (Nat × XB)} {K : List (Nat × Option XB) → Prop}, (∀ p ∈ bs, p.1 < nx ∧ p.2.op = false ∧ loB nx p.2) → xbacks ids chg h' bs K →
      ∃ ws wsA, K ws ∧ backs (ids.map ι) ha' (mapBs ι bs) = some wsA ∧ (∀ w ∈ wsA, ∃ v ∈ ws, w.1 = ι v.1) ∧ (∀ w ∈ ws, (∃ p ∈ bs, w.1 = p.1) ∧ ∀ blk, w.2 = some blk → loB nx blk) ∧
        ∀ hh : Heap, (∀ p ∈ bs, hh[ι p.1]? = some (some (erB ι p.2)) ∨ hh[ι p.1]? = ha'[ι p.1]?) → applyWs hh wsA = applyWs hh (mapWs ι ws)
  | [], K, _, hx => ⟨[], [], hx, rfl, by simp, by simp, fun _ _ => rfl⟩
  | (b, x) :: r, K, hbs, hx => by
    obtain ⟨hb1, hb2, hb3⟩ := hbs (b, x) (by simp)
    have hbs' : ∀ p ∈ r, p.1 < nx ∧ p.2.op = false ∧ loB nx p.2 := fun p hp => hbs p (by simp [hp])
    simp only [xbacks] at hx
    split at hx
    · rename_i y hy
      obtain ⟨k1, k2, k3⟩ := blk_ok R' hy
      rw [hf b hb1] at k2
      have step : ∀ {ws : List (Nat × Option XB)} {wsA : Ws}, backs (ids.map ι) ha' (mapBs ι r) = some wsA → backs (ids.map ι) ha' (mapBs ι ((b, x) :: r)) =
          if (erB ι x).rw && !((erB ι' y).rw && (erB ι x).k == (erB ι' y).k && sameL (sameL (same snapD)) (erB ι x).els (erB ι' y).els) then (if lowL (low (ids.map ι) snapD) (erB ι' y).els.flatten then some ((ι b, some (erB ι' y)) :: wsA) else none) else some wsA := by
        intro ws wsA hA
        simp only [mapBs, List.map_cons, backs]
        rw [k2]
        simp only [mapBs] at hA
        rw [hA]
      cases hrw : x.rw with
      | false =>
        simp only [hrw, cond_false] at hx
        obtain ⟨ws, wsA, g1, g2, g3, g4, g5⟩ := xbacks_ok hids R' hf hbs' hx
        refine ⟨ws, wsA, g1, ?_, g3, fun w hw => ⟨?_, (g4 w hw).2⟩, fun hh hhh => g5 hh fun p hp => hhh p (by simp [hp])⟩
        · rw [step (ws := ws) g2]; simp [erB_rw, hrw]
        · obtain ⟨p, hp, e⟩ := (g4 w hw).1; exact ⟨p, by simp [hp], e⟩
      | true =>
        simp only [hrw, cond_true] at hx
        cases hchg : chg.contains b with
        | true =>
          simp only [hchg, cond_true] at hx
          cases hc : (!y.op && y.els.all (fun e => e.all (xlow ids snapD))) with
          | false => rw [hc] at hx; cases hx
          | true =>
            rw [hc] at hx
            simp only [cond_true] at hx
            simp only [Bool.and_eq_true, Bool.not_eq_true'] at hc
            obtain ⟨ws, wsA, g1, g2, g3, g4, g5⟩ := xbacks_ok hids R' hf hbs' hx
            have hlo : loLL nx y.els := loLL_iff.2 fun e he => loL_iff.2 fun z hz => (xlow_ok (ι := ι) hids _ z (all_mem (all_mem hc.2 e he) z hz)).2
            have hey : erB ι' y = erB ι y := erB_congr hf (Or.inr hlo)
            have hlow : lowL (low (ids.map ι) snapD) (erB ι y).els.flatten = true := by
              rw [erB_get hc.1, ← erL_flatten]
              refine lowL_of fun z hz => ?_
              rw [erL_eq] at hz
              obtain ⟨z', hz', rfl⟩ := List.mem_map.1 hz
              obtain ⟨e, he, hze⟩ := List.mem_flatten.1 hz'
              exact (xlow_ok hids _ z' (all_mem (all_mem hc.2 e he) z' hze)).1
            have post : ∀ w ∈ (b, some y) :: ws, (∃ p ∈ (b, x) :: r, w.1 = p.1) ∧ ∀ blk, w.2 = some blk → loB nx blk := by
              intro w hw
              rcases List.mem_cons.1 hw with rfl | hw
              · exact ⟨⟨(b, x), by simp, rfl⟩, fun q hq => by cases hq; exact Or.inr hlo⟩
              · obtain ⟨⟨p, hp, e⟩, h2⟩ := g4 w hw
                exact ⟨⟨p, by simp [hp], e⟩, h2⟩
            have inv : ∀ hh : Heap, (∀ p ∈ (b, x) :: r, hh[ι p.1]? = some (some (erB ι p.2)) ∨ hh[ι p.1]? = ha'[ι p.1]?) → ι b < hh.length → ∀ p ∈ r, (hh.set (ι b) (some (erB ι y)))[ι p.1]? = some (some (erB ι p.2)) ∨ (hh.set (ι b) (some (erB ι y)))[ι p.1]? = ha'[ι p.1]? := by
              intro hh hhh hlt p hp
              by_cases e : ι b = ι p.1
              · right
                rw [← e, k2, List.getElem?_set_self hlt, hey]
              · rw [List.getElem?_set_ne e]
                exact hhh p (by simp [hp])
            have hlen : ∀ hh : Heap, (∀ p ∈ (b, x) :: r, hh[ι p.1]? = some (some (erB ι p.2)) ∨ hh[ι p.1]? = ha'[ι p.1]?) → ι b < hh.length := by
              intro hh hhh
              have : ∃ z, hh[ι b]? = some z := by
                rcases hhh (b, x) (by simp) with h1 | h1
                · exact ⟨_, h1⟩
                · exact ⟨_, h1.trans k2⟩
              obtain ⟨z, hz⟩ := this
              exact (List.getElem?_eq_some_iff.1 hz).1
            by_cases hs : ((erB ι x).rw && !((erB ι' y).rw && (erB ι x).k == (erB ι' y).k && sameL (sameL (same snapD)) (erB ι x).els (erB ι' y).els)) = true
            · refine ⟨(b, some y) :: ws, (ι b, some (erB ι y)) :: wsA, g1, ?_, ?_, post, ?_⟩
              · rw [step (ws := ws) g2, if_pos hs, hey, if_pos hlow]
              · intro w hw
                rcases List.mem_cons.1 hw with rfl | hw
                · exact ⟨(b, some y), by simp, rfl⟩
                · obtain ⟨v, hv, e⟩ := g3 w hw; exact ⟨v, by simp [hv], e⟩
              · intro hh hhh
                simp only [applyWs, mapWs, List.map_cons, Option.map_some]
                exact g5 _ (inv hh hhh (hlen hh hhh))
            · refine ⟨(b, some y) :: ws, wsA, g1, ?_, ?_, post, ?_⟩
              · rw [step (ws := ws) g2, if_neg hs]
              · intro w hw
                obtain ⟨v, hv, e⟩ := g3 w hw; exact ⟨v, by simp [hv], e⟩
              · intro hh hhh
                simp only [erB_rw, hrw, Bool.true_and, Bool.not_eq_true', Bool.not_eq_false, Bool.and_eq_true, beq_iff_eq] at hs
                obtain ⟨⟨e1, e2⟩, e3⟩ := hs
                have e4 := sameL_eq (fun _ _ => sameL_eq (fun _ _ => same_eq snapD _ _)) e3
                have exy : erB ι x = erB ι y := by
                  rw [hey] at e4
                  have : (erB ι x).k = (erB ι y).k := e2
                  have h2 : (erB ι x).rw = (erB ι y).rw := by rw [erB_rw, erB_rw, hrw, e1]
                  cases hX : erB ι x
                  cases hY : erB ι y
                  rw [hX, hY] at this h2 e4
                  simp only at this h2 e4
                  rw [this, h2, e4]
                simp only [applyWs, mapWs, List.map_cons, Option.map_some]
                have hself : hh.set (ι b) (some (erB ι y)) = hh := by
                  apply set_self
                  rcases hhh (b, x) (by simp) with h1 | h1
                  · rw [h1, exy]
                  · rw [h1, k2, hey]
                rw [hself]
                exact g5 hh fun p hp => hhh p (by simp [hp])
        | false =>
          simp only [hchg, cond_false] at hx
          obtain ⟨hxy, hx⟩ := hx
          cases hc : (!x.op && x.els.all (fun e => e.all (xrefl snapD))) with
          | false => rw [hc] at hx; cases hx
          | true =>
            rw [hc] at hx
            simp only [cond_true] at hx
            simp only [Bool.and_eq_true, Bool.not_eq_true'] at hc
            obtain ⟨ws, wsA, g1, g2, g3, g4, g5⟩ := xbacks_ok hids R' hf hbs' hx
            subst hxy
            have hey : erB ι' x = erB ι x := erB_congr hf hb3
            refine ⟨ws, wsA, g1, ?_, g3, fun w hw => ⟨?_, (g4 w hw).2⟩, fun hh hhh => g5 hh fun p hp => hhh p (by simp [hp])⟩
            · rw [step (ws := ws) g2, hey]
              have hsame : sameL (sameL (same snapD)) (erB ι x).els (erB ι x).els = true := by
                rw [erB_get hc.1]
                refine sameL_of fun e he => sameL_of fun z hz => ?_
                rw [erLL_eq] at he
                obtain ⟨e', he', rfl⟩ := List.mem_map.1 he
                rw [erL_eq] at hz
                obtain ⟨z', hz', rfl⟩ := List.mem_map.1 hz
                exact xrefl_ok _ z' ι (all_mem (all_mem hc.2 e' he') z' hz')
              simp [erB_rw, hrw, hsame]
            · obtain ⟨p, hp, e⟩ := (g4 w hw).1; exact ⟨p, by simp [hp], e⟩
    · cases hx
include R
/-- A call in place among others. -/
theorem xincall_ok {C : Cfg} {rfx : XRF} {rf : RF} {g : FuncId} {xs : List XV} {q : List Told} {K : XR → List Told → Prop} (hrf : RFOK rfx rf)
    (hG : C.S.G g = none) (hI : C.S.inl g = true) (hl : loL nx xs) (hx : xincall rfx g xs h nx q K) : ∃ y q', RunsM (callf C.S rf g (erL xs ι)) a.h slot nx D ι y ∧ K y q' := by
  unfold xincall at hx
  split at hx
  · rename_i bs chg q' hg
    obtain ⟨⟨rs, g1, g2⟩, g3⟩ := xgathL_ok (xgath_ok R snapD) hg
    have hp : ∀ p ∈ bs, (p.1 < nx ∧ D p.1) ∧ a.h[ι p.1]? = some (some (erB ι p.2)) ∧ loB nx p.2 := fun p hp => blk_ok R (g3 p hp).1
    have hH : HRel (fun b => ∃ p ∈ bs, p.1 = b) ι (heapOf (mapBs ι bs) (List.replicate (topOf (mapBs ι bs)) none)).length (putL bs .leaf) nx (heapOf (mapBs ι bs) (List.replicate (topOf (mapBs ι bs)) none)) := by
      have mem : ∀ {b : Nat} {x : XB}, T.get (path b) (putL bs .leaf) = some x → (b, x) ∈ bs := fun hb => by
        rcases putL_get hb with h1 | h1
        · rw [T.get_leaf] at h1; cases h1
        · exact h1
      have top : ∀ p ∈ bs, ι p.1 < (heapOf (mapBs ι bs) (List.replicate (topOf (mapBs ι bs)) none)).length := fun p hp => by
        rw [heapOf_length, List.length_replicate]
        exact topOf_lt (q := (ι p.1, erB ι p.2)) (List.mem_map.2 ⟨p, hp, rfl⟩)
      refine ⟨fun i x hx => (by have hx' : T.get (path i) (.leaf : T XV) = some x := hx; rw [T.get_leaf] at hx'; cases hx'), fun b x hb => ?_, fun b x hb => ⟨(b, x), mem hb, rfl⟩, ?_, ?_, ?_, Nat.le_refl _⟩
      · have hm := mem hb
        obtain ⟨k1, k2, k3⟩ := hp (b, x) hm
        refine ⟨k1.1, heapOf_at (.inr (List.mem_map.2 ⟨(b, x), hm, rfl⟩)) ?_ ?_, k3⟩
        · intro y hy
          obtain ⟨p, hp', e⟩ := List.mem_map.1 hy
          simp only [Prod.mk.injEq] at e
          have e1 := R.inj _ _ (hp p hp').1.2 k1.2 e.1
          have e2 : T.get (path p.1) h = some p.2 := (g3 p hp').1
          have e3 : T.get (path b) h = some x := (g3 (b, x) hm).1
          rw [e1] at e2
          rw [e2] at e3
          cases e3
          exact e.2.symm
        · have := top (b, x) hm
          rw [heapOf_length] at this
          exact this
      · rintro b ⟨p, hp', rfl⟩
        exact (hp p hp').1.1
      · rintro b c ⟨p, hp1, rfl⟩ ⟨p', hp2, rfl⟩ e
        exact R.inj _ _ (hp p hp1).1.2 (hp p' hp2).1.2 e
      · rintro b ⟨p, hp', rfl⟩
        exact top p hp'
    obtain ⟨r0, h', n', q'', D', ι', ha', k1, k2, k3, k4, k5⟩ := hrf false g xs (putL bs .leaf) nx q' _ hx _ ι _ hH hl
    obtain ⟨f1, f2, f3⟩ := k4 rfl
    have hids : ∀ i ∈ bs.map (·.1), i < nx := fun i hi => by
      obtain ⟨p, hp', rfl⟩ := List.mem_map.1 hi
      exact (hp p hp').1.1
    cases hlow : xlow (bs.map (·.1)) snapD r0 with
    | false => rw [hlow] at k5; cases k5
    | true =>
      rw [hlow] at k5
      simp only [cond_true] at k5
      obtain ⟨j1, j2⟩ := xlow_ok (ι := ι) hids _ r0 hlow
      have er0 : er r0 ι' = er r0 ι := er_congr f2 r0 j2
      obtain ⟨ws, wsA, w1, w2, w3, w4, w5⟩ := xbacks_ok (ι := ι) hids k3 f2 (bs := bs) (fun p hp' => ⟨(hp p hp').1.1, (g3 p hp').2, (hp p hp').2.2⟩) k5
      have hws : ∀ w ∈ ws, (w.1 < nx ∧ D w.1) ∧ ∀ blk, w.2 = some blk → loB nx blk := fun w hw => by
        obtain ⟨⟨p, hp', e⟩, h2⟩ := w4 w hw
        exact ⟨by rw [e]; exact (hp p hp').1, h2⟩
      have emap : mapWs (up1 ι nx slot) ws = mapWs ι ws := mapWs_congr (fun b hb => up1_lt hb) fun w hw => ⟨(hws w hw).1.1, (hws w hw).2⟩
      refine ⟨⟨r0, ws, bs.map (·.1), false⟩, q'', ⟨⟨rs ++ [], wsA, ?_, ?_, ?_, ?_⟩, by simpa [nxt] using j2, fun w hw => ⟨.inl (hws w hw).1, (hws w hw).2⟩, ?_⟩, w1⟩
      · have hcall : callf C.S rf g (erL xs ι) = incall (rf g) (erL xs ι) := by
          unfold callf
          rw [hG]
          simp only [hI, if_true]
        rw [hcall]
        unfold incall
        refine bind_run g1 ?_
        rw [k1, er0]
        have eids : (mapBs ι bs).map (·.1) = (bs.map (·.1)).map ι := by simp [mapBs]
        simp only [eids]
        rw [if_pos j1, w2]
        simp only [of_some, bind_ret, ret_run]
        rw [er_congr (n := nx) (fun b hb => up1_lt hb) r0 j2]
      · rw [emap]
        exact w5 a.h fun p hp' => .inl (hp p hp').2.1
      · intro w hw
        obtain ⟨v, hv, e⟩ := w3 w hw
        exact ⟨v, hv, by rw [up1_lt (hws v hv).1.1]; exact e⟩
      · intro b hb
        obtain ⟨p, hp', e⟩ := g2 b (by simpa using hb)
        exact ⟨p.1, List.mem_map.2 ⟨p, hp', rfl⟩, e⟩
      · intro c hc
        obtain ⟨p, hp', rfl⟩ := List.mem_map.1 hc
        exact (hp p hp').1
  · cases hx
end
end Go.Proofs.YtjhekjhbjaengaaGreatDoor.Ev
