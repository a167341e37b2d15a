/- The second evaluator is sound: code, functions. -/
import Derived.Test.YtjhekjhbjaengaaGreatDoorEvK9
namespace Go.Proofs.YtjhekjhbjaengaaGreatDoor.Ev
open Go Go.RowKit

section
variable {C : Cfg} {rfx : XRF} {rf : RF} {ι : Nat → Nat} {D : Nat → Prop}
mutual
theorem er_ren (ρ ι : Nat → Nat) : ∀ x : XV, er (renX ρ x) ι = er x fun b => ι (ρ b)
  | .v _ => by simp [renX, er]
  | .s _ => by simp [renX, er]
  | .agg l => by simp only [renX, er]; rw [erL_ren ρ ι l]
  | .tup l => by simp only [renX, er]; rw [erL_ren ρ ι l]
  | .fsl _ => by simp [renX, er]
  | .ol _ => by simp [renX, er]
  | .e0 => by simp [renX, er]
  | .sl b k o c => by simp [renX, er]
  | .ptr b k i j => by simp [renX, er]
  | .fptr _ _ => by simp [renX, er]
  | .ifc _ x => by simp only [renX, er]; rw [er_ren ρ ι x]
  | .fn _ l => by simp only [renX, er]; rw [erL_ren ρ ι l]
theorem erL_ren (ρ ι : Nat → Nat) : ∀ l : List XV, erL (l.map (renX ρ)) ι = erL l fun b => ι (ρ b)
  | [] => by simp [erL]
  | x :: l => by simp only [List.map_cons, erL]; rw [er_ren ρ ι x, erL_ren ρ ι l]
end
theorem erLL_ren (ρ ι : Nat → Nat) : ∀ l : List (List XV), erLL (l.map (·.map (renX ρ))) ι = erLL l fun b => ι (ρ b)
  | [] => by simp [erLL]
  | x :: l => by simp only [List.map_cons, erLL]; rw [erL_ren ρ ι x, erLL_ren ρ ι l]
theorem erB_ren (ρ ι : Nat → Nat) (b : XB) : erB ι (renB ρ b) = erB (fun c => ι (ρ c)) b := by
  unfold erB renB
  cases hop : b.op with
  | true => simp
  | false => simp only [cond_false]; rw [erLL_ren]
theorem lob_ok {n : Nat} : ∀ (d : Nat) (x : XV), lob n d x = true → lo n x
  | 0, x, h => by simp [lob] at h
  | d + 1, x, h => by
    have hl : ∀ l : List XV, l.all (lob n d) = true → loL n l := fun l hl => loL_iff.2 fun x hx => lob_ok d x (all_mem hl x hx)
    cases x <;> simp only [lob] at h <;> unfold lo <;> first | trivial | exact hl _ h | exact blt_nat h | exact lob_ok d _ h
theorem apart_lt {ρ : Nat → Nat} {m : Nat} : ∀ {n : Nat}, apart ρ m n = true → ∀ b, b < n → ρ b < m ∧ ∀ c, c < n → ρ b = ρ c → b = c
  | 0, _, b, hb => by omega
  | n + 1, h, b, hb => by
    simp only [apart, Bool.and_eq_true] at h
    obtain ⟨⟨h1, h2⟩, h3⟩ := h
    have ih := apart_lt h3
    have ne : ∀ b, b < n → ρ b ≠ ρ n := fun b hb e => by
      have := all_mem h2 b (List.mem_range.2 hb)
      simp only [Bool.not_eq_true'] at this
      exact beq_nat_false this e
    refine ⟨?_, fun c hc e => ?_⟩
    · by_cases hbn : b = n
      · subst hbn; exact blt_nat h1
      · exact (ih b (by omega)).1
    · by_cases hbn : b = n
      · by_cases hcn : c = n
        · omega
        · subst hbn; exact absurd e.symm (ne c (by omega))
      · by_cases hcn : c = n
        · subst hcn; exact absurd e (ne b (by omega))
        · exact (ih b (by omega)).2 c (by omega) e
theorem holdsT_ok {ρ : Nat → Nat} {t : T XV} {p : Prop} : ∀ {l : List (Nat × XV)}, holdsT ρ t l p → p ∧ ∀ q ∈ l, t.get (path q.1) = some (renX ρ q.2)
  | [], h => ⟨h, by simp⟩
  | (i, x) :: l, h => by
    obtain ⟨h1, h2⟩ := holdsT_ok h.2
    refine ⟨h1, fun q hq => ?_⟩
    rcases List.mem_cons.1 hq with rfl | hq
    · exact h.1
    · exact h2 q hq
theorem holdsH_ok {ρ : Nat → Nat} {t : T XB} {p : Prop} : ∀ {l : List (Nat × XB)}, holdsH ρ t l p → p ∧ ∀ q ∈ l, t.get (path (ρ q.1)) = some (renB ρ q.2)
  | [], h => ⟨h, by simp⟩
  | (i, x) :: l, h => by
    obtain ⟨h1, h2⟩ := holdsH_ok h.2
    refine ⟨h1, fun q hq => ?_⟩
    rcases List.mem_cons.1 hq with rfl | hq
    · exact h.1
    · exact h2 q hq
/-- A state stands for what a list of its parts does. -/
theorem part_ok {ρ : Nat → Nat} {pre : LS} {s : XS} {sa : AS} {m : Nat} (R : XRel D ι m s sa) (hc : (apart ρ s.n pre.n && pre.ok) = true) (ht : ∀ q ∈ pre.t, s.t.get (path q.1) = some (renX ρ q.2)) (hh : ∀ q ∈ pre.h, s.h.get (path (ρ q.1)) = some (renB ρ q.2)) :
    XRel (fun b => b < pre.n ∧ D (ρ b)) (fun b => ι (ρ b)) m pre.st sa := by
  simp only [Bool.and_eq_true] at hc
  obtain ⟨c1, c2⟩ := hc
  unfold LS.ok at c2
  simp only [Bool.and_eq_true] at c2
  have memT : ∀ {i : Nat} {x : XV}, pre.st.t.get (path i) = some x → (i, x) ∈ pre.t := fun hx => by
    rcases putL_get hx with h1 | h1
    · rw [T.get_leaf] at h1; cases h1
    · exact h1
  have memH : ∀ {i : Nat} {x : XB}, pre.st.h.get (path i) = some x → (i, x) ∈ pre.h := fun hx => by
    rcases putL_get hx with h1 | h1
    · rw [T.get_leaf] at h1; cases h1
    · exact h1
  have inh : ∀ {b : Nat} {x : XB}, (b, x) ∈ pre.h → b < pre.n ∧ loB pre.n x := fun {b x} hb => by
    have := all_mem c2.2 (b, x) hb
    simp only [Bool.and_eq_true, Bool.or_eq_true] at this
    refine ⟨blt_nat this.1, ?_⟩
    rcases this.2 with h1 | h1
    · exact .inl h1
    · exact .inr (loLL_iff.2 fun e he => loL_iff.2 fun z hz => lob_ok _ z (all_mem (all_mem h1 e he) z hz))
  refine ⟨fun i x hx => ?_, fun b x hx => ?_, fun b x hx => ?_, fun b hb => hb.1, fun b c hb hc e => (apart_lt c1 b hb.1).2 c hc.1 (R.inj _ _ hb.2 hc.2 e), fun b hb => R.lt _ hb.2, R.le⟩
  · have hm := memT hx
    have := R.t i _ (ht (i, x) hm)
    exact ⟨by rw [← er_ren]; exact this.1, lob_ok _ x (all_mem c2.1 (i, x) hm)⟩
  · have hm := memH hx
    have := R.h _ _ (hh (b, x) hm)
    exact ⟨(inh hm).1, by rw [← erB_ren]; exact this.2.1, (inh hm).2⟩
  · have hm := memH hx
    exact ⟨(inh hm).1, R.dom _ _ (hh (b, x) hm)⟩

/-- A stretch of code. -/
def XOK (pu : Bool) (f : XS → List Told → (Ex → XS → List Told → Prop) → Prop) (g : AS → Option (Ex × AS)) (w : Nat → Prop) : Prop :=
  ∀ (s : XS) (q : List Told) (K : Ex → XS → List Told → Prop) (D : Nat → Prop) (ι : Nat → Nat) (sa : AS), f s q K → XRel D ι sa.h.length s sa → w sa.t.length →
    ∃ e s' sa' q' D' ι', g sa = some (e, sa') ∧ XRel D' ι' sa'.h.length s' sa' ∧ sa'.t.length = sa.t.length ∧ (pu = false → Kept s s' sa sa' D D' ι ι') ∧ K e s' q'
theorem xrounds_ok {pu : Bool} {f : XS → List Told → (Ex → XS → List Told → Prop) → Prop} {g : AS → Option (Ex × AS)} {w : Nat → Prop} (hf : XOK pu f g w) : ∀ n, XOK pu (xrounds f n) (rounds g n) w
  | 0 => fun s q K D ι sa hk => by cases hk
  | n + 1 => fun s q K D ι sa hk R hw => by
    simp only [xrounds] at hk
    obtain ⟨e, s1, sa1, q1, D1, ι1, k1, k2, k3, k4, k5⟩ := hf s q _ D ι sa hk R hw
    simp only [rounds]
    rw [k1]
    cases e with
    | normal =>
      simp only at k5 ⊢
      obtain ⟨e, s2, sa2, q2, D2, ι2, j1, j2, j3, j4, j5⟩ := xrounds_ok hf n s1 q1 K D1 ι1 sa1 k5 k2 (by rw [k3]; exact hw)
      exact ⟨e, s2, sa2, q2, D2, ι2, j1, j2, j3.trans k3, fun hp => (k4 hp).trans (j4 hp), j5⟩
    | exit i => exact ⟨_, s1, sa1, q1, D1, ι1, rfl, k2, k3, k4, k5⟩
    | ret => exact ⟨_, s1, sa1, q1, D1, ι1, rfl, k2, k3, k4, k5⟩
theorem xexec_ok {pu : Bool} {S : Sys} {sum : FuncId → Bool} {d : Nat} (hrf : RFOK rfx (arun S d)) : ∀ c : Code, XOK pu (xexec ⟨S, sum, d⟩ rfx (fun a pre e post => bif pu then LoopOK S d a pre e post else False) c) (aexec S (arun S d) c) (fun n => wid n c = true)
  | .skip => fun s q K D ι sa hk R _ => ⟨_, s, sa, q, D, ι, rfl, R, rfl, fun _ => .refl, hk⟩
  | .region id ops draw => fun s q K D ι sa hk R hw => by
    simp only [xexec] at hk
    obtain ⟨s', sa', q', D', ι', k1, k2, k3, k4⟩ := xregion_ok (C := ⟨S, sum, d⟩) hrf (fun _ _ _ _ h => h) hk R hw
    exact ⟨.normal, s', sa', q', D', ι', by simp only [aexec]; rw [k1]; rfl, k2, k3.1, fun _ => k3, k4⟩
  | .seq a b => fun s q K D ι sa hk R hw => by
    simp only [xexec] at hk
    simp only [wid, Bool.and_eq_true] at hw
    obtain ⟨e, s1, sa1, q1, D1, ι1, k1, k2, k3, k4, k5⟩ := xexec_ok hrf a s q _ D ι sa hk R hw.1
    simp only [aexec]
    rw [k1]
    cases e with
    | normal =>
      simp only at k5 ⊢
      obtain ⟨e, s2, sa2, q2, D2, ι2, j1, j2, j3, j4, j5⟩ := xexec_ok hrf b s1 q1 K D1 ι1 sa1 k5 k2 (by show wid sa1.t.length b = true; rw [k3]; exact hw.2)
      exact ⟨e, s2, sa2, q2, D2, ι2, j1, j2, j3.trans k3, fun hp => (k4 hp).trans (j4 hp), j5⟩
    | exit i => exact ⟨_, s1, sa1, q1, D1, ι1, rfl, k2, k3, k4, k5⟩
    | ret => exact ⟨_, s1, sa1, q1, D1, ι1, rfl, k2, k3, k4, k5⟩
  | .cond c a b => fun s q K D ι sa hk R hw => by
    simp only [xexec] at hk
    simp only [wid, Bool.and_eq_true] at hw
    obtain ⟨t1, q1, R1, hk⟩ := conc_ok (t := s.t) (h := s.h) (nx := s.n) R hk
    simp only [aexec]
    split at hk
    · rename_i hc
      rw [(xev_ok R1 hc).1]
      simp only [er]
      exact xexec_ok hrf a ⟨t1, s.h, s.n⟩ q1 K D ι sa hk R1 hw.1
    · rename_i hc
      rw [(xev_ok R1 hc).1]
      simp only [er]
      exact xexec_ok hrf b ⟨t1, s.h, s.n⟩ q1 K D ι sa hk R1 hw.2
    · cases hk
  | .block id a => fun s q K D ι sa hk R hw => by
    simp only [xexec] at hk
    obtain ⟨e, s1, sa1, q1, D1, ι1, k1, k2, k3, k4, k5⟩ := xexec_ok hrf a s q _ D ι sa hk R hw
    simp only [aexec]
    rw [k1]
    cases e with
    | normal => exact ⟨_, s1, sa1, q1, D1, ι1, rfl, k2, k3, k4, k5⟩
    | exit i =>
      simp only at k5 ⊢
      cases hi : Nat.beq i id with
      | true =>
        rw [hi] at k5
        rw [if_pos (beq_nat hi)]
        exact ⟨_, s1, sa1, q1, D1, ι1, rfl, k2, k3, k4, k5⟩
      | false =>
        rw [hi] at k5
        rw [if_neg (beq_nat_false hi)]
        exact ⟨_, s1, sa1, q1, D1, ι1, rfl, k2, k3, k4, k5⟩
    | ret => exact ⟨_, s1, sa1, q1, D1, ι1, rfl, k2, k3, k4, k5⟩
  | .loop a => fun s q K D ι sa hk R hw => by
    simp only [xexec] at hk
    cases htl : toldLoop ⟨S, sum, d⟩ a with
    | false =>
      rw [htl] at hk
      exact xrounds_ok (xexec_ok hrf a) S.N s q K D ι sa hk R hw
    | true =>
      rw [htl] at hk
      simp only [cond_true] at hk
      split at hk
      · rename_i ρ pre e post q' hl
        obtain ⟨h1, hk⟩ := hk
        cases hc : (apart (renOf ρ) s.n pre.n && pre.ok) with
        | false => rw [hc] at hk; cases hk
        | true =>
          rw [hc] at hk
          simp only [cond_true] at hk
          obtain ⟨hk, ht⟩ := holdsT_ok hk
          obtain ⟨hk, hh⟩ := holdsH_ok hk
          cases pu with
          | false => exact h1.elim
          | true =>
            obtain ⟨sa', D', ι', k1, k2, k3⟩ := h1 _ _ sa (part_ok R hc ht hh)
            exact ⟨_, post.st, sa', q', D', ι', k1, k2, k3, (fun hp => nomatch hp), hk⟩
      · cases hk
  | .exit id => fun s q K D ι sa hk R _ => ⟨_, s, sa, q, D, ι, rfl, R, rfl, fun _ => .refl, hk⟩
  | .ret => fun s q K D ι sa hk R _ => ⟨_, s, sa, q, D, ι, rfl, R, rfl, fun _ => .refl, hk⟩
  | .rangeFunc .. | .scope _ | .label _ | .goto _ | .refuse _ => fun s q K D ι sa hk => by simp [xexec] at hk

theorem xresult_ok {P : Program} {s : XS} {sa : AS} {m : Nat} (R : XRel D ι m s sa) {v : ResultVar} {x : XV} (hx : xresult P s v = some x) : aresult P sa v = some (er x ι) ∧ lo s.n x := by
  cases v with
  | tmp i => exact R.t i x hx
  | cell p ty =>
    simp only [xresult] at hx
    split at hx
    · rename_i b k i j hp
      split at hx
      · rename_i blk hb
        split at hx
        · rename_i e he
          rw [nth_eq] at he
          cases hc : (Nat.beq blk.k k && !blk.op) with
          | false => simp [hc] at hx
          | true =>
            simp only [hc, cond_true] at hx
            simp only [Bool.and_eq_true, Bool.not_eq_true'] at hc
            obtain ⟨h1, h2, h3⟩ := R.h b blk hb
            have h4 := xcut_ok hx ι
            have hp' := (R.t p _ hp).1
            simp only [er] at hp'
            simp only [aresult, hp', h2, erB_get hc.2, erLL_get, he, Option.map_some, erB_k, beq_nat hc.1, if_true]
            exact ⟨h4.1, h4.2 _ (loLL_iff.1 (loB_els hc.2 h3) e (List.mem_of_getElem? he))⟩
        · cases hx
      · cases hx
    · cases hx
theorem xresL_ok {P : Program} {s : XS} {sa : AS} {m : Nat} (R : XRel D ι m s sa) : ∀ {l : List ResultVar} {xs : List XV}, xresL P s l = some xs → l.mapM (aresult P sa) = some (erL xs ι) ∧ loL s.n xs
  | [], xs, h => by
    simp only [xresL, Option.some.injEq] at h
    subst h
    exact ⟨rfl, by simp [loL]⟩
  | v :: l, xs, h => by
    simp only [xresL] at h
    split at h
    · rename_i y ys h1 h2
      cases h
      obtain ⟨g1, g2⟩ := xresult_ok R h1
      obtain ⟨g3, g4⟩ := xresL_ok R h2
      refine ⟨?_, g2, g4⟩
      simp only [List.mapM_cons, g1, g3, erL]
      rfl
    · cases h
theorem xresults_ok {P : Program} {fn : Func} {s : XS} {sa : AS} {m : Nat} (R : XRel D ι m s sa) {x : XV} (hx : xresults P fn s = some x) : aresults P fn sa = some (er x ι) ∧ lo s.n x := by
  unfold xresults at hx
  unfold aresults
  split at hx
  · rename_i y hy
    cases hx
    obtain ⟨g1, g2⟩ := xresL_ok R hy
    rw [g1]
    simp only [erL, loL] at g2 ⊢
    exact ⟨trivial, g2.1⟩
  · rename_i l hne hl
    cases hx
    obtain ⟨g1, g2⟩ := xresL_ok R hl
    rw [g1]
    refine ⟨?_, by unfold lo; exact g2⟩
    cases l with
    | nil => simp [erL, er]
    | cons y l =>
      cases l with
      | nil => exact absurd rfl (hne y)
      | cons z l => simp [erL, er]
  · cases hx
theorem targs_ok : ∀ {args : List XV} {i j : Nat} {t : T XV} {x : XV}, (targs i args t).get (path j) = some x → (t.get (path j) = some x ∧ (j < i ∨ i + args.length ≤ j)) ∨ (i ≤ j ∧ args[j - i]? = some x)
  | [], i, j, t, x, h => .inl ⟨h, by simp; omega⟩
  | y :: l, i, j, t, x, h => by
    simp only [targs] at h
    rcases targs_ok h with ⟨h1, h2⟩ | ⟨h1, h2⟩
    · rw [get_put] at h1
      split at h1
      · rename_i e
        subst e
        cases h1
        exact .inr ⟨Nat.le_refl _, by simp⟩
      · rename_i e
        exact .inl ⟨h1, by simp only [List.length_cons]; omega⟩
    · refine .inr ⟨by omega, ?_⟩
      obtain ⟨k, hk⟩ : ∃ k, j - i = k + 1 := ⟨j - i - 1, by omega⟩
      rw [hk, List.getElem?_cons_succ]
      have : j - (i + 1) = k := by omega
      rw [this] at h2
      exact h2
/-- The second evaluator is sound. -/
theorem xrun_ok {S : Sys} {sum : FuncId → Bool} : ∀ d, RFOK (xrun S sum d) (arun S d)
  | 0 => fun pu g xs h n q K hk => by simp [xrun] at hk
  | d + 1 => fun pu g xs h n q K hk D ι ha R hl => by
    have ih := xrun_ok (S := S) (sum := sum) d
    simp only [xrun] at hk
    simp only [arun]
    split at hk
    · rename_i fn hfn
      rw [hfn]
      simp only
      split at hk
      · rename_i c hc
        rw [hc]
        simp only
        cases hb : (notNum fn && Nat.ble xs.length fn.ntmps && wid fn.ntmps c) with
        | false => rw [hb] at hk; cases hk
        | true =>
          rw [hb] at hk
          simp only [cond_true] at hk
          simp only [Bool.and_eq_true] at hb
          obtain ⟨⟨b1, b2⟩, b3⟩ := hb
          have hname : ¬ fn.name = "runtime.NumGoroutine" := by
            unfold notNum at b1
            intro e
            rw [e] at b1
            simp at b1
          rw [if_neg hname]
          have hlen := ble_nat b2
          have hlen' : (erL xs ι ++ List.replicate (fn.ntmps - (erL xs ι).length) (AV.v undef)).length = fn.ntmps := by
            simp only [List.length_append, List.length_replicate, erL_length]
            omega
          have R0 : XRel D ι ha.length ⟨targs 0 xs .leaf, h, n⟩ ⟨erL xs ι ++ List.replicate (fn.ntmps - (erL xs ι).length) (.v undef), ha⟩ := by
            refine HRel.of R fun i x hx => ?_
            rcases targs_ok hx with ⟨h1, _⟩ | ⟨_, h2⟩
            · rw [T.get_leaf] at h1; cases h1
            · simp only [Nat.sub_zero] at h2
              have hi : i < xs.length := (List.getElem?_eq_some_iff.1 h2).1
              refine ⟨?_, loL_iff.1 hl x (List.mem_of_getElem? h2)⟩
              rw [List.getElem?_append_left (by rw [erL_length]; exact hi), erL_get, h2]
              rfl
          obtain ⟨e, s', sa', q', D', ι', k1, k2, k3, k4, k5⟩ := xexec_ok (pu := pu) (sum := sum) ih c _ q _ D ι ⟨erL xs ι ++ List.replicate (fn.ntmps - (erL xs ι).length) (.v undef), ha⟩ hk R0 (by show wid (List.length (erL xs ι ++ List.replicate (fn.ntmps - (erL xs ι).length) (AV.v undef))) c = true; rw [hlen']; exact b3)
          rw [k1]
          cases e with
          | exit i => cases k5
          | normal =>
            simp only at k5 ⊢
            split at k5
            · rename_i r hr
              obtain ⟨g1, g2⟩ := xresults_ok k2 hr
              rw [g1]
              exact ⟨r, s'.h, s'.n, q', D', ι', sa'.h, rfl, g2, k2.heap, fun hp => (k4 hp).2, k5⟩
            · cases k5
          | ret =>
            simp only at k5 ⊢
            split at k5
            · rename_i r hr
              obtain ⟨g1, g2⟩ := xresults_ok k2 hr
              rw [g1]
              exact ⟨r, s'.h, s'.n, q', D', ι', sa'.h, rfl, g2, k2.heap, fun hp => (k4 hp).2, k5⟩
            · cases k5
      · cases hk
    · cases hk
/-- What function f answers, at most d calls deep. -/
def Ans (S : Sys) (d : Nat) (f : FuncId) (args : List XV) (r : XV) : Prop := pure_ (arun S d) f (erL args id) = some (er r id)
theorem xpure_ok {S : Sys} {sum : FuncId → Bool} {d : Nat} {f : FuncId} {args : List XV} {q : List Told} {r : XV} (hl : loL 0 args) (h : xpure S sum d f args q (fun y => er y id = er r id)) : Ans S d f args r := by
  unfold xpure at h
  obtain ⟨r0, h', n', q', D', ι', ha', k1, k2, k3, _, k5⟩ := xrun_ok d true f args .leaf 0 q _ h _ id [] HRel.nil hl
  split at k5
  · rename_i y bs ps hsn
    obtain ⟨hps, heq⟩ := dues_ok k5
    obtain ⟨⟨rs, j1, _⟩, _, j4⟩ := xsnap_ok k3 snapD r0 y bs ps hsn hps k2
    unfold Ans pure_
    rw [k1]
    simp only [j1]
    rw [j4.1 ι' id, heq]
  · cases k5
end
end Go.Proofs.YtjhekjhbjaengaaGreatDoor.Ev
