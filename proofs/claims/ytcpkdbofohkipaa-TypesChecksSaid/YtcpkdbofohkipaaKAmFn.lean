/- AM, 21: code, and a function's contract out of its code. -/
import Derived.Test.YtcpkdbofohkipaaKAmDraw3
set_option linter.unusedVariables false
set_option linter.unusedSimpArgs false
set_option linter.unusedSimpArgs false
set_option linter.unusedVariables false
namespace Go.AM
variable {P : Program} {N : Nat} {E : Env} {tm : Tm} {a : Act}

/-- What is known where code has come to an end. -/
def Came (N : Nat) (Q : AExit → Tm → Hp → Prop) (E : Env) (e : Exit) (a : Act) (w : World) : Prop :=
  ∃ (ae : AExit) (E' : Env) (tm : Tm), e = ae.conc ∧ E'.w = w ∧ Sim E' ∧ Ext E E' ∧ TmRel E' N tm a ∧ Q ae tm E'.h

theorem aw_sound {quiet : FuncId → Bool} (hm : P.follows .mixedOrders = true) : ∀ (c : Code) (ac : ACode) (Q : AExit → Tm → Hp → Prop) (E : Env) (tm : Tm) (a : Act), comp P N quiet c = some ac → Sim E → TmRel E N tm a → AW P ac Q tm E.h → c.wp P (Came N Q E) a E.w := by
  intro c
  induction c with
  | skip =>
    intro ac Q E tm a hc hs ht h
    simp [comp] at hc; subst hc
    exact wp_skip ⟨.normal, E, tm, rfl, rfl, hs, Ext.refl E, ht, h⟩
  | region id ops draw =>
    intro ac Q E tm a hc hs ht h
    simp only [comp] at hc
    cases draw with
    | true =>
      simp only [if_true, Option.map_eq_some_iff] at hc
      obtain ⟨l, hl, rfl⟩ := hc
      exact draw_sound hl hm hs ht h fun E' tm' a' s' x' t' k' => ⟨.normal, E', tm', rfl, rfl, s', x', t', k'⟩
    | false =>
      simp only [Bool.false_eq_true, if_false, Option.map_eq_some_iff] at hc
      obtain ⟨l, hl, rfl⟩ := hc
      have hal := aligned_from (P := P) (N := N) ops ops.toList 0 l (fun j o hj => by simpa using hj) hl
      refine wp_region ?_
      rw [show List.range ops.size = List.range' 0 ops.toList.length by rw [List.range_eq_range', Array.length_toList]]
      exact ops_sound hal hs ht h fun E' tm' a' s' x' t' k' => ⟨.normal, E', tm', rfl, rfl, s', x', t', k'⟩
  | seq x y ihx ihy =>
    intro ac Q E tm a hc hs ht h
    simp only [comp, Option.bind_eq_some_iff, Option.map_eq_some_iff] at hc
    obtain ⟨ax, hx, ay, hy, rfl⟩ := hc
    refine wp_seq (wp_mono (ihx ax _ E tm a hx hs ht h) ?_)
    rintro e a' w' ⟨ae, E', tm', rfl, rfl, s', x', t', hq⟩
    cases ae with
    | normal =>
      refine wp_mono (ihy ay Q E' tm' a' hy s' t' hq) ?_
      rintro e a'' w'' ⟨ae, E'', tm'', rfl, rfl, s'', x'', t'', hq'⟩
      exact ⟨ae, E'', tm'', rfl, rfl, s'', x'.trans x'', t'', hq'⟩
    | exit id => exact ⟨.exit id, E', tm', rfl, rfl, s', x', t', hq⟩
    | ret => exact ⟨.ret, E', tm', rfl, rfl, s', x', t', hq⟩
  | cond c x y ihx ihy =>
    intro ac Q E tm a hc hs ht h
    simp only [comp, Option.bind_eq_some_iff, Option.map_eq_some_iff] at hc
    obtain ⟨acc, hcc, ax, hx, ay, hy, rfl⟩ := hc
    simp only [AW] at h
    split at h
    · rename_i b hev
      have hv := opd hcc ht
      rw [hev] at hv
      refine wp_cond hv.bool_inv ?_
      cases b
      · exact ihy ay Q E tm a hy hs ht (by simpa using h)
      · exact ihx ax Q E tm a hx hs ht (by simpa using h)
    · exact h.elim
  | block id b ih =>
    intro ac Q E tm a hc hs ht h
    simp only [comp, Option.map_eq_some_iff] at hc
    obtain ⟨ab, hb, rfl⟩ := hc
    refine wp_block (wp_mono (ih ab _ E tm a hb hs ht h) ?_)
    rintro e a' w' ⟨ae, E', tm', rfl, rfl, s', x', t', hq⟩
    cases ae with
    | normal => exact ⟨.normal, E', tm', rfl, rfl, s', x', t', hq⟩
    | exit i =>
      simp only [AExit.conc, Exit.inBlock] at hq ⊢
      split
      · rename_i hi
        rw [if_pos hi] at hq
        exact ⟨.normal, E', tm', rfl, rfl, s', x', t', hq⟩
      · rename_i hi
        rw [if_neg hi] at hq
        exact ⟨.exit i, E', tm', rfl, rfl, s', x', t', hq⟩
    | ret => exact ⟨.ret, E', tm', rfl, rfl, s', x', t', hq⟩
  | loop b ih =>
    intro ac Q E tm a hc hs ht h
    simp only [comp, Option.map_eq_some_iff] at hc
    obtain ⟨ab, hb, rfl⟩ := hc
    obtain ⟨I, n, ⟨tm1, h1, hg1, hI1⟩, hround⟩ := h
    let J : Nat → Act → World → Prop := fun n a w => ∃ (E' : Env) (tm' : Tm), E'.w = w ∧ Sim E' ∧ Ext E E' ∧ TmRel E' N tm' a ∧ I n tm' E'.h
    refine wp_loop_ghost J n ?_ ?_
    · obtain ⟨s1, x1, t1⟩ := hg1.sound hs ht
      exact ⟨{ E with h := h1 }, tm1, rfl, s1, x1, t1, hI1⟩
    · rintro n a w ⟨E', tm', rfl, s', x', t', hI⟩
      refine wp_mono (ih ab _ E' tm' a hb s' t' (hround n tm' E'.h hI)) ?_
      rintro e a'' w'' ⟨ae, E'', tm'', rfl, rfl, s'', x'', t'', hq⟩
      cases ae with
      | normal =>
        obtain ⟨n', hlt, tm3, h3, hg3, hI3⟩ := hq
        obtain ⟨s3, x3, t3⟩ := hg3.sound s'' t''
        exact ⟨n', hlt, { E'' with h := h3 }, tm3, rfl, s3, x'.trans (x''.trans x3), t3, hI3⟩
      | exit id => exact ⟨.exit id, E'', tm'', rfl, rfl, s'', x'.trans x'', t'', hq⟩
      | ret => exact ⟨.ret, E'', tm'', rfl, rfl, s'', x'.trans x'', t'', hq⟩
  | exit id =>
    intro ac Q E tm a hc hs ht h
    simp [comp] at hc; subst hc
    exact wp_exit ⟨.exit id, E, tm, rfl, rfl, hs, Ext.refl E, ht, h⟩
  | ret =>
    intro ac Q E tm a hc hs ht h
    simp [comp] at hc; subst hc
    exact wp_ret ⟨.ret, E, tm, rfl, rfl, hs, Ext.refl E, ht, h⟩
  | rangeFunc f ps as b => intro ac Q E tm a hc; simp [comp] at hc
  | scope b => intro ac Q E tm a hc; simp [comp] at hc
  | label l => intro ac Q E tm a hc; simp [comp] at hc
  | goto l => intro ac Q E tm a hc; simp [comp] at hc
  | refuse w => intro ac Q E tm a hc; simp [comp] at hc

/-! ### Results -/

theorem load_run {t : TypeId} {x : Operand} {w : World} {r v : Value} (ty : TypeId) (h : (execOp a.eval { dst := none, op := .load t x, type := ty, pos := "", after := #[], guard := none }).run P w = .ok (.value v) w) : ∃ ad, a.eval x = .pointer (some ad) ∧ (loadVar t ad).run P w = .ok v w := by
  simp only [execOp, Sem.run_bind, Instr.loadAt] at h
  cases hx : a.eval x with
  | pointer p =>
    cases p with
    | none => rw [hx] at h; simp [Instr.sureAddr] at h
    | some ad =>
      rw [hx] at h
      simp only [Instr.sureAddr, Sem.run_pure, Result.andThen_ok] at h
      refine ⟨ad, rfl, ?_⟩
      cases hl : (loadVar t ad).run P w with
      | ok v' w' => rw [hl] at h; simp at h; obtain ⟨rfl, rfl⟩ := h; rfl
      | halt k w' => rw [hl] at h; simp at h
  | _ => rw [hx] at h; simp [Instr.sureAddr] at h

/-- A result's value. -/
def resSem (tmps : Array Value) : ResultVar → Sem Value
  | .tmp t => pure (tmps.getD t undef)
  | .cell ad t => do loadVar t (← asAddr (tmps.getD ad undef))

theorem res_one (hs : Sim E) (ht : TmRel E N tm a) {rv : ResultVar} {ar : ARes} (hc : cRes P N rv = some ar) {r : AV} (hg : ar.get tm E.h = some r) :
    ∃ v, (resSem a.tmps rv).run P E.w = .ok v E.w ∧ Rel E r v := by
  cases rv with
  | tmp t =>
    simp only [cRes] at hc
    split at hc
    · cases hc
      simp only [ARes.get, Option.some.injEq] at hg
      subst hg
      exact ⟨_, by simp [resSem], ht.rel t ‹_›⟩
    · cases hc
  | cell t ty =>
    simp only [cRes] at hc
    split at hc
    · rename_i htN
      simp only [Option.map_eq_some_iff] at hc
      obtain ⟨ag, hag, rfl⟩ := hc
      have hopd : cOpd N (.tmp t) = some (.t t) := by simp [cOpd, htN]
      have key : Yields P E a { dst := none, op := .load ty (.tmp t), type := 0, pos := "", after := #[], guard := none } r := by
        cases ag with
        | none => exact yields_ldc hs rfl hag hopd ht hg
        | some k => exact yields_lda hs rfl hag hopd ht hg
      obtain ⟨v, hrun, hrel⟩ := key
      obtain ⟨ad, hx, hl⟩ := load_run (r := v) 0 hrun
      have hx' : a.tmps.getD t undef = .pointer (some ad) := hx
      exact ⟨v, by simp only [resSem, hx', asAddr, Sem.run_bind, Sem.run_pure, Result.andThen_ok, hl], hrel⟩
    · cases hc

theorem results_rel (hs : Sim E) (ht : TmRel E N tm a) {fn : Func} {res : List ARes} (hc : (fn.results.toList.mapM fun r => cRes P N r) = some res) {r : AV} (hg : resOf res tm E.h = some r) : ∃ v, (results fn a.tmps).run P E.w = .ok v E.w ∧ Rel E r v := by
  obtain ⟨hl, hget⟩ := mapM_some _ _ _ hc
  -- all of them
  have all : ∀ (rvs : List ResultVar) (rs : List ARes) (vs : List AV), (rvs.mapM fun r => cRes P N r) = some rs → (rs.mapM fun (r : ARes) => r.get tm E.h) = some vs →
      ∃ us : List Value, (rvs.mapM (m := Sem) (resSem a.tmps)).run P E.w = .ok us E.w ∧ RelL E vs us := by
    intro rvs
    induction rvs with
    | nil =>
      intro rs vs h1 h2
      simp at h1; subst h1
      simp at h2; subst h2
      exact ⟨[], by simp, RelL.nil E⟩
    | cons rv rvs ih =>
      intro rs vs h1 h2
      rw [List.mapM_cons] at h1
      cases hr : cRes P N rv with
      | none => simp [hr] at h1
      | some ar =>
        cases hrs : (rvs.mapM fun r => cRes P N r) with
        | none => simp [hr, hrs] at h1
        | some rs' =>
          simp [hr, hrs] at h1
          subst h1
          rw [List.mapM_cons] at h2
          cases hv : ar.get tm E.h with
          | none => simp [hv] at h2
          | some v =>
            cases hvs : (rs'.mapM fun (r : ARes) => r.get tm E.h) with
            | none => simp [hv, hvs] at h2
            | some vs' =>
              simp [hv, hvs] at h2
              subst h2
              obtain ⟨u, hu, hru⟩ := res_one (P := P) hs ht hr hv
              obtain ⟨us, hus, hrus⟩ := ih rs' vs' hrs hvs
              refine ⟨u :: us, ?_, ⟨by simp [hrus.1], fun j c u' hc' hu' => ?_⟩⟩
              · rw [List.mapM_cons]
                simp only [Sem.run_bind, hu, Result.andThen_ok, hus, Sem.run_pure]
              · cases j with
                | zero => simp at hc' hu'; subst hc'; subst hu'; exact hru
                | succ j => simp at hc' hu'; exact hrus.2 j c u' hc' hu'
  have hrun : ∀ us : List Value, (fn.results.toList.mapM (m := Sem) (resSem a.tmps)).run P E.w = .ok us E.w →
      (results fn a.tmps).run P E.w = .ok (if h : us.length = 1 then us[0] else .tuple us.toArray) E.w := by
    intro us hus
    have e : results fn a.tmps = (do let vs ← fn.results.mapM (resSem a.tmps); pure (if h : vs.size = 1 then vs[0] else .tuple vs)) := by
      unfold results
      congr 1
    rw [e, Array.mapM_eq_mapM_toList]
    simp only [Sem.run_bind, Sem.run_map, hus, Result.andThen_ok]
    simp
  unfold resOf at hg
  split at hg
  · rename_i ar
    have h1 : fn.results.toList.length = 1 := by rw [← hl]; rfl
    obtain ⟨us, hus, hr⟩ := all fn.results.toList [ar] [r] hc (by simp [hg])
    refine ⟨_, hrun us hus, ?_⟩
    have hul : us.length = 1 := hr.1
    rw [dif_pos hul]
    exact hr.2 0 r _ rfl (List.getElem?_eq_getElem (by omega))
  · rename_i hne
    cases hvs : (res.mapM fun (r : ARes) => r.get tm E.h) with
    | none => simp [hvs] at hg
    | some vs =>
      simp [hvs] at hg
      subst hg
      obtain ⟨us, hus, hr⟩ := all fn.results.toList res vs hc hvs
      refine ⟨_, hrun us hus, ?_⟩
      have hvl := (mapM_some _ _ _ hvs).1
      have hul : us.length ≠ 1 := by
        intro h1
        have : res.length = 1 := by rw [← hvl, ← hr.1]; exact h1
        cases res with
        | nil => simp at this
        | cons x l =>
          have : l = [] := by simpa using this
          subst this
          exact hne x rfl
      rw [dif_neg hul]
      exact .tup vs us hr.1 hr.2

/-- A FUNCTION'S CONTRACT, out of its compiled code. -/
theorem calls_of {quiet : FuncId → Bool} (hm : P.follows .mixedOrders = true) {f : FuncId} {fn : Func} (hf : P.funcs[f]? = some fn) {c : AFn} (hc : compFn P quiet fn = some c) {args : List AV} (hn : args.length ≤ c.n) {h : Hp} {Q : AV → Hp → Prop}
    (haw : AW P c.code (fun e tm h' => match e with | .exit _ => False | _ => Gives Q (resOf c.res tm h') h') (initTm args) h) : ACalls P f args h Q := by
  simp only [compFn, Option.bind_eq_some_iff] at hc
  obtain ⟨code, hbody, ac, hac, res, hres, hc⟩ := hc
  split at hc
  · cases hc
  · rename_i hname
    cases hc
    refine ⟨by simp [callable, hf, hbody, hname], fun E cargs hs hh hr => ?_⟩
    subst hh
    have hlen : cargs.length ≤ fn.ntmps := by rw [hr.1]; exact hn
    have ht : TmRel E fn.ntmps (initTm args) { tmps := cargs.toArray ++ Array.replicate (fn.ntmps - cargs.toArray.size) undef, defers := [] } := by
      refine ⟨by simp; omega, rfl, fun t htN => ?_⟩
      simp only [initTm, List.getD, Array.getD_eq_getD_getElem?]
      by_cases h1 : t < cargs.length
      · rw [Array.getElem?_append_left (by simpa using h1)]
        have h2 : args[t]? = some (args[t]'(by rw [← hr.1]; exact h1)) := List.getElem?_eq_getElem _
        have h3 : cargs[t]? = some cargs[t] := List.getElem?_eq_getElem h1
        rw [h2]
        simp only [List.getElem?_toArray, h3, Option.getD_some]
        exact hr.2 t _ _ h2 h3
      · rw [Array.getElem?_append_right (by simpa using Nat.le_of_not_lt h1)]
        have h2 : args[t]? = none := List.getElem?_eq_none (by rw [← hr.1]; omega)
        rw [h2]
        have h3 : (Array.replicate (fn.ntmps - cargs.toArray.size) undef)[t - cargs.toArray.size]? = some undef := by
          rw [Array.getElem?_replicate, if_pos (by simp; omega)]
        rw [h3]
        exact Rel.undef E
    refine calls_of_wp hf hbody (wp_mono (aw_sound hm code ac _ E (initTm args) _ hac hs ht haw) ?_)
    rintro e a' w' ⟨ae, E', tm', rfl, rfl, s', x', t', hq⟩
    have fin : Gives Q (resOf res tm' E'.h) E'.h → a'.defers = [] ∧ ∃ v, (results fn a'.tmps).run P E'.w = .ok v E'.w ∧ ∃ (v' : Value) (r : AV) (E'' : Env), Ending.returned v = .returned v' ∧ E''.w = E'.w ∧ Sim E'' ∧ Ext E E'' ∧ Rel E'' r v' ∧ Q r E''.h := by
      rintro ⟨r, hr', r', h', hsub, hfrz, hq'⟩
      obtain ⟨v, hrun, hrel⟩ := results_rel (P := P) s' t' hres hr'
      obtain ⟨x2, s2⟩ := forget' s' hsub
      exact ⟨t'.defers, v, hrun, v, r', { E' with h := h' }, rfl, rfl, s2, x'.trans x2, hfrz.rel s' hsub hrel, hq'⟩
    cases ae with
    | normal => exact fin hq
    | exit id => exact hq.elim
    | ret => exact fin hq

end Go.AM
