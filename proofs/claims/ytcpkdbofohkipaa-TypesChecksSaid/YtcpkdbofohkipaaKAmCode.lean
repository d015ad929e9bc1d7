/- AM, 16: what code does: regions, branches, loops; ghost steps; a function's contract out of its code's. -/
import Derived.Test.YtcpkdbofohkipaaKAmSound12
import Derived.Deep.LoopGhost
set_option linter.unusedVariables false
set_option linter.unusedSimpArgs false
set_option linter.unusedSimpArgs false
set_option linter.unusedVariables false
namespace Go.AM
variable {P : Program} {N : Nat} {E : Env} {tm : Tm} {a : Act}

/-! ### Ghost steps -/

/-- Some objects are let go. -/
def Sub (h' h : Hp) : Prop := ∀ id, h' id = h id ∨ h' id = .dead

theorem Sub.refl (h : Hp) : Sub h h := fun _ => .inl rfl
theorem Sub.trans {a b c : Hp} (h : Sub a b) (k : Sub b c) : Sub a c := fun id => by
  rcases h id with h1 | h1
  · rcases k id with h2 | h2
    · exact .inl (h1.trans h2)
    · exact .inr (h1.trans h2)
  · exact .inr h1
theorem Sub.fresh {h' h : Hp} {id : Nat} {o : AObj} (k : Sub h' h) (hd : h' id = .dead) : Sub h' (hset h id o) := fun i => by
  by_cases e : i = id
  · subst e; exact .inr hd
  · simp only [hset, if_neg e]; exact k i
theorem Sub.set {h' h : Hp} {id : Nat} {o : AObj} (k : Sub h' h) : Sub (hset h' id o) (hset h id o) := fun i => by
  by_cases e : i = id
  · subst e; simp [hset]
  · simp only [hset, if_neg e]; exact k i
theorem Sub.kill {h : Hp} {id : Nat} : Sub (hset h id .dead) h := fun i => by
  by_cases e : i = id
  · subst e; simp [hset]
  · simp [hset, e]
theorem Sub.dead {h' h : Hp} (k : Sub h' h) {id : Nat} (hd : h id = .dead) : h' id = .dead := by
  rcases k id with h1 | h1
  · exact h1.trans hd
  · exact h1

/-- A value as it reads when some arrays are let go. -/
inductive Frz (h h' : Hp) : AV → AV → Prop
  | same (v : AV) : Frz h h' v v
  | sl (id off len e sz : Nat) (xs : List (List AV)) (hh : h id = .arr e sz xs) (hle : off + len ≤ xs.length) (hd : h' id = .dead) (ys : List (List AV)) (hl : ys.length = len)
      (hly : ∀ (i : Nat) (x y : List AV), xs[off + i]? = some x → ys[i]? = some y → y.length = x.length)
      (hy : ∀ (i : Nat) (x y : List AV) (j : Nat) (c d : AV), xs[off + i]? = some x → ys[i]? = some y → x[j]? = some c → y[j]? = some d → Frz h h' c d) : Frz h h' (.sl id off len) (.fz ys)
  | agg (cs ds : List AV) (hl : ds.length = cs.length) (hy : ∀ (j : Nat) (c d : AV), cs[j]? = some c → ds[j]? = some d → Frz h h' c d) : Frz h h' (.agg cs) (.agg ds)
  | tup (cs ds : List AV) (hl : ds.length = cs.length) (hy : ∀ (j : Nat) (c d : AV), cs[j]? = some c → ds[j]? = some d → Frz h h' c d) : Frz h h' (.tup cs) (.tup ds)

theorem Frz.one {h h' : Hp} {c d : AV} (k : Frz h h' c d) : d.one = c.one := by cases k <;> rfl

theorem Frz.rel (hs : Sim E) {h' : Hp} (hsub : Sub h' E.h) {r r' : AV} (k : Frz E.h h' r r') : ∀ {v : Value}, Rel E r v → Rel { E with h := h' } r' v := by
  obtain ⟨hx, hs'⟩ := forget' hs hsub
  induction k with
  | same v => exact fun h => hx.rel _ _ h
  | sl id off len e sz xs hh hle hd ys hl hly hy ih =>
    intro v hv
    have hfz := freeze_rel hs hh hle hsub hd hv
    obtain ⟨b, cap, blk, o, sz', us, e1, hb, hcap, hsz, h1, hc, hr⟩ := hfz.fz_inv
    have hln : ((xs.drop off).take len).length = len := by simp; omega
    have hget : ∀ i x, xs[off + i]? = some x → i < len → ((xs.drop off).take len)[i]? = some x := fun i x hx' hi => by
      rw [List.getElem?_take, if_pos hi, List.getElem?_drop]; exact hx'
    have hxi : ∀ i, i < len → ∃ x, xs[off + i]? = some x := fun i hi => ⟨_, List.getElem?_eq_getElem (by omega)⟩
    -- the cells' own values, in the old environment
    obtain ⟨us0, hb0, hl0, hxk, hkm, hpos, hlen0, hone0, huo0, hru0⟩ := arr_row hs hh
    obtain ⟨b', cap', e1', hn', hp'⟩ := hv.sl_inv
    obtain ⟨q1, q2, q3⟩ := hp' e sz xs hh
    have hdd : E.h id ≠ .dead := by rw [hh]; simp
    rw [e1', ← hl]
    refine .fz ys b' cap' (E.ι id) (off * sz) sz (fun i j => us0.getD ((off + i) * sz + j) undef) (fun hne => ?_) (by omega) (fun y hy' => ?_) (fun y hy' c hc' => ?_) (fun i y j d hyi hj => ?_) (fun i y j d hyi hj => ?_)
    · have hpos' : 0 < ys.length := List.length_pos_iff.2 hne
      refine ⟨?_, fun hlv => ?_, hs.lt id hdd⟩
      · rcases q3 with ⟨_, h5⟩ | h5
        · omega
        · exact h5
      · obtain ⟨i, hi1, hi2⟩ := hlv
        have hi1' : h' i ≠ .dead := hi1
        have : E.h i ≠ .dead := by
          rcases hsub i with h | h
          · exact h ▸ hi1'
          · exact absurd h hi1'
        have := hs.inj i id this hdd hi2
        subst this
        exact hi1' hd
    · obtain ⟨i, hi⟩ := List.getElem?_of_mem hy'
      have hil : i < len := by rw [← hl]; exact (List.getElem?_eq_some_iff.1 hi).1
      obtain ⟨x, hx'⟩ := hxi i hil
      rw [hly i x y hx' hi]
      exact hlen0 x (List.mem_of_getElem? hx')
    · obtain ⟨i, hi⟩ := List.getElem?_of_mem hy'
      obtain ⟨j, hj⟩ := List.getElem?_of_mem hc'
      have hil : i < len := by rw [← hl]; exact (List.getElem?_eq_some_iff.1 hi).1
      obtain ⟨x, hx'⟩ := hxi i hil
      have hjl : j < x.length := by rw [← hly i x y hx' hi]; exact (List.getElem?_eq_some_iff.1 hj).1
      have hxj : x[j]? = some x[j] := List.getElem?_eq_getElem hjl
      rw [(hy i x y j _ c hx' hi hxj hj).one]
      exact hone0 x (List.mem_of_getElem? hx') _ (List.getElem_mem hjl)
    · have hil : i < len := by rw [← hl]; exact (List.getElem?_eq_some_iff.1 hyi).1
      obtain ⟨x, hx'⟩ := hxi i hil
      have hjl : j < x.length := by rw [← hly i x y hx' hyi]; exact (List.getElem?_eq_some_iff.1 hj).1
      obtain ⟨u, hu, hr'⟩ := hru0 (off + i) x j _ hx' (List.getElem?_eq_getElem hjl)
      show E.w.cell? _ = _
      rw [cell_row hb0]
      have e : off * sz + i * sz + j = (off + i) * sz + j := by rw [Nat.add_mul]
      rw [e, hu]
      simp [List.getD, hu]
    · have hil : i < len := by rw [← hl]; exact (List.getElem?_eq_some_iff.1 hyi).1
      obtain ⟨x, hx'⟩ := hxi i hil
      have hjl : j < x.length := by rw [← hly i x y hx' hyi]; exact (List.getElem?_eq_some_iff.1 hj).1
      have hxj : x[j]? = some x[j] := List.getElem?_eq_getElem hjl
      obtain ⟨u, hu, hr'⟩ := hru0 (off + i) x j _ hx' hxj
      simp only [List.getD, hu, Option.getD_some]
      exact ih i x y j _ d hx' hyi hxj hj hr'
  | agg cs ds hl hy ih =>
    intro v hv
    obtain ⟨us, rfl, hul, h1, hr⟩ := hv.agg_inv
    have hcd : ∀ j d, ds[j]? = some d → ∃ c, cs[j]? = some c := fun j d hd => ⟨_, List.getElem?_eq_getElem (by rw [← hl]; exact (List.getElem?_eq_some_iff.1 hd).1)⟩
    refine .agg ds us (by omega) (fun d hd => ?_) (fun j d u hd hu => ?_)
    · obtain ⟨j, hj⟩ := List.getElem?_of_mem hd
      obtain ⟨c, hc⟩ := hcd j d hj
      rw [(hy j c d hc hj).one]
      exact h1 c (List.mem_of_getElem? hc)
    · obtain ⟨c, hc⟩ := hcd j d hd
      exact ih j c d hc hd (hr.2 j c u hc hu)
  | tup cs ds hl hy ih =>
    intro v hv
    obtain ⟨us, rfl, hr⟩ := hv.tup_inv
    have hcd : ∀ j d, ds[j]? = some d → ∃ c, cs[j]? = some c := fun j d hd => ⟨_, List.getElem?_eq_getElem (by rw [← hl]; exact (List.getElem?_eq_some_iff.1 hd).1)⟩
    refine .tup ds us (by rw [hr.1, hl]) (fun j d u hd hu => ?_)
    obtain ⟨c, hc⟩ := hcd j d hd
    exact ih j c d hc hd (hr.2 j c u hc hu)

/-- A ghost step of a state: objects let go, slots that read anew. -/
def Gho (tm : Tm) (h : Hp) (tm' : Tm) (h' : Hp) : Prop := Sub h' h ∧ ∀ t, Frz h h' (tm t) (tm' t)

theorem Gho.refl (tm : Tm) (h : Hp) : Gho tm h tm h := ⟨Sub.refl h, fun _ => .same _⟩
theorem Gho.sub {tm : Tm} {h h' : Hp} (k : Sub h' h) : Gho tm h tm h' := ⟨k, fun _ => .same _⟩

theorem Gho.sound (hs : Sim E) (ht : TmRel E N tm a) {tm' : Tm} {h' : Hp} (k : Gho tm E.h tm' h') : Sim { E with h := h' } ∧ Ext E { E with h := h' } ∧ TmRel { E with h := h' } N tm' a := by
  obtain ⟨hx, hs'⟩ := forget' hs k.1
  exact ⟨hs', hx, ht.size, ht.defers, fun t htN => (k.2 t).rel hs k.1 (ht.rel t htN)⟩

/-! ### Regions whose order is fixed -/

/-- What a guard says. -/
def gval : AV → Option (Option Bool)
  | .bool b => some (some b)
  | .tup _ => some none
  | _ => none

def AOps (P : Program) : List AIns → (Tm → Hp → Prop) → Tm → Hp → Prop
  | [], K, tm, h => K tm h
  | i :: l, K, tm, h =>
    match i.guard with
    | none => AStep P i.op (fun v h' => AOps P l K (updO tm i.dst v) h') tm h
    | some (g, want) =>
      match gval (tm g) with
      | some b => if b = some want then AStep P i.op (fun v h' => AOps P l K (updO tm i.dst v) h') tm h else AOps P l K (updO tm i.dst .undef) h
      | none => False

/-- Operations and what they are compiled to. -/
inductive Aligned (P : Program) (N : Nat) (ops : Array Oper) : List Nat → List AIns → Prop
  | nil : Aligned P N ops [] []
  | cons (i : Nat) (is : List Nat) (o : Oper) (ai : AIns) (l : List AIns) (ho : ops[i]? = some o) (hc : cIns P N ops o = some ai) (h : Aligned P N ops is l) : Aligned P N ops (i :: is) (ai :: l)

theorem cIns_inv {ops : Array Oper} {o : Oper} {ai : AIns} (h : cIns P N ops o = some ai) : cOp P N o.op = some ai.op ∧ o.dst = ai.dst ∧ (∀ t, ai.dst = some t → t < N) ∧
    (match ai.guard with | none => o.guard = none | some (g, b) => ∃ j, o.guard = some (j, b) ∧ (ops[j]?).bind (·.dst) = some g ∧ g < N) := by
  simp only [cIns, Option.bind_eq_some_iff, Option.map_eq_some_iff] at h
  obtain ⟨op, hop, d, hd, g, hg, rfl⟩ := h
  refine ⟨hop, ?_, ?_, ?_⟩
  · cases ho : o.dst with
    | none => rw [ho] at hd; simp at hd; exact hd
    | some t => rw [ho] at hd; simp at hd; simp [← hd.2]
  · intro t ht
    cases ho : o.dst with
    | none => rw [ho] at hd; simp at hd; subst hd; simp at ht
    | some t' =>
      rw [ho] at hd
      simp at hd
      obtain ⟨h5, h6⟩ := hd
      subst h6
      simp at ht
      exact ht ▸ h5
  · cases ho : o.guard with
    | none => rw [ho] at hg; simp at hg; subst hg; rfl
    | some p =>
      obtain ⟨j, b⟩ := p
      rw [ho] at hg
      simp only at hg
      split at hg
      · rename_i g' hg'
        split at hg
        · rename_i hlt
          simp at hg
          subst hg
          exact ⟨j, rfl, hg', hlt⟩
        · cases hg
      · cases hg

theorem guard_wanted {ops : Array Oper} {o : Oper} {ai : AIns} (h : cIns P N ops o = some ai) (ht : TmRel E N tm a) {g : Nat} {want : Bool} {b : Option Bool} (hg : ai.guard = some (g, want)) (hb : gval (tm g) = some b) : Region.wanted o (yielded ops a.tmps) = (b == some want) := by
  obtain ⟨_, _, _, h4⟩ := cIns_inv h
  rw [hg] at h4
  obtain ⟨j, h5, h6, h7⟩ := h4
  have hr := ht.rel g h7
  have hsz : g < a.tmps.size := by rw [ht.size]; exact h7
  have hd : a.tmps.getD g Go.undef = a.tmps[g] := by rw [Array.getD_eq_getD_getElem?, Array.getElem?_eq_getElem hsz]; rfl
  rw [hd] at hr
  have hget : a.tmps[g]? = some a.tmps[g] := Array.getElem?_eq_getElem hsz
  simp only [Region.wanted, h5, yielded, h6, hget, Option.bind_some]
  generalize a.tmps[g] = v at hr
  cases hv : tm g with
  | bool b' =>
    rw [hv] at hr hb
    have := hr.bool_inv
    subst this
    cases hb
    rfl
  | tup l =>
    rw [hv] at hr hb
    cases hb
    cases hr
    rfl
  | _ => rw [hv] at hb; cases hb

theorem none_wanted {ops : Array Oper} {o : Oper} {ai : AIns} (h : cIns P N ops o = some ai) (hg : ai.guard = none) (y : Nat → Option Bool) : Region.wanted o y = true := by
  obtain ⟨_, _, _, h4⟩ := cIns_inv h
  rw [hg] at h4
  simp [Region.wanted, h4]

theorem ops_sound {ops : Array Oper} {Q : Exit → Act → World → Prop} {K : Tm → Hp → Prop} {is : List Nat} {l : List AIns} (hal : Aligned P N ops is l) : ∀ {E : Env} {tm : Tm} {a : Act}, Sim E → TmRel E N tm a → AOps P l K tm E.h →
    (∀ E' tm' a', Sim E' → Ext E E' → TmRel E' N tm' a' → K tm' E'.h → Q .normal a' E'.w) → wpOps P ops Q is a E.w := by
  induction hal with
  | nil => intro E tm a hs ht h hk; exact hk E tm a hs (Ext.refl E) ht h
  | cons i is o ai l ho hc _ ih =>
    intro E tm a hs ht h hk
    obtain ⟨h1, h2, h3, _⟩ := cIns_inv hc
    have step : AStep P ai.op (fun v h' => AOps P l K (updO tm ai.dst v) h') tm E.h → o.wp P a E.w (wpOps P ops Q is) Q := fun hst =>
      step_sound hs h1 ht hst fun r v E' s' x' hr hq => by
        rw [h2]
        exact ih s' ((ht.mono x').put h3 hr) hq fun E'' tm' a' s'' x'' t'' k'' => hk E'' tm' a' s'' (x'.trans x'') t'' k''
    simp only [wpOps, ho]
    simp only [AOps] at h
    split at h
    · rename_i hg
      rw [none_wanted hc hg]
      exact .inl (step h)
    · rename_i g want hg
      split at h
      · rename_i b hb
        rw [guard_wanted hc ht hg hb]
        split at h
        · rename_i hbw
          simp only [hbw, beq_self_eq_true, if_true]
          exact .inl (step h)
        · rename_i hbw
          have : (b == some want) = false := by simpa using hbw
          simp only [this, Bool.false_eq_true, if_false]
          rw [h2]
          exact ih hs (ht.put h3 (Rel.undef E)) h hk
      · exact h.elim

def cOpsFrom (P : Program) (N : Nat) (ops : Array Oper) : List Oper → Option (List AIns)
  | [] => some []
  | o :: r => (cIns P N ops o).bind fun ai => (cOpsFrom P N ops r).map (ai :: ·)

theorem aligned_from (ops : Array Oper) : ∀ (l : List Oper) (k : Nat) (r : List AIns), (∀ j o, l[j]? = some o → ops[k + j]? = some o) → cOpsFrom P N ops l = some r → Aligned P N ops (List.range' k l.length) r := by
  intro l
  induction l with
  | nil => intro k r _ h; simp [cOpsFrom] at h; subst h; exact .nil
  | cons o l ih =>
    intro k r hg h
    simp only [cOpsFrom, Option.bind_eq_some_iff, Option.map_eq_some_iff] at h
    obtain ⟨ai, hai, r', hr', rfl⟩ := h
    rw [List.length_cons, List.range'_succ]
    refine .cons k _ o ai r' (hg 0 o rfl) hai (ih (k + 1) r' (fun j o' hj => ?_) hr')
    have := hg (j + 1) o' (by simpa using hj)
    rw [← this]
    congr 1
    omega

end Go.AM
