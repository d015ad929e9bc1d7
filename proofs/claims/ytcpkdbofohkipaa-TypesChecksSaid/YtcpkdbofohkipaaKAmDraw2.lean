/- AM, 19: regions whose order is open: the order is of no account. -/
import Derived.Test.YtcpkdbofohkipaaKAmDraw
set_option linter.unusedVariables false
set_option linter.unusedSimpArgs false
set_option linter.unusedSimpArgs false
set_option linter.unusedVariables false
namespace Go.AM
variable {P : Program} {N : Nat} {E : Env} {tm : Tm} {a : Act}

/-- What 'drawOK' says. -/
structure DFacts (P : Program) (N : Nat) (ops : Array Oper) (n : Nat) (bf : Nat → Nat) (ai : Nat → AIns) (eff : Nat → Bool) (ord : List Nat) (steps : List DStep) : Prop where
  size : ops.size = n
  ins : ∀ i, i < n → ∃ o, ops[i]? = some o ∧ cIns P N ops o = some (ai i)
  ordlen : ord.length = n
  all : ∀ i, i < n → ∃ q : Nat, ord[q]? = some i
  lt : ∀ (q i : Nat), ord[q]? = some i → i < n
  nodup : ∀ (q q' i : Nat), ord[q]? = some i → ord[q']? = some i → q = q'
  pred : ∀ (q i : Nat) (o : Oper), ord[q]? = some i → ops[i]? = some o → ∀ j ∈ preds o, ∃ q' : Nat, q' < q ∧ ord[q']? = some j
  later : ∀ (q i : Nat), ord[q]? = some i → eff i = true → ∀ (q' j : Nat), q < q' → ord[q']? = some j → (bf j).testBit i = true
  dsts : ∀ (i j d : Nat), i < n → j < n → i ≠ j → (ai i).dst = some d → (ai j).dst ≠ some d
  look : ∀ (i j d : Nat), i < n → j < n → i ≠ j → (ai i).dst = some d → d ∈ (ai j).looks → (bf j).testBit i = true ∨ (eff i = true ∧ (bf i).testBit j = true)
  own : ∀ (i d : Nat), i < n → eff i = false → (ai i).dst = some d → d ∉ (ai i).looks
  hasDst : ∀ i, i < n → eff i = false → ∃ d, (ai i).dst = some d
  clos : ∀ (i : Nat) (o : Oper) (j : Nat), i < n → ops[i]? = some o → (bf i).testBit j = true → j < n → j ∈ preds o ∨ ∃ k ∈ preds o, (bf k).testBit j = true
  quiet : ∀ i, i < n → eff i = false → isEff (fun _ => true) (ai i).op = false
  step : ∀ (q i : Nat), ord[q]? = some i → ∃ chk, steps[q]? = some ⟨ai i, eff i, chk⟩ ∧ (eff i = true → ∀ (q' j : Nat), q' < q → ord[q']? = some j → eff j = false → heapFree (ai j).op = false → (bf i).testBit j = false → ai j ∈ chk)
  steplen : steps.length = n

theorem stable_mem {l : List AIns} {tm : Tm} {h : Hp} (hst : Stable P l tm h) {c : AIns} (hc : c ∈ l) (hw : c.wants tm = some true) : QStep P c.op (match c.dst with | some t => tm t | none => .undef) tm h := by
  induction l with
  | nil => cases hc
  | cons x l ih =>
    rcases List.mem_cons.1 hc with h1 | h1
    · subst h1; exact hst.1 hw
    · exact ih hst.2 h1

theorem wants_congr {tm tm' : Tm} {c : AIns} (h : ∀ t ∈ c.looks, tm t = tm' t) : c.wants tm = c.wants tm' := by
  unfold AIns.wants
  split
  · rfl
  · rename_i g want hg
    rw [h g (by simp [AIns.looks, hg])]

theorem looks_op {c : AIns} {t : Nat} (h : t ∈ c.op.looks) : t ∈ c.looks := by simp [AIns.looks, h]

section
variable {ops : Array Oper} {n : Nat} {bf : Nat → Nat} {ai : Nat → AIns} {eff : Nat → Bool} {ord : List Nat} {steps : List DStep}

/-- Whatever an operation waits for stands before it. -/
theorem DFacts.before (F : DFacts P N ops n bf ai eff ord steps) : ∀ (q i j : Nat), ord[q]? = some i → (bf i).testBit j = true → j < n → ∃ q' : Nat, q' < q ∧ ord[q']? = some j := by
  intro q
  induction q using Nat.strongRecOn with
  | _ q ih =>
    intro i j hi hj hjn
    have hin := F.lt q i hi
    obtain ⟨o, ho, _⟩ := F.ins i hin
    rcases F.clos i o j hin ho hj hjn with h | ⟨k, hk, hkj⟩
    · exact F.pred q i o hi ho j h
    · obtain ⟨q'', hlt, hq''⟩ := F.pred q i o hi ho k hk
      obtain ⟨q', h1, h2⟩ := ih q'' hlt k j hq'' hkj hjn
      exact ⟨q', by omega, h2⟩

open Classical in
/-- The slots as they are while some operations are still to come. -/
noncomputable def cur (ai : Nat → AIns) (ord : List Nat) (p : Nat) (L : Nat → Prop) (tm0 tmp : Tm) : Tm := fun t =>
  if ∃ (q i : Nat), q < p ∧ ord[q]? = some i ∧ (ai i).dst = some t ∧ ¬ L i then tm0 t else tmp t

structure DInv (P : Program) (N n : Nat) (bf : Nat → Nat) (ai : Nat → AIns) (eff : Nat → Bool) (ord : List Nat) (steps : List DStep) (K : Tm → Hp → Prop) (tm0 : Tm) (L : Nat → Prop) (p : Nat) (tmp : Tm) (E : Env) (a : Act) : Prop where
  hp : p ≤ n
  done : ∀ (q i : Nat), q < p → ord[q]? = some i → eff i = true → L i
  undone : ∀ (q i : Nat), p ≤ q → ord[q]? = some i → ¬ L i
  closed : ∀ i, i < n → L i → ∀ j, j < n → (bf i).testBit j = true → L j
  rest : DOps P (steps.drop p) K tmp E.h
  sim : Sim E
  rel : TmRel E N (cur ai ord p L tm0 tmp) a
  fresh : ∀ t, (∀ (q i : Nat), q < p → ord[q]? = some i → (ai i).dst ≠ some t) → tmp t = tm0 t
  pend : ∀ (q i : Nat), q < p → ord[q]? = some i → ¬ L i → ∃ d, (ai i).dst = some d ∧ (((ai i).wants tmp = some true ∧ QStep P (ai i).op (tmp d) tmp E.h) ∨ ((ai i).wants tmp = some false ∧ tmp d = .undef))

variable {K : Tm → Hp → Prop} {tm0 : Tm} {L : Nat → Prop} {p : Nat} {tmp : Tm}

/-- One step further where nothing is written. -/
theorem DInv.advance (F : DFacts P N ops n bf ai eff ord steps) (I : DInv P N n bf ai eff ord steps K tm0 L p tmp E a) (hp : p < n) {i : Nat} (hi : ord[p]? = some i) (he : eff i = false) : ∃ tmp', DInv P N n bf ai eff ord steps K tm0 L (p + 1) tmp' E a := by
  have hin := F.lt p i hi
  obtain ⟨chk, hst, _⟩ := F.step p i hi
  obtain ⟨d, hd⟩ := F.hasDst i hin he
  have hdrop : steps.drop p = ⟨ai i, eff i, chk⟩ :: steps.drop (p + 1) := by
    rw [List.drop_eq_getElem_cons (by rw [F.steplen]; exact hp)]
    congr 1
    have := (List.getElem?_eq_some_iff.1 hst).2
    exact this
  have hrest := I.rest
  rw [hdrop] at hrest
  simp only [DOps, he, Bool.false_eq_true, if_false] at hrest
  -- the rest of the proof, given the value
  have fin : ∀ v, DOps P (steps.drop (p + 1)) K (updO tmp (ai i).dst v) E.h → (((ai i).wants tmp = some true ∧ QStep P (ai i).op v tmp E.h) ∨ ((ai i).wants tmp = some false ∧ v = .undef)) → ∃ tmp', DInv P N n bf ai eff ord steps K tm0 L (p + 1) tmp' E a := by
    intro v hv hval
    have hnL : ¬ L i := I.undone p i (Nat.le_refl _) hi
    have htd : ∀ t, t ≠ d → updO tmp (ai i).dst v t = tmp t := fun t ht => by simp [hd, updO, upd, ht]
    have hagree : ∀ (q j : Nat), q < p → ord[q]? = some j → ∀ t ∈ (ai j).looks, tmp t = updO tmp (ai i).dst v t := by
      intro q j hq hj t ht
      by_cases e : t = d
      · subst e
        exfalso
        have hjn := F.lt q j hj
        have hne : i ≠ j := fun e => by
          subst e
          have := F.nodup p q i hi hj
          omega
        rcases F.look i j t hin hjn hne hd ht with h | ⟨h, _⟩
        · obtain ⟨q', h1, h2⟩ := F.before q j i hj h hin
          have := F.nodup p q' i hi h2
          omega
        · rw [he] at h; cases h
      · exact (htd t e).symm
    have hownl : ∀ t ∈ (ai i).looks, tmp t = updO tmp (ai i).dst v t := fun t ht => (htd t (fun e => by subst e; exact F.own i t hin he hd ht)).symm
    refine ⟨updO tmp (ai i).dst v, by omega, fun q j hq hj hej => ?_, fun q j hq hj => I.undone q j (by omega) hj, I.closed, hv, I.sim, ?_, fun t ht => ?_, fun q j hq hj hnl => ?_⟩
    · by_cases e : q = p
      · subst e; rw [hi] at hj; cases hj; rw [he] at hej; cases hej
      · exact I.done q j (by omega) hj hej
    · -- the slots
      have hcur : cur ai ord (p + 1) L tm0 (updO tmp (ai i).dst v) = cur ai ord p L tm0 tmp := by
        funext t
        unfold cur
        by_cases e : t = d
        · subst e
          rw [if_pos ⟨p, i, by omega, hi, hd, hnL⟩]
          rw [if_neg]
          · exact (I.fresh t fun q j hq hj hdj => F.dsts i j t hin (F.lt q j hj) (fun e => by
              subst e
              have := F.nodup p q i hi hj
              omega) hd hdj).symm
          · rintro ⟨q, j, hq, hj, hdj, _⟩
            exact F.dsts i j t hin (F.lt q j hj) (fun e => by
              subst e
              have := F.nodup p q i hi hj
              omega) hd hdj
        · by_cases h : ∃ (q j : Nat), q < p ∧ ord[q]? = some j ∧ (ai j).dst = some t ∧ ¬ L j
          · rw [if_pos h]
            obtain ⟨q, j, h1, h2⟩ := h
            rw [if_pos ⟨q, j, by omega, h2⟩]
          · rw [if_neg h]
            rw [if_neg, htd t e]
            rintro ⟨q, j, h1, h2, h3, h4⟩
            by_cases e2 : q = p
            · subst e2; rw [hi] at h2; cases h2; rw [hd] at h3; cases h3; exact e rfl
            · exact h ⟨q, j, by omega, h2, h3, h4⟩
      rw [hcur]
      exact I.rel
    · have htd' : t ≠ d := fun e => by subst e; exact ht p i (by omega) hi hd
      rw [htd t htd']
      exact I.fresh t fun q j hq hj => ht q j (by omega) hj
    · by_cases e : q = p
      · subst e
        rw [hi] at hj
        cases hj
        refine ⟨d, hd, ?_⟩
        have hvd : updO tmp (ai i).dst v d = v := by simp [hd, updO, upd]
        rw [hvd, ← wants_congr hownl]
        rcases hval with ⟨h1, h2⟩ | ⟨h1, h2⟩
        · exact .inl ⟨h1, by rw [← QStep_congr (P := P) (fun t ht => hownl t (looks_op ht))]; exact h2⟩
        · exact .inr ⟨h1, h2⟩
      · have hqp : q < p := by omega
        obtain ⟨d', hd', hp'⟩ := I.pend q j hqp hj hnl
        have hne : i ≠ j := fun e => by
          subst e
          have := F.nodup p q i hi hj
          omega
        have hdd : d' ≠ d := fun e => by subst e; exact F.dsts i j d' hin (F.lt q j hj) hne hd hd'
        refine ⟨d', hd', ?_⟩
        rw [htd d' hdd, ← wants_congr (hagree q j hqp hj)]
        rcases hp' with ⟨h1, h2⟩ | ⟨h1, h2⟩
        · exact .inl ⟨h1, by rw [← QStep_congr (P := P) (fun t ht => hagree q j hqp hj t (looks_op ht))]; exact h2⟩
        · exact .inr ⟨h1, h2⟩
  split at hrest
  · rename_i hw
    obtain ⟨v, hq, hv⟩ := QRun.step hrest
    exact fin v hv (.inl ⟨hw, hq⟩)
  · rename_i hw
    exact fin .undef hrest (.inr ⟨hw, rfl⟩)
  · exact hrest.elim

/-- As far as nothing is written. -/
theorem DInv.advanceAll (F : DFacts P N ops n bf ai eff ord steps) : ∀ (m p : Nat) (tmp : Tm), n - p ≤ m → DInv P N n bf ai eff ord steps K tm0 L p tmp E a → ∃ p' tmp', DInv P N n bf ai eff ord steps K tm0 L p' tmp' E a ∧ ∀ i : Nat, ord[p']? = some i → eff i = true := by
  intro m
  induction m with
  | zero =>
    intro p tmp hm I
    exact ⟨p, tmp, I, fun i hi => by
      have : p < ord.length := (List.getElem?_eq_some_iff.1 hi).1
      rw [F.ordlen] at this
      omega⟩
  | succ m ih =>
    intro p tmp hm I
    by_cases hp : p < n
    · have hi : ord[p]? = some (ord[p]'(by rw [F.ordlen]; exact hp)) := List.getElem?_eq_getElem _
      by_cases he : eff (ord[p]'(by rw [F.ordlen]; exact hp)) = true
      · exact ⟨p, tmp, I, fun i hi' => by rw [hi] at hi'; cases hi'; exact he⟩
      · obtain ⟨tmp', I'⟩ := I.advance F hp hi (by simpa using he)
        exact ih (p + 1) tmp' (by omega) I'
    · exact ⟨p, tmp, I, fun i hi => by
        have : p < ord.length := (List.getElem?_eq_some_iff.1 hi).1
        rw [F.ordlen] at this
        omega⟩

/-- The slots that a ready operation looks at are as they should be. -/
theorem DInv.looks (F : DFacts P N ops n bf ai eff ord steps) (I : DInv P N n bf ai eff ord steps K tm0 L p tmp E a) {i : Nat} (hin : i < n) (hb : ∀ j, j < n → (bf i).testBit j = true → L j) (hown : eff i = true ∨ (∀ d, (ai i).dst = some d → d ∉ (ai i).looks)) (hq0 : eff i = true → ∀ q : Nat, ord[q]? = some i → p ≤ q) :
    ∀ t ∈ (ai i).looks, cur ai ord p L tm0 tmp t = tmp t := by
  intro t ht
  unfold cur
  rw [if_neg]
  rintro ⟨q, j, hq, hj, hd, hnl⟩
  have hjn := F.lt q j hj
  by_cases e : j = i
  · subst e
    rcases hown with h | h
    · have := hq0 h q hj
      omega
    · exact h t hd ht
  · rcases F.look j i t hjn hin e hd ht with h | ⟨h, _⟩
    · exact hnl (hb j hjn h)
    · exact hnl (I.done q j hq hj h)

/-- The slots behind an operation's value. -/
theorem TmRel.put' {E : Env} {N : Nat} {tm tm' : Tm} {a : Act} (h : TmRel E N tm a) {d : Option Nat} (hd : ∀ t, d = some t → t < N) {r : AV} {v : Value} (hr : Rel E r v) (he : tm' = updO tm d r) : TmRel E N tm' (a.put d v) := he ▸ h.put hd hr

/-- AN OPERATION THAT IS READY, whichever. -/
theorem DInv.ready (F : DFacts P N ops n bf ai eff ord steps) {Q : Exit → Act → World → Prop} (I : DInv P N n bf ai eff ord steps K tm0 L p tmp E a) (hnext : ∀ i : Nat, ord[p]? = some i → eff i = true) {i : Nat} (hin : i < n) (hnL : ¬ L i) (hb : ∀ j, j < n → (bf i).testBit j = true → L j) {next : Act → World → Prop}
    (hk : ∀ (p' : Nat) (tmp' : Tm) (E' : Env) (a' : Act), DInv P N n bf ai eff ord steps K tm0 (fun j => L j ∨ j = i) p' tmp' E' a' → (∀ j : Nat, ord[p']? = some j → eff j = true) → Ext E E' → next a' E'.w) : wpOp P ops Q i next a E.w := by
  obtain ⟨o, ho, hc⟩ := F.ins i hin
  obtain ⟨q, hq⟩ := F.all i hin
  obtain ⟨hcop, hcd, hcN, _⟩ := cIns_inv hc
  have hclosed : ∀ k, k < n → (L k ∨ k = i) → ∀ j, j < n → (bf k).testBit j = true → (L j ∨ j = i) := by
    intro k hk' hL j hj hkj
    rcases hL with h | h
    · exact .inl (I.closed k hk' h j hj hkj)
    · subst h; exact .inl (hb j hj hkj)
  by_cases hqp : p ≤ q
  · -- it is the next of those that write
    have hqe : q = p := by
      rcases Nat.eq_or_lt_of_le hqp with h | h
      · exact h.symm
      · exfalso
        have hpn : p < ord.length := by have := (List.getElem?_eq_some_iff.1 hq).1; omega
        have hi0 : ord[p]? = some (ord[p]) := List.getElem?_eq_getElem hpn
        have he0 := hnext _ hi0
        have := F.later p _ hi0 he0 q i h hq
        exact I.undone p _ (Nat.le_refl _) hi0 (hb _ (F.lt p _ hi0) this)
    subst hqe
    have he := hnext i hq
    have hqn : q < n := by have := (List.getElem?_eq_some_iff.1 hq).1; rw [F.ordlen] at this; exact this
    obtain ⟨chk, hst, hchk⟩ := F.step q i hq
    have hdrop : steps.drop q = ⟨ai i, eff i, chk⟩ :: steps.drop (q + 1) := by
      rw [List.drop_eq_getElem_cons (by rw [F.steplen]; exact hqn)]
      congr 1
      exact (List.getElem?_eq_some_iff.1 hst).2
    have hrest := I.rest
    rw [hdrop] at hrest
    simp only [DOps, he, if_true] at hrest
    have hlk := I.looks F hin hb (.inl he) (fun _ q' hq' => by have := F.nodup q q' i hq hq'; omega)
    -- behind it
    have fin : ∀ (r : AV) (v : Value) (E' : Env), Sim E' → Ext E E' → Rel E' r v → DOps P (steps.drop (q + 1)) K (updO tmp (ai i).dst r) E'.h →
        (∀ (q' j : Nat), q' < q → ord[q']? = some j → ¬ L j → ∀ d, (ai j).dst = some d → (ai j).wants (updO tmp (ai i).dst r) = some true → QStep P (ai j).op (tmp d) (updO tmp (ai i).dst r) E'.h) → next (a.put o.dst v) E'.w := by
      intro r v E' s' x' hr hrest' hst'
      have hother : ∀ (q' j : Nat), q' < q → ord[q']? = some j → j ≠ i := fun q' j h1 h2 e => by
        subst e
        have := F.nodup q q' j hq h2
        omega
      have htmp : ∀ (q' j : Nat), q' < q → ord[q']? = some j → ∀ d, (ai j).dst = some d → updO tmp (ai i).dst r d = tmp d := by
        intro q' j h1 h2 d hd
        cases hdi : (ai i).dst with
        | none => rfl
        | some d' =>
          have : d ≠ d' := fun e => by subst e; exact F.dsts j i d (F.lt q' j h2) hin (hother q' j h1 h2) hd hdi
          simp [updO, upd, this]
      have hagree : ∀ (q' j : Nat), q' < q → ord[q']? = some j → ¬ L j → ∀ t ∈ (ai j).looks, tmp t = updO tmp (ai i).dst r t := by
        intro q' j h1 h2 h3 t ht
        cases hdi : (ai i).dst with
        | none => rfl
        | some d' =>
          by_cases e : t = d'
          · subst e
            exfalso
            have hjn := F.lt q' j h2
            rcases F.look i j t hin hjn (fun e => hother q' j h1 h2 e.symm) hdi ht with h | ⟨_, h⟩
            · obtain ⟨q'', h4, h5⟩ := F.before q' j i h2 h hin
              have := F.nodup q q'' i hq h5
              omega
            · exact h3 (hb j hjn h)
          · simp [updO, upd, e]
      have I' : DInv P N n bf ai eff ord steps K tm0 (fun j => L j ∨ j = i) (q + 1) (updO tmp (ai i).dst r) E' (a.put o.dst v) := by
        refine ⟨by omega, fun q' j h1 h2 h3 => ?_, fun q' j h1 h2 => ?_, hclosed, hrest', s', ?_, fun t ht => ?_, fun q' j h1 h2 h3 => ?_⟩
        · by_cases e : q' = q
          · subst e; rw [hq] at h2; cases h2; exact .inr rfl
          · exact .inl (I.done q' j (by omega) h2 h3)
        · rintro (h | h)
          · exact I.undone q' j (by omega) h2 h
          · subst h
            have := F.nodup q q' j hq h2
            omega
        · rw [hcd]
          refine (I.rel.mono x').put' hcN hr ?_
          funext t
          unfold cur
          by_cases h : ∃ (q' j : Nat), q' < q ∧ ord[q']? = some j ∧ (ai j).dst = some t ∧ ¬ L j
          · obtain ⟨q', j, h1, h2, h3, h4⟩ := h
            rw [if_pos ⟨q', j, by omega, h2, h3, fun h => h.elim h4 (hother q' j h1 h2)⟩]
            cases hdi : (ai i).dst with
            | none => simp only [updO]; rw [if_pos ⟨q', j, h1, h2, h3, h4⟩]
            | some d' =>
              have : t ≠ d' := fun e => by subst e; exact F.dsts j i t (F.lt q' j h2) hin (hother q' j h1 h2) h3 hdi
              simp only [updO, upd, if_neg this]
              rw [if_pos ⟨q', j, h1, h2, h3, h4⟩]
          · rw [if_neg]
            · cases hdi : (ai i).dst with
              | none => simp only [updO]; rw [if_neg h]
              | some d' =>
                simp only [updO, upd]
                split
                · rfl
                · first | rfl | (rw [if_neg h])
            · rintro ⟨q', j, h1, h2, h3, h4⟩
              by_cases e : q' = q
              · subst e; rw [hq] at h2; cases h2; exact h4 (.inr rfl)
              · exact h ⟨q', j, by omega, h2, h3, fun h5 => h4 (.inl h5)⟩
        · have h1 : (ai i).dst ≠ some t := ht q i (by omega) hq
          have h2 : updO tmp (ai i).dst r t = tmp t := by
            cases hdi : (ai i).dst with
            | none => rfl
            | some d' =>
              have : t ≠ d' := fun e => by subst e; exact h1 hdi
              simp [updO, upd, this]
          rw [h2]
          exact I.fresh t fun q' j h3 h4 => ht q' j (by omega) h4
        · have hnl : ¬ L j := fun h => h3 (.inl h)
          have hne : q' ≠ q := fun e => by subst e; rw [hq] at h2; cases h2; exact h3 (.inr rfl)
          obtain ⟨d, hd, hp'⟩ := I.pend q' j (by omega) h2 hnl
          refine ⟨d, hd, ?_⟩
          rw [htmp q' j (by omega) h2 d hd]
          have hw : (ai j).wants (updO tmp (ai i).dst r) = (ai j).wants tmp := (wants_congr (hagree q' j (by omega) h2 hnl)).symm
          rcases hp' with ⟨h4, h5⟩ | ⟨h4, h5⟩
          · exact .inl ⟨hw.trans h4, hst' q' j (by omega) h2 hnl d hd (hw.trans h4)⟩
          · exact .inr ⟨hw.trans h4, h5⟩
      obtain ⟨p'', tmp'', I'', hn''⟩ := DInv.advanceAll F n (q + 1) _ (by omega) I'
      exact hk p'' tmp'' E' _ I'' hn'' x'
    unfold wpOp
    rw [ho]
    simp only
    split at hrest
    · rename_i hw
      have hwant : Region.wanted o (yielded ops a.tmps) = true := by
        unfold AIns.wants at hw
        split at hw
        · rename_i hg; exact none_wanted hc hg _
        · rename_i g want hg
          obtain ⟨b, hbb, hw⟩ := Option.map_eq_some_iff.1 hw
          rw [guard_wanted hc I.rel hg (b := b) (by rw [hlk g (by simp [AIns.looks, hg])]; exact hbb)]
          exact hw
      rw [if_pos hwant]
      refine .inl (step_sound I.sim hcop I.rel (K := fun v h' => Stable P chk (updO tmp (ai i).dst v) h' ∧ DOps P (steps.drop (q + 1)) K (updO tmp (ai i).dst v) h') ?_ ?_)
      · rw [AStep_congr (P := P) (fun t ht => hlk t (looks_op ht))]; exact hrest
      · intro r v E' s' x' hr ⟨hst1, hst2⟩
        refine fin r v E' s' x' hr hst2 fun q' j h1 h2 h3 d hd hwj => ?_
        have hjn := F.lt q' j h2
        have hej : eff j = false := by
          cases hej : eff j with
          | false => rfl
          | true => exact absurd (I.done q' j h1 h2 hej) h3
        have hji : j ≠ i := fun e => by
          subst e
          have := F.nodup q q' j hq h2
          omega
        have hagree : ∀ t ∈ (ai j).looks, tmp t = updO tmp (ai i).dst r t := by
          intro t ht
          cases hdi : (ai i).dst with
          | none => rfl
          | some d' =>
            by_cases e : t = d'
            · subst e
              exfalso
              rcases F.look i j t hin hjn (fun e => hji e.symm) hdi ht with h | ⟨_, h⟩
              · obtain ⟨q'', h4, h5⟩ := F.before q' j i h2 h hin
                have := F.nodup q q'' i hq h5
                omega
              · exact h3 (hb j hjn h)
            · simp [updO, upd, e]
        have hnb : (bf i).testBit j = false := by
          cases hbit : (bf i).testBit j with
          | false => rfl
          | true => exact absurd (hb j hjn hbit) h3
        have htd : updO tmp (ai i).dst r d = tmp d := by
          cases hdi : (ai i).dst with
          | none => rfl
          | some d' =>
            have : d ≠ d' := fun e => by subst e; exact F.dsts j i d hjn hin hji hd hdi
            simp [updO, upd, this]
        by_cases hf : heapFree (ai j).op = true
        · obtain ⟨d2, hd2, hp2⟩ := I.pend q' j h1 h2 h3
          rw [hd] at hd2
          cases hd2
          rcases hp2 with ⟨_, h5⟩ | ⟨h4, _⟩
          · rw [← QStep_congr (P := P) (fun t ht => hagree t (looks_op ht)), ← QStep_heapFree (h := E.h) hf]
            exact h5
          · rw [← wants_congr hagree, h4] at hwj
            cases hwj
        · have hmem := hchk he q' j h1 h2 hej (by simpa using hf) hnb
          have := stable_mem hst1 hmem hwj
          rw [hd] at this
          simp only at this
          rw [htd] at this
          exact this
    · rename_i hw
      have hwant : Region.wanted o (yielded ops a.tmps) = false := by
        unfold AIns.wants at hw
        split at hw
        · cases hw
        · rename_i g want hg
          obtain ⟨b, hbb, hw⟩ := Option.map_eq_some_iff.1 hw
          rw [guard_wanted hc I.rel hg (b := b) (by rw [hlk g (by simp [AIns.looks, hg])]; exact hbb)]
          exact hw
      rw [hwant]
      simp only [Bool.false_eq_true, if_false]
      refine fin .undef undef E I.sim (Ext.refl E) (Rel.undef E) hrest fun q' j h1 h2 h3 d hd hwj => ?_
      have hjn := F.lt q' j h2
      have hji : j ≠ i := fun e => by
        subst e
        have := F.nodup q q' j hq h2
        omega
      have hagree : ∀ t ∈ (ai j).looks, tmp t = updO tmp (ai i).dst .undef t := by
        intro t ht
        cases hdi : (ai i).dst with
        | none => rfl
        | some d' =>
          by_cases e : t = d'
          · subst e
            exfalso
            rcases F.look i j t hin hjn (fun e => hji e.symm) hdi ht with h | ⟨_, h⟩
            · obtain ⟨q'', h4, h5⟩ := F.before q' j i h2 h hin
              have := F.nodup q q'' i hq h5
              omega
            · exact h3 (hb j hjn h)
          · simp [updO, upd, e]
      obtain ⟨d2, hd2, hp2⟩ := I.pend q' j h1 h2 h3
      rw [hd] at hd2
      cases hd2
      rcases hp2 with ⟨_, h5⟩ | ⟨h4, _⟩
      · rw [← QStep_congr (P := P) (fun t ht => hagree t (looks_op ht))]
        exact h5
      · rw [← wants_congr hagree, h4] at hwj
        cases hwj
    · exact hrest.elim
  · -- it was run before by the canonical order
    have hqp' : q < p := by omega
    have hef : eff i = false := by
      cases hef : eff i with
      | false => rfl
      | true => exact absurd (I.done q i hqp' hq hef) hnL
    obtain ⟨d, hd, hpd⟩ := I.pend q i hqp' hq hnL
    have hlk := I.looks F hin hb (.inr fun d hd => F.own i d hin hef hd) (fun h => by rw [hef] at h; cases h)
    have fin : ∀ (v : Value) (E' : Env), Sim E' → Ext E E' → E'.h = E.h → Rel E' (tmp d) v → next (a.put o.dst v) E'.w := by
      intro v E' s' x' hh hr
      refine hk p tmp E' (a.put o.dst v) ⟨I.hp, fun q' j h1 h2 h3 => .inl (I.done q' j h1 h2 h3), fun q' j h1 h2 => ?_, hclosed, by rw [hh]; exact I.rest, s', ?_, I.fresh, fun q' j h1 h2 h3 => ?_⟩ hnext x'
      · rintro (h | h)
        · exact I.undone q' j h1 h2 h
        · subst h
          have := F.nodup q q' j hq h2
          omega
      · rw [hcd]
        refine (I.rel.mono x').put' hcN hr ?_
        funext t
        simp only [hd, updO, upd]
        unfold cur
        by_cases e : t = d
        · subst e
          rw [if_pos rfl, if_neg]
          rintro ⟨q', j, h1, h2, h3, h4⟩
          have hji : j ≠ i := fun e => h4 (.inr e)
          exact F.dsts j i t (F.lt q' j h2) hin hji h3 hd
        · rw [if_neg e]
          by_cases h : ∃ (q' j : Nat), q' < p ∧ ord[q']? = some j ∧ (ai j).dst = some t ∧ ¬ L j
          · rw [if_pos h]
            obtain ⟨q', j, h1, h2, h3, h4⟩ := h
            have hji : j ≠ i := fun e2 => by subst e2; rw [hd] at h3; cases h3; exact e rfl
            rw [if_pos ⟨q', j, h1, h2, h3, fun h => h.elim h4 hji⟩]
          · rw [if_neg h, if_neg]
            rintro ⟨q', j, h1, h2, h3, h4⟩
            exact h ⟨q', j, h1, h2, h3, fun h5 => h4 (.inl h5)⟩
      · obtain ⟨d', hd', hp'⟩ := I.pend q' j h1 h2 fun h => h3 (.inl h)
        exact ⟨d', hd', by rw [hh]; exact hp'⟩
    unfold wpOp
    rw [ho]
    simp only
    rcases hpd with ⟨hw, hqs⟩ | ⟨hw, hu⟩
    · have hwant : Region.wanted o (yielded ops a.tmps) = true := by
        unfold AIns.wants at hw
        split at hw
        · rename_i hg; exact none_wanted hc hg _
        · rename_i g want hg
          obtain ⟨b, hbb, hw⟩ := Option.map_eq_some_iff.1 hw
          rw [guard_wanted hc I.rel hg (b := b) (by rw [hlk g (by simp [AIns.looks, hg])]; exact hbb)]
          exact hw
      rw [if_pos hwant]
      refine .inl (step_sound I.sim hcop I.rel (K := fun r h' => r = tmp d ∧ h' = E.h) ?_ ?_)
      · rw [AStep_congr (P := P) (fun t ht => hlk t (looks_op ht))]
        exact hqs.astep (F.quiet i hin hef)
      · rintro r v E' s' x' hr ⟨rfl, hh⟩
        exact fin v E' s' x' hh hr
    · have hwant : Region.wanted o (yielded ops a.tmps) = false := by
        unfold AIns.wants at hw
        split at hw
        · cases hw
        · rename_i g want hg
          obtain ⟨b, hbb, hw⟩ := Option.map_eq_some_iff.1 hw
          rw [guard_wanted hc I.rel hg (b := b) (by rw [hlk g (by simp [AIns.looks, hg])]; exact hbb)]
          exact hw
      rw [hwant]
      simp only [Bool.false_eq_true, if_false]
      exact fin undef E I.sim (Ext.refl E) rfl (by rw [hu]; exact Rel.undef E)

end
end Go.AM
