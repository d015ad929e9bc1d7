/- AM, 19: regions whose order is open: the order is of no account. -/
import Derived.Test.YtghidedifiolbaaGreatK04
set_option linter.unusedVariables false
set_option linter.unusedSimpArgs false
namespace Go.AM
variable {P : Program} {N : Nat} {E : Env} {tm : Tm} {a : Act}

/-- What 'drawOK' says. -/
structure DFacts (P : Program) (N : Nat) (ops : Array Oper) (n : Nat) (bf : Nat → Nat) (ai : Nat → AIns) (eff : Nat → Bool) (ord : List Nat) (steps : List DStep) : Prop where
  size : ops.size = n
  ins : ∀ i, i < n → ∃ o, ops[i]? = some o ∧ cIns P N ops o = some (ai i)
  ordlen : ord.length = n
  all : ∀ i, i < n → ∃ q : Nat, ord[q]? = some i
  lt : ∀ (q i : Nat), ord[q]? = some i → i < n
  nodup : ∀ (q q' i : Nat), ord[q]? = some i → ord[q']? = some i → q = q'
  pred : ∀ (q i : Nat) (o : Oper), ord[q]? = some i → ops[i]? = some o → ∀ j ∈ preds o, ∃ q' : Nat, q' < q ∧ ord[q']? = some j
  later : ∀ (q i : Nat), ord[q]? = some i → eff i = true → ∀ (q' j : Nat), q < q' → ord[q']? = some j → (bf j).testBit i = true
  dsts : ∀ (i j d : Nat), i < n → j < n → i ≠ j → (ai i).dst = some d → (ai j).dst ≠ some d
  look : ∀ (i j d : Nat), i < n → j < n → i ≠ j → (ai i).dst = some d → d ∈ (ai j).looks → (bf j).testBit i = true ∨ (eff i = true ∧ (bf i).testBit j = true)
  own : ∀ (i d : Nat), i < n → eff i = false → (ai i).dst = some d → d ∉ (ai i).looks
  hasDst : ∀ i, i < n → eff i = false → ∃ d, (ai i).dst = some d
  clos : ∀ (i : Nat) (o : Oper) (j : Nat), i < n → ops[i]? = some o → (bf i).testBit j = true → j < n → j ∈ preds o ∨ ∃ k ∈ preds o, (bf k).testBit j = true
  quiet : ∀ i, i < n → eff i = false → isEff (fun _ => true) (ai i).op = false
  step : ∀ (q i : Nat), ord[q]? = some i → ∃ chk, steps[q]? = some ⟨ai i, eff i, chk⟩ ∧ (eff i = true → ∀ (q' j : Nat), q' < q → ord[q']? = some j → eff j = false → heapFree (ai j).op = false → (bf i).testBit j = false → ai j ∈ chk)
  steplen : steps.length = n

theorem stable_mem {l : List AIns} {tm : Tm} {h : Hp} (hst : Stable P l tm h) {c : AIns} (hc : c ∈ l) (hw : c.wants tm = some true) : QStep P c.op (match c.dst with | some t => tm t | none => .undef) tm h := by
  induction l with
  | nil => cases hc
  | cons x l ih =>
    rcases List.mem_cons.1 hc with h1 | h1
    · subst h1; exact hst.1 hw
    · exact ih hst.2 h1

theorem wants_congr {tm tm' : Tm} {c : AIns} (h : ∀ t ∈ c.looks, tm t = tm' t) : c.wants tm = c.wants tm' := by
  unfold AIns.wants
  split
  · rfl
  · rename_i g want hg
    rw [h g (by simp [AIns.looks, hg])]

theorem looks_op {c : AIns} {t : Nat} (h : t ∈ c.op.looks) : t ∈ c.looks := by simp [AIns.looks, h]

section
variable {ops : Array Oper} {n : Nat} {bf : Nat → Nat} {ai : Nat → AIns} {eff : Nat → Bool} {ord : List Nat} {steps : List DStep}

/-- Whatever an operation waits for stands before it. -/
theorem DFacts.before (F : DFacts P N ops n bf ai eff ord steps) : ∀ (q i j : Nat), ord[q]? = some i → (bf i).testBit j = true → j < n → ∃ q' : Nat, q' < q ∧ ord[q']? = some j := by
  intro q
  induction q using Nat.strongRecOn with
  | _ q ih =>
    intro i j hi hj hjn
    have hin := F.lt q i hi
    obtain ⟨o, ho, _⟩ := F.ins i hin
    rcases F.clos i o j hin ho hj hjn with h | ⟨k, hk, hkj⟩
    · exact F.pred q i o hi ho j h
    · obtain ⟨q'', hlt, hq''⟩ := F.pred q i o hi ho k hk
      obtain ⟨q', h1, h2⟩ := ih q'' hlt k j hq'' hkj hjn
      exact ⟨q', by omega, h2⟩

open Classical in
/-- The slots as they are while some operations are still to come. -/
noncomputable def cur (ai : Nat → AIns) (ord : List Nat) (p : Nat) (L : Nat → Prop) (tm0 tmp : Tm) : Tm := fun t =>
  if ∃ (q i : Nat), q < p ∧ ord[q]? = some i ∧ (ai i).dst = some t ∧ ¬ L i then tm0 t else tmp t

structure DInv (P : Program) (N n : Nat) (bf : Nat → Nat) (ai : Nat → AIns) (eff : Nat → Bool) (ord : List Nat) (steps : List DStep) (K : Tm → Hp → Prop) (tm0 : Tm) (L : Nat → Prop) (p : Nat) (tmp : Tm) (E : Env) (a : Act) : Prop where
  hp : p ≤ n
  done : ∀ (q i : Nat), q < p → ord[q]? = some i → eff i = true → L i
  undone : ∀ (q i : Nat), p ≤ q → ord[q]? = some i → ¬ L i
  closed : ∀ i, i < n → L i → ∀ j, j < n → (bf i).testBit j = true → L j
  rest : DOps P (steps.drop p) K tmp E.h
  sim : Sim E
  rel : TmRel E N (cur ai ord p L tm0 tmp) a
  fresh : ∀ t, (∀ (q i : Nat), q < p → ord[q]? = some i → (ai i).dst ≠ some t) → tmp t = tm0 t
  pend : ∀ (q i : Nat), q < p → ord[q]? = some i → ¬ L i → ∃ d, (ai i).dst = some d ∧ (((ai i).wants tmp = some true ∧ QStep P (ai i).op (tmp d) tmp E.h) ∨ ((ai i).wants tmp = some false ∧ tmp d = .undef))

variable {K : Tm → Hp → Prop} {tm0 : Tm} {L : Nat → Prop} {p : Nat} {tmp : Tm}

/-- One step further where nothing is written. -/
theorem DInv.advance (F : DFacts P N ops n bf ai eff ord steps) (I : DInv P N n bf ai eff ord steps K tm0 L p tmp E a) (hp : p < n) {i : Nat} (hi : ord[p]? = some i) (he : eff i = false) : ∃ tmp', DInv P N n bf ai eff ord steps K tm0 L (p + 1) tmp' E a := by
  have hin := F.lt p i hi
  obtain ⟨chk, hst, _⟩ := F.step p i hi
  obtain ⟨d, hd⟩ := F.hasDst i hin he
  have hdrop : steps.drop p = ⟨ai i, eff i, chk⟩ :: steps.drop (p + 1) := by
    rw [List.drop_eq_getElem_cons (by rw [F.steplen]; exact hp)]
    congr 1
    have := (List.getElem?_eq_some_iff.1 hst).2
    exact this
  have hrest := I.rest
  rw [hdrop] at hrest
  simp only [DOps, he, Bool.false_eq_true, if_false] at hrest
  -- the rest of the proof, given the value
  have fin : ∀ v, DOps P (steps.drop (p + 1)) K (updO tmp (ai i).dst v) E.h → (((ai i).wants tmp = some true ∧ QStep P (ai i).op v tmp E.h) ∨ ((ai i).wants tmp = some false ∧ v = .undef)) → ∃ tmp', DInv P N n bf ai eff ord steps K tm0 L (p + 1) tmp' E a := by
    intro v hv hval
    have hnL : ¬ L i := I.undone p i (Nat.le_refl _) hi
    have htd : ∀ t, t ≠ d → updO tmp (ai i).dst v t = tmp t := fun t ht => by simp [hd, updO, upd, ht]
    have hagree : ∀ (q j : Nat), q < p → ord[q]? = some j → ∀ t ∈ (ai j).looks, tmp t = updO tmp (ai i).dst v t := by
      intro q j hq hj t ht
      by_cases e : t = d
      · subst e
        exfalso
        have hjn := F.lt q j hj
        have hne : i ≠ j := fun e => by
          subst e
          have := F.nodup p q i hi hj
          omega
        rcases F.look i j t hin hjn hne hd ht with h | ⟨h, _⟩
        · obtain ⟨q', h1, h2⟩ := F.before q j i hj h hin
          have := F.nodup p q' i hi h2
          omega
        · rw [he] at h; cases h
      · exact (htd t e).symm
    have hownl : ∀ t ∈ (ai i).looks, tmp t = updO tmp (ai i).dst v t := fun t ht => (htd t (fun e => by subst e; exact F.own i t hin he hd ht)).symm
    refine ⟨updO tmp (ai i).dst v, by omega, fun q j hq hj hej => ?_, fun q j hq hj => I.undone q j (by omega) hj, I.closed, hv, I.sim, ?_, fun t ht => ?_, fun q j hq hj hnl => ?_⟩
    · by_cases e : q = p
      · subst e; rw [hi] at hj; cases hj; rw [he] at hej; cases hej
      · exact I.done q j (by omega) hj hej
    · -- the slots
      have hcur : cur ai ord (p + 1) L tm0 (updO tmp (ai i).dst v) = cur ai ord p L tm0 tmp := by
        funext t
        unfold cur
        by_cases e : t = d
        · subst e
          rw [if_pos ⟨p, i, by omega, hi, hd, hnL⟩]
          rw [if_neg]
          · exact (I.fresh t fun q j hq hj hdj => F.dsts i j t hin (F.lt q j hj) (fun e => by
              subst e
              have := F.nodup p q i hi hj
              omega) hd hdj).symm
          · rintro ⟨q, j, hq, hj, hdj, _⟩
            exact F.dsts i j t hin (F.lt q j hj) (fun e => by
              subst e
              have := F.nodup p q i hi hj
              omega) hd hdj
        · by_cases h : ∃ (q j : Nat), q < p ∧ ord[q]? = some j ∧ (ai j).dst = some t ∧ ¬ L j
          · rw [if_pos h]
            obtain ⟨q, j, h1, h2⟩ := h
            rw [if_pos ⟨q, j, by omega, h2⟩]
          · rw [if_neg h]
            rw [if_neg, htd t e]
            rintro ⟨q, j, h1, h2, h3, h4⟩
            by_cases e2 : q = p
            · subst e2; rw [hi] at h2; cases h2; rw [hd] at h3; cases h3; exact e rfl
            · exact h ⟨q, j, by omega, h2, h3, h4⟩
      rw [hcur]
      exact I.rel
    · have htd' : t ≠ d := fun e => by subst e; exact ht p i (by omega) hi hd
      rw [htd t htd']
      exact I.fresh t fun q j hq hj => ht q j (by omega) hj
    · by_cases e : q = p
      · subst e
        rw [hi] at hj
        cases hj
        refine ⟨d, hd, ?_⟩
        have hvd : updO tmp (ai i).dst v d = v := by simp [hd, updO, upd]
        rw [hvd, ← wants_congr hownl]
        rcases hval with ⟨h1, h2⟩ | ⟨h1, h2⟩
        · exact .inl ⟨h1, by rw [← QStep_congr (P := P) (fun t ht => hownl t (looks_op ht))]; exact h2⟩
        · exact .inr ⟨h1, h2⟩
      · have hqp : q < p := by omega
        obtain ⟨d', hd', hp'⟩ := I.pend q j hqp hj hnl
        have hne : i ≠ j := fun e => by
          subst e
          have := F.nodup p q i hi hj
          omega
        have hdd : d' ≠ d := fun e => by subst e; exact F.dsts i j d' hin (F.lt q j hj) hne hd hd'
        refine ⟨d', hd', ?_⟩
        rw [htd d' hdd, ← wants_congr (hagree q j hqp hj)]
        rcases hp' with ⟨h1, h2⟩ | ⟨h1, h2⟩
        · exact .inl ⟨h1, by rw [← QStep_congr (P := P) (fun t ht => hagree q j hqp hj t (looks_op ht))]; exact h2⟩
        · exact .inr ⟨h1, h2⟩
  split at hrest
  · rename_i hw
    obtain ⟨v, hq, hv⟩ := QRun.step hrest
    exact fin v hv (.inl ⟨hw, hq⟩)
  · rename_i hw
    exact fin .undef hrest (.inr ⟨hw, rfl⟩)
  · exact hrest.elim

/-- As far as nothing is written. -/
theorem DInv.advanceAll (F : DFacts P N ops n bf ai eff ord steps) : ∀ (m p : Nat) (tmp : Tm), n - p ≤ m → DInv P N n bf ai eff ord steps K tm0 L p tmp E a → ∃ p' tmp', DInv P N n bf ai eff ord steps K tm0 L p' tmp' E a ∧ ∀ i : Nat, ord[p']? = some i → eff i = true := by
  intro m
  induction m with
  | zero =>
    intro p tmp hm I
    exact ⟨p, tmp, I, fun i hi => by
      have : p < ord.length := (List.getElem?_eq_some_iff.1 hi).1
      rw [F.ordlen] at this
      omega⟩
  | succ m ih =>
    intro p tmp hm I
    by_cases hp : p < n
    · have hi : ord[p]? = some (ord[p]'(by rw [F.ordlen]; exact hp)) := List.getElem?_eq_getElem _
      by_cases he : eff (ord[p]'(by rw [F.ordlen]; exact hp)) = true
      · exact ⟨p, tmp, I, fun i hi' => by rw [hi] at hi'; cases hi'; exact he⟩
      · obtain ⟨tmp', I'⟩ := I.advance F hp hi (by simpa using he)
        exact ih (p + 1) tmp' (by omega) I'
    · exact ⟨p, tmp, I, fun i hi => by
        have : p < ord.length := (List.getElem?_eq_some_iff.1 hi).1
        rw [F.ordlen] at this
        omega⟩

/-- The slots that a ready operation looks at are as they should be. -/
theorem DInv.looks (F : DFacts P N ops n bf ai eff ord steps) (I : DInv P N n bf ai eff ord steps K tm0 L p tmp E a) {i : Nat} (hin : i < n) (hb : ∀ j, j < n → (bf i).testBit j = true → L j) (hown : eff i = true ∨ (∀ d, (ai i).dst = some d → d ∉ (ai i).looks)) (hq0 : eff i = true → ∀ q : Nat, ord[q]? = some i → p ≤ q) :
    ∀ t ∈ (ai i).looks, cur ai ord p L tm0 tmp t = tmp t := by
  intro t ht
  unfold cur
  rw [if_neg]
  rintro ⟨q, j, hq, hj, hd, hnl⟩
  have hjn := F.lt q j hj
  by_cases e : j = i
  · subst e
    rcases hown with h | h
    · have := hq0 h q hj
      omega
    · exact h t hd ht
  · rcases F.look j i t hjn hin e hd ht with h | ⟨h, _⟩
    · exact hnl (hb j hjn h)
    · exact hnl (I.done q j hq hj h)

/-- The slots behind an operation's value. -/
theorem TmRel.put' {E : Env} {N : Nat} {tm tm' : Tm} {a : Act} (h : TmRel E N tm a) {d : Option Nat} (hd : ∀ t, d = some t → t < N) {r : AV} {v : Value} (hr : Rel E r v) (he : tm' = updO tm d r) : TmRel E N tm' (a.put d v) := he ▸ h.put hd hr

/-- AN OPERATION THAT IS READY, whichever. -/
theorem DInv.ready (F : DFacts P N ops n bf ai eff ord steps) {Q : Exit → Act → World → Prop} (I : DInv P N n bf ai eff ord steps K tm0 L p tmp E a) (hnext : ∀ i : Nat, ord[p]? = some i → eff i = true) {i : Nat} (hin : i < n) (hnL : ¬ L i) (hb : ∀ j, j < n → (bf i).testBit j = true → L j) {next : Act → World → Prop}
    (hk : ∀ (p' : Nat) (tmp' : Tm) (E' : Env) (a' : Act), DInv P N n bf ai eff ord steps K tm0 (fun j => L j ∨ j = i) p' tmp' E' a' → (∀ j : Nat, ord[p']? = some j → eff j = true) → Ext E E' → next a' E'.w) : wpOp P ops Q i next a E.w := by
  obtain ⟨o, ho, hc⟩ := F.ins i hin
  obtain ⟨q, hq⟩ := F.all i hin
  obtain ⟨hcop, hcd, hcN, _⟩ := cIns_inv hc
  have hclosed : ∀ k, k < n → (L k ∨ k = i) → ∀ j, j < n → (bf k).testBit j = true → (L j ∨ j = i) := by
    intro k hk' hL j hj hkj
    rcases hL with h | h
    · exact .inl (I.closed k hk' h j hj hkj)
    · subst h; exact .inl (hb j hj hkj)
  by_cases hqp : p ≤ q
  · -- it is the next of those that write
    have hqe : q = p := by
      rcases Nat.eq_or_lt_of_le hqp with h | h
      · exact h.symm
      · exfalso
        have hpn : p < ord.length := by have := (List.getElem?_eq_some_iff.1 hq).1; omega
        have hi0 : ord[p]? = some (ord[p]) := List.getElem?_eq_getElem hpn
        have he0 := hnext _ hi0
        have := F.later p _ hi0 he0 q i h hq
        exact I.undone p _ (Nat.le_refl _) hi0 (hb _ (F.lt p _ hi0) this)
    subst hqe
    have he := hnext i hq
    have hqn : q < n := by have := (List.getElem?_eq_some_iff.1 hq).1; rw [F.ordlen] at this; exact this
    obtain ⟨chk, hst, hchk⟩ := F.step q i hq
    have hdrop : steps.drop q = ⟨ai i, eff i, chk⟩ :: steps.drop (q + 1) := by
      rw [List.drop_eq_getElem_cons (by rw [F.steplen]; exact hqn)]
      congr 1
      exact (List.getElem?_eq_some_iff.1 hst).2
    have hrest := I.rest
    rw [hdrop] at hrest
    simp only [DOps, he, if_true] at hrest
    have hlk := I.looks F hin hb (.inl he) (fun _ q' hq' => by have := F.nodup q q' i hq hq'; omega)
    -- behind it
    have fin : ∀ (r : AV) (v : Value) (E' : Env), Sim E' → Ext E E' → Rel E' r v → DOps P (steps.drop (q + 1)) K (updO tmp (ai i).dst r) E'.h →
        (∀ (q' j : Nat), q' < q → ord[q']? = some j → ¬ L j → ∀ d, (ai j).dst = some d → (ai j).wants (updO tmp (ai i).dst r) = some true → QStep P (ai j).op (tmp d) (updO tmp (ai i).dst r) E'.h) → next (a.put o.dst v) E'.w := by
      intro r v E' s' x' hr hrest' hst'
      have hother : ∀ (q' j : Nat), q' < q → ord[q']? = some j → j ≠ i := fun q' j h1 h2 e => by
        subst e
        have := F.nodup q q' j hq h2
        omega
      have htmp : ∀ (q' j : Nat), q' < q → ord[q']? = some j → ∀ d, (ai j).dst = some d → updO tmp (ai i).dst r d = tmp d := by
        intro q' j h1 h2 d hd
        cases hdi : (ai i).dst with
        | none => rfl
        | some d' =>
          have : d ≠ d' := fun e => by subst e; exact F.dsts j i d (F.lt q' j h2) hin (hother q' j h1 h2) hd hdi
          simp [updO, upd, this]
      have hagree : ∀ (q' j : Nat), q' < q → ord[q']? = some j → ¬ L j → ∀ t ∈ (ai j).looks, tmp t = updO tmp (ai i).dst r t := by
        intro q' j h1 h2 h3 t ht
        cases hdi : (ai i).dst with
        | none => rfl
        | some d' =>
          by_cases e : t = d'
          · subst e
            exfalso
            have hjn := F.lt q' j h2
            rcases F.look i j t hin hjn (fun e => hother q' j h1 h2 e.symm) hdi ht with h | ⟨_, h⟩
            · obtain ⟨q'', h4, h5⟩ := F.before q' j i h2 h hin
              have := F.nodup q q'' i hq h5
              omega
            · exact h3 (hb j hjn h)
          · simp [updO, upd, e]
      have I' : DInv P N n bf ai eff ord steps K tm0 (fun j => L j ∨ j = i) (q + 1) (updO tmp (ai i).dst r) E' (a.put o.dst v) := by
        refine ⟨by omega, fun q' j h1 h2 h3 => ?_, fun q' j h1 h2 => ?_, hclosed, hrest', s', ?_, fun t ht => ?_, fun q' j h1 h2 h3 => ?_⟩
        · by_cases e : q' = q
          · subst e; rw [hq] at h2; cases h2; exact .inr rfl
          · exact .inl (I.done q' j (by omega) h2 h3)
        · rintro (h | h)
          · exact I.undone q' j (by omega) h2 h
          · subst h
            have := F.nodup q q' j hq h2
            omega
        · rw [hcd]
          refine (I.rel.mono x').put' hcN hr ?_
          funext t
          unfold cur
          by_cases h : ∃ (q' j : Nat), q' < q ∧ ord[q']? = some j ∧ (ai j).dst = some t ∧ ¬ L j
          · obtain ⟨q', j, h1, h2, h3, h4⟩ := h
            rw [if_pos ⟨q', j, by omega, h2, h3, fun h => h.elim h4 (hother q' j h1 h2)⟩]
            cases hdi : (ai i).dst with
            | none => simp only [updO]; rw [if_pos ⟨q', j, h1, h2, h3, h4⟩]
            | some d' =>
              have : t ≠ d' := fun e => by subst e; exact F.dsts j i t (F.lt q' j h2) hin (hother q' j h1 h2) h3 hdi
              simp only [updO, upd, if_neg this]
              rw [if_pos ⟨q', j, h1, h2, h3, h4⟩]
          · rw [if_neg]
            · cases hdi : (ai i).dst with
              | none => simp only [updO]; rw [if_neg h]
              | some d' =>
                simp only [updO, upd]
                split
                · rfl
                · first | rfl | (rw [if_neg h])
            · rintro ⟨q', j, h1, h2, h3, h4⟩
              by_cases e : q' = q
              · subst e; rw [hq] at h2; cases h2; exact h4 (.inr rfl)
              · exact h ⟨q', j, by omega, h2, h3, fun h5 => h4 (.inl h5)⟩
        · have h1 : (ai i).dst ≠ some t := ht q i (by omega) hq
          have h2 : updO tmp (ai i).dst r t = tmp t := by
            cases hdi : (ai i).dst with
            | none => rfl
            | some d' =>
              have : t ≠ d' := fun e => by subst e; exact h1 hdi
              simp [updO, upd, this]
          rw [h2]
          exact I.fresh t fun q' j h3 h4 => ht q' j (by omega) h4
        · have hnl : ¬ L j := fun h => h3 (.inl h)
          have hne : q' ≠ q := fun e => by subst e; rw [hq] at h2; cases h2; exact h3 (.inr rfl)
          obtain ⟨d, hd, hp'⟩ := I.pend q' j (by omega) h2 hnl
          refine ⟨d, hd, ?_⟩
          rw [htmp q' j (by omega) h2 d hd]
          have hw : (ai j).wants (updO tmp (ai i).dst r) = (ai j).wants tmp := (wants_congr (hagree q' j (by omega) h2 hnl)).symm
          rcases hp' with ⟨h4, h5⟩ | ⟨h4, h5⟩
          · exact .inl ⟨hw.trans h4, hst' q' j (by omega) h2 hnl d hd (hw.trans h4)⟩
          · exact .inr ⟨hw.trans h4, h5⟩
      obtain ⟨p'', tmp'', I'', hn''⟩ := DInv.advanceAll F n (q + 1) _ (by omega) I'
      exact hk p'' tmp'' E' _ I'' hn'' x'
    unfold wpOp
    rw [ho]
    simp only
    split at hrest
    · rename_i hw
      have hwant : Region.wanted o (yielded ops a.tmps) = true := by
        unfold AIns.wants at hw
        split at hw
        · rename_i hg; exact none_wanted hc hg _
        · rename_i g want hg
          obtain ⟨b, hbb, hw⟩ := Option.map_eq_some_iff.1 hw
          rw [guard_wanted hc I.rel hg (b := b) (by rw [hlk g (by simp [AIns.looks, hg])]; exact hbb)]
          exact hw
      rw [if_pos hwant]
      refine .inl (step_sound I.sim hcop I.rel (K := fun v h' => Stable P chk (updO tmp (ai i).dst v) h' ∧ DOps P (steps.drop (q + 1)) K (updO tmp (ai i).dst v) h') ?_ ?_)
      · rw [AStep_congr (P := P) (fun t ht => hlk t (looks_op ht))]; exact hrest
      · intro r v E' s' x' hr ⟨hst1, hst2⟩
        refine fin r v E' s' x' hr hst2 fun q' j h1 h2 h3 d hd hwj => ?_
        have hjn := F.lt q' j h2
        have hej : eff j = false := by
          cases hej : eff j with
          | false => rfl
          | true => exact absurd (I.done q' j h1 h2 hej) h3
        have hji : j ≠ i := fun e => by
          subst e
          have := F.nodup q q' j hq h2
          omega
        have hagree : ∀ t ∈ (ai j).looks, tmp t = updO tmp (ai i).dst r t := by
          intro t ht
          cases hdi : (ai i).dst with
          | none => rfl
          | some d' =>
            by_cases e : t = d'
            · subst e
              exfalso
              rcases F.look i j t hin hjn (fun e => hji e.symm) hdi ht with h | ⟨_, h⟩
              · obtain ⟨q'', h4, h5⟩ := F.before q' j i h2 h hin
                have := F.nodup q q'' i hq h5
                omega
              · exact h3 (hb j hjn h)
            · simp [updO, upd, e]
        have hnb : (bf i).testBit j = false := by
          cases hbit : (bf i).testBit j with
          | false => rfl
          | true => exact absurd (hb j hjn hbit) h3
        have htd : updO tmp (ai i).dst r d = tmp d := by
          cases hdi : (ai i).dst with
          | none => rfl
          | some d' =>
            have : d ≠ d' := fun e => by subst e; exact F.dsts j i d hjn hin hji hd hdi
            simp [updO, upd, this]
        by_cases hf : heapFree (ai j).op = true
        · obtain ⟨d2, hd2, hp2⟩ := I.pend q' j h1 h2 h3
          rw [hd] at hd2
          cases hd2
          rcases hp2 with ⟨_, h5⟩ | ⟨h4, _⟩
          · rw [← QStep_congr (P := P) (fun t ht => hagree t (looks_op ht)), ← QStep_heapFree (h := E.h) hf]
            exact h5
          · rw [← wants_congr hagree, h4] at hwj
            cases hwj
        · have hmem := hchk he q' j h1 h2 hej (by simpa using hf) hnb
          have := stable_mem hst1 hmem hwj
          rw [hd] at this
          simp only at this
          rw [htd] at this
          exact this
    · rename_i hw
      have hwant : Region.wanted o (yielded ops a.tmps) = false := by
        unfold AIns.wants at hw
        split at hw
        · cases hw
        · rename_i g want hg
          obtain ⟨b, hbb, hw⟩ := Option.map_eq_some_iff.1 hw
          rw [guard_wanted hc I.rel hg (b := b) (by rw [hlk g (by simp [AIns.looks, hg])]; exact hbb)]
          exact hw
      rw [hwant]
      simp only [Bool.false_eq_true, if_false]
      refine fin .undef undef E I.sim (Ext.refl E) (Rel.undef E) hrest fun q' j h1 h2 h3 d hd hwj => ?_
      have hjn := F.lt q' j h2
      have hji : j ≠ i := fun e => by
        subst e
        have := F.nodup q q' j hq h2
        omega
      have hagree : ∀ t ∈ (ai j).looks, tmp t = updO tmp (ai i).dst .undef t := by
        intro t ht
        cases hdi : (ai i).dst with
        | none => rfl
        | some d' =>
          by_cases e : t = d'
          · subst e
            exfalso
            rcases F.look i j t hin hjn (fun e => hji e.symm) hdi ht with h | ⟨_, h⟩
            · obtain ⟨q'', h4, h5⟩ := F.before q' j i h2 h hin
              have := F.nodup q q'' i hq h5
              omega
            · exact h3 (hb j hjn h)
          · simp [updO, upd, e]
      obtain ⟨d2, hd2, hp2⟩ := I.pend q' j h1 h2 h3
      rw [hd] at hd2
      cases hd2
      rcases hp2 with ⟨_, h5⟩ | ⟨h4, _⟩
      · rw [← QStep_congr (P := P) (fun t ht => hagree t (looks_op ht))]
        exact h5
      · rw [← wants_congr hagree, h4] at hwj
        cases hwj
    · exact hrest.elim
  · -- it was run before by the canonical order
    have hqp' : q < p := by omega
    have hef : eff i = false := by
      cases hef : eff i with
      | false => rfl
      | true => exact absurd (I.done q i hqp' hq hef) hnL
    obtain ⟨d, hd, hpd⟩ := I.pend q i hqp' hq hnL
    have hlk := I.looks F hin hb (.inr fun d hd => F.own i d hin hef hd) (fun h => by rw [hef] at h; cases h)
    have fin : ∀ (v : Value) (E' : Env), Sim E' → Ext E E' → E'.h = E.h → Rel E' (tmp d) v → next (a.put o.dst v) E'.w := by
      intro v E' s' x' hh hr
      refine hk p tmp E' (a.put o.dst v) ⟨I.hp, fun q' j h1 h2 h3 => .inl (I.done q' j h1 h2 h3), fun q' j h1 h2 => ?_, hclosed, by rw [hh]; exact I.rest, s', ?_, I.fresh, fun q' j h1 h2 h3 => ?_⟩ hnext x'
      · rintro (h | h)
        · exact I.undone q' j h1 h2 h
        · subst h
          have := F.nodup q q' j hq h2
          omega
      · rw [hcd]
        refine (I.rel.mono x').put' hcN hr ?_
        funext t
        simp only [hd, updO, upd]
        unfold cur
        by_cases e : t = d
        · subst e
          rw [if_pos rfl, if_neg]
          rintro ⟨q', j, h1, h2, h3, h4⟩
          have hji : j ≠ i := fun e => h4 (.inr e)
          exact F.dsts j i t (F.lt q' j h2) hin hji h3 hd
        · rw [if_neg e]
          by_cases h : ∃ (q' j : Nat), q' < p ∧ ord[q']? = some j ∧ (ai j).dst = some t ∧ ¬ L j
          · rw [if_pos h]
            obtain ⟨q', j, h1, h2, h3, h4⟩ := h
            have hji : j ≠ i := fun e2 => by subst e2; rw [hd] at h3; cases h3; exact e rfl
            rw [if_pos ⟨q', j, h1, h2, h3, fun h => h.elim h4 hji⟩]
          · rw [if_neg h, if_neg]
            rintro ⟨q', j, h1, h2, h3, h4⟩
            exact h ⟨q', j, h1, h2, h3, fun h5 => h4 (.inl h5)⟩
      · obtain ⟨d', hd', hp'⟩ := I.pend q' j h1 h2 fun h => h3 (.inl h)
        exact ⟨d', hd', by rw [hh]; exact hp'⟩
    unfold wpOp
    rw [ho]
    simp only
    rcases hpd with ⟨hw, hqs⟩ | ⟨hw, hu⟩
    · have hwant : Region.wanted o (yielded ops a.tmps) = true := by
        unfold AIns.wants at hw
        split at hw
        · rename_i hg; exact none_wanted hc hg _
        · rename_i g want hg
          obtain ⟨b, hbb, hw⟩ := Option.map_eq_some_iff.1 hw
          rw [guard_wanted hc I.rel hg (b := b) (by rw [hlk g (by simp [AIns.looks, hg])]; exact hbb)]
          exact hw
      rw [if_pos hwant]
      refine .inl (step_sound I.sim hcop I.rel (K := fun r h' => r = tmp d ∧ h' = E.h) ?_ ?_)
      · rw [AStep_congr (P := P) (fun t ht => hlk t (looks_op ht))]
        exact hqs.astep (F.quiet i hin hef)
      · rintro r v E' s' x' hr ⟨rfl, hh⟩
        exact fin v E' s' x' hh hr
    · have hwant : Region.wanted o (yielded ops a.tmps) = false := by
        unfold AIns.wants at hw
        split at hw
        · cases hw
        · rename_i g want hg
          obtain ⟨b, hbb, hw⟩ := Option.map_eq_some_iff.1 hw
          rw [guard_wanted hc I.rel hg (b := b) (by rw [hlk g (by simp [AIns.looks, hg])]; exact hbb)]
          exact hw
      rw [hwant]
      simp only [Bool.false_eq_true, if_false]
      exact fin undef E I.sim (Ext.refl E) rfl (by rw [hu]; exact Rel.undef E)

end
end Go.AM

/- AM, 20: regions whose order is open: out of the checks. -/
namespace Go.AM
variable {P : Program} {N : Nat} {E : Env} {tm : Tm} {a : Act}

theorem cOpsFrom_get {ops : Array Oper} : ∀ (l : List Oper) (r : List AIns), cOpsFrom P N ops l = some r → r.length = l.length ∧ ∀ (j : Nat) (o : Oper), l[j]? = some o → ∃ ai, r[j]? = some ai ∧ cIns P N ops o = some ai := by
  intro l
  induction l with
  | nil => intro r h; simp [cOpsFrom] at h; subst h; simp
  | cons o l ih =>
    intro r h
    simp only [cOpsFrom, Option.bind_eq_some_iff, Option.map_eq_some_iff] at h
    obtain ⟨ai, hai, r', hr', rfl⟩ := h
    obtain ⟨h1, h2⟩ := ih r' hr'
    refine ⟨by simp [h1], fun j o' hj => ?_⟩
    cases j with
    | zero => simp at hj; subst hj; exact ⟨ai, rfl, hai⟩
    | succ j => simpa using h2 j o' (by simpa using hj)

theorem dstIn_iff {d : Option Nat} {l : List Nat} : dstIn d l = true ↔ ∃ t, d = some t ∧ t ∈ l := by
  cases d <;> simp [dstIn]

theorem dstSame_iff {d e : Option Nat} : dstSame d e = true ↔ ∃ t, d = some t ∧ e = some t := by
  cases d <;> cases e <;> simp [dstSame] <;> exact eq_comm

theorem mem_take {α : Type} {l : List α} {q : Nat} {x : α} (h : x ∈ l.take q) : ∃ q' : Nat, q' < q ∧ l[q']? = some x := by
  obtain ⟨j, hj⟩ := List.getElem?_of_mem h
  rw [List.getElem?_take] at hj
  split at hj
  · exact ⟨j, ‹_›, hj⟩
  · cases hj

theorem take_mem {α : Type} {l : List α} {q q' : Nat} {x : α} (h : q' < q) (hx : l[q']? = some x) : x ∈ l.take q :=
  List.mem_of_getElem? (i := q') (by rw [List.getElem?_take, if_pos h]; exact hx)

theorem isEff_mono {quiet : FuncId → Bool} {op : AOp} (h : isEff quiet op = false) : isEff (fun _ => true) op = false := by
  cases op <;> first | rfl | (simp [isEff] at h)

theorem draw_facts {quiet : FuncId → Bool} {ops : Array Oper} {steps : List DStep} (h : cDraw P N quiet ops = some steps) :
    ∃ (n : Nat) (bf : Nat → Nat) (ai : Nat → AIns) (eff : Nat → Bool) (ord : List Nat), DFacts P N ops n bf ai eff ord steps := by
  simp only [cDraw, Option.bind_eq_some_iff] at h
  obtain ⟨ais, hais, h⟩ := h
  obtain ⟨hl, hg⟩ := cOpsFrom_get _ _ hais
  generalize hord : dOrd quiet ops ais = ord at h
  generalize hef : dEff quiet ops ais = eff at h
  generalize hai : dAi ais = ai at h
  generalize hps : dPs ops = ps at h
  generalize hbf : dBf ops = bf at h
  split at h
  · rename_i hok
    cases h
    simp only [drawOK, Bool.and_eq_true, beq_iff_eq, List.all_eq_true, List.mem_range] at hok
    obtain ⟨⟨⟨h1, h2⟩, h3⟩, h4⟩ := hok
    have hsize : ops.size = ais.length := by rw [hl]; simp
    have hins : ∀ i, i < ais.length → ∃ o, ops[i]? = some o ∧ cIns P N ops o = some (ai i) := by
      intro i hi
      have ho : ops.toList[i]? = some (ops.toList[i]'(by rw [← hl]; exact hi)) := List.getElem?_eq_getElem _
      obtain ⟨x, hx, hx2⟩ := hg i _ ho
      refine ⟨_, by rw [← Array.getElem?_toList]; exact ho, ?_⟩
      rw [hx2, ← hai]
      simp [dAi, List.getD, hx]
    have hpreds : ∀ (i : Nat) (o : Oper), ops[i]? = some o → ps i = preds o := by
      intro i o ho
      rw [← hps]
      simp [dPs, List.getD, ho]
    have h3' : ∀ (q i : Nat), ord[q]? = some i → i < ais.length ∧ i ∉ ord.take q ∧ (∀ j ∈ ps i, j ∈ ord.take q) ∧ (eff i = true → ∀ j ∈ ord.drop (q + 1), (bf j).testBit i = true) := by
      intro q i hq
      have hql : q < ais.length := by rw [← h1]; exact (List.getElem?_eq_some_iff.1 hq).1
      have := h3 q hql
      rw [hq] at this
      simp at this
      obtain ⟨⟨⟨a1, a2⟩, a3⟩, a4⟩ := this
      refine ⟨a1, a2, a3, fun he => ?_⟩
      rcases a4 with h | h
      · rw [he] at h; cases h
      · exact h
    refine ⟨ais.length, bf, ai, eff, ord, ⟨hsize, hins, h1, fun i hi => ?_, fun q i hq => (h3' q i hq).1, fun q q' i hq hq' => ?_, fun q i o hq ho j hj => ?_, fun q i hq he q' j hlt hq' => ?_, fun i j d hi hj hne hd hd' => ?_, fun i j d hi hj hne hd hdl => ?_, fun i d hi he hd hdl => ?_, fun i hi he => ?_, fun i o j hi ho hb hj => ?_, fun i hi he => ?_, fun q i hq => ?_, by simp⟩⟩
    · have := h2 i hi
      simp at this
      exact List.getElem?_of_mem this
    · rcases Nat.lt_trichotomy q q' with h | h | h
      · exact absurd (take_mem h hq) (h3' q' i hq').2.1
      · exact h
      · exact absurd (take_mem h hq') (h3' q i hq).2.1
    · exact mem_take ((h3' q i hq).2.2.1 j (by rw [hpreds i o ho]; exact hj))
    · refine (h3' q i hq).2.2.2 he j (List.mem_of_getElem? (i := q' - (q + 1)) ?_)
      rw [List.getElem?_drop, ← hq']
      congr 1
      omega
    · have := (h4 i hi).1.1 j hj
      simp only [Bool.or_eq_true, beq_iff_eq, Bool.and_eq_true, Bool.not_eq_true'] at this
      rcases this with h | ⟨h, _⟩
      · exact hne h
      · have h5 : dstSame (ai i).dst (ai j).dst = true := dstSame_iff.2 ⟨d, hd, hd'⟩
        rw [h5] at h; cases h
    · have := (h4 i hi).1.1 j hj
      simp only [Bool.or_eq_true, beq_iff_eq, Bool.and_eq_true, Bool.not_eq_true'] at this
      rcases this with h | ⟨_, h⟩
      · exact absurd h hne
      · rcases h with (h | h) | h
        · have h5 : dstIn (ai i).dst (ai j).looks = true := dstIn_iff.2 ⟨d, hd, hdl⟩
          rw [h5] at h; cases h
        · exact .inl h
        · exact .inr h
    · have := (h4 i hi).1.2
      simp only [Bool.or_eq_true, Bool.and_eq_true, Bool.not_eq_true'] at this
      rcases this with h | ⟨h, _⟩
      · rw [he] at h; cases h
      · have h5 : dstIn (ai i).dst (ai i).looks = true := dstIn_iff.2 ⟨d, hd, hdl⟩
        rw [h5] at h; cases h
    · have := (h4 i hi).1.2
      simp only [Bool.or_eq_true, Bool.and_eq_true, Bool.not_eq_true'] at this
      rcases this with h | ⟨_, h⟩
      · rw [he] at h; cases h
      · exact Option.isSome_iff_exists.1 h
    · have := (h4 i hi).2 j hj
      simp only [Bool.or_eq_true, Bool.not_eq_true', List.contains_iff_mem, List.any_eq_true] at this
      rcases this with (h | h) | ⟨k, h, h'⟩
      · rw [hb] at h; cases h
      · exact .inl (by rw [← hpreds i o ho]; exact h)
      · exact .inr ⟨k, by rw [← hpreds i o ho]; exact h, h'⟩
    · rw [← hef] at he
      simp only [dEff, dEffs, List.getD, List.getElem?_map, List.getElem?_range hi, Option.map_some, Option.getD_some, Bool.or_eq_false_iff] at he
      rw [hai] at he
      exact isEff_mono he.1
    · have hql : q < ais.length := by rw [← h1]; exact (List.getElem?_eq_some_iff.1 hq).1
      have hgd : ord.getD q 0 = i := by simp [List.getD, hq]
      refine ⟨if eff i then dChk ops ais eff ord q i else [], by simp [hql, hq], fun he q' j hlt hq' hej hhf hb => ?_⟩
      rw [if_pos he, dChk, hai, hbf]
      exact List.mem_map.2 ⟨j, List.mem_filter.2 ⟨take_mem hlt hq', by simp [hej, hhf, hb]⟩, rfl⟩
  · cases h

theorem filter_lt {α : Type} (f g : α → Bool) : ∀ (l : List α), (∀ x ∈ l, g x = true → f x = true) → (∃ x ∈ l, f x = true ∧ g x = false) → (l.filter g).length < (l.filter f).length := by
  intro l
  induction l with
  | nil => rintro _ ⟨x, hx, _⟩; cases hx
  | cons y l ih =>
    intro hfg hex
    have hle : (l.filter g).length ≤ (l.filter f).length := by
      clear ih hex
      induction l with
      | nil => simp
      | cons z l ih2 =>
        have h1 := ih2 fun x hx => hfg x (by rcases List.mem_cons.1 hx with h | h <;> simp [h])
        have h2 := hfg z (by simp)
        simp only [List.filter_cons]
        cases hg : g z <;> cases hf : f z <;> simp_all <;> omega
    obtain ⟨x, hx, hxf, hxg⟩ := hex
    simp only [List.filter_cons]
    by_cases e : x = y
    · subst e
      simp [hxf, hxg]
      omega
    · have hxl : x ∈ l := by
        rcases List.mem_cons.1 hx with h | h
        · exact absurd h e
        · exact h
      have := ih (fun z hz => hfg z (by simp [hz])) ⟨x, hxl, hxf, hxg⟩
      have h2 := hfg y (by simp)
      cases hg : g y <;> cases hf : f y <;> simp_all <;> omega

theorem any_sound {ops : Array Oper} {n : Nat} {bf : Nat → Nat} {ai : Nat → AIns} {eff : Nat → Bool} {ord : List Nat} {steps : List DStep} (F : DFacts P N ops n bf ai eff ord steps) {K : Tm → Hp → Prop} {tm0 : Tm} {Q : Exit → Act → World → Prop} {E0 : Env}
    (hk : ∀ (E' : Env) (tm' : Tm) (a' : Act), Sim E' → Ext E0 E' → TmRel E' N tm' a' → K tm' E'.h → Q .normal a' E'.w) :
    ∀ (fuel : Nat) (listed : Array Bool) (p : Nat) (tmp : Tm) (E : Env) (a : Act), listed.size = n → ((List.range n).filter fun i => !(listed.getD i false)).length ≤ fuel →
      DInv P N n bf ai eff ord steps K tm0 (fun i => listed.getD i false = true) p tmp E a → (∀ i : Nat, ord[p]? = some i → eff i = true) → Ext E0 E → wpAny P .any ops Q fuel listed a E.w := by
  -- where nothing is ready all is done
  have hend : ∀ (listed : Array Bool) (p : Nat) (tmp : Tm) (E : Env) (a : Act), listed.size = n → (∀ i, i < n → listed.getD i false = true) → DInv P N n bf ai eff ord steps K tm0 (fun i => listed.getD i false = true) p tmp E a → Ext E0 E → Q .normal a E.w := by
    intro listed p tmp E a hsz hall I hx
    have hpn : p = n := by
      rcases Nat.lt_or_ge p n with h | h
      · exfalso
        have hi : ord[p]? = some (ord[p]'(by rw [F.ordlen]; exact h)) := List.getElem?_eq_getElem _
        exact I.undone p _ (Nat.le_refl _) hi (hall _ (F.lt p _ hi))
      · have := I.hp; omega
    subst hpn
    have hrest := I.rest
    rw [List.drop_of_length_le (by rw [F.steplen]; exact Nat.le_refl _)] at hrest
    refine hk E tmp a I.sim hx ?_ hrest
    have : cur ai ord p (fun i => listed.getD i false = true) tm0 tmp = tmp := by
      funext t
      unfold cur
      rw [if_neg]
      rintro ⟨q, i, h1, h2, _, h4⟩
      exact h4 (hall i (F.lt q i h2))
    rw [← this]
    exact I.rel
  have hready : ∀ (listed : Array Bool), listed.size = n → Region.ready .any ops listed = [] → ∀ i, i < n → listed.getD i false = true := by
    intro listed hsz hr
    have key : ∀ q i : Nat, ord[q]? = some i → listed.getD i false = true := by
      intro q
      induction q using Nat.strongRecOn with
      | _ q ih =>
        intro i hi
        have hin := F.lt q i hi
        obtain ⟨o, ho, _⟩ := F.ins i hin
        cases hli : listed.getD i false with
        | true => rfl
        | false =>
          exfalso
          have hmem : i ∈ Region.ready .any ops listed := by
            unfold Region.ready
            refine List.mem_filter.2 ⟨by simp [F.size]; exact hin, ?_⟩
            have hlt : i < listed.size := by rw [hsz]; exact hin
            have h1 : listed.getD i true = false := by
              simp only [Array.getD, hlt, dif_pos] at hli ⊢
              exact hli
            simp only [h1, Bool.not_false, Bool.true_and, ho, Option.map_some, Option.getD_some]
            rw [Array.all_eq_true_iff_forall_mem]
            intro e he
            cases hb : Region.binds .any e with
            | false => simp
            | true =>
              have hp : e.on ∈ preds o := by
                unfold preds
                exact List.mem_map.2 ⟨e, List.mem_filter.2 ⟨by simpa using he, hb⟩, rfl⟩
              obtain ⟨q', hlt', hq'⟩ := F.pred q i o hi ho e.on hp
              simp [ih q' hlt' e.on hq']
          rw [hr] at hmem
          cases hmem
    intro i hi
    obtain ⟨q, hq⟩ := F.all i hi
    exact key q i hq
  intro fuel
  induction fuel with
  | zero =>
    intro listed p tmp E a hsz hcnt I hn hx
    have hall : ∀ i, i < n → listed.getD i false = true := by
      intro i hi
      cases hli : listed.getD i false with
      | true => rfl
      | false =>
        have : i ∈ (List.range n).filter fun i => !(listed.getD i false) := List.mem_filter.2 ⟨by simpa using hi, by rw [hli]; rfl⟩
        have h0 : (List.range n).filter (fun i => !(listed.getD i false)) = [] := List.eq_nil_of_length_eq_zero (by omega)
        rw [h0] at this
        cases this
    refine ⟨?_, hend listed p tmp E a hsz hall I hx⟩
    unfold Region.ready
    apply List.filter_eq_nil_iff.2
    intro i hi
    have hin : i < n := by simpa [F.size] using hi
    have hlt : i < listed.size := by rw [hsz]; exact hin
    have h1 := hall i hin
    have : listed.getD i true = true := by
      simp only [Array.getD, hlt, dif_pos] at h1 ⊢
      exact h1
    simp [this]
  | succ fuel ih =>
    intro listed p tmp E a hsz hcnt I hn hx
    refine ⟨fun hr => hend listed p tmp E a hsz (hready listed hsz hr) I hx, fun i hi => ?_⟩
    unfold Region.ready at hi
    obtain ⟨hi1, hi2⟩ := List.mem_filter.1 hi
    have hin : i < n := by simpa [F.size] using hi1
    have hlt : i < listed.size := by rw [hsz]; exact hin
    obtain ⟨o, ho, _⟩ := F.ins i hin
    simp only [ho, Option.map_some, Option.getD_some, Bool.and_eq_true, Bool.not_eq_true'] at hi2
    obtain ⟨hi3, hi4⟩ := hi2
    have hli : listed.getD i false = false := by
      simp only [Array.getD, hlt, dif_pos] at hi3 ⊢
      exact hi3
    rw [Array.all_eq_true_iff_forall_mem] at hi4
    have hpre : ∀ j ∈ preds o, listed.getD j false = true := by
      intro j hj
      unfold preds at hj
      obtain ⟨e, he, rfl⟩ := List.mem_map.1 hj
      obtain ⟨he1, he2⟩ := List.mem_filter.1 he
      have := hi4 e (by simpa using he1)
      simpa [he2] using this
    have hb : ∀ j, j < n → (bf i).testBit j = true → listed.getD j false = true := by
      intro j hj hbit
      rcases F.clos i o j hin ho hbit hj with h | ⟨k, hkp, hkb⟩
      · exact hpre j h
      · have hkl := hpre k hkp
        have hkn : k < n := by
          rcases Nat.lt_or_ge k n with h | h
          · exact h
          · simp [Array.getD, show ¬ k < listed.size by omega] at hkl
        exact I.closed k hkn hkl j hj hkb
    refine I.ready F hn hin (by rw [hli]; simp) hb fun p' tmp' E' a' I' hn' x' => ?_
    have hset : ∀ j, (listed.setIfInBounds i true).getD j false = true ↔ (listed.getD j false = true ∨ j = i) := by
      intro j
      by_cases e : j = i
      · subst e
        simp [Array.getD, hlt]
      · simp only [e, or_false]
        simp only [Array.getD_eq_getD_getElem?]
        rw [Array.getElem?_setIfInBounds_ne (Ne.symm e)]
    refine ih (listed.setIfInBounds i true) p' tmp' E' a' (by simpa using hsz) ?_ ?_ hn' (hx.trans x')
    · have := filter_lt (fun j => !(listed.getD j false)) (fun j => !((listed.setIfInBounds i true).getD j false)) (List.range n) (fun j _ hj => by
        cases hlj : listed.getD j false with
        | false => rfl
        | true =>
          have := (hset j).2 (.inl hlj)
          rw [this] at hj
          cases hj) ⟨i, by simpa using hin, by rw [hli]; rfl, by rw [(hset i).2 (.inr rfl)]; rfl⟩
      omega
    · have hL : (fun j => (listed.setIfInBounds i true).getD j false = true) = fun j => listed.getD j false = true ∨ j = i := by
        funext j
        exact propext (hset j)
      rw [hL]
      exact I'

/-- A REGION WHOSE ORDER IS OPEN. -/
theorem draw_sound {quiet : FuncId → Bool} {ops : Array Oper} {steps : List DStep} (hc : cDraw P N quiet ops = some steps) (hm : P.follows .mixedOrders = true) {id : Nat} {K : Tm → Hp → Prop} {Q : Exit → Act → World → Prop} (hs : Sim E) (ht : TmRel E N tm a) (h : DOps P steps K tm E.h)
    (hk : ∀ (E' : Env) (tm' : Tm) (a' : Act), Sim E' → Ext E E' → TmRel E' N tm' a' → K tm' E'.h → Q .normal a' E'.w) : (Code.region id ops true).wp P Q a E.w := by
  obtain ⟨n, bf, ai, eff, ord, F⟩ := draw_facts hc
  refine wp_region_any hm ?_
  obtain ⟨x1, s1⟩ := drew_ext hs
  have hrep : ∀ j, (Array.replicate ops.size false).getD j false = false := by
    intro j
    simp only [Array.getD_eq_getD_getElem?, Array.getElem?_replicate]
    split <;> rfl
  have I0 : DInv P N n bf ai eff ord steps K tm (fun i => (Array.replicate ops.size false).getD i false = true) 0 tm { E with w := E.w.drew } a := by
    refine ⟨Nat.zero_le _, (fun q i hq => by omega), (fun q i _ _ => by rw [hrep]; simp), (fun i _ hi => by rw [hrep] at hi; cases hi), h, s1, ?_, (fun _ _ => rfl), (fun q i hq => by omega)⟩
    have : cur ai ord 0 (fun i => (Array.replicate ops.size false).getD i false = true) tm tm = tm := by
      funext t
      unfold cur
      rw [if_neg]
      rintro ⟨q, i, h1, _⟩
      omega
    rw [this]
    exact ht.mono x1
  obtain ⟨p, tmp, I, hn⟩ := DInv.advanceAll F n 0 tm (by omega) I0
  exact any_sound F (E0 := E) hk ops.size _ p tmp _ a (by simp [F.size]) (by
    have := List.length_filter_le (fun i => !((Array.replicate ops.size false).getD i false)) (List.range n)
    rw [List.length_range] at this
    rw [F.size]
    rw [F.size] at this
    exact this) I hn x1

end Go.AM

/- AM, 21: code, and a function's contract out of its code. -/
namespace Go.AM
variable {P : Program} {N : Nat} {E : Env} {tm : Tm} {a : Act}

/-- What is known where code has come to an end. -/
def Came (N : Nat) (Q : AExit → Tm → Hp → Prop) (E : Env) (e : Exit) (a : Act) (w : World) : Prop :=
  ∃ (ae : AExit) (E' : Env) (tm : Tm), e = ae.conc ∧ E'.w = w ∧ Sim E' ∧ Ext E E' ∧ TmRel E' N tm a ∧ Q ae tm E'.h

theorem aw_sound {quiet : FuncId → Bool} (hm : P.follows .mixedOrders = true) : ∀ (c : Code) (ac : ACode) (Q : AExit → Tm → Hp → Prop) (E : Env) (tm : Tm) (a : Act), comp P N quiet c = some ac → Sim E → TmRel E N tm a → AW P ac Q tm E.h → c.wp P (Came N Q E) a E.w := by
  intro c
  induction c with
  | skip =>
    intro ac Q E tm a hc hs ht h
    simp [comp] at hc; subst hc
    exact wp_skip ⟨.normal, E, tm, rfl, rfl, hs, Ext.refl E, ht, h⟩
  | region id ops draw =>
    intro ac Q E tm a hc hs ht h
    simp only [comp] at hc
    cases draw with
    | true =>
      simp only [if_true, Option.map_eq_some_iff] at hc
      obtain ⟨l, hl, rfl⟩ := hc
      exact draw_sound hl hm hs ht h fun E' tm' a' s' x' t' k' => ⟨.normal, E', tm', rfl, rfl, s', x', t', k'⟩
    | false =>
      simp only [Bool.false_eq_true, if_false, Option.map_eq_some_iff] at hc
      obtain ⟨l, hl, rfl⟩ := hc
      have hal := aligned_from (P := P) (N := N) ops ops.toList 0 l (fun j o hj => by simpa using hj) hl
      refine wp_region ?_
      rw [show List.range ops.size = List.range' 0 ops.toList.length by rw [List.range_eq_range', Array.length_toList]]
      exact ops_sound hal hs ht h fun E' tm' a' s' x' t' k' => ⟨.normal, E', tm', rfl, rfl, s', x', t', k'⟩
  | seq x y ihx ihy =>
    intro ac Q E tm a hc hs ht h
    simp only [comp, Option.bind_eq_some_iff, Option.map_eq_some_iff] at hc
    obtain ⟨ax, hx, ay, hy, rfl⟩ := hc
    refine wp_seq (wp_mono (ihx ax _ E tm a hx hs ht h) ?_)
    rintro e a' w' ⟨ae, E', tm', rfl, rfl, s', x', t', hq⟩
    cases ae with
    | normal =>
      refine wp_mono (ihy ay Q E' tm' a' hy s' t' hq) ?_
      rintro e a'' w'' ⟨ae, E'', tm'', rfl, rfl, s'', x'', t'', hq'⟩
      exact ⟨ae, E'', tm'', rfl, rfl, s'', x'.trans x'', t'', hq'⟩
    | exit id => exact ⟨.exit id, E', tm', rfl, rfl, s', x', t', hq⟩
    | ret => exact ⟨.ret, E', tm', rfl, rfl, s', x', t', hq⟩
  | cond c x y ihx ihy =>
    intro ac Q E tm a hc hs ht h
    simp only [comp, Option.bind_eq_some_iff, Option.map_eq_some_iff] at hc
    obtain ⟨acc, hcc, ax, hx, ay, hy, rfl⟩ := hc
    simp only [AW] at h
    split at h
    · rename_i b hev
      have hv := opd hcc ht
      rw [hev] at hv
      refine wp_cond hv.bool_inv ?_
      cases b
      · exact ihy ay Q E tm a hy hs ht (by simpa using h)
      · exact ihx ax Q E tm a hx hs ht (by simpa using h)
    · exact h.elim
  | block id b ih =>
    intro ac Q E tm a hc hs ht h
    simp only [comp, Option.map_eq_some_iff] at hc
    obtain ⟨ab, hb, rfl⟩ := hc
    refine wp_block (wp_mono (ih ab _ E tm a hb hs ht h) ?_)
    rintro e a' w' ⟨ae, E', tm', rfl, rfl, s', x', t', hq⟩
    cases ae with
    | normal => exact ⟨.normal, E', tm', rfl, rfl, s', x', t', hq⟩
    | exit i =>
      simp only [AExit.conc, Exit.inBlock] at hq ⊢
      split
      · rename_i hi
        rw [if_pos hi] at hq
        exact ⟨.normal, E', tm', rfl, rfl, s', x', t', hq⟩
      · rename_i hi
        rw [if_neg hi] at hq
        exact ⟨.exit i, E', tm', rfl, rfl, s', x', t', hq⟩
    | ret => exact ⟨.ret, E', tm', rfl, rfl, s', x', t', hq⟩
  | loop b ih =>
    intro ac Q E tm a hc hs ht h
    simp only [comp, Option.map_eq_some_iff] at hc
    obtain ⟨ab, hb, rfl⟩ := hc
    obtain ⟨I, n, ⟨tm1, h1, hg1, hI1⟩, hround⟩ := h
    let J : Nat → Act → World → Prop := fun n a w => ∃ (E' : Env) (tm' : Tm), E'.w = w ∧ Sim E' ∧ Ext E E' ∧ TmRel E' N tm' a ∧ I n tm' E'.h
    refine wp_loop_ghost J n ?_ ?_
    · obtain ⟨s1, x1, t1⟩ := hg1.sound hs ht
      exact ⟨{ E with h := h1 }, tm1, rfl, s1, x1, t1, hI1⟩
    · rintro n a w ⟨E', tm', rfl, s', x', t', hI⟩
      refine wp_mono (ih ab _ E' tm' a hb s' t' (hround n tm' E'.h hI)) ?_
      rintro e a'' w'' ⟨ae, E'', tm'', rfl, rfl, s'', x'', t'', hq⟩
      cases ae with
      | normal =>
        obtain ⟨n', hlt, tm3, h3, hg3, hI3⟩ := hq
        obtain ⟨s3, x3, t3⟩ := hg3.sound s'' t''
        exact ⟨n', hlt, { E'' with h := h3 }, tm3, rfl, s3, x'.trans (x''.trans x3), t3, hI3⟩
      | exit id => exact ⟨.exit id, E'', tm'', rfl, rfl, s'', x'.trans x'', t'', hq⟩
      | ret => exact ⟨.ret, E'', tm'', rfl, rfl, s'', x'.trans x'', t'', hq⟩
  | exit id =>
    intro ac Q E tm a hc hs ht h
    simp [comp] at hc; subst hc
    exact wp_exit ⟨.exit id, E, tm, rfl, rfl, hs, Ext.refl E, ht, h⟩
  | ret =>
    intro ac Q E tm a hc hs ht h
    simp [comp] at hc; subst hc
    exact wp_ret ⟨.ret, E, tm, rfl, rfl, hs, Ext.refl E, ht, h⟩
  | rangeFunc f ps as b => intro ac Q E tm a hc; simp [comp] at hc
  | scope b => intro ac Q E tm a hc; simp [comp] at hc
  | label l => intro ac Q E tm a hc; simp [comp] at hc
  | goto l => intro ac Q E tm a hc; simp [comp] at hc
  | refuse w => intro ac Q E tm a hc; simp [comp] at hc

/-! ### Results -/

theorem load_run {t : TypeId} {x : Operand} {w : World} {r v : Value} (ty : TypeId) (h : (execOp a.eval { dst := none, op := .load t x, type := ty, pos := "", after := #[], guard := none }).run P w = .ok (.value v) w) : ∃ ad, a.eval x = .pointer (some ad) ∧ (loadVar t ad).run P w = .ok v w := by
  simp only [execOp, Sem.run_bind, Instr.loadAt] at h
  cases hx : a.eval x with
  | pointer p =>
    cases p with
    | none => rw [hx] at h; simp [Instr.sureAddr] at h
    | some ad =>
      rw [hx] at h
      simp only [Instr.sureAddr, Sem.run_pure, Result.andThen_ok] at h
      refine ⟨ad, rfl, ?_⟩
      cases hl : (loadVar t ad).run P w with
      | ok v' w' => rw [hl] at h; simp at h; obtain ⟨rfl, rfl⟩ := h; rfl
      | halt k w' => rw [hl] at h; simp at h
  | _ => rw [hx] at h; simp [Instr.sureAddr] at h

/-- A result's value. -/
def resSem (tmps : Array Value) : ResultVar → Sem Value
  | .tmp t => pure (tmps.getD t undef)
  | .cell ad t => do loadVar t (← asAddr (tmps.getD ad undef))

theorem res_one (hs : Sim E) (ht : TmRel E N tm a) {rv : ResultVar} {ar : ARes} (hc : cRes P N rv = some ar) {r : AV} (hg : ar.get tm E.h = some r) :
    ∃ v, (resSem a.tmps rv).run P E.w = .ok v E.w ∧ Rel E r v := by
  cases rv with
  | tmp t =>
    simp only [cRes] at hc
    split at hc
    · cases hc
      simp only [ARes.get, Option.some.injEq] at hg
      subst hg
      exact ⟨_, by simp [resSem], ht.rel t ‹_›⟩
    · cases hc
  | cell t ty =>
    simp only [cRes] at hc
    split at hc
    · rename_i htN
      simp only [Option.map_eq_some_iff] at hc
      obtain ⟨ag, hag, rfl⟩ := hc
      have hopd : cOpd N (.tmp t) = some (.t t) := by simp [cOpd, htN]
      have key : Yields P E a { dst := none, op := .load ty (.tmp t), type := 0, pos := "", after := #[], guard := none } r := by
        cases ag with
        | none => exact yields_ldc hs rfl hag hopd ht hg
        | some k => exact yields_lda hs rfl hag hopd ht hg
      obtain ⟨v, hrun, hrel⟩ := key
      obtain ⟨ad, hx, hl⟩ := load_run (r := v) 0 hrun
      have hx' : a.tmps.getD t undef = .pointer (some ad) := hx
      exact ⟨v, by simp only [resSem, hx', asAddr, Sem.run_bind, Sem.run_pure, Result.andThen_ok, hl], hrel⟩
    · cases hc

theorem results_rel (hs : Sim E) (ht : TmRel E N tm a) {fn : Func} {res : List ARes} (hc : (fn.results.toList.mapM fun r => cRes P N r) = some res) {r : AV} (hg : resOf res tm E.h = some r) : ∃ v, (results fn a.tmps).run P E.w = .ok v E.w ∧ Rel E r v := by
  obtain ⟨hl, hget⟩ := mapM_some _ _ _ hc
  -- all of them
  have all : ∀ (rvs : List ResultVar) (rs : List ARes) (vs : List AV), (rvs.mapM fun r => cRes P N r) = some rs → (rs.mapM fun (r : ARes) => r.get tm E.h) = some vs →
      ∃ us : List Value, (rvs.mapM (m := Sem) (resSem a.tmps)).run P E.w = .ok us E.w ∧ RelL E vs us := by
    intro rvs
    induction rvs with
    | nil =>
      intro rs vs h1 h2
      simp at h1; subst h1
      simp at h2; subst h2
      exact ⟨[], by simp, RelL.nil E⟩
    | cons rv rvs ih =>
      intro rs vs h1 h2
      rw [List.mapM_cons] at h1
      cases hr : cRes P N rv with
      | none => simp [hr] at h1
      | some ar =>
        cases hrs : (rvs.mapM fun r => cRes P N r) with
        | none => simp [hr, hrs] at h1
        | some rs' =>
          simp [hr, hrs] at h1
          subst h1
          rw [List.mapM_cons] at h2
          cases hv : ar.get tm E.h with
          | none => simp [hv] at h2
          | some v =>
            cases hvs : (rs'.mapM fun (r : ARes) => r.get tm E.h) with
            | none => simp [hv, hvs] at h2
            | some vs' =>
              simp [hv, hvs] at h2
              subst h2
              obtain ⟨u, hu, hru⟩ := res_one (P := P) hs ht hr hv
              obtain ⟨us, hus, hrus⟩ := ih rs' vs' hrs hvs
              refine ⟨u :: us, ?_, ⟨by simp [hrus.1], fun j c u' hc' hu' => ?_⟩⟩
              · rw [List.mapM_cons]
                simp only [Sem.run_bind, hu, Result.andThen_ok, hus, Sem.run_pure]
              · cases j with
                | zero => simp at hc' hu'; subst hc'; subst hu'; exact hru
                | succ j => simp at hc' hu'; exact hrus.2 j c u' hc' hu'
  have hrun : ∀ us : List Value, (fn.results.toList.mapM (m := Sem) (resSem a.tmps)).run P E.w = .ok us E.w →
      (results fn a.tmps).run P E.w = .ok (if h : us.length = 1 then us[0] else .tuple us.toArray) E.w := by
    intro us hus
    have e : results fn a.tmps = (do let vs ← fn.results.mapM (resSem a.tmps); pure (if h : vs.size = 1 then vs[0] else .tuple vs)) := by
      unfold results
      congr 1
    rw [e, Array.mapM_eq_mapM_toList]
    simp only [Sem.run_bind, Sem.run_map, hus, Result.andThen_ok]
    simp
  unfold resOf at hg
  split at hg
  · rename_i ar
    have h1 : fn.results.toList.length = 1 := by rw [← hl]; rfl
    obtain ⟨us, hus, hr⟩ := all fn.results.toList [ar] [r] hc (by simp [hg])
    refine ⟨_, hrun us hus, ?_⟩
    have hul : us.length = 1 := hr.1
    rw [dif_pos hul]
    exact hr.2 0 r _ rfl (List.getElem?_eq_getElem (by omega))
  · rename_i hne
    cases hvs : (res.mapM fun (r : ARes) => r.get tm E.h) with
    | none => simp [hvs] at hg
    | some vs =>
      simp [hvs] at hg
      subst hg
      obtain ⟨us, hus, hr⟩ := all fn.results.toList res vs hc hvs
      refine ⟨_, hrun us hus, ?_⟩
      have hvl := (mapM_some _ _ _ hvs).1
      have hul : us.length ≠ 1 := by
        intro h1
        have : res.length = 1 := by rw [← hvl, ← hr.1]; exact h1
        cases res with
        | nil => simp at this
        | cons x l =>
          have : l = [] := by simpa using this
          subst this
          exact hne x rfl
      rw [dif_neg hul]
      exact .tup vs us hr.1 hr.2

/-- A FUNCTION'S CONTRACT, out of its compiled code. -/
theorem calls_of {quiet : FuncId → Bool} (hm : P.follows .mixedOrders = true) {f : FuncId} {fn : Func} (hf : P.funcs[f]? = some fn) {c : AFn} (hc : compFn P quiet fn = some c) {args : List AV} (hn : args.length ≤ c.n) {h : Hp} {Q : AV → Hp → Prop}
    (haw : AW P c.code (fun e tm h' => match e with | .exit _ => False | _ => Gives Q (resOf c.res tm h') h') (initTm args) h) : ACalls P f args h Q := by
  simp only [compFn, Option.bind_eq_some_iff] at hc
  obtain ⟨code, hbody, ac, hac, res, hres, hc⟩ := hc
  split at hc
  · cases hc
  · rename_i hname
    cases hc
    refine ⟨by simp [callable, hf, hbody, hname], fun E cargs hs hh hr => ?_⟩
    subst hh
    have hlen : cargs.length ≤ fn.ntmps := by rw [hr.1]; exact hn
    have ht : TmRel E fn.ntmps (initTm args) { tmps := cargs.toArray ++ Array.replicate (fn.ntmps - cargs.toArray.size) undef, defers := [] } := by
      refine ⟨by simp; omega, rfl, fun t htN => ?_⟩
      simp only [initTm, List.getD, Array.getD_eq_getD_getElem?]
      by_cases h1 : t < cargs.length
      · rw [Array.getElem?_append_left (by simpa using h1)]
        have h2 : args[t]? = some (args[t]'(by rw [← hr.1]; exact h1)) := List.getElem?_eq_getElem _
        have h3 : cargs[t]? = some cargs[t] := List.getElem?_eq_getElem h1
        rw [h2]
        simp only [List.getElem?_toArray, h3, Option.getD_some]
        exact hr.2 t _ _ h2 h3
      · rw [Array.getElem?_append_right (by simpa using Nat.le_of_not_lt h1)]
        have h2 : args[t]? = none := List.getElem?_eq_none (by rw [← hr.1]; omega)
        rw [h2]
        have h3 : (Array.replicate (fn.ntmps - cargs.toArray.size) undef)[t - cargs.toArray.size]? = some undef := by
          rw [Array.getElem?_replicate, if_pos (by simp; omega)]
        rw [h3]
        exact Rel.undef E
    refine calls_of_wp hf hbody (wp_mono (aw_sound hm code ac _ E (initTm args) _ hac hs ht haw) ?_)
    rintro e a' w' ⟨ae, E', tm', rfl, rfl, s', x', t', hq⟩
    have fin : Gives Q (resOf res tm' E'.h) E'.h → a'.defers = [] ∧ ∃ v, (results fn a'.tmps).run P E'.w = .ok v E'.w ∧ ∃ (v' : Value) (r : AV) (E'' : Env), Ending.returned v = .returned v' ∧ E''.w = E'.w ∧ Sim E'' ∧ Ext E E'' ∧ Rel E'' r v' ∧ Q r E''.h := by
      rintro ⟨r, hr', r', h', hsub, hfrz, hq'⟩
      obtain ⟨v, hrun, hrel⟩ := results_rel (P := P) s' t' hres hr'
      obtain ⟨x2, s2⟩ := forget' s' hsub
      exact ⟨t'.defers, v, hrun, v, r', { E' with h := h' }, rfl, rfl, s2, x'.trans x2, hfrz.rel s' hsub hrel, hq'⟩
    cases ae with
    | normal => exact fin hq
    | exit id => exact hq.elim
    | ret => exact fin hq

end Go.AM
