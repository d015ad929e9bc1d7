/- AM, 20: regions whose order is open: out of the checks. -/
import Derived.Test.YtcpkdbofohkipaaKAmDraw2
set_option linter.unusedVariables false
set_option linter.unusedSimpArgs false
set_option linter.unusedSimpArgs false
set_option linter.unusedVariables false
namespace Go.AM
variable {P : Program} {N : Nat} {E : Env} {tm : Tm} {a : Act}

theorem cOpsFrom_get {ops : Array Oper} : ∀ (l : List Oper) (r : List AIns), cOpsFrom P N ops l = some r → r.length = l.length ∧ ∀ (j : Nat) (o : Oper), l[j]? = some o → ∃ ai, r[j]? = some ai ∧ cIns P N ops o = some ai := by
  intro l
  induction l with
  | nil => intro r h; simp [cOpsFrom] at h; subst h; simp
  | cons o l ih =>
    intro r h
    simp only [cOpsFrom, Option.bind_eq_some_iff, Option.map_eq_some_iff] at h
    obtain ⟨ai, hai, r', hr', rfl⟩ := h
    obtain ⟨h1, h2⟩ := ih r' hr'
    refine ⟨by simp [h1], fun j o' hj => ?_⟩
    cases j with
    | zero => simp at hj; subst hj; exact ⟨ai, rfl, hai⟩
    | succ j => simpa using h2 j o' (by simpa using hj)

theorem dstIn_iff {d : Option Nat} {l : List Nat} : dstIn d l = true ↔ ∃ t, d = some t ∧ t ∈ l := by
  cases d <;> simp [dstIn]

theorem dstSame_iff {d e : Option Nat} : dstSame d e = true ↔ ∃ t, d = some t ∧ e = some t := by
  cases d <;> cases e <;> simp [dstSame] <;> exact eq_comm

theorem mem_take {α : Type} {l : List α} {q : Nat} {x : α} (h : x ∈ l.take q) : ∃ q' : Nat, q' < q ∧ l[q']? = some x := by
  obtain ⟨j, hj⟩ := List.getElem?_of_mem h
  rw [List.getElem?_take] at hj
  split at hj
  · exact ⟨j, ‹_›, hj⟩
  · cases hj

theorem take_mem {α : Type} {l : List α} {q q' : Nat} {x : α} (h : q' < q) (hx : l[q']? = some x) : x ∈ l.take q :=
  List.mem_of_getElem? (i := q') (by rw [List.getElem?_take, if_pos h]; exact hx)

theorem isEff_mono {quiet : FuncId → Bool} {op : AOp} (h : isEff quiet op = false) : isEff (fun _ => true) op = false := by
  cases op <;> first | rfl | (simp [isEff] at h)

theorem draw_facts {quiet : FuncId → Bool} {ops : Array Oper} {steps : List DStep} (h : cDraw P N quiet ops = some steps) :
    ∃ (n : Nat) (bf : Nat → Nat) (ai : Nat → AIns) (eff : Nat → Bool) (ord : List Nat), DFacts P N ops n bf ai eff ord steps := by
  simp only [cDraw, Option.bind_eq_some_iff] at h
  obtain ⟨ais, hais, h⟩ := h
  obtain ⟨hl, hg⟩ := cOpsFrom_get _ _ hais
  generalize hord : dOrd quiet ops ais = ord at h
  generalize hef : dEff quiet ops ais = eff at h
  generalize hai : dAi ais = ai at h
  generalize hps : dPs ops = ps at h
  generalize hbf : dBf ops = bf at h
  split at h
  · rename_i hok
    cases h
    simp only [drawOK, Bool.and_eq_true, beq_iff_eq, List.all_eq_true, List.mem_range] at hok
    obtain ⟨⟨⟨h1, h2⟩, h3⟩, h4⟩ := hok
    have hsize : ops.size = ais.length := by rw [hl]; simp
    have hins : ∀ i, i < ais.length → ∃ o, ops[i]? = some o ∧ cIns P N ops o = some (ai i) := by
      intro i hi
      have ho : ops.toList[i]? = some (ops.toList[i]'(by rw [← hl]; exact hi)) := List.getElem?_eq_getElem _
      obtain ⟨x, hx, hx2⟩ := hg i _ ho
      refine ⟨_, by rw [← Array.getElem?_toList]; exact ho, ?_⟩
      rw [hx2, ← hai]
      simp [dAi, List.getD, hx]
    have hpreds : ∀ (i : Nat) (o : Oper), ops[i]? = some o → ps i = preds o := by
      intro i o ho
      rw [← hps]
      simp [dPs, List.getD, ho]
    have h3' : ∀ (q i : Nat), ord[q]? = some i → i < ais.length ∧ i ∉ ord.take q ∧ (∀ j ∈ ps i, j ∈ ord.take q) ∧ (eff i = true → ∀ j ∈ ord.drop (q + 1), (bf j).testBit i = true) := by
      intro q i hq
      have hql : q < ais.length := by rw [← h1]; exact (List.getElem?_eq_some_iff.1 hq).1
      have := h3 q hql
      rw [hq] at this
      simp at this
      obtain ⟨⟨⟨a1, a2⟩, a3⟩, a4⟩ := this
      refine ⟨a1, a2, a3, fun he => ?_⟩
      rcases a4 with h | h
      · rw [he] at h; cases h
      · exact h
    refine ⟨ais.length, bf, ai, eff, ord, ⟨hsize, hins, h1, fun i hi => ?_, fun q i hq => (h3' q i hq).1, fun q q' i hq hq' => ?_, fun q i o hq ho j hj => ?_, fun q i hq he q' j hlt hq' => ?_, fun i j d hi hj hne hd hd' => ?_, fun i j d hi hj hne hd hdl => ?_, fun i d hi he hd hdl => ?_, fun i hi he => ?_, fun i o j hi ho hb hj => ?_, fun i hi he => ?_, fun q i hq => ?_, by simp⟩⟩
    · have := h2 i hi
      simp at this
      exact List.getElem?_of_mem this
    · rcases Nat.lt_trichotomy q q' with h | h | h
      · exact absurd (take_mem h hq) (h3' q' i hq').2.1
      · exact h
      · exact absurd (take_mem h hq') (h3' q i hq).2.1
    · exact mem_take ((h3' q i hq).2.2.1 j (by rw [hpreds i o ho]; exact hj))
    · refine (h3' q i hq).2.2.2 he j (List.mem_of_getElem? (i := q' - (q + 1)) ?_)
      rw [List.getElem?_drop, ← hq']
      congr 1
      omega
    · have := (h4 i hi).1.1 j hj
      simp only [Bool.or_eq_true, beq_iff_eq, Bool.and_eq_true, Bool.not_eq_true'] at this
      rcases this with h | ⟨h, _⟩
      · exact hne h
      · have h5 : dstSame (ai i).dst (ai j).dst = true := dstSame_iff.2 ⟨d, hd, hd'⟩
        rw [h5] at h; cases h
    · have := (h4 i hi).1.1 j hj
      simp only [Bool.or_eq_true, beq_iff_eq, Bool.and_eq_true, Bool.not_eq_true'] at this
      rcases this with h | ⟨_, h⟩
      · exact absurd h hne
      · rcases h with (h | h) | h
        · have h5 : dstIn (ai i).dst (ai j).looks = true := dstIn_iff.2 ⟨d, hd, hdl⟩
          rw [h5] at h; cases h
        · exact .inl h
        · exact .inr h
    · have := (h4 i hi).1.2
      simp only [Bool.or_eq_true, Bool.and_eq_true, Bool.not_eq_true'] at this
      rcases this with h | ⟨h, _⟩
      · rw [he] at h; cases h
      · have h5 : dstIn (ai i).dst (ai i).looks = true := dstIn_iff.2 ⟨d, hd, hdl⟩
        rw [h5] at h; cases h
    · have := (h4 i hi).1.2
      simp only [Bool.or_eq_true, Bool.and_eq_true, Bool.not_eq_true'] at this
      rcases this with h | ⟨_, h⟩
      · rw [he] at h; cases h
      · exact Option.isSome_iff_exists.1 h
    · have := (h4 i hi).2 j hj
      simp only [Bool.or_eq_true, Bool.not_eq_true', List.contains_iff_mem, List.any_eq_true] at this
      rcases this with (h | h) | ⟨k, h, h'⟩
      · rw [hb] at h; cases h
      · exact .inl (by rw [← hpreds i o ho]; exact h)
      · exact .inr ⟨k, by rw [← hpreds i o ho]; exact h, h'⟩
    · rw [← hef] at he
      simp only [dEff, dEffs, List.getD, List.getElem?_map, List.getElem?_range hi, Option.map_some, Option.getD_some, Bool.or_eq_false_iff] at he
      rw [hai] at he
      exact isEff_mono he.1
    · have hql : q < ais.length := by rw [← h1]; exact (List.getElem?_eq_some_iff.1 hq).1
      have hgd : ord.getD q 0 = i := by simp [List.getD, hq]
      refine ⟨if eff i then dChk ops ais eff ord q i else [], by simp [hql, hq], fun he q' j hlt hq' hej hhf hb => ?_⟩
      rw [if_pos he, dChk, hai, hbf]
      exact List.mem_map.2 ⟨j, List.mem_filter.2 ⟨take_mem hlt hq', by simp [hej, hhf, hb]⟩, rfl⟩
  · cases h

theorem filter_lt {α : Type} (f g : α → Bool) : ∀ (l : List α), (∀ x ∈ l, g x = true → f x = true) → (∃ x ∈ l, f x = true ∧ g x = false) → (l.filter g).length < (l.filter f).length := by
  intro l
  induction l with
  | nil => rintro _ ⟨x, hx, _⟩; cases hx
  | cons y l ih =>
    intro hfg hex
    have hle : (l.filter g).length ≤ (l.filter f).length := by
      clear ih hex
      induction l with
      | nil => simp
      | cons z l ih2 =>
        have h1 := ih2 fun x hx => hfg x (by rcases List.mem_cons.1 hx with h | h <;> simp [h])
        have h2 := hfg z (by simp)
        simp only [List.filter_cons]
        cases hg : g z <;> cases hf : f z <;> simp_all <;> omega
    obtain ⟨x, hx, hxf, hxg⟩ := hex
    simp only [List.filter_cons]
    by_cases e : x = y
    · subst e
      simp [hxf, hxg]
      omega
    · have hxl : x ∈ l := by
        rcases List.mem_cons.1 hx with h | h
        · exact absurd h e
        · exact h
      have := ih (fun z hz => hfg z (by simp [hz])) ⟨x, hxl, hxf, hxg⟩
      have h2 := hfg y (by simp)
      cases hg : g y <;> cases hf : f y <;> simp_all <;> omega

theorem any_sound {ops : Array Oper} {n : Nat} {bf : Nat → Nat} {ai : Nat → AIns} {eff : Nat → Bool} {ord : List Nat} {steps : List DStep} (F : DFacts P N ops n bf ai eff ord steps) {K : Tm → Hp → Prop} {tm0 : Tm} {Q : Exit → Act → World → Prop} {E0 : Env}
    (hk : ∀ (E' : Env) (tm' : Tm) (a' : Act), Sim E' → Ext E0 E' → TmRel E' N tm' a' → K tm' E'.h → Q .normal a' E'.w) :
    ∀ (fuel : Nat) (listed : Array Bool) (p : Nat) (tmp : Tm) (E : Env) (a : Act), listed.size = n → ((List.range n).filter fun i => !(listed.getD i false)).length ≤ fuel →
      DInv P N n bf ai eff ord steps K tm0 (fun i => listed.getD i false = true) p tmp E a → (∀ i : Nat, ord[p]? = some i → eff i = true) → Ext E0 E → wpAny P .any ops Q fuel listed a E.w := by
  -- where nothing is ready all is done
  have hend : ∀ (listed : Array Bool) (p : Nat) (tmp : Tm) (E : Env) (a : Act), listed.size = n → (∀ i, i < n → listed.getD i false = true) → DInv P N n bf ai eff ord steps K tm0 (fun i => listed.getD i false = true) p tmp E a → Ext E0 E → Q .normal a E.w := by
    intro listed p tmp E a hsz hall I hx
    have hpn : p = n := by
      rcases Nat.lt_or_ge p n with h | h
      · exfalso
        have hi : ord[p]? = some (ord[p]'(by rw [F.ordlen]; exact h)) := List.getElem?_eq_getElem _
        exact I.undone p _ (Nat.le_refl _) hi (hall _ (F.lt p _ hi))
      · have := I.hp; omega
    subst hpn
    have hrest := I.rest
    rw [List.drop_of_length_le (by rw [F.steplen]; exact Nat.le_refl _)] at hrest
    refine hk E tmp a I.sim hx ?_ hrest
    have : cur ai ord p (fun i => listed.getD i false = true) tm0 tmp = tmp := by
      funext t
      unfold cur
      rw [if_neg]
      rintro ⟨q, i, h1, h2, _, h4⟩
      exact h4 (hall i (F.lt q i h2))
    rw [← this]
    exact I.rel
  have hready : ∀ (listed : Array Bool), listed.size = n → Region.ready .any ops listed = [] → ∀ i, i < n → listed.getD i false = true := by
    intro listed hsz hr
    have key : ∀ q i : Nat, ord[q]? = some i → listed.getD i false = true := by
      intro q
      induction q using Nat.strongRecOn with
      | _ q ih =>
        intro i hi
        have hin := F.lt q i hi
        obtain ⟨o, ho, _⟩ := F.ins i hin
        cases hli : listed.getD i false with
        | true => rfl
        | false =>
          exfalso
          have hmem : i ∈ Region.ready .any ops listed := by
            unfold Region.ready
            refine List.mem_filter.2 ⟨by simp [F.size]; exact hin, ?_⟩
            have hlt : i < listed.size := by rw [hsz]; exact hin
            have h1 : listed.getD i true = false := by
              simp only [Array.getD, hlt, dif_pos] at hli ⊢
              exact hli
            simp only [h1, Bool.not_false, Bool.true_and, ho, Option.map_some, Option.getD_some]
            rw [Array.all_eq_true_iff_forall_mem]
            intro e he
            cases hb : Region.binds .any e with
            | false => simp
            | true =>
              have hp : e.on ∈ preds o := by
                unfold preds
                exact List.mem_map.2 ⟨e, List.mem_filter.2 ⟨by simpa using he, hb⟩, rfl⟩
              obtain ⟨q', hlt', hq'⟩ := F.pred q i o hi ho e.on hp
              simp [ih q' hlt' e.on hq']
          rw [hr] at hmem
          cases hmem
    intro i hi
    obtain ⟨q, hq⟩ := F.all i hi
    exact key q i hq
  intro fuel
  induction fuel with
  | zero =>
    intro listed p tmp E a hsz hcnt I hn hx
    have hall : ∀ i, i < n → listed.getD i false = true := by
      intro i hi
      cases hli : listed.getD i false with
      | true => rfl
      | false =>
        have : i ∈ (List.range n).filter fun i => !(listed.getD i false) := List.mem_filter.2 ⟨by simpa using hi, by rw [hli]; rfl⟩
        have h0 : (List.range n).filter (fun i => !(listed.getD i false)) = [] := List.eq_nil_of_length_eq_zero (by omega)
        rw [h0] at this
        cases this
    refine ⟨?_, hend listed p tmp E a hsz hall I hx⟩
    unfold Region.ready
    apply List.filter_eq_nil_iff.2
    intro i hi
    have hin : i < n := by simpa [F.size] using hi
    have hlt : i < listed.size := by rw [hsz]; exact hin
    have h1 := hall i hin
    have : listed.getD i true = true := by
      simp only [Array.getD, hlt, dif_pos] at h1 ⊢
      exact h1
    simp [this]
  | succ fuel ih =>
    intro listed p tmp E a hsz hcnt I hn hx
    refine ⟨fun hr => hend listed p tmp E a hsz (hready listed hsz hr) I hx, fun i hi => ?_⟩
    unfold Region.ready at hi
    obtain ⟨hi1, hi2⟩ := List.mem_filter.1 hi
    have hin : i < n := by simpa [F.size] using hi1
    have hlt : i < listed.size := by rw [hsz]; exact hin
    obtain ⟨o, ho, _⟩ := F.ins i hin
    simp only [ho, Option.map_some, Option.getD_some, Bool.and_eq_true, Bool.not_eq_true'] at hi2
    obtain ⟨hi3, hi4⟩ := hi2
    have hli : listed.getD i false = false := by
      simp only [Array.getD, hlt, dif_pos] at hi3 ⊢
      exact hi3
    rw [Array.all_eq_true_iff_forall_mem] at hi4
    have hpre : ∀ j ∈ preds o, listed.getD j false = true := by
      intro j hj
      unfold preds at hj
      obtain ⟨e, he, rfl⟩ := List.mem_map.1 hj
      obtain ⟨he1, he2⟩ := List.mem_filter.1 he
      have := hi4 e (by simpa using he1)
      simpa [he2] using this
    have hb : ∀ j, j < n → (bf i).testBit j = true → listed.getD j false = true := by
      intro j hj hbit
      rcases F.clos i o j hin ho hbit hj with h | ⟨k, hkp, hkb⟩
      · exact hpre j h
      · have hkl := hpre k hkp
        have hkn : k < n := by
          rcases Nat.lt_or_ge k n with h | h
          · exact h
          · simp [Array.getD, show ¬ k < listed.size by omega] at hkl
        exact I.closed k hkn hkl j hj hkb
    refine I.ready F hn hin (by rw [hli]; simp) hb fun p' tmp' E' a' I' hn' x' => ?_
    have hset : ∀ j, (listed.setIfInBounds i true).getD j false = true ↔ (listed.getD j false = true ∨ j = i) := by
      intro j
      by_cases e : j = i
      · subst e
        simp [Array.getD, hlt]
      · simp only [e, or_false]
        simp only [Array.getD_eq_getD_getElem?]
        rw [Array.getElem?_setIfInBounds_ne (Ne.symm e)]
    refine ih (listed.setIfInBounds i true) p' tmp' E' a' (by simpa using hsz) ?_ ?_ hn' (hx.trans x')
    · have := filter_lt (fun j => !(listed.getD j false)) (fun j => !((listed.setIfInBounds i true).getD j false)) (List.range n) (fun j _ hj => by
        cases hlj : listed.getD j false with
        | false => rfl
        | true =>
          have := (hset j).2 (.inl hlj)
          rw [this] at hj
          cases hj) ⟨i, by simpa using hin, by rw [hli]; rfl, by rw [(hset i).2 (.inr rfl)]; rfl⟩
      omega
    · have hL : (fun j => (listed.setIfInBounds i true).getD j false = true) = fun j => listed.getD j false = true ∨ j = i := by
        funext j
        exact propext (hset j)
      rw [hL]
      exact I'

/-- A REGION WHOSE ORDER IS OPEN. -/
theorem draw_sound {quiet : FuncId → Bool} {ops : Array Oper} {steps : List DStep} (hc : cDraw P N quiet ops = some steps) (hm : P.follows .mixedOrders = true) {id : Nat} {K : Tm → Hp → Prop} {Q : Exit → Act → World → Prop} (hs : Sim E) (ht : TmRel E N tm a) (h : DOps P steps K tm E.h)
    (hk : ∀ (E' : Env) (tm' : Tm) (a' : Act), Sim E' → Ext E E' → TmRel E' N tm' a' → K tm' E'.h → Q .normal a' E'.w) : (Code.region id ops true).wp P Q a E.w := by
  obtain ⟨n, bf, ai, eff, ord, F⟩ := draw_facts hc
  refine wp_region_any hm ?_
  obtain ⟨x1, s1⟩ := drew_ext hs
  have hrep : ∀ j, (Array.replicate ops.size false).getD j false = false := by
    intro j
    simp only [Array.getD_eq_getD_getElem?, Array.getElem?_replicate]
    split <;> rfl
  have I0 : DInv P N n bf ai eff ord steps K tm (fun i => (Array.replicate ops.size false).getD i false = true) 0 tm { E with w := E.w.drew } a := by
    refine ⟨Nat.zero_le _, (fun q i hq => by omega), (fun q i _ _ => by rw [hrep]; simp), (fun i _ hi => by rw [hrep] at hi; cases hi), h, s1, ?_, (fun _ _ => rfl), (fun q i hq => by omega)⟩
    have : cur ai ord 0 (fun i => (Array.replicate ops.size false).getD i false = true) tm tm = tm := by
      funext t
      unfold cur
      rw [if_neg]
      rintro ⟨q, i, h1, _⟩
      omega
    rw [this]
    exact ht.mono x1
  obtain ⟨p, tmp, I, hn⟩ := DInv.advanceAll F n 0 tm (by omega) I0
  exact any_sound F (E0 := E) hk ops.size _ p tmp _ a (by simp [F.size]) (by
    have := List.length_filter_le (fun i => !((Array.replicate ops.size false).getD i false)) (List.range n)
    rw [List.length_range] at this
    rw [F.size]
    rw [F.size] at this
    exact this) I hn x1

end Go.AM
