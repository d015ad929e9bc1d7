/- AM, 16: what code does: regions, branches, loops; ghost steps; a function's contract out of its code's. -/
import Derived.Test.YtcpkdbofohkipaaGreatK2
import Derived.Deep.LoopGhost
set_option linter.unusedVariables false
set_option linter.unusedSimpArgs false
namespace Go.AM
variable {P : Program} {N : Nat} {E : Env} {tm : Tm} {a : Act}

/-! ### Ghost steps -/

/-- Some objects are let go. -/
def Sub (h' h : Hp) : Prop := ∀ id, h' id = h id ∨ h' id = .dead

theorem Sub.refl (h : Hp) : Sub h h := fun _ => .inl rfl
theorem Sub.trans {a b c : Hp} (h : Sub a b) (k : Sub b c) : Sub a c := fun id => by
  rcases h id with h1 | h1
  · rcases k id with h2 | h2
    · exact .inl (h1.trans h2)
    · exact .inr (h1.trans h2)
  · exact .inr h1
theorem Sub.fresh {h' h : Hp} {id : Nat} {o : AObj} (k : Sub h' h) (hd : h' id = .dead) : Sub h' (hset h id o) := fun i => by
  by_cases e : i = id
  · subst e; exact .inr hd
  · simp only [hset, if_neg e]; exact k i
theorem Sub.set {h' h : Hp} {id : Nat} {o : AObj} (k : Sub h' h) : Sub (hset h' id o) (hset h id o) := fun i => by
  by_cases e : i = id
  · subst e; simp [hset]
  · simp only [hset, if_neg e]; exact k i
theorem Sub.kill {h : Hp} {id : Nat} : Sub (hset h id .dead) h := fun i => by
  by_cases e : i = id
  · subst e; simp [hset]
  · simp [hset, e]
theorem Sub.dead {h' h : Hp} (k : Sub h' h) {id : Nat} (hd : h id = .dead) : h' id = .dead := by
  rcases k id with h1 | h1
  · exact h1.trans hd
  · exact h1

/-- A value as it reads when some arrays are let go. -/
inductive Frz (h h' : Hp) : AV → AV → Prop
  | same (v : AV) : Frz h h' v v
  | sl (id off len e sz : Nat) (xs : List (List AV)) (hh : h id = .arr e sz xs) (hle : off + len ≤ xs.length) (hd : h' id = .dead) (ys : List (List AV)) (hl : ys.length = len)
      (hly : ∀ (i : Nat) (x y : List AV), xs[off + i]? = some x → ys[i]? = some y → y.length = x.length)
      (hy : ∀ (i : Nat) (x y : List AV) (j : Nat) (c d : AV), xs[off + i]? = some x → ys[i]? = some y → x[j]? = some c → y[j]? = some d → Frz h h' c d) : Frz h h' (.sl id off len) (.fz ys)
  | agg (cs ds : List AV) (hl : ds.length = cs.length) (hy : ∀ (j : Nat) (c d : AV), cs[j]? = some c → ds[j]? = some d → Frz h h' c d) : Frz h h' (.agg cs) (.agg ds)
  | tup (cs ds : List AV) (hl : ds.length = cs.length) (hy : ∀ (j : Nat) (c d : AV), cs[j]? = some c → ds[j]? = some d → Frz h h' c d) : Frz h h' (.tup cs) (.tup ds)

theorem Frz.one {h h' : Hp} {c d : AV} (k : Frz h h' c d) : d.one = c.one := by cases k <;> rfl

theorem Frz.rel (hs : Sim E) {h' : Hp} (hsub : Sub h' E.h) {r r' : AV} (k : Frz E.h h' r r') : ∀ {v : Value}, Rel E r v → Rel { E with h := h' } r' v := by
  obtain ⟨hx, hs'⟩ := forget' hs hsub
  induction k with
  | same v => exact fun h => hx.rel _ _ h
  | sl id off len e sz xs hh hle hd ys hl hly hy ih =>
    intro v hv
    have hfz := freeze_rel hs hh hle hsub hd hv
    obtain ⟨b, cap, blk, o, sz', us, e1, hb, hcap, hsz, h1, hc, hr⟩ := hfz.fz_inv
    have hln : ((xs.drop off).take len).length = len := by simp; omega
    have hget : ∀ i x, xs[off + i]? = some x → i < len → ((xs.drop off).take len)[i]? = some x := fun i x hx' hi => by
      rw [List.getElem?_take, if_pos hi, List.getElem?_drop]; exact hx'
    have hxi : ∀ i, i < len → ∃ x, xs[off + i]? = some x := fun i hi => ⟨_, List.getElem?_eq_getElem (by omega)⟩
    -- the cells' own values, in the old environment
    obtain ⟨us0, hb0, hl0, hxk, hkm, hpos, hlen0, hone0, huo0, hru0⟩ := arr_row hs hh
    obtain ⟨b', cap', e1', hn', hp'⟩ := hv.sl_inv
    obtain ⟨q1, q2, q3⟩ := hp' e sz xs hh
    have hdd : E.h id ≠ .dead := by rw [hh]; simp
    rw [e1', ← hl]
    refine .fz ys b' cap' (E.ι id) (off * sz) sz (fun i j => us0.getD ((off + i) * sz + j) undef) (fun hne => ?_) (by omega) (fun y hy' => ?_) (fun y hy' c hc' => ?_) (fun i y j d hyi hj => ?_) (fun i y j d hyi hj => ?_)
    · have hpos' : 0 < ys.length := List.length_pos_iff.2 hne
      refine ⟨?_, fun hlv => ?_, hs.lt id hdd⟩
      · rcases q3 with ⟨_, h5⟩ | h5
        · omega
        · exact h5
      · obtain ⟨i, hi1, hi2⟩ := hlv
        have hi1' : h' i ≠ .dead := hi1
        have : E.h i ≠ .dead := by
          rcases hsub i with h | h
          · exact h ▸ hi1'
          · exact absurd h hi1'
        have := hs.inj i id this hdd hi2
        subst this
        exact hi1' hd
    · obtain ⟨i, hi⟩ := List.getElem?_of_mem hy'
      have hil : i < len := by rw [← hl]; exact (List.getElem?_eq_some_iff.1 hi).1
      obtain ⟨x, hx'⟩ := hxi i hil
      rw [hly i x y hx' hi]
      exact hlen0 x (List.mem_of_getElem? hx')
    · obtain ⟨i, hi⟩ := List.getElem?_of_mem hy'
      obtain ⟨j, hj⟩ := List.getElem?_of_mem hc'
      have hil : i < len := by rw [← hl]; exact (List.getElem?_eq_some_iff.1 hi).1
      obtain ⟨x, hx'⟩ := hxi i hil
      have hjl : j < x.length := by rw [← hly i x y hx' hi]; exact (List.getElem?_eq_some_iff.1 hj).1
      have hxj : x[j]? = some x[j] := List.getElem?_eq_getElem hjl
      rw [(hy i x y j _ c hx' hi hxj hj).one]
      exact hone0 x (List.mem_of_getElem? hx') _ (List.getElem_mem hjl)
    · have hil : i < len := by rw [← hl]; exact (List.getElem?_eq_some_iff.1 hyi).1
      obtain ⟨x, hx'⟩ := hxi i hil
      have hjl : j < x.length := by rw [← hly i x y hx' hyi]; exact (List.getElem?_eq_some_iff.1 hj).1
      obtain ⟨u, hu, hr'⟩ := hru0 (off + i) x j _ hx' (List.getElem?_eq_getElem hjl)
      show E.w.cell? _ = _
      rw [cell_row hb0]
      have e : off * sz + i * sz + j = (off + i) * sz + j := by rw [Nat.add_mul]
      rw [e, hu]
      simp [List.getD, hu]
    · have hil : i < len := by rw [← hl]; exact (List.getElem?_eq_some_iff.1 hyi).1
      obtain ⟨x, hx'⟩ := hxi i hil
      have hjl : j < x.length := by rw [← hly i x y hx' hyi]; exact (List.getElem?_eq_some_iff.1 hj).1
      have hxj : x[j]? = some x[j] := List.getElem?_eq_getElem hjl
      obtain ⟨u, hu, hr'⟩ := hru0 (off + i) x j _ hx' hxj
      simp only [List.getD, hu, Option.getD_some]
      exact ih i x y j _ d hx' hyi hxj hj hr'
  | agg cs ds hl hy ih =>
    intro v hv
    obtain ⟨us, rfl, hul, h1, hr⟩ := hv.agg_inv
    have hcd : ∀ j d, ds[j]? = some d → ∃ c, cs[j]? = some c := fun j d hd => ⟨_, List.getElem?_eq_getElem (by rw [← hl]; exact (List.getElem?_eq_some_iff.1 hd).1)⟩
    refine .agg ds us (by omega) (fun d hd => ?_) (fun j d u hd hu => ?_)
    · obtain ⟨j, hj⟩ := List.getElem?_of_mem hd
      obtain ⟨c, hc⟩ := hcd j d hj
      rw [(hy j c d hc hj).one]
      exact h1 c (List.mem_of_getElem? hc)
    · obtain ⟨c, hc⟩ := hcd j d hd
      exact ih j c d hc hd (hr.2 j c u hc hu)
  | tup cs ds hl hy ih =>
    intro v hv
    obtain ⟨us, rfl, hr⟩ := hv.tup_inv
    have hcd : ∀ j d, ds[j]? = some d → ∃ c, cs[j]? = some c := fun j d hd => ⟨_, List.getElem?_eq_getElem (by rw [← hl]; exact (List.getElem?_eq_some_iff.1 hd).1)⟩
    refine .tup ds us (by rw [hr.1, hl]) (fun j d u hd hu => ?_)
    obtain ⟨c, hc⟩ := hcd j d hd
    exact ih j c d hc hd (hr.2 j c u hc hu)

/-- A ghost step of a state: objects let go, slots that read anew. -/
def Gho (tm : Tm) (h : Hp) (tm' : Tm) (h' : Hp) : Prop := Sub h' h ∧ ∀ t, Frz h h' (tm t) (tm' t)

theorem Gho.refl (tm : Tm) (h : Hp) : Gho tm h tm h := ⟨Sub.refl h, fun _ => .same _⟩
theorem Gho.sub {tm : Tm} {h h' : Hp} (k : Sub h' h) : Gho tm h tm h' := ⟨k, fun _ => .same _⟩

theorem Gho.sound (hs : Sim E) (ht : TmRel E N tm a) {tm' : Tm} {h' : Hp} (k : Gho tm E.h tm' h') : Sim { E with h := h' } ∧ Ext E { E with h := h' } ∧ TmRel { E with h := h' } N tm' a := by
  obtain ⟨hx, hs'⟩ := forget' hs k.1
  exact ⟨hs', hx, ht.size, ht.defers, fun t htN => (k.2 t).rel hs k.1 (ht.rel t htN)⟩

/-! ### Regions whose order is fixed -/

/-- What a guard says. -/
def gval : AV → Option (Option Bool)
  | .bool b => some (some b)
  | .tup _ => some none
  | _ => none

def AOps (P : Program) : List AIns → (Tm → Hp → Prop) → Tm → Hp → Prop
  | [], K, tm, h => K tm h
  | i :: l, K, tm, h =>
    match i.guard with
    | none => AStep P i.op (fun v h' => AOps P l K (updO tm i.dst v) h') tm h
    | some (g, want) =>
      match gval (tm g) with
      | some b => if b = some want then AStep P i.op (fun v h' => AOps P l K (updO tm i.dst v) h') tm h else AOps P l K (updO tm i.dst .undef) h
      | none => False

/-- Operations and what they are compiled to. -/
inductive Aligned (P : Program) (N : Nat) (ops : Array Oper) : List Nat → List AIns → Prop
  | nil : Aligned P N ops [] []
  | cons (i : Nat) (is : List Nat) (o : Oper) (ai : AIns) (l : List AIns) (ho : ops[i]? = some o) (hc : cIns P N ops o = some ai) (h : Aligned P N ops is l) : Aligned P N ops (i :: is) (ai :: l)

theorem cIns_inv {ops : Array Oper} {o : Oper} {ai : AIns} (h : cIns P N ops o = some ai) : cOp P N o.op = some ai.op ∧ o.dst = ai.dst ∧ (∀ t, ai.dst = some t → t < N) ∧
    (match ai.guard with | none => o.guard = none | some (g, b) => ∃ j, o.guard = some (j, b) ∧ (ops[j]?).bind (·.dst) = some g ∧ g < N) := by
  simp only [cIns, Option.bind_eq_some_iff, Option.map_eq_some_iff] at h
  obtain ⟨op, hop, d, hd, g, hg, rfl⟩ := h
  refine ⟨hop, ?_, ?_, ?_⟩
  · cases ho : o.dst with
    | none => rw [ho] at hd; simp at hd; exact hd
    | some t => rw [ho] at hd; simp at hd; simp [← hd.2]
  · intro t ht
    cases ho : o.dst with
    | none => rw [ho] at hd; simp at hd; subst hd; simp at ht
    | some t' =>
      rw [ho] at hd
      simp at hd
      obtain ⟨h5, h6⟩ := hd
      subst h6
      simp at ht
      exact ht ▸ h5
  · cases ho : o.guard with
    | none => rw [ho] at hg; simp at hg; subst hg; rfl
    | some p =>
      obtain ⟨j, b⟩ := p
      rw [ho] at hg
      simp only at hg
      split at hg
      · rename_i g' hg'
        split at hg
        · rename_i hlt
          simp at hg
          subst hg
          exact ⟨j, rfl, hg', hlt⟩
        · cases hg
      · cases hg

theorem guard_wanted {ops : Array Oper} {o : Oper} {ai : AIns} (h : cIns P N ops o = some ai) (ht : TmRel E N tm a) {g : Nat} {want : Bool} {b : Option Bool} (hg : ai.guard = some (g, want)) (hb : gval (tm g) = some b) : Region.wanted o (yielded ops a.tmps) = (b == some want) := by
  obtain ⟨_, _, _, h4⟩ := cIns_inv h
  rw [hg] at h4
  obtain ⟨j, h5, h6, h7⟩ := h4
  have hr := ht.rel g h7
  have hsz : g < a.tmps.size := by rw [ht.size]; exact h7
  have hd : a.tmps.getD g Go.undef = a.tmps[g] := by rw [Array.getD_eq_getD_getElem?, Array.getElem?_eq_getElem hsz]; rfl
  rw [hd] at hr
  have hget : a.tmps[g]? = some a.tmps[g] := Array.getElem?_eq_getElem hsz
  simp only [Region.wanted, h5, yielded, h6, hget, Option.bind_some]
  generalize a.tmps[g] = v at hr
  cases hv : tm g with
  | bool b' =>
    rw [hv] at hr hb
    have := hr.bool_inv
    subst this
    cases hb
    rfl
  | tup l =>
    rw [hv] at hr hb
    cases hb
    cases hr
    rfl
  | _ => rw [hv] at hb; cases hb

theorem none_wanted {ops : Array Oper} {o : Oper} {ai : AIns} (h : cIns P N ops o = some ai) (hg : ai.guard = none) (y : Nat → Option Bool) : Region.wanted o y = true := by
  obtain ⟨_, _, _, h4⟩ := cIns_inv h
  rw [hg] at h4
  simp [Region.wanted, h4]

theorem ops_sound {ops : Array Oper} {Q : Exit → Act → World → Prop} {K : Tm → Hp → Prop} {is : List Nat} {l : List AIns} (hal : Aligned P N ops is l) : ∀ {E : Env} {tm : Tm} {a : Act}, Sim E → TmRel E N tm a → AOps P l K tm E.h →
    (∀ E' tm' a', Sim E' → Ext E E' → TmRel E' N tm' a' → K tm' E'.h → Q .normal a' E'.w) → wpOps P ops Q is a E.w := by
  induction hal with
  | nil => intro E tm a hs ht h hk; exact hk E tm a hs (Ext.refl E) ht h
  | cons i is o ai l ho hc _ ih =>
    intro E tm a hs ht h hk
    obtain ⟨h1, h2, h3, _⟩ := cIns_inv hc
    have step : AStep P ai.op (fun v h' => AOps P l K (updO tm ai.dst v) h') tm E.h → o.wp P a E.w (wpOps P ops Q is) Q := fun hst =>
      step_sound hs h1 ht hst fun r v E' s' x' hr hq => by
        rw [h2]
        exact ih s' ((ht.mono x').put h3 hr) hq fun E'' tm' a' s'' x'' t'' k'' => hk E'' tm' a' s'' (x'.trans x'') t'' k''
    simp only [wpOps, ho]
    simp only [AOps] at h
    split at h
    · rename_i hg
      rw [none_wanted hc hg]
      exact .inl (step h)
    · rename_i g want hg
      split at h
      · rename_i b hb
        rw [guard_wanted hc ht hg hb]
        split at h
        · rename_i hbw
          simp only [hbw, beq_self_eq_true, if_true]
          exact .inl (step h)
        · rename_i hbw
          have : (b == some want) = false := by simpa using hbw
          simp only [this, Bool.false_eq_true, if_false]
          rw [h2]
          exact ih hs (ht.put h3 (Rel.undef E)) h hk
      · exact h.elim

def cOpsFrom (P : Program) (N : Nat) (ops : Array Oper) : List Oper → Option (List AIns)
  | [] => some []
  | o :: r => (cIns P N ops o).bind fun ai => (cOpsFrom P N ops r).map (ai :: ·)

theorem aligned_from (ops : Array Oper) : ∀ (l : List Oper) (k : Nat) (r : List AIns), (∀ j o, l[j]? = some o → ops[k + j]? = some o) → cOpsFrom P N ops l = some r → Aligned P N ops (List.range' k l.length) r := by
  intro l
  induction l with
  | nil => intro k r _ h; simp [cOpsFrom] at h; subst h; exact .nil
  | cons o l ih =>
    intro k r hg h
    simp only [cOpsFrom, Option.bind_eq_some_iff, Option.map_eq_some_iff] at h
    obtain ⟨ai, hai, r', hr', rfl⟩ := h
    rw [List.length_cons, List.range'_succ]
    refine .cons k _ o ai r' (hg 0 o rfl) hai (ih (k + 1) r' (fun j o' hj => ?_) hr')
    have := hg (j + 1) o' (by simpa using hj)
    rw [← this]
    congr 1
    omega

end Go.AM

/- AM, 17: code, and a function's contract. -/
namespace Go.AM
variable {P : Program} {N : Nat} {E : Env} {tm : Tm} {a : Act}

/-- A step of a region whose order is open. 'eff': nothing else may stand beside it in either order; 'chk': what was read before and may as well be read behind. -/
structure DStep where
  ai : AIns
  eff : Bool
  chk : List AIns

/-- An operation that leaves the heap as it is answers v. -/
def QStep (P : Program) (op : AOp) (v : AV) (tm : Tm) (h : Hp) : Prop :=
  match op with
  | .call f args => ACalls P f (args.map (·.ev tm)) h fun r h' => r = v ∧ h' = h
  | .callv x args =>
    match x.ev tm with
    | .fn f caps => ACalls P f (args.map (·.ev tm) ++ caps) h fun r h' => r = v ∧ h' = h
    | _ => False
  | op => apure op tm h = some v

/-- Is it wanted? -/
def AIns.wants (ai : AIns) (tm : Tm) : Option Bool :=
  match ai.guard with
  | none => some true
  | some (g, want) => (gval (tm g)).map (· == some want)

def Stable (P : Program) : List AIns → Tm → Hp → Prop
  | [], _, _ => True
  | c :: l, tm, h => (c.wants tm = some true → QStep P c.op (match c.dst with | some t => tm t | none => .undef) tm h) ∧ Stable P l tm h

def QRun (P : Program) (op : AOp) (K : AV → Prop) (tm : Tm) (h : Hp) : Prop :=
  match op with
  | .call f args => ∃ v, ACalls P f (args.map (·.ev tm)) h (fun r h' => r = v ∧ h' = h) ∧ K v
  | .callv x args =>
    match x.ev tm with
    | .fn f caps => ∃ v, ACalls P f (args.map (·.ev tm) ++ caps) h (fun r h' => r = v ∧ h' = h) ∧ K v
    | _ => False
  | op => match apure op tm h with
    | some v => K v
    | none => False

def DOps (P : Program) : List DStep → (Tm → Hp → Prop) → Tm → Hp → Prop
  | [], K, tm, h => K tm h
  | s :: l, K, tm, h =>
    match s.ai.wants tm with
    | some true =>
      if s.eff then AStep P s.ai.op (fun v h' => Stable P s.chk (updO tm s.ai.dst v) h' ∧ DOps P l K (updO tm s.ai.dst v) h') tm h
      else QRun P s.ai.op (fun v => DOps P l K (updO tm s.ai.dst v) h) tm h
    | some false => DOps P l K (updO tm s.ai.dst .undef) h
    | none => False

inductive ACode where
  | skip
  | region (l : List AIns)
  | draw (l : List DStep)
  | seq (x y : ACode)
  | cond (c : AX) (x y : ACode)
  | block (id : Nat) (b : ACode)
  | loop (b : ACode)
  | exit (id : Nat)
  | ret

inductive AExit where
  | normal
  | exit (id : Nat)
  | ret

def AExit.conc : AExit → Exit
  | .normal => .normal
  | .exit id => .exit id
  | .ret => .ret

/-- A round's end: the relation at a smaller number, behind ghost steps. -/
def Again (I : Nat → Tm → Hp → Prop) (n : Nat) (tm : Tm) (h : Hp) : Prop := ∃ n', n' < n ∧ ∃ tm' h', Gho tm h tm' h' ∧ I n' tm' h'

def AW (P : Program) : ACode → (AExit → Tm → Hp → Prop) → Tm → Hp → Prop
  | .skip, Q, tm, h => Q .normal tm h
  | .region l, Q, tm, h => AOps P l (Q .normal) tm h
  | .draw l, Q, tm, h => DOps P l (Q .normal) tm h
  | .seq x y, Q, tm, h => AW P x (fun e tm h => match e with
    | .normal => AW P y Q tm h
    | e => Q e tm h) tm h
  | .cond c x y, Q, tm, h => match c.ev tm with
    | .bool b => if b then AW P x Q tm h else AW P y Q tm h
    | _ => False
  | .block id b, Q, tm, h => AW P b (fun e tm h => match e with
    | .exit i => if i = id then Q .normal tm h else Q (.exit i) tm h
    | e => Q e tm h) tm h
  | .loop b, Q, tm, h => ∃ (I : Nat → Tm → Hp → Prop) (n : Nat), (∃ tm' h', Gho tm h tm' h' ∧ I n tm' h') ∧ ∀ n tm h, I n tm h → AW P b (fun e tm' h' => match e with
    | .normal => Again I n tm' h'
    | e => Q e tm' h') tm h
  | .exit id, Q, tm, h => Q (.exit id) tm h
  | .ret, Q, tm, h => Q .ret tm h

/-- What a function answers. -/
inductive ARes where
  | t (n : Nat)
  | one (n : Nat)
  | many (k n : Nat)

def ARes.get (r : ARes) (tm : Tm) (h : Hp) : Option AV :=
  match r with
  | .t n => some (tm n)
  | .one n => apure (.ldc (.t n)) tm h
  | .many k n => apure (.lda k (.t n)) tm h

def resOf (rs : List ARes) (tm : Tm) (h : Hp) : Option AV :=
  match rs with
  | [r] => r.get tm h
  | rs => (rs.mapM fun (r : ARes) => r.get tm h).map .tup

def cRes (P : Program) (N : Nat) : ResultVar → Option ARes
  | .tmp t => if t < N then some (.t t) else none
  | .cell t ty => if t < N then (aggSize P ty).map fun a => match a with | some k => .many k t | none => .one t else none

/-- A result, as it is handed back: behind ghost steps. -/
def Gives (Q : AV → Hp → Prop) (r : Option AV) (h : Hp) : Prop := ∃ v, r = some v ∧ ∃ v' h', Sub h' h ∧ Frz h h' v v' ∧ Q v' h'

def initTm (args : List AV) : Tm := fun t => args.getD t .undef

/-! ### The compilation of code -/

def AX.looks : AX → List Nat
  | .t n => [n]
  | .c _ => []

def looksO : Option AX → List Nat
  | none => []
  | some x => x.looks

def AOp.looks : AOp → List Nat
  | .mov x | .ldc x | .lda _ x | .fa _ x | .nck x | .un _ x | .cvi _ x | .cvf x | .cfi _ x | .fext _ x | .b2s x | .fld _ _ x | .ext x _ | .len _ x | .re x | .im x | .box x | .bfz x | .s2b x => x.looks
  | .bin _ x y | .beq _ x y | .peq _ x y | .eqa _ _ x y | .ia _ x y | .ixs x y | .look _ _ _ x y | .cx x y | .mn x y | .mx x y | .st _ x y | .app _ _ _ x y | .mks _ _ _ _ x y => x.looks ++ y.looks
  | .pick x y z | .mup _ x y z => x.looks ++ (y.looks ++ z.looks)
  | .build _ ps => ps.flatMap fun p => p.2.2.looks
  | .cut _ x lo hi | .cuts x lo hi => x.looks ++ (looksO lo ++ looksO hi)
  | .mkfn _ xs | .bsl _ _ xs | .call _ xs => xs.flatMap (·.looks)
  | .callv x xs => x.looks ++ xs.flatMap (·.looks)
  | .alloc _ | .mkm => []

def AIns.looks (i : AIns) : List Nat := i.op.looks ++ (match i.guard with | some (g, _) => [g] | none => [])

/-- Does it read no memory? -/
def heapFree : AOp → Bool
  | .mov _ | .pick _ _ _ | .build _ _ | .fa _ _ | .nck _ | .bin _ _ _ | .beq _ _ _ | .peq _ _ _ | .eqa _ _ _ _ | .un _ _ | .cvi _ _ | .cvf _ | .cfi _ _ | .fext _ _ | .cuts _ _ _ | .ixs _ _ | .fld _ _ _ | .ext _ _ | .mkfn _ _ | .cx _ _ | .re _ | .im _ | .mn _ _ | .mx _ _ => true
  | .len .sl _ | .len .str _ => true
  | _ => false

def isEff (quiet : FuncId → Bool) : AOp → Bool
  | .alloc _ | .box _ | .bsl _ _ _ | .st _ _ _ | .app _ _ _ _ _ | .mks _ _ _ _ _ _ | .mkm | .mup _ _ _ _ | .bfz _ | .s2b _ | .callv _ _ => true
  | .call f _ => !quiet f
  | _ => false

/-- The operations that an operation waits for. -/
def preds (o : Oper) : List Nat := (o.after.toList.filter fun e => Region.binds .any e).map (·.on)

def canonGo (ps : Nat → List Nat) (eff : Nat → Bool) : Nat → List Nat → List Nat → List Nat
  | 0, _, done => done
  | n + 1, rem, done =>
    match rem.find? fun i => !eff i && (ps i).all done.contains with
    | some i => canonGo ps eff n (rem.erase i) (done ++ [i])
    | none => match rem.find? fun i => (ps i).all done.contains with
      | some i => canonGo ps eff n (rem.erase i) (done ++ [i])
      | none => done

def dstIn (d : Option Nat) (l : List Nat) : Bool := match d with | some t => l.contains t | none => false
def dstSame (d e : Option Nat) : Bool := match d, e with | some t, some u => t == u | _, _ => false

/-- The checks on a region whose order is open. -/
def drawOK (n : Nat) (ps : Nat → List Nat) (bf : Nat → Nat) (ai : Nat → AIns) (eff : Nat → Bool) (ord : List Nat) : Bool :=
  ord.length == n &&
  ((List.range n).all fun i => ord.contains i) &&
  ((List.range n).all fun q => match ord[q]? with
    | some i => i < n && !((ord.take q).contains i) && ((ps i).all fun j => (ord.take q).contains j) && (!eff i || (ord.drop (q + 1)).all fun j => (bf j).testBit i)
    | none => false) &&
  ((List.range n).all fun i =>
    ((List.range n).all fun j => i == j ||
      (!(dstSame (ai i).dst (ai j).dst) && (!(dstIn (ai i).dst (ai j).looks) || (bf j).testBit i || (eff i && (bf i).testBit j)))) &&
    (eff i || (!(dstIn (ai i).dst (ai i).looks) && (ai i).dst.isSome)) &&
    ((List.range n).all fun j => !((bf i).testBit j) || (ps i).contains j || (ps i).any fun k => (bf k).testBit j))

def dBf (ops : Array Oper) (i : Nat) : Nat := (Region.before ops).toList.getD i 0
def dPs (ops : Array Oper) (i : Nat) : List Nat := (ops.toList.map preds).getD i []
def dAi (ais : List AIns) (i : Nat) : AIns := ais.getD i ⟨none, .mkm, none⟩
def dEffs (quiet : FuncId → Bool) (ops : Array Oper) (ais : List AIns) : List Bool :=
  (List.range ais.length).map fun i => isEff quiet (dAi ais i).op || (List.range ais.length).any fun j => i != j && dstIn (dAi ais i).dst (dAi ais j).looks && !((dBf ops j).testBit i)
def dEff (quiet : FuncId → Bool) (ops : Array Oper) (ais : List AIns) (i : Nat) : Bool := (dEffs quiet ops ais).getD i true
def dOrd (quiet : FuncId → Bool) (ops : Array Oper) (ais : List AIns) : List Nat := canonGo (dPs ops) (dEff quiet ops ais) ais.length (List.range ais.length) []
def dChk (ops : Array Oper) (ais : List AIns) (eff : Nat → Bool) (ord : List Nat) (q i : Nat) : List AIns :=
  ((ord.take q).filter fun j => !eff j && !heapFree (dAi ais j).op && !((dBf ops i).testBit j)).map (dAi ais)

def cDraw (P : Program) (N : Nat) (quiet : FuncId → Bool) (ops : Array Oper) : Option (List DStep) :=
  (cOpsFrom P N ops ops.toList).bind fun ais =>
  if drawOK ais.length (dPs ops) (dBf ops) (dAi ais) (dEff quiet ops ais) (dOrd quiet ops ais) then
    some ((List.range ais.length).map fun q =>
      let i := (dOrd quiet ops ais).getD q 0
      { ai := dAi ais i, eff := dEff quiet ops ais i, chk := if dEff quiet ops ais i then dChk ops ais (dEff quiet ops ais) (dOrd quiet ops ais) q i else [] })
  else none

def comp (P : Program) (N : Nat) (quiet : FuncId → Bool) : Code → Option ACode
  | .skip => some .skip
  | .region _ ops draw => if draw then (cDraw P N quiet ops).map .draw else (cOpsFrom P N ops ops.toList).map .region
  | .seq x y => (comp P N quiet x).bind fun x => (comp P N quiet y).map fun y => .seq x y
  | .cond c x y => (cOpd N c).bind fun c => (comp P N quiet x).bind fun x => (comp P N quiet y).map fun y => .cond c x y
  | .block id b => (comp P N quiet b).map fun b => .block id b
  | .loop b => (comp P N quiet b).map fun b => .loop b
  | .exit id => some (.exit id)
  | .ret => some .ret
  | _ => none

/-- A function as compiled. -/
structure AFn where
  n : Nat
  code : ACode
  res : List ARes

def compFn (P : Program) (quiet : FuncId → Bool) (f : Func) : Option AFn :=
  f.body.bind fun c => (comp P f.ntmps quiet c).bind fun code => (f.results.toList.mapM fun r => cRes P f.ntmps r).bind fun res =>
    if f.name = "runtime.NumGoroutine" then none else some ⟨f.ntmps, code, res⟩

end Go.AM

/- AM, 18: regions whose order is open. -/
namespace Go.AM
variable {P : Program} {N : Nat} {E : Env} {tm : Tm} {a : Act}

/-! ### What an operation looks at is all that it hangs on -/

theorem ev_congr {tm tm' : Tm} {x : AX} (h : ∀ t ∈ x.looks, tm t = tm' t) : x.ev tm = x.ev tm' := by
  cases x with
  | t n => exact h n (by simp [AX.looks])
  | c v => rfl

theorem map_congr' {tm tm' : Tm} {xs : List AX} (h : ∀ t ∈ xs.flatMap (·.looks), tm t = tm' t) : xs.map (·.ev tm) = xs.map (·.ev tm') :=
  List.map_congr_left fun x hx => ev_congr fun t ht => h t (List.mem_flatMap.2 ⟨x, hx, ht⟩)

theorem bound_congr {tm tm' : Tm} {x : Option AX} (h : ∀ t ∈ looksO x, tm t = tm' t) : bound tm x = bound tm' x := by
  cases x with
  | none => rfl
  | some x => simp only [bound, ev_congr (x := x) h]

theorem foldl_congr' {α β : Type} (f g : α → β → α) : ∀ (l : List β) (a : α), (∀ a, ∀ b ∈ l, f a b = g a b) → l.foldl f a = l.foldl g a := by
  intro l
  induction l with
  | nil => intro a _; rfl
  | cons b l ih =>
    intro a h
    rw [List.foldl_cons, List.foldl_cons, h a b (by simp)]
    exact ih _ fun a b' hb => h a b' (by simp [hb])

theorem apure_congr {tm tm' : Tm} {h : Hp} {op : AOp} (hl : ∀ t ∈ op.looks, tm t = tm' t) : apure op tm h = apure op tm' h := by
  cases op <;> simp only [AOp.looks, List.mem_append] at hl <;>
    first
      | rfl
      | (rename_i x; simp only [apure, ev_congr (x := x) hl]; done)
      | (rename_i _ x; simp only [apure, ev_congr (x := x) hl]; done)
      | (rename_i x _; simp only [apure, ev_congr (x := x) hl]; done)
      | (rename_i x y; simp only [apure, ev_congr (x := x) (fun t ht => hl t (.inl ht)), ev_congr (x := y) (fun t ht => hl t (.inr ht))]; done)
      | (rename_i x y z; simp only [apure, ev_congr (x := x) (fun t ht => hl t (.inl ht)), ev_congr (x := y) (fun t ht => hl t (.inr (.inl ht))), ev_congr (x := z) (fun t ht => hl t (.inr (.inr ht)))]; done)
      | (rename_i x lo hi; simp only [apure, ev_congr (x := x) (fun t ht => hl t (.inl ht)), bound_congr (x := lo) (fun t ht => hl t (.inr (.inl ht))), bound_congr (x := hi) (fun t ht => hl t (.inr (.inr ht)))]; done)
      | (rename_i z ps
         simp only [apure]
         congr 1
         exact foldl_congr' _ _ _ _ fun a p hp => by rw [ev_congr (x := p.2.2) fun t ht => hl t (List.mem_flatMap.2 ⟨p, hp, ht⟩)])
      | (rename_i f xs; simp only [apure, map_congr' hl]; done)

theorem AStep_congr {tm tm' : Tm} {h : Hp} {op : AOp} {K : AV → Hp → Prop} (hl : ∀ t ∈ op.looks, tm t = tm' t) : AStep P op K tm h = AStep P op K tm' h := by
  cases op
  case alloc => rfl
  case mkm => rfl
  case box x => simp only [AStep, ev_congr (x := x) hl]
  case bfz x => simp only [AStep, ev_congr (x := x) hl]
  case s2b x => simp only [AStep, ev_congr (x := x) hl]
  case bsl e sz xs =>
    have h1 : ∀ x ∈ xs, x.ev tm = x.ev tm' := fun x hx => ev_congr fun t ht => hl t (List.mem_flatMap.2 ⟨x, hx, ht⟩)
    have h2 : (xs.map fun x => (x.ev tm).cells) = xs.map fun x => (x.ev tm').cells := List.map_congr_left fun x hx => by rw [h1 x hx]
    simp only [AStep, h2]
    apply propext
    constructor
    · rintro ⟨p, q⟩; exact ⟨fun x hx => by rw [← h1 x hx]; exact p x hx, q⟩
    · rintro ⟨p, q⟩; exact ⟨fun x hx => by rw [h1 x hx]; exact p x hx, q⟩
  case st n x v =>
    simp only [AOp.looks, List.mem_append] at hl
    simp only [AStep, ev_congr (x := x) (fun t ht => hl t (.inl ht)), ev_congr (x := v) (fun t ht => hl t (.inr ht))]
  case app e sz b s x =>
    simp only [AOp.looks, List.mem_append] at hl
    simp only [AStep, ev_congr (x := s) (fun t ht => hl t (.inl ht)), ev_congr (x := x) (fun t ht => hl t (.inr ht))]
  case mks e sz b z l c =>
    simp only [AOp.looks, List.mem_append] at hl
    simp only [AStep, ev_congr (x := l) (fun t ht => hl t (.inl ht)), ev_congr (x := c) (fun t ht => hl t (.inr ht))]
  case mup ki m k v =>
    simp only [AOp.looks, List.mem_append] at hl
    simp only [AStep, ev_congr (x := m) (fun t ht => hl t (.inl ht)), ev_congr (x := k) (fun t ht => hl t (.inr (.inl ht))), ev_congr (x := v) (fun t ht => hl t (.inr (.inr ht)))]
  case call f xs => simp only [AStep, map_congr' (xs := xs) hl]
  case callv x xs =>
    simp only [AOp.looks, List.mem_append] at hl
    simp only [AStep, ev_congr (x := x) (fun t ht => hl t (.inl ht)), map_congr' (xs := xs) (fun t ht => hl t (.inr ht))]
  all_goals (simp only [AStep]; rw [apure_congr hl])

theorem QStep_congr {tm tm' : Tm} {h : Hp} {op : AOp} {v : AV} (hl : ∀ t ∈ op.looks, tm t = tm' t) : QStep P op v tm h = QStep P op v tm' h := by
  cases op
  case call f xs => simp only [QStep, map_congr' (xs := xs) hl]
  case callv x xs =>
    simp only [AOp.looks, List.mem_append] at hl
    simp only [QStep, ev_congr (x := x) (fun t ht => hl t (.inl ht)), map_congr' (xs := xs) (fun t ht => hl t (.inr ht))]
  all_goals (simp only [QStep]; rw [apure_congr hl])

theorem QRun.step {tm : Tm} {h : Hp} {op : AOp} {K : AV → Prop} (hq : QRun P op K tm h) : ∃ v, QStep P op v tm h ∧ K v := by
  cases op
  case call f xs => obtain ⟨v, h1, h2⟩ := hq; exact ⟨v, h1, h2⟩
  case callv x xs =>
    simp only [QRun] at hq
    split at hq
    · rename_i f caps hev
      obtain ⟨v, h1, h2⟩ := hq
      exact ⟨v, by simp only [QStep, hev]; exact h1, h2⟩
    · exact hq.elim
  all_goals
    simp only [QRun] at hq
    split at hq
    · rename_i v hv
      exact ⟨v, hv, hq⟩
    · exact hq.elim

theorem apure_heapFree {tm : Tm} {h h' : Hp} {op : AOp} (hf : heapFree op = true) : apure op tm h = apure op tm h' := by
  cases op <;> first
    | rfl
    | (simp [heapFree] at hf; done)
    | (rename_i k x; cases k <;> simp [heapFree] at hf <;> (simp only [apure]; cases x.ev tm <;> rfl))

theorem QStep_heapFree {tm : Tm} {h h' : Hp} {op : AOp} {v : AV} (hf : heapFree op = true) : QStep P op v tm h = QStep P op v tm h' := by
  cases op
  case call f xs => simp [heapFree] at hf
  case callv x xs => simp [heapFree] at hf
  all_goals (simp only [QStep]; rw [apure_heapFree hf])

/-- A quiet step, run. -/
theorem QStep.astep {tm : Tm} {h : Hp} {op : AOp} {v : AV} (hq : QStep P op v tm h) (he : isEff (fun _ => true) op = false) : AStep P op (fun r h' => r = v ∧ h' = h) tm h := by
  cases op
  case call f xs => exact hq
  case callv x xs => simp [isEff] at he
  all_goals first
    | (simp [isEff] at he; done)
    | (simp only [QStep] at hq; simp only [AStep, hq]; exact ⟨trivial, trivial⟩)

end Go.AM

/- AM, 19: regions whose order is open: the order is of no account. -/
namespace Go.AM
variable {P : Program} {N : Nat} {E : Env} {tm : Tm} {a : Act}

/-- What 'drawOK' says. -/
structure DFacts (P : Program) (N : Nat) (ops : Array Oper) (n : Nat) (bf : Nat → Nat) (ai : Nat → AIns) (eff : Nat → Bool) (ord : List Nat) (steps : List DStep) : Prop where
  size : ops.size = n
  ins : ∀ i, i < n → ∃ o, ops[i]? = some o ∧ cIns P N ops o = some (ai i)
  ordlen : ord.length = n
  all : ∀ i, i < n → ∃ q : Nat, ord[q]? = some i
  lt : ∀ (q i : Nat), ord[q]? = some i → i < n
  nodup : ∀ (q q' i : Nat), ord[q]? = some i → ord[q']? = some i → q = q'
  pred : ∀ (q i : Nat) (o : Oper), ord[q]? = some i → ops[i]? = some o → ∀ j ∈ preds o, ∃ q' : Nat, q' < q ∧ ord[q']? = some j
  later : ∀ (q i : Nat), ord[q]? = some i → eff i = true → ∀ (q' j : Nat), q < q' → ord[q']? = some j → (bf j).testBit i = true
  dsts : ∀ (i j d : Nat), i < n → j < n → i ≠ j → (ai i).dst = some d → (ai j).dst ≠ some d
  look : ∀ (i j d : Nat), i < n → j < n → i ≠ j → (ai i).dst = some d → d ∈ (ai j).looks → (bf j).testBit i = true ∨ (eff i = true ∧ (bf i).testBit j = true)
  own : ∀ (i d : Nat), i < n → eff i = false → (ai i).dst = some d → d ∉ (ai i).looks
  hasDst : ∀ i, i < n → eff i = false → ∃ d, (ai i).dst = some d
  clos : ∀ (i : Nat) (o : Oper) (j : Nat), i < n → ops[i]? = some o → (bf i).testBit j = true → j < n → j ∈ preds o ∨ ∃ k ∈ preds o, (bf k).testBit j = true
  quiet : ∀ i, i < n → eff i = false → isEff (fun _ => true) (ai i).op = false
  step : ∀ (q i : Nat), ord[q]? = some i → ∃ chk, steps[q]? = some ⟨ai i, eff i, chk⟩ ∧ (eff i = true → ∀ (q' j : Nat), q' < q → ord[q']? = some j → eff j = false → heapFree (ai j).op = false → (bf i).testBit j = false → ai j ∈ chk)
  steplen : steps.length = n

theorem stable_mem {l : List AIns} {tm : Tm} {h : Hp} (hst : Stable P l tm h) {c : AIns} (hc : c ∈ l) (hw : c.wants tm = some true) : QStep P c.op (match c.dst with | some t => tm t | none => .undef) tm h := by
  induction l with
  | nil => cases hc
  | cons x l ih =>
    rcases List.mem_cons.1 hc with h1 | h1
    · subst h1; exact hst.1 hw
    · exact ih hst.2 h1

theorem wants_congr {tm tm' : Tm} {c : AIns} (h : ∀ t ∈ c.looks, tm t = tm' t) : c.wants tm = c.wants tm' := by
  unfold AIns.wants
  split
  · rfl
  · rename_i g want hg
    rw [h g (by simp [AIns.looks, hg])]

theorem looks_op {c : AIns} {t : Nat} (h : t ∈ c.op.looks) : t ∈ c.looks := by simp [AIns.looks, h]

section
variable {ops : Array Oper} {n : Nat} {bf : Nat → Nat} {ai : Nat → AIns} {eff : Nat → Bool} {ord : List Nat} {steps : List DStep}

/-- Whatever an operation waits for stands before it. -/
theorem DFacts.before (F : DFacts P N ops n bf ai eff ord steps) : ∀ (q i j : Nat), ord[q]? = some i → (bf i).testBit j = true → j < n → ∃ q' : Nat, q' < q ∧ ord[q']? = some j := by
  intro q
  induction q using Nat.strongRecOn with
  | _ q ih =>
    intro i j hi hj hjn
    have hin := F.lt q i hi
    obtain ⟨o, ho, _⟩ := F.ins i hin
    rcases F.clos i o j hin ho hj hjn with h | ⟨k, hk, hkj⟩
    · exact F.pred q i o hi ho j h
    · obtain ⟨q'', hlt, hq''⟩ := F.pred q i o hi ho k hk
      obtain ⟨q', h1, h2⟩ := ih q'' hlt k j hq'' hkj hjn
      exact ⟨q', by omega, h2⟩

open Classical in
/-- The slots as they are while some operations are still to come. -/
noncomputable def cur (ai : Nat → AIns) (ord : List Nat) (p : Nat) (L : Nat → Prop) (tm0 tmp : Tm) : Tm := fun t =>
  if ∃ (q i : Nat), q < p ∧ ord[q]? = some i ∧ (ai i).dst = some t ∧ ¬ L i then tm0 t else tmp t

structure DInv (P : Program) (N n : Nat) (bf : Nat → Nat) (ai : Nat → AIns) (eff : Nat → Bool) (ord : List Nat) (steps : List DStep) (K : Tm → Hp → Prop) (tm0 : Tm) (L : Nat → Prop) (p : Nat) (tmp : Tm) (E : Env) (a : Act) : Prop where
  hp : p ≤ n
  done : ∀ (q i : Nat), q < p → ord[q]? = some i → eff i = true → L i
  undone : ∀ (q i : Nat), p ≤ q → ord[q]? = some i → ¬ L i
  closed : ∀ i, i < n → L i → ∀ j, j < n → (bf i).testBit j = true → L j
  rest : DOps P (steps.drop p) K tmp E.h
  sim : Sim E
  rel : TmRel E N (cur ai ord p L tm0 tmp) a
  fresh : ∀ t, (∀ (q i : Nat), q < p → ord[q]? = some i → (ai i).dst ≠ some t) → tmp t = tm0 t
  pend : ∀ (q i : Nat), q < p → ord[q]? = some i → ¬ L i → ∃ d, (ai i).dst = some d ∧ (((ai i).wants tmp = some true ∧ QStep P (ai i).op (tmp d) tmp E.h) ∨ ((ai i).wants tmp = some false ∧ tmp d = .undef))

variable {K : Tm → Hp → Prop} {tm0 : Tm} {L : Nat → Prop} {p : Nat} {tmp : Tm}

/-- One step further where nothing is written. -/
theorem DInv.advance (F : DFacts P N ops n bf ai eff ord steps) (I : DInv P N n bf ai eff ord steps K tm0 L p tmp E a) (hp : p < n) {i : Nat} (hi : ord[p]? = some i) (he : eff i = false) : ∃ tmp', DInv P N n bf ai eff ord steps K tm0 L (p + 1) tmp' E a := by
  have hin := F.lt p i hi
  obtain ⟨chk, hst, _⟩ := F.step p i hi
  obtain ⟨d, hd⟩ := F.hasDst i hin he
  have hdrop : steps.drop p = ⟨ai i, eff i, chk⟩ :: steps.drop (p + 1) := by
    rw [List.drop_eq_getElem_cons (by rw [F.steplen]; exact hp)]
    congr 1
    have := (List.getElem?_eq_some_iff.1 hst).2
    exact this
  have hrest := I.rest
  rw [hdrop] at hrest
  simp only [DOps, he, Bool.false_eq_true, if_false] at hrest
  -- the rest of the proof, given the value
  have fin : ∀ v, DOps P (steps.drop (p + 1)) K (updO tmp (ai i).dst v) E.h → (((ai i).wants tmp = some true ∧ QStep P (ai i).op v tmp E.h) ∨ ((ai i).wants tmp = some false ∧ v = .undef)) → ∃ tmp', DInv P N n bf ai eff ord steps K tm0 L (p + 1) tmp' E a := by
    intro v hv hval
    have hnL : ¬ L i := I.undone p i (Nat.le_refl _) hi
    have htd : ∀ t, t ≠ d → updO tmp (ai i).dst v t = tmp t := fun t ht => by simp [hd, updO, upd, ht]
    have hagree : ∀ (q j : Nat), q < p → ord[q]? = some j → ∀ t ∈ (ai j).looks, tmp t = updO tmp (ai i).dst v t := by
      intro q j hq hj t ht
      by_cases e : t = d
      · subst e
        exfalso
        have hjn := F.lt q j hj
        have hne : i ≠ j := fun e => by
          subst e
          have := F.nodup p q i hi hj
          omega
        rcases F.look i j t hin hjn hne hd ht with h | ⟨h, _⟩
        · obtain ⟨q', h1, h2⟩ := F.before q j i hj h hin
          have := F.nodup p q' i hi h2
          omega
        · rw [he] at h; cases h
      · exact (htd t e).symm
    have hownl : ∀ t ∈ (ai i).looks, tmp t = updO tmp (ai i).dst v t := fun t ht => (htd t (fun e => by subst e; exact F.own i t hin he hd ht)).symm
    refine ⟨updO tmp (ai i).dst v, by omega, fun q j hq hj hej => ?_, fun q j hq hj => I.undone q j (by omega) hj, I.closed, hv, I.sim, ?_, fun t ht => ?_, fun q j hq hj hnl => ?_⟩
    · by_cases e : q = p
      · subst e; rw [hi] at hj; cases hj; rw [he] at hej; cases hej
      · exact I.done q j (by omega) hj hej
    · -- the slots
      have hcur : cur ai ord (p + 1) L tm0 (updO tmp (ai i).dst v) = cur ai ord p L tm0 tmp := by
        funext t
        unfold cur
        by_cases e : t = d
        · subst e
          rw [if_pos ⟨p, i, by omega, hi, hd, hnL⟩]
          rw [if_neg]
          · exact (I.fresh t fun q j hq hj hdj => F.dsts i j t hin (F.lt q j hj) (fun e => by
              subst e
              have := F.nodup p q i hi hj
              omega) hd hdj).symm
          · rintro ⟨q, j, hq, hj, hdj, _⟩
            exact F.dsts i j t hin (F.lt q j hj) (fun e => by
              subst e
              have := F.nodup p q i hi hj
              omega) hd hdj
        · by_cases h : ∃ (q j : Nat), q < p ∧ ord[q]? = some j ∧ (ai j).dst = some t ∧ ¬ L j
          · rw [if_pos h]
            obtain ⟨q, j, h1, h2⟩ := h
            rw [if_pos ⟨q, j, by omega, h2⟩]
          · rw [if_neg h]
            rw [if_neg, htd t e]
            rintro ⟨q, j, h1, h2, h3, h4⟩
            by_cases e2 : q = p
            · subst e2; rw [hi] at h2; cases h2; rw [hd] at h3; cases h3; exact e rfl
            · exact h ⟨q, j, by omega, h2, h3, h4⟩
      rw [hcur]
      exact I.rel
    · have htd' : t ≠ d := fun e => by subst e; exact ht p i (by omega) hi hd
      rw [htd t htd']
      exact I.fresh t fun q j hq hj => ht q j (by omega) hj
    · by_cases e : q = p
      · subst e
        rw [hi] at hj
        cases hj
        refine ⟨d, hd, ?_⟩
        have hvd : updO tmp (ai i).dst v d = v := by simp [hd, updO, upd]
        rw [hvd, ← wants_congr hownl]
        rcases hval with ⟨h1, h2⟩ | ⟨h1, h2⟩
        · exact .inl ⟨h1, by rw [← QStep_congr (P := P) (fun t ht => hownl t (looks_op ht))]; exact h2⟩
        · exact .inr ⟨h1, h2⟩
      · have hqp : q < p := by omega
        obtain ⟨d', hd', hp'⟩ := I.pend q j hqp hj hnl
        have hne : i ≠ j := fun e => by
          subst e
          have := F.nodup p q i hi hj
          omega
        have hdd : d' ≠ d := fun e => by subst e; exact F.dsts i j d' hin (F.lt q j hj) hne hd hd'
        refine ⟨d', hd', ?_⟩
        rw [htd d' hdd, ← wants_congr (hagree q j hqp hj)]
        rcases hp' with ⟨h1, h2⟩ | ⟨h1, h2⟩
        · exact .inl ⟨h1, by rw [← QStep_congr (P := P) (fun t ht => hagree q j hqp hj t (looks_op ht))]; exact h2⟩
        · exact .inr ⟨h1, h2⟩
  split at hrest
  · rename_i hw
    obtain ⟨v, hq, hv⟩ := QRun.step hrest
    exact fin v hv (.inl ⟨hw, hq⟩)
  · rename_i hw
    exact fin .undef hrest (.inr ⟨hw, rfl⟩)
  · exact hrest.elim

/-- As far as nothing is written. -/
theorem DInv.advanceAll (F : DFacts P N ops n bf ai eff ord steps) : ∀ (m p : Nat) (tmp : Tm), n - p ≤ m → DInv P N n bf ai eff ord steps K tm0 L p tmp E a → ∃ p' tmp', DInv P N n bf ai eff ord steps K tm0 L p' tmp' E a ∧ ∀ i : Nat, ord[p']? = some i → eff i = true := by
  intro m
  induction m with
  | zero =>
    intro p tmp hm I
    exact ⟨p, tmp, I, fun i hi => by
      have : p < ord.length := (List.getElem?_eq_some_iff.1 hi).1
      rw [F.ordlen] at this
      omega⟩
  | succ m ih =>
    intro p tmp hm I
    by_cases hp : p < n
    · have hi : ord[p]? = some (ord[p]'(by rw [F.ordlen]; exact hp)) := List.getElem?_eq_getElem _
      by_cases he : eff (ord[p]'(by rw [F.ordlen]; exact hp)) = true
      · exact ⟨p, tmp, I, fun i hi' => by rw [hi] at hi'; cases hi'; exact he⟩
      · obtain ⟨tmp', I'⟩ := I.advance F hp hi (by simpa using he)
        exact ih (p + 1) tmp' (by omega) I'
    · exact ⟨p, tmp, I, fun i hi => by
        have : p < ord.length := (List.getElem?_eq_some_iff.1 hi).1
        rw [F.ordlen] at this
        omega⟩

/-- The slots that a ready operation looks at are as they should be. -/
theorem DInv.looks (F : DFacts P N ops n bf ai eff ord steps) (I : DInv P N n bf ai eff ord steps K tm0 L p tmp E a) {i : Nat} (hin : i < n) (hb : ∀ j, j < n → (bf i).testBit j = true → L j) (hown : eff i = true ∨ (∀ d, (ai i).dst = some d → d ∉ (ai i).looks)) (hq0 : eff i = true → ∀ q : Nat, ord[q]? = some i → p ≤ q) :
    ∀ t ∈ (ai i).looks, cur ai ord p L tm0 tmp t = tmp t := by
  intro t ht
  unfold cur
  rw [if_neg]
  rintro ⟨q, j, hq, hj, hd, hnl⟩
  have hjn := F.lt q j hj
  by_cases e : j = i
  · subst e
    rcases hown with h | h
    · have := hq0 h q hj
      omega
    · exact h t hd ht
  · rcases F.look j i t hjn hin e hd ht with h | ⟨h, _⟩
    · exact hnl (hb j hjn h)
    · exact hnl (I.done q j hq hj h)

/-- The slots behind an operation's value. -/
theorem TmRel.put' {E : Env} {N : Nat} {tm tm' : Tm} {a : Act} (h : TmRel E N tm a) {d : Option Nat} (hd : ∀ t, d = some t → t < N) {r : AV} {v : Value} (hr : Rel E r v) (he : tm' = updO tm d r) : TmRel E N tm' (a.put d v) := he ▸ h.put hd hr

/-- AN OPERATION THAT IS READY, whichever. -/
theorem DInv.ready (F : DFacts P N ops n bf ai eff ord steps) {Q : Exit → Act → World → Prop} (I : DInv P N n bf ai eff ord steps K tm0 L p tmp E a) (hnext : ∀ i : Nat, ord[p]? = some i → eff i = true) {i : Nat} (hin : i < n) (hnL : ¬ L i) (hb : ∀ j, j < n → (bf i).testBit j = true → L j) {next : Act → World → Prop}
    (hk : ∀ (p' : Nat) (tmp' : Tm) (E' : Env) (a' : Act), DInv P N n bf ai eff ord steps K tm0 (fun j => L j ∨ j = i) p' tmp' E' a' → (∀ j : Nat, ord[p']? = some j → eff j = true) → Ext E E' → next a' E'.w) : wpOp P ops Q i next a E.w := by
  obtain ⟨o, ho, hc⟩ := F.ins i hin
  obtain ⟨q, hq⟩ := F.all i hin
  obtain ⟨hcop, hcd, hcN, _⟩ := cIns_inv hc
  have hclosed : ∀ k, k < n → (L k ∨ k = i) → ∀ j, j < n → (bf k).testBit j = true → (L j ∨ j = i) := by
    intro k hk' hL j hj hkj
    rcases hL with h | h
    · exact .inl (I.closed k hk' h j hj hkj)
    · subst h; exact .inl (hb j hj hkj)
  by_cases hqp : p ≤ q
  · -- it is the next of those that write
    have hqe : q = p := by
      rcases Nat.eq_or_lt_of_le hqp with h | h
      · exact h.symm
      · exfalso
        have hpn : p < ord.length := by have := (List.getElem?_eq_some_iff.1 hq).1; omega
        have hi0 : ord[p]? = some (ord[p]) := List.getElem?_eq_getElem hpn
        have he0 := hnext _ hi0
        have := F.later p _ hi0 he0 q i h hq
        exact I.undone p _ (Nat.le_refl _) hi0 (hb _ (F.lt p _ hi0) this)
    subst hqe
    have he := hnext i hq
    have hqn : q < n := by have := (List.getElem?_eq_some_iff.1 hq).1; rw [F.ordlen] at this; exact this
    obtain ⟨chk, hst, hchk⟩ := F.step q i hq
    have hdrop : steps.drop q = ⟨ai i, eff i, chk⟩ :: steps.drop (q + 1) := by
      rw [List.drop_eq_getElem_cons (by rw [F.steplen]; exact hqn)]
      congr 1
      exact (List.getElem?_eq_some_iff.1 hst).2
    have hrest := I.rest
    rw [hdrop] at hrest
    simp only [DOps, he, if_true] at hrest
    have hlk := I.looks F hin hb (.inl he) (fun _ q' hq' => by have := F.nodup q q' i hq hq'; omega)
    -- behind it
    have fin : ∀ (r : AV) (v : Value) (E' : Env), Sim E' → Ext E E' → Rel E' r v → DOps P (steps.drop (q + 1)) K (updO tmp (ai i).dst r) E'.h →
        (∀ (q' j : Nat), q' < q → ord[q']? = some j → ¬ L j → ∀ d, (ai j).dst = some d → (ai j).wants (updO tmp (ai i).dst r) = some true → QStep P (ai j).op (tmp d) (updO tmp (ai i).dst r) E'.h) → next (a.put o.dst v) E'.w := by
      intro r v E' s' x' hr hrest' hst'
      have hother : ∀ (q' j : Nat), q' < q → ord[q']? = some j → j ≠ i := fun q' j h1 h2 e => by
        subst e
        have := F.nodup q q' j hq h2
        omega
      have htmp : ∀ (q' j : Nat), q' < q → ord[q']? = some j → ∀ d, (ai j).dst = some d → updO tmp (ai i).dst r d = tmp d := by
        intro q' j h1 h2 d hd
        cases hdi : (ai i).dst with
        | none => rfl
        | some d' =>
          have : d ≠ d' := fun e => by subst e; exact F.dsts j i d (F.lt q' j h2) hin (hother q' j h1 h2) hd hdi
          simp [updO, upd, this]
      have hagree : ∀ (q' j : Nat), q' < q → ord[q']? = some j → ¬ L j → ∀ t ∈ (ai j).looks, tmp t = updO tmp (ai i).dst r t := by
        intro q' j h1 h2 h3 t ht
        cases hdi : (ai i).dst with
        | none => rfl
        | some d' =>
          by_cases e : t = d'
          · subst e
            exfalso
            have hjn := F.lt q' j h2
            rcases F.look i j t hin hjn (fun e => hother q' j h1 h2 e.symm) hdi ht with h | ⟨_, h⟩
            · obtain ⟨q'', h4, h5⟩ := F.before q' j i h2 h hin
              have := F.nodup q q'' i hq h5
              omega
            · exact h3 (hb j hjn h)
          · simp [updO, upd, e]
      have I' : DInv P N n bf ai eff ord steps K tm0 (fun j => L j ∨ j = i) (q + 1) (updO tmp (ai i).dst r) E' (a.put o.dst v) := by
        refine ⟨by omega, fun q' j h1 h2 h3 => ?_, fun q' j h1 h2 => ?_, hclosed, hrest', s', ?_, fun t ht => ?_, fun q' j h1 h2 h3 => ?_⟩
        · by_cases e : q' = q
          · subst e; rw [hq] at h2; cases h2; exact .inr rfl
          · exact .inl (I.done q' j (by omega) h2 h3)
        · rintro (h | h)
          · exact I.undone q' j (by omega) h2 h
          · subst h
            have := F.nodup q q' j hq h2
            omega
        · rw [hcd]
          refine (I.rel.mono x').put' hcN hr ?_
          funext t
          unfold cur
          by_cases h : ∃ (q' j : Nat), q' < q ∧ ord[q']? = some j ∧ (ai j).dst = some t ∧ ¬ L j
          · obtain ⟨q', j, h1, h2, h3, h4⟩ := h
            rw [if_pos ⟨q', j, by omega, h2, h3, fun h => h.elim h4 (hother q' j h1 h2)⟩]
            cases hdi : (ai i).dst with
            | none => simp only [updO]; rw [if_pos ⟨q', j, h1, h2, h3, h4⟩]
            | some d' =>
              have : t ≠ d' := fun e => by subst e; exact F.dsts j i t (F.lt q' j h2) hin (hother q' j h1 h2) h3 hdi
              simp only [updO, upd, if_neg this]
              rw [if_pos ⟨q', j, h1, h2, h3, h4⟩]
          · rw [if_neg]
            · cases hdi : (ai i).dst with
              | none => simp only [updO]; rw [if_neg h]
              | some d' =>
                simp only [updO, upd]
                split
                · rfl
                · first | rfl | (rw [if_neg h])
            · rintro ⟨q', j, h1, h2, h3, h4⟩
              by_cases e : q' = q
              · subst e; rw [hq] at h2; cases h2; exact h4 (.inr rfl)
              · exact h ⟨q', j, by omega, h2, h3, fun h5 => h4 (.inl h5)⟩
        · have h1 : (ai i).dst ≠ some t := ht q i (by omega) hq
          have h2 : updO tmp (ai i).dst r t = tmp t := by
            cases hdi : (ai i).dst with
            | none => rfl
            | some d' =>
              have : t ≠ d' := fun e => by subst e; exact h1 hdi
              simp [updO, upd, this]
          rw [h2]
          exact I.fresh t fun q' j h3 h4 => ht q' j (by omega) h4
        · have hnl : ¬ L j := fun h => h3 (.inl h)
          have hne : q' ≠ q := fun e => by subst e; rw [hq] at h2; cases h2; exact h3 (.inr rfl)
          obtain ⟨d, hd, hp'⟩ := I.pend q' j (by omega) h2 hnl
          refine ⟨d, hd, ?_⟩
          rw [htmp q' j (by omega) h2 d hd]
          have hw : (ai j).wants (updO tmp (ai i).dst r) = (ai j).wants tmp := (wants_congr (hagree q' j (by omega) h2 hnl)).symm
          rcases hp' with ⟨h4, h5⟩ | ⟨h4, h5⟩
          · exact .inl ⟨hw.trans h4, hst' q' j (by omega) h2 hnl d hd (hw.trans h4)⟩
          · exact .inr ⟨hw.trans h4, h5⟩
      obtain ⟨p'', tmp'', I'', hn''⟩ := DInv.advanceAll F n (q + 1) _ (by omega) I'
      exact hk p'' tmp'' E' _ I'' hn'' x'
    unfold wpOp
    rw [ho]
    simp only
    split at hrest
    · rename_i hw
      have hwant : Region.wanted o (yielded ops a.tmps) = true := by
        unfold AIns.wants at hw
        split at hw
        · rename_i hg; exact none_wanted hc hg _
        · rename_i g want hg
          obtain ⟨b, hbb, hw⟩ := Option.map_eq_some_iff.1 hw
          rw [guard_wanted hc I.rel hg (b := b) (by rw [hlk g (by simp [AIns.looks, hg])]; exact hbb)]
          exact hw
      rw [if_pos hwant]
      refine .inl (step_sound I.sim hcop I.rel (K := fun v h' => Stable P chk (updO tmp (ai i).dst v) h' ∧ DOps P (steps.drop (q + 1)) K (updO tmp (ai i).dst v) h') ?_ ?_)
      · rw [AStep_congr (P := P) (fun t ht => hlk t (looks_op ht))]; exact hrest
      · intro r v E' s' x' hr ⟨hst1, hst2⟩
        refine fin r v E' s' x' hr hst2 fun q' j h1 h2 h3 d hd hwj => ?_
        have hjn := F.lt q' j h2
        have hej : eff j = false := by
          cases hej : eff j with
          | false => rfl
          | true => exact absurd (I.done q' j h1 h2 hej) h3
        have hji : j ≠ i := fun e => by
          subst e
          have := F.nodup q q' j hq h2
          omega
        have hagree : ∀ t ∈ (ai j).looks, tmp t = updO tmp (ai i).dst r t := by
          intro t ht
          cases hdi : (ai i).dst with
          | none => rfl
          | some d' =>
            by_cases e : t = d'
            · subst e
              exfalso
              rcases F.look i j t hin hjn (fun e => hji e.symm) hdi ht with h | ⟨_, h⟩
              · obtain ⟨q'', h4, h5⟩ := F.before q' j i h2 h hin
                have := F.nodup q q'' i hq h5
                omega
              · exact h3 (hb j hjn h)
            · simp [updO, upd, e]
        have hnb : (bf i).testBit j = false := by
          cases hbit : (bf i).testBit j with
          | false => rfl
          | true => exact absurd (hb j hjn hbit) h3
        have htd : updO tmp (ai i).dst r d = tmp d := by
          cases hdi : (ai i).dst with
          | none => rfl
          | some d' =>
            have : d ≠ d' := fun e => by subst e; exact F.dsts j i d hjn hin hji hd hdi
            simp [updO, upd, this]
        by_cases hf : heapFree (ai j).op = true
        · obtain ⟨d2, hd2, hp2⟩ := I.pend q' j h1 h2 h3
          rw [hd] at hd2
          cases hd2
          rcases hp2 with ⟨_, h5⟩ | ⟨h4, _⟩
          · rw [← QStep_congr (P := P) (fun t ht => hagree t (looks_op ht)), ← QStep_heapFree (h := E.h) hf]
            exact h5
          · rw [← wants_congr hagree, h4] at hwj
            cases hwj
        · have hmem := hchk he q' j h1 h2 hej (by simpa using hf) hnb
          have := stable_mem hst1 hmem hwj
          rw [hd] at this
          simp only at this
          rw [htd] at this
          exact this
    · rename_i hw
      have hwant : Region.wanted o (yielded ops a.tmps) = false := by
        unfold AIns.wants at hw
        split at hw
        · cases hw
        · rename_i g want hg
          obtain ⟨b, hbb, hw⟩ := Option.map_eq_some_iff.1 hw
          rw [guard_wanted hc I.rel hg (b := b) (by rw [hlk g (by simp [AIns.looks, hg])]; exact hbb)]
          exact hw
      rw [hwant]
      simp only [Bool.false_eq_true, if_false]
      refine fin .undef undef E I.sim (Ext.refl E) (Rel.undef E) hrest fun q' j h1 h2 h3 d hd hwj => ?_
      have hjn := F.lt q' j h2
      have hji : j ≠ i := fun e => by
        subst e
        have := F.nodup q q' j hq h2
        omega
      have hagree : ∀ t ∈ (ai j).looks, tmp t = updO tmp (ai i).dst .undef t := by
        intro t ht
        cases hdi : (ai i).dst with
        | none => rfl
        | some d' =>
          by_cases e : t = d'
          · subst e
            exfalso
            rcases F.look i j t hin hjn (fun e => hji e.symm) hdi ht with h | ⟨_, h⟩
            · obtain ⟨q'', h4, h5⟩ := F.before q' j i h2 h hin
              have := F.nodup q q'' i hq h5
              omega
            · exact h3 (hb j hjn h)
          · simp [updO, upd, e]
      obtain ⟨d2, hd2, hp2⟩ := I.pend q' j h1 h2 h3
      rw [hd] at hd2
      cases hd2
      rcases hp2 with ⟨_, h5⟩ | ⟨h4, _⟩
      · rw [← QStep_congr (P := P) (fun t ht => hagree t (looks_op ht))]
        exact h5
      · rw [← wants_congr hagree, h4] at hwj
        cases hwj
    · exact hrest.elim
  · -- it was run before by the canonical order
    have hqp' : q < p := by omega
    have hef : eff i = false := by
      cases hef : eff i with
      | false => rfl
      | true => exact absurd (I.done q i hqp' hq hef) hnL
    obtain ⟨d, hd, hpd⟩ := I.pend q i hqp' hq hnL
    have hlk := I.looks F hin hb (.inr fun d hd => F.own i d hin hef hd) (fun h => by rw [hef] at h; cases h)
    have fin : ∀ (v : Value) (E' : Env), Sim E' → Ext E E' → E'.h = E.h → Rel E' (tmp d) v → next (a.put o.dst v) E'.w := by
      intro v E' s' x' hh hr
      refine hk p tmp E' (a.put o.dst v) ⟨I.hp, fun q' j h1 h2 h3 => .inl (I.done q' j h1 h2 h3), fun q' j h1 h2 => ?_, hclosed, by rw [hh]; exact I.rest, s', ?_, I.fresh, fun q' j h1 h2 h3 => ?_⟩ hnext x'
      · rintro (h | h)
        · exact I.undone q' j h1 h2 h
        · subst h
          have := F.nodup q q' j hq h2
          omega
      · rw [hcd]
        refine (I.rel.mono x').put' hcN hr ?_
        funext t
        simp only [hd, updO, upd]
        unfold cur
        by_cases e : t = d
        · subst e
          rw [if_pos rfl, if_neg]
          rintro ⟨q', j, h1, h2, h3, h4⟩
          have hji : j ≠ i := fun e => h4 (.inr e)
          exact F.dsts j i t (F.lt q' j h2) hin hji h3 hd
        · rw [if_neg e]
          by_cases h : ∃ (q' j : Nat), q' < p ∧ ord[q']? = some j ∧ (ai j).dst = some t ∧ ¬ L j
          · rw [if_pos h]
            obtain ⟨q', j, h1, h2, h3, h4⟩ := h
            have hji : j ≠ i := fun e2 => by subst e2; rw [hd] at h3; cases h3; exact e rfl
            rw [if_pos ⟨q', j, h1, h2, h3, fun h => h.elim h4 hji⟩]
          · rw [if_neg h, if_neg]
            rintro ⟨q', j, h1, h2, h3, h4⟩
            exact h ⟨q', j, h1, h2, h3, fun h5 => h4 (.inl h5)⟩
      · obtain ⟨d', hd', hp'⟩ := I.pend q' j h1 h2 fun h => h3 (.inl h)
        exact ⟨d', hd', by rw [hh]; exact hp'⟩
    unfold wpOp
    rw [ho]
    simp only
    rcases hpd with ⟨hw, hqs⟩ | ⟨hw, hu⟩
    · have hwant : Region.wanted o (yielded ops a.tmps) = true := by
        unfold AIns.wants at hw
        split at hw
        · rename_i hg; exact none_wanted hc hg _
        · rename_i g want hg
          obtain ⟨b, hbb, hw⟩ := Option.map_eq_some_iff.1 hw
          rw [guard_wanted hc I.rel hg (b := b) (by rw [hlk g (by simp [AIns.looks, hg])]; exact hbb)]
          exact hw
      rw [if_pos hwant]
      refine .inl (step_sound I.sim hcop I.rel (K := fun r h' => r = tmp d ∧ h' = E.h) ?_ ?_)
      · rw [AStep_congr (P := P) (fun t ht => hlk t (looks_op ht))]
        exact hqs.astep (F.quiet i hin hef)
      · rintro r v E' s' x' hr ⟨rfl, hh⟩
        exact fin v E' s' x' hh hr
    · have hwant : Region.wanted o (yielded ops a.tmps) = false := by
        unfold AIns.wants at hw
        split at hw
        · cases hw
        · rename_i g want hg
          obtain ⟨b, hbb, hw⟩ := Option.map_eq_some_iff.1 hw
          rw [guard_wanted hc I.rel hg (b := b) (by rw [hlk g (by simp [AIns.looks, hg])]; exact hbb)]
          exact hw
      rw [hwant]
      simp only [Bool.false_eq_true, if_false]
      exact fin undef E I.sim (Ext.refl E) rfl (by rw [hu]; exact Rel.undef E)

end
end Go.AM

/- AM, 20: regions whose order is open: out of the checks. -/
namespace Go.AM
variable {P : Program} {N : Nat} {E : Env} {tm : Tm} {a : Act}

theorem cOpsFrom_get {ops : Array Oper} : ∀ (l : List Oper) (r : List AIns), cOpsFrom P N ops l = some r → r.length = l.length ∧ ∀ (j : Nat) (o : Oper), l[j]? = some o → ∃ ai, r[j]? = some ai ∧ cIns P N ops o = some ai := by
  intro l
  induction l with
  | nil => intro r h; simp [cOpsFrom] at h; subst h; simp
  | cons o l ih =>
    intro r h
    simp only [cOpsFrom, Option.bind_eq_some_iff, Option.map_eq_some_iff] at h
    obtain ⟨ai, hai, r', hr', rfl⟩ := h
    obtain ⟨h1, h2⟩ := ih r' hr'
    refine ⟨by simp [h1], fun j o' hj => ?_⟩
    cases j with
    | zero => simp at hj; subst hj; exact ⟨ai, rfl, hai⟩
    | succ j => simpa using h2 j o' (by simpa using hj)

theorem dstIn_iff {d : Option Nat} {l : List Nat} : dstIn d l = true ↔ ∃ t, d = some t ∧ t ∈ l := by
  cases d <;> simp [dstIn]

theorem dstSame_iff {d e : Option Nat} : dstSame d e = true ↔ ∃ t, d = some t ∧ e = some t := by
  cases d <;> cases e <;> simp [dstSame] <;> exact eq_comm

theorem mem_take {α : Type} {l : List α} {q : Nat} {x : α} (h : x ∈ l.take q) : ∃ q' : Nat, q' < q ∧ l[q']? = some x := by
  obtain ⟨j, hj⟩ := List.getElem?_of_mem h
  rw [List.getElem?_take] at hj
  split at hj
  · exact ⟨j, ‹_›, hj⟩
  · cases hj

theorem take_mem {α : Type} {l : List α} {q q' : Nat} {x : α} (h : q' < q) (hx : l[q']? = some x) : x ∈ l.take q :=
  List.mem_of_getElem? (i := q') (by rw [List.getElem?_take, if_pos h]; exact hx)

theorem isEff_mono {quiet : FuncId → Bool} {op : AOp} (h : isEff quiet op = false) : isEff (fun _ => true) op = false := by
  cases op <;> first | rfl | (simp [isEff] at h)

theorem draw_facts {quiet : FuncId → Bool} {ops : Array Oper} {steps : List DStep} (h : cDraw P N quiet ops = some steps) :
    ∃ (n : Nat) (bf : Nat → Nat) (ai : Nat → AIns) (eff : Nat → Bool) (ord : List Nat), DFacts P N ops n bf ai eff ord steps := by
  simp only [cDraw, Option.bind_eq_some_iff] at h
  obtain ⟨ais, hais, h⟩ := h
  obtain ⟨hl, hg⟩ := cOpsFrom_get _ _ hais
  generalize hord : dOrd quiet ops ais = ord at h
  generalize hef : dEff quiet ops ais = eff at h
  generalize hai : dAi ais = ai at h
  generalize hps : dPs ops = ps at h
  generalize hbf : dBf ops = bf at h
  split at h
  · rename_i hok
    cases h
    simp only [drawOK, Bool.and_eq_true, beq_iff_eq, List.all_eq_true, List.mem_range] at hok
    obtain ⟨⟨⟨h1, h2⟩, h3⟩, h4⟩ := hok
    have hsize : ops.size = ais.length := by rw [hl]; simp
    have hins : ∀ i, i < ais.length → ∃ o, ops[i]? = some o ∧ cIns P N ops o = some (ai i) := by
      intro i hi
      have ho : ops.toList[i]? = some (ops.toList[i]'(by rw [← hl]; exact hi)) := List.getElem?_eq_getElem _
      obtain ⟨x, hx, hx2⟩ := hg i _ ho
      refine ⟨_, by rw [← Array.getElem?_toList]; exact ho, ?_⟩
      rw [hx2, ← hai]
      simp [dAi, List.getD, hx]
    have hpreds : ∀ (i : Nat) (o : Oper), ops[i]? = some o → ps i = preds o := by
      intro i o ho
      rw [← hps]
      simp [dPs, List.getD, ho]
    have h3' : ∀ (q i : Nat), ord[q]? = some i → i < ais.length ∧ i ∉ ord.take q ∧ (∀ j ∈ ps i, j ∈ ord.take q) ∧ (eff i = true → ∀ j ∈ ord.drop (q + 1), (bf j).testBit i = true) := by
      intro q i hq
      have hql : q < ais.length := by rw [← h1]; exact (List.getElem?_eq_some_iff.1 hq).1
      have := h3 q hql
      rw [hq] at this
      simp at this
      obtain ⟨⟨⟨a1, a2⟩, a3⟩, a4⟩ := this
      refine ⟨a1, a2, a3, fun he => ?_⟩
      rcases a4 with h | h
      · rw [he] at h; cases h
      · exact h
    refine ⟨ais.length, bf, ai, eff, ord, ⟨hsize, hins, h1, fun i hi => ?_, fun q i hq => (h3' q i hq).1, fun q q' i hq hq' => ?_, fun q i o hq ho j hj => ?_, fun q i hq he q' j hlt hq' => ?_, fun i j d hi hj hne hd hd' => ?_, fun i j d hi hj hne hd hdl => ?_, fun i d hi he hd hdl => ?_, fun i hi he => ?_, fun i o j hi ho hb hj => ?_, fun i hi he => ?_, fun q i hq => ?_, by simp⟩⟩
    · have := h2 i hi
      simp at this
      exact List.getElem?_of_mem this
    · rcases Nat.lt_trichotomy q q' with h | h | h
      · exact absurd (take_mem h hq) (h3' q' i hq').2.1
      · exact h
      · exact absurd (take_mem h hq') (h3' q i hq).2.1
    · exact mem_take ((h3' q i hq).2.2.1 j (by rw [hpreds i o ho]; exact hj))
    · refine (h3' q i hq).2.2.2 he j (List.mem_of_getElem? (i := q' - (q + 1)) ?_)
      rw [List.getElem?_drop, ← hq']
      congr 1
      omega
    · have := (h4 i hi).1.1 j hj
      simp only [Bool.or_eq_true, beq_iff_eq, Bool.and_eq_true, Bool.not_eq_true'] at this
      rcases this with h | ⟨h, _⟩
      · exact hne h
      · have h5 : dstSame (ai i).dst (ai j).dst = true := dstSame_iff.2 ⟨d, hd, hd'⟩
        rw [h5] at h; cases h
    · have := (h4 i hi).1.1 j hj
      simp only [Bool.or_eq_true, beq_iff_eq, Bool.and_eq_true, Bool.not_eq_true'] at this
      rcases this with h | ⟨_, h⟩
      · exact absurd h hne
      · rcases h with (h | h) | h
        · have h5 : dstIn (ai i).dst (ai j).looks = true := dstIn_iff.2 ⟨d, hd, hdl⟩
          rw [h5] at h; cases h
        · exact .inl h
        · exact .inr h
    · have := (h4 i hi).1.2
      simp only [Bool.or_eq_true, Bool.and_eq_true, Bool.not_eq_true'] at this
      rcases this with h | ⟨h, _⟩
      · rw [he] at h; cases h
      · have h5 : dstIn (ai i).dst (ai i).looks = true := dstIn_iff.2 ⟨d, hd, hdl⟩
        rw [h5] at h; cases h
    · have := (h4 i hi).1.2
      simp only [Bool.or_eq_true, Bool.and_eq_true, Bool.not_eq_true'] at this
      rcases this with h | ⟨_, h⟩
      · rw [he] at h; cases h
      · exact Option.isSome_iff_exists.1 h
    · have := (h4 i hi).2 j hj
      simp only [Bool.or_eq_true, Bool.not_eq_true', List.contains_iff_mem, List.any_eq_true] at this
      rcases this with (h | h) | ⟨k, h, h'⟩
      · rw [hb] at h; cases h
      · exact .inl (by rw [← hpreds i o ho]; exact h)
      · exact .inr ⟨k, by rw [← hpreds i o ho]; exact h, h'⟩
    · rw [← hef] at he
      simp only [dEff, dEffs, List.getD, List.getElem?_map, List.getElem?_range hi, Option.map_some, Option.getD_some, Bool.or_eq_false_iff] at he
      rw [hai] at he
      exact isEff_mono he.1
    · have hql : q < ais.length := by rw [← h1]; exact (List.getElem?_eq_some_iff.1 hq).1
      have hgd : ord.getD q 0 = i := by simp [List.getD, hq]
      refine ⟨if eff i then dChk ops ais eff ord q i else [], by simp [hql, hq], fun he q' j hlt hq' hej hhf hb => ?_⟩
      rw [if_pos he, dChk, hai, hbf]
      exact List.mem_map.2 ⟨j, List.mem_filter.2 ⟨take_mem hlt hq', by simp [hej, hhf, hb]⟩, rfl⟩
  · cases h

theorem filter_lt {α : Type} (f g : α → Bool) : ∀ (l : List α), (∀ x ∈ l, g x = true → f x = true) → (∃ x ∈ l, f x = true ∧ g x = false) → (l.filter g).length < (l.filter f).length := by
  intro l
  induction l with
  | nil => rintro _ ⟨x, hx, _⟩; cases hx
  | cons y l ih =>
    intro hfg hex
    have hle : (l.filter g).length ≤ (l.filter f).length := by
      clear ih hex
      induction l with
      | nil => simp
      | cons z l ih2 =>
        have h1 := ih2 fun x hx => hfg x (by rcases List.mem_cons.1 hx with h | h <;> simp [h])
        have h2 := hfg z (by simp)
        simp only [List.filter_cons]
        cases hg : g z <;> cases hf : f z <;> simp_all <;> omega
    obtain ⟨x, hx, hxf, hxg⟩ := hex
    simp only [List.filter_cons]
    by_cases e : x = y
    · subst e
      simp [hxf, hxg]
      omega
    · have hxl : x ∈ l := by
        rcases List.mem_cons.1 hx with h | h
        · exact absurd h e
        · exact h
      have := ih (fun z hz => hfg z (by simp [hz])) ⟨x, hxl, hxf, hxg⟩
      have h2 := hfg y (by simp)
      cases hg : g y <;> cases hf : f y <;> simp_all <;> omega

theorem any_sound {ops : Array Oper} {n : Nat} {bf : Nat → Nat} {ai : Nat → AIns} {eff : Nat → Bool} {ord : List Nat} {steps : List DStep} (F : DFacts P N ops n bf ai eff ord steps) {K : Tm → Hp → Prop} {tm0 : Tm} {Q : Exit → Act → World → Prop} {E0 : Env}
    (hk : ∀ (E' : Env) (tm' : Tm) (a' : Act), Sim E' → Ext E0 E' → TmRel E' N tm' a' → K tm' E'.h → Q .normal a' E'.w) :
    ∀ (fuel : Nat) (listed : Array Bool) (p : Nat) (tmp : Tm) (E : Env) (a : Act), listed.size = n → ((List.range n).filter fun i => !(listed.getD i false)).length ≤ fuel →
      DInv P N n bf ai eff ord steps K tm0 (fun i => listed.getD i false = true) p tmp E a → (∀ i : Nat, ord[p]? = some i → eff i = true) → Ext E0 E → wpAny P .any ops Q fuel listed a E.w := by
  -- where nothing is ready all is done
  have hend : ∀ (listed : Array Bool) (p : Nat) (tmp : Tm) (E : Env) (a : Act), listed.size = n → (∀ i, i < n → listed.getD i false = true) → DInv P N n bf ai eff ord steps K tm0 (fun i => listed.getD i false = true) p tmp E a → Ext E0 E → Q .normal a E.w := by
    intro listed p tmp E a hsz hall I hx
    have hpn : p = n := by
      rcases Nat.lt_or_ge p n with h | h
      · exfalso
        have hi : ord[p]? = some (ord[p]'(by rw [F.ordlen]; exact h)) := List.getElem?_eq_getElem _
        exact I.undone p _ (Nat.le_refl _) hi (hall _ (F.lt p _ hi))
      · have := I.hp; omega
    subst hpn
    have hrest := I.rest
    rw [List.drop_of_length_le (by rw [F.steplen]; exact Nat.le_refl _)] at hrest
    refine hk E tmp a I.sim hx ?_ hrest
    have : cur ai ord p (fun i => listed.getD i false = true) tm0 tmp = tmp := by
      funext t
      unfold cur
      rw [if_neg]
      rintro ⟨q, i, h1, h2, _, h4⟩
      exact h4 (hall i (F.lt q i h2))
    rw [← this]
    exact I.rel
  have hready : ∀ (listed : Array Bool), listed.size = n → Region.ready .any ops listed = [] → ∀ i, i < n → listed.getD i false = true := by
    intro listed hsz hr
    have key : ∀ q i : Nat, ord[q]? = some i → listed.getD i false = true := by
      intro q
      induction q using Nat.strongRecOn with
      | _ q ih =>
        intro i hi
        have hin := F.lt q i hi
        obtain ⟨o, ho, _⟩ := F.ins i hin
        cases hli : listed.getD i false with
        | true => rfl
        | false =>
          exfalso
          have hmem : i ∈ Region.ready .any ops listed := by
            unfold Region.ready
            refine List.mem_filter.2 ⟨by simp [F.size]; exact hin, ?_⟩
            have hlt : i < listed.size := by rw [hsz]; exact hin
            have h1 : listed.getD i true = false := by
              simp only [Array.getD, hlt, dif_pos] at hli ⊢
              exact hli
            simp only [h1, Bool.not_false, Bool.true_and, ho, Option.map_some, Option.getD_some]
            rw [Array.all_eq_true_iff_forall_mem]
            intro e he
            cases hb : Region.binds .any e with
            | false => simp
            | true =>
              have hp : e.on ∈ preds o := by
                unfold preds
                exact List.mem_map.2 ⟨e, List.mem_filter.2 ⟨by simpa using he, hb⟩, rfl⟩
              obtain ⟨q', hlt', hq'⟩ := F.pred q i o hi ho e.on hp
              simp [ih q' hlt' e.on hq']
          rw [hr] at hmem
          cases hmem
    intro i hi
    obtain ⟨q, hq⟩ := F.all i hi
    exact key q i hq
  intro fuel
  induction fuel with
  | zero =>
    intro listed p tmp E a hsz hcnt I hn hx
    have hall : ∀ i, i < n → listed.getD i false = true := by
      intro i hi
      cases hli : listed.getD i false with
      | true => rfl
      | false =>
        have : i ∈ (List.range n).filter fun i => !(listed.getD i false) := List.mem_filter.2 ⟨by simpa using hi, by rw [hli]; rfl⟩
        have h0 : (List.range n).filter (fun i => !(listed.getD i false)) = [] := List.eq_nil_of_length_eq_zero (by omega)
        rw [h0] at this
        cases this
    refine ⟨?_, hend listed p tmp E a hsz hall I hx⟩
    unfold Region.ready
    apply List.filter_eq_nil_iff.2
    intro i hi
    have hin : i < n := by simpa [F.size] using hi
    have hlt : i < listed.size := by rw [hsz]; exact hin
    have h1 := hall i hin
    have : listed.getD i true = true := by
      simp only [Array.getD, hlt, dif_pos] at h1 ⊢
      exact h1
    simp [this]
  | succ fuel ih =>
    intro listed p tmp E a hsz hcnt I hn hx
    refine ⟨fun hr => hend listed p tmp E a hsz (hready listed hsz hr) I hx, fun i hi => ?_⟩
    unfold Region.ready at hi
    obtain ⟨hi1, hi2⟩ := List.mem_filter.1 hi
    have hin : i < n := by simpa [F.size] using hi1
    have hlt : i < listed.size := by rw [hsz]; exact hin
    obtain ⟨o, ho, _⟩ := F.ins i hin
    simp only [ho, Option.map_some, Option.getD_some, Bool.and_eq_true, Bool.not_eq_true'] at hi2
    obtain ⟨hi3, hi4⟩ := hi2
    have hli : listed.getD i false = false := by
      simp only [Array.getD, hlt, dif_pos] at hi3 ⊢
      exact hi3
    rw [Array.all_eq_true_iff_forall_mem] at hi4
    have hpre : ∀ j ∈ preds o, listed.getD j false = true := by
      intro j hj
      unfold preds at hj
      obtain ⟨e, he, rfl⟩ := List.mem_map.1 hj
      obtain ⟨he1, he2⟩ := List.mem_filter.1 he
      have := hi4 e (by simpa using he1)
      simpa [he2] using this
    have hb : ∀ j, j < n → (bf i).testBit j = true → listed.getD j false = true := by
      intro j hj hbit
      rcases F.clos i o j hin ho hbit hj with h | ⟨k, hkp, hkb⟩
      · exact hpre j h
      · have hkl := hpre k hkp
        have hkn : k < n := by
          rcases Nat.lt_or_ge k n with h | h
          · exact h
          · simp [Array.getD, show ¬ k < listed.size by omega] at hkl
        exact I.closed k hkn hkl j hj hkb
    refine I.ready F hn hin (by rw [hli]; simp) hb fun p' tmp' E' a' I' hn' x' => ?_
    have hset : ∀ j, (listed.setIfInBounds i true).getD j false = true ↔ (listed.getD j false = true ∨ j = i) := by
      intro j
      by_cases e : j = i
      · subst e
        simp [Array.getD, hlt]
      · simp only [e, or_false]
        simp only [Array.getD_eq_getD_getElem?]
        rw [Array.getElem?_setIfInBounds_ne (Ne.symm e)]
    refine ih (listed.setIfInBounds i true) p' tmp' E' a' (by simpa using hsz) ?_ ?_ hn' (hx.trans x')
    · have := filter_lt (fun j => !(listed.getD j false)) (fun j => !((listed.setIfInBounds i true).getD j false)) (List.range n) (fun j _ hj => by
        cases hlj : listed.getD j false with
        | false => rfl
        | true =>
          have := (hset j).2 (.inl hlj)
          rw [this] at hj
          cases hj) ⟨i, by simpa using hin, by rw [hli]; rfl, by rw [(hset i).2 (.inr rfl)]; rfl⟩
      omega
    · have hL : (fun j => (listed.setIfInBounds i true).getD j false = true) = fun j => listed.getD j false = true ∨ j = i := by
        funext j
        exact propext (hset j)
      rw [hL]
      exact I'

/-- A REGION WHOSE ORDER IS OPEN. -/
theorem draw_sound {quiet : FuncId → Bool} {ops : Array Oper} {steps : List DStep} (hc : cDraw P N quiet ops = some steps) (hm : P.follows .mixedOrders = true) {id : Nat} {K : Tm → Hp → Prop} {Q : Exit → Act → World → Prop} (hs : Sim E) (ht : TmRel E N tm a) (h : DOps P steps K tm E.h)
    (hk : ∀ (E' : Env) (tm' : Tm) (a' : Act), Sim E' → Ext E E' → TmRel E' N tm' a' → K tm' E'.h → Q .normal a' E'.w) : (Code.region id ops true).wp P Q a E.w := by
  obtain ⟨n, bf, ai, eff, ord, F⟩ := draw_facts hc
  refine wp_region_any hm ?_
  obtain ⟨x1, s1⟩ := drew_ext hs
  have hrep : ∀ j, (Array.replicate ops.size false).getD j false = false := by
    intro j
    simp only [Array.getD_eq_getD_getElem?, Array.getElem?_replicate]
    split <;> rfl
  have I0 : DInv P N n bf ai eff ord steps K tm (fun i => (Array.replicate ops.size false).getD i false = true) 0 tm { E with w := E.w.drew } a := by
    refine ⟨Nat.zero_le _, (fun q i hq => by omega), (fun q i _ _ => by rw [hrep]; simp), (fun i _ hi => by rw [hrep] at hi; cases hi), h, s1, ?_, (fun _ _ => rfl), (fun q i hq => by omega)⟩
    have : cur ai ord 0 (fun i => (Array.replicate ops.size false).getD i false = true) tm tm = tm := by
      funext t
      unfold cur
      rw [if_neg]
      rintro ⟨q, i, h1, _⟩
      omega
    rw [this]
    exact ht.mono x1
  obtain ⟨p, tmp, I, hn⟩ := DInv.advanceAll F n 0 tm (by omega) I0
  exact any_sound F (E0 := E) hk ops.size _ p tmp _ a (by simp [F.size]) (by
    have := List.length_filter_le (fun i => !((Array.replicate ops.size false).getD i false)) (List.range n)
    rw [List.length_range] at this
    rw [F.size]
    rw [F.size] at this
    exact this) I hn x1

end Go.AM
