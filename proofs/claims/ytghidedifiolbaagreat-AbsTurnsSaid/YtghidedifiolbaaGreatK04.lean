/- AM, 15: every operation. -/
import Derived.Test.YtghidedifiolbaaGreatK03
import Derived.Deep.LoopGhost
set_option linter.unusedVariables false
set_option linter.unusedSimpArgs false
namespace Go.AM
variable {P : Program} {N : Nat} {E : Env} {tm : Tm} {a : Act}

theorem step_s2b (hs : Sim E) {o : Oper} {s d e0 : TypeId} {x : Operand} (ho : o.op = .convert s d x) (hsu : P.underlying s = some .string) (hu : P.underlying d = some (.slice e0)) (he : isU8 P e0 = true) {ax : AX} (hx : cOpd N x = some ax) (ht : TmRel E N tm a) {K : AV → Hp → Prop}
    (h : AStep P (.s2b ax) K tm E.h) {next : Act → World → Prop} {Q : Exit → Act → World → Prop} (hk : Goes E K a o.dst next) : o.wp P a E.w next Q := by
  have hv := opd hx ht
  have he' : P.underlying e0 = some (.int .u8) := by
    unfold isU8 at he
    split at he
    · assumption
    · cases he
  simp only [AStep] at h
  split at h
  · rename_i s0 hev
    rw [hev] at hv
    have e1 := hv.str_inv
    have hrun0 := Lib.run_convert_string_bytes (P := P) E.w s d e0 ⟨s0.toArray⟩ hsu hu he'
    let w' := Lib.bytesWorld E.w e0 ⟨s0.toArray⟩
    have hold : ∀ b, b < E.w.heap.size → w'.heap[b]? = E.w.heap[b]? := fun b hb => Lib.bytesWorld_at_old _ _ _ b hb
    have hsize : w'.heap.size = E.w.heap.size + 1 := Lib.bytesWorld_size _ _ _
    have hsame : SameRest E.w w' := by
      refine ⟨?_, ?_, ?_⟩ <;> (simp only [w', Lib.bytesWorld, World.freeze]; split <;> rfl)
    have hx' : Ext E { E with w := w' } := Ext.of (Nat.le_refl _) (fun i _ _ => ⟨Shape.refl _, rfl, rfl⟩) hsame (by show E.w.heap.size ≤ w'.heap.size; omega) (fun b hb _ => hold b hb) (fun b _ hl => hl)
    have hs' : Sim { E with w := w' } := ⟨fun i => (hs.obj i).keep rfl rfl rfl (fun hd => hold _ (hs.lt i hd)) hx'.rel, hs.nx, hs.inj, fun i hi => by have := hs.lt i hi; show E.ι i < w'.heap.size; omega⟩
    have hrel : Rel { E with w := w' } (.fz (s0.map fun b => [.int .u8 (b.toNat : Int)])) (.slice (some ⟨E.w.heap.size, 0, none⟩) s0.length (grownCap E.w s0.length 0 e0)) := by
      have := Rel.fz (E := { E with w := w' }) (s0.map fun b => [.int .u8 (b.toNat : Int)]) (some ⟨E.w.heap.size, 0, none⟩) (grownCap E.w s0.length 0 e0) E.w.heap.size 0 1 (fun i _ => .int .u8 ((s0.getD i 0).toNat : Int))
        (fun _ => ⟨rfl, fun ⟨i, hi1, hi2⟩ => by
          have : E.ι i = E.w.heap.size := hi2
          have := hs.lt i hi1
          omega, by show E.w.heap.size < w'.heap.size; omega⟩)
        (by simp; exact grownCap_ge E.w s0.length 0 e0) (fun x hx => by
          simp at hx; obtain ⟨b, _, rfl⟩ := hx; rfl) (fun x hx c hc => by
          simp at hx; obtain ⟨b, _, rfl⟩ := hx; simp at hc; subst hc; rfl) (fun i x j c hx hj => by
          simp only [List.getElem?_map] at hx
          cases hb : s0[i]? with
          | none => simp [hb] at hx
          | some b =>
            simp [hb] at hx
            subst hx
            have hj0 : j = 0 := by have := (List.getElem?_eq_some_iff.1 hj).1; simpa using this
            subst hj0
            have hil := (List.getElem?_eq_some_iff.1 hb).1
            have := Lib.bytesWorld_cell E.w e0 ⟨s0.toArray⟩ i (by simpa [size_mk] using hil)
            simp only [Nat.zero_add, Nat.mul_one, Nat.add_zero]
            exact this) (fun i x j c hx hj => by
          simp only [List.getElem?_map] at hx
          cases hb : s0[i]? with
          | none => simp [hb] at hx
          | some b =>
            simp [hb] at hx
            subst hx
            have hj0 : j = 0 := by have := (List.getElem?_eq_some_iff.1 hj).1; simpa using this
            subst hj0
            simp at hj
            subst hj
            simp only [List.getD, hb, Option.getD_some]
            exact .int _ _)
      simpa using this
    have hrun : (execOp a.eval o).run P E.w = .ok (.value (.slice (some ⟨E.w.heap.size, 0, none⟩) s0.length (grownCap E.w s0.length 0 e0))) w' := by
      simp only [size_mk] at hrun0
      simp only [execOp, ho, e1, Sem.run_bind, hrun0, Result.andThen_ok, Sem.run_pure, w']
    exact wp_value hrun (hk _ _ _ hs' hx' hrel h)
  · exact h.elim

theorem run_callFunc {w : World} {f : FuncId} {args : Array Value} (h : callable P f = true) : (callFunc f args).run P w = .ok (.enter f args) w := by
  unfold callable at h
  cases hf : P.funcs[f]? with
  | none => simp [hf] at h
  | some fn =>
    simp [hf] at h
    obtain ⟨h1, h2⟩ := h
    cases hb : fn.body with
    | none => simp [hb] at h1
    | some c => simp [callFunc, hf, h2, hb]

theorem wp_called {o : Oper} {f : FuncId} {args : List AV} {cargs : List Value} {K : AV → Hp → Prop} (hs : Sim E) (hc : ACalls P f args E.h K) (hrun : (execOp a.eval o).run P E.w = .ok (.enter f cargs.toArray) E.w) (hr : RelL E args cargs)
    {next : Act → World → Prop} {Q : Exit → Act → World → Prop} (hk : Goes E K a o.dst next) : o.wp P a E.w next Q := by
  unfold Oper.wp
  rw [hrun]
  refine (hc.2 E cargs hs rfl hr).mono ?_
  rintro e w' ⟨v, r, E', rfl, rfl, s', x', hrel, hq⟩
  exact hk r v E' s' x' hrel hq

theorem step_call (hs : Sim E) {o : Oper} {f : FuncId} {as : Array Operand} {ts : Array TypeId} (ho : o.op = .call { callee := .value (.func f), args := as, argTypes := ts }) {aas : List AX} (has : cOpds N as = some aas) (ht : TmRel E N tm a) {K : AV → Hp → Prop}
    (h : AStep P (.call f aas) K tm E.h) {next : Act → World → Prop} {Q : Exit → Act → World → Prop} (hk : Goes E K a o.dst next) : o.wp P a E.w next Q := by
  have hr := opds has ht
  refine wp_called (cargs := (as.map a.eval).toList) hs h ?_ hr hk
  rw [Array.toArray_toList]
  simp [execOp, ho, resolve, invoke, Act.eval, Deferred.ofValue, run_callFunc (P := P) h.1]

theorem step_callv (hs : Sim E) {o : Oper} {t : Tmp} {as : Array Operand} {ts : Array TypeId} (ho : o.op = .call { callee := .value (.tmp t), args := as, argTypes := ts }) {ax : AX} (hax : cOpd N (.tmp t) = some ax) {aas : List AX} (has : cOpds N as = some aas) (ht : TmRel E N tm a) {K : AV → Hp → Prop}
    (h : AStep P (.callv ax aas) K tm E.h) {next : Act → World → Prop} {Q : Exit → Act → World → Prop} (hk : Goes E K a o.dst next) : o.wp P a E.w next Q := by
  have hr := opds has ht
  have hv := opd hax ht
  simp only [AStep] at h
  split at h
  · rename_i f caps hev
    rw [hev] at hv
    obtain ⟨us, e1, hcr⟩ := hv.fn_inv
    refine wp_called (cargs := (as.map a.eval).toList ++ us) hs h ?_ (hr.append hcr) hk
    have e2 : ((as.map a.eval).toList ++ us).toArray = as.map a.eval ++ us.toArray := by
      apply Array.ext'
      simp
    rw [e2]
    simp [execOp, ho, resolve, invoke, e1, Deferred.ofValue, run_callFunc (P := P) h.1]
  · exact h.elim

theorem of_pure (hs : Sim E) {o : Oper} {op : AOp} {K : AV → Hp → Prop} (h : AStep P op K tm E.h) (hdef : AStep P op K tm E.h = (match apure op tm E.h with | some v => K v E.h | none => False)) (hy : ∀ r, apure op tm E.h = some r → Yields P E a o r) {next : Act → World → Prop} {Q : Exit → Act → World → Prop} (hk : Goes E K a o.dst next) : o.wp P a E.w next Q := by
  rw [hdef] at h
  cases hr : apure op tm E.h with
  | none => rw [hr] at h; exact h.elim
  | some r =>
    rw [hr] at h
    obtain ⟨v, hrun, hrel⟩ := hy r hr
    exact wp_value hrun (hk r v E hs (Ext.refl E) hrel h)

theorem step_builtin (hs : Sim E) {o : Oper} {b : Builtin} {as : Array Operand} {ts : Array TypeId} (ho : o.op = .call { callee := .builtin b, args := as, argTypes := ts }) {op : AOp} (hc : cBuiltin P N b ts as = some op) (ht : TmRel E N tm a) {K : AV → Hp → Prop}
    (h : AStep P op K tm E.h) {next : Act → World → Prop} {Q : Exit → Act → World → Prop} (hk : Goes E K a o.dst next) : o.wp P a E.w next Q := by
  unfold cBuiltin at hc
  have has : ∀ l, as.toList = l → as = l.toArray := fun l hl => by rw [← hl]
  have hts : ∀ l, ts.toList = l → ts = l.toArray := fun l hl => by rw [← hl]
  split at hc
  · rename_i x t e1 e2
    rw [has _ e1, hts _ e2] at ho
    cases hx : cOpd N x with
    | none => simp [hx] at hc
    | some ax =>
      simp [hx] at hc
      cases hu : P.underlying t with
      | none => simp [hu] at hc
      | some d =>
        cases d <;> simp [hu] at hc <;> subst hc
        · exact of_pure hs h rfl (fun r hr => yields_len hs ho (k := .str) hu hx ht hr) hk
        · exact of_pure hs h rfl (fun r hr => yields_len hs ho (k := .sl) ⟨_, hu⟩ hx ht hr) hk
        · exact of_pure hs h rfl (fun r hr => yields_len hs ho (k := .map) ⟨_, _, hu⟩ hx ht hr) hk
  · rename_i s x t u e1 e2
    rw [has _ e1, hts _ e2] at ho
    split at hc
    · rename_i htu
      subst htu
      cases hu : P.underlying t with
      | none => simp [hu] at hc
      | some d =>
        cases d <;> simp [hu] at hc
        rename_i e
        cases hi : P.info? e with
        | none => simp [hi] at hc
        | some i =>
          cases hsx : cOpd N s with
          | none => simp [hi, hsx] at hc
          | some asx =>
            cases hx : cOpd N x with
            | none => simp [hi, hsx, hx] at hc
            | some ax =>
              cases hz : i.zero.bind ofConst with
              | none => simp [hi, hsx, hx, hz] at hc
              | some z =>
                simp only [hi, hsx, hx, Option.bind_some] at hc
                simp only [hz, Option.bind_some] at hc
                split at hc
                · rename_i hcond
                  cases hc
                  have hzf : z.flat = true := by
                    cases hzi : i.zero with
                    | none => simp [hzi] at hz
                    | some zv => simp [hzi] at hz; exact ofConst_flat hz
                  exact step_app hs ho hu hi hz hzf hcond.1 hcond.2.1 hcond.2.2 hsx hx ht h hk
                · cases hc
    · cases hc
  · rename_i x y e1
    rw [has _ e1] at ho
    cases hx : cOpd N x with
    | none => simp [hx] at hc
    | some ax =>
      cases hy : cOpd N y with
      | none => simp [hx, hy] at hc
      | some ay => simp [hx, hy] at hc; subst hc; exact of_pure hs h rfl (fun r hr => yields_cx ho hx hy ht hr) hk
  · rename_i x e1
    rw [has _ e1] at ho
    cases hx : cOpd N x with
    | none => simp [hx] at hc
    | some ax => simp [hx] at hc; subst hc; exact of_pure hs h rfl (fun r hr => yields_re ho hx ht hr) hk
  · rename_i x e1
    rw [has _ e1] at ho
    cases hx : cOpd N x with
    | none => simp [hx] at hc
    | some ax => simp [hx] at hc; subst hc; exact of_pure hs h rfl (fun r hr => yields_im ho hx ht hr) hk
  · rename_i x y e1
    rw [has _ e1] at ho
    cases hx : cOpd N x with
    | none => simp [hx] at hc
    | some ax =>
      cases hy : cOpd N y with
      | none => simp [hx, hy] at hc
      | some ay => simp [hx, hy] at hc; subst hc; exact of_pure hs h rfl (fun r hr => yields_mn ho hx hy ht hr) hk
  · rename_i x y e1
    rw [has _ e1] at ho
    cases hx : cOpd N x with
    | none => simp [hx] at hc
    | some ax =>
      cases hy : cOpd N y with
      | none => simp [hx, hy] at hc
      | some ay => simp [hx, hy] at hc; subst hc; exact of_pure hs h rfl (fun r hr => yields_mx ho hx hy ht hr) hk
  · cases hc

theorem step_sound (hs : Sim E) {o : Oper} {op : AOp} (hc : cOp P N o.op = some op) (ht : TmRel E N tm a) {K : AV → Hp → Prop} (h : AStep P op K tm E.h) {next : Act → World → Prop} {Q : Exit → Act → World → Prop} (hk : Goes E K a o.dst next) : o.wp P a E.w next Q := by
  cases ho : o.op with
  | move x =>
    rw [ho] at hc
    cases hx : cOpd N x with
    | none => simp [cOp, hx] at hc
    | some ax => simp [cOp, hx] at hc; subst hc; exact of_pure hs h rfl (fun r hr => by simp [apure] at hr; subst hr; exact yields_move (.inl ho) hx ht) hk
  | assign x =>
    rw [ho] at hc
    cases hx : cOpd N x with
    | none => simp [cOp, hx] at hc
    | some ax => simp [cOp, hx] at hc; subst hc; exact of_pure hs h rfl (fun r hr => by simp [apure] at hr; subst hr; exact yields_move (.inr ho) hx ht) hk
  | pick c x y =>
    rw [ho] at hc
    simp only [cOp, Option.bind_eq_some_iff, Option.map_eq_some_iff] at hc
    obtain ⟨ac, h1, ax, h2, ay, h3, rfl⟩ := hc
    exact of_pure hs h rfl (fun r hr => yields_pick ho h1 h2 h3 ht hr) hk
  | alloc t =>
    rw [ho] at hc
    simp only [cOp, Option.map_eq_some_iff] at hc
    obtain ⟨z, hz, rfl⟩ := hc
    exact step_alloc hs ho hz (zeroOf_flat hz) h hk
  | box t x =>
    rw [ho] at hc
    simp only [cOp, Option.map_eq_some_iff] at hc
    obtain ⟨ax, hx, rfl⟩ := hc
    exact step_box hs ho hx ht h hk
  | build t parts =>
    rw [ho] at hc
    simp only [cOp] at hc
    split at hc
    · rename_i fs hu
      simp only [Option.bind_eq_some_iff] at hc
      obtain ⟨sz, hsz, z, hz, hc⟩ := hc
      split at hc
      · rename_i zs
        simp only [Option.map_eq_some_iff] at hc
        obtain ⟨ps, hps, rfl⟩ := hc
        exact of_pure hs h rfl (fun r hr => yields_build ho hu hsz hz (by simpa only [Option.map_eq_map] using hps) ht hr) hk
      · cases hc
    · cases hc
  | buildSlice t len parts =>
    rw [ho] at hc
    simp only [cOp] at hc
    split at hc
    · rename_i e hu
      simp only [Option.bind_eq_some_iff] at hc
      obtain ⟨i, hi, z, hz, hc⟩ := hc
      split at hc
      · rename_i hcond
        simp only [Option.map_eq_some_iff] at hc
        obtain ⟨ps, hps, rfl⟩ := hc
        exact step_bsl hs ho hu hi (by simpa [Option.bind_eq_some_iff] using hz) hcond hps ht h hk
      · cases hc
    · cases hc
  | insert t m k v =>
    rw [ho] at hc
    simp only [cOp] at hc
    split at hc
    · rename_i kt et hu
      split at hc
      · rename_i kk hkt
        simp only [Option.bind_eq_some_iff, Option.map_eq_some_iff] at hc
        obtain ⟨am, h1, ak, h2, av, h3, rfl⟩ := hc
        exact step_mup hs (.inr ho) hu hkt (ki := true) ⟨_, rfl⟩ h1 h2 h3 ht h hk
      · rename_i hkt
        simp only [Option.bind_eq_some_iff, Option.map_eq_some_iff] at hc
        obtain ⟨am, h1, ak, h2, av, h3, rfl⟩ := hc
        exact step_mup hs (.inr ho) hu hkt (ki := false) rfl h1 h2 h3 ht h hk
      · cases hc
    · cases hc
  | load t x =>
    rw [ho] at hc
    simp only [cOp, Option.bind_eq_some_iff, Option.map_eq_some_iff] at hc
    obtain ⟨ag, hag, ax, hx, rfl⟩ := hc
    cases ag with
    | none => exact of_pure hs h rfl (fun r hr => yields_ldc hs ho hag hx ht hr) hk
    | some n => exact of_pure hs h rfl (fun r hr => yields_lda hs ho hag hx ht hr) hk
  | store t x v =>
    rw [ho] at hc
    simp only [cOp, Option.bind_eq_some_iff, Option.map_eq_some_iff] at hc
    obtain ⟨i, hi, ax, hx, av, hv, rfl⟩ := hc
    exact step_st hs ho hi hx hv ht h hk
  | ready g => rw [ho] at hc; simp [cOp] at hc
  | waits g => rw [ho] at hc; simp [cOp] at hc
  | nilCheck x =>
    rw [ho] at hc
    simp only [cOp, Option.map_eq_some_iff] at hc
    obtain ⟨ax, hx, rfl⟩ := hc
    exact of_pure hs h rfl (fun r hr => yields_nck ho hx ht hr) hk
  | binOp op t x y t' =>
    rw [ho] at hc
    simp only [cOp, Option.bind_eq_some_iff] at hc
    obtain ⟨ax, hx, ay, hy, hc⟩ := hc
    split at hc
    · cases hc; exact of_pure hs h rfl (fun r hr => yields_bin ho hx hy ht hr) hk
    · cases hc; exact of_pure hs h rfl (fun r hr => yields_bin ho hx hy ht hr) hk
    · cases hc; exact of_pure hs h rfl (fun r hr => yields_bin ho hx hy ht hr) hk
    · cases hc; exact of_pure hs h rfl (fun r hr => yields_bin ho hx hy ht hr) hk
    · rename_i hu
      simp only [Option.map_eq_some_iff] at hc
      obtain ⟨n, hn, rfl⟩ := hc
      exact of_pure hs h rfl (fun r hr => yields_beq ho hu hn hx hy ht hr) hk
    · rename_i e hu
      simp only [Option.map_eq_some_iff] at hc
      obtain ⟨n, hn, rfl⟩ := hc
      exact of_pure hs h rfl (fun r hr => yields_peq ho hu hn hx hy ht hr) hk
    · rename_i fs hu
      split at hc
      · rename_i hcond
        simp only [Option.bind_eq_some_iff, Option.map_eq_some_iff] at hc
        obtain ⟨n, hn, ds, hds, rfl⟩ := hc
        exact of_pure hs h rfl (fun r hr => yields_eqa ho hu hcond.1 hcond.2 hn hds hx hy ht hr) hk
      · cases hc
    · cases hc
  | unOp op t x =>
    rw [ho] at hc
    simp only [cOp, Option.map_eq_some_iff] at hc
    obtain ⟨ax, hx, rfl⟩ := hc
    exact of_pure hs h rfl (fun r hr => yields_un ho hx ht hr) hk
  | convert s d x =>
    rw [ho] at hc
    simp only [cOp, Option.bind_eq_some_iff] at hc
    obtain ⟨ax, hx, hc⟩ := hc
    split at hc
    · rename_i k k' h1 h2
      cases hc
      exact of_pure hs h rfl (fun r hr => yields_cvi ho h1 h2 hx ht hr) hk
    · rename_i k h1 h2
      cases hc
      exact of_pure hs h rfl (fun r hr => yields_cvf ho h1 h2 hx ht hr) hk
    · rename_i k h1 h2
      cases hc
      exact of_pure hs h rfl (fun r hr => yields_cfi ho h1 h2 hx ht hr) hk
    · rename_i e h1 h2
      split at hc
      · rename_i he
        cases hc
        exact of_pure hs h rfl (fun r hr => yields_b2s hs ho h1 he h2 hx ht hr) hk
      · cases hc
    · rename_i e h1 h2
      split at hc
      · rename_i he
        cases hc
        exact step_s2b hs ho h1 h2 he hx ht h hk
      · cases hc
    · rename_i e1 e h1 h2
      split at hc
      · rename_i he
        obtain ⟨rfl, he⟩ := he
        cases hc
        exact step_bfz hs ho h2 he hx ht h hk
      · cases hc
    · cases hc
  | sliceToArrayPointer d x => rw [ho] at hc; simp [cOp] at hc
  | makeInterface t x => rw [ho] at hc; simp [cOp] at hc
  | makeFunc fn first caps =>
    rw [ho] at hc
    cases fn <;> simp only [cOp] at hc <;> try (cases hc; done)
    split at hc
    · rename_i hf
      simp only [Option.map_eq_some_iff] at hc
      obtain ⟨cs, hcs, rfl⟩ := hc
      exact of_pure hs h rfl (fun r hr => yields_mkfn ho hf hcs ht hr) hk
    · cases hc
  | makeMap t r =>
    rw [ho] at hc
    cases r with
    | some r => simp [cOp] at hc
    | none =>
      simp only [cOp] at hc
      split at hc
      · cases hc; exact step_mkm hs ho h hk
      · cases hc
  | makeChan t s => rw [ho] at hc; simp [cOp] at hc
  | makeSlice t l c =>
    rw [ho] at hc
    simp only [cOp] at hc
    split at hc
    · rename_i e hu
      simp only [Option.bind_eq_some_iff] at hc
      obtain ⟨i, hi, z, hz, al, hl, ac, hcc, hc⟩ := hc
      split at hc
      · rename_i hcond
        cases hc
        have hz' : i.zero.bind ofConst = some z := by simpa [Option.bind_eq_some_iff] using hz
        have hzf : z.flat = true := by
          cases hzi : i.zero with
          | none => simp [hzi] at hz'
          | some zv => simp [hzi] at hz'; exact ofConst_flat hz'
        exact step_mks hs ho hu hi hz' hzf hcond.1 hcond.2 hl hcc ht h hk
      · cases hc
    · cases hc
  | slice t x lo hi mx =>
    rw [ho] at hc
    cases mx with
    | some m => simp [cOp] at hc
    | none =>
      simp only [cOp] at hc
      split at hc
      · rename_i e hu
        simp only [Option.bind_eq_some_iff, Option.map_eq_some_iff] at hc
        obtain ⟨i, hi', ax, hx, alo, hlo, ahi, hhi, rfl⟩ := hc
        exact of_pure hs h rfl (fun r hr => yields_cut hs ho hu hi' hx hlo hhi ht hr) hk
      · rename_i hu
        simp only [Option.bind_eq_some_iff, Option.map_eq_some_iff] at hc
        obtain ⟨ax, hx, alo, hlo, ahi, hhi, rfl⟩ := hc
        exact of_pure hs h rfl (fun r hr => yields_cuts ho hu hx hlo hhi ht hr) hk
      · cases hc
  | fieldAddr t x f =>
    rw [ho] at hc
    simp only [cOp] at hc
    split at hc
    · rename_i fs hu
      simp only [Option.bind_eq_some_iff] at hc
      obtain ⟨fd, hfd, i, hi, hc⟩ := hc
      split at hc
      · rename_i h0
        simp only [Option.map_eq_some_iff] at hc
        obtain ⟨ax, hx, rfl⟩ := hc
        exact of_pure hs h rfl (fun r hr => yields_fa hs ho hu hfd hi h0 hx ht hr) hk
      · cases hc
    · cases hc
  | field t x f =>
    rw [ho] at hc
    simp only [cOp] at hc
    split at hc
    · rename_i fs hu
      simp only [Option.bind_eq_some_iff, Option.map_eq_some_iff] at hc
      obtain ⟨fd, hfd, ag, hag, ax, hx, rfl⟩ := hc
      exact of_pure hs h rfl (fun r hr => yields_fld ho hu hfd hag hx ht hr) hk
    · cases hc
  | indexAddr t x i =>
    rw [ho] at hc
    simp only [cOp] at hc
    split at hc
    · rename_i e hu
      simp only [Option.bind_eq_some_iff, Option.map_eq_some_iff] at hc
      obtain ⟨inf, hinf, ax, hx, ai, hi, rfl⟩ := hc
      exact of_pure hs h rfl (fun r hr => yields_ia hs ho hu hinf hx hi ht hr) hk
    · cases hc
  | index t x i =>
    rw [ho] at hc
    simp only [cOp] at hc
    split at hc
    · rename_i hu
      simp only [Option.bind_eq_some_iff, Option.map_eq_some_iff] at hc
      obtain ⟨ax, hx, ai, hi, rfl⟩ := hc
      exact of_pure hs h rfl (fun r hr => yields_ixs ho hu hx hi ht hr) hk
    · cases hc
  | lookup t m k ok =>
    rw [ho] at hc
    simp only [cOp] at hc
    split at hc
    · rename_i kt et hu
      split at hc
      · rename_i kk hkt
        simp only [Option.bind_eq_some_iff, Option.map_eq_some_iff] at hc
        obtain ⟨z, hz, am, h1, ak, h2, rfl⟩ := hc
        exact of_pure hs h rfl (fun r hr => yields_look hs ho hu hkt (ki := true) ⟨_, rfl⟩ hz h1 h2 ht hr) hk
      · rename_i hkt
        simp only [Option.bind_eq_some_iff, Option.map_eq_some_iff] at hc
        obtain ⟨z, hz, am, h1, ak, h2, rfl⟩ := hc
        exact of_pure hs h rfl (fun r hr => yields_look hs ho hu hkt (ki := false) rfl hz h1 h2 ht hr) hk
      · cases hc
    · cases hc
  | mapUpdate t m k v =>
    rw [ho] at hc
    simp only [cOp] at hc
    split at hc
    · rename_i kt et hu
      split at hc
      · rename_i kk hkt
        simp only [Option.bind_eq_some_iff, Option.map_eq_some_iff] at hc
        obtain ⟨am, h1, ak, h2, av, h3, rfl⟩ := hc
        exact step_mup hs (.inl ho) hu hkt (ki := true) ⟨_, rfl⟩ h1 h2 h3 ht h hk
      · rename_i hkt
        simp only [Option.bind_eq_some_iff, Option.map_eq_some_iff] at hc
        obtain ⟨am, h1, ak, h2, av, h3, rfl⟩ := hc
        exact step_mup hs (.inl ho) hu hkt (ki := false) rfl h1 h2 h3 ht h hk
      · cases hc
    · cases hc
  | mapEntry t m k => rw [ho] at hc; simp [cOp] at hc
  | entryStore t m s x => rw [ho] at hc; simp [cOp] at hc
  | range t x => rw [ho] at hc; simp [cOp] at hc
  | next it s => rw [ho] at hc; simp [cOp] at hc
  | entry it => rw [ho] at hc; simp [cOp] at hc
  | typeAssert x t u ok => rw [ho] at hc; simp [cOp] at hc
  | extract x i =>
    rw [ho] at hc
    simp only [cOp, Option.map_eq_some_iff] at hc
    obtain ⟨ax, hx, rfl⟩ := hc
    exact of_pure hs h rfl (fun r hr => yields_ext ho hx ht hr) hk
  | call c =>
    rw [ho] at hc
    obtain ⟨callee, as, ts⟩ := c
    cases callee with
    | value f =>
      cases f with
      | func f =>
        simp only [cOp] at hc
        split at hc
        · rename_i k hx
          simp only [Option.bind_eq_some_iff] at hc
          obtain ⟨aas, has, hc⟩ := hc
          split at hc
          · cases hc
            exact of_pure hs h rfl (fun r hr => yields_fext ho hx has ht hr) hk
          · cases hc
        · simp only [Option.map_eq_some_iff] at hc
          obtain ⟨aas, has, rfl⟩ := hc
          exact step_call hs ho has ht h hk
      | tmp t =>
        simp only [cOp, Option.bind_eq_some_iff, Option.map_eq_some_iff] at hc
        obtain ⟨ax, hax, aas, has, rfl⟩ := hc
        exact step_callv hs ho hax has ht h hk
      | const v => simp [cOp] at hc
      | global g => simp [cOp] at hc
    | invoke r m => simp [cOp] at hc
    | builtin b => exact step_builtin hs ho (by simpa [cOp] using hc) ht h hk
  | go c => rw [ho] at hc; simp [cOp] at hc
  | defer c => rw [ho] at hc; simp [cOp] at hc
  | panic x => rw [ho] at hc; simp [cOp] at hc
  | send c x => rw [ho] at hc; simp [cOp] at hc
  | recv t c ok => rw [ho] at hc; simp [cOp] at hc
  | select cs b => rw [ho] at hc; simp [cOp] at hc

end Go.AM

/- AM, 16: what code does: regions, branches, loops; ghost steps; a function's contract out of its code's. -/
namespace Go.AM
variable {P : Program} {N : Nat} {E : Env} {tm : Tm} {a : Act}

/-! ### Ghost steps -/

/-- Some objects are let go. -/
def Sub (h' h : Hp) : Prop := ∀ id, h' id = h id ∨ h' id = .dead

theorem Sub.refl (h : Hp) : Sub h h := fun _ => .inl rfl
theorem Sub.trans {a b c : Hp} (h : Sub a b) (k : Sub b c) : Sub a c := fun id => by
  rcases h id with h1 | h1
  · rcases k id with h2 | h2
    · exact .inl (h1.trans h2)
    · exact .inr (h1.trans h2)
  · exact .inr h1
theorem Sub.fresh {h' h : Hp} {id : Nat} {o : AObj} (k : Sub h' h) (hd : h' id = .dead) : Sub h' (hset h id o) := fun i => by
  by_cases e : i = id
  · subst e; exact .inr hd
  · simp only [hset, if_neg e]; exact k i
theorem Sub.set {h' h : Hp} {id : Nat} {o : AObj} (k : Sub h' h) : Sub (hset h' id o) (hset h id o) := fun i => by
  by_cases e : i = id
  · subst e; simp [hset]
  · simp only [hset, if_neg e]; exact k i
theorem Sub.kill {h : Hp} {id : Nat} : Sub (hset h id .dead) h := fun i => by
  by_cases e : i = id
  · subst e; simp [hset]
  · simp [hset, e]
theorem Sub.dead {h' h : Hp} (k : Sub h' h) {id : Nat} (hd : h id = .dead) : h' id = .dead := by
  rcases k id with h1 | h1
  · exact h1.trans hd
  · exact h1

/-- A value as it reads when some arrays are let go. -/
inductive Frz (h h' : Hp) : AV → AV → Prop
  | same (v : AV) : Frz h h' v v
  | sl (id off len e sz : Nat) (xs : List (List AV)) (hh : h id = .arr e sz xs) (hle : off + len ≤ xs.length) (hd : h' id = .dead) (ys : List (List AV)) (hl : ys.length = len)
      (hly : ∀ (i : Nat) (x y : List AV), xs[off + i]? = some x → ys[i]? = some y → y.length = x.length)
      (hy : ∀ (i : Nat) (x y : List AV) (j : Nat) (c d : AV), xs[off + i]? = some x → ys[i]? = some y → x[j]? = some c → y[j]? = some d → Frz h h' c d) : Frz h h' (.sl id off len) (.fz ys)
  | agg (cs ds : List AV) (hl : ds.length = cs.length) (hy : ∀ (j : Nat) (c d : AV), cs[j]? = some c → ds[j]? = some d → Frz h h' c d) : Frz h h' (.agg cs) (.agg ds)
  | tup (cs ds : List AV) (hl : ds.length = cs.length) (hy : ∀ (j : Nat) (c d : AV), cs[j]? = some c → ds[j]? = some d → Frz h h' c d) : Frz h h' (.tup cs) (.tup ds)

theorem Frz.one {h h' : Hp} {c d : AV} (k : Frz h h' c d) : d.one = c.one := by cases k <;> rfl

theorem Frz.rel (hs : Sim E) {h' : Hp} (hsub : Sub h' E.h) {r r' : AV} (k : Frz E.h h' r r') : ∀ {v : Value}, Rel E r v → Rel { E with h := h' } r' v := by
  obtain ⟨hx, hs'⟩ := forget' hs hsub
  induction k with
  | same v => exact fun h => hx.rel _ _ h
  | sl id off len e sz xs hh hle hd ys hl hly hy ih =>
    intro v hv
    have hfz := freeze_rel hs hh hle hsub hd hv
    obtain ⟨b, cap, blk, o, sz', us, e1, hb, hcap, hsz, h1, hc, hr⟩ := hfz.fz_inv
    have hln : ((xs.drop off).take len).length = len := by simp; omega
    have hget : ∀ i x, xs[off + i]? = some x → i < len → ((xs.drop off).take len)[i]? = some x := fun i x hx' hi => by
      rw [List.getElem?_take, if_pos hi, List.getElem?_drop]; exact hx'
    have hxi : ∀ i, i < len → ∃ x, xs[off + i]? = some x := fun i hi => ⟨_, List.getElem?_eq_getElem (by omega)⟩
    -- the cells' own values, in the old environment
    obtain ⟨us0, hb0, hl0, hxk, hkm, hpos, hlen0, hone0, huo0, hru0⟩ := arr_row hs hh
    obtain ⟨b', cap', e1', hn', hp'⟩ := hv.sl_inv
    obtain ⟨q1, q2, q3⟩ := hp' e sz xs hh
    have hdd : E.h id ≠ .dead := by rw [hh]; simp
    rw [e1', ← hl]
    refine .fz ys b' cap' (E.ι id) (off * sz) sz (fun i j => us0.getD ((off + i) * sz + j) undef) (fun hne => ?_) (by omega) (fun y hy' => ?_) (fun y hy' c hc' => ?_) (fun i y j d hyi hj => ?_) (fun i y j d hyi hj => ?_)
    · have hpos' : 0 < ys.length := List.length_pos_iff.2 hne
      refine ⟨?_, fun hlv => ?_, hs.lt id hdd⟩
      · rcases q3 with ⟨_, h5⟩ | h5
        · omega
        · exact h5
      · obtain ⟨i, hi1, hi2⟩ := hlv
        have hi1' : h' i ≠ .dead := hi1
        have : E.h i ≠ .dead := by
          rcases hsub i with h | h
          · exact h ▸ hi1'
          · exact absurd h hi1'
        have := hs.inj i id this hdd hi2
        subst this
        exact hi1' hd
    · obtain ⟨i, hi⟩ := List.getElem?_of_mem hy'
      have hil : i < len := by rw [← hl]; exact (List.getElem?_eq_some_iff.1 hi).1
      obtain ⟨x, hx'⟩ := hxi i hil
      rw [hly i x y hx' hi]
      exact hlen0 x (List.mem_of_getElem? hx')
    · obtain ⟨i, hi⟩ := List.getElem?_of_mem hy'
      obtain ⟨j, hj⟩ := List.getElem?_of_mem hc'
      have hil : i < len := by rw [← hl]; exact (List.getElem?_eq_some_iff.1 hi).1
      obtain ⟨x, hx'⟩ := hxi i hil
      have hjl : j < x.length := by rw [← hly i x y hx' hi]; exact (List.getElem?_eq_some_iff.1 hj).1
      have hxj : x[j]? = some x[j] := List.getElem?_eq_getElem hjl
      rw [(hy i x y j _ c hx' hi hxj hj).one]
      exact hone0 x (List.mem_of_getElem? hx') _ (List.getElem_mem hjl)
    · have hil : i < len := by rw [← hl]; exact (List.getElem?_eq_some_iff.1 hyi).1
      obtain ⟨x, hx'⟩ := hxi i hil
      have hjl : j < x.length := by rw [← hly i x y hx' hyi]; exact (List.getElem?_eq_some_iff.1 hj).1
      obtain ⟨u, hu, hr'⟩ := hru0 (off + i) x j _ hx' (List.getElem?_eq_getElem hjl)
      show E.w.cell? _ = _
      rw [cell_row hb0]
      have e : off * sz + i * sz + j = (off + i) * sz + j := by rw [Nat.add_mul]
      rw [e, hu]
      simp [List.getD, hu]
    · have hil : i < len := by rw [← hl]; exact (List.getElem?_eq_some_iff.1 hyi).1
      obtain ⟨x, hx'⟩ := hxi i hil
      have hjl : j < x.length := by rw [← hly i x y hx' hyi]; exact (List.getElem?_eq_some_iff.1 hj).1
      have hxj : x[j]? = some x[j] := List.getElem?_eq_getElem hjl
      obtain ⟨u, hu, hr'⟩ := hru0 (off + i) x j _ hx' hxj
      simp only [List.getD, hu, Option.getD_some]
      exact ih i x y j _ d hx' hyi hxj hj hr'
  | agg cs ds hl hy ih =>
    intro v hv
    obtain ⟨us, rfl, hul, h1, hr⟩ := hv.agg_inv
    have hcd : ∀ j d, ds[j]? = some d → ∃ c, cs[j]? = some c := fun j d hd => ⟨_, List.getElem?_eq_getElem (by rw [← hl]; exact (List.getElem?_eq_some_iff.1 hd).1)⟩
    refine .agg ds us (by omega) (fun d hd => ?_) (fun j d u hd hu => ?_)
    · obtain ⟨j, hj⟩ := List.getElem?_of_mem hd
      obtain ⟨c, hc⟩ := hcd j d hj
      rw [(hy j c d hc hj).one]
      exact h1 c (List.mem_of_getElem? hc)
    · obtain ⟨c, hc⟩ := hcd j d hd
      exact ih j c d hc hd (hr.2 j c u hc hu)
  | tup cs ds hl hy ih =>
    intro v hv
    obtain ⟨us, rfl, hr⟩ := hv.tup_inv
    have hcd : ∀ j d, ds[j]? = some d → ∃ c, cs[j]? = some c := fun j d hd => ⟨_, List.getElem?_eq_getElem (by rw [← hl]; exact (List.getElem?_eq_some_iff.1 hd).1)⟩
    refine .tup ds us (by rw [hr.1, hl]) (fun j d u hd hu => ?_)
    obtain ⟨c, hc⟩ := hcd j d hd
    exact ih j c d hc hd (hr.2 j c u hc hu)

/-- A ghost step of a state: objects let go, slots that read anew. -/
def Gho (tm : Tm) (h : Hp) (tm' : Tm) (h' : Hp) : Prop := Sub h' h ∧ ∀ t, Frz h h' (tm t) (tm' t)

theorem Gho.refl (tm : Tm) (h : Hp) : Gho tm h tm h := ⟨Sub.refl h, fun _ => .same _⟩
theorem Gho.sub {tm : Tm} {h h' : Hp} (k : Sub h' h) : Gho tm h tm h' := ⟨k, fun _ => .same _⟩

theorem Gho.sound (hs : Sim E) (ht : TmRel E N tm a) {tm' : Tm} {h' : Hp} (k : Gho tm E.h tm' h') : Sim { E with h := h' } ∧ Ext E { E with h := h' } ∧ TmRel { E with h := h' } N tm' a := by
  obtain ⟨hx, hs'⟩ := forget' hs k.1
  exact ⟨hs', hx, ht.size, ht.defers, fun t htN => (k.2 t).rel hs k.1 (ht.rel t htN)⟩

/-! ### Regions whose order is fixed -/

/-- What a guard says. -/
def gval : AV → Option (Option Bool)
  | .bool b => some (some b)
  | .tup _ => some none
  | _ => none

def AOps (P : Program) : List AIns → (Tm → Hp → Prop) → Tm → Hp → Prop
  | [], K, tm, h => K tm h
  | i :: l, K, tm, h =>
    match i.guard with
    | none => AStep P i.op (fun v h' => AOps P l K (updO tm i.dst v) h') tm h
    | some (g, want) =>
      match gval (tm g) with
      | some b => if b = some want then AStep P i.op (fun v h' => AOps P l K (updO tm i.dst v) h') tm h else AOps P l K (updO tm i.dst .undef) h
      | none => False

/-- Operations and what they are compiled to. -/
inductive Aligned (P : Program) (N : Nat) (ops : Array Oper) : List Nat → List AIns → Prop
  | nil : Aligned P N ops [] []
  | cons (i : Nat) (is : List Nat) (o : Oper) (ai : AIns) (l : List AIns) (ho : ops[i]? = some o) (hc : cIns P N ops o = some ai) (h : Aligned P N ops is l) : Aligned P N ops (i :: is) (ai :: l)

theorem cIns_inv {ops : Array Oper} {o : Oper} {ai : AIns} (h : cIns P N ops o = some ai) : cOp P N o.op = some ai.op ∧ o.dst = ai.dst ∧ (∀ t, ai.dst = some t → t < N) ∧
    (match ai.guard with | none => o.guard = none | some (g, b) => ∃ j, o.guard = some (j, b) ∧ (ops[j]?).bind (·.dst) = some g ∧ g < N) := by
  simp only [cIns, Option.bind_eq_some_iff, Option.map_eq_some_iff] at h
  obtain ⟨op, hop, d, hd, g, hg, rfl⟩ := h
  refine ⟨hop, ?_, ?_, ?_⟩
  · cases ho : o.dst with
    | none => rw [ho] at hd; simp at hd; exact hd
    | some t => rw [ho] at hd; simp at hd; simp [← hd.2]
  · intro t ht
    cases ho : o.dst with
    | none => rw [ho] at hd; simp at hd; subst hd; simp at ht
    | some t' =>
      rw [ho] at hd
      simp at hd
      obtain ⟨h5, h6⟩ := hd
      subst h6
      simp at ht
      exact ht ▸ h5
  · cases ho : o.guard with
    | none => rw [ho] at hg; simp at hg; subst hg; rfl
    | some p =>
      obtain ⟨j, b⟩ := p
      rw [ho] at hg
      simp only at hg
      split at hg
      · rename_i g' hg'
        split at hg
        · rename_i hlt
          simp at hg
          subst hg
          exact ⟨j, rfl, hg', hlt⟩
        · cases hg
      · cases hg

theorem guard_wanted {ops : Array Oper} {o : Oper} {ai : AIns} (h : cIns P N ops o = some ai) (ht : TmRel E N tm a) {g : Nat} {want : Bool} {b : Option Bool} (hg : ai.guard = some (g, want)) (hb : gval (tm g) = some b) : Region.wanted o (yielded ops a.tmps) = (b == some want) := by
  obtain ⟨_, _, _, h4⟩ := cIns_inv h
  rw [hg] at h4
  obtain ⟨j, h5, h6, h7⟩ := h4
  have hr := ht.rel g h7
  have hsz : g < a.tmps.size := by rw [ht.size]; exact h7
  have hd : a.tmps.getD g Go.undef = a.tmps[g] := by rw [Array.getD_eq_getD_getElem?, Array.getElem?_eq_getElem hsz]; rfl
  rw [hd] at hr
  have hget : a.tmps[g]? = some a.tmps[g] := Array.getElem?_eq_getElem hsz
  simp only [Region.wanted, h5, yielded, h6, hget, Option.bind_some]
  generalize a.tmps[g] = v at hr
  cases hv : tm g with
  | bool b' =>
    rw [hv] at hr hb
    have := hr.bool_inv
    subst this
    cases hb
    rfl
  | tup l =>
    rw [hv] at hr hb
    cases hb
    cases hr
    rfl
  | _ => rw [hv] at hb; cases hb

theorem none_wanted {ops : Array Oper} {o : Oper} {ai : AIns} (h : cIns P N ops o = some ai) (hg : ai.guard = none) (y : Nat → Option Bool) : Region.wanted o y = true := by
  obtain ⟨_, _, _, h4⟩ := cIns_inv h
  rw [hg] at h4
  simp [Region.wanted, h4]

theorem ops_sound {ops : Array Oper} {Q : Exit → Act → World → Prop} {K : Tm → Hp → Prop} {is : List Nat} {l : List AIns} (hal : Aligned P N ops is l) : ∀ {E : Env} {tm : Tm} {a : Act}, Sim E → TmRel E N tm a → AOps P l K tm E.h →
    (∀ E' tm' a', Sim E' → Ext E E' → TmRel E' N tm' a' → K tm' E'.h → Q .normal a' E'.w) → wpOps P ops Q is a E.w := by
  induction hal with
  | nil => intro E tm a hs ht h hk; exact hk E tm a hs (Ext.refl E) ht h
  | cons i is o ai l ho hc _ ih =>
    intro E tm a hs ht h hk
    obtain ⟨h1, h2, h3, _⟩ := cIns_inv hc
    have step : AStep P ai.op (fun v h' => AOps P l K (updO tm ai.dst v) h') tm E.h → o.wp P a E.w (wpOps P ops Q is) Q := fun hst =>
      step_sound hs h1 ht hst fun r v E' s' x' hr hq => by
        rw [h2]
        exact ih s' ((ht.mono x').put h3 hr) hq fun E'' tm' a' s'' x'' t'' k'' => hk E'' tm' a' s'' (x'.trans x'') t'' k''
    simp only [wpOps, ho]
    simp only [AOps] at h
    split at h
    · rename_i hg
      rw [none_wanted hc hg]
      exact .inl (step h)
    · rename_i g want hg
      split at h
      · rename_i b hb
        rw [guard_wanted hc ht hg hb]
        split at h
        · rename_i hbw
          simp only [hbw, beq_self_eq_true, if_true]
          exact .inl (step h)
        · rename_i hbw
          have : (b == some want) = false := by simpa using hbw
          simp only [this, Bool.false_eq_true, if_false]
          rw [h2]
          exact ih hs (ht.put h3 (Rel.undef E)) h hk
      · exact h.elim

def cOpsFrom (P : Program) (N : Nat) (ops : Array Oper) : List Oper → Option (List AIns)
  | [] => some []
  | o :: r => (cIns P N ops o).bind fun ai => (cOpsFrom P N ops r).map (ai :: ·)

theorem aligned_from (ops : Array Oper) : ∀ (l : List Oper) (k : Nat) (r : List AIns), (∀ j o, l[j]? = some o → ops[k + j]? = some o) → cOpsFrom P N ops l = some r → Aligned P N ops (List.range' k l.length) r := by
  intro l
  induction l with
  | nil => intro k r _ h; simp [cOpsFrom] at h; subst h; exact .nil
  | cons o l ih =>
    intro k r hg h
    simp only [cOpsFrom, Option.bind_eq_some_iff, Option.map_eq_some_iff] at h
    obtain ⟨ai, hai, r', hr', rfl⟩ := h
    rw [List.length_cons, List.range'_succ]
    refine .cons k _ o ai r' (hg 0 o rfl) hai (ih (k + 1) r' (fun j o' hj => ?_) hr')
    have := hg (j + 1) o' (by simpa using hj)
    rw [← this]
    congr 1
    omega

end Go.AM

/- AM, 17: code, and a function's contract. -/
namespace Go.AM
variable {P : Program} {N : Nat} {E : Env} {tm : Tm} {a : Act}

/-- A step of a region whose order is open. 'eff': nothing else may stand beside it in either order; 'chk': what was read before and may as well be read behind. -/
structure DStep where
  ai : AIns
  eff : Bool
  chk : List AIns

/-- An operation that leaves the heap as it is answers v. -/
def QStep (P : Program) (op : AOp) (v : AV) (tm : Tm) (h : Hp) : Prop :=
  match op with
  | .call f args => ACalls P f (args.map (·.ev tm)) h fun r h' => r = v ∧ h' = h
  | .callv x args =>
    match x.ev tm with
    | .fn f caps => ACalls P f (args.map (·.ev tm) ++ caps) h fun r h' => r = v ∧ h' = h
    | _ => False
  | op => apure op tm h = some v

/-- Is it wanted? -/
def AIns.wants (ai : AIns) (tm : Tm) : Option Bool :=
  match ai.guard with
  | none => some true
  | some (g, want) => (gval (tm g)).map (· == some want)

def Stable (P : Program) : List AIns → Tm → Hp → Prop
  | [], _, _ => True
  | c :: l, tm, h => (c.wants tm = some true → QStep P c.op (match c.dst with | some t => tm t | none => .undef) tm h) ∧ Stable P l tm h

def QRun (P : Program) (op : AOp) (K : AV → Prop) (tm : Tm) (h : Hp) : Prop :=
  match op with
  | .call f args => ∃ v, ACalls P f (args.map (·.ev tm)) h (fun r h' => r = v ∧ h' = h) ∧ K v
  | .callv x args =>
    match x.ev tm with
    | .fn f caps => ∃ v, ACalls P f (args.map (·.ev tm) ++ caps) h (fun r h' => r = v ∧ h' = h) ∧ K v
    | _ => False
  | op => match apure op tm h with
    | some v => K v
    | none => False

def DOps (P : Program) : List DStep → (Tm → Hp → Prop) → Tm → Hp → Prop
  | [], K, tm, h => K tm h
  | s :: l, K, tm, h =>
    match s.ai.wants tm with
    | some true =>
      if s.eff then AStep P s.ai.op (fun v h' => Stable P s.chk (updO tm s.ai.dst v) h' ∧ DOps P l K (updO tm s.ai.dst v) h') tm h
      else QRun P s.ai.op (fun v => DOps P l K (updO tm s.ai.dst v) h) tm h
    | some false => DOps P l K (updO tm s.ai.dst .undef) h
    | none => False

inductive ACode where
  | skip
  | region (l : List AIns)
  | draw (l : List DStep)
  | seq (x y : ACode)
  | cond (c : AX) (x y : ACode)
  | block (id : Nat) (b : ACode)
  | loop (b : ACode)
  | exit (id : Nat)
  | ret

inductive AExit where
  | normal
  | exit (id : Nat)
  | ret

def AExit.conc : AExit → Exit
  | .normal => .normal
  | .exit id => .exit id
  | .ret => .ret

/-- A round's end: the relation at a smaller number, behind ghost steps. -/
def Again (I : Nat → Tm → Hp → Prop) (n : Nat) (tm : Tm) (h : Hp) : Prop := ∃ n', n' < n ∧ ∃ tm' h', Gho tm h tm' h' ∧ I n' tm' h'

def AW (P : Program) : ACode → (AExit → Tm → Hp → Prop) → Tm → Hp → Prop
  | .skip, Q, tm, h => Q .normal tm h
  | .region l, Q, tm, h => AOps P l (Q .normal) tm h
  | .draw l, Q, tm, h => DOps P l (Q .normal) tm h
  | .seq x y, Q, tm, h => AW P x (fun e tm h => match e with
    | .normal => AW P y Q tm h
    | e => Q e tm h) tm h
  | .cond c x y, Q, tm, h => match c.ev tm with
    | .bool b => if b then AW P x Q tm h else AW P y Q tm h
    | _ => False
  | .block id b, Q, tm, h => AW P b (fun e tm h => match e with
    | .exit i => if i = id then Q .normal tm h else Q (.exit i) tm h
    | e => Q e tm h) tm h
  | .loop b, Q, tm, h => ∃ (I : Nat → Tm → Hp → Prop) (n : Nat), (∃ tm' h', Gho tm h tm' h' ∧ I n tm' h') ∧ ∀ n tm h, I n tm h → AW P b (fun e tm' h' => match e with
    | .normal => Again I n tm' h'
    | e => Q e tm' h') tm h
  | .exit id, Q, tm, h => Q (.exit id) tm h
  | .ret, Q, tm, h => Q .ret tm h

/-- What a function answers. -/
inductive ARes where
  | t (n : Nat)
  | one (n : Nat)
  | many (k n : Nat)

def ARes.get (r : ARes) (tm : Tm) (h : Hp) : Option AV :=
  match r with
  | .t n => some (tm n)
  | .one n => apure (.ldc (.t n)) tm h
  | .many k n => apure (.lda k (.t n)) tm h

def resOf (rs : List ARes) (tm : Tm) (h : Hp) : Option AV :=
  match rs with
  | [r] => r.get tm h
  | rs => (rs.mapM fun (r : ARes) => r.get tm h).map .tup

def cRes (P : Program) (N : Nat) : ResultVar → Option ARes
  | .tmp t => if t < N then some (.t t) else none
  | .cell t ty => if t < N then (aggSize P ty).map fun a => match a with | some k => .many k t | none => .one t else none

/-- A result, as it is handed back: behind ghost steps. -/
def Gives (Q : AV → Hp → Prop) (r : Option AV) (h : Hp) : Prop := ∃ v, r = some v ∧ ∃ v' h', Sub h' h ∧ Frz h h' v v' ∧ Q v' h'

def initTm (args : List AV) : Tm := fun t => args.getD t .undef

/-! ### The compilation of code -/

def AX.looks : AX → List Nat
  | .t n => [n]
  | .c _ => []

def looksO : Option AX → List Nat
  | none => []
  | some x => x.looks

def AOp.looks : AOp → List Nat
  | .mov x | .ldc x | .lda _ x | .fa _ x | .nck x | .un _ x | .cvi _ x | .cvf x | .cfi _ x | .fext _ x | .b2s x | .fld _ _ x | .ext x _ | .len _ x | .re x | .im x | .box x | .bfz x | .s2b x => x.looks
  | .bin _ x y | .beq _ x y | .peq _ x y | .eqa _ _ x y | .ia _ x y | .ixs x y | .look _ _ _ x y | .cx x y | .mn x y | .mx x y | .st _ x y | .app _ _ _ x y | .mks _ _ _ _ x y => x.looks ++ y.looks
  | .pick x y z | .mup _ x y z => x.looks ++ (y.looks ++ z.looks)
  | .build _ ps => ps.flatMap fun p => p.2.2.looks
  | .cut _ x lo hi | .cuts x lo hi => x.looks ++ (looksO lo ++ looksO hi)
  | .mkfn _ xs | .bsl _ _ xs | .call _ xs => xs.flatMap (·.looks)
  | .callv x xs => x.looks ++ xs.flatMap (·.looks)
  | .alloc _ | .mkm => []

def AIns.looks (i : AIns) : List Nat := i.op.looks ++ (match i.guard with | some (g, _) => [g] | none => [])

/-- Does it read no memory? -/
def heapFree : AOp → Bool
  | .mov _ | .pick _ _ _ | .build _ _ | .fa _ _ | .nck _ | .bin _ _ _ | .beq _ _ _ | .peq _ _ _ | .eqa _ _ _ _ | .un _ _ | .cvi _ _ | .cvf _ | .cfi _ _ | .fext _ _ | .cuts _ _ _ | .ixs _ _ | .fld _ _ _ | .ext _ _ | .mkfn _ _ | .cx _ _ | .re _ | .im _ | .mn _ _ | .mx _ _ => true
  | .len .sl _ | .len .str _ => true
  | _ => false

def isEff (quiet : FuncId → Bool) : AOp → Bool
  | .alloc _ | .box _ | .bsl _ _ _ | .st _ _ _ | .app _ _ _ _ _ | .mks _ _ _ _ _ _ | .mkm | .mup _ _ _ _ | .bfz _ | .s2b _ | .callv _ _ => true
  | .call f _ => !quiet f
  | _ => false

/-- The operations that an operation waits for. -/
def preds (o : Oper) : List Nat := (o.after.toList.filter fun e => Region.binds .any e).map (·.on)

def canonGo (ps : Nat → List Nat) (eff : Nat → Bool) : Nat → List Nat → List Nat → List Nat
  | 0, _, done => done
  | n + 1, rem, done =>
    match rem.find? fun i => !eff i && (ps i).all done.contains with
    | some i => canonGo ps eff n (rem.erase i) (done ++ [i])
    | none => match rem.find? fun i => (ps i).all done.contains with
      | some i => canonGo ps eff n (rem.erase i) (done ++ [i])
      | none => done

def dstIn (d : Option Nat) (l : List Nat) : Bool := match d with | some t => l.contains t | none => false
def dstSame (d e : Option Nat) : Bool := match d, e with | some t, some u => t == u | _, _ => false

/-- The checks on a region whose order is open. -/
def drawOK (n : Nat) (ps : Nat → List Nat) (bf : Nat → Nat) (ai : Nat → AIns) (eff : Nat → Bool) (ord : List Nat) : Bool :=
  ord.length == n &&
  ((List.range n).all fun i => ord.contains i) &&
  ((List.range n).all fun q => match ord[q]? with
    | some i => i < n && !((ord.take q).contains i) && ((ps i).all fun j => (ord.take q).contains j) && (!eff i || (ord.drop (q + 1)).all fun j => (bf j).testBit i)
    | none => false) &&
  ((List.range n).all fun i =>
    ((List.range n).all fun j => i == j ||
      (!(dstSame (ai i).dst (ai j).dst) && (!(dstIn (ai i).dst (ai j).looks) || (bf j).testBit i || (eff i && (bf i).testBit j)))) &&
    (eff i || (!(dstIn (ai i).dst (ai i).looks) && (ai i).dst.isSome)) &&
    ((List.range n).all fun j => !((bf i).testBit j) || (ps i).contains j || (ps i).any fun k => (bf k).testBit j))

def dBf (ops : Array Oper) (i : Nat) : Nat := (Region.before ops).toList.getD i 0
def dPs (ops : Array Oper) (i : Nat) : List Nat := (ops.toList.map preds).getD i []
def dAi (ais : List AIns) (i : Nat) : AIns := ais.getD i ⟨none, .mkm, none⟩
def dEffs (quiet : FuncId → Bool) (ops : Array Oper) (ais : List AIns) : List Bool :=
  (List.range ais.length).map fun i => isEff quiet (dAi ais i).op || (List.range ais.length).any fun j => i != j && dstIn (dAi ais i).dst (dAi ais j).looks && !((dBf ops j).testBit i)
def dEff (quiet : FuncId → Bool) (ops : Array Oper) (ais : List AIns) (i : Nat) : Bool := (dEffs quiet ops ais).getD i true
def dOrd (quiet : FuncId → Bool) (ops : Array Oper) (ais : List AIns) : List Nat := canonGo (dPs ops) (dEff quiet ops ais) ais.length (List.range ais.length) []
def dChk (ops : Array Oper) (ais : List AIns) (eff : Nat → Bool) (ord : List Nat) (q i : Nat) : List AIns :=
  ((ord.take q).filter fun j => !eff j && !heapFree (dAi ais j).op && !((dBf ops i).testBit j)).map (dAi ais)

def cDraw (P : Program) (N : Nat) (quiet : FuncId → Bool) (ops : Array Oper) : Option (List DStep) :=
  (cOpsFrom P N ops ops.toList).bind fun ais =>
  if drawOK ais.length (dPs ops) (dBf ops) (dAi ais) (dEff quiet ops ais) (dOrd quiet ops ais) then
    some ((List.range ais.length).map fun q =>
      let i := (dOrd quiet ops ais).getD q 0
      { ai := dAi ais i, eff := dEff quiet ops ais i, chk := if dEff quiet ops ais i then dChk ops ais (dEff quiet ops ais) (dOrd quiet ops ais) q i else [] })
  else none

def comp (P : Program) (N : Nat) (quiet : FuncId → Bool) : Code → Option ACode
  | .skip => some .skip
  | .region _ ops draw => if draw then (cDraw P N quiet ops).map .draw else (cOpsFrom P N ops ops.toList).map .region
  | .seq x y => (comp P N quiet x).bind fun x => (comp P N quiet y).map fun y => .seq x y
  | .cond c x y => (cOpd N c).bind fun c => (comp P N quiet x).bind fun x => (comp P N quiet y).map fun y => .cond c x y
  | .block id b => (comp P N quiet b).map fun b => .block id b
  | .loop b => (comp P N quiet b).map fun b => .loop b
  | .exit id => some (.exit id)
  | .ret => some .ret
  | _ => none

/-- A function as compiled. -/
structure AFn where
  n : Nat
  code : ACode
  res : List ARes

def compFn (P : Program) (quiet : FuncId → Bool) (f : Func) : Option AFn :=
  f.body.bind fun c => (comp P f.ntmps quiet c).bind fun code => (f.results.toList.mapM fun r => cRes P f.ntmps r).bind fun res =>
    if f.name = "runtime.NumGoroutine" then none else some ⟨f.ntmps, code, res⟩

end Go.AM

/- AM, 18: regions whose order is open. -/
namespace Go.AM
variable {P : Program} {N : Nat} {E : Env} {tm : Tm} {a : Act}

/-! ### What an operation looks at is all that it hangs on -/

theorem ev_congr {tm tm' : Tm} {x : AX} (h : ∀ t ∈ x.looks, tm t = tm' t) : x.ev tm = x.ev tm' := by
  cases x with
  | t n => exact h n (by simp [AX.looks])
  | c v => rfl

theorem map_congr' {tm tm' : Tm} {xs : List AX} (h : ∀ t ∈ xs.flatMap (·.looks), tm t = tm' t) : xs.map (·.ev tm) = xs.map (·.ev tm') :=
  List.map_congr_left fun x hx => ev_congr fun t ht => h t (List.mem_flatMap.2 ⟨x, hx, ht⟩)

theorem bound_congr {tm tm' : Tm} {x : Option AX} (h : ∀ t ∈ looksO x, tm t = tm' t) : bound tm x = bound tm' x := by
  cases x with
  | none => rfl
  | some x => simp only [bound, ev_congr (x := x) h]

theorem foldl_congr' {α β : Type} (f g : α → β → α) : ∀ (l : List β) (a : α), (∀ a, ∀ b ∈ l, f a b = g a b) → l.foldl f a = l.foldl g a := by
  intro l
  induction l with
  | nil => intro a _; rfl
  | cons b l ih =>
    intro a h
    rw [List.foldl_cons, List.foldl_cons, h a b (by simp)]
    exact ih _ fun a b' hb => h a b' (by simp [hb])

theorem apure_congr {tm tm' : Tm} {h : Hp} {op : AOp} (hl : ∀ t ∈ op.looks, tm t = tm' t) : apure op tm h = apure op tm' h := by
  cases op <;> simp only [AOp.looks, List.mem_append] at hl <;>
    first
      | rfl
      | (rename_i x; simp only [apure, ev_congr (x := x) hl]; done)
      | (rename_i _ x; simp only [apure, ev_congr (x := x) hl]; done)
      | (rename_i x _; simp only [apure, ev_congr (x := x) hl]; done)
      | (rename_i x y; simp only [apure, ev_congr (x := x) (fun t ht => hl t (.inl ht)), ev_congr (x := y) (fun t ht => hl t (.inr ht))]; done)
      | (rename_i x y z; simp only [apure, ev_congr (x := x) (fun t ht => hl t (.inl ht)), ev_congr (x := y) (fun t ht => hl t (.inr (.inl ht))), ev_congr (x := z) (fun t ht => hl t (.inr (.inr ht)))]; done)
      | (rename_i x lo hi; simp only [apure, ev_congr (x := x) (fun t ht => hl t (.inl ht)), bound_congr (x := lo) (fun t ht => hl t (.inr (.inl ht))), bound_congr (x := hi) (fun t ht => hl t (.inr (.inr ht)))]; done)
      | (rename_i z ps
         simp only [apure]
         congr 1
         exact foldl_congr' _ _ _ _ fun a p hp => by rw [ev_congr (x := p.2.2) fun t ht => hl t (List.mem_flatMap.2 ⟨p, hp, ht⟩)])
      | (rename_i f xs; simp only [apure, map_congr' hl]; done)

theorem AStep_congr {tm tm' : Tm} {h : Hp} {op : AOp} {K : AV → Hp → Prop} (hl : ∀ t ∈ op.looks, tm t = tm' t) : AStep P op K tm h = AStep P op K tm' h := by
  cases op
  case alloc => rfl
  case mkm => rfl
  case box x => simp only [AStep, ev_congr (x := x) hl]
  case bfz x => simp only [AStep, ev_congr (x := x) hl]
  case s2b x => simp only [AStep, ev_congr (x := x) hl]
  case bsl e sz xs =>
    have h1 : ∀ x ∈ xs, x.ev tm = x.ev tm' := fun x hx => ev_congr fun t ht => hl t (List.mem_flatMap.2 ⟨x, hx, ht⟩)
    have h2 : (xs.map fun x => (x.ev tm).cells) = xs.map fun x => (x.ev tm').cells := List.map_congr_left fun x hx => by rw [h1 x hx]
    simp only [AStep, h2]
    apply propext
    constructor
    · rintro ⟨p, q⟩; exact ⟨fun x hx => by rw [← h1 x hx]; exact p x hx, q⟩
    · rintro ⟨p, q⟩; exact ⟨fun x hx => by rw [h1 x hx]; exact p x hx, q⟩
  case st n x v =>
    simp only [AOp.looks, List.mem_append] at hl
    simp only [AStep, ev_congr (x := x) (fun t ht => hl t (.inl ht)), ev_congr (x := v) (fun t ht => hl t (.inr ht))]
  case app e sz b s x =>
    simp only [AOp.looks, List.mem_append] at hl
    simp only [AStep, ev_congr (x := s) (fun t ht => hl t (.inl ht)), ev_congr (x := x) (fun t ht => hl t (.inr ht))]
  case mks e sz b z l c =>
    simp only [AOp.looks, List.mem_append] at hl
    simp only [AStep, ev_congr (x := l) (fun t ht => hl t (.inl ht)), ev_congr (x := c) (fun t ht => hl t (.inr ht))]
  case mup ki m k v =>
    simp only [AOp.looks, List.mem_append] at hl
    simp only [AStep, ev_congr (x := m) (fun t ht => hl t (.inl ht)), ev_congr (x := k) (fun t ht => hl t (.inr (.inl ht))), ev_congr (x := v) (fun t ht => hl t (.inr (.inr ht)))]
  case call f xs => simp only [AStep, map_congr' (xs := xs) hl]
  case callv x xs =>
    simp only [AOp.looks, List.mem_append] at hl
    simp only [AStep, ev_congr (x := x) (fun t ht => hl t (.inl ht)), map_congr' (xs := xs) (fun t ht => hl t (.inr ht))]
  all_goals (simp only [AStep]; rw [apure_congr hl])

theorem QStep_congr {tm tm' : Tm} {h : Hp} {op : AOp} {v : AV} (hl : ∀ t ∈ op.looks, tm t = tm' t) : QStep P op v tm h = QStep P op v tm' h := by
  cases op
  case call f xs => simp only [QStep, map_congr' (xs := xs) hl]
  case callv x xs =>
    simp only [AOp.looks, List.mem_append] at hl
    simp only [QStep, ev_congr (x := x) (fun t ht => hl t (.inl ht)), map_congr' (xs := xs) (fun t ht => hl t (.inr ht))]
  all_goals (simp only [QStep]; rw [apure_congr hl])

theorem QRun.step {tm : Tm} {h : Hp} {op : AOp} {K : AV → Prop} (hq : QRun P op K tm h) : ∃ v, QStep P op v tm h ∧ K v := by
  cases op
  case call f xs => obtain ⟨v, h1, h2⟩ := hq; exact ⟨v, h1, h2⟩
  case callv x xs =>
    simp only [QRun] at hq
    split at hq
    · rename_i f caps hev
      obtain ⟨v, h1, h2⟩ := hq
      exact ⟨v, by simp only [QStep, hev]; exact h1, h2⟩
    · exact hq.elim
  all_goals
    simp only [QRun] at hq
    split at hq
    · rename_i v hv
      exact ⟨v, hv, hq⟩
    · exact hq.elim

theorem apure_heapFree {tm : Tm} {h h' : Hp} {op : AOp} (hf : heapFree op = true) : apure op tm h = apure op tm h' := by
  cases op <;> first
    | rfl
    | (simp [heapFree] at hf; done)
    | (rename_i k x; cases k <;> simp [heapFree] at hf <;> (simp only [apure]; cases x.ev tm <;> rfl))

theorem QStep_heapFree {tm : Tm} {h h' : Hp} {op : AOp} {v : AV} (hf : heapFree op = true) : QStep P op v tm h = QStep P op v tm h' := by
  cases op
  case call f xs => simp [heapFree] at hf
  case callv x xs => simp [heapFree] at hf
  all_goals (simp only [QStep]; rw [apure_heapFree hf])

/-- A quiet step, run. -/
theorem QStep.astep {tm : Tm} {h : Hp} {op : AOp} {v : AV} (hq : QStep P op v tm h) (he : isEff (fun _ => true) op = false) : AStep P op (fun r h' => r = v ∧ h' = h) tm h := by
  cases op
  case call f xs => exact hq
  case callv x xs => simp [isEff] at he
  all_goals first
    | (simp [isEff] at he; done)
    | (simp only [QStep] at hq; simp only [AStep, hq]; exact ⟨trivial, trivial⟩)

end Go.AM
