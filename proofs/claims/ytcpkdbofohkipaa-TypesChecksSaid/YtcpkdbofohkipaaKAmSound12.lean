/- AM, 15: every operation. -/
import Derived.Test.YtcpkdbofohkipaaKAmSound11
set_option linter.unusedVariables false
set_option linter.unusedSimpArgs false
set_option linter.unusedSimpArgs false
set_option linter.unusedVariables false
namespace Go.AM
variable {P : Program} {N : Nat} {E : Env} {tm : Tm} {a : Act}

theorem step_s2b (hs : Sim E) {o : Oper} {s d e0 : TypeId} {x : Operand} (ho : o.op = .convert s d x) (hsu : P.underlying s = some .string) (hu : P.underlying d = some (.slice e0)) (he : isU8 P e0 = true) {ax : AX} (hx : cOpd N x = some ax) (ht : TmRel E N tm a) {K : AV → Hp → Prop}
    (h : AStep P (.s2b ax) K tm E.h) {next : Act → World → Prop} {Q : Exit → Act → World → Prop} (hk : Goes E K a o.dst next) : o.wp P a E.w next Q := by
  have hv := opd hx ht
  have he' : P.underlying e0 = some (.int .u8) := by
    unfold isU8 at he
    split at he
    · assumption
    · cases he
  simp only [AStep] at h
  split at h
  · rename_i s0 hev
    rw [hev] at hv
    have e1 := hv.str_inv
    have hrun0 := Lib.run_convert_string_bytes (P := P) E.w s d e0 ⟨s0.toArray⟩ hsu hu he'
    let w' := Lib.bytesWorld E.w e0 ⟨s0.toArray⟩
    have hold : ∀ b, b < E.w.heap.size → w'.heap[b]? = E.w.heap[b]? := fun b hb => Lib.bytesWorld_at_old _ _ _ b hb
    have hsize : w'.heap.size = E.w.heap.size + 1 := Lib.bytesWorld_size _ _ _
    have hsame : SameRest E.w w' := by
      refine ⟨?_, ?_, ?_⟩ <;> (simp only [w', Lib.bytesWorld, World.freeze]; split <;> rfl)
    have hx' : Ext E { E with w := w' } := Ext.of (Nat.le_refl _) (fun i _ _ => ⟨Shape.refl _, rfl, rfl⟩) hsame (by show E.w.heap.size ≤ w'.heap.size; omega) (fun b hb _ => hold b hb) (fun b _ hl => hl)
    have hs' : Sim { E with w := w' } := ⟨fun i => (hs.obj i).keep rfl rfl rfl (fun hd => hold _ (hs.lt i hd)) hx'.rel, hs.nx, hs.inj, fun i hi => by have := hs.lt i hi; show E.ι i < w'.heap.size; omega⟩
    have hrel : Rel { E with w := w' } (.fz (s0.map fun b => [.int .u8 (b.toNat : Int)])) (.slice (some ⟨E.w.heap.size, 0, none⟩) s0.length (grownCap E.w s0.length 0 e0)) := by
      have := Rel.fz (E := { E with w := w' }) (s0.map fun b => [.int .u8 (b.toNat : Int)]) (some ⟨E.w.heap.size, 0, none⟩) (grownCap E.w s0.length 0 e0) E.w.heap.size 0 1 (fun i _ => .int .u8 ((s0.getD i 0).toNat : Int))
        (fun _ => ⟨rfl, fun ⟨i, hi1, hi2⟩ => by
          have : E.ι i = E.w.heap.size := hi2
          have := hs.lt i hi1
          omega, by show E.w.heap.size < w'.heap.size; omega⟩)
        (by simp; exact grownCap_ge E.w s0.length 0 e0) (fun x hx => by
          simp at hx; obtain ⟨b, _, rfl⟩ := hx; rfl) (fun x hx c hc => by
          simp at hx; obtain ⟨b, _, rfl⟩ := hx; simp at hc; subst hc; rfl) (fun i x j c hx hj => by
          simp only [List.getElem?_map] at hx
          cases hb : s0[i]? with
          | none => simp [hb] at hx
          | some b =>
            simp [hb] at hx
            subst hx
            have hj0 : j = 0 := by have := (List.getElem?_eq_some_iff.1 hj).1; simpa using this
            subst hj0
            have hil := (List.getElem?_eq_some_iff.1 hb).1
            have := Lib.bytesWorld_cell E.w e0 ⟨s0.toArray⟩ i (by simpa [size_mk] using hil)
            simp only [Nat.zero_add, Nat.mul_one, Nat.add_zero]
            exact this) (fun i x j c hx hj => by
          simp only [List.getElem?_map] at hx
          cases hb : s0[i]? with
          | none => simp [hb] at hx
          | some b =>
            simp [hb] at hx
            subst hx
            have hj0 : j = 0 := by have := (List.getElem?_eq_some_iff.1 hj).1; simpa using this
            subst hj0
            simp at hj
            subst hj
            simp only [List.getD, hb, Option.getD_some]
            exact .int _ _)
      simpa using this
    have hrun : (execOp a.eval o).run P E.w = .ok (.value (.slice (some ⟨E.w.heap.size, 0, none⟩) s0.length (grownCap E.w s0.length 0 e0))) w' := by
      simp only [size_mk] at hrun0
      simp only [execOp, ho, e1, Sem.run_bind, hrun0, Result.andThen_ok, Sem.run_pure, w']
    exact wp_value hrun (hk _ _ _ hs' hx' hrel h)
  · exact h.elim

theorem run_callFunc {w : World} {f : FuncId} {args : Array Value} (h : callable P f = true) : (callFunc f args).run P w = .ok (.enter f args) w := by
  unfold callable at h
  cases hf : P.funcs[f]? with
  | none => simp [hf] at h
  | some fn =>
    simp [hf] at h
    obtain ⟨h1, h2⟩ := h
    cases hb : fn.body with
    | none => simp [hb] at h1
    | some c => simp [callFunc, hf, h2, hb]

theorem wp_called {o : Oper} {f : FuncId} {args : List AV} {cargs : List Value} {K : AV → Hp → Prop} (hs : Sim E) (hc : ACalls P f args E.h K) (hrun : (execOp a.eval o).run P E.w = .ok (.enter f cargs.toArray) E.w) (hr : RelL E args cargs)
    {next : Act → World → Prop} {Q : Exit → Act → World → Prop} (hk : Goes E K a o.dst next) : o.wp P a E.w next Q := by
  unfold Oper.wp
  rw [hrun]
  refine (hc.2 E cargs hs rfl hr).mono ?_
  rintro e w' ⟨v, r, E', rfl, rfl, s', x', hrel, hq⟩
  exact hk r v E' s' x' hrel hq

theorem step_call (hs : Sim E) {o : Oper} {f : FuncId} {as : Array Operand} {ts : Array TypeId} (ho : o.op = .call { callee := .value (.func f), args := as, argTypes := ts }) {aas : List AX} (has : cOpds N as = some aas) (ht : TmRel E N tm a) {K : AV → Hp → Prop}
    (h : AStep P (.call f aas) K tm E.h) {next : Act → World → Prop} {Q : Exit → Act → World → Prop} (hk : Goes E K a o.dst next) : o.wp P a E.w next Q := by
  have hr := opds has ht
  refine wp_called (cargs := (as.map a.eval).toList) hs h ?_ hr hk
  rw [Array.toArray_toList]
  simp [execOp, ho, resolve, invoke, Act.eval, Deferred.ofValue, run_callFunc (P := P) h.1]

theorem step_callv (hs : Sim E) {o : Oper} {t : Tmp} {as : Array Operand} {ts : Array TypeId} (ho : o.op = .call { callee := .value (.tmp t), args := as, argTypes := ts }) {ax : AX} (hax : cOpd N (.tmp t) = some ax) {aas : List AX} (has : cOpds N as = some aas) (ht : TmRel E N tm a) {K : AV → Hp → Prop}
    (h : AStep P (.callv ax aas) K tm E.h) {next : Act → World → Prop} {Q : Exit → Act → World → Prop} (hk : Goes E K a o.dst next) : o.wp P a E.w next Q := by
  have hr := opds has ht
  have hv := opd hax ht
  simp only [AStep] at h
  split at h
  · rename_i f caps hev
    rw [hev] at hv
    obtain ⟨us, e1, hcr⟩ := hv.fn_inv
    refine wp_called (cargs := (as.map a.eval).toList ++ us) hs h ?_ (hr.append hcr) hk
    have e2 : ((as.map a.eval).toList ++ us).toArray = as.map a.eval ++ us.toArray := by
      apply Array.ext'
      simp
    rw [e2]
    simp [execOp, ho, resolve, invoke, e1, Deferred.ofValue, run_callFunc (P := P) h.1]
  · exact h.elim

theorem of_pure (hs : Sim E) {o : Oper} {op : AOp} {K : AV → Hp → Prop} (h : AStep P op K tm E.h) (hdef : AStep P op K tm E.h = (match apure op tm E.h with | some v => K v E.h | none => False)) (hy : ∀ r, apure op tm E.h = some r → Yields P E a o r) {next : Act → World → Prop} {Q : Exit → Act → World → Prop} (hk : Goes E K a o.dst next) : o.wp P a E.w next Q := by
  rw [hdef] at h
  cases hr : apure op tm E.h with
  | none => rw [hr] at h; exact h.elim
  | some r =>
    rw [hr] at h
    obtain ⟨v, hrun, hrel⟩ := hy r hr
    exact wp_value hrun (hk r v E hs (Ext.refl E) hrel h)

theorem step_builtin (hs : Sim E) {o : Oper} {b : Builtin} {as : Array Operand} {ts : Array TypeId} (ho : o.op = .call { callee := .builtin b, args := as, argTypes := ts }) {op : AOp} (hc : cBuiltin P N b ts as = some op) (ht : TmRel E N tm a) {K : AV → Hp → Prop}
    (h : AStep P op K tm E.h) {next : Act → World → Prop} {Q : Exit → Act → World → Prop} (hk : Goes E K a o.dst next) : o.wp P a E.w next Q := by
  unfold cBuiltin at hc
  have has : ∀ l, as.toList = l → as = l.toArray := fun l hl => by rw [← hl]
  have hts : ∀ l, ts.toList = l → ts = l.toArray := fun l hl => by rw [← hl]
  split at hc
  · rename_i x t e1 e2
    rw [has _ e1, hts _ e2] at ho
    cases hx : cOpd N x with
    | none => simp [hx] at hc
    | some ax =>
      simp [hx] at hc
      cases hu : P.underlying t with
      | none => simp [hu] at hc
      | some d =>
        cases d <;> simp [hu] at hc <;> subst hc
        · exact of_pure hs h rfl (fun r hr => yields_len hs ho (k := .str) hu hx ht hr) hk
        · exact of_pure hs h rfl (fun r hr => yields_len hs ho (k := .sl) ⟨_, hu⟩ hx ht hr) hk
        · exact of_pure hs h rfl (fun r hr => yields_len hs ho (k := .map) ⟨_, _, hu⟩ hx ht hr) hk
  · rename_i s x t u e1 e2
    rw [has _ e1, hts _ e2] at ho
    split at hc
    · rename_i htu
      subst htu
      cases hu : P.underlying t with
      | none => simp [hu] at hc
      | some d =>
        cases d <;> simp [hu] at hc
        rename_i e
        cases hi : P.info? e with
        | none => simp [hi] at hc
        | some i =>
          cases hsx : cOpd N s with
          | none => simp [hi, hsx] at hc
          | some asx =>
            cases hx : cOpd N x with
            | none => simp [hi, hsx, hx] at hc
            | some ax =>
              cases hz : i.zero.bind ofConst with
              | none => simp [hi, hsx, hx, hz] at hc
              | some z =>
                simp only [hi, hsx, hx, Option.bind_some] at hc
                simp only [hz, Option.bind_some] at hc
                split at hc
                · rename_i hcond
                  cases hc
                  have hzf : z.flat = true := by
                    cases hzi : i.zero with
                    | none => simp [hzi] at hz
                    | some zv => simp [hzi] at hz; exact ofConst_flat hz
                  exact step_app hs ho hu hi hz hzf hcond.1 hcond.2.1 hcond.2.2 hsx hx ht h hk
                · cases hc
    · cases hc
  · rename_i x y e1
    rw [has _ e1] at ho
    cases hx : cOpd N x with
    | none => simp [hx] at hc
    | some ax =>
      cases hy : cOpd N y with
      | none => simp [hx, hy] at hc
      | some ay => simp [hx, hy] at hc; subst hc; exact of_pure hs h rfl (fun r hr => yields_cx ho hx hy ht hr) hk
  · rename_i x e1
    rw [has _ e1] at ho
    cases hx : cOpd N x with
    | none => simp [hx] at hc
    | some ax => simp [hx] at hc; subst hc; exact of_pure hs h rfl (fun r hr => yields_re ho hx ht hr) hk
  · rename_i x e1
    rw [has _ e1] at ho
    cases hx : cOpd N x with
    | none => simp [hx] at hc
    | some ax => simp [hx] at hc; subst hc; exact of_pure hs h rfl (fun r hr => yields_im ho hx ht hr) hk
  · rename_i x y e1
    rw [has _ e1] at ho
    cases hx : cOpd N x with
    | none => simp [hx] at hc
    | some ax =>
      cases hy : cOpd N y with
      | none => simp [hx, hy] at hc
      | some ay => simp [hx, hy] at hc; subst hc; exact of_pure hs h rfl (fun r hr => yields_mn ho hx hy ht hr) hk
  · rename_i x y e1
    rw [has _ e1] at ho
    cases hx : cOpd N x with
    | none => simp [hx] at hc
    | some ax =>
      cases hy : cOpd N y with
      | none => simp [hx, hy] at hc
      | some ay => simp [hx, hy] at hc; subst hc; exact of_pure hs h rfl (fun r hr => yields_mx ho hx hy ht hr) hk
  · cases hc

theorem step_sound (hs : Sim E) {o : Oper} {op : AOp} (hc : cOp P N o.op = some op) (ht : TmRel E N tm a) {K : AV → Hp → Prop} (h : AStep P op K tm E.h) {next : Act → World → Prop} {Q : Exit → Act → World → Prop} (hk : Goes E K a o.dst next) : o.wp P a E.w next Q := by
  cases ho : o.op with
  | move x =>
    rw [ho] at hc
    cases hx : cOpd N x with
    | none => simp [cOp, hx] at hc
    | some ax => simp [cOp, hx] at hc; subst hc; exact of_pure hs h rfl (fun r hr => by simp [apure] at hr; subst hr; exact yields_move (.inl ho) hx ht) hk
  | assign x =>
    rw [ho] at hc
    cases hx : cOpd N x with
    | none => simp [cOp, hx] at hc
    | some ax => simp [cOp, hx] at hc; subst hc; exact of_pure hs h rfl (fun r hr => by simp [apure] at hr; subst hr; exact yields_move (.inr ho) hx ht) hk
  | pick c x y =>
    rw [ho] at hc
    simp only [cOp, Option.bind_eq_some_iff, Option.map_eq_some_iff] at hc
    obtain ⟨ac, h1, ax, h2, ay, h3, rfl⟩ := hc
    exact of_pure hs h rfl (fun r hr => yields_pick ho h1 h2 h3 ht hr) hk
  | alloc t =>
    rw [ho] at hc
    simp only [cOp, Option.map_eq_some_iff] at hc
    obtain ⟨z, hz, rfl⟩ := hc
    exact step_alloc hs ho hz (zeroOf_flat hz) h hk
  | box t x =>
    rw [ho] at hc
    simp only [cOp, Option.map_eq_some_iff] at hc
    obtain ⟨ax, hx, rfl⟩ := hc
    exact step_box hs ho hx ht h hk
  | build t parts =>
    rw [ho] at hc
    simp only [cOp] at hc
    split at hc
    · rename_i fs hu
      simp only [Option.bind_eq_some_iff] at hc
      obtain ⟨sz, hsz, z, hz, hc⟩ := hc
      split at hc
      · rename_i zs
        simp only [Option.map_eq_some_iff] at hc
        obtain ⟨ps, hps, rfl⟩ := hc
        exact of_pure hs h rfl (fun r hr => yields_build ho hu hsz hz (by simpa only [Option.map_eq_map] using hps) ht hr) hk
      · cases hc
    · cases hc
  | buildSlice t len parts =>
    rw [ho] at hc
    simp only [cOp] at hc
    split at hc
    · rename_i e hu
      simp only [Option.bind_eq_some_iff] at hc
      obtain ⟨i, hi, z, hz, hc⟩ := hc
      split at hc
      · rename_i hcond
        simp only [Option.map_eq_some_iff] at hc
        obtain ⟨ps, hps, rfl⟩ := hc
        exact step_bsl hs ho hu hi (by simpa [Option.bind_eq_some_iff] using hz) hcond hps ht h hk
      · cases hc
    · cases hc
  | insert t m k v =>
    rw [ho] at hc
    simp only [cOp] at hc
    split at hc
    · rename_i kt et hu
      split at hc
      · rename_i kk hkt
        simp only [Option.bind_eq_some_iff, Option.map_eq_some_iff] at hc
        obtain ⟨am, h1, ak, h2, av, h3, rfl⟩ := hc
        exact step_mup hs (.inr ho) hu hkt (ki := true) ⟨_, rfl⟩ h1 h2 h3 ht h hk
      · rename_i hkt
        simp only [Option.bind_eq_some_iff, Option.map_eq_some_iff] at hc
        obtain ⟨am, h1, ak, h2, av, h3, rfl⟩ := hc
        exact step_mup hs (.inr ho) hu hkt (ki := false) rfl h1 h2 h3 ht h hk
      · cases hc
    · cases hc
  | load t x =>
    rw [ho] at hc
    simp only [cOp, Option.bind_eq_some_iff, Option.map_eq_some_iff] at hc
    obtain ⟨ag, hag, ax, hx, rfl⟩ := hc
    cases ag with
    | none => exact of_pure hs h rfl (fun r hr => yields_ldc hs ho hag hx ht hr) hk
    | some n => exact of_pure hs h rfl (fun r hr => yields_lda hs ho hag hx ht hr) hk
  | store t x v =>
    rw [ho] at hc
    simp only [cOp, Option.bind_eq_some_iff, Option.map_eq_some_iff] at hc
    obtain ⟨i, hi, ax, hx, av, hv, rfl⟩ := hc
    exact step_st hs ho hi hx hv ht h hk
  | ready g => rw [ho] at hc; simp [cOp] at hc
  | waits g => rw [ho] at hc; simp [cOp] at hc
  | nilCheck x =>
    rw [ho] at hc
    simp only [cOp, Option.map_eq_some_iff] at hc
    obtain ⟨ax, hx, rfl⟩ := hc
    exact of_pure hs h rfl (fun r hr => yields_nck ho hx ht hr) hk
  | binOp op t x y t' =>
    rw [ho] at hc
    simp only [cOp, Option.bind_eq_some_iff] at hc
    obtain ⟨ax, hx, ay, hy, hc⟩ := hc
    split at hc
    · cases hc; exact of_pure hs h rfl (fun r hr => yields_bin ho hx hy ht hr) hk
    · cases hc; exact of_pure hs h rfl (fun r hr => yields_bin ho hx hy ht hr) hk
    · cases hc; exact of_pure hs h rfl (fun r hr => yields_bin ho hx hy ht hr) hk
    · rename_i hu
      simp only [Option.map_eq_some_iff] at hc
      obtain ⟨n, hn, rfl⟩ := hc
      exact of_pure hs h rfl (fun r hr => yields_beq ho hu hn hx hy ht hr) hk
    · rename_i e hu
      simp only [Option.map_eq_some_iff] at hc
      obtain ⟨n, hn, rfl⟩ := hc
      exact of_pure hs h rfl (fun r hr => yields_peq ho hu hn hx hy ht hr) hk
    · rename_i fs hu
      split at hc
      · rename_i hcond
        simp only [Option.bind_eq_some_iff, Option.map_eq_some_iff] at hc
        obtain ⟨n, hn, ds, hds, rfl⟩ := hc
        exact of_pure hs h rfl (fun r hr => yields_eqa ho hu hcond.1 hcond.2 hn hds hx hy ht hr) hk
      · cases hc
    · cases hc
  | unOp op t x =>
    rw [ho] at hc
    simp only [cOp, Option.map_eq_some_iff] at hc
    obtain ⟨ax, hx, rfl⟩ := hc
    exact of_pure hs h rfl (fun r hr => yields_un ho hx ht hr) hk
  | convert s d x =>
    rw [ho] at hc
    simp only [cOp, Option.bind_eq_some_iff] at hc
    obtain ⟨ax, hx, hc⟩ := hc
    split at hc
    · rename_i k k' h1 h2
      cases hc
      exact of_pure hs h rfl (fun r hr => yields_cvi ho h1 h2 hx ht hr) hk
    · rename_i k h1 h2
      cases hc
      exact of_pure hs h rfl (fun r hr => yields_cvf ho h1 h2 hx ht hr) hk
    · rename_i e h1 h2
      split at hc
      · rename_i he
        cases hc
        exact of_pure hs h rfl (fun r hr => yields_b2s hs ho h1 he h2 hx ht hr) hk
      · cases hc
    · rename_i e h1 h2
      split at hc
      · rename_i he
        cases hc
        exact step_s2b hs ho h1 h2 he hx ht h hk
      · cases hc
    · rename_i e1 e h1 h2
      split at hc
      · rename_i he
        obtain ⟨rfl, he⟩ := he
        cases hc
        exact step_bfz hs ho h2 he hx ht h hk
      · cases hc
    · cases hc
  | sliceToArrayPointer d x => rw [ho] at hc; simp [cOp] at hc
  | makeInterface t x => rw [ho] at hc; simp [cOp] at hc
  | makeFunc fn first caps =>
    rw [ho] at hc
    cases fn <;> simp only [cOp] at hc <;> try (cases hc; done)
    split at hc
    · rename_i hf
      simp only [Option.map_eq_some_iff] at hc
      obtain ⟨cs, hcs, rfl⟩ := hc
      exact of_pure hs h rfl (fun r hr => yields_mkfn ho hf hcs ht hr) hk
    · cases hc
  | makeMap t r =>
    rw [ho] at hc
    cases r with
    | some r => simp [cOp] at hc
    | none =>
      simp only [cOp] at hc
      split at hc
      · cases hc; exact step_mkm hs ho h hk
      · cases hc
  | makeChan t s => rw [ho] at hc; simp [cOp] at hc
  | makeSlice t l c =>
    rw [ho] at hc
    simp only [cOp] at hc
    split at hc
    · rename_i e hu
      simp only [Option.bind_eq_some_iff] at hc
      obtain ⟨i, hi, z, hz, al, hl, ac, hcc, hc⟩ := hc
      split at hc
      · rename_i hcond
        cases hc
        have hz' : i.zero.bind ofConst = some z := by simpa [Option.bind_eq_some_iff] using hz
        have hzf : z.flat = true := by
          cases hzi : i.zero with
          | none => simp [hzi] at hz'
          | some zv => simp [hzi] at hz'; exact ofConst_flat hz'
        exact step_mks hs ho hu hi hz' hzf hcond.1 hcond.2 hl hcc ht h hk
      · cases hc
    · cases hc
  | slice t x lo hi mx =>
    rw [ho] at hc
    cases mx with
    | some m => simp [cOp] at hc
    | none =>
      simp only [cOp] at hc
      split at hc
      · rename_i e hu
        simp only [Option.bind_eq_some_iff, Option.map_eq_some_iff] at hc
        obtain ⟨i, hi', ax, hx, alo, hlo, ahi, hhi, rfl⟩ := hc
        exact of_pure hs h rfl (fun r hr => yields_cut hs ho hu hi' hx hlo hhi ht hr) hk
      · rename_i hu
        simp only [Option.bind_eq_some_iff, Option.map_eq_some_iff] at hc
        obtain ⟨ax, hx, alo, hlo, ahi, hhi, rfl⟩ := hc
        exact of_pure hs h rfl (fun r hr => yields_cuts ho hu hx hlo hhi ht hr) hk
      · cases hc
  | fieldAddr t x f =>
    rw [ho] at hc
    simp only [cOp] at hc
    split at hc
    · rename_i fs hu
      simp only [Option.bind_eq_some_iff] at hc
      obtain ⟨fd, hfd, i, hi, hc⟩ := hc
      split at hc
      · rename_i h0
        simp only [Option.map_eq_some_iff] at hc
        obtain ⟨ax, hx, rfl⟩ := hc
        exact of_pure hs h rfl (fun r hr => yields_fa hs ho hu hfd hi h0 hx ht hr) hk
      · cases hc
    · cases hc
  | field t x f =>
    rw [ho] at hc
    simp only [cOp] at hc
    split at hc
    · rename_i fs hu
      simp only [Option.bind_eq_some_iff, Option.map_eq_some_iff] at hc
      obtain ⟨fd, hfd, ag, hag, ax, hx, rfl⟩ := hc
      exact of_pure hs h rfl (fun r hr => yields_fld ho hu hfd hag hx ht hr) hk
    · cases hc
  | indexAddr t x i =>
    rw [ho] at hc
    simp only [cOp] at hc
    split at hc
    · rename_i e hu
      simp only [Option.bind_eq_some_iff, Option.map_eq_some_iff] at hc
      obtain ⟨inf, hinf, ax, hx, ai, hi, rfl⟩ := hc
      exact of_pure hs h rfl (fun r hr => yields_ia hs ho hu hinf hx hi ht hr) hk
    · cases hc
  | index t x i =>
    rw [ho] at hc
    simp only [cOp] at hc
    split at hc
    · rename_i hu
      simp only [Option.bind_eq_some_iff, Option.map_eq_some_iff] at hc
      obtain ⟨ax, hx, ai, hi, rfl⟩ := hc
      exact of_pure hs h rfl (fun r hr => yields_ixs ho hu hx hi ht hr) hk
    · cases hc
  | lookup t m k ok =>
    rw [ho] at hc
    simp only [cOp] at hc
    split at hc
    · rename_i kt et hu
      split at hc
      · rename_i kk hkt
        simp only [Option.bind_eq_some_iff, Option.map_eq_some_iff] at hc
        obtain ⟨z, hz, am, h1, ak, h2, rfl⟩ := hc
        exact of_pure hs h rfl (fun r hr => yields_look hs ho hu hkt (ki := true) ⟨_, rfl⟩ hz h1 h2 ht hr) hk
      · rename_i hkt
        simp only [Option.bind_eq_some_iff, Option.map_eq_some_iff] at hc
        obtain ⟨z, hz, am, h1, ak, h2, rfl⟩ := hc
        exact of_pure hs h rfl (fun r hr => yields_look hs ho hu hkt (ki := false) rfl hz h1 h2 ht hr) hk
      · cases hc
    · cases hc
  | mapUpdate t m k v =>
    rw [ho] at hc
    simp only [cOp] at hc
    split at hc
    · rename_i kt et hu
      split at hc
      · rename_i kk hkt
        simp only [Option.bind_eq_some_iff, Option.map_eq_some_iff] at hc
        obtain ⟨am, h1, ak, h2, av, h3, rfl⟩ := hc
        exact step_mup hs (.inl ho) hu hkt (ki := true) ⟨_, rfl⟩ h1 h2 h3 ht h hk
      · rename_i hkt
        simp only [Option.bind_eq_some_iff, Option.map_eq_some_iff] at hc
        obtain ⟨am, h1, ak, h2, av, h3, rfl⟩ := hc
        exact step_mup hs (.inl ho) hu hkt (ki := false) rfl h1 h2 h3 ht h hk
      · cases hc
    · cases hc
  | mapEntry t m k => rw [ho] at hc; simp [cOp] at hc
  | entryStore t m s x => rw [ho] at hc; simp [cOp] at hc
  | range t x => rw [ho] at hc; simp [cOp] at hc
  | next it s => rw [ho] at hc; simp [cOp] at hc
  | entry it => rw [ho] at hc; simp [cOp] at hc
  | typeAssert x t u ok => rw [ho] at hc; simp [cOp] at hc
  | extract x i =>
    rw [ho] at hc
    simp only [cOp, Option.map_eq_some_iff] at hc
    obtain ⟨ax, hx, rfl⟩ := hc
    exact of_pure hs h rfl (fun r hr => yields_ext ho hx ht hr) hk
  | call c =>
    rw [ho] at hc
    obtain ⟨callee, as, ts⟩ := c
    cases callee with
    | value f =>
      cases f with
      | func f =>
        simp only [cOp, Option.map_eq_some_iff] at hc
        obtain ⟨aas, has, rfl⟩ := hc
        exact step_call hs ho has ht h hk
      | tmp t =>
        simp only [cOp, Option.bind_eq_some_iff, Option.map_eq_some_iff] at hc
        obtain ⟨ax, hax, aas, has, rfl⟩ := hc
        exact step_callv hs ho hax has ht h hk
      | const v => simp [cOp] at hc
      | global g => simp [cOp] at hc
    | invoke r m => simp [cOp] at hc
    | builtin b => exact step_builtin hs ho (by simpa [cOp] using hc) ht h hk
  | go c => rw [ho] at hc; simp [cOp] at hc
  | defer c => rw [ho] at hc; simp [cOp] at hc
  | panic x => rw [ho] at hc; simp [cOp] at hc
  | send c x => rw [ho] at hc; simp [cOp] at hc
  | recv t c ok => rw [ho] at hc; simp [cOp] at hc
  | select cs b => rw [ho] at hc; simp [cOp] at hc

end Go.AM
