/- AM, 4: the operations that write nothing, one by one. -/
import Derived.Test.YtcpkdbofohkipaaKAmSound1
set_option linter.unusedVariables false
set_option linter.unusedSimpArgs false
set_option linter.unusedSimpArgs false
set_option linter.unusedVariables false
namespace Go.AM
variable {P : Program} {N : Nat} {E : Env} {tm : Tm} {a : Act}

/-- The operation answers a value that fits, and the world stands. -/
def Yields (P : Program) (E : Env) (a : Act) (o : Oper) (r : AV) : Prop := ∃ v, (execOp a.eval o).run P E.w = .ok (.value v) E.w ∧ Rel E r v

theorem yields_move {o : Oper} {x : Operand} (ho : o.op = .move x ∨ o.op = .assign x) {ax : AX} (hx : cOpd N x = some ax) (ht : TmRel E N tm a) : Yields P E a o (ax.ev tm) := by
  rcases ho with ho | ho <;> exact ⟨a.eval x, by simp [execOp, ho], opd hx ht⟩

theorem yields_pick {o : Oper} {c x y : Operand} (ho : o.op = .pick c x y) {ac ax ay : AX} (hc : cOpd N c = some ac) (hx : cOpd N x = some ax) (hy : cOpd N y = some ay) (ht : TmRel E N tm a) {r : AV}
    (h : apure (.pick ac ax ay) tm E.h = some r) : Yields P E a o r := by
  simp only [apure] at h
  split at h
  · rename_i t hev
    have hcv := opd hc ht
    rw [hev] at hcv
    have hb := hcv.bool_inv
    cases h
    refine ⟨if t then a.eval x else a.eval y, by simp [execOp, ho, hb, asBool], ?_⟩
    cases t
    · simpa using opd hy ht
    · simpa using opd hx ht
  · cases h

theorem info_of {t : TypeId} {i : TypeInfo} (h : P.info? t = some i) (w : World) : (sizeOf t).run P w = .ok i.size w := by
  simp [sizeOf, typeInfo, h]

theorem isAgg_of {t : TypeId} {n : Option Nat} (h : aggSize P t = some n) (w : World) : (isAgg t).run P w = .ok n.isSome w ∧ (∀ k, n = some k → ∃ i, P.info? t = some i ∧ i.size = k) := by
  unfold aggSize at h
  split at h
  · rename_i fs hu
    cases hi : P.info? t with
    | none => simp [hi] at h
    | some i => simp [hi] at h; subst h; exact ⟨by simp [isAgg, run_underlying hu], fun k hk => ⟨i, rfl, by simpa using hk⟩⟩
  · rename_i fs hu
    cases hi : P.info? t with
    | none => simp [hi] at h
    | some i => simp [hi] at h; subst h; exact ⟨by simp [isAgg, run_underlying hu], fun k hk => ⟨i, rfl, by simpa using hk⟩⟩
  · rename_i d hd1 hd2 hu
    cases hi : P.info? t with
    | none => simp [hi] at h
    | some i =>
      simp [hi] at h
      obtain ⟨_, rfl⟩ := h
      refine ⟨?_, fun k hk => by cases hk⟩
      have : P.underlying t = some d := by assumption
      unfold isAgg
      rw [Sem.run_bind, run_underlying this]
      cases d <;> first | rfl | exact absurd rfl (hd1 _) | exact absurd rfl (hd2 _ _)
  · cases h

theorem run_load_some {w : World} {ad : Addr} {v : Value} (h : w.cell? ad = some v) : (load ad).run P w = .ok v w := by
  rw [run_load]; simp [h]

/-- A load, at the cells. -/
theorem load_one {w : World} {t : TypeId} {g o : Nat} {v : Value} (hag : aggSize P t = some none) (h : w.cell? ⟨g, o, none⟩ = some v) : (loadVar t ⟨g, o, none⟩).run P w = .ok v w := by
  have := (isAgg_of (P := P) hag w).1
  simp only [loadVar, Sem.run_bind, this, Result.andThen_ok]
  simpa using run_load_some h

theorem load_many {w : World} {t : TypeId} {g o n : Nat} {us : List Value} (hag : aggSize P t = some (some n)) (hn : us.length = n) (h : ∀ j u, us[j]? = some u → w.cell? ⟨g, o + j, none⟩ = some u) :
    (loadVar t ⟨g, o, none⟩).run P w = .ok (.agg us.toArray) w := by
  obtain ⟨h1, h2⟩ := isAgg_of (P := P) hag w
  obtain ⟨i, hi, hsz⟩ := h2 n rfl
  have hl : (loadCells ⟨g, o, none⟩ us.length).run P w = .ok us.toArray w :=
    run_loadCells_list (P := P) w ⟨g, o, none⟩ us (fun j v hv => by rw [Addr.add_mid]; exact h j v hv)
  simp only [loadVar, Sem.run_bind, h1, Result.andThen_ok, Option.isSome_some, if_true, info_of hi, hsz, ← hn, hl, Sem.run_pure]

theorem yields_ldc (hs : Sim E) {o : Oper} {t : TypeId} {x : Operand} (ho : o.op = .load t x) {ax : AX} (hag : aggSize P t = some none) (hx : cOpd N x = some ax) (ht : TmRel E N tm a) {r : AV}
    (h : apure (.ldc ax) tm E.h = some r) : Yields P E a o r := by
  have hv := opd hx ht
  obtain ⟨v0, hq⟩ : ∃ v, a.eval x = v := ⟨_, rfl⟩
  rw [hq] at hv
  simp only [apure] at h
  have fin : ∀ g off u, a.eval x = .pointer (some ⟨g, off, none⟩) → E.w.cell? ⟨g, off, none⟩ = some u → Rel E r u → Yields P E a o r := fun g off u h1 h2 h3 =>
    ⟨u, by simp [execOp, ho, h1, Instr.loadAt, Instr.sureAddr, load_one (P := P) hag h2], h3⟩
  split at h
  · rename_i id off hev
    rw [hev] at hv
    split at h
    · rename_i cs hh
      obtain ⟨us, h1, h2, h3, h4⟩ := ptr_cells hs hv hh
      obtain ⟨u, hu, hr⟩ := h2.get h
      exact fin _ _ u (hq.trans h1) (by rw [h4]; exact hu) hr
    · cases h
  · rename_i id i off hev
    rw [hev] at hv
    split at h
    · rename_i e sz xs hh
      cases hx : xs[i]? with
      | none => simp [hx] at h
      | some row =>
        simp [hx] at h
        obtain ⟨us, h1, h2, h3, h4, h5⟩ := pe_cells hs hv hh hx
        obtain ⟨u, hu, hr⟩ := h2.get h
        exact fin _ _ u (hq.trans h1) (by rw [h5 off (by rw [← h3]; exact (List.getElem?_eq_some_iff.1 h).1)]; exact hu) hr
    · cases h
  · rename_i cs hev
    rw [hev] at hv
    cases hv with
    | fp _ ad us hl hb hsp hlen h1 hc hr =>
      obtain ⟨g, off, sp⟩ := ad
      simp at hsp; subst hsp
      obtain ⟨u, hu, hru⟩ := RelL.get (E := E) ⟨hlen, hr⟩ h
      exact fin g off u hq (by simpa using hc 0 u hu) hru
  · cases h

theorem yields_lda (hs : Sim E) {o : Oper} {t : TypeId} {x : Operand} (ho : o.op = .load t x) {ax : AX} {n : Nat} (hag : aggSize P t = some (some n)) (hx : cOpd N x = some ax) (ht : TmRel E N tm a) {r : AV}
    (h : apure (.lda n ax) tm E.h = some r) : Yields P E a o r := by
  have hv := opd hx ht
  obtain ⟨v0, hq⟩ : ∃ v, a.eval x = v := ⟨_, rfl⟩
  rw [hq] at hv
  simp only [apure] at h
  have fin : ∀ g off us cs, a.eval x = .pointer (some ⟨g, off, none⟩) → us.length = n → (∀ j u, us[j]? = some u → E.w.cell? ⟨g, off + j, none⟩ = some u) → RelL E cs us → (∀ c ∈ cs, c.one = true) → r = .agg cs → Yields P E a o r :=
    fun g off us cs h1 h2 h3 h4 h5 h6 => ⟨.agg us.toArray, by simp [execOp, ho, h1, Instr.loadAt, Instr.sureAddr, load_many (P := P) hag h2 h3], h6 ▸ .agg cs us h4.1 h5 h4.2⟩
  split at h
  · rename_i id off hev
    rw [hev] at hv
    split at h
    · rename_i cs hh
      split at h
      · rename_i hle
        cases h
        obtain ⟨us, h1, h2, h3, h4⟩ := ptr_cells hs hv hh
        refine fin _ _ ((us.drop off).take n) ((cs.drop off).take n) (hq.trans h1) (by simp [h2.1]; omega) (fun j u hu => ?_) ((h2.drop off).take n) (fun c hc => h3 c (List.mem_of_mem_drop (List.mem_of_mem_take hc))) rfl
        rw [h4]
        rw [List.getElem?_take] at hu
        split at hu
        · rw [List.getElem?_drop] at hu; exact hu
        · cases hu
      · cases h
    · cases h
  · rename_i id i off hev
    rw [hev] at hv
    split at h
    · rename_i e sz xs hh
      split at h
      · rename_i hle
        cases hx : xs[i]? with
        | none => simp [hx] at h
        | some row =>
          simp [hx] at h
          obtain ⟨us, h1, h2, h3, h4, h5⟩ := pe_cells hs hv hh hx
          refine fin _ _ ((us.drop off).take n) ((row.drop off).take n) (hq.trans h1) (by simp [h2.1]; omega) (fun j u hu => ?_) ((h2.drop off).take n) (fun c hc => h4 c (List.mem_of_mem_drop (List.mem_of_mem_take hc))) h.symm
          rw [List.getElem?_take] at hu
          split at hu
          · rename_i hj
            rw [List.getElem?_drop] at hu
            rw [Nat.add_assoc, h5 (off + j) (by omega)]; exact hu
          · cases hu
      · cases h
    · cases h
  · rename_i cs hev
    rw [hev] at hv
    split at h
    · rename_i hle
      cases h
      cases hv with
      | fp _ ad us hl hb hsp hlen h1 hc hr =>
        obtain ⟨g, off, sp⟩ := ad
        simp at hsp; subst hsp
        refine fin g off (us.take n) (cs.take n) hq (by simp [hlen]; omega) (fun j u hu => hc j u (by
          rw [List.getElem?_take] at hu
          split at hu
          · exact hu
          · cases hu)) (RelL.take ⟨hlen, hr⟩ n) (fun c hc => h1 c (List.mem_of_mem_take hc)) rfl
    · cases h
  · cases h

theorem yields_fa (hs : Sim E) {o : Oper} {t : TypeId} {x : Operand} {f : Nat} (ho : o.op = .fieldAddr t x f) {fs : Array Field} (hu : P.underlying t = some (.struct fs)) {fd : Field} (hf : fs[f]? = some fd) {i : TypeInfo} (hi : P.info? fd.type = some i) (hi0 : i.size ≠ 0)
    {ax : AX} (hx : cOpd N x = some ax) (ht : TmRel E N tm a) {r : AV} (h : apure (.fa fd.offset ax) tm E.h = some r) : Yields P E a o r := by
  have hv := opd hx ht
  obtain ⟨v0, hq⟩ : ∃ v, a.eval x = v := ⟨_, rfl⟩
  rw [hq] at hv
  simp only [apure] at h
  have fin : ∀ ad, a.eval x = .pointer (some ad) → Rel E r (.pointer (some (ad.add fd.offset))) → Yields P E a o r := fun ad h1 h2 =>
    ⟨_, by simp [execOp, ho, h1, Instr.fieldAt, run_underlying hu, hf, Instr.sureAddr, fieldPlace, info_of hi, hi0], h2⟩
  split at h
  · rename_i id off hev
    rw [hev] at hv
    cases h
    cases hv with
    | ptr _ _ ad hn hp =>
      refine fin ad hq (.ptr _ _ _ hn fun cs hcs => ?_)
      rw [hp cs hcs, Addr.add_mid]
  · rename_i id i off hev
    rw [hev] at hv
    cases h
    cases hv with
    | pe _ _ _ ad hn hp =>
      refine fin ad hq (.pe _ _ _ _ hn fun e sz xs hcs => ?_)
      rw [hp e sz xs hcs, Addr.add_mid, Nat.add_assoc]
  · rename_i cs hev
    rw [hev] at hv
    split at h
    · rename_i hle
      cases h
      cases hv with
      | fp _ ad us hl hb hsp hlen h1 hc hr =>
        obtain ⟨g, off, sp⟩ := ad
        simp at hsp; subst hsp
        refine fin ⟨g, off, none⟩ hq ?_
        rw [Addr.add_mid]
        refine .fp _ _ (us.drop fd.offset) hl hb rfl (by simp [hlen]) (fun c hc => h1 c (List.mem_of_mem_drop hc)) (fun j u hu => ?_) (RelL.drop ⟨hlen, hr⟩ _).2
        have := hc (fd.offset + j) u (by simpa [List.getElem?_drop] using hu)
        simpa [Nat.add_assoc] using this
    · cases h
  · cases h

theorem yields_nck {o : Oper} {x : Operand} (ho : o.op = .nilCheck x) {ax : AX} (hx : cOpd N x = some ax) (ht : TmRel E N tm a) {r : AV} (h : apure (.nck ax) tm E.h = some r) : Yields P E a o r := by
  have hv := opd hx ht
  simp only [apure] at h
  split at h
  · cases h
  · cases h
  · cases h
  · rename_i hp hf hi
    cases h
    refine ⟨a.eval x, ?_, hv⟩
    simp only [execOp, ho]
    generalize a.eval x = v at hv
    generalize ax.ev tm = q at *
    cases hv <;> first | rfl | exact absurd rfl hp | exact absurd rfl hf | exact absurd rfl hi

end Go.AM
