/- AM, 4: the operations that write nothing, one by one. -/
import Derived.Test.YtghidedifiolbaaGreatK00
set_option linter.unusedVariables false
set_option linter.unusedSimpArgs false
namespace Go.AM
variable {P : Program} {N : Nat} {E : Env} {tm : Tm} {a : Act}

/-- The operation answers a value that fits, and the world stands. -/
def Yields (P : Program) (E : Env) (a : Act) (o : Oper) (r : AV) : Prop := ∃ v, (execOp a.eval o).run P E.w = .ok (.value v) E.w ∧ Rel E r v

theorem yields_move {o : Oper} {x : Operand} (ho : o.op = .move x ∨ o.op = .assign x) {ax : AX} (hx : cOpd N x = some ax) (ht : TmRel E N tm a) : Yields P E a o (ax.ev tm) := by
  rcases ho with ho | ho <;> exact ⟨a.eval x, by simp [execOp, ho], opd hx ht⟩

theorem yields_pick {o : Oper} {c x y : Operand} (ho : o.op = .pick c x y) {ac ax ay : AX} (hc : cOpd N c = some ac) (hx : cOpd N x = some ax) (hy : cOpd N y = some ay) (ht : TmRel E N tm a) {r : AV}
    (h : apure (.pick ac ax ay) tm E.h = some r) : Yields P E a o r := by
  simp only [apure] at h
  split at h
  · rename_i t hev
    have hcv := opd hc ht
    rw [hev] at hcv
    have hb := hcv.bool_inv
    cases h
    refine ⟨if t then a.eval x else a.eval y, by simp [execOp, ho, hb, asBool], ?_⟩
    cases t
    · simpa using opd hy ht
    · simpa using opd hx ht
  · cases h

theorem info_of {t : TypeId} {i : TypeInfo} (h : P.info? t = some i) (w : World) : (sizeOf t).run P w = .ok i.size w := by
  simp [sizeOf, typeInfo, h]

theorem isAgg_of {t : TypeId} {n : Option Nat} (h : aggSize P t = some n) (w : World) : (isAgg t).run P w = .ok n.isSome w ∧ (∀ k, n = some k → ∃ i, P.info? t = some i ∧ i.size = k) := by
  unfold aggSize at h
  split at h
  · rename_i fs hu
    cases hi : P.info? t with
    | none => simp [hi] at h
    | some i => simp [hi] at h; subst h; exact ⟨by simp [isAgg, run_underlying hu], fun k hk => ⟨i, rfl, by simpa using hk⟩⟩
  · rename_i fs hu
    cases hi : P.info? t with
    | none => simp [hi] at h
    | some i => simp [hi] at h; subst h; exact ⟨by simp [isAgg, run_underlying hu], fun k hk => ⟨i, rfl, by simpa using hk⟩⟩
  · rename_i d hd1 hd2 hu
    cases hi : P.info? t with
    | none => simp [hi] at h
    | some i =>
      simp [hi] at h
      obtain ⟨_, rfl⟩ := h
      refine ⟨?_, fun k hk => by cases hk⟩
      have : P.underlying t = some d := by assumption
      unfold isAgg
      rw [Sem.run_bind, run_underlying this]
      cases d <;> first | rfl | exact absurd rfl (hd1 _) | exact absurd rfl (hd2 _ _)
  · cases h

theorem run_load_some {w : World} {ad : Addr} {v : Value} (h : w.cell? ad = some v) : (load ad).run P w = .ok v w := by
  rw [run_load]; simp [h]

/-- A load, at the cells. -/
theorem load_one {w : World} {t : TypeId} {g o : Nat} {v : Value} (hag : aggSize P t = some none) (h : w.cell? ⟨g, o, none⟩ = some v) : (loadVar t ⟨g, o, none⟩).run P w = .ok v w := by
  have := (isAgg_of (P := P) hag w).1
  simp only [loadVar, Sem.run_bind, this, Result.andThen_ok]
  simpa using run_load_some h

theorem load_many {w : World} {t : TypeId} {g o n : Nat} {us : List Value} (hag : aggSize P t = some (some n)) (hn : us.length = n) (h : ∀ j u, us[j]? = some u → w.cell? ⟨g, o + j, none⟩ = some u) :
    (loadVar t ⟨g, o, none⟩).run P w = .ok (.agg us.toArray) w := by
  obtain ⟨h1, h2⟩ := isAgg_of (P := P) hag w
  obtain ⟨i, hi, hsz⟩ := h2 n rfl
  have hl : (loadCells ⟨g, o, none⟩ us.length).run P w = .ok us.toArray w :=
    run_loadCells_list (P := P) w ⟨g, o, none⟩ us (fun j v hv => by rw [Addr.add_mid]; exact h j v hv)
  simp only [loadVar, Sem.run_bind, h1, Result.andThen_ok, Option.isSome_some, if_true, info_of hi, hsz, ← hn, hl, Sem.run_pure]

theorem yields_ldc (hs : Sim E) {o : Oper} {t : TypeId} {x : Operand} (ho : o.op = .load t x) {ax : AX} (hag : aggSize P t = some none) (hx : cOpd N x = some ax) (ht : TmRel E N tm a) {r : AV}
    (h : apure (.ldc ax) tm E.h = some r) : Yields P E a o r := by
  have hv := opd hx ht
  obtain ⟨v0, hq⟩ : ∃ v, a.eval x = v := ⟨_, rfl⟩
  rw [hq] at hv
  simp only [apure] at h
  have fin : ∀ g off u, a.eval x = .pointer (some ⟨g, off, none⟩) → E.w.cell? ⟨g, off, none⟩ = some u → Rel E r u → Yields P E a o r := fun g off u h1 h2 h3 =>
    ⟨u, by simp [execOp, ho, h1, Instr.loadAt, Instr.sureAddr, load_one (P := P) hag h2], h3⟩
  split at h
  · rename_i id off hev
    rw [hev] at hv
    split at h
    · rename_i cs hh
      obtain ⟨us, h1, h2, h3, h4⟩ := ptr_cells hs hv hh
      obtain ⟨u, hu, hr⟩ := h2.get h
      exact fin _ _ u (hq.trans h1) (by rw [h4]; exact hu) hr
    · cases h
  · rename_i id i off hev
    rw [hev] at hv
    split at h
    · rename_i e sz xs hh
      cases hx : xs[i]? with
      | none => simp [hx] at h
      | some row =>
        simp [hx] at h
        obtain ⟨us, h1, h2, h3, h4, h5⟩ := pe_cells hs hv hh hx
        obtain ⟨u, hu, hr⟩ := h2.get h
        exact fin _ _ u (hq.trans h1) (by rw [h5 off (by rw [← h3]; exact (List.getElem?_eq_some_iff.1 h).1)]; exact hu) hr
    · cases h
  · rename_i cs hev
    rw [hev] at hv
    cases hv with
    | fp _ ad us hl hb hsp hlen h1 hc hr =>
      obtain ⟨g, off, sp⟩ := ad
      simp at hsp; subst hsp
      obtain ⟨u, hu, hru⟩ := RelL.get (E := E) ⟨hlen, hr⟩ h
      exact fin g off u hq (by simpa using hc 0 u hu) hru
  · cases h

theorem yields_lda (hs : Sim E) {o : Oper} {t : TypeId} {x : Operand} (ho : o.op = .load t x) {ax : AX} {n : Nat} (hag : aggSize P t = some (some n)) (hx : cOpd N x = some ax) (ht : TmRel E N tm a) {r : AV}
    (h : apure (.lda n ax) tm E.h = some r) : Yields P E a o r := by
  have hv := opd hx ht
  obtain ⟨v0, hq⟩ : ∃ v, a.eval x = v := ⟨_, rfl⟩
  rw [hq] at hv
  simp only [apure] at h
  have fin : ∀ g off us cs, a.eval x = .pointer (some ⟨g, off, none⟩) → us.length = n → (∀ j u, us[j]? = some u → E.w.cell? ⟨g, off + j, none⟩ = some u) → RelL E cs us → (∀ c ∈ cs, c.one = true) → r = .agg cs → Yields P E a o r :=
    fun g off us cs h1 h2 h3 h4 h5 h6 => ⟨.agg us.toArray, by simp [execOp, ho, h1, Instr.loadAt, Instr.sureAddr, load_many (P := P) hag h2 h3], h6 ▸ .agg cs us h4.1 h5 h4.2⟩
  split at h
  · rename_i id off hev
    rw [hev] at hv
    split at h
    · rename_i cs hh
      split at h
      · rename_i hle
        cases h
        obtain ⟨us, h1, h2, h3, h4⟩ := ptr_cells hs hv hh
        refine fin _ _ ((us.drop off).take n) ((cs.drop off).take n) (hq.trans h1) (by simp [h2.1]; omega) (fun j u hu => ?_) ((h2.drop off).take n) (fun c hc => h3 c (List.mem_of_mem_drop (List.mem_of_mem_take hc))) rfl
        rw [h4]
        rw [List.getElem?_take] at hu
        split at hu
        · rw [List.getElem?_drop] at hu; exact hu
        · cases hu
      · cases h
    · cases h
  · rename_i id i off hev
    rw [hev] at hv
    split at h
    · rename_i e sz xs hh
      split at h
      · rename_i hle
        cases hx : xs[i]? with
        | none => simp [hx] at h
        | some row =>
          simp [hx] at h
          obtain ⟨us, h1, h2, h3, h4, h5⟩ := pe_cells hs hv hh hx
          refine fin _ _ ((us.drop off).take n) ((row.drop off).take n) (hq.trans h1) (by simp [h2.1]; omega) (fun j u hu => ?_) ((h2.drop off).take n) (fun c hc => h4 c (List.mem_of_mem_drop (List.mem_of_mem_take hc))) h.symm
          rw [List.getElem?_take] at hu
          split at hu
          · rename_i hj
            rw [List.getElem?_drop] at hu
            rw [Nat.add_assoc, h5 (off + j) (by omega)]; exact hu
          · cases hu
      · cases h
    · cases h
  · rename_i cs hev
    rw [hev] at hv
    split at h
    · rename_i hle
      cases h
      cases hv with
      | fp _ ad us hl hb hsp hlen h1 hc hr =>
        obtain ⟨g, off, sp⟩ := ad
        simp at hsp; subst hsp
        refine fin g off (us.take n) (cs.take n) hq (by simp [hlen]; omega) (fun j u hu => hc j u (by
          rw [List.getElem?_take] at hu
          split at hu
          · exact hu
          · cases hu)) (RelL.take ⟨hlen, hr⟩ n) (fun c hc => h1 c (List.mem_of_mem_take hc)) rfl
    · cases h
  · cases h

theorem yields_fa (hs : Sim E) {o : Oper} {t : TypeId} {x : Operand} {f : Nat} (ho : o.op = .fieldAddr t x f) {fs : Array Field} (hu : P.underlying t = some (.struct fs)) {fd : Field} (hf : fs[f]? = some fd) {i : TypeInfo} (hi : P.info? fd.type = some i) (hi0 : i.size ≠ 0)
    {ax : AX} (hx : cOpd N x = some ax) (ht : TmRel E N tm a) {r : AV} (h : apure (.fa fd.offset ax) tm E.h = some r) : Yields P E a o r := by
  have hv := opd hx ht
  obtain ⟨v0, hq⟩ : ∃ v, a.eval x = v := ⟨_, rfl⟩
  rw [hq] at hv
  simp only [apure] at h
  have fin : ∀ ad, a.eval x = .pointer (some ad) → Rel E r (.pointer (some (ad.add fd.offset))) → Yields P E a o r := fun ad h1 h2 =>
    ⟨_, by simp [execOp, ho, h1, Instr.fieldAt, run_underlying hu, hf, Instr.sureAddr, fieldPlace, info_of hi, hi0], h2⟩
  split at h
  · rename_i id off hev
    rw [hev] at hv
    cases h
    cases hv with
    | ptr _ _ ad hn hp =>
      refine fin ad hq (.ptr _ _ _ hn fun cs hcs => ?_)
      rw [hp cs hcs, Addr.add_mid]
  · rename_i id i off hev
    rw [hev] at hv
    cases h
    cases hv with
    | pe _ _ _ ad hn hp =>
      refine fin ad hq (.pe _ _ _ _ hn fun e sz xs hcs => ?_)
      rw [hp e sz xs hcs, Addr.add_mid, Nat.add_assoc]
  · rename_i cs hev
    rw [hev] at hv
    split at h
    · rename_i hle
      cases h
      cases hv with
      | fp _ ad us hl hb hsp hlen h1 hc hr =>
        obtain ⟨g, off, sp⟩ := ad
        simp at hsp; subst hsp
        refine fin ⟨g, off, none⟩ hq ?_
        rw [Addr.add_mid]
        refine .fp _ _ (us.drop fd.offset) hl hb rfl (by simp [hlen]) (fun c hc => h1 c (List.mem_of_mem_drop hc)) (fun j u hu => ?_) (RelL.drop ⟨hlen, hr⟩ _).2
        have := hc (fd.offset + j) u (by simpa [List.getElem?_drop] using hu)
        simpa [Nat.add_assoc] using this
    · cases h
  · cases h

theorem yields_nck {o : Oper} {x : Operand} (ho : o.op = .nilCheck x) {ax : AX} (hx : cOpd N x = some ax) (ht : TmRel E N tm a) {r : AV} (h : apure (.nck ax) tm E.h = some r) : Yields P E a o r := by
  have hv := opd hx ht
  simp only [apure] at h
  split at h
  · cases h
  · cases h
  · cases h
  · rename_i hp hf hi
    cases h
    refine ⟨a.eval x, ?_, hv⟩
    simp only [execOp, ho]
    generalize a.eval x = v at hv
    generalize ax.ev tm = q at *
    cases hv <;> first | rfl | exact absurd rfl hp | exact absurd rfl hf | exact absurd rfl hi

end Go.AM

/- AM, 5: arithmetic, comparisons, conversions. -/
namespace Go.AM
variable {P : Program} {N : Nat} {E : Env} {tm : Tm} {a : Act}

theorem toList_mk (s : List UInt8) : (ByteArray.mk s.toArray).toList = s := by rw [ByteArray.toList_eq]
theorem size_mk (s : List UInt8) : (ByteArray.mk s.toArray).size = s.length := by simp [ByteArray.size]
theorem append_mk (s t : List UInt8) : ByteArray.mk s.toArray ++ ByteArray.mk t.toArray = ByteArray.mk (s ++ t).toArray := by
  apply ByteArray.ext
  simp

theorem run_binI (w : World) {op : BinOp} {t : TypeId} {k : IntKind} {x y : Int} {r : AV} (h : binI op k x y = some r) : ∃ v, (binOp op t (.int k x) (.int k y)).run P w = .ok v w ∧ Rel E r v := by
  unfold binI at h
  split at h <;> first
    | (split at h
       · cases h
       · rename_i hz; cases h; exact ⟨_, by simp [binOp, Op.intDiv, hz], .int _ _⟩)
    | (cases h
       refine ⟨_, ?_, (by first | exact Rel.int _ _ | exact Rel.bool _)⟩
       first
         | (simp [binOp, Op.intArith, Op.intCmp]; done)
         | (simp only [binOp, ne_eq, not_true_eq_false, if_false]; rfl))
    | cases h

theorem run_shI (w : World) {op : BinOp} {t : TypeId} {k k' : IntKind} {x y : Int} {r : AV} (ho : op = .shl ∨ op = .shr) (h : shI op k x y = some r) : ∃ v, (binOp op t (.int k x) (.int k' y)).run P w = .ok v w ∧ Rel E r v := by
  unfold shI at h
  split at h
  · cases h
  · rename_i hy
    rcases ho with rfl | rfl <;> (simp at h; subst h; exact ⟨_, by simp [binOp, Op.shift, hy], .int _ _⟩)

theorem run_binS (w : World) {op : BinOp} {t : TypeId} {x y : List UInt8} {r : AV} (h : binS op x y = some r) : ∃ v, (binOp op t (.string ⟨x.toArray⟩) (.string ⟨y.toArray⟩)).run P w = .ok v w ∧ Rel E r v := by
  unfold binS at h
  split at h <;> first
    | (split at h
       · rename_i hz; cases h
         refine ⟨_, ?_, .str _⟩
         have : ¬ (9223372036854775807 : Int) < ((x.length : Int) + (y.length : Int)) := by omega
         simp [binOp, Op.stringOp, size_mk, append_mk, this]
       · cases h)
    | (cases h; exact ⟨_, by simp [binOp, Op.stringOp, toList_mk], .bool _⟩)
    | cases h

theorem run_binF (w : World) {op : BinOp} {t : TypeId} {x y : Nat} {r : AV} (h : binF op x y = some r) : ∃ z, (binOp op t (.float .f64 x) (.float .f64 y)).run P w = .ok z w ∧ Rel E r z := by
  cases op <;> simp only [binF] at h <;>
  first
    | (cases h; done)
    | (simp only [Option.map_eq_some_iff] at h
       obtain ⟨q, h1, rfl⟩ := h
       exact ⟨_, by simp [binOp, Op.floatArith, h1], .flt _⟩)
    | (cases h; exact ⟨_, by simp [binOp, Op.floatCmp], .bool _⟩)

theorem eqGuard_plain (w : World) (op : BinOp) (t : TypeId) (x y : Operand) (u v : Value) (hu : u.oneCell' = true) (hn : u ≠ .nilIface) : (eqGuard op t x y u v).run P w = .ok () w := by
  cases op <;> (unfold eqGuard; simp) <;> (cases u <;> first | rfl | exact absurd rfl hn | (simp [Value.oneCell'] at hu))

theorem yields_bin {o : Oper} {op : BinOp} {t t' : TypeId} {x y : Operand} (ho : o.op = .binOp op t x y t') {ax ay : AX} (hx : cOpd N x = some ax) (hy : cOpd N y = some ay) (ht : TmRel E N tm a) {r : AV}
    (h : apure (.bin op ax ay) tm E.h = some r) : Yields P E a o r := by
  have hvx := opd hx ht
  have hvy := opd hy ht
  simp only [apure] at h
  generalize ax.ev tm = u at *
  generalize ay.ev tm = v at *
  have fin : ∀ p q, a.eval x = p → a.eval y = q → p.oneCell' = true → p ≠ .nilIface → (∃ z, (binOp op t p q).run P E.w = .ok z E.w ∧ Rel E r z) → Yields P E a o r := fun p q h1 h2 h3 h4 ⟨z, h5, h6⟩ =>
    ⟨z, by simp [execOp, ho, h1, h2, eqGuard_plain (P := P) E.w op t x y p q h3 h4, h5], h6⟩
  unfold abin at h
  split at h
  · have e1 := hvx.int_inv
    have e2 := hvy.int_inv
    split at h
    · exact fin _ _ e1 e2 rfl (by simp) (run_shI E.w (.inl rfl) h)
    · exact fin _ _ e1 e2 rfl (by simp) (run_shI E.w (.inr rfl) h)
    · split at h
      · rename_i hk; subst hk
        exact fin _ _ e1 e2 rfl (by simp) (run_binI E.w h)
      · cases h
  · exact fin _ _ hvx.str_inv hvy.str_inv rfl (by simp) (run_binS E.w h)
  · have e1 := hvx.cplx_inv
    have e2 := hvy.cplx_inv
    split at h
    · cases h
      exact fin _ _ e1 e2 rfl (by simp) ⟨_, by simp [binOp, Op.complexOp, Op.Complex.cmp, Op.floatCmp, asBool, cplxEq, Op.floatEq], .bool _⟩
    · cases h
      exact fin _ _ e1 e2 rfl (by simp) ⟨_, by simp [binOp, Op.complexOp, Op.Complex.cmp, Op.floatCmp, asBool, cplxEq, Op.floatEq], .bool _⟩
    · simp only [Option.bind_eq_some_iff, Option.map_eq_some_iff] at h
      obtain ⟨re, h1, im, h2, rfl⟩ := h
      exact fin _ _ e1 e2 rfl (by simp) ⟨_, by simp [binOp, Op.complexOp, Op.Complex.arith, Op.floatArith, h1, h2], .cplx _ _⟩
    · simp only [Option.bind_eq_some_iff, Option.map_eq_some_iff] at h
      obtain ⟨re, h1, im, h2, rfl⟩ := h
      exact fin _ _ e1 e2 rfl (by simp) ⟨_, by simp [binOp, Op.complexOp, Op.Complex.arith, Op.floatArith, h1, h2], .cplx _ _⟩
    · simp only [mulC, Option.bind_eq_some_iff, Option.map_eq_some_iff] at h
      obtain ⟨ac, h1, bd, h2, re, h3, ad, h4, bc, h5, im, h6, rfl⟩ := h
      exact fin _ _ e1 e2 rfl (by simp) ⟨_, by simp [binOp, Op.complexOp, Op.Complex.conv, Op.Complex.product, Op.Complex.mul, Op.Complex.sub, Op.Complex.add, Op.Complex.arith, Op.floatArith, h1, h2, h3, h4, h5, h6], .cplx _ _⟩
    · cases h
  · exact fin _ _ hvx.flt_inv hvy.flt_inv rfl (by simp) (run_binF E.w h)
  · cases h

theorem cNeg_cases {op : BinOp} {n : Bool} (h : cNeg op = some n) : (op = .eql ∧ n = false) ∨ (op = .neq ∧ n = true) := by
  cases op <;> simp [cNeg] at h <;> simp [← h]

theorem xor_false (b : Bool) : (false ^^ b) = b := by cases b <;> rfl
theorem xor_true (b : Bool) : (true ^^ b) = !b := by cases b <;> rfl

theorem yields_beq {o : Oper} {op : BinOp} {t t' : TypeId} {x y : Operand} (ho : o.op = .binOp op t x y t') (hu : P.underlying t = some .bool) {n : Bool} (hn : cNeg op = some n) {ax ay : AX} (hx : cOpd N x = some ax) (hy : cOpd N y = some ay) (ht : TmRel E N tm a) {r : AV}
    (h : apure (.beq n ax ay) tm E.h = some r) : Yields P E a o r := by
  have hvx := opd hx ht
  have hvy := opd hy ht
  simp only [apure] at h
  generalize ax.ev tm = u at *
  generalize ay.ev tm = v at *
  split at h
  · have e1 := hvx.bool_inv
    have e2 := hvy.bool_inv
    cases h
    rcases cNeg_cases hn with ⟨rfl, rfl⟩ | ⟨rfl, rfl⟩
    · refine ⟨_, ?_, (by rw [xor_false]; exact Rel.bool _)⟩
      simp [execOp, ho, e1, e2, eqGuard_plain (P := P) E.w .eql t x y _ _ (show (Value.bool _).oneCell' = true from rfl) (by simp), binOp, Op.equal, Op.maxDepth, run_equalIn_bool' (P := P) E.w _ t _ _ hu]
    · refine ⟨_, ?_, (by rw [xor_true]; exact Rel.bool _)⟩
      simp [execOp, ho, e1, e2, eqGuard_plain (P := P) E.w .neq t x y _ _ (show (Value.bool _).oneCell' = true from rfl) (by simp), binOp, Op.equal, Op.maxDepth, run_equalIn_bool' (P := P) E.w _ t _ _ hu]
  · cases h

theorem isNilP_rel {u : AV} {v : Value} {b : Bool} (h : isNilP u = some b) (hr : Rel E u v) : ∃ ad, v = .pointer ad ∧ b = ad.isNone := by
  unfold isNilP at h
  split at h <;> first
    | (cases h; cases hr; exact ⟨_, rfl, rfl⟩)
    | cases h

theorem run_equalIn_ptr (w : World) (d : Nat) (t e : TypeId) (p q : Option Addr) (h : P.underlying t = some (.pointer e)) (hn : p.isNone = true ∨ q.isNone = true) : (Op.equalIn (d + 1) t (.pointer p) (.pointer q)).run P w = .ok (p.isNone && q.isNone) w := by
  cases p <;> cases q <;> simp_all [Op.equalIn, run_underlying h]

theorem yields_peq {o : Oper} {op : BinOp} {t t' e : TypeId} {x y : Operand} (ho : o.op = .binOp op t x y t') (hu : P.underlying t = some (.pointer e)) {n : Bool} (hn : cNeg op = some n) {ax ay : AX} (hx : cOpd N x = some ax) (hy : cOpd N y = some ay) (ht : TmRel E N tm a) {r : AV}
    (h : apure (.peq n ax ay) tm E.h = some r) : Yields P E a o r := by
  have hvx := opd hx ht
  have hvy := opd hy ht
  simp only [apure] at h
  generalize ax.ev tm = u at *
  generalize ay.ev tm = v at *
  have fin : ∀ p q, a.eval x = .pointer p → a.eval y = .pointer q → (p.isNone = true ∨ q.isNone = true) → r = .bool (n ^^ (p.isNone && q.isNone)) → Yields P E a o r := by
    intro p q h1 h2 h3 h4
    subst h4
    rcases cNeg_cases hn with ⟨rfl, rfl⟩ | ⟨rfl, rfl⟩
    · exact ⟨.bool (p.isNone && q.isNone), by simp [execOp, ho, h1, h2, eqGuard_plain (P := P) E.w .eql t x y _ _ (show (Value.pointer p).oneCell' = true from rfl) (by simp), binOp, Op.equal, Op.maxDepth, run_equalIn_ptr (P := P) E.w _ t e _ _ hu h3], by rw [xor_false]; exact .bool _⟩
    · exact ⟨.bool (!(p.isNone && q.isNone)), by simp [execOp, ho, h1, h2, eqGuard_plain (P := P) E.w .neq t x y _ _ (show (Value.pointer p).oneCell' = true from rfl) (by simp), binOp, Op.equal, Op.maxDepth, run_equalIn_ptr (P := P) E.w _ t e _ _ hu h3], by rw [xor_true]; exact .bool _⟩
  split at h
  · rename_i b h1 h2
    cases h
    obtain ⟨p, e1, e2⟩ := isNilP_rel h1 hvx
    obtain ⟨q, e3, e4⟩ := isNilP_rel h2 hvy
    exact fin p q e1 e3 (.inl e2.symm) (by rw [← e2, ← e4]; simp)
  · rename_i h1 h2
    cases h
    obtain ⟨p, e1, e2⟩ := isNilP_rel h1 hvx
    obtain ⟨q, e3, e4⟩ := isNilP_rel h2 hvy
    exact fin p q e1 e3 (.inr e4.symm) (by rw [← e2, ← e4]; simp)
  · cases h

theorem yields_un {o : Oper} {op : UnOp} {t : TypeId} {x : Operand} (ho : o.op = .unOp op t x) {ax : AX} (hx : cOpd N x = some ax) (ht : TmRel E N tm a) {r : AV} (h : apure (.un op ax) tm E.h = some r) : Yields P E a o r := by
  have hv := opd hx ht
  simp only [apure] at h
  generalize ax.ev tm = u at *
  unfold aun at h
  split at h
  · have e1 := hv.int_inv; cases h; exact ⟨_, by simp [execOp, ho, e1, Op.unary, Op.intArith], .int _ _⟩
  · have e1 := hv.bool_inv; cases h; exact ⟨_, by simp [execOp, ho, e1, Op.unary], .bool _⟩
  · have e1 := hv.flt_inv; cases h; exact ⟨_, by simp [execOp, ho, e1, Op.unary], .flt _⟩
  · have e1 := hv.int_inv; cases h; exact ⟨_, by simp [execOp, ho, e1, Op.unary, Op.intBits], .int _ _⟩
  · cases h

theorem yields_cvi {o : Oper} {s d : TypeId} {x : Operand} (ho : o.op = .convert s d x) {k k' : IntKind} (hs : P.underlying s = some (.int k')) (hd : P.underlying d = some (.int k)) {ax : AX} (hx : cOpd N x = some ax) (ht : TmRel E N tm a) {r : AV}
    (h : apure (.cvi k ax) tm E.h = some r) : Yields P E a o r := by
  have hv := opd hx ht
  simp only [apure] at h
  generalize ax.ev tm = u at *
  split at h
  · have e1 := hv.int_inv; cases h
    exact ⟨_, by simp [execOp, ho, e1, convert, run_underlying hs, run_underlying hd, Conv.intToInt], .int _ _⟩
  · cases h

theorem yields_cvf {o : Oper} {s d : TypeId} {x : Operand} (ho : o.op = .convert s d x) {k' : IntKind} (hs : P.underlying s = some (.int k')) (hd : P.underlying d = some (.float .f64)) {ax : AX} (hx : cOpd N x = some ax) (ht : TmRel E N tm a) {r : AV}
    (h : apure (.cvf ax) tm E.h = some r) : Yields P E a o r := by
  have hv := opd hx ht
  simp only [apure] at h
  generalize ax.ev tm = u at *
  split at h
  · have e1 := hv.int_inv; cases h
    exact ⟨_, by simp [execOp, ho, e1, convert, run_underlying hs, run_underlying hd, Conv.intToFloat], .flt _⟩
  · cases h

theorem run_complex_f64 (w : World) (ts : Array TypeId) (ty : TypeId) (x y : Nat) : (Builtin.complex_ ts ty #[.float .f64 x, .float .f64 y]).run P w = .ok (.complex .f64 x y) w := rfl
theorem run_real_f64 (w : World) (ts : Array TypeId) (ty : TypeId) (x y : Nat) : (Builtin.real_ ts ty #[.complex .f64 x y]).run P w = .ok (.float .f64 x) w := rfl
theorem run_imag_f64 (w : World) (ts : Array TypeId) (ty : TypeId) (x y : Nat) : (Builtin.imag_ ts ty #[.complex .f64 x y]).run P w = .ok (.float .f64 y) w := rfl

theorem yields_cfi {o : Oper} {s d : TypeId} {x : Operand} (ho : o.op = .convert s d x) {k : IntKind} (hs : P.underlying s = some (.float .f64)) (hd : P.underlying d = some (.int k)) {ax : AX} (hx : cOpd N x = some ax) (ht : TmRel E N tm a) {r : AV}
    (h : apure (.cfi k ax) tm E.h = some r) : Yields P E a o r := by
  have hv := opd hx ht
  simp only [apure] at h
  generalize ax.ev tm = u at *
  unfold aCfi at h
  split at h
  · have e1 := hv.flt_inv
    split at h
    · rename_i n hn
      split at h
      · rename_i hc
        cases h
        exact ⟨_, by simp [execOp, ho, e1, convert, run_underlying hs, run_underlying hd, Conv.floatToInt, hn, hc], .int _ _⟩
      · cases h
    · cases h
  · cases h

def FX.name : FX → String
  | .bits => "math.Float64bits"
  | .frombits => "math.Float64frombits"
  | .trunc => "math.archTrunc"
def FX.runs : FX → Array Value → Sem Value
  | .bits => Extern.MathFloatBits.float64bits
  | .frombits => Extern.MathFloatBits.float64frombits
  | .trunc => Extern.MathFloor.toIntegral "math.archTrunc" .zero
theorem extern_run {f : FuncId} {k : FX} (h : extOf P f = some k) : ∃ fn : Func, P.funcs[f]? = some fn ∧ fn.body.isNone = true ∧ fn.origin = "" ∧ fn.name = k.name := by
  simp only [extOf, Option.bind_eq_some_iff] at h
  obtain ⟨fn, hf, h⟩ := h
  split at h
  · rename_i hc
    refine ⟨fn, hf, hc.1, hc.2, ?_⟩
    split at h
    · rename_i hn; cases h; exact hn
    · split at h
      · rename_i hn; cases h; exact hn
      · split at h
        · rename_i hn; cases h; exact hn
        · cases h
  · cases h
theorem extern_next {fn : Func} {k : FX} (ho : fn.origin = "") (hn : fn.name = k.name) : Extern.findNext fn = none := by
  obtain ⟨⟩ := fn
  simp only at ho hn
  subst ho hn
  cases k <;> rfl
theorem extern_find {fn : Func} {k : FX} (ho : fn.origin = "") (hn : fn.name = k.name) :
    Extern.find fn = some k.runs := by
  obtain ⟨⟩ := fn
  simp only at ho hn
  subst ho hn
  cases k <;> rfl
theorem trunc_run {b : Nat} (w : World) {d : Ieee.Datum} (hd : FloatKind.f64.decode b = d) (hn : ∀ s t, d = .nan s t → False) : (Extern.MathFloor.toIntegral "math.archTrunc" .zero #[.float .f64 b]).run P w = .ok (.float .f64 (FloatKind.f64.encode (d.integral .zero))) w := by
  delta Extern.MathFloor.toIntegral
  generalize FloatKind.f64.decode = dec at *
  conv => lhs; arg 2; whnf
  rw [hd]
  cases d <;> first | rfl | exact absurd rfl (hn _ _)
theorem yields_fext {o : Oper} {f : FuncId} {as : Array Operand} {ts : Array TypeId} {k : FX} (ho : o.op = .call { callee := .value (.func f), args := as, argTypes := ts }) (hk : extOf P f = some k) {ax : AX} (hx : cOpds N as = some [ax]) (ht : TmRel E N tm a) {r : AV}
    (h : apure (.fext k ax) tm E.h = some r) : Yields P E a o r := by
  obtain ⟨fn, hf, hb, hor, hn⟩ := extern_run hk
  have hnx := extern_next hor hn
  have hfd := extern_find hor hn
  have hname : (fn.name == "runtime.NumGoroutine") = false := by rw [hn]; cases k <;> rfl
  have hr := opds hx ht
  have hrun : ∀ v w', (k.runs (as.map a.eval)).run P E.w = .ok v w' → (execOp a.eval o).run P E.w = .ok (.value v) w' := by
    intro v w' hv
    have hb' : fn.body = none := by simpa using hb
    have hname' : ¬ fn.name = "runtime.NumGoroutine" := by simpa using hname
    simp [execOp, ho, resolve, invoke, Act.eval, Deferred.ofValue, callFunc, hf, hname', hb', hnx, hfd, hv]
  have hargs : ∃ v, as.map a.eval = #[v] ∧ Rel E (ax.ev tm) v := by
    have hl := hr.1
    simp only [List.map_cons, List.map_nil, List.length_singleton, Array.length_toList, Array.size_map] at hl
    have hl' : as.size = 1 := hl
    refine ⟨(as.map a.eval)[0]'(by simp; omega), ?_, ?_⟩
    · apply Array.ext
      · simp; omega
      · intro i h1 h2
        have : i = 0 := by simp at h1; omega
        subst this; rfl
    · exact hr.2 0 _ _ rfl (by simp [hl'])
  obtain ⟨v, hv, hrel⟩ := hargs
  rw [hv] at hrun
  simp only [apure] at h
  generalize ax.ev tm = u at *
  unfold aFext at h
  split at h
  · have e1 := hrel.flt_inv; subst e1; cases h
    exact ⟨_, hrun _ _ rfl, .int _ _⟩
  · have e1 := hrel.int_inv; subst e1; cases h
    exact ⟨_, hrun _ _ rfl, .flt _⟩
  · have e1 := hrel.flt_inv; subst e1
    split at h
    · cases h
    · rename_i d hd
      cases h
      refine ⟨_, hrun (.float .f64 (FloatKind.f64.encode ((FloatKind.f64.decode _).integral .zero))) E.w ?_, .flt _⟩
      exact trunc_run E.w rfl hd
  · cases h

theorem yields_cx {o : Oper} {x y : Operand} {ts : Array TypeId} (ho : o.op = .call { callee := .builtin .complex, args := #[x, y], argTypes := ts }) {ax ay : AX} (hx : cOpd N x = some ax) (hy : cOpd N y = some ay) (ht : TmRel E N tm a) {r : AV}
    (h : apure (.cx ax ay) tm E.h = some r) : Yields P E a o r := by
  have hvx := opd hx ht
  have hvy := opd hy ht
  simp only [apure] at h
  generalize ax.ev tm = u at *
  generalize ay.ev tm = v at *
  split at h
  · have e1 := hvx.flt_inv; have e2 := hvy.flt_inv; cases h
    exact ⟨_, by simp [execOp, ho, e1, e2, resolve, invoke, builtin, run_complex_f64 (P := P)], .cplx _ _⟩
  · cases h

theorem yields_re {o : Oper} {x : Operand} {ts : Array TypeId} (ho : o.op = .call { callee := .builtin .real, args := #[x], argTypes := ts }) {ax : AX} (hx : cOpd N x = some ax) (ht : TmRel E N tm a) {r : AV}
    (h : apure (.re ax) tm E.h = some r) : Yields P E a o r := by
  have hvx := opd hx ht
  simp only [apure] at h
  generalize ax.ev tm = u at *
  split at h
  · have e1 := hvx.cplx_inv; cases h
    exact ⟨_, by simp [execOp, ho, e1, resolve, invoke, builtin, run_real_f64 (P := P)], .flt _⟩
  · cases h

theorem yields_im {o : Oper} {x : Operand} {ts : Array TypeId} (ho : o.op = .call { callee := .builtin .imag, args := #[x], argTypes := ts }) {ax : AX} (hx : cOpd N x = some ax) (ht : TmRel E N tm a) {r : AV}
    (h : apure (.im ax) tm E.h = some r) : Yields P E a o r := by
  have hvx := opd hx ht
  simp only [apure] at h
  generalize ax.ev tm = u at *
  split at h
  · have e1 := hvx.cplx_inv; cases h
    exact ⟨_, by simp [execOp, ho, e1, resolve, invoke, builtin, run_imag_f64 (P := P)], .flt _⟩
  · cases h

theorem yields_mn {o : Oper} {x y : Operand} {ts : Array TypeId} (ho : o.op = .call { callee := .builtin .min, args := #[x, y], argTypes := ts }) {ax ay : AX} (hx : cOpd N x = some ax) (hy : cOpd N y = some ay) (ht : TmRel E N tm a) {r : AV}
    (h : apure (.mn ax ay) tm E.h = some r) : Yields P E a o r := by
  have hvx := opd hx ht
  have hvy := opd hy ht
  simp only [apure] at h
  generalize ax.ev tm = u at *
  generalize ay.ev tm = v at *
  split at h
  · have e1 := hvx.int_inv; have e2 := hvy.int_inv; cases h
    exact ⟨_, by simp [execOp, ho, e1, e2, resolve, invoke, builtin, Builtin.min_, Builtin.min2], .int _ _⟩
  · cases h

theorem yields_mx {o : Oper} {x y : Operand} {ts : Array TypeId} (ho : o.op = .call { callee := .builtin .max, args := #[x, y], argTypes := ts }) {ax ay : AX} (hx : cOpd N x = some ax) (hy : cOpd N y = some ay) (ht : TmRel E N tm a) {r : AV}
    (h : apure (.mx ax ay) tm E.h = some r) : Yields P E a o r := by
  have hvx := opd hx ht
  have hvy := opd hy ht
  simp only [apure] at h
  generalize ax.ev tm = u at *
  generalize ay.ev tm = v at *
  split at h
  · have e1 := hvx.int_inv; have e2 := hvy.int_inv; cases h
    exact ⟨_, by simp [execOp, ho, e1, e2, resolve, invoke, builtin, Builtin.max_, Builtin.max2], .int _ _⟩
  · cases h

theorem yields_ext {o : Oper} {x : Operand} {i : Nat} (ho : o.op = .extract x i) {ax : AX} (hx : cOpd N x = some ax) (ht : TmRel E N tm a) {r : AV} (h : apure (.ext ax i) tm E.h = some r) : Yields P E a o r := by
  have hv := opd hx ht
  simp only [apure] at h
  generalize ax.ev tm = u at *
  split at h
  · obtain ⟨us, e1, hr⟩ := hv.tup_inv
    obtain ⟨u, hu, hru⟩ := hr.get h
    exact ⟨u, by simp [execOp, ho, e1, Instr.extract, hu], hru⟩
  · cases h

theorem yields_ixs {o : Oper} {t : TypeId} {x i : Operand} (ho : o.op = .index t x i) (hu : P.underlying t = some .string) {ax ai : AX} (hx : cOpd N x = some ax) (hi : cOpd N i = some ai) (ht : TmRel E N tm a) {r : AV} (h : apure (.ixs ax ai) tm E.h = some r) : Yields P E a o r := by
  have hvx := opd hx ht
  have hvi := opd hi ht
  simp only [apure] at h
  generalize ax.ev tm = u at *
  generalize ai.ev tm = v at *
  split at h
  · rename_i s k n
    have e1 := hvx.str_inv; have e2 := hvi.int_inv
    split at h
    · rename_i h0
      cases hb : s[n.toNat]? with
      | none => simp [hb] at h
      | some b =>
        simp [hb] at h
        subst h
        have hsz : n.toNat < s.length := (List.getElem?_eq_some_iff.1 hb).1
        have hget : (ByteArray.mk s.toArray)[n.toNat]? = some b := by
          rw [getElem?_pos _ _ (by simpa [size_mk] using hsz)]
          have := (List.getElem?_eq_some_iff.1 hb).2
          show some (s.toArray[n.toNat]) = some b
          simpa using this
        exact ⟨_, by simp [execOp, ho, e1, e2, Instr.index, asIntOf, run_underlying hu, h0, hget], .int _ _⟩
    · cases h
  · cases h

theorem yields_mkfn {o : Oper} {f : FuncId} {first caps : Array Operand} (ho : o.op = .makeFunc (.func f) first caps) (hf : first.size = 0) {as : List AX} (hx : cOpds N caps = some as) (ht : TmRel E N tm a) {r : AV} (h : apure (.mkfn f as) tm E.h = some r) : Yields P E a o r := by
  simp only [apure] at h
  cases h
  have hl := opds hx ht
  have hfe : first = #[] := Array.eq_empty_of_size_eq_zero hf
  refine ⟨.func (.func f) #[] (caps.map a.eval), by simp [execOp, ho, Instr.makeFunc, hfe], ?_⟩
  have := Rel.fn (E := E) f _ _ hl.1 hl.2
  rwa [Array.toArray_toList] at this

end Go.AM

/- AM, 6: slices, strings of bytes, maps, structs built. -/
namespace Go.AM
variable {P : Program} {N : Nat} {E : Env} {tm : Tm} {a : Act}

theorem range_get {α : Type} {n : Nat} {f : Nat → α} {j : Nat} {u : α} (h : ((List.range n).map f)[j]? = some u) : j < n ∧ f j = u := by
  rw [List.getElem?_map] at h
  by_cases hj : j < n
  · rw [List.getElem?_range hj] at h
    exact ⟨hj, by simpa using h⟩
  · rw [List.getElem?_eq_none (by simpa using hj)] at h
    cases h

theorem Rel.fz_inv {xs : List (List AV)} {v : Value} (h : Rel E (.fz xs) v) : ∃ (b : Option Addr) (cap blk o sz : Nat) (us : Nat → Nat → Value), v = .slice b xs.length cap ∧ (xs ≠ [] → b = some ⟨blk, o, none⟩ ∧ ¬ E.live blk ∧ blk < E.w.heap.size) ∧
    xs.length ≤ cap ∧ (∀ x ∈ xs, x.length = sz) ∧ (∀ x ∈ xs, ∀ c ∈ x, c.one = true) ∧ (∀ (i : Nat) (x : List AV) (j : Nat) (c : AV), xs[i]? = some x → x[j]? = some c → E.w.cell? ⟨blk, o + i * sz + j, none⟩ = some (us i j)) ∧
    (∀ (i : Nat) (x : List AV) (j : Nat) (c : AV), xs[i]? = some x → x[j]? = some c → Rel E c (us i j)) := by
  cases h with
  | fz _ b cap blk o sz us hb hcap hs h1 hc hr => exact ⟨b, cap, blk, o, sz, us, rfl, hb, hcap, hs, h1, hc, hr⟩

theorem Rel.sl_inv {id off len : Nat} {v : Value} (h : Rel E (.sl id off len) v) : ∃ (b : Option Addr) (cap : Nat), v = .slice b len cap ∧ id < E.nx ∧
    ∀ e sz xs, E.h id = .arr e sz xs → off + len ≤ xs.length ∧ off + cap = E.κ id ∧ ((off ≠ 0 ∧ cap = 0) ∨ b = some ⟨E.ι id, off * sz, none⟩) := by
  cases h with
  | sl _ _ _ b cap hn h => exact ⟨b, cap, rfl, hn, h⟩

theorem yields_ia (hs : Sim E) {o : Oper} {t e0 : TypeId} {x i : Operand} (ho : o.op = .indexAddr t x i) (hu : P.underlying t = some (.slice e0)) {inf : TypeInfo} (hinf : P.info? e0 = some inf) {ax ai : AX} (hx : cOpd N x = some ax) (hi : cOpd N i = some ai) (ht : TmRel E N tm a) {r : AV}
    (h : apure (.ia inf.size ax ai) tm E.h = some r) : Yields P E a o r := by
  have hvx := opd hx ht
  have hvi := opd hi ht
  simp only [apure] at h
  generalize ax.ev tm = u at *
  generalize ai.ev tm = v at *
  split at h
  · rename_i k n
    have e2 := hvi.int_inv
    have fin : ∀ ad len cap, a.eval x = .slice (some ad) len cap → 0 ≤ n → n < len → Rel E r (.pointer (some (ad.add (n.toNat * inf.size)))) → Yields P E a o r := fun ad len cap h1 h2 h3 h4 =>
      ⟨_, by simp [execOp, ho, h1, e2, Instr.indexAt, asIntOf, run_underlying hu, info_of hinf, h2, h3], h4⟩
    split at h
    · rename_i xs
      obtain ⟨b, cap, blk, o', sz, us, hv, hb, hcap, hsz, h1, hc, hr⟩ := hvx.fz_inv
      split at h
      · rename_i h0
        split at h
        · rename_i el hel
          split at h
          · rename_i hlen
            cases h
            have hne : xs ≠ [] := by intro h0; subst h0; simp at hel
            obtain ⟨hb1, hb2, hb3⟩ := hb hne
            have hnl : n.toNat < xs.length := (List.getElem?_eq_some_iff.1 hel).1
            have hel' : el ∈ xs := List.mem_of_getElem? hel
            have hszz : sz = inf.size := by rw [← hsz el hel', hlen]
            subst hb1
            refine fin _ _ _ hv h0 (by omega) ?_
            rw [Addr.add_mid]
            refine .fp el _ ((List.range el.length).map (us n.toNat)) hb2 hb3 rfl (by simp) (h1 el hel') (fun j u hu => ?_) (fun j c u hc' hu => ?_)
            · obtain ⟨hj', rfl⟩ := range_get hu
              have := hc n.toNat el j el[j] hel (List.getElem?_eq_getElem hj')
              rw [hszz] at this
              exact this
            · obtain ⟨hj', rfl⟩ := range_get hu
              exact hr n.toNat el j c hel hc'
          · cases h
        · cases h
      · cases h
    · rename_i id off len
      obtain ⟨b, cap, hv, hn, hp⟩ := hvx.sl_inv
      split at h
      · rename_i e sz xs hh
        obtain ⟨h1, h2, h3⟩ := hp e sz xs hh
        split at h
        · rename_i hsz
          split at h
          · rename_i h0
            split at h
            · rename_i hlt
              cases h
              obtain ⟨_, _, _, hxk, _⟩ := arr_row hs hh
              have hb : b = some ⟨E.ι id, off * sz, none⟩ := by
                rcases h3 with ⟨_, hz⟩ | hb
                · omega
                · exact hb
              subst hb
              refine fin _ _ _ hv h0 hlt ?_
              rw [Addr.add_mid]
              refine .pe _ _ _ _ hn fun e' sz' xs' hh' => ?_
              rw [hh] at hh'
              cases hh'
              rw [← hsz, Nat.add_mul]; rfl
            · cases h
          · cases h
        · cases h
      · cases h
    · cases h
  · cases h

theorem yields_fld {o : Oper} {t : TypeId} {x : Operand} {f : Nat} (ho : o.op = .field t x f) {fs : Array Field} (hu : P.underlying t = some (.struct fs)) {fd : Field} (hf : fs[f]? = some fd) {n : Option Nat} (hag : aggSize P fd.type = some n)
    {ax : AX} (hx : cOpd N x = some ax) (ht : TmRel E N tm a) {r : AV} (h : apure (.fld fd.offset n ax) tm E.h = some r) : Yields P E a o r := by
  have hv := opd hx ht
  simp only [apure] at h
  generalize ax.ev tm = u at *
  obtain ⟨hg1, hg2⟩ := isAgg_of (P := P) hag E.w
  split at h
  · rename_i cs
    obtain ⟨us, e1, hl, h1, hr⟩ := hv.agg_inv
    cases n with
    | none =>
      simp at h
      obtain ⟨u, hu', hru⟩ := hr.get h
      exact ⟨u, by simp [execOp, ho, e1, Instr.field, run_underlying hu, hf, asAgg, part, hg1, hu'], hru⟩
    | some n =>
      simp at h
      subst h
      obtain ⟨i, hi, hsz⟩ := hg2 n rfl
      refine ⟨.agg ((us.drop fd.offset).take n).toArray, ?_, .agg _ _ ((hr.drop _).take n).1 (fun c hc => h1 c (List.mem_of_mem_drop (List.mem_of_mem_take hc))) ((hr.drop _).take n).2⟩
      simp [execOp, ho, e1, Instr.field, run_underlying hu, hf, asAgg, part, hg1, info_of hi, hsz]
  · cases h

theorem yields_len (hs : Sim E) {o : Oper} {t : TypeId} {x : Operand} (ho : o.op = .call { callee := .builtin .len, args := #[x], argTypes := #[t] }) {k : LenK}
    (hk : match k with | .sl => ∃ e, P.underlying t = some (.slice e) | .str => P.underlying t = some .string | .map => ∃ kt et, P.underlying t = some (.map kt et))
    {ax : AX} (hx : cOpd N x = some ax) (ht : TmRel E N tm a) {r : AV} (h : apure (.len k ax) tm E.h = some r) : Yields P E a o r := by
  have hv := opd hx ht
  simp only [apure] at h
  generalize ax.ev tm = u at *
  split at h
  · obtain ⟨e, hu⟩ := hk
    obtain ⟨b, e1⟩ := hv.nl_inv
    cases h
    exact ⟨_, by simp [execOp, ho, e1, resolve, invoke, builtin, Builtin.len_, run_underlying hu, goInt], .int _ _⟩
  · obtain ⟨e, hu⟩ := hk
    obtain ⟨b, cap, blk, o', sz, us, e1, _⟩ := hv.fz_inv
    cases h
    exact ⟨_, by simp [execOp, ho, e1, resolve, invoke, builtin, Builtin.len_, run_underlying hu, goInt], .int _ _⟩
  · obtain ⟨e, hu⟩ := hk
    obtain ⟨b, cap, e1, _⟩ := hv.sl_inv
    cases h
    exact ⟨_, by simp [execOp, ho, e1, resolve, invoke, builtin, Builtin.len_, run_underlying hu, goInt], .int _ _⟩
  · have e1 := hv.str_inv
    cases h
    exact ⟨_, by simp [execOp, ho, e1, resolve, invoke, builtin, Builtin.len_, run_underlying hk, goInt, size_mk], .int _ _⟩
  · obtain ⟨kt, et, hu⟩ := hk
    have e1 := hv.nilm_inv
    cases h
    exact ⟨_, by simp [execOp, ho, e1, resolve, invoke, builtin, Builtin.len_, run_underlying hu, goInt], .int _ _⟩
  · rename_i id
    obtain ⟨kt, et, hu⟩ := hk
    split at h
    · rename_i es hh
      cases h
      have ob := hs.obj id
      unfold ObjRel at ob
      rw [hh] at ob
      obtain ⟨ents, clk, hb, hsz, _⟩ := ob
      obtain ⟨v0, hq⟩ : ∃ v, a.eval x = v := ⟨_, rfl⟩
      rw [hq] at hv
      cases hv with
      | mp _ r hn hp =>
        have hr := hp es hh
        subst hr
        have hg : (getObj (E.ι id)).run P E.w = .ok (.map ents clk) E.w := by simp [getObj, Sem.run, hb]
        exact ⟨_, by simp [execOp, ho, hq, resolve, invoke, builtin, Builtin.len_, run_underlying hu, goInt, hg, hsz], .int _ _⟩
    · cases h
  · cases h

/-! ### What a slice holds, in memory -/

/-- The cells of the elements, one behind the other. -/
theorem elems_cells (hs : Sim E) {x : AV} {v : Value} {sz : Nat} {ys : List (List AV)} (h : elemsOf E.h sz x = some ys) (hr : Rel E x v) :
    ∃ (b : Option Addr) (cap : Nat) (us : List Value), v = .slice b ys.length cap ∧ us.length = ys.length * sz ∧ (∀ y ∈ ys, y.length = sz) ∧ (∀ y ∈ ys, ∀ c ∈ y, c.one = true) ∧
      (∀ (i : Nat) (y : List AV) (j : Nat) (c : AV), ys[i]? = some y → y[j]? = some c → ∃ u, us[i * sz + j]? = some u ∧ Rel E c u) ∧
      (us ≠ [] → ∃ g o, b = some ⟨g, o, none⟩ ∧ ∀ j u, us[j]? = some u → E.w.cell? ⟨g, o + j, none⟩ = some u) := by
  unfold elemsOf at h
  split at h
  · cases h
    obtain ⟨b, e1⟩ := hr.nl_inv
    exact ⟨b, 0, [], e1, by simp, by simp, by simp, by simp, fun h => absurd rfl h⟩
  · rename_i xs
    split at h
    · rename_i hall
      obtain rfl : xs = ys := by simpa using h
      obtain ⟨b, cap, blk, o, sz', us, e1, hb, hcap, hsz', h1, hc, hrr⟩ := hr.fz_inv
      have hall' : ∀ y ∈ xs, y.length = sz := by simpa using hall
      by_cases hz : sz = 0
      · subst hz
        refine ⟨b, cap, [], e1, by simp, hall', h1, fun i y j c hy hj => ?_, fun h => absurd rfl h⟩
        have := hall' y (List.mem_of_getElem? hy)
        have := (List.getElem?_eq_some_iff.1 hj).1
        omega
      · refine ⟨b, cap, (List.range (xs.length * sz)).map fun k => us (k / sz) (k % sz), e1, by simp, hall', h1, fun i y j c hy hj => ?_, fun hne => ?_⟩
        · have hi := (List.getElem?_eq_some_iff.1 hy).1
          have hjl := (List.getElem?_eq_some_iff.1 hj).1
          rw [hall' y (List.mem_of_getElem? hy)] at hjl
          have hlt : i * sz + j < xs.length * sz := by
            have : (i + 1) * sz ≤ xs.length * sz := Nat.mul_le_mul_right _ (by omega)
            rw [Nat.add_mul] at this; omega
          refine ⟨us i j, ?_, hrr i y j c hy hj⟩
          have hpos : 0 < sz := by omega
          rw [List.getElem?_map, List.getElem?_range hlt]
          have d1 : (i * sz + j) / sz = i := by rw [Nat.add_comm, Nat.add_mul_div_right _ _ hpos, Nat.div_eq_of_lt hjl, Nat.zero_add]
          have d2 : (i * sz + j) % sz = j := by rw [Nat.add_comm, Nat.add_mul_mod_self_right, Nat.mod_eq_of_lt hjl]
          simp [d1, d2]
        · have hxne : xs ≠ [] := by intro h0; subst h0; simp at hne
          obtain ⟨hb1, hb2, hb3⟩ := hb hxne
          refine ⟨blk, o, hb1, fun k u hk => ?_⟩
          obtain ⟨hk', rfl⟩ := range_get hk
          obtain ⟨k', rfl⟩ : ∃ k', k' = k := ⟨k, rfl⟩
          have hpos : 0 < sz := by omega
          have hi : k' / sz < xs.length := (Nat.div_lt_iff_lt_mul hpos).2 hk'
          have hxi : xs[k' / sz]? = some xs[k' / sz] := List.getElem?_eq_getElem hi
          have hmod : k' % sz < sz := Nat.mod_lt _ hpos
          have hlen : xs[k' / sz].length = sz := hall' _ (List.getElem_mem hi)
          have hszz : sz' = sz := by rw [← hsz' _ (List.getElem_mem hi), hlen]
          have hxj : (xs[k' / sz])[k' % sz]? = some ((xs[k' / sz])[k' % sz]'(by omega)) := List.getElem?_eq_getElem (by omega)
          have hcell := hc (k' / sz) _ (k' % sz) _ hxi hxj
          rw [hszz] at hcell
          have e : o + k' / sz * sz + k' % sz = o + k' := by rw [Nat.add_assoc, Nat.mul_comm, Nat.div_add_mod]
          rw [e] at hcell
          exact hcell
    · cases h
  · rename_i id off len
    split at h
    · rename_i e sz' xs hh
      split at h
      · rename_i hsz
        split at h
        · rename_i hle
          cases h
          obtain ⟨b, cap, e1, hn, hp⟩ := hr.sl_inv
          obtain ⟨h1, h2, h3⟩ := hp e sz' xs hh
          obtain ⟨us, hb, hl, hxk, hkm, hpos, hlen, hone, huo, hru⟩ := arr_row hs hh
          subst hsz
          have hxs : ((xs.drop off).take len).length = len := by simp; omega
          have hget : ∀ i y, ((xs.drop off).take len)[i]? = some y → xs[off + i]? = some y := fun i y hy => by
            rw [List.getElem?_take] at hy
            split at hy
            · rwa [List.getElem?_drop] at hy
            · cases hy
          have hmem : ∀ y ∈ (xs.drop off).take len, y ∈ xs := fun y hy => List.mem_of_mem_drop (List.mem_of_mem_take hy)
          have hbd : (off + len) * sz' ≤ us.length := by rw [hl]; exact Nat.mul_le_mul_right _ (by omega)
          rw [Nat.add_mul] at hbd
          refine ⟨b, cap, (us.drop (off * sz')).take (len * sz'), by rw [hxs]; exact e1, by rw [hxs]; simp; omega, fun y hy => hlen y (hmem y hy), fun y hy => hone y (hmem y hy), fun i y j c hy hj => ?_, fun hne => ?_⟩
          · obtain ⟨u, hu, hr'⟩ := hru (off + i) y j c (hget i y hy) hj
            have hjl := (List.getElem?_eq_some_iff.1 hj).1
            rw [hlen y (hmem y (List.mem_of_getElem? hy))] at hjl
            have hil := (List.getElem?_eq_some_iff.1 hy).1
            rw [hxs] at hil
            have hlt : i * sz' + j < len * sz' := by
              have : (i + 1) * sz' ≤ len * sz' := Nat.mul_le_mul_right _ (by omega)
              rw [Nat.add_mul] at this; omega
            refine ⟨u, ?_, hr'⟩
            rw [List.getElem?_take, if_pos hlt, List.getElem?_drop, ← hu]
            congr 1
            rw [Nat.add_mul]; omega
          · have hb' : b = some ⟨E.ι id, off * sz', none⟩ := by
              rcases h3 with ⟨h4, h5⟩ | h4
              · exfalso
                have : len = 0 := by omega
                subst this
                simp at hne
              · exact h4
            refine ⟨_, _, hb', fun j u hj => ?_⟩
            rw [cell_row hb]
            rw [List.getElem?_take] at hj
            split at hj
            · rwa [List.getElem?_drop] at hj
            · cases hj
        · cases h
      · cases h
    · cases h
  · cases h

end Go.AM

/- AM, 7: slicing, bytes to a string, a map's look, a struct built, structs compared. -/
namespace Go.AM
variable {P : Program} {N : Nat} {E : Env} {tm : Tm} {a : Act}

/-! ### Slicing -/

/-- A bound as the model has it. -/
def BoundRel (v : Option Value) (l : Option Nat) : Prop :=
  match v, l with
  | none, none => True
  | some v, some n => ∃ k, v = .int k (n : Int)
  | _, _ => False

theorem bound_rel {x : Option Operand} {ax : Option AX} (h : cOptO N x = some ax) (ht : TmRel E N tm a) {l : Option Nat} (hb : bound tm ax = some l) : BoundRel (x.map a.eval) l := by
  cases x with
  | none => simp [cOptO] at h; subst h; simp [bound] at hb; subst hb; trivial
  | some x =>
    cases hx : cOpd N x with
    | none => simp [cOptO, hx] at h
    | some y =>
      simp [cOptO, hx] at h
      subst h
      have hv := opd hx ht
      simp only [bound] at hb
      generalize y.ev tm = u at *
      split at hb
      · rename_i k n
        split at hb
        · rename_i h0
          cases hb
          have e := hv.int_inv
          exact ⟨k, by simp [e, Int.toNat_of_nonneg h0]⟩
        · cases hb
      · cases hb

theorem run_sliceBounds (w : World) (isS : Bool) (len cap : Nat) {lo hi : Option Value} {l u : Option Nat} (hl : BoundRel lo l) (hu : BoundRel hi u) (h1 : l.getD 0 ≤ u.getD len) (h2 : u.getD len ≤ cap) :
    (Instr.sliceBounds isS len cap lo hi none).run P w = .ok (l.getD 0, u.getD len, cap) w := by
  cases lo <;> cases l <;> simp [BoundRel] at hl <;> cases hi <;> cases u <;> simp [BoundRel] at hu <;> simp at h1 h2
  · simp [Instr.sliceBounds]
  · obtain ⟨k, rfl⟩ := hu
    simp [Instr.sliceBounds, Instr.sliceBound, asIntOf, h2]
  · obtain ⟨k, rfl⟩ := hl
    simp [Instr.sliceBounds, Instr.sliceBound, asIntOf, h1]
  · obtain ⟨k, rfl⟩ := hl
    obtain ⟨k', rfl⟩ := hu
    simp [Instr.sliceBounds, Instr.sliceBound, asIntOf, h1, h2]

theorem run_cut (w : World) {t e : TypeId} (hu : P.underlying t = some (.slice e)) {i : TypeInfo} (hi : P.info? e = some i) (b : Option Addr) (len cap : Nat) {lo hi' : Option Value} {l u : Option Nat} (hl : BoundRel lo l) (hh : BoundRel hi' u)
    (h1 : l.getD 0 ≤ u.getD len) (h2 : u.getD len ≤ cap) :
    (Instr.sliceAt t (.slice b len cap) lo hi' none).run P w = .ok (.slice (if cap = l.getD 0 then b else b.map (·.add (l.getD 0 * i.size))) (u.getD len - l.getD 0) (cap - l.getD 0)) w := by
  simp [Instr.sliceAt, run_underlying hu, Instr.slice, run_sliceBounds (P := P) w true len cap hl hh h1 h2, info_of hi]

theorem yields_cut (hs : Sim E) {o : Oper} {t e0 : TypeId} {x : Operand} {lo hi : Option Operand} (ho : o.op = .slice t x lo hi none) (hu : P.underlying t = some (.slice e0)) {inf : TypeInfo} (hinf : P.info? e0 = some inf) {ax : AX} {alo ahi : Option AX} (hx : cOpd N x = some ax)
    (hlo : cOptO N lo = some alo) (hhi : cOptO N hi = some ahi) (ht : TmRel E N tm a) {r : AV} (h : apure (.cut inf.size ax alo ahi) tm E.h = some r) : Yields P E a o r := by
  have hvx := opd hx ht
  simp only [apure] at h
  split at h
  · rename_i l u hbl hbu
    have rl := bound_rel hlo ht hbl
    have ru := bound_rel hhi ht hbu
    generalize ax.ev tm = q at *
    have fin : ∀ b len cap, a.eval x = .slice b len cap → l.getD 0 ≤ u.getD len → u.getD len ≤ cap →
        Rel E r (.slice (if cap = l.getD 0 then b else b.map (·.add (l.getD 0 * inf.size))) (u.getD len - l.getD 0) (cap - l.getD 0)) → Yields P E a o r := fun b len cap h1 h2 h3 h4 =>
      ⟨_, by simp [execOp, ho, h1, run_cut (P := P) E.w hu hinf b len cap rl ru h2 h3], h4⟩
    split at h
    · obtain ⟨b, e1⟩ := hvx.nl_inv
      split at h
      · rename_i h0
        split at h
        · rename_i h1
          cases h
          refine fin b 0 0 e1 (by omega) (by omega) ?_
          rw [h0, h1]
          exact .nl _
        · cases h
      · cases h
    · rename_i xs
      obtain ⟨b, cap, blk, o', sz, us, e1, hb, hcap, hsz, h1, hc, hr⟩ := hvx.fz_inv
      split at h
      · rename_i h2
        split at h
        · rename_i h3
          split at h
          · rename_i hall
            cases h
            have hall' : ∀ y ∈ xs, y.length = inf.size := by simpa using hall
            refine fin b _ cap e1 h2 (by omega) ?_
            have hln : ((xs.drop (l.getD 0)).take (u.getD xs.length - l.getD 0)).length = u.getD xs.length - l.getD 0 := by simp; omega
            have hmem : ∀ y ∈ (xs.drop (l.getD 0)).take (u.getD xs.length - l.getD 0), y ∈ xs := fun y hy => List.mem_of_mem_drop (List.mem_of_mem_take hy)
            have hget : ∀ i y, ((xs.drop (l.getD 0)).take (u.getD xs.length - l.getD 0))[i]? = some y → xs[l.getD 0 + i]? = some y := fun i y hy => by
              rw [List.getElem?_take] at hy
              split at hy
              · rwa [List.getElem?_drop] at hy
              · cases hy
            have := Rel.fz (E := E) ((xs.drop (l.getD 0)).take (u.getD xs.length - l.getD 0)) (if cap = l.getD 0 then b else b.map (·.add (l.getD 0 * inf.size))) (cap - l.getD 0) blk (o' + l.getD 0 * inf.size) sz (fun i j => us (l.getD 0 + i) j)
              (fun hne => by
                have hx0 : xs ≠ [] := by intro h0; subst h0; simp at hne
                obtain ⟨hb1, hb2, hb3⟩ := hb hx0
                have hpos : 0 < ((xs.drop (l.getD 0)).take (u.getD xs.length - l.getD 0)).length := List.length_pos_iff.2 hne
                refine ⟨?_, hb2, hb3⟩
                rw [if_neg (by omega), hb1]
                simp [Addr.add_mid])
              (by omega) (fun y hy => hsz y (hmem y hy)) (fun y hy => h1 y (hmem y hy))
              (fun i y j c hy hj => by
                have hyx := hget i y hy
                have := hc _ y j c hyx hj
                have hszz : sz = inf.size := by rw [← hsz y (hmem y (List.mem_of_getElem? hy)), hall' y (hmem y (List.mem_of_getElem? hy))]
                rw [hszz] at this ⊢
                rw [← this]
                congr 2
                rw [Nat.add_mul]; omega)
              (fun i y j c hy hj => hr _ y j c (hget i y hy) hj)
            rw [hln] at this
            exact this
          · cases h
        · cases h
      · cases h
    · rename_i id off len
      obtain ⟨b, cap, e1, hn, hp⟩ := hvx.sl_inv
      split at h
      · rename_i e sz' xs hh
        obtain ⟨h1, h2, h3⟩ := hp e sz' xs hh
        split at h
        · rename_i hsz
          split at h
          · rename_i h4
            split at h
            · rename_i h5
              cases h
              obtain ⟨_, _, _, hxk, _⟩ := arr_row hs hh
              refine fin b len cap e1 h4 (by omega) (.sl _ _ _ _ _ hn fun e' sz'' xs' hh' => ?_)
              rw [hh] at hh'
              cases hh'
              refine ⟨by omega, by omega, ?_⟩
              by_cases hcl : cap = l.getD 0
              · rw [if_pos hcl]
                by_cases h0 : off + l.getD 0 = 0
                · right
                  rcases h3 with ⟨h6, _⟩ | h6
                  · omega
                  · rw [h6, h0]
                    have : off = 0 := by omega
                    rw [this]
                · left; exact ⟨h0, by omega⟩
              · rw [if_neg hcl]
                right
                rcases h3 with ⟨_, h6⟩ | h6
                · omega
                · rw [h6]
                  simp [Addr.add_mid, hsz, Nat.add_mul]
            · cases h
          · cases h
        · cases h
      · cases h
    · cases h
  · cases h

theorem extract_mk (s : List UInt8) (l h : Nat) (hl : l ≤ h) (hh : h ≤ s.length) : (ByteArray.mk s.toArray).extract l h = ByteArray.mk ((s.drop l).take (h - l)).toArray := by
  apply ByteArray.ext
  simp only [ByteArray.data_extract]
  apply Array.ext'
  simp

theorem yields_cuts {o : Oper} {t : TypeId} {x : Operand} {lo hi : Option Operand} (ho : o.op = .slice t x lo hi none) (hu : P.underlying t = some .string) {ax : AX} {alo ahi : Option AX} (hx : cOpd N x = some ax)
    (hlo : cOptO N lo = some alo) (hhi : cOptO N hi = some ahi) (ht : TmRel E N tm a) {r : AV} (h : apure (.cuts ax alo ahi) tm E.h = some r) : Yields P E a o r := by
  have hvx := opd hx ht
  simp only [apure] at h
  split at h
  · rename_i l u hbl hbu
    have rl := bound_rel hlo ht hbl
    have ru := bound_rel hhi ht hbu
    generalize ax.ev tm = q at *
    split at h
    · rename_i s
      have e1 := hvx.str_inv
      split at h
      · rename_i h1
        split at h
        · rename_i h2
          cases h
          refine ⟨_, ?_, .str _⟩
          simp [execOp, ho, e1, Instr.sliceAt, run_underlying hu, Instr.slice, size_mk, run_sliceBounds (P := P) E.w false s.length s.length rl ru h1 h2, extract_mk s _ _ h1 h2]
        · cases h
      · cases h
    · cases h
  · cases h

/-! ### Bytes to a string -/

theorem yields_b2s (hs : Sim E) {o : Oper} {s d e : TypeId} {x : Operand} (ho : o.op = .convert s d x) (hsu : P.underlying s = some (.slice e)) (he : isU8 P e = true) (hd : P.underlying d = some .string) {ax : AX} (hx : cOpd N x = some ax) (ht : TmRel E N tm a) {r : AV}
    (h : apure (.b2s ax) tm E.h = some r) : Yields P E a o r := by
  have hv := opd hx ht
  simp only [apure] at h
  generalize ax.ev tm = u at *
  have he' : P.underlying e = some (.int .u8) := by
    unfold isU8 at he
    split at he
    · assumption
    · cases he
  split at h
  · rename_i ys hys
    cases hm : ys.mapM byteOf with
    | none => simp [hm] at h
    | some bs =>
      simp [hm] at h
      subst h
      obtain ⟨hbl, hbs⟩ := mapM_some _ _ _ hm
      obtain ⟨b, cap, us, e1, hul, hy1, hy2, hcell, hbase⟩ := elems_cells hs hys hv
      -- each cell is its byte
      have hus : ∀ j, j < ys.length → ∃ n : Int, us[j]? = some (.int .u8 n) ∧ bs[j]? = some (UInt8.ofNat n.toNat) := by
        intro j hj
        have hyj : ys[j]? = some ys[j] := List.getElem?_eq_getElem hj
        have hbj : bs[j]? = some (bs[j]'(by omega)) := List.getElem?_eq_getElem (by omega)
        have hbyte := hbs j _ _ hyj hbj
        unfold byteOf at hbyte
        split at hbyte
        · rename_i n hyn
          obtain ⟨u, hu, hr⟩ := hcell j ys[j] 0 (.int .u8 n) hyj (by rw [hyn]; rfl)
          simp at hu
          have := hr.int_inv
          subst this
          exact ⟨n, hu, by rw [hbj]; exact hbyte.symm⟩
        · cases hbyte
      let ns : List Int := us.map fun u => match u with | .int _ n => n | _ => 0
      have hns : ns.length = ys.length := by simp [ns, hul]
      have hnsj : ∀ j, j < ys.length → us[j]? = some (.int .u8 (ns.getD j 0)) ∧ bs[j]? = some (UInt8.ofNat (ns.getD j 0).toNat) := by
        intro j hj
        obtain ⟨n, h1, h2⟩ := hus j hj
        have : ns.getD j 0 = n := by simp [ns, List.getD, h1]
        rw [this]; exact ⟨h1, h2⟩
      have hdata : strOfNums ns = ⟨bs.toArray⟩ := by
        apply ByteArray.ext
        apply Array.ext'
        rw [strOfNums_data]
        simp only
        apply List.ext_getElem?
        intro j
        by_cases hj : j < ys.length
        · rw [(hnsj j hj).2, List.getElem?_map]
          have : ns[j]? = some (ns.getD j 0) := by simp [List.getD, List.getElem?_eq_getElem (show j < ns.length by omega)]
          rw [this]; rfl
        · rw [List.getElem?_eq_none (by simp; omega), List.getElem?_eq_none (by omega)]
      by_cases hy0 : ys = []
      · subst hy0
        have hb0 : bs = [] := by simpa using hbl
        subst hb0
        refine ⟨.string ByteArray.empty, ?_, Rel.str []⟩
        simp only [execOp, ho]
        rw [e1]
        have := run_convert_bytes_string (P := P) E.w s d e b 0 cap hsu he' hd
        cases b with
        | none => simp [this, Conv.bytesToString]
        | some ad => simp [this, Conv.bytesToString, loadCells, loadCellsFrom]
      · have hune : us ≠ [] := by
          intro h0; subst h0
          simp at hul
          exact hy0 (List.eq_nil_of_length_eq_zero (by omega))
        obtain ⟨g, off, hb, hcells⟩ := hbase hune
        subst hb
        refine ⟨.string ⟨bs.toArray⟩, ?_, Rel.str bs⟩
        have := run_convert_bytes_arg (P := P) E.w s e hsu he' g off ys.length cap ns hns (fun i hi => hcells i _ (hnsj i hi).1) d hd
        simp only [execOp, ho]
        rw [e1]
        simp [this, hdata]
  · cases h

end Go.AM
