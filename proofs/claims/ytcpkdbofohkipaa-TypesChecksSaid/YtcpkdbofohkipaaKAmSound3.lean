/- AM, 5: arithmetic, comparisons, conversions. -/
import Derived.Test.YtcpkdbofohkipaaKAmSound2
set_option linter.unusedVariables false
set_option linter.unusedSimpArgs false
set_option linter.unusedSimpArgs false
set_option linter.unusedVariables false
namespace Go.AM
variable {P : Program} {N : Nat} {E : Env} {tm : Tm} {a : Act}

theorem toList_mk (s : List UInt8) : (ByteArray.mk s.toArray).toList = s := by rw [ByteArray.toList_eq]
theorem size_mk (s : List UInt8) : (ByteArray.mk s.toArray).size = s.length := by simp [ByteArray.size]
theorem append_mk (s t : List UInt8) : ByteArray.mk s.toArray ++ ByteArray.mk t.toArray = ByteArray.mk (s ++ t).toArray := by
  apply ByteArray.ext
  simp

theorem run_binI (w : World) {op : BinOp} {t : TypeId} {k : IntKind} {x y : Int} {r : AV} (h : binI op k x y = some r) : ∃ v, (binOp op t (.int k x) (.int k y)).run P w = .ok v w ∧ Rel E r v := by
  unfold binI at h
  split at h <;> first
    | (split at h
       · cases h
       · rename_i hz; cases h; exact ⟨_, by simp [binOp, Op.intDiv, hz], .int _ _⟩)
    | (cases h
       refine ⟨_, ?_, (by first | exact Rel.int _ _ | exact Rel.bool _)⟩
       first
         | (simp [binOp, Op.intArith, Op.intCmp]; done)
         | (simp only [binOp, ne_eq, not_true_eq_false, if_false]; rfl))
    | cases h

theorem run_shI (w : World) {op : BinOp} {t : TypeId} {k k' : IntKind} {x y : Int} {r : AV} (ho : op = .shl ∨ op = .shr) (h : shI op k x y = some r) : ∃ v, (binOp op t (.int k x) (.int k' y)).run P w = .ok v w ∧ Rel E r v := by
  unfold shI at h
  split at h
  · cases h
  · rename_i hy
    rcases ho with rfl | rfl <;> (simp at h; subst h; exact ⟨_, by simp [binOp, Op.shift, hy], .int _ _⟩)

theorem run_binS (w : World) {op : BinOp} {t : TypeId} {x y : List UInt8} {r : AV} (h : binS op x y = some r) : ∃ v, (binOp op t (.string ⟨x.toArray⟩) (.string ⟨y.toArray⟩)).run P w = .ok v w ∧ Rel E r v := by
  unfold binS at h
  split at h <;> first
    | (split at h
       · rename_i hz; cases h
         refine ⟨_, ?_, .str _⟩
         have : ¬ (9223372036854775807 : Int) < ((x.length : Int) + (y.length : Int)) := by omega
         simp [binOp, Op.stringOp, size_mk, append_mk, this]
       · cases h)
    | (cases h; exact ⟨_, by simp [binOp, Op.stringOp, toList_mk], .bool _⟩)
    | cases h

theorem eqGuard_plain (w : World) (op : BinOp) (t : TypeId) (x y : Operand) (u v : Value) (hu : u.oneCell' = true) (hn : u ≠ .nilIface) : (eqGuard op t x y u v).run P w = .ok () w := by
  cases op <;> (unfold eqGuard; simp) <;> (cases u <;> first | rfl | exact absurd rfl hn | (simp [Value.oneCell'] at hu))

theorem yields_bin {o : Oper} {op : BinOp} {t t' : TypeId} {x y : Operand} (ho : o.op = .binOp op t x y t') {ax ay : AX} (hx : cOpd N x = some ax) (hy : cOpd N y = some ay) (ht : TmRel E N tm a) {r : AV}
    (h : apure (.bin op ax ay) tm E.h = some r) : Yields P E a o r := by
  have hvx := opd hx ht
  have hvy := opd hy ht
  simp only [apure] at h
  generalize ax.ev tm = u at *
  generalize ay.ev tm = v at *
  have fin : ∀ p q, a.eval x = p → a.eval y = q → p.oneCell' = true → p ≠ .nilIface → (∃ z, (binOp op t p q).run P E.w = .ok z E.w ∧ Rel E r z) → Yields P E a o r := fun p q h1 h2 h3 h4 ⟨z, h5, h6⟩ =>
    ⟨z, by simp [execOp, ho, h1, h2, eqGuard_plain (P := P) E.w op t x y p q h3 h4, h5], h6⟩
  unfold abin at h
  split at h
  · have e1 := hvx.int_inv
    have e2 := hvy.int_inv
    split at h
    · exact fin _ _ e1 e2 rfl (by simp) (run_shI E.w (.inl rfl) h)
    · exact fin _ _ e1 e2 rfl (by simp) (run_shI E.w (.inr rfl) h)
    · split at h
      · rename_i hk; subst hk
        exact fin _ _ e1 e2 rfl (by simp) (run_binI E.w h)
      · cases h
  · exact fin _ _ hvx.str_inv hvy.str_inv rfl (by simp) (run_binS E.w h)
  · have e1 := hvx.cplx_inv
    have e2 := hvy.cplx_inv
    split at h
    · cases h
      exact fin _ _ e1 e2 rfl (by simp) ⟨_, by simp [binOp, Op.complexOp, Op.Complex.cmp, Op.floatCmp, asBool, cplxEq, Op.floatEq], .bool _⟩
    · cases h
      exact fin _ _ e1 e2 rfl (by simp) ⟨_, by simp [binOp, Op.complexOp, Op.Complex.cmp, Op.floatCmp, asBool, cplxEq, Op.floatEq], .bool _⟩
    · cases h
  · cases h

theorem cNeg_cases {op : BinOp} {n : Bool} (h : cNeg op = some n) : (op = .eql ∧ n = false) ∨ (op = .neq ∧ n = true) := by
  cases op <;> simp [cNeg] at h <;> simp [← h]

theorem xor_false (b : Bool) : (false ^^ b) = b := by cases b <;> rfl
theorem xor_true (b : Bool) : (true ^^ b) = !b := by cases b <;> rfl

theorem yields_beq {o : Oper} {op : BinOp} {t t' : TypeId} {x y : Operand} (ho : o.op = .binOp op t x y t') (hu : P.underlying t = some .bool) {n : Bool} (hn : cNeg op = some n) {ax ay : AX} (hx : cOpd N x = some ax) (hy : cOpd N y = some ay) (ht : TmRel E N tm a) {r : AV}
    (h : apure (.beq n ax ay) tm E.h = some r) : Yields P E a o r := by
  have hvx := opd hx ht
  have hvy := opd hy ht
  simp only [apure] at h
  generalize ax.ev tm = u at *
  generalize ay.ev tm = v at *
  split at h
  · have e1 := hvx.bool_inv
    have e2 := hvy.bool_inv
    cases h
    rcases cNeg_cases hn with ⟨rfl, rfl⟩ | ⟨rfl, rfl⟩
    · refine ⟨_, ?_, (by rw [xor_false]; exact Rel.bool _)⟩
      simp [execOp, ho, e1, e2, eqGuard_plain (P := P) E.w .eql t x y _ _ (show (Value.bool _).oneCell' = true from rfl) (by simp), binOp, Op.equal, Op.maxDepth, run_equalIn_bool' (P := P) E.w _ t _ _ hu]
    · refine ⟨_, ?_, (by rw [xor_true]; exact Rel.bool _)⟩
      simp [execOp, ho, e1, e2, eqGuard_plain (P := P) E.w .neq t x y _ _ (show (Value.bool _).oneCell' = true from rfl) (by simp), binOp, Op.equal, Op.maxDepth, run_equalIn_bool' (P := P) E.w _ t _ _ hu]
  · cases h

theorem isNilP_rel {u : AV} {v : Value} {b : Bool} (h : isNilP u = some b) (hr : Rel E u v) : ∃ ad, v = .pointer ad ∧ b = ad.isNone := by
  unfold isNilP at h
  split at h <;> first
    | (cases h; cases hr; exact ⟨_, rfl, rfl⟩)
    | cases h

theorem run_equalIn_ptr (w : World) (d : Nat) (t e : TypeId) (p q : Option Addr) (h : P.underlying t = some (.pointer e)) (hn : p.isNone = true ∨ q.isNone = true) : (Op.equalIn (d + 1) t (.pointer p) (.pointer q)).run P w = .ok (p.isNone && q.isNone) w := by
  cases p <;> cases q <;> simp_all [Op.equalIn, run_underlying h]

theorem yields_peq {o : Oper} {op : BinOp} {t t' e : TypeId} {x y : Operand} (ho : o.op = .binOp op t x y t') (hu : P.underlying t = some (.pointer e)) {n : Bool} (hn : cNeg op = some n) {ax ay : AX} (hx : cOpd N x = some ax) (hy : cOpd N y = some ay) (ht : TmRel E N tm a) {r : AV}
    (h : apure (.peq n ax ay) tm E.h = some r) : Yields P E a o r := by
  have hvx := opd hx ht
  have hvy := opd hy ht
  simp only [apure] at h
  generalize ax.ev tm = u at *
  generalize ay.ev tm = v at *
  have fin : ∀ p q, a.eval x = .pointer p → a.eval y = .pointer q → (p.isNone = true ∨ q.isNone = true) → r = .bool (n ^^ (p.isNone && q.isNone)) → Yields P E a o r := by
    intro p q h1 h2 h3 h4
    subst h4
    rcases cNeg_cases hn with ⟨rfl, rfl⟩ | ⟨rfl, rfl⟩
    · exact ⟨.bool (p.isNone && q.isNone), by simp [execOp, ho, h1, h2, eqGuard_plain (P := P) E.w .eql t x y _ _ (show (Value.pointer p).oneCell' = true from rfl) (by simp), binOp, Op.equal, Op.maxDepth, run_equalIn_ptr (P := P) E.w _ t e _ _ hu h3], by rw [xor_false]; exact .bool _⟩
    · exact ⟨.bool (!(p.isNone && q.isNone)), by simp [execOp, ho, h1, h2, eqGuard_plain (P := P) E.w .neq t x y _ _ (show (Value.pointer p).oneCell' = true from rfl) (by simp), binOp, Op.equal, Op.maxDepth, run_equalIn_ptr (P := P) E.w _ t e _ _ hu h3], by rw [xor_true]; exact .bool _⟩
  split at h
  · rename_i b h1 h2
    cases h
    obtain ⟨p, e1, e2⟩ := isNilP_rel h1 hvx
    obtain ⟨q, e3, e4⟩ := isNilP_rel h2 hvy
    exact fin p q e1 e3 (.inl e2.symm) (by rw [← e2, ← e4]; simp)
  · rename_i h1 h2
    cases h
    obtain ⟨p, e1, e2⟩ := isNilP_rel h1 hvx
    obtain ⟨q, e3, e4⟩ := isNilP_rel h2 hvy
    exact fin p q e1 e3 (.inr e4.symm) (by rw [← e2, ← e4]; simp)
  · cases h

theorem yields_un {o : Oper} {op : UnOp} {t : TypeId} {x : Operand} (ho : o.op = .unOp op t x) {ax : AX} (hx : cOpd N x = some ax) (ht : TmRel E N tm a) {r : AV} (h : apure (.un op ax) tm E.h = some r) : Yields P E a o r := by
  have hv := opd hx ht
  simp only [apure] at h
  generalize ax.ev tm = u at *
  unfold aun at h
  split at h
  · have e1 := hv.int_inv; cases h; exact ⟨_, by simp [execOp, ho, e1, Op.unary, Op.intArith], .int _ _⟩
  · have e1 := hv.bool_inv; cases h; exact ⟨_, by simp [execOp, ho, e1, Op.unary], .bool _⟩
  · cases h

theorem yields_cvi {o : Oper} {s d : TypeId} {x : Operand} (ho : o.op = .convert s d x) {k k' : IntKind} (hs : P.underlying s = some (.int k')) (hd : P.underlying d = some (.int k)) {ax : AX} (hx : cOpd N x = some ax) (ht : TmRel E N tm a) {r : AV}
    (h : apure (.cvi k ax) tm E.h = some r) : Yields P E a o r := by
  have hv := opd hx ht
  simp only [apure] at h
  generalize ax.ev tm = u at *
  split at h
  · have e1 := hv.int_inv; cases h
    exact ⟨_, by simp [execOp, ho, e1, convert, run_underlying hs, run_underlying hd, Conv.intToInt], .int _ _⟩
  · cases h

theorem yields_cvf {o : Oper} {s d : TypeId} {x : Operand} (ho : o.op = .convert s d x) {k' : IntKind} (hs : P.underlying s = some (.int k')) (hd : P.underlying d = some (.float .f64)) {ax : AX} (hx : cOpd N x = some ax) (ht : TmRel E N tm a) {r : AV}
    (h : apure (.cvf ax) tm E.h = some r) : Yields P E a o r := by
  have hv := opd hx ht
  simp only [apure] at h
  generalize ax.ev tm = u at *
  split at h
  · have e1 := hv.int_inv; cases h
    exact ⟨_, by simp [execOp, ho, e1, convert, run_underlying hs, run_underlying hd, Conv.intToFloat], .flt _⟩
  · cases h

theorem run_complex_f64 (w : World) (ts : Array TypeId) (ty : TypeId) (x y : Nat) : (Builtin.complex_ ts ty #[.float .f64 x, .float .f64 y]).run P w = .ok (.complex .f64 x y) w := rfl
theorem run_real_f64 (w : World) (ts : Array TypeId) (ty : TypeId) (x y : Nat) : (Builtin.real_ ts ty #[.complex .f64 x y]).run P w = .ok (.float .f64 x) w := rfl
theorem run_imag_f64 (w : World) (ts : Array TypeId) (ty : TypeId) (x y : Nat) : (Builtin.imag_ ts ty #[.complex .f64 x y]).run P w = .ok (.float .f64 y) w := rfl

theorem yields_cx {o : Oper} {x y : Operand} {ts : Array TypeId} (ho : o.op = .call { callee := .builtin .complex, args := #[x, y], argTypes := ts }) {ax ay : AX} (hx : cOpd N x = some ax) (hy : cOpd N y = some ay) (ht : TmRel E N tm a) {r : AV}
    (h : apure (.cx ax ay) tm E.h = some r) : Yields P E a o r := by
  have hvx := opd hx ht
  have hvy := opd hy ht
  simp only [apure] at h
  generalize ax.ev tm = u at *
  generalize ay.ev tm = v at *
  split at h
  · have e1 := hvx.flt_inv; have e2 := hvy.flt_inv; cases h
    exact ⟨_, by simp [execOp, ho, e1, e2, resolve, invoke, builtin, run_complex_f64 (P := P)], .cplx _ _⟩
  · cases h

theorem yields_re {o : Oper} {x : Operand} {ts : Array TypeId} (ho : o.op = .call { callee := .builtin .real, args := #[x], argTypes := ts }) {ax : AX} (hx : cOpd N x = some ax) (ht : TmRel E N tm a) {r : AV}
    (h : apure (.re ax) tm E.h = some r) : Yields P E a o r := by
  have hvx := opd hx ht
  simp only [apure] at h
  generalize ax.ev tm = u at *
  split at h
  · have e1 := hvx.cplx_inv; cases h
    exact ⟨_, by simp [execOp, ho, e1, resolve, invoke, builtin, run_real_f64 (P := P)], .flt _⟩
  · cases h

theorem yields_im {o : Oper} {x : Operand} {ts : Array TypeId} (ho : o.op = .call { callee := .builtin .imag, args := #[x], argTypes := ts }) {ax : AX} (hx : cOpd N x = some ax) (ht : TmRel E N tm a) {r : AV}
    (h : apure (.im ax) tm E.h = some r) : Yields P E a o r := by
  have hvx := opd hx ht
  simp only [apure] at h
  generalize ax.ev tm = u at *
  split at h
  · have e1 := hvx.cplx_inv; cases h
    exact ⟨_, by simp [execOp, ho, e1, resolve, invoke, builtin, run_imag_f64 (P := P)], .flt _⟩
  · cases h

theorem yields_mn {o : Oper} {x y : Operand} {ts : Array TypeId} (ho : o.op = .call { callee := .builtin .min, args := #[x, y], argTypes := ts }) {ax ay : AX} (hx : cOpd N x = some ax) (hy : cOpd N y = some ay) (ht : TmRel E N tm a) {r : AV}
    (h : apure (.mn ax ay) tm E.h = some r) : Yields P E a o r := by
  have hvx := opd hx ht
  have hvy := opd hy ht
  simp only [apure] at h
  generalize ax.ev tm = u at *
  generalize ay.ev tm = v at *
  split at h
  · have e1 := hvx.int_inv; have e2 := hvy.int_inv; cases h
    exact ⟨_, by simp [execOp, ho, e1, e2, resolve, invoke, builtin, Builtin.min_, Builtin.min2], .int _ _⟩
  · cases h

theorem yields_mx {o : Oper} {x y : Operand} {ts : Array TypeId} (ho : o.op = .call { callee := .builtin .max, args := #[x, y], argTypes := ts }) {ax ay : AX} (hx : cOpd N x = some ax) (hy : cOpd N y = some ay) (ht : TmRel E N tm a) {r : AV}
    (h : apure (.mx ax ay) tm E.h = some r) : Yields P E a o r := by
  have hvx := opd hx ht
  have hvy := opd hy ht
  simp only [apure] at h
  generalize ax.ev tm = u at *
  generalize ay.ev tm = v at *
  split at h
  · have e1 := hvx.int_inv; have e2 := hvy.int_inv; cases h
    exact ⟨_, by simp [execOp, ho, e1, e2, resolve, invoke, builtin, Builtin.max_, Builtin.max2], .int _ _⟩
  · cases h

theorem yields_ext {o : Oper} {x : Operand} {i : Nat} (ho : o.op = .extract x i) {ax : AX} (hx : cOpd N x = some ax) (ht : TmRel E N tm a) {r : AV} (h : apure (.ext ax i) tm E.h = some r) : Yields P E a o r := by
  have hv := opd hx ht
  simp only [apure] at h
  generalize ax.ev tm = u at *
  split at h
  · obtain ⟨us, e1, hr⟩ := hv.tup_inv
    obtain ⟨u, hu, hru⟩ := hr.get h
    exact ⟨u, by simp [execOp, ho, e1, Instr.extract, hu], hru⟩
  · cases h

theorem yields_ixs {o : Oper} {t : TypeId} {x i : Operand} (ho : o.op = .index t x i) (hu : P.underlying t = some .string) {ax ai : AX} (hx : cOpd N x = some ax) (hi : cOpd N i = some ai) (ht : TmRel E N tm a) {r : AV} (h : apure (.ixs ax ai) tm E.h = some r) : Yields P E a o r := by
  have hvx := opd hx ht
  have hvi := opd hi ht
  simp only [apure] at h
  generalize ax.ev tm = u at *
  generalize ai.ev tm = v at *
  split at h
  · rename_i s k n
    have e1 := hvx.str_inv; have e2 := hvi.int_inv
    split at h
    · rename_i h0
      cases hb : s[n.toNat]? with
      | none => simp [hb] at h
      | some b =>
        simp [hb] at h
        subst h
        have hsz : n.toNat < s.length := (List.getElem?_eq_some_iff.1 hb).1
        have hget : (ByteArray.mk s.toArray)[n.toNat]? = some b := by
          rw [getElem?_pos _ _ (by simpa [size_mk] using hsz)]
          have := (List.getElem?_eq_some_iff.1 hb).2
          show some (s.toArray[n.toNat]) = some b
          simpa using this
        exact ⟨_, by simp [execOp, ho, e1, e2, Instr.index, asIntOf, run_underlying hu, h0, hget], .int _ _⟩
    · cases h
  · cases h

theorem yields_mkfn {o : Oper} {f : FuncId} {first caps : Array Operand} (ho : o.op = .makeFunc (.func f) first caps) (hf : first.size = 0) {as : List AX} (hx : cOpds N caps = some as) (ht : TmRel E N tm a) {r : AV} (h : apure (.mkfn f as) tm E.h = some r) : Yields P E a o r := by
  simp only [apure] at h
  cases h
  have hl := opds hx ht
  have hfe : first = #[] := Array.eq_empty_of_size_eq_zero hf
  refine ⟨.func (.func f) #[] (caps.map a.eval), by simp [execOp, ho, Instr.makeFunc, hfe], ?_⟩
  have := Rel.fn (E := E) f _ _ hl.1 hl.2
  rwa [Array.toArray_toList] at this

end Go.AM
