/- AM, 11: the operations that make or write memory. -/
import Derived.Test.YtcpkdbofohkipaaKAmEnv
import Derived.Deep.AppendSrc
import Derived.Lib.ConvBytes
set_option linter.unusedVariables false
set_option linter.unusedSimpArgs false
set_option linter.unusedSimpArgs false
set_option linter.unusedVariables false
namespace Go.AM
variable {P : Program} {N : Nat} {E : Env} {tm : Tm} {a : Act}

/-- What is to be shown of an operation: whatever it answers and leaves, the rest goes on. -/
def Goes (E : Env) (K : AV → Hp → Prop) (a : Act) (dst : Option Tmp) (next : Act → World → Prop) : Prop :=
  ∀ (r : AV) (v : Value) (E' : Env), Sim E' → Ext E E' → Rel E' r v → K r E'.h → next (a.put dst v) E'.w

theorem wp_value {o : Oper} {K : Act → World → Prop} {Q : Exit → Act → World → Prop} {v : Value} {w w' : World} (h : (execOp a.eval o).run P w = .ok (.value v) w') (hk : K (a.put o.dst v) w') : o.wp P a w K Q := by
  unfold Oper.wp; rw [h]; exact hk
theorem wp_skipped {o : Oper} {K : Act → World → Prop} {Q : Exit → Act → World → Prop} {w w' : World} (h : (execOp a.eval o).run P w = .ok .skip w') (hk : K (a.put o.dst undef) w') : o.wp P a w K Q := by
  unfold Oper.wp; rw [h]; exact hk

theorem alloc_old (w : World) (o : Obj) (b : Nat) (h : b < w.heap.size) : (w.alloc o).heap[b]? = w.heap[b]? := Below.heap_alloc_x w o b h
where
  Below.heap_alloc_x (w : World) (o : Obj) (k : Nat) (h : k < w.heap.size) : (w.alloc o).heap[k]? = w.heap[k]? := heap_alloc_old w o k h
theorem alloc_size (w : World) (o : Obj) : (w.alloc o).heap.size = w.heap.size + 1 := by simp
theorem alloc_new (w : World) (o : Obj) : (w.alloc o).heap[w.heap.size]? = some o := heap_alloc_new w o

/-- A new variable. -/
theorem new_cells (hs : Sim E) {cs : List AV} {us : List Value} (t : TypeId) (hr : RelL E cs us) (h1 : ∀ c ∈ cs, c.one = true) :
    ∃ E', Sim E' ∧ Ext E E' ∧ E'.w = E.w.alloc (.cells us.toArray t) ∧ E'.h = hset E.h E.nx (.cells cs) ∧ Rel E' (.ptr E.nx 0) (.pointer (some ⟨E.w.heap.size, 0, none⟩)) := by
  have hx := Env.add_ext (E := E) (w' := E.w.alloc (.cells us.toArray t)) (o := .cells cs) (blk := E.w.heap.size) (κ0 := 0) hs ⟨rfl, rfl, rfl⟩ (by simp) (fun b hb => alloc_old _ _ b hb) (Nat.le_refl _)
  refine ⟨E.add (E.w.alloc (.cells us.toArray t)) (.cells cs) E.w.heap.size 0, Env.add_sim hs ⟨rfl, rfl, rfl⟩ (by simp) (fun b hb => alloc_old _ _ b hb) (Nat.le_refl _) (by simp) ?_, hx, rfl, rfl, ?_⟩
  · unfold ObjRel
    have : (E.add (E.w.alloc (.cells us.toArray t)) (.cells cs) E.w.heap.size 0).h E.nx = .cells cs := by simp [Env.add, hset]
    rw [this]
    refine ⟨us, t, hr.1, ?_, h1, fun j c u hc hu => hx.rel _ _ (hr.2 j c u hc hu)⟩
    have : (E.add (E.w.alloc (.cells us.toArray t)) (.cells cs) E.w.heap.size 0).ι E.nx = E.w.heap.size := by simp [Env.add]
    rw [this]
    exact alloc_new _ _
  · refine .ptr _ _ _ (by simp [Env.add]) fun cs' _ => ?_
    simp [Env.add]

theorem step_alloc (hs : Sim E) {o : Oper} {t : TypeId} (ho : o.op = .alloc t) {z : AV} (hz : zeroOf P t = some z) (hf : z.flat = true) {K : AV → Hp → Prop} (h : AStep P (.alloc z.cells) K tm E.h) {next : Act → World → Prop} {Q : Exit → Act → World → Prop} (hk : Goes E K a o.dst next) : o.wp P a E.w next Q := by
  obtain ⟨zv, hzr, hzrel⟩ := zeroOf_rel (P := P) E hz E.w
  obtain ⟨hr, h1⟩ := cells_rel hzrel hf
  obtain ⟨E', s', x', hw, hh, hp⟩ := new_cells hs t hr h1
  have hrun : (execOp a.eval o).run P E.w = .ok (.value (.pointer (some ⟨E.w.heap.size, 0, none⟩))) E'.w := by
    rw [hw]; simp [execOp, ho, Instr.alloc, hzr, newVar, newRow]
  refine wp_value hrun (hk _ _ E' s' x' hp ?_)
  rw [hh]
  exact h E.nx (hs.nx _ (Nat.le_refl _))

theorem step_box (hs : Sim E) {o : Oper} {t : TypeId} {x : Operand} (ho : o.op = .box t x) {ax : AX} (hx : cOpd N x = some ax) (ht : TmRel E N tm a) {K : AV → Hp → Prop} (h : AStep P (.box ax) K tm E.h) {next : Act → World → Prop} {Q : Exit → Act → World → Prop} (hk : Goes E K a o.dst next) : o.wp P a E.w next Q := by
  obtain ⟨hf, h⟩ := h
  obtain ⟨hr, h1⟩ := cells_rel (opd hx ht) hf
  obtain ⟨E', s', x', hw, hh, hp⟩ := new_cells hs t hr h1
  have hrun : (execOp a.eval o).run P E.w = .ok (.value (.pointer (some ⟨E.w.heap.size, 0, none⟩))) E'.w := by
    rw [hw]; simp [execOp, ho, Instr.box, newVar, newRow]
  refine wp_value hrun (hk _ _ E' s' x' hp ?_)
  rw [hh]
  exact h E.nx (hs.nx _ (Nat.le_refl _))

/-! ### Rows -/

/-- The cells of elements, laid out. -/
def Laid (E : Env) (sz : Nat) (xs : List (List AV)) (us : List Value) : Prop :=
  ∀ (i : Nat) (x : List AV) (j : Nat) (c : AV), xs[i]? = some x → x[j]? = some c → ∃ u, us[i * sz + j]? = some u ∧ Rel E c u

/-- A new row. -/
theorem new_row (hs : Sim E) {e sz κ0 : Nat} {xs : List (List AV)} {us : List Value} {w1 : World} (hw1 : SameRest E.w w1) (hheap : w1.heap = E.w.heap) (hl : us.length = κ0 * sz) (hxk : xs.length ≤ κ0) (hkm : κ0 ≤ maxLen) (hpos : 0 < sz) (hlen : ∀ x ∈ xs, x.length = sz) (hone : ∀ x ∈ xs, ∀ c ∈ x, c.one = true)
    (huo : ∀ u ∈ us, u.oneCell' = true) (hr : Laid E sz xs us) (len : Nat) (hle : len ≤ xs.length) :
    ∃ E', Sim E' ∧ Ext E E' ∧ E'.w = w1.alloc (.cells us.toArray e) ∧ E'.h = hset E.h E.nx (.arr e sz xs) ∧ Rel E' (.sl E.nx 0 len) (.slice (some ⟨E.w.heap.size, 0, none⟩) len κ0) := by
  have hsame : SameRest E.w (w1.alloc (.cells us.toArray e)) := ⟨hw1.os, hw1.tape, hw1.output⟩
  have hsize : w1.heap.size = E.w.heap.size := by rw [hheap]
  have hold : ∀ b, b < E.w.heap.size → (w1.alloc (.cells us.toArray e)).heap[b]? = E.w.heap[b]? := fun b hb => by rw [alloc_old _ _ b (by omega), hheap]
  have hx := Env.add_ext (E := E) (w' := w1.alloc (.cells us.toArray e)) (o := .arr e sz xs) (blk := E.w.heap.size) (κ0 := κ0) hs hsame (by simp [hsize]) hold (Nat.le_refl _)
  refine ⟨E.add (w1.alloc (.cells us.toArray e)) (.arr e sz xs) E.w.heap.size κ0, Env.add_sim hs hsame (by simp [hsize]) hold (Nat.le_refl _) (by simp [hsize]) ?_, hx, rfl, rfl, ?_⟩
  · unfold ObjRel
    have e1 : (E.add (w1.alloc (.cells us.toArray e)) (.arr e sz xs) E.w.heap.size κ0).h E.nx = .arr e sz xs := by simp [Env.add, hset]
    have e2 : (E.add (w1.alloc (.cells us.toArray e)) (.arr e sz xs) E.w.heap.size κ0).ι E.nx = E.w.heap.size := by simp [Env.add]
    have e3 : (E.add (w1.alloc (.cells us.toArray e)) (.arr e sz xs) E.w.heap.size κ0).κ E.nx = κ0 := by simp [Env.add]
    rw [e1]
    refine ⟨us, ?_, by rw [e3]; exact hl, by rw [e3]; exact hxk, by rw [e3]; exact hkm, hpos, hlen, hone, huo, fun i x j c hx' hj => let ⟨u, hu, hr'⟩ := hr i x j c hx' hj; ⟨u, hu, hx.rel _ _ hr'⟩⟩
    rw [e2, ← hsize]
    exact alloc_new _ _
  · refine .sl _ _ _ _ _ (by simp [Env.add]) fun e' sz' xs' hh => ?_
    have e1 : (E.add (w1.alloc (.cells us.toArray e)) (.arr e sz xs) E.w.heap.size κ0).h E.nx = .arr e sz xs := by simp [Env.add, hset]
    rw [e1] at hh
    cases hh
    refine ⟨by omega, by simp [Env.add], .inr (by simp [Env.add])⟩

/-- 'fill' of a slice's literal. -/
theorem fill_slice (sz n : Nat) : ∀ (parts : List (Nat × Value)) (k : Nat) (cells : Array Value), parts.map (·.1) = (List.range' k parts.length) → (∀ p ∈ parts, p.2.cells.size = sz) → cells.size = n * sz → k + parts.length ≤ n →
    ∃ out, Instr.fill (fun i => some (i * sz, sz)) cells parts = some out ∧ out.size = cells.size ∧ (∀ idx, idx < k * sz → out[idx]? = cells[idx]?) ∧
      (∀ i p, parts[i]? = some p → ∀ j u, p.2.cells[j]? = some u → out[(k + i) * sz + j]? = some u) := by
  intro parts
  induction parts with
  | nil => intro k cells _ _ _ _; exact ⟨cells, rfl, rfl, fun _ _ => rfl, by simp⟩
  | cons p parts ih =>
    intro k cells hm hp hc hk
    obtain ⟨i0, v⟩ := p
    simp only [List.map_cons, List.length_cons, List.range'_succ, List.cons.injEq] at hm
    obtain ⟨rfl, hm⟩ := hm
    simp only [List.length_cons] at hk
    have hv : v.cells.size = sz := hp (i0, v) (by simp)
    have hb : (i0 + 1) * sz ≤ n * sz := Nat.mul_le_mul_right _ (by omega)
    have hb' : i0 * sz + sz ≤ cells.size := by rw [hc]; rw [Nat.add_mul] at hb; omega
    have hfold := fold_set v.cells.toList (i0 * sz) cells (by simp [hv]; omega)
    simp only [Array.toArray_toList] at hfold
    obtain ⟨cells', hcells'⟩ : ∃ c', c' = v.cells.zipIdx.foldl (fun (cs : Array Value) (p : Value × Nat) => cs.setIfInBounds (i0 * sz + p.2) p.1) cells := ⟨_, rfl⟩
    have hl : cells'.toList = cells.toList.take (i0 * sz) ++ v.cells.toList ++ cells.toList.drop (i0 * sz + v.cells.toList.length) := by rw [hcells']; exact hfold
    have hs' : cells'.size = cells.size := by
      have := congrArg List.length hl
      simp at this
      omega
    obtain ⟨out, ho, hos, hol, hon⟩ := ih (i0 + 1) cells' hm (fun q hq => hp q (by simp [hq])) (by omega) (by omega)
    have hget : ∀ idx : Nat, out[idx]? = out.toList[idx]? := fun idx => (Array.getElem?_toList (xs := out)).symm
    have hgc : ∀ idx : Nat, cells'[idx]? = cells'.toList[idx]? := fun idx => (Array.getElem?_toList (xs := cells')).symm
    refine ⟨out, ?_, by omega, fun idx hidx => ?_, fun i q hq j u hu => ?_⟩
    · simp only [Instr.fill]
      rw [if_neg (by simp [hv]; omega), ← hcells']
      exact ho
    · rw [hol idx (by rw [Nat.add_mul]; omega), hgc, hl, List.append_assoc, List.getElem?_append_left (by simp; omega), List.getElem?_take, if_pos hidx]
      simp
    · cases i with
      | zero =>
        simp at hq
        subst hq
        have hj : j < sz := by rw [← hv]; exact (Array.getElem?_eq_some_iff.1 hu).1
        have e1 : (List.take (i0 * sz) cells.toList).length = i0 * sz := by simp; omega
        rw [Nat.add_zero, hol _ (by rw [Nat.add_mul]; omega), hgc, hl, List.append_assoc, List.getElem?_append_right (by omega), e1, Nat.add_sub_cancel_left, List.getElem?_append_left (by rw [Array.length_toList]; omega)]
        simpa using hu
      | succ i =>
        simp at hq
        have := hon i q hq j u hu
        rw [← this]
        congr 2
        rw [show i0 + (i + 1) = i0 + 1 + i from by omega]

theorem step_bsl (hs : Sim E) {o : Oper} {t e0 : TypeId} {len : Nat} {parts : Array (Nat × Operand)} (ho : o.op = .buildSlice t len parts) (hu : P.underlying t = some (.slice e0)) {i : TypeInfo} (hi : P.info? e0 = some i) {z : AV} (hz : i.zero.bind ofConst = some z)
    (hcond : parts.toList.map (·.1) = List.range len ∧ len * i.size ≤ 16777216 ∧ 0 < i.size ∧ z.cells.length = i.size) {ps : List AX} (hps : (parts.toList.mapM fun (p : Nat × Operand) => cOpd N p.2) = some ps) (ht : TmRel E N tm a) {K : AV → Hp → Prop}
    (h : AStep P (.bsl e0 i.size ps) K tm E.h) {next : Act → World → Prop} {Q : Exit → Act → World → Prop} (hk : Goes E K a o.dst next) : o.wp P a E.w next Q := by
  obtain ⟨hp, h⟩ := h
  obtain ⟨hrange, hle, hpos, hzl⟩ := hcond
  obtain ⟨hpl, hpg⟩ := mapM_some _ _ _ hps
  have hlen : parts.toList.length = len := by have := congrArg List.length hrange; simpa using this
  -- the zero
  have hzr : ∃ zv, (zeroValue e0).run P E.w = .ok zv E.w := by
    cases hzi : i.zero with
    | none => simp [hzi] at hz
    | some zv => exact ⟨zv, by simp [zeroValue, typeInfo, hi, hzi]⟩
  obtain ⟨zv, hzr⟩ := hzr
  let vparts : List (Nat × Value) := parts.toList.map fun p => (p.1, a.eval p.2)
  have hvl : vparts.length = len := by simp [vparts, ← hlen]
  have hval : ∀ (j : Nat) (q : Nat × Operand) (ax : AX), parts.toList[j]? = some q → ps[j]? = some ax → RelL E (ax.ev tm).cells (a.eval q.2).cells.toList ∧ (∀ c ∈ (ax.ev tm).cells, c.one = true) ∧ (ax.ev tm).cells.length = i.size := by
    intro j q ax hq hax
    have hc := hpg j q ax hq hax
    obtain ⟨hf, hl⟩ := hp ax (List.mem_of_getElem? hax)
    obtain ⟨hr, h1⟩ := cells_rel (opd hc ht) hf
    exact ⟨hr, h1, hl⟩
  have hvsz : ∀ p ∈ vparts, p.2.cells.size = i.size := by
    intro p hp'
    obtain ⟨j, hj⟩ := List.getElem?_of_mem hp'
    simp only [vparts, List.getElem?_map] at hj
    cases hq : parts.toList[j]? with
    | none => simp [hq] at hj
    | some q =>
      simp [hq] at hj
      subst hj
      have hjl : j < ps.length := by rw [hpl]; exact (List.getElem?_eq_some_iff.1 hq).1
      obtain ⟨hr, h1, hl⟩ := hval j q _ hq (List.getElem?_eq_getElem hjl)
      have := hr.1
      simp at this
      simp; omega
  have hzcells : ∀ (zz : Array Value), ((Array.range (len * i.size)).map (zz[· % zz.size]!)).size = len * i.size := fun zz => by simp
  obtain ⟨zz, hzz⟩ : ∃ zz : Array Value, ((if len * i.size = 0 then pure #[] else do pure (← zeroValue e0).cells : Sem (Array Value)).run P E.w = .ok zz E.w) := by
    by_cases h0 : len * i.size = 0
    · exact ⟨#[], by simp [h0]⟩
    · exact ⟨zv.cells, by simp [h0, hzr]⟩
  obtain ⟨out, hout, hos, _, hon⟩ := fill_slice i.size len vparts 0 ((Array.range (len * i.size)).map (zz[· % zz.size]!)) (by
      simp only [vparts, List.map_map]
      rw [show ((fun x : Nat × Value => x.1) ∘ fun p : Nat × Operand => (p.1, a.eval p.2)) = fun p : Nat × Operand => p.1 from rfl, hrange, List.length_map, hlen, List.range_eq_range']) hvsz (hzcells zz) (by omega)
  have hosz : out.size = len * i.size := by rw [hos]; exact hzcells zz
  have hlaid : Laid E i.size (ps.map fun x => (x.ev tm).cells) out.toList := by
    intro k x j c hx hj
    simp only [List.getElem?_map] at hx
    cases hax : ps[k]? with
    | none => simp [hax] at hx
    | some ax =>
      simp [hax] at hx
      subst hx
      have hkl : k < parts.toList.length := by rw [← hpl]; exact (List.getElem?_eq_some_iff.1 hax).1
      have hq : parts.toList[k]? = some parts.toList[k] := List.getElem?_eq_getElem hkl
      obtain ⟨hr, h1, hl⟩ := hval k _ ax hq hax
      obtain ⟨u, hu', hru⟩ := hr.get hj
      refine ⟨u, ?_, hru⟩
      have := hon k (parts.toList[k].1, a.eval parts.toList[k].2) (by simp only [vparts, List.getElem?_map, hq]; rfl) j u (by simpa using hu')
      simpa using this
  have hmem : ∀ x ∈ ps.map (fun x => (x.ev tm).cells), x.length = i.size ∧ ∀ c ∈ x, c.one = true := by
    intro x hx
    obtain ⟨k, hk'⟩ := List.getElem?_of_mem hx
    simp only [List.getElem?_map] at hk'
    cases hax : ps[k]? with
    | none => simp [hax] at hk'
    | some ax =>
      simp [hax] at hk'
      subst hk'
      have hkl : k < parts.toList.length := by rw [← hpl]; exact (List.getElem?_eq_some_iff.1 hax).1
      obtain ⟨hr, h1, hl⟩ := hval k _ ax (List.getElem?_eq_getElem hkl) hax
      exact ⟨hl, h1⟩
  have huo : ∀ u ∈ out.toList, u.oneCell' = true := by
    intro u hu'
    obtain ⟨idx, hidx⟩ := List.getElem?_of_mem hu'
    have hil : idx < len * i.size := by rw [← hosz]; simpa using (List.getElem?_eq_some_iff.1 hidx).1
    have hd : idx / i.size < len := (Nat.div_lt_iff_lt_mul hpos).2 hil
    have hm : idx % i.size < i.size := Nat.mod_lt _ hpos
    have hpk : idx / i.size < ps.length := by omega
    have hx : (ps.map fun x => (x.ev tm).cells)[idx / i.size]? = some (ps[idx / i.size].ev tm).cells := by simp [List.getElem?_eq_getElem hpk]
    obtain ⟨hl, h1⟩ := hmem _ (List.mem_of_getElem? hx)
    have hj : (ps[idx / i.size].ev tm).cells[idx % i.size]? = some ((ps[idx / i.size].ev tm).cells[idx % i.size]'(by omega)) := List.getElem?_eq_getElem (by omega)
    obtain ⟨u', hu2, hr⟩ := hlaid _ _ _ _ hx hj
    rw [Nat.mul_comm, Nat.div_add_mod, hidx] at hu2
    cases hu2
    rw [hr.one]
    exact h1 _ (List.mem_of_getElem? hj)
  have hlenps : ps.length = len := by omega
  obtain ⟨E', s', x', hw, hh, hpr⟩ := new_row (e := e0) (κ0 := len) hs (w1 := E.w) ⟨rfl, rfl, rfl⟩ rfl (us := out.toList) (by simpa using hosz) (xs := ps.map fun x => (x.ev tm).cells) (by simp [hlenps]) (by
      have : len ≤ len * i.size := Nat.le_mul_of_pos_right _ hpos
      simp only [maxLen]; omega) hpos (fun x hx => (hmem x hx).1) (fun x hx => (hmem x hx).2) huo hlaid ps.length (by simp)
  have hn24 : ¬ (2 ^ 24 < len * i.size) := by omega
  have hrun : (execOp a.eval o).run P E.w = .ok (.value (.slice (some ⟨E.w.heap.size, 0, none⟩) ps.length len)) E'.w := by
    rw [hw]
    have hfill : Instr.fill (fun j => some (j * i.size, i.size)) ((Array.range (len * i.size)).map (zz[· % zz.size]!)) (parts.map fun (p : Nat × Operand) => (p.1, a.eval p.2)).toList = some out := by
      rw [Array.toList_map]; exact hout
    simp only [execOp, ho, Instr.buildSlice, Sem.run_bind, run_underlying hu, Result.andThen_ok, info_of hi, gt_iff_lt, if_neg hn24]
    have hzz' := hzz
    by_cases h0 : len * i.size = 0
    · simp only [h0, if_true, Sem.run_pure] at hzz'
      simp only [if_pos h0, Sem.run_pure, Result.andThen_ok, Sem.run_bind]
      cases hzz'
      rw [hfill]
      simp [newRow, hlenps]
    · simp only [if_neg h0, Sem.run_bind] at hzz'
      simp only [if_neg h0, Sem.run_pure, Result.andThen_ok, Sem.run_bind]
      rw [hzr] at hzz' ⊢
      simp at hzz'
      subst hzz'
      simp only [Result.andThen_ok, Sem.run_pure]
      rw [hfill]
      simp [newRow, hlenps]
  refine wp_value hrun (hk _ _ E' s' x' hpr ?_)
  rw [hh]
  exact h E.nx (hs.nx _ (Nat.le_refl _))

end Go.AM
