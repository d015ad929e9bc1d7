/- AM, 3: operations that write nothing answer what 'apure' says. -/
import Derived.Test.YtcpkdbofohkipaaKAmStep
import Derived.Deep.MidRow
import Derived.Laws.StructEq
import Derived.Laws.Slices
import Derived.Laws.BytesArg
set_option linter.unusedVariables false
set_option linter.unusedSimpArgs false
set_option linter.unusedSimpArgs false
set_option linter.unusedVariables false
namespace Go.AM
variable {P : Program} {N : Nat} {E : Env} {tm : Tm} {a : Act}

theorem ofCell_rel (E : Env) {v : Value} {r : AV} (h : ofCell v = some r) : Rel E r v ∧ r.one = true := by
  unfold ofCell at h
  split at h <;> first
    | (simp only [Option.some.injEq] at h; subst h; first
        | exact ⟨.int _ _, rfl⟩ | exact ⟨.bool _, rfl⟩ | exact ⟨.cplx _ _, rfl⟩ | exact ⟨.flt _, rfl⟩ | exact ⟨.nilp, rfl⟩ | exact ⟨.nilm, rfl⟩ | exact ⟨.nilf, rfl⟩ | exact ⟨.nili, rfl⟩ | exact ⟨.nl _, rfl⟩
        | exact ⟨Rel.str _, rfl⟩)
    | cases h

theorem mapM_some {α β : Type} (f : α → Option β) : ∀ (l : List α) (r : List β), l.mapM f = some r → r.length = l.length ∧ ∀ (j : Nat) (x : α) (y : β), l[j]? = some x → r[j]? = some y → f x = some y := by
  intro l
  induction l with
  | nil => intro r h; simp at h; subst h; simp
  | cons x l ih =>
    intro r h
    rw [List.mapM_cons] at h
    cases hx : f x with
    | none => simp [hx] at h
    | some y =>
      cases hl : l.mapM f with
      | none => simp [hx, hl] at h
      | some ys =>
        simp [hx, hl] at h
        subst h
        obtain ⟨h1, h2⟩ := ih ys hl
        refine ⟨by simp [h1], fun j x' y' hj hj' => ?_⟩
        cases j with
        | zero => simp at hj hj'; subst hj; subst hj'; exact hx
        | succ j => simp at hj hj'; exact h2 j x' y' hj hj'

theorem ofConst_rel (E : Env) {v : Value} {r : AV} (h : ofConst v = some r) : Rel E r v := by
  unfold ofConst at h
  split at h
  · rename_i cs
    cases hm : cs.toList.mapM ofCell with
    | none => simp [hm] at h
    | some l =>
      simp [hm] at h
      subst h
      obtain ⟨h1, h2⟩ := mapM_some _ _ _ hm
      have : Rel E (.agg l) (.agg cs.toList.toArray) := .agg l cs.toList (by simp [h1]) (fun c hc => by
        obtain ⟨j, hj⟩ := List.getElem?_of_mem hc
        have hjl : j < cs.toList.length := by rw [← h1]; exact (List.getElem?_eq_some_iff.1 hj).1
        exact (ofCell_rel E (h2 j _ _ (List.getElem?_eq_getElem hjl) hj)).2) (fun j c u hc hu => (ofCell_rel E (h2 j u c hu hc)).1)
      simpa using this
  · exact (ofCell_rel E h).1

theorem opd {x : Operand} {ax : AX} (h : cOpd N x = some ax) (ht : TmRel E N tm a) : Rel E (ax.ev tm) (a.eval x) := by
  unfold cOpd at h
  split at h
  · split at h
    · simp at h; subst h; exact ht.rel _ ‹_›
    · cases h
  · rename_i v
    cases hv : ofConst v with
    | none => simp [hv] at h
    | some r => simp [hv] at h; subst h; exact ofConst_rel E hv
  · simp at h; subst h
    exact Rel.fn _ [] [] rfl (by simp)
  · cases h

theorem opds {xs : Array Operand} {as : List AX} (h : cOpds N xs = some as) (ht : TmRel E N tm a) : RelL E (as.map (·.ev tm)) (xs.map a.eval).toList := by
  obtain ⟨h1, h2⟩ := mapM_some _ _ _ h
  refine ⟨by simp [h1], fun j c u hc hu => ?_⟩
  simp only [List.getElem?_map, Array.toList_map] at hc hu
  cases hx : xs.toList[j]? with
  | none => simp [hx] at hu
  | some x =>
    cases hy : as[j]? with
    | none => simp [hy] at hc
    | some y =>
      simp [hy] at hc
      have hu' : a.eval x = u := by simpa [hx] using hu
      subst hc; subst hu'
      exact opd (h2 j x y hx hy) ht

/-! ### Inversions -/
theorem Rel.int_inv {k : IntKind} {n : Int} {v : Value} (h : Rel E (.int k n) v) : v = .int k n := by cases h; rfl
theorem Rel.bool_inv {b : Bool} {v : Value} (h : Rel E (.bool b) v) : v = .bool b := by cases h; rfl
theorem Rel.str_inv {s : List UInt8} {v : Value} (h : Rel E (.str s) v) : v = .string ⟨s.toArray⟩ := by cases h; rfl
theorem Rel.cplx_inv {x y : Nat} {v : Value} (h : Rel E (.cplx x y) v) : v = .complex .f64 x y := by cases h; rfl
theorem Rel.flt_inv {x : Nat} {v : Value} (h : Rel E (.flt x) v) : v = .float .f64 x := by cases h; rfl
theorem Rel.nilp_inv {v : Value} (h : Rel E .nilp v) : v = .pointer none := by cases h; rfl
theorem Rel.nilm_inv {v : Value} (h : Rel E .nilm v) : v = .map none := by cases h; rfl
theorem Rel.nl_inv {v : Value} (h : Rel E .nl v) : ∃ b, v = .slice b 0 0 := by cases h; exact ⟨_, rfl⟩
theorem Rel.agg_inv {cs : List AV} {v : Value} (h : Rel E (.agg cs) v) : ∃ us : List Value, v = .agg us.toArray ∧ us.length = cs.length ∧ (∀ c ∈ cs, c.one = true) ∧ RelL E cs us := by
  cases h with
  | agg _ us hl h1 hr => exact ⟨us, rfl, hl, h1, hl, hr⟩
theorem Rel.tup_inv {cs : List AV} {v : Value} (h : Rel E (.tup cs) v) : ∃ us : List Value, v = .tuple us.toArray ∧ RelL E cs us := by
  cases h with
  | tup _ us hl hr => exact ⟨us, rfl, hl, hr⟩
theorem Rel.fn_inv {f : FuncId} {cs : List AV} {v : Value} (h : Rel E (.fn f cs) v) : ∃ us : List Value, v = .func (.func f) #[] us.toArray ∧ RelL E cs us := by
  cases h with
  | fn _ _ us hl hr => exact ⟨us, rfl, hl, hr⟩

/-- A value's cells. -/
theorem cells_rel {r : AV} {v : Value} (h : Rel E r v) (hf : r.flat = true) : RelL E r.cells v.cells.toList ∧ (∀ c ∈ r.cells, c.one = true) := by
  by_cases ha : ∃ cs, r = .agg cs
  · obtain ⟨cs, rfl⟩ := ha
    obtain ⟨us, rfl, hl, h1, hr⟩ := h.agg_inv
    exact ⟨by simpa [AV.cells, Value.cells] using hr, h1⟩
  · have hrc : r.cells = [r] := by cases r <;> first | rfl | exact absurd ⟨_, rfl⟩ ha
    have hone : r.one = true := by cases r <;> first | rfl | exact absurd ⟨_, rfl⟩ ha | (simp [AV.flat] at hf)
    have hvc : v.cells = #[v] := by
      have := h.one
      rw [hone] at this
      cases v <;> first | rfl | (simp [Value.oneCell'] at this)
    rw [hrc, hvc]
    refine ⟨⟨rfl, fun j c u hc hu => ?_⟩, by simp [hone]⟩
    cases j with
    | zero => simp at hc hu; subst hc; subst hu; exact h
    | succ j => simp at hc

theorem RelL.nil (E : Env) : RelL E [] [] := ⟨rfl, by simp⟩

theorem RelL.drop {cs : List AV} {us : List Value} (h : RelL E cs us) (n : Nat) : RelL E (cs.drop n) (us.drop n) :=
  ⟨by simp [h.1], fun j c u hc hu => h.2 (n + j) c u (by simpa [List.getElem?_drop] using hc) (by simpa [List.getElem?_drop] using hu)⟩

theorem RelL.take {cs : List AV} {us : List Value} (h : RelL E cs us) (n : Nat) : RelL E (cs.take n) (us.take n) :=
  ⟨by simp [h.1], fun j c u hc hu => by
    rw [List.getElem?_take] at hc hu
    split at hc
    · rw [if_pos ‹_›] at hu; exact h.2 j c u hc hu
    · cases hc⟩

theorem RelL.append {cs ds : List AV} {us vs : List Value} (h : RelL E cs us) (k : RelL E ds vs) : RelL E (cs ++ ds) (us ++ vs) :=
  ⟨by simp [h.1, k.1], fun j c u hc hu => by
    rw [List.getElem?_append] at hc hu
    rw [h.1] at hu
    split at hc
    · rw [if_pos ‹_›] at hu; exact h.2 j c u hc hu
    · rw [if_neg ‹_›] at hu; exact k.2 _ c u hc hu⟩

theorem RelL.get {cs : List AV} {us : List Value} (h : RelL E cs us) {j : Nat} {c : AV} (hc : cs[j]? = some c) : ∃ u, us[j]? = some u ∧ Rel E c u := by
  have hj : j < us.length := by rw [h.1]; exact (List.getElem?_eq_some_iff.1 hc).1
  exact ⟨us[j], List.getElem?_eq_getElem hj, h.2 j c _ hc (List.getElem?_eq_getElem hj)⟩

/-! ### Reading cells -/

theorem cell_row {w : World} {g j : Nat} {us : List Value} {e : TypeId} {fr : Nat × Nat} (h : w.heap[g]? = some (.cells us.toArray e fr)) : w.cell? ⟨g, j, none⟩ = us[j]? := by
  rw [cell_of_row w g j _ e fr h]; simp

/-- What a pointer's cells hold: so many from here on, with what they are. -/
theorem ptr_cells (hs : Sim E) {id off : Nat} {cs : List AV} {v : Value} (h : Rel E (.ptr id off) v) (hh : E.h id = .cells cs) :
    ∃ us : List Value, v = .pointer (some ⟨E.ι id, off, none⟩) ∧ RelL E cs us ∧ (∀ c ∈ cs, c.one = true) ∧ ∀ j, E.w.cell? ⟨E.ι id, j, none⟩ = us[j]? := by
  have ho := hs.obj id
  unfold ObjRel at ho
  rw [hh] at ho
  obtain ⟨us, e, hl, hb, h1, hr⟩ := ho
  cases h with
  | ptr _ _ a hn h => exact ⟨us, by rw [h cs hh], ⟨hl, hr⟩, h1, fun j => cell_row hb⟩

theorem arr_row (hs : Sim E) {id : Nat} {e sz : Nat} {xs : List (List AV)} (hh : E.h id = .arr e sz xs) :
    ∃ us : List Value, E.w.heap[E.ι id]? = some (.cells us.toArray e (0, 0)) ∧ us.length = E.κ id * sz ∧ xs.length ≤ E.κ id ∧ E.κ id ≤ maxLen ∧ 0 < sz ∧ (∀ x ∈ xs, x.length = sz) ∧ (∀ x ∈ xs, ∀ c ∈ x, c.one = true) ∧
      (∀ u ∈ us, u.oneCell' = true) ∧ ∀ (i : Nat) (x : List AV) (j : Nat) (c : AV), xs[i]? = some x → x[j]? = some c → ∃ u, us[i * sz + j]? = some u ∧ Rel E c u := by
  have ho := hs.obj id
  unfold ObjRel at ho
  rw [hh] at ho
  exact ho

/-- An element's cells. -/
theorem pe_cells (hs : Sim E) {id i off : Nat} {e sz : Nat} {xs : List (List AV)} {x : List AV} {v : Value} (h : Rel E (.pe id i off) v) (hh : E.h id = .arr e sz xs) (hx : xs[i]? = some x) :
    ∃ us : List Value, v = .pointer (some ⟨E.ι id, i * sz + off, none⟩) ∧ RelL E x us ∧ x.length = sz ∧ (∀ c ∈ x, c.one = true) ∧ ∀ j, j < sz → E.w.cell? ⟨E.ι id, i * sz + j, none⟩ = us[j]? := by
  obtain ⟨us, hb, hl, hxl, hk, hsz, hlen, hone, ho, hr⟩ := arr_row hs hh
  have hxm : x ∈ xs := List.mem_of_getElem? hx
  have hxs := hlen x hxm
  have hil : i < xs.length := (List.getElem?_eq_some_iff.1 hx).1
  have hle : (i + 1) * sz ≤ us.length := by rw [hl]; exact Nat.mul_le_mul_right _ (by omega)
  have hle' : i * sz + sz ≤ us.length := by rw [Nat.add_mul] at hle; omega
  cases h with
  | pe _ _ _ a hn h =>
    refine ⟨(us.drop (i * sz)).take sz, by rw [h e sz xs hh], ⟨by simp; omega, fun j c u hc hu => ?_⟩, hxs, hone x hxm, fun j hj => ?_⟩
    · obtain ⟨u', hu', hr'⟩ := hr i x j c hx hc
      have hj : j < sz := by rw [← hxs]; exact (List.getElem?_eq_some_iff.1 hc).1
      rw [List.getElem?_take, if_pos hj, List.getElem?_drop, hu'] at hu
      cases hu
      exact hr'
    · rw [cell_row hb, List.getElem?_take, if_pos hj, List.getElem?_drop]

end Go.AM
