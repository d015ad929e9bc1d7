/- AM, 9: a struct built, structs compared; all that writes nothing. -/
import Derived.Test.YtcpkdbofohkipaaKAmSound6
set_option linter.unusedVariables false
set_option linter.unusedSimpArgs false
set_option linter.unusedSimpArgs false
set_option linter.unusedVariables false
namespace Go.AM
variable {P : Program} {N : Nat} {E : Env} {tm : Tm} {a : Act}

theorem run_mapM {α β : Type} (w : World) (f : α → Sem β) (g : α → Option β) (hfg : ∀ x y, g x = some y → (f x).run P w = .ok y w) : ∀ (l : List α) (r : List β), l.mapM g = some r → (l.mapM f).run P w = .ok r w := by
  intro l
  induction l with
  | nil => intro r h; simp at h; subst h; simp
  | cons x l ih =>
    intro r h
    rw [List.mapM_cons] at h
    cases hx : g x with
    | none => simp [hx] at h
    | some y =>
      cases hl : l.mapM g with
      | none => simp [hx, hl] at h
      | some ys =>
        simp [hx, hl] at h
        subst h
        rw [List.mapM_cons]
        simp [hfg x y hx, ih ys hl]

def buildStep (tm : Tm) (cs : Option (List AV)) (p : Nat × Nat × AX) : Option (List AV) := cs.bind fun cs =>
  if (p.2.2.ev tm).cells.length = p.2.1 ∧ (p.2.2.ev tm).flat = true then (if p.1 + p.2.1 ≤ cs.length then some (splice cs p.1 (p.2.2.ev tm).cells) else none) else none

theorem buildStep_none (tm : Tm) (ps : List (Nat × Nat × AX)) : ps.foldl (buildStep tm) none = none := by
  induction ps with
  | nil => rfl
  | cons p ps ih => rw [List.foldl_cons]; exact ih

theorem splice_rel {cs l : List AV} {us vs : List Value} (h : RelL E cs us) (k : RelL E l vs) (off : Nat) : RelL E (splice cs off l) (us.take off ++ vs ++ us.drop (off + vs.length)) := by
  unfold splice
  rw [k.1]
  exact ((h.take off).append k).append (h.drop _)

theorem splice_ones {cs l : List AV} (h : ∀ c ∈ cs, c.one = true) (k : ∀ c ∈ l, c.one = true) (off : Nat) : ∀ c ∈ splice cs off l, c.one = true := by
  intro c hc
  unfold splice at hc
  rcases List.mem_append.1 hc with hc | hc
  · rcases List.mem_append.1 hc with hc | hc
    · exact h c (List.mem_of_mem_take hc)
    · exact k c hc
  · exact h c (List.mem_of_mem_drop hc)

theorem splice_length {cs l : List AV} {off : Nat} (h : off + l.length ≤ cs.length) : (splice cs off l).length = cs.length := by
  unfold splice; simp; omega

theorem fill_rel (ht : TmRel E N tm a) (sz : List (Nat × Nat)) : ∀ (parts : List (Nat × Operand)) (ps : List (Nat × Nat × AX)) (cs r : List AV) (cells : Array Value),
    (parts.mapM fun (p : Nat × Operand) => (cOpd N p.2).bind fun x => (sz[p.1]?).map fun os => (os.1, os.2, x)) = some ps → RelL E cs cells.toList → (∀ c ∈ cs, c.one = true) → ps.foldl (buildStep tm) (some cs) = some r →
    ∃ out : Array Value, Instr.fill (fun i => sz[i]?) cells (parts.map fun p => (p.1, a.eval p.2)) = some out ∧ RelL E r out.toList ∧ (∀ c ∈ r, c.one = true) := by
  intro parts
  induction parts with
  | nil =>
    intro ps cs r cells hm hr h1 hf
    simp at hm
    subst hm
    simp at hf
    subst hf
    exact ⟨cells, rfl, hr, h1⟩
  | cons p parts ih =>
    intro ps cs r cells hm hr h1 hf
    rw [List.mapM_cons] at hm
    cases hx : cOpd N p.2 with
    | none => simp [hx] at hm
    | some x =>
      cases hz : sz[p.1]? with
      | none => simp [hx, hz] at hm
      | some os =>
        cases hl : (parts.mapM fun (p : Nat × Operand) => (cOpd N p.2).bind fun x => (sz[p.1]?).map fun os => (os.1, os.2, x)) with
        | none => simp only [hl] at hm; simp [hx, hz] at hm
        | some ps' =>
          simp only [hl] at hm
          simp [hx, hz] at hm
          subst hm
          rw [List.foldl_cons] at hf
          by_cases hc : (x.ev tm).cells.length = os.2 ∧ (x.ev tm).flat = true
          · by_cases hb : os.1 + os.2 ≤ cs.length
            · have hstep : buildStep tm (some cs) (os.1, os.2, x) = some (splice cs os.1 (x.ev tm).cells) := by simp [buildStep, hc, hb]
              rw [hstep] at hf
              obtain ⟨hcr, hc1⟩ := cells_rel (opd hx ht) hc.2
              have hsz : (a.eval p.2).cells.size = os.2 := by have := hcr.1; simp only [Array.length_toList] at this; omega
              have hcl : cells.size = cs.length := by have := hr.1; simpa using this
              have hfold := fold_set (a.eval p.2).cells.toList os.1 cells (by simp [hsz]; omega)
              simp only [Array.toArray_toList] at hfold
              obtain ⟨out, ho, hor, ho1⟩ := ih ps' (splice cs os.1 (x.ev tm).cells) r _ hl (by rw [hfold]; exact splice_rel hr hcr os.1) (splice_ones h1 hc1 _) hf
              refine ⟨out, ?_, hor, ho1⟩
              simp only [List.map_cons, Instr.fill, hz]
              rw [if_neg (by simp [hsz]; omega)]
              exact ho
            · have : buildStep tm (some cs) (os.1, os.2, x) = none := by simp [buildStep, hb]
              rw [this, buildStep_none] at hf
              cases hf
          · have : buildStep tm (some cs) (os.1, os.2, x) = none := by simp only [buildStep, Option.bind_some]; rw [if_neg hc]
            rw [this, buildStep_none] at hf
            cases hf

theorem yields_build {o : Oper} {t : TypeId} {parts : Array (Nat × Operand)} (ho : o.op = .build t parts) {fs : Array Field} (hu : P.underlying t = some (.struct fs)) {sz : List (Nat × Nat)} (hsz : fieldSizes P fs.toList = some sz) {zs : List AV} (hz : zeroOf P t = some (.agg zs))
    {ps : List (Nat × Nat × AX)} (hps : (parts.toList.mapM fun (p : Nat × Operand) => (cOpd N p.2).bind fun x => (sz[p.1]?).map fun os => (os.1, os.2, x)) = some ps) (ht : TmRel E N tm a) {r : AV}
    (h : apure (.build zs ps) tm E.h = some r) : Yields P E a o r := by
  simp only [apure] at h
  change (ps.foldl (buildStep tm) (some zs)).map AV.agg = some r at h
  cases hf : ps.foldl (buildStep tm) (some zs) with
  | none => simp [hf] at h
  | some cs =>
    simp [hf] at h
    subst h
    obtain ⟨zv, hzr, hzrel⟩ := zeroOf_rel (P := P) E hz E.w
    obtain ⟨us, rfl, hl, h1, hr⟩ := hzrel.agg_inv
    obtain ⟨out, ho', hor, ho1⟩ := fill_rel (a := a) ht sz parts.toList ps zs cs us.toArray hps (by simpa using hr) h1 hf
    refine ⟨.agg out, ?_, by have := Rel.agg (E := E) cs out.toList hor.1 ho1 hor.2; simpa using this⟩
    have hmap : (fs.mapM (m := Sem) fun f => do pure (f.offset, ← sizeOf f.type)).run P E.w = .ok sz.toArray E.w := by
      rw [Array.mapM_eq_mapM_toList]
      simp only [Sem.run_map]
      rw [run_mapM (P := P) E.w _ (fun f : Field => (P.info? f.type).map fun (i : TypeInfo) => (f.offset, i.size)) (fun f y hy => by
        cases hi : P.info? f.type with
        | none => simp [hi] at hy
        | some i => simp [hi] at hy; subst hy; simp [info_of hi]) fs.toList sz (by unfold fieldSizes at hsz; exact hsz)]
      rfl
    have hfill : Instr.fill (fun x => sz.toArray[x]?) us.toArray (parts.map fun (p : Nat × Operand) => (p.1, a.eval p.2)).toList = some out := by
      rw [Array.toList_map]
      simpa using ho'
    simp only [execOp, ho, Instr.build, Sem.run_bind, hzr, Result.andThen_ok, run_underlying hu, hmap, Value.cells]
    rw [hfill]
    simp

/-! ### Structs compared -/

theorem isAgg_basic {t : TypeId} {d : TypeDesc} (hu : P.underlying t = some d) (hd : d.isRow = false) (w : World) : (isAgg t).run P w = .ok false w := by
  unfold isAgg
  rw [Sem.run_bind, run_underlying hu]
  cases d <;> first | rfl | (simp [TypeDesc.isRow] at hd)

theorem eqFields_rel (w : World) {d : Nat} : ∀ (fs : List Field) (i : Nat) (ds : List EqK) (xs ys : List AV) (us vs : List Value), RelL E xs us → RelL E ys vs → eqKinds P fs i = some ds → ∀ b, eqs ds (xs.drop i) (ys.drop i) = some b →
    (Op.eqFields (d + 1) us.toArray vs.toArray fs).run P w = .ok b w := by
  intro fs
  induction fs with
  | nil => intro i ds xs ys us vs hx hy hk b hb; simp [eqKinds] at hk; subst hk; simp [eqs] at hb; subst hb; simp [Op.eqFields]
  | cons f fs ih =>
    intro i ds xs ys us vs hx hy hk b hb
    simp only [eqKinds] at hk
    split at hk
    · rename_i hcond
      obtain ⟨hoff, hname⟩ := hcond
      have main : ∀ (k : EqK) (dd : TypeDesc), P.underlying f.type = some dd → dd.isRow = false → (∀ x y u v b, eq1 k x y = some b → Rel E x u → Rel E y v → (Op.equalIn (d + 1) f.type u v).run P w = .ok b w) →
          (eqKinds P fs (i + 1)).map (k :: ·) = some ds → (Op.eqFields (d + 1) us.toArray vs.toArray (f :: fs)).run P w = .ok b w := by
        intro k dd hu hrow heq hmap
        cases hrest : eqKinds P fs (i + 1) with
        | none => simp [hrest] at hmap
        | some ds' =>
          simp [hrest] at hmap
          subst hmap
          cases hxd : xs.drop i with
          | nil => rw [hxd] at hb; simp [eqs] at hb
          | cons x xs' =>
            cases hyd : ys.drop i with
            | nil => rw [hxd, hyd] at hb; simp [eqs] at hb
            | cons y ys' =>
              rw [hxd, hyd] at hb
              have hxi : xs[i]? = some x := by have := List.getElem?_drop (xs := xs) (i := i) (j := 0); rw [hxd] at this; simpa using this.symm
              have hyi : ys[i]? = some y := by have := List.getElem?_drop (xs := ys) (i := i) (j := 0); rw [hyd] at this; simpa using this.symm
              have hx' : xs.drop (i + 1) = xs' := by rw [← List.drop_drop, hxd]; rfl
              have hy' : ys.drop (i + 1) = ys' := by rw [← List.drop_drop, hyd]; rfl
              obtain ⟨u, hu', hru⟩ := hx.get hxi
              obtain ⟨v, hv', hrv⟩ := hy.get hyi
              have hp1 : (part f.type us.toArray f.offset).run P w = .ok u w := by simp [part, isAgg_basic (P := P) hu hrow, hoff, hu']
              have hp2 : (part f.type vs.toArray f.offset).run P w = .ok v w := by simp [part, isAgg_basic (P := P) hu hrow, hoff, hv']
              simp only [eqs] at hb
              cases he : eq1 k x y with
              | none => rw [he] at hb; cases hb
              | some b1 =>
                rw [he] at hb
                have hq := heq x y u v b1 he hru hrv
                simp only [Op.eqFields, if_pos hname, Sem.run_bind, hp1, hp2, hq, Result.andThen_ok]
                cases b1
                · simp at hb; subst hb; simp
                · simp at hb
                  have := ih (i + 1) ds' xs ys us vs hx hy hrest b (by rw [hx', hy']; exact hb)
                  simp [this]
      cases hu : P.underlying f.type with
      | none => simp [hu] at hk
      | some dd =>
        cases dd <;> simp [hu] at hk
        · -- bool
          refine main .bool _ hu rfl (fun x y u v b he hx hy => ?_) (by simpa using hk)
          cases x <;> cases y <;> simp [eq1] at he
          subst he
          rw [hx.bool_inv, hy.bool_inv]
          exact run_equalIn_bool' (P := P) w d _ _ _ hu
        · -- int
          refine main .int _ hu rfl (fun x y u v b he hx hy => ?_) (by simpa using hk)
          cases x <;> cases y <;> simp [eq1] at he
          obtain ⟨hk, he⟩ := he
          subst he; subst hk
          rw [hx.int_inv, hy.int_inv]
          exact run_equalIn_int (P := P) w d _ _ _ _ _ hu
        · -- complex
          refine main .cplx _ hu rfl (fun x y u v b he hx hy => ?_) (by simpa using hk)
          cases x <;> cases y <;> simp [eq1] at he
          subst he
          rw [hx.cplx_inv, hy.cplx_inv]
          simp [Op.equalIn, run_underlying hu, cplxEq]
        · -- string
          refine main .str _ hu rfl (fun x y u v b he hx hy => ?_) (by simpa using hk)
          cases x <;> cases y <;> simp [eq1] at he
          subst he
          rw [hx.str_inv, hy.str_inv, run_equalIn_string (P := P) w d _ _ _ hu, toList_mk, toList_mk]
    · cases hk

theorem yields_eqa {o : Oper} {op : BinOp} {t t' : TypeId} {x y : Operand} (ho : o.op = .binOp op t x y t') {fs : Array Field} (hu : P.underlying t = some (.struct fs)) (hg : P.eqGuardType P.depth t = false) (hst : P.stoodInHeld t = false) {n : Bool} (hn : cNeg op = some n) {ds : List EqK} (hds : eqKinds P fs.toList 0 = some ds)
    {ax ay : AX} (hx : cOpd N x = some ax) (hy : cOpd N y = some ay) (ht : TmRel E N tm a) {r : AV} (h : apure (.eqa n ds ax ay) tm E.h = some r) : Yields P E a o r := by
  have hvx := opd hx ht
  have hvy := opd hy ht
  simp only [apure] at h
  generalize ax.ev tm = u at *
  generalize ay.ev tm = v at *
  split at h
  · rename_i xs ys
    obtain ⟨us, e1, hl1, h1, hr1⟩ := hvx.agg_inv
    obtain ⟨vs, e2, hl2, h2, hr2⟩ := hvy.agg_inv
    cases hb : eqs ds xs ys with
    | none => simp [hb] at h
    | some b =>
      simp [hb] at h
      subst h
      have hfo : P.fieldsOf t = fs := by simp [Program.fieldsOf, hu]
      have hrun : (Op.equalIn 10000 t (.agg us.toArray) (.agg vs.toArray)).run P E.w = .ok b E.w := by
        rw [run_equalIn_struct (P := P) E.w 9999 t _ _ (by rw [hfo]; exact hu) hst, hfo]
        exact eqFields_rel (P := P) (E := E) E.w (d := 9998) fs.toList 0 ds xs ys us vs hr1 hr2 hds b (by simpa using hb)
      rcases cNeg_cases hn with ⟨rfl, rfl⟩ | ⟨rfl, rfl⟩
      · exact ⟨.bool b, by simp only [execOp, ho, e1, e2, Sem.run_bind, run_eqGuard_agg (P := P) E.w _ t x y _ _ hg, Result.andThen_ok, run_eql_struct, hrun, Sem.run_pure], by rw [xor_false]; exact .bool _⟩
      · exact ⟨.bool (!b), by simp only [execOp, ho, e1, e2, Sem.run_bind, run_eqGuard_agg (P := P) E.w _ t x y _ _ hg, Result.andThen_ok, run_neq_struct, hrun, Sem.run_pure], by rw [xor_true]; exact .bool _⟩
  · cases h

end Go.AM
