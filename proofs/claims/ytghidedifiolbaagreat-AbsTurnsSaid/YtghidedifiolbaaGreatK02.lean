/- AM, 8: a map's look, a struct built, structs compared. -/
import Derived.Test.YtghidedifiolbaaGreatK01
import Derived.Laws.MakeOwn
import Derived.Laws.OwnMore
import Derived.Deep.AppendSrc
import Derived.Lib.ConvBytes
set_option linter.unusedVariables false
set_option linter.unusedSimpArgs false
namespace Go.AM
variable {P : Program} {N : Nat} {E : Env} {tm : Tm} {a : Act}

/-! ### Maps -/

def keyDesc (ki : Bool) (d : TypeDesc) : Prop := if ki then ∃ k, d = .int k else d = .string

theorem sameNow_rel {ki : Bool} {d : TypeDesc} (hd : keyDesc ki d) {x y : AV} {u v : Value} (hx : Rel E x u) (hy : Rel E y v) {b : Bool} (h : keyEq ki x y = some b) : Instr.sameNow d u v = some b := by
  unfold keyEq at h
  split at h
  · split at h
    · rename_i hk
      cases h
      obtain ⟨k, rfl⟩ : ∃ k, d = .int k := by simpa [keyDesc] using hd
      rw [hx.int_inv, hy.int_inv]
      simp [Instr.sameNow, hk]
    · cases h
  · cases h
    have : d = .string := by simpa [keyDesc] using hd
    subst this
    rw [hx.str_inv, hy.str_inv]
    simp only [Instr.sameNow, Option.some.injEq]
    rw [beq_toListBytes, toList_mk, toList_mk]
  · cases h

/-- A map's entries. -/
def EntsRel (E : Env) (es : List (AV × AV)) (ents : List MapEntry) : Prop :=
  ents.length = es.length ∧ ∀ (i : Nat) (kv : AV × AV) (en : MapEntry), es[i]? = some kv → ents[i]? = some en → Rel E kv.1 en.key ∧ Rel E kv.2 en.val

theorem EntsRel.cons {kv : AV × AV} {es : List (AV × AV)} {ents : List MapEntry} (h : EntsRel E (kv :: es) ents) : ∃ en ents', ents = en :: ents' ∧ Rel E kv.1 en.key ∧ Rel E kv.2 en.val ∧ EntsRel E es ents' := by
  cases ents with
  | nil => simp [EntsRel] at h
  | cons en ents' =>
    obtain ⟨h1, h2⟩ := h
    obtain ⟨r1, r2⟩ := h2 0 kv en rfl rfl
    exact ⟨en, ents', rfl, r1, r2, by simpa using h1, fun i kv' en' hk he => h2 (i + 1) kv' en' (by simpa using hk) (by simpa using he)⟩

theorem findNow_rel {ki : Bool} {d : TypeDesc} (hd : keyDesc ki d) {x : AV} {u : Value} (hx : Rel E x u) : ∀ (es : List (AV × AV)) (ents : List MapEntry) (n : Nat) (r : Option AV), EntsRel E es ents → findK ki x es = some r →
    (r = none ∧ Instr.findNow d u ents n = some none) ∨ (∃ q i v, r = some q ∧ Instr.findNow d u ents n = some (some (n + i, v)) ∧ Rel E q v ∧ i < ents.length) := by
  intro es
  induction es with
  | nil =>
    intro ents n r he h
    have : ents = [] := by have := he.1; simpa using this
    subst this
    simp [findK] at h
    exact .inl ⟨h.symm, rfl⟩
  | cons kv es ih =>
    intro ents n r he h
    obtain ⟨en, ents', rfl, r1, r2, he'⟩ := he.cons
    simp only [findK] at h
    split at h
    · rename_i hk
      cases h
      refine .inr ⟨_, 0, en.val, rfl, ?_, r2, by simp⟩
      simp [Instr.findNow, sameNow_rel hd hx r1 hk]
    · rename_i hk
      rcases ih ents' (n + 1) r he' h with ⟨h1, h2⟩ | ⟨q, i, v, h1, h2, h3, h4⟩
      · exact .inl ⟨h1, by simp [Instr.findNow, sameNow_rel hd hx r1 hk, h2]⟩
      · refine .inr ⟨q, i + 1, v, h1, ?_, h3, by simpa using h4⟩
        simp only [Instr.findNow, sameNow_rel hd hx r1 hk, h2]
        congr 3
        omega
    · cases h

theorem run_checkKey (w : World) {ki : Bool} {kt : TypeId} {d : TypeDesc} (hu : P.underlying kt = some d) (hd : keyDesc ki d) (b : Bool) (v : Value) : (Instr.checkKey b 10000 kt v).run P w = .ok () w := by
  have key : ∀ n, (Instr.checkKey b (n + 1) kt v).run P w = .ok () w := by
    intro n
    cases ki with
    | false =>
      have : d = .string := by simpa [keyDesc] using hd
      subst this
      simp [Instr.checkKey, run_underlying hu]
    | true =>
      obtain ⟨k, rfl⟩ : ∃ k, d = .int k := by simpa [keyDesc] using hd
      simp [Instr.checkKey, run_underlying hu]
  exact key 9999

theorem zeroOf_rel (E : Env) {t : TypeId} {z : AV} (h : zeroOf P t = some z) (w : World) : ∃ v, (zeroValue t).run P w = .ok v w ∧ Rel E z v := by
  unfold zeroOf at h
  cases hi : P.info? t with
  | none => simp [hi] at h
  | some i =>
    cases hz : i.zero with
    | none => simp [hi, hz] at h
    | some v =>
      simp [hi, hz] at h
      exact ⟨v, by simp [zeroValue, typeInfo, hi, hz], ofConst_rel E h⟩

theorem map_ents (hs : Sim E) {id : Nat} {es : List (AV × AV)} {v : Value} (h : Rel E (.mp id) v) (hh : E.h id = .map es) :
    ∃ (ents : Array MapEntry) (clk : Nat), v = .map (some (E.ι id)) ∧ E.w.heap[E.ι id]? = some (.map ents clk) ∧ EntsRel E es ents.toList := by
  have ob := hs.obj id
  unfold ObjRel at ob
  rw [hh] at ob
  obtain ⟨ents, clk, hb, hsz, hr⟩ := ob
  cases h with
  | mp _ r hn hp => exact ⟨ents, clk, by rw [hp es hh], hb, by simpa using hsz, fun i kv en hk he => hr i kv en hk (by simpa using he)⟩

theorem yields_look (hs : Sim E) {o : Oper} {t kt et : TypeId} {m k : Operand} {ok : Bool} (ho : o.op = .lookup t m k ok) (hu : P.underlying t = some (.map kt et)) {d : TypeDesc} (hk : P.underlying kt = some d) {ki : Bool} (hd : keyDesc ki d) {z : AV} (hz : zeroOf P et = some z)
    {am ak : AX} (hm : cOpd N m = some am) (hkk : cOpd N k = some ak) (ht : TmRel E N tm a) {r : AV} (h : apure (.look ki z ok am ak) tm E.h = some r) : Yields P E a o r := by
  have hvm := opd hm ht
  have hvk := opd hkk ht
  simp only [apure] at h
  generalize am.ev tm = u at *
  generalize ak.ev tm = q at *
  obtain ⟨zv, hzr, hzrel⟩ := zeroOf_rel (P := P) E hz E.w
  have fin : ∀ (es : List (AV × AV)) (ents : Array MapEntry), EntsRel E es ents.toList → (a.eval m = .map none ∧ ents = #[] ∨ ∃ g clk, a.eval m = .map (some g) ∧ E.w.heap[g]? = some (.map ents clk)) →
      ∀ rr, findK ki q es = some rr → r = (if ok then .tup [rr.getD z, .bool rr.isSome] else rr.getD z) → Yields P E a o r := by
    intro es ents he hmm rr hf hr
    have hfk : ∃ v b, (Instr.findKey kt (a.eval k) ents.toList).run P E.w = .ok b E.w ∧ rr.isSome = b.isSome ∧ Rel E (rr.getD z) v ∧ (b = none → v = zv) ∧ (∀ i x, b = some (i, x) → v = x) := by
      rcases findNow_rel hd hvk es ents.toList 0 rr he hf with ⟨h1, h2⟩ | ⟨q', i, v, h1, h2, h3, _⟩
      · subst h1
        exact ⟨zv, none, by simp [Instr.findKey, run_underlying hk, h2], rfl, hzrel, (fun _ => rfl), (fun _ _ h => by cases h)⟩
      · subst h1
        exact ⟨v, some (0 + i, v), by simp [Instr.findKey, run_underlying hk, h2], rfl, h3, (fun h => by cases h), (fun i x h => by simp at h; exact h.2)⟩
    obtain ⟨v, b, hfr, hb1, hb2, hb3, hb4⟩ := hfk
    have hres : Rel E r (if ok then .tuple #[v, .bool b.isSome] else v) := by
      subst hr
      cases ok
      · simpa using hb2
      · have : Rel E (.tup [rr.getD z, .bool rr.isSome]) (.tuple [v, .bool b.isSome].toArray) := by
          refine .tup _ [v, .bool b.isSome] rfl fun j c u hc hu => ?_
          match j with
          | 0 => simp at hc hu; subst hc; subst hu; exact hb2
          | 1 => simp at hc hu; subst hc; subst hu; rw [hb1]; exact .bool _
          | j + 2 => simp at hc
        simpa using this
    refine ⟨_, ?_, hres⟩
    rcases hmm with ⟨h1, h2⟩ | ⟨g, clk, h1, h2⟩
    · subst h2
      cases b with
      | none =>
        have := hb3 rfl
        subst this
        cases ok <;> simp_all [execOp, ho, Instr.lookup, run_underlying hu, run_checkKey (P := P) E.w hk hd, hfr, hzr]
      | some x =>
        obtain ⟨i, x⟩ := x
        have := hb4 i x rfl
        subst this
        cases ok <;> simp_all [execOp, ho, Instr.lookup, run_underlying hu, run_checkKey (P := P) E.w hk hd, hfr, hzr]
    · have hg : (getObj g).run P E.w = .ok (.map ents clk) E.w := by simp [getObj, Sem.run, h2]
      cases b with
      | none =>
        have := hb3 rfl
        subst this
        cases ok <;> simp [execOp, ho, h1, hg, Instr.lookup, run_underlying hu, run_checkKey (P := P) E.w hk hd, hfr, hzr]
      | some x =>
        obtain ⟨i, x⟩ := x
        have := hb4 i x rfl
        subst this
        cases ok <;> simp [execOp, ho, h1, hg, Instr.lookup, run_underlying hu, run_checkKey (P := P) E.w hk hd, hfr, hzr]
  split at h
  · cases h
  · rename_i es hes
    split at h
    · cases h
    · rename_i rr hf
      split at hes
      · cases hes
        exact fin [] #[] ⟨rfl, by simp⟩ (.inl ⟨hvm.nilm_inv, rfl⟩) rr hf (by simpa using h.symm)
      · split at hes
        · rename_i id _ es' hh
          cases hes
          obtain ⟨ents, clk, e1, hb, he⟩ := map_ents hs hvm hh
          exact fin _ ents he (.inr ⟨_, clk, e1, hb⟩) rr hf (by simpa using h.symm)
        · cases hes
      · cases hes

/-! ### A struct built -/

theorem fold_set (l : List Value) : ∀ (off : Nat) (cs : Array Value), off + l.length ≤ cs.size →
    ((l.toArray.zipIdx.foldl (fun (cs : Array Value) (p : Value × Nat) => cs.setIfInBounds (off + p.2) p.1) cs).toList = cs.toList.take off ++ l ++ cs.toList.drop (off + l.length)) := by
  intro off cs hle
  have key : ∀ (l : List Value) (k : Nat) (cs : Array Value), off + k + l.length ≤ cs.size →
      ((l.zipIdx k).foldl (fun (cs : Array Value) (p : Value × Nat) => cs.setIfInBounds (off + p.2) p.1) cs).toList = cs.toList.take (off + k) ++ l ++ cs.toList.drop (off + k + l.length) := by
    intro l
    induction l with
    | nil => intro k cs _; simp
    | cons v l ih =>
      intro k cs hle
      rw [List.zipIdx_cons, List.foldl_cons]
      simp only [List.length_cons] at hle
      rw [ih (k + 1) (cs.setIfInBounds (off + k) v) (by simp; omega)]
      rw [Array.toList_setIfInBounds]
      have hk : off + k < cs.toList.length := by simp; omega
      apply List.ext_getElem?
      intro j
      simp only [List.append_assoc, List.length_cons]
      rcases Nat.lt_trichotomy j (off + k) with h | h | h
      · rw [List.getElem?_append_left (by simp; omega), List.getElem?_append_left (by simp; omega), List.getElem?_take, List.getElem?_take, if_pos (by omega), if_pos (by omega), List.getElem?_set_ne (by omega)]
      · subst h
        rw [List.getElem?_append_left (by simp; omega), List.getElem?_append_right (by simp; omega), List.getElem?_take, if_pos (by omega), List.getElem?_set_self (by simpa using hk)]
        have e0 : off + k - (cs.toList.take (off + k)).length = 0 := by simp; omega
        rw [e0]; rfl
      · have e1 : (List.take (off + (k + 1)) (cs.toList.set (off + k) v)).length = off + k + 1 := by simp; omega
        have e2 : (List.take (off + k) cs.toList).length = off + k := by simp; omega
        rw [List.getElem?_append_right (l₁ := List.take (off + (k + 1)) (cs.toList.set (off + k) v)) (by omega), List.getElem?_append_right (l₁ := List.take (off + k) cs.toList) (by omega), e1, e2]
        obtain ⟨j', rfl⟩ : ∃ j', j = off + k + 1 + j' := ⟨j - (off + k + 1), by omega⟩
        have e3 : off + k + 1 + j' - (off + k + 1) = j' := by omega
        have e4 : off + k + 1 + j' - (off + k) = j' + 1 := by omega
        rw [e3, e4]
        rw [List.cons_append, List.getElem?_cons_succ]
        by_cases hj : j' < l.length
        · rw [List.getElem?_append_left hj, List.getElem?_append_left hj]
        · rw [List.getElem?_append_right (by omega), List.getElem?_append_right (by omega), List.getElem?_drop, List.getElem?_drop, List.getElem?_set_ne (by omega)]
          congr 1
          omega
  have := key l 0 cs (by simpa using hle)
  simp only [Nat.add_zero] at this
  rw [← this, ← Array.foldl_toList, Array.toList_zipIdx]

end Go.AM

/- AM, 9: a struct built, structs compared; all that writes nothing. -/
namespace Go.AM
variable {P : Program} {N : Nat} {E : Env} {tm : Tm} {a : Act}

theorem run_mapM {α β : Type} (w : World) (f : α → Sem β) (g : α → Option β) (hfg : ∀ x y, g x = some y → (f x).run P w = .ok y w) : ∀ (l : List α) (r : List β), l.mapM g = some r → (l.mapM f).run P w = .ok r w := by
  intro l
  induction l with
  | nil => intro r h; simp at h; subst h; simp
  | cons x l ih =>
    intro r h
    rw [List.mapM_cons] at h
    cases hx : g x with
    | none => simp [hx] at h
    | some y =>
      cases hl : l.mapM g with
      | none => simp [hx, hl] at h
      | some ys =>
        simp [hx, hl] at h
        subst h
        rw [List.mapM_cons]
        simp [hfg x y hx, ih ys hl]

def buildStep (tm : Tm) (cs : Option (List AV)) (p : Nat × Nat × AX) : Option (List AV) := cs.bind fun cs =>
  if (p.2.2.ev tm).cells.length = p.2.1 ∧ (p.2.2.ev tm).flat = true then (if p.1 + p.2.1 ≤ cs.length then some (splice cs p.1 (p.2.2.ev tm).cells) else none) else none

theorem buildStep_none (tm : Tm) (ps : List (Nat × Nat × AX)) : ps.foldl (buildStep tm) none = none := by
  induction ps with
  | nil => rfl
  | cons p ps ih => rw [List.foldl_cons]; exact ih

theorem splice_rel {cs l : List AV} {us vs : List Value} (h : RelL E cs us) (k : RelL E l vs) (off : Nat) : RelL E (splice cs off l) (us.take off ++ vs ++ us.drop (off + vs.length)) := by
  unfold splice
  rw [k.1]
  exact ((h.take off).append k).append (h.drop _)

theorem splice_ones {cs l : List AV} (h : ∀ c ∈ cs, c.one = true) (k : ∀ c ∈ l, c.one = true) (off : Nat) : ∀ c ∈ splice cs off l, c.one = true := by
  intro c hc
  unfold splice at hc
  rcases List.mem_append.1 hc with hc | hc
  · rcases List.mem_append.1 hc with hc | hc
    · exact h c (List.mem_of_mem_take hc)
    · exact k c hc
  · exact h c (List.mem_of_mem_drop hc)

theorem splice_length {cs l : List AV} {off : Nat} (h : off + l.length ≤ cs.length) : (splice cs off l).length = cs.length := by
  unfold splice; simp; omega

theorem fill_rel (ht : TmRel E N tm a) (sz : List (Nat × Nat)) : ∀ (parts : List (Nat × Operand)) (ps : List (Nat × Nat × AX)) (cs r : List AV) (cells : Array Value),
    (parts.mapM fun (p : Nat × Operand) => (cOpd N p.2).bind fun x => (sz[p.1]?).map fun os => (os.1, os.2, x)) = some ps → RelL E cs cells.toList → (∀ c ∈ cs, c.one = true) → ps.foldl (buildStep tm) (some cs) = some r →
    ∃ out : Array Value, Instr.fill (fun i => sz[i]?) cells (parts.map fun p => (p.1, a.eval p.2)) = some out ∧ RelL E r out.toList ∧ (∀ c ∈ r, c.one = true) := by
  intro parts
  induction parts with
  | nil =>
    intro ps cs r cells hm hr h1 hf
    simp at hm
    subst hm
    simp at hf
    subst hf
    exact ⟨cells, rfl, hr, h1⟩
  | cons p parts ih =>
    intro ps cs r cells hm hr h1 hf
    rw [List.mapM_cons] at hm
    cases hx : cOpd N p.2 with
    | none => simp [hx] at hm
    | some x =>
      cases hz : sz[p.1]? with
      | none => simp [hx, hz] at hm
      | some os =>
        cases hl : (parts.mapM fun (p : Nat × Operand) => (cOpd N p.2).bind fun x => (sz[p.1]?).map fun os => (os.1, os.2, x)) with
        | none => simp only [hl] at hm; simp [hx, hz] at hm
        | some ps' =>
          simp only [hl] at hm
          simp [hx, hz] at hm
          subst hm
          rw [List.foldl_cons] at hf
          by_cases hc : (x.ev tm).cells.length = os.2 ∧ (x.ev tm).flat = true
          · by_cases hb : os.1 + os.2 ≤ cs.length
            · have hstep : buildStep tm (some cs) (os.1, os.2, x) = some (splice cs os.1 (x.ev tm).cells) := by simp [buildStep, hc, hb]
              rw [hstep] at hf
              obtain ⟨hcr, hc1⟩ := cells_rel (opd hx ht) hc.2
              have hsz : (a.eval p.2).cells.size = os.2 := by have := hcr.1; simp only [Array.length_toList] at this; omega
              have hcl : cells.size = cs.length := by have := hr.1; simpa using this
              have hfold := fold_set (a.eval p.2).cells.toList os.1 cells (by simp [hsz]; omega)
              simp only [Array.toArray_toList] at hfold
              obtain ⟨out, ho, hor, ho1⟩ := ih ps' (splice cs os.1 (x.ev tm).cells) r _ hl (by rw [hfold]; exact splice_rel hr hcr os.1) (splice_ones h1 hc1 _) hf
              refine ⟨out, ?_, hor, ho1⟩
              simp only [List.map_cons, Instr.fill, hz]
              rw [if_neg (by simp [hsz]; omega)]
              exact ho
            · have : buildStep tm (some cs) (os.1, os.2, x) = none := by simp [buildStep, hb]
              rw [this, buildStep_none] at hf
              cases hf
          · have : buildStep tm (some cs) (os.1, os.2, x) = none := by simp only [buildStep, Option.bind_some]; rw [if_neg hc]
            rw [this, buildStep_none] at hf
            cases hf

theorem yields_build {o : Oper} {t : TypeId} {parts : Array (Nat × Operand)} (ho : o.op = .build t parts) {fs : Array Field} (hu : P.underlying t = some (.struct fs)) {sz : List (Nat × Nat)} (hsz : fieldSizes P fs.toList = some sz) {zs : List AV} (hz : zeroOf P t = some (.agg zs))
    {ps : List (Nat × Nat × AX)} (hps : (parts.toList.mapM fun (p : Nat × Operand) => (cOpd N p.2).bind fun x => (sz[p.1]?).map fun os => (os.1, os.2, x)) = some ps) (ht : TmRel E N tm a) {r : AV}
    (h : apure (.build zs ps) tm E.h = some r) : Yields P E a o r := by
  simp only [apure] at h
  change (ps.foldl (buildStep tm) (some zs)).map AV.agg = some r at h
  cases hf : ps.foldl (buildStep tm) (some zs) with
  | none => simp [hf] at h
  | some cs =>
    simp [hf] at h
    subst h
    obtain ⟨zv, hzr, hzrel⟩ := zeroOf_rel (P := P) E hz E.w
    obtain ⟨us, rfl, hl, h1, hr⟩ := hzrel.agg_inv
    obtain ⟨out, ho', hor, ho1⟩ := fill_rel (a := a) ht sz parts.toList ps zs cs us.toArray hps (by simpa using hr) h1 hf
    refine ⟨.agg out, ?_, by have := Rel.agg (E := E) cs out.toList hor.1 ho1 hor.2; simpa using this⟩
    have hmap : (fs.mapM (m := Sem) fun f => do pure (f.offset, ← sizeOf f.type)).run P E.w = .ok sz.toArray E.w := by
      rw [Array.mapM_eq_mapM_toList]
      simp only [Sem.run_map]
      rw [run_mapM (P := P) E.w _ (fun f : Field => (P.info? f.type).map fun (i : TypeInfo) => (f.offset, i.size)) (fun f y hy => by
        cases hi : P.info? f.type with
        | none => simp [hi] at hy
        | some i => simp [hi] at hy; subst hy; simp [info_of hi]) fs.toList sz (by unfold fieldSizes at hsz; exact hsz)]
      rfl
    have hfill : Instr.fill (fun x => sz.toArray[x]?) us.toArray (parts.map fun (p : Nat × Operand) => (p.1, a.eval p.2)).toList = some out := by
      rw [Array.toList_map]
      simpa using ho'
    simp only [execOp, ho, Instr.build, Sem.run_bind, hzr, Result.andThen_ok, run_underlying hu, hmap, Value.cells]
    rw [hfill]
    simp

/-! ### Structs compared -/

theorem isAgg_basic {t : TypeId} {d : TypeDesc} (hu : P.underlying t = some d) (hd : d.isRow = false) (w : World) : (isAgg t).run P w = .ok false w := by
  unfold isAgg
  rw [Sem.run_bind, run_underlying hu]
  cases d <;> first | rfl | (simp [TypeDesc.isRow] at hd)

theorem eqFields_rel (w : World) {d : Nat} : ∀ (fs : List Field) (i : Nat) (ds : List EqK) (xs ys : List AV) (us vs : List Value), RelL E xs us → RelL E ys vs → eqKinds P fs i = some ds → ∀ b, eqs ds (xs.drop i) (ys.drop i) = some b →
    (Op.eqFields (d + 1) us.toArray vs.toArray fs).run P w = .ok b w := by
  intro fs
  induction fs with
  | nil => intro i ds xs ys us vs hx hy hk b hb; simp [eqKinds] at hk; subst hk; simp [eqs] at hb; subst hb; simp [Op.eqFields]
  | cons f fs ih =>
    intro i ds xs ys us vs hx hy hk b hb
    simp only [eqKinds] at hk
    split at hk
    · rename_i hcond
      obtain ⟨hoff, hname⟩ := hcond
      have main : ∀ (k : EqK) (dd : TypeDesc), P.underlying f.type = some dd → dd.isRow = false → (∀ x y u v b, eq1 k x y = some b → Rel E x u → Rel E y v → (Op.equalIn (d + 1) f.type u v).run P w = .ok b w) →
          (eqKinds P fs (i + 1)).map (k :: ·) = some ds → (Op.eqFields (d + 1) us.toArray vs.toArray (f :: fs)).run P w = .ok b w := by
        intro k dd hu hrow heq hmap
        cases hrest : eqKinds P fs (i + 1) with
        | none => simp [hrest] at hmap
        | some ds' =>
          simp [hrest] at hmap
          subst hmap
          cases hxd : xs.drop i with
          | nil => rw [hxd] at hb; simp [eqs] at hb
          | cons x xs' =>
            cases hyd : ys.drop i with
            | nil => rw [hxd, hyd] at hb; simp [eqs] at hb
            | cons y ys' =>
              rw [hxd, hyd] at hb
              have hxi : xs[i]? = some x := by have := List.getElem?_drop (xs := xs) (i := i) (j := 0); rw [hxd] at this; simpa using this.symm
              have hyi : ys[i]? = some y := by have := List.getElem?_drop (xs := ys) (i := i) (j := 0); rw [hyd] at this; simpa using this.symm
              have hx' : xs.drop (i + 1) = xs' := by rw [← List.drop_drop, hxd]; rfl
              have hy' : ys.drop (i + 1) = ys' := by rw [← List.drop_drop, hyd]; rfl
              obtain ⟨u, hu', hru⟩ := hx.get hxi
              obtain ⟨v, hv', hrv⟩ := hy.get hyi
              have hp1 : (part f.type us.toArray f.offset).run P w = .ok u w := by simp [part, isAgg_basic (P := P) hu hrow, hoff, hu']
              have hp2 : (part f.type vs.toArray f.offset).run P w = .ok v w := by simp [part, isAgg_basic (P := P) hu hrow, hoff, hv']
              simp only [eqs] at hb
              cases he : eq1 k x y with
              | none => rw [he] at hb; cases hb
              | some b1 =>
                rw [he] at hb
                have hq := heq x y u v b1 he hru hrv
                simp only [Op.eqFields, if_pos hname, Sem.run_bind, hp1, hp2, hq, Result.andThen_ok]
                cases b1
                · simp at hb; subst hb; simp
                · simp at hb
                  have := ih (i + 1) ds' xs ys us vs hx hy hrest b (by rw [hx', hy']; exact hb)
                  simp [this]
      cases hu : P.underlying f.type with
      | none => simp [hu] at hk
      | some dd =>
        cases dd <;> simp [hu] at hk
        · -- bool
          refine main .bool _ hu rfl (fun x y u v b he hx hy => ?_) (by simpa using hk)
          cases x <;> cases y <;> simp [eq1] at he
          subst he
          rw [hx.bool_inv, hy.bool_inv]
          exact run_equalIn_bool' (P := P) w d _ _ _ hu
        · -- int
          refine main .int _ hu rfl (fun x y u v b he hx hy => ?_) (by simpa using hk)
          cases x <;> cases y <;> simp [eq1] at he
          obtain ⟨hk, he⟩ := he
          subst he; subst hk
          rw [hx.int_inv, hy.int_inv]
          exact run_equalIn_int (P := P) w d _ _ _ _ _ hu
        · -- complex
          refine main .cplx _ hu rfl (fun x y u v b he hx hy => ?_) (by simpa using hk)
          cases x <;> cases y <;> simp [eq1] at he
          subst he
          rw [hx.cplx_inv, hy.cplx_inv]
          simp [Op.equalIn, run_underlying hu, cplxEq]
        · -- string
          refine main .str _ hu rfl (fun x y u v b he hx hy => ?_) (by simpa using hk)
          cases x <;> cases y <;> simp [eq1] at he
          subst he
          rw [hx.str_inv, hy.str_inv, run_equalIn_string (P := P) w d _ _ _ hu, toList_mk, toList_mk]
    · cases hk

theorem yields_eqa {o : Oper} {op : BinOp} {t t' : TypeId} {x y : Operand} (ho : o.op = .binOp op t x y t') {fs : Array Field} (hu : P.underlying t = some (.struct fs)) (hg : P.eqGuardType P.depth t = false) (hst : P.stoodInHeld t = false) {n : Bool} (hn : cNeg op = some n) {ds : List EqK} (hds : eqKinds P fs.toList 0 = some ds)
    {ax ay : AX} (hx : cOpd N x = some ax) (hy : cOpd N y = some ay) (ht : TmRel E N tm a) {r : AV} (h : apure (.eqa n ds ax ay) tm E.h = some r) : Yields P E a o r := by
  have hvx := opd hx ht
  have hvy := opd hy ht
  simp only [apure] at h
  generalize ax.ev tm = u at *
  generalize ay.ev tm = v at *
  split at h
  · rename_i xs ys
    obtain ⟨us, e1, hl1, h1, hr1⟩ := hvx.agg_inv
    obtain ⟨vs, e2, hl2, h2, hr2⟩ := hvy.agg_inv
    cases hb : eqs ds xs ys with
    | none => simp [hb] at h
    | some b =>
      simp [hb] at h
      subst h
      have hfo : P.fieldsOf t = fs := by simp [Program.fieldsOf, hu]
      have hrun : (Op.equalIn 10000 t (.agg us.toArray) (.agg vs.toArray)).run P E.w = .ok b E.w := by
        rw [run_equalIn_struct (P := P) E.w 9999 t _ _ (by rw [hfo]; exact hu) hst, hfo]
        exact eqFields_rel (P := P) (E := E) E.w (d := 9998) fs.toList 0 ds xs ys us vs hr1 hr2 hds b (by simpa using hb)
      rcases cNeg_cases hn with ⟨rfl, rfl⟩ | ⟨rfl, rfl⟩
      · exact ⟨.bool b, by simp only [execOp, ho, e1, e2, Sem.run_bind, run_eqGuard_agg (P := P) E.w _ t x y _ _ hg, Result.andThen_ok, run_eql_struct, hrun, Sem.run_pure], by rw [xor_false]; exact .bool _⟩
      · exact ⟨.bool (!b), by simp only [execOp, ho, e1, e2, Sem.run_bind, run_eqGuard_agg (P := P) E.w _ t x y _ _ hg, Result.andThen_ok, run_neq_struct, hrun, Sem.run_pure], by rw [xor_true]; exact .bool _⟩
  · cases h

end Go.AM

/- AM, 10: how an environment goes on: a new object, an object's new state, an object that is let go, one that is made anew. -/
namespace Go.AM
variable {P : Program} {N : Nat} {E : Env} {tm : Tm} {a : Act}

/-- The streams and the rest of the world beside its blocks. -/
structure SameRest (w w' : World) : Prop where
  os : w'.os = w.os
  tape : w'.tape = w.tape
  output : w'.output = w.output

theorem Ext.of {E E' : Env} (hnx : E.nx ≤ E'.nx) (hsh : ∀ id, id < E.nx → E'.h id ≠ .dead → Shape (E.h id) (E'.h id) ∧ E'.ι id = E.ι id ∧ E'.κ id = E.κ id)
    (hr : SameRest E.w E'.w) (hsize : E.w.heap.size ≤ E'.w.heap.size) (hblock : ∀ b, b < E.w.heap.size → ¬ E.live b → E'.w.heap[b]? = E.w.heap[b]?) (hlive : ∀ b, b < E.w.heap.size → E'.live b → E.live b) : Ext E E' :=
  ⟨fun _ _ h => h.mono hnx hsh hsize hblock hlive, hnx, hr.os, hr.tape, hr.output, hsize, hblock, hlive⟩

theorem ObjRel.keep {E E' : Env} {id : Nat} (h : ObjRel E id) (hh : E'.h id = E.h id) (hι : E'.ι id = E.ι id) (hκ : E'.κ id = E.κ id) (hb : E.h id ≠ .dead → E'.w.heap[E.ι id]? = E.w.heap[E.ι id]?) (hx : ∀ a v, Rel E a v → Rel E' a v) : ObjRel E' id := by
  unfold ObjRel at *
  rw [hh, hι, hκ]
  split at h
  · trivial
  · rename_i cs hc
    rw [hb (by rw [hc]; simp)]
    obtain ⟨us, e, h1, h2, h3, h4⟩ := h
    exact ⟨us, e, h1, h2, h3, fun j c u hc hu => hx _ _ (h4 j c u hc hu)⟩
  · rename_i e sz xs hc
    rw [hb (by rw [hc]; simp)]
    obtain ⟨us, h1, h2, h3, h4, h5, h6, h7, h8, h9⟩ := h
    exact ⟨us, h1, h2, h3, h4, h5, h6, h7, h8, fun i x j c hx' hj => let ⟨u, hu, hr⟩ := h9 i x j c hx' hj; ⟨u, hu, hx _ _ hr⟩⟩
  · rename_i es hc
    rw [hb (by rw [hc]; simp)]
    obtain ⟨ents, clk, h1, h2, h3⟩ := h
    exact ⟨ents, clk, h1, h2, fun i kv en hk he => ⟨hx _ _ (h3 i kv en hk he).1, hx _ _ (h3 i kv en hk he).2⟩⟩

/-- A new object, in a new block. -/
def Env.add (E : Env) (w' : World) (o : AObj) (blk κ0 : Nat) : Env :=
  { h := hset E.h E.nx o, ι := fun i => if i = E.nx then blk else E.ι i, κ := fun i => if i = E.nx then κ0 else E.κ i, w := w', nx := E.nx + 1 }

theorem Env.add_ext (hs : Sim E) {w' : World} {o : AObj} {blk κ0 : Nat} (hr : SameRest E.w w') (hsize : E.w.heap.size ≤ w'.heap.size) (hold : ∀ b, b < E.w.heap.size → w'.heap[b]? = E.w.heap[b]?) (hblk : E.w.heap.size ≤ blk) : Ext E (E.add w' o blk κ0) := by
  refine Ext.of (Nat.le_succ _) (fun id hid hd => ?_) hr hsize (fun b hb _ => hold b hb) (fun b hb hl => ?_)
  · have hne : id ≠ E.nx := by omega
    simp only [Env.add, hset, if_neg hne] at hd ⊢
    exact ⟨Shape.refl _, trivial, trivial⟩
  · obtain ⟨id, h1, h2⟩ := hl
    by_cases hne : id = E.nx
    · simp [Env.add, hne] at h2; omega
    · simp only [Env.add, hset, if_neg hne] at h1 h2
      exact ⟨id, h1, h2⟩

theorem Env.add_sim (hs : Sim E) {w' : World} {o : AObj} {blk κ0 : Nat} (hr : SameRest E.w w') (hsize : E.w.heap.size ≤ w'.heap.size) (hold : ∀ b, b < E.w.heap.size → w'.heap[b]? = E.w.heap[b]?) (hblk : E.w.heap.size ≤ blk) (hlt : blk < w'.heap.size)
    (ho : ObjRel (E.add w' o blk κ0) E.nx) : Sim (E.add w' o blk κ0) := by
  have hx := Env.add_ext (o := o) (κ0 := κ0) hs hr hsize hold hblk
  refine ⟨fun id => ?_, fun id hid => ?_, fun i j hi hj he => ?_, fun i hi => ?_⟩
  · by_cases hne : id = E.nx
    · rw [hne]; exact ho
    · refine (hs.obj id).keep (by simp [Env.add, hset, hne]) (by simp [Env.add, hne]) (by simp [Env.add, hne]) (fun hd => hold _ (hs.lt id hd)) hx.rel
  · have h1 : E.nx + 1 ≤ id := hid
    have hne : id ≠ E.nx := by omega
    simp only [Env.add, hset, if_neg hne]
    exact hs.nx id (by omega)
  · by_cases h1 : i = E.nx
    · by_cases h2 : j = E.nx
      · omega
      · simp only [Env.add, hset, if_neg h2] at hj
        simp [Env.add, h1, h2] at he
        have := hs.lt j hj
        omega
    · by_cases h2 : j = E.nx
      · simp only [Env.add, hset, if_neg h1] at hi
        simp [Env.add, h1, h2] at he
        have := hs.lt i hi
        omega
      · simp only [Env.add, hset, if_neg h1] at hi
        simp only [Env.add, hset, if_neg h2] at hj
        simp [Env.add, h1, h2] at he
        exact hs.inj i j hi hj he
  · by_cases h1 : i = E.nx
    · simp [Env.add, h1]; exact hlt
    · simp only [Env.add, hset, if_neg h1] at hi
      simp [Env.add, h1]
      exact Nat.lt_of_lt_of_le (hs.lt i hi) hsize

/-- An object's new state, in its block. -/
def Env.turn (E : Env) (w' : World) (id : Nat) (o : AObj) : Env := { E with h := hset E.h id o, w := w' }

theorem Env.turn_ext (hs : Sim E) {w' : World} {id : Nat} {o : AObj} (hd : E.h id ≠ .dead) (hsh : Shape (E.h id) o) (hr : SameRest E.w w') (hsize : w'.heap.size = E.w.heap.size) (hold : ∀ b, b ≠ E.ι id → w'.heap[b]? = E.w.heap[b]?) : Ext E (E.turn w' id o) := by
  refine Ext.of (Nat.le_refl _) (fun i hi hd' => ?_) hr (Nat.le_of_eq hsize.symm) (fun b hb hl => hold b (fun e => hl ⟨id, hd, e.symm⟩)) (fun b hb hl => ?_)
  · refine ⟨?_, rfl, rfl⟩
    by_cases hne : i = id
    · subst hne; simpa [Env.turn, hset] using hsh
    · simp only [Env.turn, hset, if_neg hne]; exact Shape.refl _
  · obtain ⟨i, h1, h2⟩ := hl
    by_cases hne : i = id
    · subst hne; exact ⟨i, hd, h2⟩
    · simp only [Env.turn, hset, if_neg hne] at h1
      exact ⟨i, h1, h2⟩

theorem Env.turn_sim (hs : Sim E) {w' : World} {id : Nat} {o : AObj} (hd : E.h id ≠ .dead) (hsh : Shape (E.h id) o) (hr : SameRest E.w w') (hsize : w'.heap.size = E.w.heap.size) (hold : ∀ b, b ≠ E.ι id → w'.heap[b]? = E.w.heap[b]?)
    (ho : ObjRel (E.turn w' id o) id) : Sim (E.turn w' id o) := by
  have hx := Env.turn_ext hs hd hsh hr hsize hold
  have hdd : ∀ i, (E.turn w' id o).h i ≠ .dead → E.h i ≠ .dead := fun i hi => by
    by_cases hne : i = id
    · subst hne; exact hd
    · simpa [Env.turn, hset, hne] using hi
  refine ⟨fun i => ?_, fun i hi => ?_, fun i j hi hj he => hs.inj i j (hdd i hi) (hdd j hj) he, fun i hi => ?_⟩
  · by_cases hne : i = id
    · rw [hne]; exact ho
    · exact (hs.obj i).keep (by simp [Env.turn, hset, hne]) rfl rfl (fun hdi => hold _ (fun e => hne (hs.inj i id hdi hd e))) hx.rel
  · have hne : i ≠ id := fun e => by subst e; exact hd (hs.nx i hi)
    simp only [Env.turn, hset, if_neg hne]
    exact hs.nx i hi
  · have := hs.lt i (hdd i hi)
    simp only [Env.turn]
    omega

/-- Objects are let go; the world stands but for the blocks of those let go. -/
theorem forget (hs : Sim E) {h' : Hp} (hsub : ∀ id, h' id = E.h id ∨ h' id = .dead) {w' : World} (hr : SameRest E.w w') (hsize : w'.heap.size = E.w.heap.size) (hold : ∀ b, (∀ id, h' id ≠ .dead → E.ι id ≠ b) → ¬ E.live b → w'.heap[b]? = E.w.heap[b]?)
    (hkeep : ∀ id, h' id ≠ .dead → w'.heap[E.ι id]? = E.w.heap[E.ι id]?) : Ext E { E with h := h', w := w' } ∧ Sim { E with h := h', w := w' } := by
  have hdd : ∀ i, h' i ≠ .dead → h' i = E.h i ∧ E.h i ≠ .dead := fun i hi => by
    rcases hsub i with h | h
    · exact ⟨h, h ▸ hi⟩
    · exact absurd h hi
  have hx : Ext E { E with h := h', w := w' } := by
    refine Ext.of (Nat.le_refl _) (fun i hi hd' => ⟨?_, rfl, rfl⟩) hr (Nat.le_of_eq hsize.symm) (fun b hb hl => hold b (fun id hid e => hl ⟨id, (hdd id hid).2, e⟩) hl) (fun b hb hl => ?_)
    · rw [show ({ E with h := h', w := w' } : Env).h i = E.h i from (hdd i hd').1]; exact Shape.refl _
    · obtain ⟨i, h1, h2⟩ := hl
      exact ⟨i, (hdd i h1).2, h2⟩
  refine ⟨hx, fun i => ?_, fun i hi => ?_, fun i j hi hj he => hs.inj i j (hdd i hi).2 (hdd j hj).2 he, fun i hi => ?_⟩
  · rcases hsub i with h | h
    · by_cases hd : h' i = .dead
      · unfold ObjRel; rw [show ({ E with h := h', w := w' } : Env).h i = .dead from hd]; trivial
      · exact (hs.obj i).keep h rfl rfl (fun _ => hkeep i hd) hx.rel
    · unfold ObjRel; rw [show ({ E with h := h', w := w' } : Env).h i = .dead from h]; trivial
  · rcases hsub i with h | h
    · exact h.trans (hs.nx i hi)
    · exact h
  · have := hs.lt i (hdd i hi).2
    show E.ι i < w'.heap.size
    omega

/-- Objects are let go, the world stands. -/
theorem forget' (hs : Sim E) {h' : Hp} (hsub : ∀ id, h' id = E.h id ∨ h' id = .dead) : Ext E { E with h := h' } ∧ Sim { E with h := h' } :=
  forget hs hsub (w' := E.w) ⟨rfl, rfl, rfl⟩ rfl (fun _ _ _ => rfl) (fun _ _ => rfl)

/-- The world has drawn. -/
theorem drew_ext (hs : Sim E) : Ext E { E with w := E.w.drew } ∧ Sim { E with w := E.w.drew } := by
  have := forget hs (h' := E.h) (fun _ => .inl rfl) (w' := E.w.drew) ⟨rfl, rfl, rfl⟩ rfl (fun _ _ _ => rfl) (fun _ _ => rfl)
  exact this

/-- An array let go: what a slice of it held, it holds for good. -/
theorem freeze_rel (hs : Sim E) {id off len : Nat} {e sz : Nat} {xs : List (List AV)} (hh : E.h id = .arr e sz xs) (hle : off + len ≤ xs.length) {h' : Hp} (hsub : ∀ i, h' i = E.h i ∨ h' i = .dead) (hdead : h' id = .dead) {v : Value} (hv : Rel E (.sl id off len) v) :
    Rel { E with h := h' } (.fz ((xs.drop off).take len)) v := by
  obtain ⟨hx, hs'⟩ := forget' hs hsub
  obtain ⟨b, cap, e1, hn, hp⟩ := hv.sl_inv
  obtain ⟨h1, h2, h3⟩ := hp e sz xs hh
  obtain ⟨us, hb, hl, hxk, hkm, hpos, hlen, hone, huo, hru⟩ := arr_row hs hh
  have hln : ((xs.drop off).take len).length = len := by simp; omega
  have hget : ∀ i y, ((xs.drop off).take len)[i]? = some y → xs[off + i]? = some y := fun i y hy => by
    rw [List.getElem?_take] at hy
    split at hy
    · rwa [List.getElem?_drop] at hy
    · cases hy
  have hmem : ∀ y ∈ (xs.drop off).take len, y ∈ xs := fun y hy => List.mem_of_mem_drop (List.mem_of_mem_take hy)
  have hid : E.h id ≠ .dead := by rw [hh]; simp
  have := Rel.fz (E := { E with h := h' }) ((xs.drop off).take len) b cap (E.ι id) (off * sz) sz (fun i j => us.getD ((off + i) * sz + j) undef)
    (fun hne => by
      have hpos' : 0 < ((xs.drop off).take len).length := List.length_pos_iff.2 hne
      refine ⟨?_, fun hl => ?_, hs.lt id hid⟩
      · rcases h3 with ⟨_, h5⟩ | h5
        · omega
        · exact h5
      · obtain ⟨i, hi1, hi2⟩ := hl
        have hi1' : h' i ≠ .dead := hi1
        have : E.h i ≠ .dead := by
          rcases hsub i with h | h
          · exact h ▸ hi1'
          · exact absurd h hi1'
        have := hs.inj i id this hid hi2
        subst this
        exact hi1' hdead)
    (by omega) (fun y hy => hlen y (hmem y hy)) (fun y hy => hone y (hmem y hy))
    (fun i y j c hy hj => by
      obtain ⟨u, hu, hr⟩ := hru (off + i) y j c (hget i y hy) hj
      show E.w.cell? _ = _
      rw [cell_row hb]
      have e : off * sz + i * sz + j = (off + i) * sz + j := by rw [Nat.add_mul]
      rw [e, hu]
      simp [List.getD, hu])
    (fun i y j c hy hj => by
      obtain ⟨u, hu, hr⟩ := hru (off + i) y j c (hget i y hy) hj
      simp only [List.getD, hu, Option.getD_some]
      exact hx.rel _ _ hr)
  rw [hln] at this
  rw [e1]
  exact this

end Go.AM

/- AM, 11: the operations that make or write memory. -/
namespace Go.AM
variable {P : Program} {N : Nat} {E : Env} {tm : Tm} {a : Act}

/-- What is to be shown of an operation: whatever it answers and leaves, the rest goes on. -/
def Goes (E : Env) (K : AV → Hp → Prop) (a : Act) (dst : Option Tmp) (next : Act → World → Prop) : Prop :=
  ∀ (r : AV) (v : Value) (E' : Env), Sim E' → Ext E E' → Rel E' r v → K r E'.h → next (a.put dst v) E'.w

theorem wp_value {o : Oper} {K : Act → World → Prop} {Q : Exit → Act → World → Prop} {v : Value} {w w' : World} (h : (execOp a.eval o).run P w = .ok (.value v) w') (hk : K (a.put o.dst v) w') : o.wp P a w K Q := by
  unfold Oper.wp; rw [h]; exact hk
theorem wp_skipped {o : Oper} {K : Act → World → Prop} {Q : Exit → Act → World → Prop} {w w' : World} (h : (execOp a.eval o).run P w = .ok .skip w') (hk : K (a.put o.dst undef) w') : o.wp P a w K Q := by
  unfold Oper.wp; rw [h]; exact hk

theorem alloc_old (w : World) (o : Obj) (b : Nat) (h : b < w.heap.size) : (w.alloc o).heap[b]? = w.heap[b]? := Below.heap_alloc_x w o b h
where
  Below.heap_alloc_x (w : World) (o : Obj) (k : Nat) (h : k < w.heap.size) : (w.alloc o).heap[k]? = w.heap[k]? := heap_alloc_old w o k h
theorem alloc_new (w : World) (o : Obj) : (w.alloc o).heap[w.heap.size]? = some o := heap_alloc_new w o

/-- A new variable. -/
theorem new_cells (hs : Sim E) {cs : List AV} {us : List Value} (t : TypeId) (hr : RelL E cs us) (h1 : ∀ c ∈ cs, c.one = true) :
    ∃ E', Sim E' ∧ Ext E E' ∧ E'.w = E.w.alloc (.cells us.toArray t) ∧ E'.h = hset E.h E.nx (.cells cs) ∧ Rel E' (.ptr E.nx 0) (.pointer (some ⟨E.w.heap.size, 0, none⟩)) := by
  have hx := Env.add_ext (E := E) (w' := E.w.alloc (.cells us.toArray t)) (o := .cells cs) (blk := E.w.heap.size) (κ0 := 0) hs ⟨rfl, rfl, rfl⟩ (by simp) (fun b hb => alloc_old _ _ b hb) (Nat.le_refl _)
  refine ⟨E.add (E.w.alloc (.cells us.toArray t)) (.cells cs) E.w.heap.size 0, Env.add_sim hs ⟨rfl, rfl, rfl⟩ (by simp) (fun b hb => alloc_old _ _ b hb) (Nat.le_refl _) (by simp) ?_, hx, rfl, rfl, ?_⟩
  · unfold ObjRel
    have : (E.add (E.w.alloc (.cells us.toArray t)) (.cells cs) E.w.heap.size 0).h E.nx = .cells cs := by simp [Env.add, hset]
    rw [this]
    refine ⟨us, t, hr.1, ?_, h1, fun j c u hc hu => hx.rel _ _ (hr.2 j c u hc hu)⟩
    have : (E.add (E.w.alloc (.cells us.toArray t)) (.cells cs) E.w.heap.size 0).ι E.nx = E.w.heap.size := by simp [Env.add]
    rw [this]
    exact alloc_new _ _
  · refine .ptr _ _ _ (by simp [Env.add]) fun cs' _ => ?_
    simp [Env.add]

theorem step_alloc (hs : Sim E) {o : Oper} {t : TypeId} (ho : o.op = .alloc t) {z : AV} (hz : zeroOf P t = some z) (hf : z.flat = true) {K : AV → Hp → Prop} (h : AStep P (.alloc z.cells) K tm E.h) {next : Act → World → Prop} {Q : Exit → Act → World → Prop} (hk : Goes E K a o.dst next) : o.wp P a E.w next Q := by
  obtain ⟨zv, hzr, hzrel⟩ := zeroOf_rel (P := P) E hz E.w
  obtain ⟨hr, h1⟩ := cells_rel hzrel hf
  obtain ⟨E', s', x', hw, hh, hp⟩ := new_cells hs t hr h1
  have hrun : (execOp a.eval o).run P E.w = .ok (.value (.pointer (some ⟨E.w.heap.size, 0, none⟩))) E'.w := by
    rw [hw]; simp [execOp, ho, Instr.alloc, hzr, newVar, newRow]
  refine wp_value hrun (hk _ _ E' s' x' hp ?_)
  rw [hh]
  exact h E.nx (hs.nx _ (Nat.le_refl _))

theorem step_box (hs : Sim E) {o : Oper} {t : TypeId} {x : Operand} (ho : o.op = .box t x) {ax : AX} (hx : cOpd N x = some ax) (ht : TmRel E N tm a) {K : AV → Hp → Prop} (h : AStep P (.box ax) K tm E.h) {next : Act → World → Prop} {Q : Exit → Act → World → Prop} (hk : Goes E K a o.dst next) : o.wp P a E.w next Q := by
  obtain ⟨hf, h⟩ := h
  obtain ⟨hr, h1⟩ := cells_rel (opd hx ht) hf
  obtain ⟨E', s', x', hw, hh, hp⟩ := new_cells hs t hr h1
  have hrun : (execOp a.eval o).run P E.w = .ok (.value (.pointer (some ⟨E.w.heap.size, 0, none⟩))) E'.w := by
    rw [hw]; simp [execOp, ho, Instr.box, newVar, newRow]
  refine wp_value hrun (hk _ _ E' s' x' hp ?_)
  rw [hh]
  exact h E.nx (hs.nx _ (Nat.le_refl _))

/-! ### Rows -/

/-- The cells of elements, laid out. -/
def Laid (E : Env) (sz : Nat) (xs : List (List AV)) (us : List Value) : Prop :=
  ∀ (i : Nat) (x : List AV) (j : Nat) (c : AV), xs[i]? = some x → x[j]? = some c → ∃ u, us[i * sz + j]? = some u ∧ Rel E c u

/-- A new row. -/
theorem new_row (hs : Sim E) {e sz κ0 : Nat} {xs : List (List AV)} {us : List Value} {w1 : World} (hw1 : SameRest E.w w1) (hheap : w1.heap = E.w.heap) (hl : us.length = κ0 * sz) (hxk : xs.length ≤ κ0) (hkm : κ0 ≤ maxLen) (hpos : 0 < sz) (hlen : ∀ x ∈ xs, x.length = sz) (hone : ∀ x ∈ xs, ∀ c ∈ x, c.one = true)
    (huo : ∀ u ∈ us, u.oneCell' = true) (hr : Laid E sz xs us) (len : Nat) (hle : len ≤ xs.length) :
    ∃ E', Sim E' ∧ Ext E E' ∧ E'.w = w1.alloc (.cells us.toArray e) ∧ E'.h = hset E.h E.nx (.arr e sz xs) ∧ Rel E' (.sl E.nx 0 len) (.slice (some ⟨E.w.heap.size, 0, none⟩) len κ0) := by
  have hsame : SameRest E.w (w1.alloc (.cells us.toArray e)) := ⟨hw1.os, hw1.tape, hw1.output⟩
  have hsize : w1.heap.size = E.w.heap.size := by rw [hheap]
  have hold : ∀ b, b < E.w.heap.size → (w1.alloc (.cells us.toArray e)).heap[b]? = E.w.heap[b]? := fun b hb => by rw [alloc_old _ _ b (by omega), hheap]
  have hx := Env.add_ext (E := E) (w' := w1.alloc (.cells us.toArray e)) (o := .arr e sz xs) (blk := E.w.heap.size) (κ0 := κ0) hs hsame (by simp [hsize]) hold (Nat.le_refl _)
  refine ⟨E.add (w1.alloc (.cells us.toArray e)) (.arr e sz xs) E.w.heap.size κ0, Env.add_sim hs hsame (by simp [hsize]) hold (Nat.le_refl _) (by simp [hsize]) ?_, hx, rfl, rfl, ?_⟩
  · unfold ObjRel
    have e1 : (E.add (w1.alloc (.cells us.toArray e)) (.arr e sz xs) E.w.heap.size κ0).h E.nx = .arr e sz xs := by simp [Env.add, hset]
    have e2 : (E.add (w1.alloc (.cells us.toArray e)) (.arr e sz xs) E.w.heap.size κ0).ι E.nx = E.w.heap.size := by simp [Env.add]
    have e3 : (E.add (w1.alloc (.cells us.toArray e)) (.arr e sz xs) E.w.heap.size κ0).κ E.nx = κ0 := by simp [Env.add]
    rw [e1]
    refine ⟨us, ?_, by rw [e3]; exact hl, by rw [e3]; exact hxk, by rw [e3]; exact hkm, hpos, hlen, hone, huo, fun i x j c hx' hj => let ⟨u, hu, hr'⟩ := hr i x j c hx' hj; ⟨u, hu, hx.rel _ _ hr'⟩⟩
    rw [e2, ← hsize]
    exact alloc_new _ _
  · refine .sl _ _ _ _ _ (by simp [Env.add]) fun e' sz' xs' hh => ?_
    have e1 : (E.add (w1.alloc (.cells us.toArray e)) (.arr e sz xs) E.w.heap.size κ0).h E.nx = .arr e sz xs := by simp [Env.add, hset]
    rw [e1] at hh
    cases hh
    refine ⟨by omega, by simp [Env.add], .inr (by simp [Env.add])⟩

/-- 'fill' of a slice's literal. -/
theorem fill_slice (sz n : Nat) : ∀ (parts : List (Nat × Value)) (k : Nat) (cells : Array Value), parts.map (·.1) = (List.range' k parts.length) → (∀ p ∈ parts, p.2.cells.size = sz) → cells.size = n * sz → k + parts.length ≤ n →
    ∃ out, Instr.fill (fun i => some (i * sz, sz)) cells parts = some out ∧ out.size = cells.size ∧ (∀ idx, idx < k * sz → out[idx]? = cells[idx]?) ∧
      (∀ i p, parts[i]? = some p → ∀ j u, p.2.cells[j]? = some u → out[(k + i) * sz + j]? = some u) := by
  intro parts
  induction parts with
  | nil => intro k cells _ _ _ _; exact ⟨cells, rfl, rfl, fun _ _ => rfl, by simp⟩
  | cons p parts ih =>
    intro k cells hm hp hc hk
    obtain ⟨i0, v⟩ := p
    simp only [List.map_cons, List.length_cons, List.range'_succ, List.cons.injEq] at hm
    obtain ⟨rfl, hm⟩ := hm
    simp only [List.length_cons] at hk
    have hv : v.cells.size = sz := hp (i0, v) (by simp)
    have hb : (i0 + 1) * sz ≤ n * sz := Nat.mul_le_mul_right _ (by omega)
    have hb' : i0 * sz + sz ≤ cells.size := by rw [hc]; rw [Nat.add_mul] at hb; omega
    have hfold := fold_set v.cells.toList (i0 * sz) cells (by simp [hv]; omega)
    simp only [Array.toArray_toList] at hfold
    obtain ⟨cells', hcells'⟩ : ∃ c', c' = v.cells.zipIdx.foldl (fun (cs : Array Value) (p : Value × Nat) => cs.setIfInBounds (i0 * sz + p.2) p.1) cells := ⟨_, rfl⟩
    have hl : cells'.toList = cells.toList.take (i0 * sz) ++ v.cells.toList ++ cells.toList.drop (i0 * sz + v.cells.toList.length) := by rw [hcells']; exact hfold
    have hs' : cells'.size = cells.size := by
      have := congrArg List.length hl
      simp at this
      omega
    obtain ⟨out, ho, hos, hol, hon⟩ := ih (i0 + 1) cells' hm (fun q hq => hp q (by simp [hq])) (by omega) (by omega)
    have hget : ∀ idx : Nat, out[idx]? = out.toList[idx]? := fun idx => (Array.getElem?_toList (xs := out)).symm
    have hgc : ∀ idx : Nat, cells'[idx]? = cells'.toList[idx]? := fun idx => (Array.getElem?_toList (xs := cells')).symm
    refine ⟨out, ?_, by omega, fun idx hidx => ?_, fun i q hq j u hu => ?_⟩
    · simp only [Instr.fill]
      rw [if_neg (by simp [hv]; omega), ← hcells']
      exact ho
    · rw [hol idx (by rw [Nat.add_mul]; omega), hgc, hl, List.append_assoc, List.getElem?_append_left (by simp; omega), List.getElem?_take, if_pos hidx]
      simp
    · cases i with
      | zero =>
        simp at hq
        subst hq
        have hj : j < sz := by rw [← hv]; exact (Array.getElem?_eq_some_iff.1 hu).1
        have e1 : (List.take (i0 * sz) cells.toList).length = i0 * sz := by simp; omega
        rw [Nat.add_zero, hol _ (by rw [Nat.add_mul]; omega), hgc, hl, List.append_assoc, List.getElem?_append_right (by omega), e1, Nat.add_sub_cancel_left, List.getElem?_append_left (by rw [Array.length_toList]; omega)]
        simpa using hu
      | succ i =>
        simp at hq
        have := hon i q hq j u hu
        rw [← this]
        congr 2
        rw [show i0 + (i + 1) = i0 + 1 + i from by omega]

theorem step_bsl (hs : Sim E) {o : Oper} {t e0 : TypeId} {len : Nat} {parts : Array (Nat × Operand)} (ho : o.op = .buildSlice t len parts) (hu : P.underlying t = some (.slice e0)) {i : TypeInfo} (hi : P.info? e0 = some i) {z : AV} (hz : i.zero.bind ofConst = some z)
    (hcond : parts.toList.map (·.1) = List.range len ∧ len * i.size ≤ 16777216 ∧ 0 < i.size ∧ z.cells.length = i.size) {ps : List AX} (hps : (parts.toList.mapM fun (p : Nat × Operand) => cOpd N p.2) = some ps) (ht : TmRel E N tm a) {K : AV → Hp → Prop}
    (h : AStep P (.bsl e0 i.size ps) K tm E.h) {next : Act → World → Prop} {Q : Exit → Act → World → Prop} (hk : Goes E K a o.dst next) : o.wp P a E.w next Q := by
  obtain ⟨hp, h⟩ := h
  obtain ⟨hrange, hle, hpos, hzl⟩ := hcond
  obtain ⟨hpl, hpg⟩ := mapM_some _ _ _ hps
  have hlen : parts.toList.length = len := by have := congrArg List.length hrange; simpa using this
  -- the zero
  have hzr : ∃ zv, (zeroValue e0).run P E.w = .ok zv E.w := by
    cases hzi : i.zero with
    | none => simp [hzi] at hz
    | some zv => exact ⟨zv, by simp [zeroValue, typeInfo, hi, hzi]⟩
  obtain ⟨zv, hzr⟩ := hzr
  let vparts : List (Nat × Value) := parts.toList.map fun p => (p.1, a.eval p.2)
  have hvl : vparts.length = len := by simp [vparts, ← hlen]
  have hval : ∀ (j : Nat) (q : Nat × Operand) (ax : AX), parts.toList[j]? = some q → ps[j]? = some ax → RelL E (ax.ev tm).cells (a.eval q.2).cells.toList ∧ (∀ c ∈ (ax.ev tm).cells, c.one = true) ∧ (ax.ev tm).cells.length = i.size := by
    intro j q ax hq hax
    have hc := hpg j q ax hq hax
    obtain ⟨hf, hl⟩ := hp ax (List.mem_of_getElem? hax)
    obtain ⟨hr, h1⟩ := cells_rel (opd hc ht) hf
    exact ⟨hr, h1, hl⟩
  have hvsz : ∀ p ∈ vparts, p.2.cells.size = i.size := by
    intro p hp'
    obtain ⟨j, hj⟩ := List.getElem?_of_mem hp'
    simp only [vparts, List.getElem?_map] at hj
    cases hq : parts.toList[j]? with
    | none => simp [hq] at hj
    | some q =>
      simp [hq] at hj
      subst hj
      have hjl : j < ps.length := by rw [hpl]; exact (List.getElem?_eq_some_iff.1 hq).1
      obtain ⟨hr, h1, hl⟩ := hval j q _ hq (List.getElem?_eq_getElem hjl)
      have := hr.1
      simp at this
      simp; omega
  have hzcells : ∀ (zz : Array Value), ((Array.range (len * i.size)).map (zz[· % zz.size]!)).size = len * i.size := fun zz => by simp
  obtain ⟨zz, hzz⟩ : ∃ zz : Array Value, ((if len * i.size = 0 then pure #[] else do pure (← zeroValue e0).cells : Sem (Array Value)).run P E.w = .ok zz E.w) := by
    by_cases h0 : len * i.size = 0
    · exact ⟨#[], by simp [h0]⟩
    · exact ⟨zv.cells, by simp [h0, hzr]⟩
  obtain ⟨out, hout, hos, _, hon⟩ := fill_slice i.size len vparts 0 ((Array.range (len * i.size)).map (zz[· % zz.size]!)) (by
      simp only [vparts, List.map_map]
      rw [show ((fun x : Nat × Value => x.1) ∘ fun p : Nat × Operand => (p.1, a.eval p.2)) = fun p : Nat × Operand => p.1 from rfl, hrange, List.length_map, hlen, List.range_eq_range']) hvsz (hzcells zz) (by omega)
  have hosz : out.size = len * i.size := by rw [hos]; exact hzcells zz
  have hlaid : Laid E i.size (ps.map fun x => (x.ev tm).cells) out.toList := by
    intro k x j c hx hj
    simp only [List.getElem?_map] at hx
    cases hax : ps[k]? with
    | none => simp [hax] at hx
    | some ax =>
      simp [hax] at hx
      subst hx
      have hkl : k < parts.toList.length := by rw [← hpl]; exact (List.getElem?_eq_some_iff.1 hax).1
      have hq : parts.toList[k]? = some parts.toList[k] := List.getElem?_eq_getElem hkl
      obtain ⟨hr, h1, hl⟩ := hval k _ ax hq hax
      obtain ⟨u, hu', hru⟩ := hr.get hj
      refine ⟨u, ?_, hru⟩
      have := hon k (parts.toList[k].1, a.eval parts.toList[k].2) (by simp only [vparts, List.getElem?_map, hq]; rfl) j u (by simpa using hu')
      simpa using this
  have hmem : ∀ x ∈ ps.map (fun x => (x.ev tm).cells), x.length = i.size ∧ ∀ c ∈ x, c.one = true := by
    intro x hx
    obtain ⟨k, hk'⟩ := List.getElem?_of_mem hx
    simp only [List.getElem?_map] at hk'
    cases hax : ps[k]? with
    | none => simp [hax] at hk'
    | some ax =>
      simp [hax] at hk'
      subst hk'
      have hkl : k < parts.toList.length := by rw [← hpl]; exact (List.getElem?_eq_some_iff.1 hax).1
      obtain ⟨hr, h1, hl⟩ := hval k _ ax (List.getElem?_eq_getElem hkl) hax
      exact ⟨hl, h1⟩
  have huo : ∀ u ∈ out.toList, u.oneCell' = true := by
    intro u hu'
    obtain ⟨idx, hidx⟩ := List.getElem?_of_mem hu'
    have hil : idx < len * i.size := by rw [← hosz]; simpa using (List.getElem?_eq_some_iff.1 hidx).1
    have hd : idx / i.size < len := (Nat.div_lt_iff_lt_mul hpos).2 hil
    have hm : idx % i.size < i.size := Nat.mod_lt _ hpos
    have hpk : idx / i.size < ps.length := by omega
    have hx : (ps.map fun x => (x.ev tm).cells)[idx / i.size]? = some (ps[idx / i.size].ev tm).cells := by simp [List.getElem?_eq_getElem hpk]
    obtain ⟨hl, h1⟩ := hmem _ (List.mem_of_getElem? hx)
    have hj : (ps[idx / i.size].ev tm).cells[idx % i.size]? = some ((ps[idx / i.size].ev tm).cells[idx % i.size]'(by omega)) := List.getElem?_eq_getElem (by omega)
    obtain ⟨u', hu2, hr⟩ := hlaid _ _ _ _ hx hj
    rw [Nat.mul_comm, Nat.div_add_mod, hidx] at hu2
    cases hu2
    rw [hr.one]
    exact h1 _ (List.mem_of_getElem? hj)
  have hlenps : ps.length = len := by omega
  obtain ⟨E', s', x', hw, hh, hpr⟩ := new_row (e := e0) (κ0 := len) hs (w1 := E.w) ⟨rfl, rfl, rfl⟩ rfl (us := out.toList) (by simpa using hosz) (xs := ps.map fun x => (x.ev tm).cells) (by simp [hlenps]) (by
      have : len ≤ len * i.size := Nat.le_mul_of_pos_right _ hpos
      simp only [maxLen]; omega) hpos (fun x hx => (hmem x hx).1) (fun x hx => (hmem x hx).2) huo hlaid ps.length (by simp)
  have hn24 : ¬ (2 ^ 24 < len * i.size) := by omega
  have hrun : (execOp a.eval o).run P E.w = .ok (.value (.slice (some ⟨E.w.heap.size, 0, none⟩) ps.length len)) E'.w := by
    rw [hw]
    have hfill : Instr.fill (fun j => some (j * i.size, i.size)) ((Array.range (len * i.size)).map (zz[· % zz.size]!)) (parts.map fun (p : Nat × Operand) => (p.1, a.eval p.2)).toList = some out := by
      rw [Array.toList_map]; exact hout
    simp only [execOp, ho, Instr.buildSlice, Sem.run_bind, run_underlying hu, Result.andThen_ok, info_of hi, gt_iff_lt, if_neg hn24]
    have hzz' := hzz
    by_cases h0 : len * i.size = 0
    · simp only [h0, if_true, Sem.run_pure] at hzz'
      simp only [if_pos h0, Sem.run_pure, Result.andThen_ok, Sem.run_bind]
      cases hzz'
      rw [hfill]
      simp [newRow, hlenps]
    · simp only [if_neg h0, Sem.run_bind] at hzz'
      simp only [if_neg h0, Sem.run_pure, Result.andThen_ok, Sem.run_bind]
      rw [hzr] at hzz' ⊢
      simp at hzz'
      subst hzz'
      simp only [Result.andThen_ok, Sem.run_pure]
      rw [hfill]
      simp [newRow, hlenps]
  refine wp_value hrun (hk _ _ E' s' x' hpr ?_)
  rw [hh]
  exact h E.nx (hs.nx _ (Nat.le_refl _))

end Go.AM
