/- AM, 8: a map's look, a struct built, structs compared. -/
import Derived.Test.YtcpkdbofohkipaaKAmSound5
set_option linter.unusedVariables false
set_option linter.unusedSimpArgs false
set_option linter.unusedSimpArgs false
set_option linter.unusedVariables false
namespace Go.AM
variable {P : Program} {N : Nat} {E : Env} {tm : Tm} {a : Act}

/-! ### Maps -/

def keyDesc (ki : Bool) (d : TypeDesc) : Prop := if ki then ∃ k, d = .int k else d = .string

theorem sameNow_rel {ki : Bool} {d : TypeDesc} (hd : keyDesc ki d) {x y : AV} {u v : Value} (hx : Rel E x u) (hy : Rel E y v) {b : Bool} (h : keyEq ki x y = some b) : Instr.sameNow d u v = some b := by
  unfold keyEq at h
  split at h
  · split at h
    · rename_i hk
      cases h
      obtain ⟨k, rfl⟩ : ∃ k, d = .int k := by simpa [keyDesc] using hd
      rw [hx.int_inv, hy.int_inv]
      simp [Instr.sameNow, hk]
    · cases h
  · cases h
    have : d = .string := by simpa [keyDesc] using hd
    subst this
    rw [hx.str_inv, hy.str_inv]
    simp only [Instr.sameNow, Option.some.injEq]
    rw [beq_toListBytes, toList_mk, toList_mk]
  · cases h

/-- A map's entries. -/
def EntsRel (E : Env) (es : List (AV × AV)) (ents : List MapEntry) : Prop :=
  ents.length = es.length ∧ ∀ (i : Nat) (kv : AV × AV) (en : MapEntry), es[i]? = some kv → ents[i]? = some en → Rel E kv.1 en.key ∧ Rel E kv.2 en.val

theorem EntsRel.cons {kv : AV × AV} {es : List (AV × AV)} {ents : List MapEntry} (h : EntsRel E (kv :: es) ents) : ∃ en ents', ents = en :: ents' ∧ Rel E kv.1 en.key ∧ Rel E kv.2 en.val ∧ EntsRel E es ents' := by
  cases ents with
  | nil => simp [EntsRel] at h
  | cons en ents' =>
    obtain ⟨h1, h2⟩ := h
    obtain ⟨r1, r2⟩ := h2 0 kv en rfl rfl
    exact ⟨en, ents', rfl, r1, r2, by simpa using h1, fun i kv' en' hk he => h2 (i + 1) kv' en' (by simpa using hk) (by simpa using he)⟩

theorem findNow_rel {ki : Bool} {d : TypeDesc} (hd : keyDesc ki d) {x : AV} {u : Value} (hx : Rel E x u) : ∀ (es : List (AV × AV)) (ents : List MapEntry) (n : Nat) (r : Option AV), EntsRel E es ents → findK ki x es = some r →
    (r = none ∧ Instr.findNow d u ents n = some none) ∨ (∃ q i v, r = some q ∧ Instr.findNow d u ents n = some (some (n + i, v)) ∧ Rel E q v ∧ i < ents.length) := by
  intro es
  induction es with
  | nil =>
    intro ents n r he h
    have : ents = [] := by have := he.1; simpa using this
    subst this
    simp [findK] at h
    exact .inl ⟨h.symm, rfl⟩
  | cons kv es ih =>
    intro ents n r he h
    obtain ⟨en, ents', rfl, r1, r2, he'⟩ := he.cons
    simp only [findK] at h
    split at h
    · rename_i hk
      cases h
      refine .inr ⟨_, 0, en.val, rfl, ?_, r2, by simp⟩
      simp [Instr.findNow, sameNow_rel hd hx r1 hk]
    · rename_i hk
      rcases ih ents' (n + 1) r he' h with ⟨h1, h2⟩ | ⟨q, i, v, h1, h2, h3, h4⟩
      · exact .inl ⟨h1, by simp [Instr.findNow, sameNow_rel hd hx r1 hk, h2]⟩
      · refine .inr ⟨q, i + 1, v, h1, ?_, h3, by simpa using h4⟩
        simp only [Instr.findNow, sameNow_rel hd hx r1 hk, h2]
        congr 3
        omega
    · cases h

theorem run_checkKey (w : World) {ki : Bool} {kt : TypeId} {d : TypeDesc} (hu : P.underlying kt = some d) (hd : keyDesc ki d) (b : Bool) (v : Value) : (Instr.checkKey b 10000 kt v).run P w = .ok () w := by
  have key : ∀ n, (Instr.checkKey b (n + 1) kt v).run P w = .ok () w := by
    intro n
    cases ki with
    | false =>
      have : d = .string := by simpa [keyDesc] using hd
      subst this
      simp [Instr.checkKey, run_underlying hu]
    | true =>
      obtain ⟨k, rfl⟩ : ∃ k, d = .int k := by simpa [keyDesc] using hd
      simp [Instr.checkKey, run_underlying hu]
  exact key 9999

theorem zeroOf_rel (E : Env) {t : TypeId} {z : AV} (h : zeroOf P t = some z) (w : World) : ∃ v, (zeroValue t).run P w = .ok v w ∧ Rel E z v := by
  unfold zeroOf at h
  cases hi : P.info? t with
  | none => simp [hi] at h
  | some i =>
    cases hz : i.zero with
    | none => simp [hi, hz] at h
    | some v =>
      simp [hi, hz] at h
      exact ⟨v, by simp [zeroValue, typeInfo, hi, hz], ofConst_rel E h⟩

theorem map_ents (hs : Sim E) {id : Nat} {es : List (AV × AV)} {v : Value} (h : Rel E (.mp id) v) (hh : E.h id = .map es) :
    ∃ (ents : Array MapEntry) (clk : Nat), v = .map (some (E.ι id)) ∧ E.w.heap[E.ι id]? = some (.map ents clk) ∧ EntsRel E es ents.toList := by
  have ob := hs.obj id
  unfold ObjRel at ob
  rw [hh] at ob
  obtain ⟨ents, clk, hb, hsz, hr⟩ := ob
  cases h with
  | mp _ r hn hp => exact ⟨ents, clk, by rw [hp es hh], hb, by simpa using hsz, fun i kv en hk he => hr i kv en hk (by simpa using he)⟩

theorem yields_look (hs : Sim E) {o : Oper} {t kt et : TypeId} {m k : Operand} {ok : Bool} (ho : o.op = .lookup t m k ok) (hu : P.underlying t = some (.map kt et)) {d : TypeDesc} (hk : P.underlying kt = some d) {ki : Bool} (hd : keyDesc ki d) {z : AV} (hz : zeroOf P et = some z)
    {am ak : AX} (hm : cOpd N m = some am) (hkk : cOpd N k = some ak) (ht : TmRel E N tm a) {r : AV} (h : apure (.look ki z ok am ak) tm E.h = some r) : Yields P E a o r := by
  have hvm := opd hm ht
  have hvk := opd hkk ht
  simp only [apure] at h
  generalize am.ev tm = u at *
  generalize ak.ev tm = q at *
  obtain ⟨zv, hzr, hzrel⟩ := zeroOf_rel (P := P) E hz E.w
  have fin : ∀ (es : List (AV × AV)) (ents : Array MapEntry), EntsRel E es ents.toList → (a.eval m = .map none ∧ ents = #[] ∨ ∃ g clk, a.eval m = .map (some g) ∧ E.w.heap[g]? = some (.map ents clk)) →
      ∀ rr, findK ki q es = some rr → r = (if ok then .tup [rr.getD z, .bool rr.isSome] else rr.getD z) → Yields P E a o r := by
    intro es ents he hmm rr hf hr
    have hfk : ∃ v b, (Instr.findKey kt (a.eval k) ents.toList).run P E.w = .ok b E.w ∧ rr.isSome = b.isSome ∧ Rel E (rr.getD z) v ∧ (b = none → v = zv) ∧ (∀ i x, b = some (i, x) → v = x) := by
      rcases findNow_rel hd hvk es ents.toList 0 rr he hf with ⟨h1, h2⟩ | ⟨q', i, v, h1, h2, h3, _⟩
      · subst h1
        exact ⟨zv, none, by simp [Instr.findKey, run_underlying hk, h2], rfl, hzrel, (fun _ => rfl), (fun _ _ h => by cases h)⟩
      · subst h1
        exact ⟨v, some (0 + i, v), by simp [Instr.findKey, run_underlying hk, h2], rfl, h3, (fun h => by cases h), (fun i x h => by simp at h; exact h.2)⟩
    obtain ⟨v, b, hfr, hb1, hb2, hb3, hb4⟩ := hfk
    have hres : Rel E r (if ok then .tuple #[v, .bool b.isSome] else v) := by
      subst hr
      cases ok
      · simpa using hb2
      · have : Rel E (.tup [rr.getD z, .bool rr.isSome]) (.tuple [v, .bool b.isSome].toArray) := by
          refine .tup _ [v, .bool b.isSome] rfl fun j c u hc hu => ?_
          match j with
          | 0 => simp at hc hu; subst hc; subst hu; exact hb2
          | 1 => simp at hc hu; subst hc; subst hu; rw [hb1]; exact .bool _
          | j + 2 => simp at hc
        simpa using this
    refine ⟨_, ?_, hres⟩
    rcases hmm with ⟨h1, h2⟩ | ⟨g, clk, h1, h2⟩
    · subst h2
      cases b with
      | none =>
        have := hb3 rfl
        subst this
        cases ok <;> simp_all [execOp, ho, Instr.lookup, run_underlying hu, run_checkKey (P := P) E.w hk hd, hfr, hzr]
      | some x =>
        obtain ⟨i, x⟩ := x
        have := hb4 i x rfl
        subst this
        cases ok <;> simp_all [execOp, ho, Instr.lookup, run_underlying hu, run_checkKey (P := P) E.w hk hd, hfr, hzr]
    · have hg : (getObj g).run P E.w = .ok (.map ents clk) E.w := by simp [getObj, Sem.run, h2]
      cases b with
      | none =>
        have := hb3 rfl
        subst this
        cases ok <;> simp [execOp, ho, h1, hg, Instr.lookup, run_underlying hu, run_checkKey (P := P) E.w hk hd, hfr, hzr]
      | some x =>
        obtain ⟨i, x⟩ := x
        have := hb4 i x rfl
        subst this
        cases ok <;> simp [execOp, ho, h1, hg, Instr.lookup, run_underlying hu, run_checkKey (P := P) E.w hk hd, hfr, hzr]
  split at h
  · cases h
  · rename_i es hes
    split at h
    · cases h
    · rename_i rr hf
      split at hes
      · cases hes
        exact fin [] #[] ⟨rfl, by simp⟩ (.inl ⟨hvm.nilm_inv, rfl⟩) rr hf (by simpa using h.symm)
      · split at hes
        · rename_i id _ es' hh
          cases hes
          obtain ⟨ents, clk, e1, hb, he⟩ := map_ents hs hvm hh
          exact fin _ ents he (.inr ⟨_, clk, e1, hb⟩) rr hf (by simpa using h.symm)
        · cases hes
      · cases hes

/-! ### A struct built -/

theorem fold_set (l : List Value) : ∀ (off : Nat) (cs : Array Value), off + l.length ≤ cs.size →
    ((l.toArray.zipIdx.foldl (fun (cs : Array Value) (p : Value × Nat) => cs.setIfInBounds (off + p.2) p.1) cs).toList = cs.toList.take off ++ l ++ cs.toList.drop (off + l.length)) := by
  intro off cs hle
  have key : ∀ (l : List Value) (k : Nat) (cs : Array Value), off + k + l.length ≤ cs.size →
      ((l.zipIdx k).foldl (fun (cs : Array Value) (p : Value × Nat) => cs.setIfInBounds (off + p.2) p.1) cs).toList = cs.toList.take (off + k) ++ l ++ cs.toList.drop (off + k + l.length) := by
    intro l
    induction l with
    | nil => intro k cs _; simp
    | cons v l ih =>
      intro k cs hle
      rw [List.zipIdx_cons, List.foldl_cons]
      simp only [List.length_cons] at hle
      rw [ih (k + 1) (cs.setIfInBounds (off + k) v) (by simp; omega)]
      rw [Array.toList_setIfInBounds]
      have hk : off + k < cs.toList.length := by simp; omega
      apply List.ext_getElem?
      intro j
      simp only [List.append_assoc, List.length_cons]
      rcases Nat.lt_trichotomy j (off + k) with h | h | h
      · rw [List.getElem?_append_left (by simp; omega), List.getElem?_append_left (by simp; omega), List.getElem?_take, List.getElem?_take, if_pos (by omega), if_pos (by omega), List.getElem?_set_ne (by omega)]
      · subst h
        rw [List.getElem?_append_left (by simp; omega), List.getElem?_append_right (by simp; omega), List.getElem?_take, if_pos (by omega), List.getElem?_set_self (by simpa using hk)]
        have e0 : off + k - (cs.toList.take (off + k)).length = 0 := by simp; omega
        rw [e0]; rfl
      · have e1 : (List.take (off + (k + 1)) (cs.toList.set (off + k) v)).length = off + k + 1 := by simp; omega
        have e2 : (List.take (off + k) cs.toList).length = off + k := by simp; omega
        rw [List.getElem?_append_right (l₁ := List.take (off + (k + 1)) (cs.toList.set (off + k) v)) (by omega), List.getElem?_append_right (l₁ := List.take (off + k) cs.toList) (by omega), e1, e2]
        obtain ⟨j', rfl⟩ : ∃ j', j = off + k + 1 + j' := ⟨j - (off + k + 1), by omega⟩
        have e3 : off + k + 1 + j' - (off + k + 1) = j' := by omega
        have e4 : off + k + 1 + j' - (off + k) = j' + 1 := by omega
        rw [e3, e4]
        rw [List.cons_append, List.getElem?_cons_succ]
        by_cases hj : j' < l.length
        · rw [List.getElem?_append_left hj, List.getElem?_append_left hj]
        · rw [List.getElem?_append_right (by omega), List.getElem?_append_right (by omega), List.getElem?_drop, List.getElem?_drop, List.getElem?_set_ne (by omega)]
          congr 1
          omega
  have := key l 0 cs (by simpa using hle)
  simp only [Nat.add_zero] at this
  rw [← this, ← Array.foldl_toList, Array.toList_zipIdx]

end Go.AM
