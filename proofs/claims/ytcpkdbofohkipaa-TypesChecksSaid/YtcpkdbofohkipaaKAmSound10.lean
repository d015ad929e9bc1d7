/- AM, 13: appends, makes, maps written, conversions that make memory, calls. -/
import Derived.Test.YtcpkdbofohkipaaKAmSound9
set_option linter.unusedVariables false
set_option linter.unusedSimpArgs false
set_option linter.unusedSimpArgs false
set_option linter.unusedVariables false
namespace Go.AM
variable {P : Program} {N : Nat} {E : Env} {tm : Tm} {a : Act}

theorem firstCells_empty {w : World} (size : Nat) (b : Option Addr) (cap : Nat) : (Builtin.firstCells size 0 (.slice b 0 cap)).run P w = .ok #[] w := by
  cases b <;> simp [Builtin.firstCells, loadCells, loadCellsFrom]

theorem step_app (hs : Sim E) {o : Oper} {t e0 : TypeId} {s x : Operand} (ho : o.op = .call { callee := .builtin .append, args := #[s, x], argTypes := #[t, t] }) (hu : P.underlying t = some (.slice e0)) {i : TypeInfo} (hi : P.info? e0 = some i) {z : AV} (hz : i.zero.bind ofConst = some z) (hzf : z.flat = true) (hzl : z.cells.length = i.size) (hpos : 0 < i.size) (hby : 0 < i.bytes)
    {as ax : AX} (has : cOpd N s = some as) (hax : cOpd N x = some ax) (ht : TmRel E N tm a) {K : AV → Hp → Prop} (h : AStep P (.app e0 i.size i.bytes as ax) K tm E.h) {next : Act → World → Prop} {Q : Exit → Act → World → Prop} (hk : Goes E K a o.dst next) : o.wp P a E.w next Q := by
  have hvs := opd has ht
  have hvx := opd hax ht
  simp only [AStep] at h
  split at h
  · exact h.elim
  · rename_i ys hys
    obtain ⟨news, hsrc, hnl, hyl, hy1, hln, hno⟩ := src_of hs hu hpos hys hvx
    split at h
    · rename_i hev
      rw [hev] at hvs
      obtain ⟨b, e1⟩ := hvs.nl_inv
      split at h
      · -- nothing to nothing
        have hn0 : news = [] := List.eq_nil_of_length_eq_zero (by simpa using hnl)
        subst hn0
        have hrun : (execOp a.eval o).run P E.w = .ok (.value (.slice b 0 0)) E.w := by
          have : (Builtin.append_ #[t, t] o.type #[.slice b 0 0, a.eval x]).run P E.w = .ok (.slice b 0 0) E.w := by
            have hlen := hsrc.len
            have hcl := hsrc.cells
            simp only [List.length_nil] at hlen hcl
            cases b <;> simp [Builtin.append_, run_underlying hu, sizeOf, typeInfo, hi, hlen, hcl, storeCells]
          simp only [execOp, ho, resolve, invoke, builtin, Sem.run_bind, Sem.run_pure, Result.andThen_ok, List.map_toArray, List.map_cons, List.map_nil, e1, this]
        exact wp_value hrun (hk _ _ E hs (Ext.refl E) (.nl _) h)
      · rename_i y ys'
        obtain ⟨hmax, hbytes, h⟩ := h
        obtain ⟨E', v, s', x', hrun, hh, hpr⟩ := app_grow hs ho hu hi hz hzf hzl hpos hby (n := 0) (cap := 0) e1 (olds := []) (xs := []) rfl (by simp) (firstCells_empty _ _ _) (by simp) (by simp) (by simp) (by intro i x j c hx; simp at hx) hsrc hnl hyl hy1 hln hno (by simp) (by simpa using hmax) (by simpa using hbytes)
        refine wp_value hrun (hk _ _ E' s' x' hpr ?_)
        rw [hh]
        have := h E.nx (hs.nx _ (Nat.le_refl _))
        simpa using this
    · rename_i id off len hev
      rw [hev] at hvs
      obtain ⟨hoff, h⟩ := h
      subst hoff
      split at h
      · rename_i e' sz' xs hh
        obtain ⟨rfl, rfl, hle, hmax, hbytes, h⟩ := h
        obtain ⟨b, cap, e1, hn, hp⟩ := hvs.sl_inv
        obtain ⟨h1, h2, h3⟩ := hp _ _ xs hh
        have hb : b = some ⟨E.ι id, 0, none⟩ := by
          rcases h3 with ⟨h4, _⟩ | h4
          · exact absurd rfl h4
          · simpa using h4
        subst hb
        have hcap : cap = E.κ id := by omega
        have hd : E.h id ≠ .dead := by rw [hh]; simp
        have hidn : id < E.nx := hs.id_lt hd
        obtain ⟨us, hblk, hul, hxk, hkm, hpos', hlen, hone, huo, hru⟩ := arr_row hs hh
        have hlaid : Laid E i.size xs us := hru
        have hbd : len * i.size ≤ us.length := by rw [hul]; exact Nat.mul_le_mul_right _ (by omega)
        have hxl : (xs.take len).length = len := by simp; omega
        by_cases hroom : len + ys.length ≤ cap
        · -- there is room
          have hfit : len * i.size + news.length ≤ us.length := by rw [hnl, hul, ← Nat.add_mul]; exact Nat.mul_le_mul_right _ (by omega)
          have hrunA := run_append_row (P := P) (ty := o.type) hu hi hblk hsrc hroom hfit
          let us2 := us.take (len * i.size) ++ news ++ us.drop (len * i.size + news.length)
          have hx' := renew_ext (o := .arr e' i.size (xs.take len ++ ys)) (κ0 := E.κ id) hs hd (w' := E.w.setRow (E.ι id) us2.toArray) ⟨rfl, rfl, rfl⟩ (by simp) (fun b hb => setRow_other _ _ _ _ hb)
          have hul2 : us2.length = us.length := by simp [us2]; omega
          have hs' := renew_sim (o := .arr e' i.size (xs.take len ++ ys)) (κ0 := E.κ id) hs hd (w' := E.w.setRow (E.ι id) us2.toArray) ⟨rfl, rfl, rfl⟩ (by simp) (fun b hb => setRow_other _ _ _ _ hb) (by
            unfold ObjRel
            have e0 : hset (hset E.h id .dead) E.nx (.arr e' i.size (xs.take len ++ ys)) E.nx = .arr e' i.size (xs.take len ++ ys) := by simp [hset]
            simp only [e0, if_true]
            refine ⟨us2, setRow_heap _ _ _ _ _ _ hblk, by omega, by simp; omega, hkm, hpos, fun y hy => ?_, fun y hy => ?_, fun u hu' => ?_, ?_⟩
            · rcases List.mem_append.1 hy with h | h
              · exact hlen y (List.mem_of_mem_take h)
              · exact hyl y h
            · rcases List.mem_append.1 hy with h | h
              · exact hone y (List.mem_of_mem_take h)
              · exact hy1 y h
            · rcases List.mem_append.1 hu' with h | h
              · rcases List.mem_append.1 h with h | h
                · exact huo u (List.mem_of_mem_take h)
                · exact hno u h
              · exact huo u (List.mem_of_mem_drop h)
            · have := ((hlaid.takes (n := len) hlen).append hln (by rw [List.length_take, hxl]; omega) (fun y hy => hlen y (List.mem_of_mem_take hy))).ext (vs := us.drop (len * i.size + news.length))
              exact this.mono hx')
          have hrun : (execOp a.eval o).run P E.w = .ok (.value (.slice (some ⟨E.ι id, 0, none⟩) (len + ys.length) cap)) (E.w.setRow (E.ι id) us2.toArray) := by
            simp only [execOp, ho, resolve, invoke, builtin, Sem.run_bind, Sem.run_pure, Result.andThen_ok, List.map_toArray, List.map_cons, List.map_nil, e1, hrunA]
            rfl
          refine wp_value hrun (hk _ _ _ hs' hx' (.sl E.nx 0 (len + ys.length) _ cap (by simp) fun e'' sz'' xs'' hh'' => ?_) (h E.nx (hs.nx _ (Nat.le_refl _))))
          have e0 : hset (hset E.h id .dead) E.nx (.arr e' i.size (xs.take len ++ ys)) E.nx = .arr e' i.size (xs.take len ++ ys) := by simp [hset]
          simp only [e0] at hh''
          cases hh''
          refine ⟨by simp; omega, by simp; omega, .inr (by simp)⟩
        · -- a new row
          have hold : (Builtin.firstCells i.size len (.slice (some ⟨E.ι id, 0, none⟩) len cap)).run P E.w.drew = .ok (us.take (len * i.size)).toArray E.w.drew := by
            have := run_firstCells_some (P := P) E.w.drew i.size len ⟨E.ι id, 0, none⟩ len cap (us.take (len * i.size)) (by simp; omega) (fun j v hv => by
              rw [Addr.add_mid, Nat.zero_add]
              have : E.w.drew.cell? ⟨E.ι id, j, none⟩ = E.w.cell? ⟨E.ι id, j, none⟩ := rfl
              rw [this, cell_row hblk]
              rw [List.getElem?_take] at hv
              split at hv
              · exact hv
              · cases hv)
            exact this
          obtain ⟨E', v, s', x', hrun, hh', hpr⟩ := app_grow hs ho hu hi hz hzf hzl hpos hby (n := len) (cap := cap) e1 (olds := us.take (len * i.size)) (xs := xs.take len) hxl (by simp; omega) hold (fun y hy => hlen y (List.mem_of_mem_take hy)) (fun y hy => hone y (List.mem_of_mem_take hy)) (fun u hu' => huo u (List.mem_of_mem_take hu')) (hlaid.takes hlen) hsrc hnl hyl hy1 hln hno (by omega) hmax hbytes
          obtain ⟨x2, s2⟩ := forget' s' (h' := hset (hset E.h id .dead) E.nx (.arr e' i.size (xs.take len ++ ys))) (fun k => by
            rw [hh']
            simp only [hset]
            split
            · exact .inl rfl
            · split
              · exact .inr rfl
              · exact .inl rfl)
          have hgo := hk _ _ _ s2 (x'.trans x2) (x2.rel _ _ hpr) (h E.nx (hs.nx _ (Nat.le_refl _)))
          exact wp_value hrun hgo
      · exact h.elim
    · exact h.elim

theorem madeCells_get {z : Array Value} {n sz i j : Nat} (hz : z.size = sz) (hi : i < n) (hj : j < sz) : (madeCells z (n * sz)).toList[i * sz + j]? = z.toList[j]? := by
  have hlt : i * sz + j < n * sz := by
    have : (i + 1) * sz ≤ n * sz := Nat.mul_le_mul_right _ (by omega)
    rw [Nat.add_mul] at this; omega
  have hm : (i * sz + j) % z.size = j := by rw [hz, Nat.add_comm, Nat.add_mul_mod_self_right, Nat.mod_eq_of_lt hj]
  simp only [madeCells, Array.toList_map, List.getElem?_map, Array.toList_range]
  rw [List.getElem?_range hlt]
  simp [hm, getElem!_pos z j (by omega), List.getElem?_eq_getElem (show j < z.toList.length by simpa [hz] using hj), show j < z.size by omega]

theorem step_mks (hs : Sim E) {o : Oper} {t e0 : TypeId} {l c : Operand} (ho : o.op = .makeSlice t l c) (hu : P.underlying t = some (.slice e0)) {i : TypeInfo} (hi : P.info? e0 = some i) {z : AV} (hz : i.zero.bind ofConst = some z) (hzf : z.flat = true) (hzl : z.cells.length = i.size) (hpos : 0 < i.size)
    {al ac : AX} (hl : cOpd N l = some al) (hc : cOpd N c = some ac) (ht : TmRel E N tm a) {K : AV → Hp → Prop} (h : AStep P (.mks e0 i.size i.bytes z.cells al ac) K tm E.h) {next : Act → World → Prop} {Q : Exit → Act → World → Prop} (hk : Goes E K a o.dst next) : o.wp P a E.w next Q := by
  have hvl := opd hl ht
  have hvc := opd hc ht
  simp only [AStep] at h
  split at h
  · rename_i k1 n k2 m hev1 hev2
    rw [hev1] at hvl
    rw [hev2] at hvc
    obtain ⟨h0, h1, h2, h3, h⟩ := h
    obtain ⟨zv, hzi, hzr⟩ : ∃ zv, i.zero = some zv ∧ Rel E z zv := by
      cases hzi : i.zero with
      | none => simp [hzi] at hz
      | some zv => simp [hzi] at hz; exact ⟨zv, rfl, ofConst_rel E hz⟩
    obtain ⟨hzc, hz1⟩ := cells_rel hzr hzf
    have hzs : zv.cells.size = i.size := by have := hzc.1; simp at this; omega
    have hm : (m.toNat : Int) = m := Int.toNat_of_nonneg (by omega)
    have hby : (i.bytes : Int) * m ≤ 281474976710656 := by
      have : ((i.bytes * m.toNat : Nat) : Int) ≤ 140737488355328 := by omega
      rw [Int.natCast_mul, hm] at this
      omega
    have hrun0 := run_make (P := P) E.w t e0 i zv hu hi hzi k1 k2 n m h0 h1 hby (by omega)
    have hget : ∀ (idx j : Nat) (c : AV), idx < m.toNat → z.cells[j]? = some c → ∃ u, (madeCells zv.cells (m.toNat * i.size)).toList[idx * i.size + j]? = some u ∧ Rel E c u := by
      intro idx j c hidx hj
      obtain ⟨u, hu', hr⟩ := hzc.get hj
      have hjl : j < i.size := by rw [← hzl]; exact (List.getElem?_eq_some_iff.1 hj).1
      exact ⟨u, by rw [madeCells_get hzs hidx hjl]; exact hu', hr⟩
    obtain ⟨E', s', x', hw, hh, hpr⟩ := new_row (e := e0) (κ0 := m.toNat) hs (w1 := E.w) ⟨rfl, rfl, rfl⟩ rfl (us := (madeCells zv.cells (m.toNat * i.size)).toList) (by simp [size_madeCells]) (xs := List.replicate m.toNat z.cells) (by simp) (by simp only [maxLen]; omega) hpos
      (fun x hx => by rw [List.eq_of_mem_replicate hx]; exact hzl) (fun x hx => by rw [List.eq_of_mem_replicate hx]; exact hz1) (fun u hu' => by
        obtain ⟨k, hk'⟩ := List.getElem?_of_mem hu'
        have hkl : k < m.toNat * i.size := by have := (List.getElem?_eq_some_iff.1 hk').1; simpa [size_madeCells] using this
        have hd : k / i.size < m.toNat := (Nat.div_lt_iff_lt_mul hpos).2 hkl
        have hmd : k % i.size < i.size := Nat.mod_lt _ hpos
        obtain ⟨u', hu2, hr⟩ := hget (k / i.size) (k % i.size) _ hd (List.getElem?_eq_getElem (by omega))
        rw [Nat.mul_comm (k / i.size), Nat.div_add_mod, hk'] at hu2
        cases hu2
        rw [hr.one]
        exact hz1 _ (List.getElem_mem _)) (fun idx x j c hx hj => by
        rw [List.getElem?_replicate] at hx
        split at hx
        · cases hx; exact hget idx j c ‹_› hj
        · cases hx) n.toNat (by simp; omega)
    have hrun : (execOp a.eval o).run P E.w = .ok (.value (.slice (some ⟨E.w.heap.size, 0, none⟩) n.toNat m.toNat)) E'.w := by
      rw [hw]
      simp only [execOp, ho, Sem.run_bind, hvl.int_inv, hvc.int_inv, hrun0, Result.andThen_ok, Sem.run_pure, Array.toArray_toList]
    refine wp_value hrun (hk _ _ E' s' x' hpr ?_)
    rw [hh]
    exact h E.nx (hs.nx _ (Nat.le_refl _))
  · exact h.elim

theorem step_mkm (hs : Sim E) {o : Oper} {t : TypeId} (ho : o.op = .makeMap t none) {K : AV → Hp → Prop} (h : AStep P .mkm K tm E.h) {next : Act → World → Prop} {Q : Exit → Act → World → Prop} (hk : Goes E K a o.dst next) : o.wp P a E.w next Q := by
  have hx := Env.add_ext (E := E) (w' := E.w.alloc (.map #[] 0)) (o := .map []) (blk := E.w.heap.size) (κ0 := 0) hs ⟨rfl, rfl, rfl⟩ (by simp) (fun b hb => alloc_old _ _ b hb) (Nat.le_refl _)
  have hs' := Env.add_sim (E := E) (w' := E.w.alloc (.map #[] 0)) (o := .map []) (blk := E.w.heap.size) (κ0 := 0) hs ⟨rfl, rfl, rfl⟩ (by simp) (fun b hb => alloc_old _ _ b hb) (Nat.le_refl _) (by simp) (by
    unfold ObjRel
    have e1 : (E.add (E.w.alloc (.map #[] 0)) (.map []) E.w.heap.size 0).h E.nx = .map [] := by simp [Env.add, hset]
    rw [e1]
    refine ⟨#[], 0, ?_, rfl, by simp⟩
    have e2 : (E.add (E.w.alloc (.map #[] 0)) (.map []) E.w.heap.size 0).ι E.nx = E.w.heap.size := by simp [Env.add]
    rw [e2]
    exact alloc_new _ _)
  have hrun : (execOp a.eval o).run P E.w = .ok (.value (.map (some E.w.heap.size))) (E.w.alloc (.map #[] 0)) := by
    simp [execOp, ho, Instr.makeMap]
  refine wp_value hrun (hk (.mp E.nx) _ _ hs' hx (.mp _ _ (by simp [Env.add]) fun es hes => by simp [Env.add]) (h E.nx (hs.nx _ (Nat.le_refl _))))

/-! ### A map written -/

theorem putK_rel {ki : Bool} {d : TypeDesc} (hd : keyDesc ki d) {x y : AV} {u v : Value} (hx : Rel E x u) (hy : Rel E y v) : ∀ (es es' : List (AV × AV)) (ents : List MapEntry) (n : Nat), EntsRel E es ents → putK ki x y es = some es' →
    (Instr.findNow d u ents n = some none ∧ es' = es ++ [(x, y)]) ∨
    (∃ i en, Instr.findNow d u ents n = some (some (n + i, en.val)) ∧ ents[i]? = some en ∧ i < es.length ∧ es' = es.set i (x, y) ∧ (∀ m, Instr.sameBits m en.key u = true)) := by
  intro es
  induction es with
  | nil =>
    intro es' ents n he h
    have : ents = [] := by have := he.1; simpa using this
    subst this
    simp [putK] at h
    exact .inl ⟨rfl, by simp [← h]⟩
  | cons kv es ih =>
    intro es' ents n he h
    obtain ⟨en, ents', rfl, r1, r2, he'⟩ := he.cons
    simp only [putK] at h
    split at h
    · rename_i hk
      cases h
      refine .inr ⟨0, en, by simp [Instr.findNow, sameNow_rel hd hx r1 hk], rfl, by simp, rfl, fun m => ?_⟩
      unfold keyEq at hk
      split at hk
      · rename_i a1 b1 c1 d1 hkv
        split at hk
        · rename_i hkk
          simp at hk
          rw [hkv] at r1
          rw [r1.int_inv, hx.int_inv]
          simp [Instr.sameBits, hkk, hk]
        · cases hk
      · rename_i hkv
        simp at hk
        rw [hkv] at r1
        rw [r1.str_inv, hx.str_inv]
        subst hk
        simp only [Instr.sameBits]
        rw [beq_toListBytes]
        simp
      · cases hk
    · rename_i hk
      cases hp : putK ki x y es with
      | none => simp [hp] at h
      | some es2 =>
        simp [hp] at h
        subst h
        rcases ih es2 ents' (n + 1) he' hp with ⟨h1, h2⟩ | ⟨i, en', h1, h2, h3, h4, h5⟩
        · exact .inl ⟨by simp [Instr.findNow, sameNow_rel hd hx r1 hk, h1], by simp [h2]⟩
        · refine .inr ⟨i + 1, en', ?_, by simpa using h2, by simpa using h3, by simp [h4], h5⟩
          simp only [Instr.findNow, sameNow_rel hd hx r1 hk, h1]
          congr 3
          omega
    · cases h

theorem step_mup (hs : Sim E) {o : Oper} {t kt et : TypeId} {m k v : Operand} (ho : o.op = .mapUpdate t m k v ∨ o.op = .insert t m k v) (hu : P.underlying t = some (.map kt et)) {d : TypeDesc} (hkt : P.underlying kt = some d) {ki : Bool} (hd : keyDesc ki d)
    {am ak av : AX} (hm : cOpd N m = some am) (hkk : cOpd N k = some ak) (hv : cOpd N v = some av) (ht : TmRel E N tm a) {K : AV → Hp → Prop} (h : AStep P (.mup ki am ak av) K tm E.h) {next : Act → World → Prop} {Q : Exit → Act → World → Prop} (hk : Goes E K a o.dst next) : o.wp P a E.w next Q := by
  have hvm := opd hm ht
  have hvk := opd hkk ht
  have hvv := opd hv ht
  simp only [AStep] at h
  split at h
  · rename_i id hev
    rw [hev] at hvm
    split at h
    · rename_i es hh
      split at h
      · rename_i es' hp
        obtain ⟨ents, clk, e1, hb, he⟩ := map_ents hs hvm hh
        have hd' : E.h id ≠ .dead := by rw [hh]; simp
        have hlt := hs.lt id hd'
        have hst : Shape (E.h id) (.map es') := by rw [hh]; exact ⟨(fun _ h => by cases h), (fun _ _ _ h => by cases h), fun _ _ => ⟨_, rfl⟩⟩
        have hg : (getObj (E.ι id)).run P E.w = .ok (.map ents clk) E.w := by simp [getObj, Sem.run, hb]
        -- the new entries
        have fin : ∀ (ents' : Array MapEntry) (clk' : Nat), (execOp a.eval o).run P E.w = .ok .skip { E.w with heap := E.w.heap.setIfInBounds (E.ι id) (.map ents' clk') } → EntsRel E es' ents'.toList → o.wp P a E.w next Q := by
          intro ents' clk' hrun hent
          let w' : World := { E.w with heap := E.w.heap.setIfInBounds (E.ι id) (.map ents' clk') }
          have hold : ∀ b, b ≠ E.ι id → w'.heap[b]? = E.w.heap[b]? := fun b hb' => Array.getElem?_setIfInBounds_ne (Ne.symm hb')
          have hx' := Env.turn_ext hs hd' hst (w' := w') ⟨rfl, rfl, rfl⟩ (by simp [w']) hold
          have hs' := Env.turn_sim hs hd' hst (w' := w') ⟨rfl, rfl, rfl⟩ (by simp [w']) hold (by
            unfold ObjRel
            have e0 : (E.turn w' id (.map es')).h id = .map es' := by simp [Env.turn, hset]
            rw [e0]
            refine ⟨ents', clk', ?_, by have := hent.1; simpa using this, fun i kv en hk' he' => ?_⟩
            · show (E.w.heap.setIfInBounds (E.ι id) _)[E.ι id]? = _
              rw [Array.getElem?_setIfInBounds_self]
              simp [hlt]
            · obtain ⟨r1, r2⟩ := hent.2 i kv en hk' (by simpa using he')
              exact ⟨hx'.rel _ _ r1, hx'.rel _ _ r2⟩)
          exact wp_skipped hrun (hk _ _ _ hs' hx' (Rel.undef _) (by simpa [Env.turn] using h))
        have hck := run_checkKey (P := P) E.w hkt hd false (a.eval k)
        have hset : ∀ o' : Obj, (setObj (E.ι id) o').run P E.w = .ok () { E.w with heap := E.w.heap.setIfInBounds (E.ι id) o' } := fun o' => by simp [setObj, Sem.run, hb]
        rcases putK_rel hd hvk hvv es es' ents.toList 0 he hp with ⟨h1, h2⟩ | ⟨i, en, h1, h2, h3, h4, h5⟩
        · have hfk : (Instr.findKey kt (a.eval k) ents.toList).run P E.w = .ok none E.w := by simp [Instr.findKey, run_underlying hkt, h1]
          refine fin (ents.push { key := a.eval k, val := a.eval v, born := clk }) (clk + 1) ?_ ?_
          · rcases ho with ho | ho <;> simp [execOp, ho, e1, Instr.mapUpdate, run_underlying hu, hg, hck, hfk, hset]
          · subst h2
            refine ⟨by have := he.1; simp at this ⊢; omega, fun i kv en hk' he' => ?_⟩
            have hle := he.1
            simp only [Array.toList_push] at he'
            by_cases hi : i < es.length
            · rw [List.getElem?_append_left hi] at hk'
              rw [List.getElem?_append_left (by omega)] at he'
              exact he.2 i kv en hk' he'
            · rw [List.getElem?_append_right (by omega)] at hk' he'
              have hi0 : i - es.length = 0 := by
                have := (List.getElem?_eq_some_iff.1 hk').1
                simp at this
                omega
              rw [hi0] at hk'
              rw [show i - ents.toList.length = 0 by omega] at he'
              simp at hk' he'
              subst hk'; subst he'
              exact ⟨hvk, hvv⟩
        · have hfk : (Instr.findKey kt (a.eval k) ents.toList).run P E.w = .ok (some (i, en.val)) E.w := by simp [Instr.findKey, run_underlying hkt, h1]
          have h2' : ents[i]? = some en := by simpa using h2
          have hsb : Instr.sameBits 10000 en.key (a.eval k) = true := h5 10000
          refine fin (ents.modify i fun e => { e with key := a.eval k, val := a.eval v }) clk ?_ ?_
          · rcases ho with ho | ho <;> simp [execOp, ho, e1, Instr.mapUpdate, run_underlying hu, hg, hck, hfk, hset, h2', Instr.keyThatStays, hsb]
          · subst h4
            refine ⟨by have := he.1; simp at this ⊢; omega, fun j kv en' hk' he' => ?_⟩
            simp only [Array.getElem?_toList, Array.getElem?_modify] at he'
            rw [List.getElem?_set] at hk'
            by_cases hij : i = j
            · subst hij
              simp [h3] at hk'
              simp [h2'] at he'
              subst hk'; subst he'
              exact ⟨hvk, hvv⟩
            · rw [if_neg hij] at hk' he'
              exact he.2 j kv en' hk' (by simpa using he')
      · exact h.elim
    · exact h.elim
  · exact h.elim

end Go.AM
