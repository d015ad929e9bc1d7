/- AM, 12: stores, appends, makes, maps written, calls. -/
import Derived.Test.YtghidedifiolbaaGreatK02
set_option linter.unusedVariables false
set_option linter.unusedSimpArgs false
namespace Go.AM
variable {P : Program} {N : Nat} {E : Env} {tm : Tm} {a : Act}

theorem run_storeVar_row' {w : World} {t : TypeId} {i : TypeInfo} (hi : P.info? t = some i) {g off : Nat} {us : List Value} {e : TypeId} (hg : w.heap[g]? = some (.cells us.toArray e (0, 0))) {v : Value} (hv : v.cells.size = i.size) (hle : off + v.cells.size ≤ us.length) (h1 : ∀ u ∈ v.cells.toList, u.oneCell' = true) :
    (storeVar t ⟨g, off, none⟩ v).run P w = .ok () (w.setRow g (us.take off ++ v.cells.toList ++ us.drop (off + v.cells.size)).toArray) := by
  have := run_storeCells_at P g off e v.cells.toList 0 us.toArray w hg (by simpa using hle) h1
  simp only [Nat.add_zero, Array.length_toList] at this
  simp [storeVar, info_of hi, hv]
  simpa [hv] using this

theorem RelL.ones {cs : List AV} {us : List Value} (h : RelL E cs us) (h1 : ∀ c ∈ cs, c.one = true) : ∀ u ∈ us, u.oneCell' = true := by
  intro u hu
  obtain ⟨j, hj⟩ := List.getElem?_of_mem hu
  have hjl : j < cs.length := by rw [← h.1]; exact (List.getElem?_eq_some_iff.1 hj).1
  have := h.2 j cs[j] u (List.getElem?_eq_getElem hjl) hj
  rw [this.one]
  exact h1 _ (List.getElem_mem hjl)

theorem step_st (hs : Sim E) {o : Oper} {t : TypeId} {x y : Operand} (ho : o.op = .store t x y) {i : TypeInfo} (hi : P.info? t = some i) {ax ay : AX} (hx : cOpd N x = some ax) (hy : cOpd N y = some ay) (ht : TmRel E N tm a) {K : AV → Hp → Prop}
    (h : AStep P (.st i.size ax ay) K tm E.h) {next : Act → World → Prop} {Q : Exit → Act → World → Prop} (hk : Goes E K a o.dst next) : o.wp P a E.w next Q := by
  obtain ⟨hf, hl, h⟩ := h
  obtain ⟨hvr, hv1⟩ := cells_rel (opd hy ht) hf
  have hvx := opd hx ht
  have hsz : (a.eval y).cells.size = i.size := by have := hvr.1; simp at this; omega
  have huo := hvr.ones hv1
  split at h
  · rename_i id off hev
    rw [hev] at hvx
    split at h
    · rename_i cs hh
      obtain ⟨hle, h⟩ := h
      have ob := hs.obj id
      unfold ObjRel at ob
      rw [hh] at ob
      obtain ⟨us, e, h1, h2, h3, h4⟩ := ob
      obtain ⟨us', e1, _⟩ := ptr_cells hs hvx hh
      have hd : E.h id ≠ .dead := by rw [hh]; simp
      let us2 := us.take off ++ (a.eval y).cells.toList ++ us.drop (off + (a.eval y).cells.size)
      have hrun := run_storeVar_row' (P := P) hi h2 (off := off) hsz (by omega) huo
      have hst : Shape (E.h id) (.cells (splice cs off (ay.ev tm).cells)) := by rw [hh]; exact ⟨fun _ _ => ⟨_, rfl⟩, (fun _ _ _ h => by cases h), (fun _ h => by cases h)⟩
      have hx' := Env.turn_ext hs hd hst (w' := E.w.setRow (E.ι id) us2.toArray) ⟨rfl, rfl, rfl⟩ (by simp) (fun b hb => setRow_other _ _ _ _ hb)
      have hrel : RelL E (splice cs off (ay.ev tm).cells) us2 := by
        have := splice_rel (E := E) ⟨h1, h4⟩ hvr off
        simp only [Array.length_toList] at this
        exact this
      have hs' := Env.turn_sim hs hd hst (w' := E.w.setRow (E.ι id) us2.toArray) ⟨rfl, rfl, rfl⟩ (by simp) (fun b hb => setRow_other _ _ _ _ hb) (by
        unfold ObjRel
        have : (E.turn (E.w.setRow (E.ι id) us2.toArray) id (.cells (splice cs off (ay.ev tm).cells))).h id = .cells (splice cs off (ay.ev tm).cells) := by simp [Env.turn, hset]
        rw [this]
        exact ⟨us2, e, hrel.1, setRow_heap _ _ _ _ _ _ h2, splice_ones h3 hv1 off, fun j c u hc hu => hx'.rel _ _ (hrel.2 j c u hc hu)⟩)
      refine wp_skipped (w' := E.w.setRow (E.ι id) us2.toArray) ?_ (hk _ _ _ hs' hx' (Rel.undef _) (by simpa [Env.turn] using h))
      simp only [execOp, ho, Instr.storeAt, Sem.run_bind, e1, Instr.sureAddr, Sem.run_pure, Result.andThen_ok, hrun]
      rfl
    · exact h.elim
  · rename_i id k off hev
    rw [hev] at hvx
    split at h
    · rename_i e sz xs hh
      split at h
      · rename_i row hrow
        obtain ⟨hle, h⟩ := h
        obtain ⟨us, hb, hul, hxk, hkm, hpos, hlen, hone, huo', hru⟩ := arr_row hs hh
        obtain ⟨us', e1, hrr, hrs, hr1, hrc⟩ := pe_cells hs hvx hh hrow
        have hd : E.h id ≠ .dead := by rw [hh]; simp
        have hkl : k < xs.length := (List.getElem?_eq_some_iff.1 hrow).1
        have hbd : (k + 1) * sz ≤ us.length := by rw [hul]; exact Nat.mul_le_mul_right _ (by omega)
        rw [Nat.add_mul] at hbd
        let us2 := us.take (k * sz + off) ++ (a.eval y).cells.toList ++ us.drop (k * sz + off + (a.eval y).cells.size)
        have hrun := run_storeVar_row' (P := P) hi hb (off := k * sz + off) hsz (by omega) huo
        have hst : Shape (E.h id) (.arr e sz (xs.set k (splice row off (ay.ev tm).cells))) := by
          rw [hh]; exact ⟨(fun _ h => by cases h), fun _ _ _ h => by cases h; exact ⟨xs, rfl, by simp⟩, (fun _ h => by cases h)⟩
        have hx' := Env.turn_ext hs hd hst (w' := E.w.setRow (E.ι id) us2.toArray) ⟨rfl, rfl, rfl⟩ (by simp) (fun b hb => setRow_other _ _ _ _ hb)
        have hul2 : us2.length = us.length := by simp [us2]; omega
        have hvl : (ay.ev tm).cells.length = (a.eval y).cells.size := by omega
        have hs' := Env.turn_sim hs hd hst (w' := E.w.setRow (E.ι id) us2.toArray) ⟨rfl, rfl, rfl⟩ (by simp) (fun b hb => setRow_other _ _ _ _ hb) (by
          unfold ObjRel
          have : (E.turn (E.w.setRow (E.ι id) us2.toArray) id (.arr e sz (xs.set k (splice row off (ay.ev tm).cells)))).h id = .arr e sz (xs.set k (splice row off (ay.ev tm).cells)) := by simp [Env.turn, hset]
          rw [this]
          have hspl : (splice row off (ay.ev tm).cells).length = sz := by rw [splice_length (by omega), hrs]
          refine ⟨us2, setRow_heap _ _ _ _ _ _ hb, by show us2.length = E.κ id * sz; omega, by show (xs.set k _).length ≤ E.κ id; simpa using hxk, hkm, hpos, fun x hx => ?_, fun x hx => ?_, fun u hu => ?_, fun i' x j c hx hj => ?_⟩
          · rcases List.mem_or_eq_of_mem_set hx with h | h
            · exact hlen x h
            · rw [h]; exact hspl
          · rcases List.mem_or_eq_of_mem_set hx with h | h
            · exact hone x h
            · rw [h]; exact splice_ones hr1 hv1 off
          · rcases List.mem_append.1 hu with hu | hu
            · rcases List.mem_append.1 hu with hu | hu
              · exact huo' u (List.mem_of_mem_take hu)
              · exact huo u hu
            · exact huo' u (List.mem_of_mem_drop hu)
          · have e0 : (us.take (k * sz + off)).length = k * sz + off := by simp; omega
            rw [List.getElem?_set] at hx
            split at hx
            · rename_i hki
              subst hki
              · simp at hx
                subst hx
                have hjl : j < sz := by rw [← hspl]; exact (List.getElem?_eq_some_iff.1 hj).1
                unfold splice at hj
                simp only [List.append_assoc] at hj
                have t1 : (List.take off row).length = off := by simp; omega
                by_cases hj1 : j < off
                · rw [List.getElem?_append_left (by omega), List.getElem?_take, if_pos hj1] at hj
                  obtain ⟨u, hu, hr⟩ := hru k row j c hrow hj
                  refine ⟨u, ?_, hx'.rel _ _ hr⟩
                  simp only [us2, List.append_assoc]
                  rw [List.getElem?_append_left (by omega), List.getElem?_take, if_pos (by omega)]
                  exact hu
                · rw [List.getElem?_append_right (by omega), t1] at hj
                  by_cases hj2 : j - off < (ay.ev tm).cells.length
                  · rw [List.getElem?_append_left hj2] at hj
                    obtain ⟨u, hu, hr⟩ := hvr.get hj
                    refine ⟨u, ?_, hx'.rel _ _ hr⟩
                    simp only [us2, List.append_assoc]
                    rw [List.getElem?_append_right (by omega), e0, List.getElem?_append_left (by rw [Array.length_toList]; omega), ← hu]
                    congr 1
                    omega
                  · rw [List.getElem?_append_right (by omega), List.getElem?_drop] at hj
                    have ej : off + (ay.ev tm).cells.length + (j - off - (ay.ev tm).cells.length) = j := by omega
                    rw [ej] at hj
                    obtain ⟨u, hu, hr⟩ := hru k row j c hrow hj
                    refine ⟨u, ?_, hx'.rel _ _ hr⟩
                    simp only [us2, List.append_assoc]
                    rw [List.getElem?_append_right (by omega), e0, List.getElem?_append_right (by rw [Array.length_toList]; omega), Array.length_toList, List.getElem?_drop, ← hu]
                    congr 1
                    omega
            · rename_i hki
              have hil : i' < xs.length := (List.getElem?_eq_some_iff.1 hx).1
              have hjl : j < sz := by rw [← hlen x (List.mem_of_getElem? hx)]; exact (List.getElem?_eq_some_iff.1 hj).1
              obtain ⟨u, hu, hr⟩ := hru i' x j c hx hj
              refine ⟨u, ?_, hx'.rel _ _ hr⟩
              simp only [us2, List.append_assoc]
              rcases Nat.lt_or_gt_of_ne hki with hlt | hgt
              · -- behind
                have : (k + 1) * sz ≤ i' * sz := Nat.mul_le_mul_right _ (by omega)
                rw [Nat.add_mul] at this
                rw [List.getElem?_append_right (by omega), e0, List.getElem?_append_right (by rw [Array.length_toList]; omega), Array.length_toList, List.getElem?_drop, ← hu]
                congr 1
                omega
              · have : (i' + 1) * sz ≤ k * sz := Nat.mul_le_mul_right _ (by omega)
                rw [Nat.add_mul] at this
                rw [List.getElem?_append_left (by omega), List.getElem?_take, if_pos (by omega)]
                exact hu)
        refine wp_skipped (w' := E.w.setRow (E.ι id) us2.toArray) ?_ (hk _ _ _ hs' hx' (Rel.undef _) (by simpa [Env.turn] using h))
        simp only [execOp, ho, Instr.storeAt, Sem.run_bind, e1, Instr.sureAddr, Sem.run_pure, Result.andThen_ok, hrun]
        rfl
      · exact h.elim
    · exact h.elim
  · exact h.elim

/-! ### Appends -/

theorem run_append_row {w : World} {t ty e : TypeId} {i : TypeInfo} (ht : P.underlying t = some (.slice e)) (hi : P.info? e = some i) {g sLen sCap : Nat} {us : List Value} (hg : w.heap[g]? = some (.cells us.toArray e (0, 0))) {x : Value} {n : Nat} {news : List Value} (hs : Src P i.size t x n news w)
    (hroom : sLen + n ≤ sCap) (hle : sLen * i.size + news.length ≤ us.length) :
    (Builtin.append_ #[t, t] ty #[.slice (some ⟨g, 0, none⟩) sLen sCap, x]).run P w = .ok (.slice (some ⟨g, 0, none⟩) (sLen + n) sCap) (w.setRow g (us.take (sLen * i.size) ++ news ++ us.drop (sLen * i.size + news.length)).toArray) := by
  have hst := run_storeCells_at P g (sLen * i.size) e news 0 us.toArray w hg (by simpa using hle) hs.one
  simp only [Nat.add_zero] at hst
  simp [Builtin.append_, run_underlying ht, sizeOf, typeInfo, hi, hs.len, hroom, hs.cells, Addr.add_lit, hst]

/-- What is appended, as the model reads it. -/
theorem src_of (hs : Sim E) {t e0 : TypeId} (hu : P.underlying t = some (.slice e0)) {x : AV} {v : Value} {sz : Nat} (hpos : 0 < sz) {ys : List (List AV)} (h : elemsOf E.h sz x = some ys) (hr : Rel E x v) :
    ∃ us : List Value, Src P sz t v ys.length us E.w ∧ us.length = ys.length * sz ∧ (∀ y ∈ ys, y.length = sz) ∧ (∀ y ∈ ys, ∀ c ∈ y, c.one = true) ∧ Laid E sz ys us ∧ (∀ u ∈ us, u.oneCell' = true) := by
  obtain ⟨b, cap, us, e1, hul, hy1, hy2, hcell, hbase⟩ := elems_cells hs h hr
  have huo : ∀ u ∈ us, u.oneCell' = true := by
    intro u hu'
    obtain ⟨idx, hidx⟩ := List.getElem?_of_mem hu'
    have hil : idx < ys.length * sz := by rw [← hul]; exact (List.getElem?_eq_some_iff.1 hidx).1
    have hd : idx / sz < ys.length := (Nat.div_lt_iff_lt_mul hpos).2 hil
    have hm : idx % sz < sz := Nat.mod_lt _ hpos
    have hyl := hy1 _ (List.getElem_mem hd)
    obtain ⟨u', hu2, hr'⟩ := hcell (idx / sz) _ (idx % sz) _ (List.getElem?_eq_getElem hd) (List.getElem?_eq_getElem (by omega))
    rw [Nat.mul_comm, Nat.div_add_mod, hidx] at hu2
    cases hu2
    rw [hr'.one]
    exact hy2 _ (List.getElem_mem hd) _ (List.getElem_mem _)
  refine ⟨us, ?_, hul, hy1, hy2, hcell, huo⟩
  subst e1
  by_cases hne : us = []
  · subst hne
    have hy0 : ys = [] := by
      have h0 : ys.length * sz = 0 := by simpa using hul.symm
      rcases Nat.mul_eq_zero.1 h0 with h | h
      · exact List.eq_nil_of_length_eq_zero h
      · omega
    subst hy0
    cases b with
    | none => exact Src.ofNil E.w hu cap
    | some ad => exact Src.ofSlice E.w hu ad 0 cap [] (by simp) (by simp) (by simp)
  · obtain ⟨g, o, hb, hc⟩ := hbase hne
    subst hb
    exact Src.ofSlice E.w hu ⟨g, o, none⟩ ys.length cap us hul (fun j u hj => by rw [Addr.add_mid]; exact hc j u hj) huo

theorem zeroCells_one {z : Value} {zz : AV} (hz : Rel E zz z) (hf : zz.flat = true) (n : Nat) : ∀ u ∈ (Builtin.zeroCells z.cells n).toList, u.oneCell' = true := by
  intro u hu
  obtain ⟨hr, h1⟩ := cells_rel hz hf
  have ho := hr.ones h1
  simp only [Builtin.zeroCells, Array.toList_map, List.mem_map] at hu
  obtain ⟨i, hi, rfl⟩ := hu
  by_cases h0 : z.cells.size = 0
  · simp [h0] at hi
  · have hlt : i % z.cells.size < z.cells.size := Nat.mod_lt _ (by omega)
    rw [getElem!_pos z.cells _ hlt]
    exact ho _ (by simp)

theorem zeroCells_size (z : Array Value) (n : Nat) : (Builtin.zeroCells z n).size = n * z.size := by simp [Builtin.zeroCells]

theorem Laid.append {sz : Nat} {xs ys : List (List AV)} {us vs : List Value} (h : Laid E sz xs us) (k : Laid E sz ys vs) (hl : us.length = xs.length * sz) (hxs : ∀ x ∈ xs, x.length = sz) : Laid E sz (xs ++ ys) (us ++ vs) := by
  intro i x j c hx hj
  by_cases hi : i < xs.length
  · rw [List.getElem?_append_left hi] at hx
    obtain ⟨u, hu, hr⟩ := h i x j c hx hj
    exact ⟨u, by rw [List.getElem?_append_left ((List.getElem?_eq_some_iff.1 hu).1)]; exact hu, hr⟩
  · rw [List.getElem?_append_right (by omega)] at hx
    obtain ⟨u, hu, hr⟩ := k _ x j c hx hj
    refine ⟨u, ?_, hr⟩
    have : xs.length * sz ≤ i * sz := Nat.mul_le_mul_right _ (by omega)
    rw [List.getElem?_append_right (by omega), ← hu]
    congr 1
    rw [hl, Nat.sub_mul]
    omega

theorem Laid.ext {sz : Nat} {xs : List (List AV)} {us vs : List Value} (h : Laid E sz xs us) : Laid E sz xs (us ++ vs) := by
  intro i x j c hx hj
  obtain ⟨u, hu, hr⟩ := h i x j c hx hj
  exact ⟨u, by rw [List.getElem?_append_left ((List.getElem?_eq_some_iff.1 hu).1)]; exact hu, hr⟩

theorem Laid.takes {sz n : Nat} {xs : List (List AV)} {us : List Value} (h : Laid E sz xs us) (hxs : ∀ x ∈ xs, x.length = sz) : Laid E sz (xs.take n) (us.take (n * sz)) := by
  intro i x j c hx hj
  rw [List.getElem?_take] at hx
  split at hx
  · rename_i hi
    obtain ⟨u, hu, hr⟩ := h i x j c hx hj
    have hjl : j < sz := by rw [← hxs x (List.mem_of_getElem? hx)]; exact (List.getElem?_eq_some_iff.1 hj).1
    have : (i + 1) * sz ≤ n * sz := Nat.mul_le_mul_right _ (by omega)
    rw [Nat.add_mul] at this
    exact ⟨u, by rw [List.getElem?_take, if_pos (by omega)]; exact hu, hr⟩
  · cases hx

theorem Laid.mono {E' : Env} {sz : Nat} {xs : List (List AV)} {us : List Value} (h : Laid E sz xs us) (hx : Ext E E') : Laid E' sz xs us := fun i x j c h1 h2 => let ⟨u, hu, hr⟩ := h i x j c h1 h2; ⟨u, hu, hx.rel _ _ hr⟩

/-- An append that makes a new row. -/
theorem app_grow (hs : Sim E) {o : Oper} {t e0 : TypeId} {s x : Operand} (ho : o.op = .call { callee := .builtin .append, args := #[s, x], argTypes := #[t, t] }) (hu : P.underlying t = some (.slice e0)) {i : TypeInfo} (hi : P.info? e0 = some i) {z : AV} (hz : i.zero.bind ofConst = some z) (hzf : z.flat = true) (hzl : z.cells.length = i.size) (hpos : 0 < i.size) (hby : 0 < i.bytes)
    {b : Option Addr} {n cap : Nat} (hsv : a.eval s = .slice b n cap) {olds : List Value} {xs : List (List AV)} (hxl : xs.length = n) (hol : olds.length = n * i.size) (hold : (Builtin.firstCells i.size n (.slice b n cap)).run P E.w.drew = .ok olds.toArray E.w.drew) (hxs : ∀ x ∈ xs, x.length = i.size) (hx1 : ∀ x ∈ xs, ∀ c ∈ x, c.one = true) (ho1 : ∀ u ∈ olds, u.oneCell' = true) (hlo : Laid E i.size xs olds)
    {ys : List (List AV)} {news : List Value} (hsrc : Src P i.size t (a.eval x) ys.length news E.w) (hnl : news.length = ys.length * i.size) (hys : ∀ y ∈ ys, y.length = i.size) (hy1 : ∀ y ∈ ys, ∀ c ∈ y, c.one = true) (hln : Laid E i.size ys news) (hno : ∀ u ∈ news, u.oneCell' = true)
    (hg : cap < n + ys.length) (hmax : n + ys.length ≤ 4611686018427387904) (hbytes : (n + ys.length) * i.bytes ≤ 140737488355328) :
    ∃ E' v, Sim E' ∧ Ext E E' ∧ (execOp a.eval o).run P E.w = .ok (.value v) E'.w ∧ E'.h = hset E.h E.nx (.arr e0 i.size (xs ++ ys)) ∧ Rel E' (.sl E.nx 0 (n + ys.length)) v := by
  obtain ⟨zv, hzi, hzr⟩ : ∃ zv, i.zero = some zv ∧ Rel E z zv := by
    cases hzi : i.zero with
    | none => simp [hzi] at hz
    | some zv => simp [hzi] at hz; exact ⟨zv, rfl, ofConst_rel E hz⟩
  have hzs : zv.cells.size = i.size := by have := (cells_rel hzr hzf).1.1; simp at this; omega
  have hrun := run_append_grow_src (P := P) E.w t t o.type e0 i zv hu hi hzi b n cap olds hold (a.eval x) ys.length news hsrc hg (by omega) (growslice_fits hg hbytes)
  have hge := grownCap_ge E.w (n + ys.length) cap e0
  have hcm : grownCap E.w (n + ys.length) cap e0 ≤ maxLen := grownCap_le_maxLen E.w (n + ys.length) cap e0 (by simp only [maxLen]; omega)
  obtain ⟨E', s', x', hw, hh, hpr⟩ := new_row (e := e0) (κ0 := grownCap E.w (n + ys.length) cap e0) hs (w1 := E.w.drew) ⟨rfl, rfl, rfl⟩ rfl (us := (olds ++ news) ++ (Builtin.zeroCells zv.cells (grownCap E.w (n + ys.length) cap e0 - (n + ys.length))).toList)
    (by
      simp only [List.length_append, Array.length_toList, zeroCells_size, hzs, hol, hnl, ← Nat.add_mul]
      congr 1
      omega) (xs := xs ++ ys) (by simp [hxl]; exact hge) hcm hpos (fun y hy => by
        rcases List.mem_append.1 hy with h | h
        · exact hxs y h
        · exact hys y h) (fun y hy => by
        rcases List.mem_append.1 hy with h | h
        · exact hx1 y h
        · exact hy1 y h) (fun u hu' => by
        rcases List.mem_append.1 hu' with h | h
        · rcases List.mem_append.1 h with h | h
          · exact ho1 u h
          · exact hno u h
        · exact zeroCells_one hzr hzf _ u h) ((hlo.append hln (by rw [hol, hxl]) hxs).ext) (n + ys.length) (by simp [hxl])
  refine ⟨E', _, s', x', ?_, hh, hpr⟩
  rw [hw]
  simp only [execOp, ho, resolve, invoke, builtin, Sem.run_bind, Sem.run_pure, Result.andThen_ok, List.map_toArray, List.map_cons, List.map_nil, hsv, hrun]
  congr 2
  simp

/-- Two steps of an environment in one: an object let go, another one made in its block, or in a new one. -/
theorem renew_ext (hs : Sim E) {id : Nat} (hd : E.h id ≠ .dead) {w' : World} {o : AObj} {κ0 : Nat} (hr : SameRest E.w w') (hsize : w'.heap.size = E.w.heap.size) (hold : ∀ b, b ≠ E.ι id → w'.heap[b]? = E.w.heap[b]?) :
    Ext E { h := hset (hset E.h id .dead) E.nx o, ι := fun i => if i = E.nx then E.ι id else E.ι i, κ := fun i => if i = E.nx then κ0 else E.κ i, w := w', nx := E.nx + 1 } := by
  have hidn : id < E.nx := hs.id_lt hd
  refine Ext.of (Nat.le_succ _) (fun i hi hdi => ?_) hr (Nat.le_of_eq hsize.symm) (fun b hb hl => hold b (fun e => hl ⟨id, hd, e.symm⟩)) (fun b hb hl => ?_)
  · have hne : i ≠ E.nx := by omega
    simp only [hset, if_neg hne] at hdi ⊢
    by_cases hi2 : i = id
    · simp [hi2] at hdi
    · simp only [if_neg hi2]; exact ⟨Shape.refl _, trivial, trivial⟩
  · obtain ⟨i, h1, h2⟩ := hl
    by_cases hne : i = E.nx
    · simp [hne] at h2; exact ⟨id, hd, h2⟩
    · simp only [hset, if_neg hne] at h1 h2
      by_cases hi2 : i = id
      · simp [hi2] at h1
      · simp only [if_neg hi2] at h1; exact ⟨i, h1, h2⟩

theorem renew_sim (hs : Sim E) {id : Nat} (hd : E.h id ≠ .dead) {w' : World} {o : AObj} {κ0 : Nat} (hr : SameRest E.w w') (hsize : w'.heap.size = E.w.heap.size) (hold : ∀ b, b ≠ E.ι id → w'.heap[b]? = E.w.heap[b]?)
    (ho : ObjRel { h := hset (hset E.h id .dead) E.nx o, ι := fun i => if i = E.nx then E.ι id else E.ι i, κ := fun i => if i = E.nx then κ0 else E.κ i, w := w', nx := E.nx + 1 } E.nx) :
    Sim { h := hset (hset E.h id .dead) E.nx o, ι := fun i => if i = E.nx then E.ι id else E.ι i, κ := fun i => if i = E.nx then κ0 else E.κ i, w := w', nx := E.nx + 1 } := by
  have hx := renew_ext (o := o) (κ0 := κ0) hs hd hr hsize hold
  have hidn : id < E.nx := hs.id_lt hd
  have hold' : ∀ i, i ≠ E.nx → hset (hset E.h id .dead) E.nx o i ≠ .dead → E.h i ≠ .dead ∧ i ≠ id := fun i hne hi => by
    simp only [hset, if_neg hne] at hi
    by_cases hi2 : i = id
    · simp [hi2] at hi
    · simp only [if_neg hi2] at hi; exact ⟨hi, hi2⟩
  refine ⟨fun i => ?_, fun i hi => ?_, fun i j hi hj he => ?_, fun i hi => ?_⟩
  · by_cases hne : i = E.nx
    · rw [hne]; exact ho
    · by_cases hi2 : i = id
      · subst hi2
        unfold ObjRel
        have : hset (hset E.h i .dead) E.nx o i = .dead := by simp [hset, hne]
        simp only [this]
      · refine (hs.obj i).keep (by simp [hset, hne, hi2]) (by simp [hne]) (by simp [hne]) (fun hdi => hold _ (fun e => hi2 (hs.inj i id hdi hd e))) hx.rel
  · have h1 : E.nx + 1 ≤ i := hi
    have hne : i ≠ E.nx := by omega
    have hne2 : i ≠ id := by omega
    simp only [hset, if_neg hne, if_neg hne2]
    exact hs.nx i (by omega)
  · by_cases h1 : i = E.nx
    · by_cases h2 : j = E.nx
      · omega
      · obtain ⟨k1, k2⟩ := hold' j h2 hj
        simp [h1, h2] at he
        exact absurd (hs.inj id j hd k1 he).symm k2
    · obtain ⟨k1, k2⟩ := hold' i h1 hi
      by_cases h2 : j = E.nx
      · simp [h1, h2] at he
        exact absurd (hs.inj i id k1 hd he) k2
      · obtain ⟨k3, k4⟩ := hold' j h2 hj
        simp [h1, h2] at he
        exact hs.inj i j k1 k3 he
  · by_cases h1 : i = E.nx
    · simp [h1, hsize]; exact hs.lt id hd
    · obtain ⟨k1, k2⟩ := hold' i h1 hi
      simp [h1, hsize]
      exact hs.lt i k1

end Go.AM

/- AM, 13: appends, makes, maps written, conversions that make memory, calls. -/
namespace Go.AM
variable {P : Program} {N : Nat} {E : Env} {tm : Tm} {a : Act}

theorem firstCells_empty {w : World} (size : Nat) (b : Option Addr) (cap : Nat) : (Builtin.firstCells size 0 (.slice b 0 cap)).run P w = .ok #[] w := by
  cases b <;> simp [Builtin.firstCells, loadCells, loadCellsFrom]

theorem step_app (hs : Sim E) {o : Oper} {t e0 : TypeId} {s x : Operand} (ho : o.op = .call { callee := .builtin .append, args := #[s, x], argTypes := #[t, t] }) (hu : P.underlying t = some (.slice e0)) {i : TypeInfo} (hi : P.info? e0 = some i) {z : AV} (hz : i.zero.bind ofConst = some z) (hzf : z.flat = true) (hzl : z.cells.length = i.size) (hpos : 0 < i.size) (hby : 0 < i.bytes)
    {as ax : AX} (has : cOpd N s = some as) (hax : cOpd N x = some ax) (ht : TmRel E N tm a) {K : AV → Hp → Prop} (h : AStep P (.app e0 i.size i.bytes as ax) K tm E.h) {next : Act → World → Prop} {Q : Exit → Act → World → Prop} (hk : Goes E K a o.dst next) : o.wp P a E.w next Q := by
  have hvs := opd has ht
  have hvx := opd hax ht
  simp only [AStep] at h
  split at h
  · exact h.elim
  · rename_i ys hys
    obtain ⟨news, hsrc, hnl, hyl, hy1, hln, hno⟩ := src_of hs hu hpos hys hvx
    split at h
    · rename_i hev
      rw [hev] at hvs
      obtain ⟨b, e1⟩ := hvs.nl_inv
      split at h
      · -- nothing to nothing
        have hn0 : news = [] := List.eq_nil_of_length_eq_zero (by simpa using hnl)
        subst hn0
        have hrun : (execOp a.eval o).run P E.w = .ok (.value (.slice b 0 0)) E.w := by
          have : (Builtin.append_ #[t, t] o.type #[.slice b 0 0, a.eval x]).run P E.w = .ok (.slice b 0 0) E.w := by
            have hlen := hsrc.len
            have hcl := hsrc.cells
            simp only [List.length_nil] at hlen hcl
            cases b <;> simp [Builtin.append_, run_underlying hu, sizeOf, typeInfo, hi, hlen, hcl, storeCells]
          simp only [execOp, ho, resolve, invoke, builtin, Sem.run_bind, Sem.run_pure, Result.andThen_ok, List.map_toArray, List.map_cons, List.map_nil, e1, this]
        exact wp_value hrun (hk _ _ E hs (Ext.refl E) (.nl _) h)
      · rename_i y ys'
        obtain ⟨hmax, hbytes, h⟩ := h
        obtain ⟨E', v, s', x', hrun, hh, hpr⟩ := app_grow hs ho hu hi hz hzf hzl hpos hby (n := 0) (cap := 0) e1 (olds := []) (xs := []) rfl (by simp) (firstCells_empty _ _ _) (by simp) (by simp) (by simp) (by intro i x j c hx; simp at hx) hsrc hnl hyl hy1 hln hno (by simp) (by simpa using hmax) (by simpa using hbytes)
        refine wp_value hrun (hk _ _ E' s' x' hpr ?_)
        rw [hh]
        have := h E.nx (hs.nx _ (Nat.le_refl _))
        simpa using this
    · rename_i id off len hev
      rw [hev] at hvs
      obtain ⟨hoff, h⟩ := h
      subst hoff
      split at h
      · rename_i e' sz' xs hh
        obtain ⟨rfl, rfl, hle, hmax, hbytes, h⟩ := h
        obtain ⟨b, cap, e1, hn, hp⟩ := hvs.sl_inv
        obtain ⟨h1, h2, h3⟩ := hp _ _ xs hh
        have hb : b = some ⟨E.ι id, 0, none⟩ := by
          rcases h3 with ⟨h4, _⟩ | h4
          · exact absurd rfl h4
          · simpa using h4
        subst hb
        have hcap : cap = E.κ id := by omega
        have hd : E.h id ≠ .dead := by rw [hh]; simp
        have hidn : id < E.nx := hs.id_lt hd
        obtain ⟨us, hblk, hul, hxk, hkm, hpos', hlen, hone, huo, hru⟩ := arr_row hs hh
        have hlaid : Laid E i.size xs us := hru
        have hbd : len * i.size ≤ us.length := by rw [hul]; exact Nat.mul_le_mul_right _ (by omega)
        have hxl : (xs.take len).length = len := by simp; omega
        by_cases hroom : len + ys.length ≤ cap
        · -- there is room
          have hfit : len * i.size + news.length ≤ us.length := by rw [hnl, hul, ← Nat.add_mul]; exact Nat.mul_le_mul_right _ (by omega)
          have hrunA := run_append_row (P := P) (ty := o.type) hu hi hblk hsrc hroom hfit
          let us2 := us.take (len * i.size) ++ news ++ us.drop (len * i.size + news.length)
          have hx' := renew_ext (o := .arr e' i.size (xs.take len ++ ys)) (κ0 := E.κ id) hs hd (w' := E.w.setRow (E.ι id) us2.toArray) ⟨rfl, rfl, rfl⟩ (by simp) (fun b hb => setRow_other _ _ _ _ hb)
          have hul2 : us2.length = us.length := by simp [us2]; omega
          have hs' := renew_sim (o := .arr e' i.size (xs.take len ++ ys)) (κ0 := E.κ id) hs hd (w' := E.w.setRow (E.ι id) us2.toArray) ⟨rfl, rfl, rfl⟩ (by simp) (fun b hb => setRow_other _ _ _ _ hb) (by
            unfold ObjRel
            have e0 : hset (hset E.h id .dead) E.nx (.arr e' i.size (xs.take len ++ ys)) E.nx = .arr e' i.size (xs.take len ++ ys) := by simp [hset]
            simp only [e0, if_true]
            refine ⟨us2, setRow_heap _ _ _ _ _ _ hblk, by omega, by simp; omega, hkm, hpos, fun y hy => ?_, fun y hy => ?_, fun u hu' => ?_, ?_⟩
            · rcases List.mem_append.1 hy with h | h
              · exact hlen y (List.mem_of_mem_take h)
              · exact hyl y h
            · rcases List.mem_append.1 hy with h | h
              · exact hone y (List.mem_of_mem_take h)
              · exact hy1 y h
            · rcases List.mem_append.1 hu' with h | h
              · rcases List.mem_append.1 h with h | h
                · exact huo u (List.mem_of_mem_take h)
                · exact hno u h
              · exact huo u (List.mem_of_mem_drop h)
            · have := ((hlaid.takes (n := len) hlen).append hln (by rw [List.length_take, hxl]; omega) (fun y hy => hlen y (List.mem_of_mem_take hy))).ext (vs := us.drop (len * i.size + news.length))
              exact this.mono hx')
          have hrun : (execOp a.eval o).run P E.w = .ok (.value (.slice (some ⟨E.ι id, 0, none⟩) (len + ys.length) cap)) (E.w.setRow (E.ι id) us2.toArray) := by
            simp only [execOp, ho, resolve, invoke, builtin, Sem.run_bind, Sem.run_pure, Result.andThen_ok, List.map_toArray, List.map_cons, List.map_nil, e1, hrunA]
            rfl
          refine wp_value hrun (hk _ _ _ hs' hx' (.sl E.nx 0 (len + ys.length) _ cap (by simp) fun e'' sz'' xs'' hh'' => ?_) (h E.nx (hs.nx _ (Nat.le_refl _))))
          have e0 : hset (hset E.h id .dead) E.nx (.arr e' i.size (xs.take len ++ ys)) E.nx = .arr e' i.size (xs.take len ++ ys) := by simp [hset]
          simp only [e0] at hh''
          cases hh''
          refine ⟨by simp; omega, by simp; omega, .inr (by simp)⟩
        · -- a new row
          have hold : (Builtin.firstCells i.size len (.slice (some ⟨E.ι id, 0, none⟩) len cap)).run P E.w.drew = .ok (us.take (len * i.size)).toArray E.w.drew := by
            have := run_firstCells_some (P := P) E.w.drew i.size len ⟨E.ι id, 0, none⟩ len cap (us.take (len * i.size)) (by simp; omega) (fun j v hv => by
              rw [Addr.add_mid, Nat.zero_add]
              have : E.w.drew.cell? ⟨E.ι id, j, none⟩ = E.w.cell? ⟨E.ι id, j, none⟩ := rfl
              rw [this, cell_row hblk]
              rw [List.getElem?_take] at hv
              split at hv
              · exact hv
              · cases hv)
            exact this
          obtain ⟨E', v, s', x', hrun, hh', hpr⟩ := app_grow hs ho hu hi hz hzf hzl hpos hby (n := len) (cap := cap) e1 (olds := us.take (len * i.size)) (xs := xs.take len) hxl (by simp; omega) hold (fun y hy => hlen y (List.mem_of_mem_take hy)) (fun y hy => hone y (List.mem_of_mem_take hy)) (fun u hu' => huo u (List.mem_of_mem_take hu')) (hlaid.takes hlen) hsrc hnl hyl hy1 hln hno (by omega) hmax hbytes
          obtain ⟨x2, s2⟩ := forget' s' (h' := hset (hset E.h id .dead) E.nx (.arr e' i.size (xs.take len ++ ys))) (fun k => by
            rw [hh']
            simp only [hset]
            split
            · exact .inl rfl
            · split
              · exact .inr rfl
              · exact .inl rfl)
          have hgo := hk _ _ _ s2 (x'.trans x2) (x2.rel _ _ hpr) (h E.nx (hs.nx _ (Nat.le_refl _)))
          exact wp_value hrun hgo
      · exact h.elim
    · exact h.elim

theorem madeCells_get {z : Array Value} {n sz i j : Nat} (hz : z.size = sz) (hi : i < n) (hj : j < sz) : (madeCells z (n * sz)).toList[i * sz + j]? = z.toList[j]? := by
  have hlt : i * sz + j < n * sz := by
    have : (i + 1) * sz ≤ n * sz := Nat.mul_le_mul_right _ (by omega)
    rw [Nat.add_mul] at this; omega
  have hm : (i * sz + j) % z.size = j := by rw [hz, Nat.add_comm, Nat.add_mul_mod_self_right, Nat.mod_eq_of_lt hj]
  simp only [madeCells, Array.toList_map, List.getElem?_map, Array.toList_range]
  rw [List.getElem?_range hlt]
  simp [hm, getElem!_pos z j (by omega), List.getElem?_eq_getElem (show j < z.toList.length by simpa [hz] using hj), show j < z.size by omega]

theorem step_mks (hs : Sim E) {o : Oper} {t e0 : TypeId} {l c : Operand} (ho : o.op = .makeSlice t l c) (hu : P.underlying t = some (.slice e0)) {i : TypeInfo} (hi : P.info? e0 = some i) {z : AV} (hz : i.zero.bind ofConst = some z) (hzf : z.flat = true) (hzl : z.cells.length = i.size) (hpos : 0 < i.size)
    {al ac : AX} (hl : cOpd N l = some al) (hc : cOpd N c = some ac) (ht : TmRel E N tm a) {K : AV → Hp → Prop} (h : AStep P (.mks e0 i.size i.bytes z.cells al ac) K tm E.h) {next : Act → World → Prop} {Q : Exit → Act → World → Prop} (hk : Goes E K a o.dst next) : o.wp P a E.w next Q := by
  have hvl := opd hl ht
  have hvc := opd hc ht
  simp only [AStep] at h
  split at h
  · rename_i k1 n k2 m hev1 hev2
    rw [hev1] at hvl
    rw [hev2] at hvc
    obtain ⟨h0, h1, h2, h3, h⟩ := h
    obtain ⟨zv, hzi, hzr⟩ : ∃ zv, i.zero = some zv ∧ Rel E z zv := by
      cases hzi : i.zero with
      | none => simp [hzi] at hz
      | some zv => simp [hzi] at hz; exact ⟨zv, rfl, ofConst_rel E hz⟩
    obtain ⟨hzc, hz1⟩ := cells_rel hzr hzf
    have hzs : zv.cells.size = i.size := by have := hzc.1; simp at this; omega
    have hm : (m.toNat : Int) = m := Int.toNat_of_nonneg (by omega)
    have hby : (i.bytes : Int) * m ≤ 281474976710656 := by
      have : ((i.bytes * m.toNat : Nat) : Int) ≤ 140737488355328 := by omega
      rw [Int.natCast_mul, hm] at this
      omega
    have hrun0 := run_make (P := P) E.w t e0 i zv hu hi hzi k1 k2 n m h0 h1 hby (by omega)
    have hget : ∀ (idx j : Nat) (c : AV), idx < m.toNat → z.cells[j]? = some c → ∃ u, (madeCells zv.cells (m.toNat * i.size)).toList[idx * i.size + j]? = some u ∧ Rel E c u := by
      intro idx j c hidx hj
      obtain ⟨u, hu', hr⟩ := hzc.get hj
      have hjl : j < i.size := by rw [← hzl]; exact (List.getElem?_eq_some_iff.1 hj).1
      exact ⟨u, by rw [madeCells_get hzs hidx hjl]; exact hu', hr⟩
    obtain ⟨E', s', x', hw, hh, hpr⟩ := new_row (e := e0) (κ0 := m.toNat) hs (w1 := E.w) ⟨rfl, rfl, rfl⟩ rfl (us := (madeCells zv.cells (m.toNat * i.size)).toList) (by simp [size_madeCells]) (xs := List.replicate m.toNat z.cells) (by simp) (by simp only [maxLen]; omega) hpos
      (fun x hx => by rw [List.eq_of_mem_replicate hx]; exact hzl) (fun x hx => by rw [List.eq_of_mem_replicate hx]; exact hz1) (fun u hu' => by
        obtain ⟨k, hk'⟩ := List.getElem?_of_mem hu'
        have hkl : k < m.toNat * i.size := by have := (List.getElem?_eq_some_iff.1 hk').1; simpa [size_madeCells] using this
        have hd : k / i.size < m.toNat := (Nat.div_lt_iff_lt_mul hpos).2 hkl
        have hmd : k % i.size < i.size := Nat.mod_lt _ hpos
        obtain ⟨u', hu2, hr⟩ := hget (k / i.size) (k % i.size) _ hd (List.getElem?_eq_getElem (by omega))
        rw [Nat.mul_comm (k / i.size), Nat.div_add_mod, hk'] at hu2
        cases hu2
        rw [hr.one]
        exact hz1 _ (List.getElem_mem _)) (fun idx x j c hx hj => by
        rw [List.getElem?_replicate] at hx
        split at hx
        · cases hx; exact hget idx j c ‹_› hj
        · cases hx) n.toNat (by simp; omega)
    have hrun : (execOp a.eval o).run P E.w = .ok (.value (.slice (some ⟨E.w.heap.size, 0, none⟩) n.toNat m.toNat)) E'.w := by
      rw [hw]
      simp only [execOp, ho, Sem.run_bind, hvl.int_inv, hvc.int_inv, hrun0, Result.andThen_ok, Sem.run_pure, Array.toArray_toList]
    refine wp_value hrun (hk _ _ E' s' x' hpr ?_)
    rw [hh]
    exact h E.nx (hs.nx _ (Nat.le_refl _))
  · exact h.elim

theorem step_mkm (hs : Sim E) {o : Oper} {t : TypeId} (ho : o.op = .makeMap t none) {K : AV → Hp → Prop} (h : AStep P .mkm K tm E.h) {next : Act → World → Prop} {Q : Exit → Act → World → Prop} (hk : Goes E K a o.dst next) : o.wp P a E.w next Q := by
  have hx := Env.add_ext (E := E) (w' := E.w.alloc (.map #[] 0)) (o := .map []) (blk := E.w.heap.size) (κ0 := 0) hs ⟨rfl, rfl, rfl⟩ (by simp) (fun b hb => alloc_old _ _ b hb) (Nat.le_refl _)
  have hs' := Env.add_sim (E := E) (w' := E.w.alloc (.map #[] 0)) (o := .map []) (blk := E.w.heap.size) (κ0 := 0) hs ⟨rfl, rfl, rfl⟩ (by simp) (fun b hb => alloc_old _ _ b hb) (Nat.le_refl _) (by simp) (by
    unfold ObjRel
    have e1 : (E.add (E.w.alloc (.map #[] 0)) (.map []) E.w.heap.size 0).h E.nx = .map [] := by simp [Env.add, hset]
    rw [e1]
    refine ⟨#[], 0, ?_, rfl, by simp⟩
    have e2 : (E.add (E.w.alloc (.map #[] 0)) (.map []) E.w.heap.size 0).ι E.nx = E.w.heap.size := by simp [Env.add]
    rw [e2]
    exact alloc_new _ _)
  have hrun : (execOp a.eval o).run P E.w = .ok (.value (.map (some E.w.heap.size))) (E.w.alloc (.map #[] 0)) := by
    simp [execOp, ho, Instr.makeMap]
  refine wp_value hrun (hk (.mp E.nx) _ _ hs' hx (.mp _ _ (by simp [Env.add]) fun es hes => by simp [Env.add]) (h E.nx (hs.nx _ (Nat.le_refl _))))

/-! ### A map written -/

theorem putK_rel {ki : Bool} {d : TypeDesc} (hd : keyDesc ki d) {x y : AV} {u v : Value} (hx : Rel E x u) (hy : Rel E y v) : ∀ (es es' : List (AV × AV)) (ents : List MapEntry) (n : Nat), EntsRel E es ents → putK ki x y es = some es' →
    (Instr.findNow d u ents n = some none ∧ es' = es ++ [(x, y)]) ∨
    (∃ i en, Instr.findNow d u ents n = some (some (n + i, en.val)) ∧ ents[i]? = some en ∧ i < es.length ∧ es' = es.set i (x, y) ∧ (∀ m, Instr.sameBits m en.key u = true)) := by
  intro es
  induction es with
  | nil =>
    intro es' ents n he h
    have : ents = [] := by have := he.1; simpa using this
    subst this
    simp [putK] at h
    exact .inl ⟨rfl, by simp [← h]⟩
  | cons kv es ih =>
    intro es' ents n he h
    obtain ⟨en, ents', rfl, r1, r2, he'⟩ := he.cons
    simp only [putK] at h
    split at h
    · rename_i hk
      cases h
      refine .inr ⟨0, en, by simp [Instr.findNow, sameNow_rel hd hx r1 hk], rfl, by simp, rfl, fun m => ?_⟩
      unfold keyEq at hk
      split at hk
      · rename_i a1 b1 c1 d1 hkv
        split at hk
        · rename_i hkk
          simp at hk
          rw [hkv] at r1
          rw [r1.int_inv, hx.int_inv]
          simp [Instr.sameBits, hkk, hk]
        · cases hk
      · rename_i hkv
        simp at hk
        rw [hkv] at r1
        rw [r1.str_inv, hx.str_inv]
        subst hk
        simp only [Instr.sameBits]
        rw [beq_toListBytes]
        simp
      · cases hk
    · rename_i hk
      cases hp : putK ki x y es with
      | none => simp [hp] at h
      | some es2 =>
        simp [hp] at h
        subst h
        rcases ih es2 ents' (n + 1) he' hp with ⟨h1, h2⟩ | ⟨i, en', h1, h2, h3, h4, h5⟩
        · exact .inl ⟨by simp [Instr.findNow, sameNow_rel hd hx r1 hk, h1], by simp [h2]⟩
        · refine .inr ⟨i + 1, en', ?_, by simpa using h2, by simpa using h3, by simp [h4], h5⟩
          simp only [Instr.findNow, sameNow_rel hd hx r1 hk, h1]
          congr 3
          omega
    · cases h

theorem step_mup (hs : Sim E) {o : Oper} {t kt et : TypeId} {m k v : Operand} (ho : o.op = .mapUpdate t m k v ∨ o.op = .insert t m k v) (hu : P.underlying t = some (.map kt et)) {d : TypeDesc} (hkt : P.underlying kt = some d) {ki : Bool} (hd : keyDesc ki d)
    {am ak av : AX} (hm : cOpd N m = some am) (hkk : cOpd N k = some ak) (hv : cOpd N v = some av) (ht : TmRel E N tm a) {K : AV → Hp → Prop} (h : AStep P (.mup ki am ak av) K tm E.h) {next : Act → World → Prop} {Q : Exit → Act → World → Prop} (hk : Goes E K a o.dst next) : o.wp P a E.w next Q := by
  have hvm := opd hm ht
  have hvk := opd hkk ht
  have hvv := opd hv ht
  simp only [AStep] at h
  split at h
  · rename_i id hev
    rw [hev] at hvm
    split at h
    · rename_i es hh
      split at h
      · rename_i es' hp
        obtain ⟨ents, clk, e1, hb, he⟩ := map_ents hs hvm hh
        have hd' : E.h id ≠ .dead := by rw [hh]; simp
        have hlt := hs.lt id hd'
        have hst : Shape (E.h id) (.map es') := by rw [hh]; exact ⟨(fun _ h => by cases h), (fun _ _ _ h => by cases h), fun _ _ => ⟨_, rfl⟩⟩
        have hg : (getObj (E.ι id)).run P E.w = .ok (.map ents clk) E.w := by simp [getObj, Sem.run, hb]
        -- the new entries
        have fin : ∀ (ents' : Array MapEntry) (clk' : Nat), (execOp a.eval o).run P E.w = .ok .skip { E.w with heap := E.w.heap.setIfInBounds (E.ι id) (.map ents' clk') } → EntsRel E es' ents'.toList → o.wp P a E.w next Q := by
          intro ents' clk' hrun hent
          let w' : World := { E.w with heap := E.w.heap.setIfInBounds (E.ι id) (.map ents' clk') }
          have hold : ∀ b, b ≠ E.ι id → w'.heap[b]? = E.w.heap[b]? := fun b hb' => Array.getElem?_setIfInBounds_ne (Ne.symm hb')
          have hx' := Env.turn_ext hs hd' hst (w' := w') ⟨rfl, rfl, rfl⟩ (by simp [w']) hold
          have hs' := Env.turn_sim hs hd' hst (w' := w') ⟨rfl, rfl, rfl⟩ (by simp [w']) hold (by
            unfold ObjRel
            have e0 : (E.turn w' id (.map es')).h id = .map es' := by simp [Env.turn, hset]
            rw [e0]
            refine ⟨ents', clk', ?_, by have := hent.1; simpa using this, fun i kv en hk' he' => ?_⟩
            · show (E.w.heap.setIfInBounds (E.ι id) _)[E.ι id]? = _
              rw [Array.getElem?_setIfInBounds_self]
              simp [hlt]
            · obtain ⟨r1, r2⟩ := hent.2 i kv en hk' (by simpa using he')
              exact ⟨hx'.rel _ _ r1, hx'.rel _ _ r2⟩)
          exact wp_skipped hrun (hk _ _ _ hs' hx' (Rel.undef _) (by simpa [Env.turn] using h))
        have hck := run_checkKey (P := P) E.w hkt hd false (a.eval k)
        have hset : ∀ o' : Obj, (setObj (E.ι id) o').run P E.w = .ok () { E.w with heap := E.w.heap.setIfInBounds (E.ι id) o' } := fun o' => by simp [setObj, Sem.run, hb]
        rcases putK_rel hd hvk hvv es es' ents.toList 0 he hp with ⟨h1, h2⟩ | ⟨i, en, h1, h2, h3, h4, h5⟩
        · have hfk : (Instr.findKey kt (a.eval k) ents.toList).run P E.w = .ok none E.w := by simp [Instr.findKey, run_underlying hkt, h1]
          refine fin (ents.push { key := a.eval k, val := a.eval v, born := clk }) (clk + 1) ?_ ?_
          · rcases ho with ho | ho <;> simp [execOp, ho, e1, Instr.mapUpdate, run_underlying hu, hg, hck, hfk, hset]
          · subst h2
            refine ⟨by have := he.1; simp at this ⊢; omega, fun i kv en hk' he' => ?_⟩
            have hle := he.1
            simp only [Array.toList_push] at he'
            by_cases hi : i < es.length
            · rw [List.getElem?_append_left hi] at hk'
              rw [List.getElem?_append_left (by omega)] at he'
              exact he.2 i kv en hk' he'
            · rw [List.getElem?_append_right (by omega)] at hk' he'
              have hi0 : i - es.length = 0 := by
                have := (List.getElem?_eq_some_iff.1 hk').1
                simp at this
                omega
              rw [hi0] at hk'
              rw [show i - ents.toList.length = 0 by omega] at he'
              simp at hk' he'
              subst hk'; subst he'
              exact ⟨hvk, hvv⟩
        · have hfk : (Instr.findKey kt (a.eval k) ents.toList).run P E.w = .ok (some (i, en.val)) E.w := by simp [Instr.findKey, run_underlying hkt, h1]
          have h2' : ents[i]? = some en := by simpa using h2
          have hsb : Instr.sameBits 10000 en.key (a.eval k) = true := h5 10000
          refine fin (ents.modify i fun e => { e with key := a.eval k, val := a.eval v }) clk ?_ ?_
          · rcases ho with ho | ho <;> simp [execOp, ho, e1, Instr.mapUpdate, run_underlying hu, hg, hck, hfk, hset, h2', Instr.keyThatStays, hsb]
          · subst h4
            refine ⟨by have := he.1; simp at this ⊢; omega, fun j kv en' hk' he' => ?_⟩
            simp only [Array.getElem?_toList, Array.getElem?_modify] at he'
            rw [List.getElem?_set] at hk'
            by_cases hij : i = j
            · subst hij
              simp [h3] at hk'
              simp [h2'] at he'
              subst hk'; subst he'
              exact ⟨hvk, hvv⟩
            · rw [if_neg hij] at hk' he'
              exact he.2 j kv en' hk' (by simpa using he')
      · exact h.elim
    · exact h.elim
  · exact h.elim

end Go.AM

/- AM, 14: conversions that make memory, calls; every operation. -/
namespace Go.AM
variable {P : Program} {N : Nat} {E : Env} {tm : Tm} {a : Act}

theorem ofConst_flat {v : Value} {r : AV} (h : ofConst v = some r) : r.flat = true := by
  unfold ofConst at h
  split at h
  · rename_i cs
    cases hm : cs.toList.mapM ofCell with
    | none => simp [hm] at h
    | some l => simp [hm] at h; subst h; rfl
  · have := (ofCell_rel (E := ⟨fun _ => .dead, fun _ => 0, fun _ => 0, default, 0⟩) h).2
    cases r <;> first | rfl | (simp [AV.one] at this)

theorem zeroOf_flat {t : TypeId} {z : AV} (h : zeroOf P t = some z) : z.flat = true := by
  unfold zeroOf at h
  cases hi : P.info? t with
  | none => simp [hi] at h
  | some i =>
    cases hz : i.zero with
    | none => simp [hi, hz] at h
    | some v => simp [hi, hz] at h; exact ofConst_flat h

theorem step_bfz (hs : Sim E) {o : Oper} {t e0 : TypeId} {x : Operand} (ho : o.op = .convert t t x) (hu : P.underlying t = some (.slice e0)) (he : isU8 P e0 = true) {ax : AX} (hx : cOpd N x = some ax) (ht : TmRel E N tm a) {K : AV → Hp → Prop}
    (h : AStep P (.bfz ax) K tm E.h) {next : Act → World → Prop} {Q : Exit → Act → World → Prop} (hk : Goes E K a o.dst next) : o.wp P a E.w next Q := by
  have hv := opd hx ht
  have he' : P.underlying e0 = some (.int .u8) := by
    unfold isU8 at he
    split at he
    · assumption
    · cases he
  simp only [AStep] at h
  split at h
  · rename_i id off len hev
    rw [hev] at hv
    obtain ⟨hoff, h⟩ := h
    split at h
    · rename_i e sz xs hh
      obtain ⟨hle, h⟩ := h
      obtain ⟨b, cap, e1, hn, hp⟩ := hv.sl_inv
      obtain ⟨h1, h2, h3⟩ := hp e sz xs hh
      obtain ⟨us, hb, hl, hxk, hkm, hpos, hlen, hone, huo, hru⟩ := arr_row hs hh
      have hd : E.h id ≠ .dead := by rw [hh]; simp
      have hlt := hs.lt id hd
      -- the world behind: the mark
      obtain ⟨w', hrun, hw1, hw2, hw3, hw4⟩ : ∃ w', (execOp a.eval o).run P E.w = .ok (.value (.slice b len cap)) w' ∧ SameRest E.w w' ∧ w'.heap.size = E.w.heap.size ∧ (∀ k, k ≠ E.ι id → w'.heap[k]? = E.w.heap[k]?) ∧ (∀ j, w'.cell? ⟨E.ι id, j, none⟩ = E.w.cell? ⟨E.ι id, j, none⟩) := by
        have hc : ∀ ad : Addr, (markStringish ad).run P E.w = .ok () (match E.w.shape? ad.block with | some (_, n) => E.w.freeze { block := ad.block, off := n } 1 | none => E.w) := by
          intro ad
          cases hsh : E.w.shape? ad.block with
          | none => simp [markStringish, hsh]
          | some p => obtain ⟨e', n⟩ := p; simp [markStringish, hsh]
        have hb' : b = some ⟨E.ι id, off * sz, none⟩ ∨ b = none ∨ ∃ ad, b = some ad := by cases b with | none => exact .inr (.inl rfl) | some ad => exact .inr (.inr ⟨ad, rfl⟩)
        rcases h3 with ⟨h4, h5⟩ | h4
        · -- a slice without room: its address may be any
          exfalso
          exact h4 hoff
        · subst h4
          have hshape : E.w.shape? (E.ι id) = some (e, us.length) := by simp [World.shape?, hb]
          refine ⟨E.w.freeze { block := E.ι id, off := us.length } 1, ?_, ⟨?_, ?_, ?_⟩, ?_, fun k hk' => ?_, fun j => ?_⟩
          · have := hc ⟨E.ι id, off * sz, none⟩
            simp only [hshape] at this
            simp [execOp, ho, e1, convert, run_underlying hu, run_underlying he', this]
          · simp [World.freeze]
          · simp [World.freeze]
          · simp [World.freeze]
          · simp [World.freeze]
          · simp [World.freeze, Array.getElem?_modify, Ne.symm hk']
          · have hget : (E.w.freeze { block := E.ι id, off := us.length } 1).heap[E.ι id]? = some (.cells us.toArray e (us.length, us.length + 1)) := by
              simp only [World.freeze, Nat.one_ne_zero, if_false, Array.getElem?_modify, if_pos]
              rw [hb]
              simp
            simp [World.cell?, hget, hb]
      have hsub : ∀ i, hset E.h id .dead i = E.h i ∨ hset E.h id .dead i = .dead := fun i => by simp only [hset]; split <;> simp
      obtain ⟨hx', hs'⟩ := forget hs (h' := hset E.h id .dead) hsub (w' := w') hw1 hw2 (fun k _ hl => hw3 k (fun e => hl ⟨id, hd, e.symm⟩)) (fun i hi => hw3 _ (fun e => by
        have hne : i ≠ id := fun e2 => by subst e2; simp [hset] at hi
        have : E.h i ≠ .dead := by simpa [hset, hne] using hi
        exact hne (hs.inj i id this hd e)))
      obtain ⟨hx0, hs0⟩ := forget' hs hsub
      have hfz := freeze_rel hs hh hle hsub (by simp [hset]) hv
      have hfz' : Rel { E with h := hset E.h id .dead, w := w' } (.fz ((xs.drop off).take len)) (a.eval x) := by
        obtain ⟨b0, cap0, blk, o0, sz0, us0, e0', hb0, hcap0, hs0', h10, hc0, hr0⟩ := hfz.fz_inv
        have hlenx : ((xs.drop off).take len).length = len := by simp; omega
        rw [e0']
        refine Rel.fz _ b0 cap0 (E.ι id) (off * sz) sz (fun i j => us.getD ((off + i) * sz + j) undef) (fun hne => ?_) hcap0 (fun y hy => hlen y (List.mem_of_mem_drop (List.mem_of_mem_take hy))) h10 (fun i y j c hy hj => ?_) (fun i y j c hy hj => ?_)
        · have hpos' : 0 < ((xs.drop off).take len).length := List.length_pos_iff.2 hne
          refine ⟨?_, fun hl => ?_, by show E.ι id < w'.heap.size; omega⟩
          · rw [e1] at e0'
            simp at e0'
            rcases h3 with ⟨_, h5⟩ | h5
            · omega
            · rw [← e0'.1]; exact h5
          · obtain ⟨i, hi1, hi2⟩ := hl
            have hi1' : hset E.h id .dead i ≠ .dead := hi1
            have hne' : i ≠ id := fun e2 => by subst e2; simp [hset] at hi1'
            have : E.h i ≠ .dead := by simpa [hset, hne'] using hi1'
            exact hne' (hs.inj i id this hd hi2)
        · have hy' : xs[off + i]? = some y := by
            rw [List.getElem?_take] at hy
            split at hy
            · rwa [List.getElem?_drop] at hy
            · cases hy
          obtain ⟨u, hu', hr⟩ := hru (off + i) y j c hy' hj
          show w'.cell? _ = _
          rw [hw4, cell_row hb]
          have e : off * sz + i * sz + j = (off + i) * sz + j := by rw [Nat.add_mul]
          rw [e, hu']
          simp [List.getD, hu']
        · have hy' : xs[off + i]? = some y := by
            rw [List.getElem?_take] at hy
            split at hy
            · rwa [List.getElem?_drop] at hy
            · cases hy
          obtain ⟨u, hu', hr⟩ := hru (off + i) y j c hy' hj
          simp only [List.getD, hu', Option.getD_some]
          exact hx'.rel _ _ hr
      rw [e1] at hfz'
      exact wp_value hrun (hk _ _ _ hs' hx' hfz' h)
    · exact h.elim
  · exact h.elim

end Go.AM
