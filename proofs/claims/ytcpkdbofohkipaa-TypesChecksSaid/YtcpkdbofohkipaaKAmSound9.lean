/- AM, 12: stores, appends, makes, maps written, calls. -/
import Derived.Test.YtcpkdbofohkipaaKAmSound8
set_option linter.unusedVariables false
set_option linter.unusedSimpArgs false
set_option linter.unusedSimpArgs false
set_option linter.unusedVariables false
namespace Go.AM
variable {P : Program} {N : Nat} {E : Env} {tm : Tm} {a : Act}

theorem run_storeVar_row' {w : World} {t : TypeId} {i : TypeInfo} (hi : P.info? t = some i) {g off : Nat} {us : List Value} {e : TypeId} (hg : w.heap[g]? = some (.cells us.toArray e (0, 0))) {v : Value} (hv : v.cells.size = i.size) (hle : off + v.cells.size ≤ us.length) (h1 : ∀ u ∈ v.cells.toList, u.oneCell' = true) :
    (storeVar t ⟨g, off, none⟩ v).run P w = .ok () (w.setRow g (us.take off ++ v.cells.toList ++ us.drop (off + v.cells.size)).toArray) := by
  have := run_storeCells_at P g off e v.cells.toList 0 us.toArray w hg (by simpa using hle) h1
  simp only [Nat.add_zero, Array.length_toList] at this
  simp [storeVar, info_of hi, hv]
  simpa [hv] using this

theorem RelL.ones {cs : List AV} {us : List Value} (h : RelL E cs us) (h1 : ∀ c ∈ cs, c.one = true) : ∀ u ∈ us, u.oneCell' = true := by
  intro u hu
  obtain ⟨j, hj⟩ := List.getElem?_of_mem hu
  have hjl : j < cs.length := by rw [← h.1]; exact (List.getElem?_eq_some_iff.1 hj).1
  have := h.2 j cs[j] u (List.getElem?_eq_getElem hjl) hj
  rw [this.one]
  exact h1 _ (List.getElem_mem hjl)

theorem step_st (hs : Sim E) {o : Oper} {t : TypeId} {x y : Operand} (ho : o.op = .store t x y) {i : TypeInfo} (hi : P.info? t = some i) {ax ay : AX} (hx : cOpd N x = some ax) (hy : cOpd N y = some ay) (ht : TmRel E N tm a) {K : AV → Hp → Prop}
    (h : AStep P (.st i.size ax ay) K tm E.h) {next : Act → World → Prop} {Q : Exit → Act → World → Prop} (hk : Goes E K a o.dst next) : o.wp P a E.w next Q := by
  obtain ⟨hf, hl, h⟩ := h
  obtain ⟨hvr, hv1⟩ := cells_rel (opd hy ht) hf
  have hvx := opd hx ht
  have hsz : (a.eval y).cells.size = i.size := by have := hvr.1; simp at this; omega
  have huo := hvr.ones hv1
  split at h
  · rename_i id off hev
    rw [hev] at hvx
    split at h
    · rename_i cs hh
      obtain ⟨hle, h⟩ := h
      have ob := hs.obj id
      unfold ObjRel at ob
      rw [hh] at ob
      obtain ⟨us, e, h1, h2, h3, h4⟩ := ob
      obtain ⟨us', e1, _⟩ := ptr_cells hs hvx hh
      have hd : E.h id ≠ .dead := by rw [hh]; simp
      let us2 := us.take off ++ (a.eval y).cells.toList ++ us.drop (off + (a.eval y).cells.size)
      have hrun := run_storeVar_row' (P := P) hi h2 (off := off) hsz (by omega) huo
      have hst : Shape (E.h id) (.cells (splice cs off (ay.ev tm).cells)) := by rw [hh]; exact ⟨fun _ _ => ⟨_, rfl⟩, (fun _ _ _ h => by cases h), (fun _ h => by cases h)⟩
      have hx' := Env.turn_ext hs hd hst (w' := E.w.setRow (E.ι id) us2.toArray) ⟨rfl, rfl, rfl⟩ (by simp) (fun b hb => setRow_other _ _ _ _ hb)
      have hrel : RelL E (splice cs off (ay.ev tm).cells) us2 := by
        have := splice_rel (E := E) ⟨h1, h4⟩ hvr off
        simp only [Array.length_toList] at this
        exact this
      have hs' := Env.turn_sim hs hd hst (w' := E.w.setRow (E.ι id) us2.toArray) ⟨rfl, rfl, rfl⟩ (by simp) (fun b hb => setRow_other _ _ _ _ hb) (by
        unfold ObjRel
        have : (E.turn (E.w.setRow (E.ι id) us2.toArray) id (.cells (splice cs off (ay.ev tm).cells))).h id = .cells (splice cs off (ay.ev tm).cells) := by simp [Env.turn, hset]
        rw [this]
        exact ⟨us2, e, hrel.1, setRow_heap _ _ _ _ _ _ h2, splice_ones h3 hv1 off, fun j c u hc hu => hx'.rel _ _ (hrel.2 j c u hc hu)⟩)
      refine wp_skipped (w' := E.w.setRow (E.ι id) us2.toArray) ?_ (hk _ _ _ hs' hx' (Rel.undef _) (by simpa [Env.turn] using h))
      simp only [execOp, ho, Instr.storeAt, Sem.run_bind, e1, Instr.sureAddr, Sem.run_pure, Result.andThen_ok, hrun]
      rfl
    · exact h.elim
  · rename_i id k off hev
    rw [hev] at hvx
    split at h
    · rename_i e sz xs hh
      split at h
      · rename_i row hrow
        obtain ⟨hle, h⟩ := h
        obtain ⟨us, hb, hul, hxk, hkm, hpos, hlen, hone, huo', hru⟩ := arr_row hs hh
        obtain ⟨us', e1, hrr, hrs, hr1, hrc⟩ := pe_cells hs hvx hh hrow
        have hd : E.h id ≠ .dead := by rw [hh]; simp
        have hkl : k < xs.length := (List.getElem?_eq_some_iff.1 hrow).1
        have hbd : (k + 1) * sz ≤ us.length := by rw [hul]; exact Nat.mul_le_mul_right _ (by omega)
        rw [Nat.add_mul] at hbd
        let us2 := us.take (k * sz + off) ++ (a.eval y).cells.toList ++ us.drop (k * sz + off + (a.eval y).cells.size)
        have hrun := run_storeVar_row' (P := P) hi hb (off := k * sz + off) hsz (by omega) huo
        have hst : Shape (E.h id) (.arr e sz (xs.set k (splice row off (ay.ev tm).cells))) := by
          rw [hh]; exact ⟨(fun _ h => by cases h), fun _ _ _ h => by cases h; exact ⟨xs, rfl, by simp⟩, (fun _ h => by cases h)⟩
        have hx' := Env.turn_ext hs hd hst (w' := E.w.setRow (E.ι id) us2.toArray) ⟨rfl, rfl, rfl⟩ (by simp) (fun b hb => setRow_other _ _ _ _ hb)
        have hul2 : us2.length = us.length := by simp [us2]; omega
        have hvl : (ay.ev tm).cells.length = (a.eval y).cells.size := by omega
        have hs' := Env.turn_sim hs hd hst (w' := E.w.setRow (E.ι id) us2.toArray) ⟨rfl, rfl, rfl⟩ (by simp) (fun b hb => setRow_other _ _ _ _ hb) (by
          unfold ObjRel
          have : (E.turn (E.w.setRow (E.ι id) us2.toArray) id (.arr e sz (xs.set k (splice row off (ay.ev tm).cells)))).h id = .arr e sz (xs.set k (splice row off (ay.ev tm).cells)) := by simp [Env.turn, hset]
          rw [this]
          have hspl : (splice row off (ay.ev tm).cells).length = sz := by rw [splice_length (by omega), hrs]
          refine ⟨us2, setRow_heap _ _ _ _ _ _ hb, by show us2.length = E.κ id * sz; omega, by show (xs.set k _).length ≤ E.κ id; simpa using hxk, hkm, hpos, fun x hx => ?_, fun x hx => ?_, fun u hu => ?_, fun i' x j c hx hj => ?_⟩
          · rcases List.mem_or_eq_of_mem_set hx with h | h
            · exact hlen x h
            · rw [h]; exact hspl
          · rcases List.mem_or_eq_of_mem_set hx with h | h
            · exact hone x h
            · rw [h]; exact splice_ones hr1 hv1 off
          · rcases List.mem_append.1 hu with hu | hu
            · rcases List.mem_append.1 hu with hu | hu
              · exact huo' u (List.mem_of_mem_take hu)
              · exact huo u hu
            · exact huo' u (List.mem_of_mem_drop hu)
          · have e0 : (us.take (k * sz + off)).length = k * sz + off := by simp; omega
            rw [List.getElem?_set] at hx
            split at hx
            · rename_i hki
              subst hki
              · simp at hx
                subst hx
                have hjl : j < sz := by rw [← hspl]; exact (List.getElem?_eq_some_iff.1 hj).1
                unfold splice at hj
                simp only [List.append_assoc] at hj
                have t1 : (List.take off row).length = off := by simp; omega
                by_cases hj1 : j < off
                · rw [List.getElem?_append_left (by omega), List.getElem?_take, if_pos hj1] at hj
                  obtain ⟨u, hu, hr⟩ := hru k row j c hrow hj
                  refine ⟨u, ?_, hx'.rel _ _ hr⟩
                  simp only [us2, List.append_assoc]
                  rw [List.getElem?_append_left (by omega), List.getElem?_take, if_pos (by omega)]
                  exact hu
                · rw [List.getElem?_append_right (by omega), t1] at hj
                  by_cases hj2 : j - off < (ay.ev tm).cells.length
                  · rw [List.getElem?_append_left hj2] at hj
                    obtain ⟨u, hu, hr⟩ := hvr.get hj
                    refine ⟨u, ?_, hx'.rel _ _ hr⟩
                    simp only [us2, List.append_assoc]
                    rw [List.getElem?_append_right (by omega), e0, List.getElem?_append_left (by rw [Array.length_toList]; omega), ← hu]
                    congr 1
                    omega
                  · rw [List.getElem?_append_right (by omega), List.getElem?_drop] at hj
                    have ej : off + (ay.ev tm).cells.length + (j - off - (ay.ev tm).cells.length) = j := by omega
                    rw [ej] at hj
                    obtain ⟨u, hu, hr⟩ := hru k row j c hrow hj
                    refine ⟨u, ?_, hx'.rel _ _ hr⟩
                    simp only [us2, List.append_assoc]
                    rw [List.getElem?_append_right (by omega), e0, List.getElem?_append_right (by rw [Array.length_toList]; omega), Array.length_toList, List.getElem?_drop, ← hu]
                    congr 1
                    omega
            · rename_i hki
              have hil : i' < xs.length := (List.getElem?_eq_some_iff.1 hx).1
              have hjl : j < sz := by rw [← hlen x (List.mem_of_getElem? hx)]; exact (List.getElem?_eq_some_iff.1 hj).1
              obtain ⟨u, hu, hr⟩ := hru i' x j c hx hj
              refine ⟨u, ?_, hx'.rel _ _ hr⟩
              simp only [us2, List.append_assoc]
              rcases Nat.lt_or_gt_of_ne hki with hlt | hgt
              · -- behind
                have : (k + 1) * sz ≤ i' * sz := Nat.mul_le_mul_right _ (by omega)
                rw [Nat.add_mul] at this
                rw [List.getElem?_append_right (by omega), e0, List.getElem?_append_right (by rw [Array.length_toList]; omega), Array.length_toList, List.getElem?_drop, ← hu]
                congr 1
                omega
              · have : (i' + 1) * sz ≤ k * sz := Nat.mul_le_mul_right _ (by omega)
                rw [Nat.add_mul] at this
                rw [List.getElem?_append_left (by omega), List.getElem?_take, if_pos (by omega)]
                exact hu)
        refine wp_skipped (w' := E.w.setRow (E.ι id) us2.toArray) ?_ (hk _ _ _ hs' hx' (Rel.undef _) (by simpa [Env.turn] using h))
        simp only [execOp, ho, Instr.storeAt, Sem.run_bind, e1, Instr.sureAddr, Sem.run_pure, Result.andThen_ok, hrun]
        rfl
      · exact h.elim
    · exact h.elim
  · exact h.elim

/-! ### Appends -/

theorem run_append_row {w : World} {t ty e : TypeId} {i : TypeInfo} (ht : P.underlying t = some (.slice e)) (hi : P.info? e = some i) {g sLen sCap : Nat} {us : List Value} (hg : w.heap[g]? = some (.cells us.toArray e (0, 0))) {x : Value} {n : Nat} {news : List Value} (hs : Src P i.size t x n news w)
    (hroom : sLen + n ≤ sCap) (hle : sLen * i.size + news.length ≤ us.length) :
    (Builtin.append_ #[t, t] ty #[.slice (some ⟨g, 0, none⟩) sLen sCap, x]).run P w = .ok (.slice (some ⟨g, 0, none⟩) (sLen + n) sCap) (w.setRow g (us.take (sLen * i.size) ++ news ++ us.drop (sLen * i.size + news.length)).toArray) := by
  have hst := run_storeCells_at P g (sLen * i.size) e news 0 us.toArray w hg (by simpa using hle) hs.one
  simp only [Nat.add_zero] at hst
  simp [Builtin.append_, run_underlying ht, sizeOf, typeInfo, hi, hs.len, hroom, hs.cells, Addr.add_lit, hst]

/-- What is appended, as the model reads it. -/
theorem src_of (hs : Sim E) {t e0 : TypeId} (hu : P.underlying t = some (.slice e0)) {x : AV} {v : Value} {sz : Nat} (hpos : 0 < sz) {ys : List (List AV)} (h : elemsOf E.h sz x = some ys) (hr : Rel E x v) :
    ∃ us : List Value, Src P sz t v ys.length us E.w ∧ us.length = ys.length * sz ∧ (∀ y ∈ ys, y.length = sz) ∧ (∀ y ∈ ys, ∀ c ∈ y, c.one = true) ∧ Laid E sz ys us ∧ (∀ u ∈ us, u.oneCell' = true) := by
  obtain ⟨b, cap, us, e1, hul, hy1, hy2, hcell, hbase⟩ := elems_cells hs h hr
  have huo : ∀ u ∈ us, u.oneCell' = true := by
    intro u hu'
    obtain ⟨idx, hidx⟩ := List.getElem?_of_mem hu'
    have hil : idx < ys.length * sz := by rw [← hul]; exact (List.getElem?_eq_some_iff.1 hidx).1
    have hd : idx / sz < ys.length := (Nat.div_lt_iff_lt_mul hpos).2 hil
    have hm : idx % sz < sz := Nat.mod_lt _ hpos
    have hyl := hy1 _ (List.getElem_mem hd)
    obtain ⟨u', hu2, hr'⟩ := hcell (idx / sz) _ (idx % sz) _ (List.getElem?_eq_getElem hd) (List.getElem?_eq_getElem (by omega))
    rw [Nat.mul_comm, Nat.div_add_mod, hidx] at hu2
    cases hu2
    rw [hr'.one]
    exact hy2 _ (List.getElem_mem hd) _ (List.getElem_mem _)
  refine ⟨us, ?_, hul, hy1, hy2, hcell, huo⟩
  subst e1
  by_cases hne : us = []
  · subst hne
    have hy0 : ys = [] := by
      have h0 : ys.length * sz = 0 := by simpa using hul.symm
      rcases Nat.mul_eq_zero.1 h0 with h | h
      · exact List.eq_nil_of_length_eq_zero h
      · omega
    subst hy0
    cases b with
    | none => exact Src.ofNil E.w hu cap
    | some ad => exact Src.ofSlice E.w hu ad 0 cap [] (by simp) (by simp) (by simp)
  · obtain ⟨g, o, hb, hc⟩ := hbase hne
    subst hb
    exact Src.ofSlice E.w hu ⟨g, o, none⟩ ys.length cap us hul (fun j u hj => by rw [Addr.add_mid]; exact hc j u hj) huo

theorem zeroCells_one {z : Value} {zz : AV} (hz : Rel E zz z) (hf : zz.flat = true) (n : Nat) : ∀ u ∈ (Builtin.zeroCells z.cells n).toList, u.oneCell' = true := by
  intro u hu
  obtain ⟨hr, h1⟩ := cells_rel hz hf
  have ho := hr.ones h1
  simp only [Builtin.zeroCells, Array.toList_map, List.mem_map] at hu
  obtain ⟨i, hi, rfl⟩ := hu
  by_cases h0 : z.cells.size = 0
  · simp [h0] at hi
  · have hlt : i % z.cells.size < z.cells.size := Nat.mod_lt _ (by omega)
    rw [getElem!_pos z.cells _ hlt]
    exact ho _ (by simp)

theorem zeroCells_size (z : Array Value) (n : Nat) : (Builtin.zeroCells z n).size = n * z.size := by simp [Builtin.zeroCells]

theorem Laid.append {sz : Nat} {xs ys : List (List AV)} {us vs : List Value} (h : Laid E sz xs us) (k : Laid E sz ys vs) (hl : us.length = xs.length * sz) (hxs : ∀ x ∈ xs, x.length = sz) : Laid E sz (xs ++ ys) (us ++ vs) := by
  intro i x j c hx hj
  by_cases hi : i < xs.length
  · rw [List.getElem?_append_left hi] at hx
    obtain ⟨u, hu, hr⟩ := h i x j c hx hj
    exact ⟨u, by rw [List.getElem?_append_left ((List.getElem?_eq_some_iff.1 hu).1)]; exact hu, hr⟩
  · rw [List.getElem?_append_right (by omega)] at hx
    obtain ⟨u, hu, hr⟩ := k _ x j c hx hj
    refine ⟨u, ?_, hr⟩
    have : xs.length * sz ≤ i * sz := Nat.mul_le_mul_right _ (by omega)
    rw [List.getElem?_append_right (by omega), ← hu]
    congr 1
    rw [hl, Nat.sub_mul]
    omega

theorem Laid.ext {sz : Nat} {xs : List (List AV)} {us vs : List Value} (h : Laid E sz xs us) : Laid E sz xs (us ++ vs) := by
  intro i x j c hx hj
  obtain ⟨u, hu, hr⟩ := h i x j c hx hj
  exact ⟨u, by rw [List.getElem?_append_left ((List.getElem?_eq_some_iff.1 hu).1)]; exact hu, hr⟩

theorem Laid.takes {sz n : Nat} {xs : List (List AV)} {us : List Value} (h : Laid E sz xs us) (hxs : ∀ x ∈ xs, x.length = sz) : Laid E sz (xs.take n) (us.take (n * sz)) := by
  intro i x j c hx hj
  rw [List.getElem?_take] at hx
  split at hx
  · rename_i hi
    obtain ⟨u, hu, hr⟩ := h i x j c hx hj
    have hjl : j < sz := by rw [← hxs x (List.mem_of_getElem? hx)]; exact (List.getElem?_eq_some_iff.1 hj).1
    have : (i + 1) * sz ≤ n * sz := Nat.mul_le_mul_right _ (by omega)
    rw [Nat.add_mul] at this
    exact ⟨u, by rw [List.getElem?_take, if_pos (by omega)]; exact hu, hr⟩
  · cases hx

theorem Laid.mono {E' : Env} {sz : Nat} {xs : List (List AV)} {us : List Value} (h : Laid E sz xs us) (hx : Ext E E') : Laid E' sz xs us := fun i x j c h1 h2 => let ⟨u, hu, hr⟩ := h i x j c h1 h2; ⟨u, hu, hx.rel _ _ hr⟩

/-- An append that makes a new row. -/
theorem app_grow (hs : Sim E) {o : Oper} {t e0 : TypeId} {s x : Operand} (ho : o.op = .call { callee := .builtin .append, args := #[s, x], argTypes := #[t, t] }) (hu : P.underlying t = some (.slice e0)) {i : TypeInfo} (hi : P.info? e0 = some i) {z : AV} (hz : i.zero.bind ofConst = some z) (hzf : z.flat = true) (hzl : z.cells.length = i.size) (hpos : 0 < i.size) (hby : 0 < i.bytes)
    {b : Option Addr} {n cap : Nat} (hsv : a.eval s = .slice b n cap) {olds : List Value} {xs : List (List AV)} (hxl : xs.length = n) (hol : olds.length = n * i.size) (hold : (Builtin.firstCells i.size n (.slice b n cap)).run P E.w.drew = .ok olds.toArray E.w.drew) (hxs : ∀ x ∈ xs, x.length = i.size) (hx1 : ∀ x ∈ xs, ∀ c ∈ x, c.one = true) (ho1 : ∀ u ∈ olds, u.oneCell' = true) (hlo : Laid E i.size xs olds)
    {ys : List (List AV)} {news : List Value} (hsrc : Src P i.size t (a.eval x) ys.length news E.w) (hnl : news.length = ys.length * i.size) (hys : ∀ y ∈ ys, y.length = i.size) (hy1 : ∀ y ∈ ys, ∀ c ∈ y, c.one = true) (hln : Laid E i.size ys news) (hno : ∀ u ∈ news, u.oneCell' = true)
    (hg : cap < n + ys.length) (hmax : n + ys.length ≤ 4611686018427387904) (hbytes : (n + ys.length) * i.bytes ≤ 140737488355328) :
    ∃ E' v, Sim E' ∧ Ext E E' ∧ (execOp a.eval o).run P E.w = .ok (.value v) E'.w ∧ E'.h = hset E.h E.nx (.arr e0 i.size (xs ++ ys)) ∧ Rel E' (.sl E.nx 0 (n + ys.length)) v := by
  obtain ⟨zv, hzi, hzr⟩ : ∃ zv, i.zero = some zv ∧ Rel E z zv := by
    cases hzi : i.zero with
    | none => simp [hzi] at hz
    | some zv => simp [hzi] at hz; exact ⟨zv, rfl, ofConst_rel E hz⟩
  have hzs : zv.cells.size = i.size := by have := (cells_rel hzr hzf).1.1; simp at this; omega
  have hrun := run_append_grow_src (P := P) E.w t t o.type e0 i zv hu hi hzi b n cap olds hold (a.eval x) ys.length news hsrc hg (by omega) (growslice_fits hg hbytes)
  have hge := grownCap_ge E.w (n + ys.length) cap e0
  have hcm : grownCap E.w (n + ys.length) cap e0 ≤ maxLen := grownCap_le_maxLen E.w (n + ys.length) cap e0 (by simp only [maxLen]; omega)
  obtain ⟨E', s', x', hw, hh, hpr⟩ := new_row (e := e0) (κ0 := grownCap E.w (n + ys.length) cap e0) hs (w1 := E.w.drew) ⟨rfl, rfl, rfl⟩ rfl (us := (olds ++ news) ++ (Builtin.zeroCells zv.cells (grownCap E.w (n + ys.length) cap e0 - (n + ys.length))).toList)
    (by
      simp only [List.length_append, Array.length_toList, zeroCells_size, hzs, hol, hnl, ← Nat.add_mul]
      congr 1
      omega) (xs := xs ++ ys) (by simp [hxl]; exact hge) hcm hpos (fun y hy => by
        rcases List.mem_append.1 hy with h | h
        · exact hxs y h
        · exact hys y h) (fun y hy => by
        rcases List.mem_append.1 hy with h | h
        · exact hx1 y h
        · exact hy1 y h) (fun u hu' => by
        rcases List.mem_append.1 hu' with h | h
        · rcases List.mem_append.1 h with h | h
          · exact ho1 u h
          · exact hno u h
        · exact zeroCells_one hzr hzf _ u h) ((hlo.append hln (by rw [hol, hxl]) hxs).ext) (n + ys.length) (by simp [hxl])
  refine ⟨E', _, s', x', ?_, hh, hpr⟩
  rw [hw]
  simp only [execOp, ho, resolve, invoke, builtin, Sem.run_bind, Sem.run_pure, Result.andThen_ok, List.map_toArray, List.map_cons, List.map_nil, hsv, hrun]
  congr 2
  simp

/-- Two steps of an environment in one: an object let go, another one made in its block, or in a new one. -/
theorem renew_ext (hs : Sim E) {id : Nat} (hd : E.h id ≠ .dead) {w' : World} {o : AObj} {κ0 : Nat} (hr : SameRest E.w w') (hsize : w'.heap.size = E.w.heap.size) (hold : ∀ b, b ≠ E.ι id → w'.heap[b]? = E.w.heap[b]?) :
    Ext E { h := hset (hset E.h id .dead) E.nx o, ι := fun i => if i = E.nx then E.ι id else E.ι i, κ := fun i => if i = E.nx then κ0 else E.κ i, w := w', nx := E.nx + 1 } := by
  have hidn : id < E.nx := hs.id_lt hd
  refine Ext.of (Nat.le_succ _) (fun i hi hdi => ?_) hr (Nat.le_of_eq hsize.symm) (fun b hb hl => hold b (fun e => hl ⟨id, hd, e.symm⟩)) (fun b hb hl => ?_)
  · have hne : i ≠ E.nx := by omega
    simp only [hset, if_neg hne] at hdi ⊢
    by_cases hi2 : i = id
    · simp [hi2] at hdi
    · simp only [if_neg hi2]; exact ⟨Shape.refl _, trivial, trivial⟩
  · obtain ⟨i, h1, h2⟩ := hl
    by_cases hne : i = E.nx
    · simp [hne] at h2; exact ⟨id, hd, h2⟩
    · simp only [hset, if_neg hne] at h1 h2
      by_cases hi2 : i = id
      · simp [hi2] at h1
      · simp only [if_neg hi2] at h1; exact ⟨i, h1, h2⟩

theorem renew_sim (hs : Sim E) {id : Nat} (hd : E.h id ≠ .dead) {w' : World} {o : AObj} {κ0 : Nat} (hr : SameRest E.w w') (hsize : w'.heap.size = E.w.heap.size) (hold : ∀ b, b ≠ E.ι id → w'.heap[b]? = E.w.heap[b]?)
    (ho : ObjRel { h := hset (hset E.h id .dead) E.nx o, ι := fun i => if i = E.nx then E.ι id else E.ι i, κ := fun i => if i = E.nx then κ0 else E.κ i, w := w', nx := E.nx + 1 } E.nx) :
    Sim { h := hset (hset E.h id .dead) E.nx o, ι := fun i => if i = E.nx then E.ι id else E.ι i, κ := fun i => if i = E.nx then κ0 else E.κ i, w := w', nx := E.nx + 1 } := by
  have hx := renew_ext (o := o) (κ0 := κ0) hs hd hr hsize hold
  have hidn : id < E.nx := hs.id_lt hd
  have hold' : ∀ i, i ≠ E.nx → hset (hset E.h id .dead) E.nx o i ≠ .dead → E.h i ≠ .dead ∧ i ≠ id := fun i hne hi => by
    simp only [hset, if_neg hne] at hi
    by_cases hi2 : i = id
    · simp [hi2] at hi
    · simp only [if_neg hi2] at hi; exact ⟨hi, hi2⟩
  refine ⟨fun i => ?_, fun i hi => ?_, fun i j hi hj he => ?_, fun i hi => ?_⟩
  · by_cases hne : i = E.nx
    · rw [hne]; exact ho
    · by_cases hi2 : i = id
      · subst hi2
        unfold ObjRel
        have : hset (hset E.h i .dead) E.nx o i = .dead := by simp [hset, hne]
        simp only [this]
      · refine (hs.obj i).keep (by simp [hset, hne, hi2]) (by simp [hne]) (by simp [hne]) (fun hdi => hold _ (fun e => hi2 (hs.inj i id hdi hd e))) hx.rel
  · have h1 : E.nx + 1 ≤ i := hi
    have hne : i ≠ E.nx := by omega
    have hne2 : i ≠ id := by omega
    simp only [hset, if_neg hne, if_neg hne2]
    exact hs.nx i (by omega)
  · by_cases h1 : i = E.nx
    · by_cases h2 : j = E.nx
      · omega
      · obtain ⟨k1, k2⟩ := hold' j h2 hj
        simp [h1, h2] at he
        exact absurd (hs.inj id j hd k1 he).symm k2
    · obtain ⟨k1, k2⟩ := hold' i h1 hi
      by_cases h2 : j = E.nx
      · simp [h1, h2] at he
        exact absurd (hs.inj i id k1 hd he) k2
      · obtain ⟨k3, k4⟩ := hold' j h2 hj
        simp [h1, h2] at he
        exact hs.inj i j k1 k3 he
  · by_cases h1 : i = E.nx
    · simp [h1, hsize]; exact hs.lt id hd
    · obtain ⟨k1, k2⟩ := hold' i h1 hi
      simp [h1, hsize]
      exact hs.lt i k1

end Go.AM
