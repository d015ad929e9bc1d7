/- AM, 6: slices, strings of bytes, maps, structs built. -/
import Derived.Test.YtcpkdbofohkipaaKAmSound3
set_option linter.unusedVariables false
set_option linter.unusedSimpArgs false
set_option linter.unusedSimpArgs false
set_option linter.unusedVariables false
namespace Go.AM
variable {P : Program} {N : Nat} {E : Env} {tm : Tm} {a : Act}

theorem range_get {α : Type} {n : Nat} {f : Nat → α} {j : Nat} {u : α} (h : ((List.range n).map f)[j]? = some u) : j < n ∧ f j = u := by
  rw [List.getElem?_map] at h
  by_cases hj : j < n
  · rw [List.getElem?_range hj] at h
    exact ⟨hj, by simpa using h⟩
  · rw [List.getElem?_eq_none (by simpa using hj)] at h
    cases h

theorem Rel.fz_inv {xs : List (List AV)} {v : Value} (h : Rel E (.fz xs) v) : ∃ (b : Option Addr) (cap blk o sz : Nat) (us : Nat → Nat → Value), v = .slice b xs.length cap ∧ (xs ≠ [] → b = some ⟨blk, o, none⟩ ∧ ¬ E.live blk ∧ blk < E.w.heap.size) ∧
    xs.length ≤ cap ∧ (∀ x ∈ xs, x.length = sz) ∧ (∀ x ∈ xs, ∀ c ∈ x, c.one = true) ∧ (∀ (i : Nat) (x : List AV) (j : Nat) (c : AV), xs[i]? = some x → x[j]? = some c → E.w.cell? ⟨blk, o + i * sz + j, none⟩ = some (us i j)) ∧
    (∀ (i : Nat) (x : List AV) (j : Nat) (c : AV), xs[i]? = some x → x[j]? = some c → Rel E c (us i j)) := by
  cases h with
  | fz _ b cap blk o sz us hb hcap hs h1 hc hr => exact ⟨b, cap, blk, o, sz, us, rfl, hb, hcap, hs, h1, hc, hr⟩

theorem Rel.sl_inv {id off len : Nat} {v : Value} (h : Rel E (.sl id off len) v) : ∃ (b : Option Addr) (cap : Nat), v = .slice b len cap ∧ id < E.nx ∧
    ∀ e sz xs, E.h id = .arr e sz xs → off + len ≤ xs.length ∧ off + cap = E.κ id ∧ ((off ≠ 0 ∧ cap = 0) ∨ b = some ⟨E.ι id, off * sz, none⟩) := by
  cases h with
  | sl _ _ _ b cap hn h => exact ⟨b, cap, rfl, hn, h⟩

theorem yields_ia (hs : Sim E) {o : Oper} {t e0 : TypeId} {x i : Operand} (ho : o.op = .indexAddr t x i) (hu : P.underlying t = some (.slice e0)) {inf : TypeInfo} (hinf : P.info? e0 = some inf) {ax ai : AX} (hx : cOpd N x = some ax) (hi : cOpd N i = some ai) (ht : TmRel E N tm a) {r : AV}
    (h : apure (.ia inf.size ax ai) tm E.h = some r) : Yields P E a o r := by
  have hvx := opd hx ht
  have hvi := opd hi ht
  simp only [apure] at h
  generalize ax.ev tm = u at *
  generalize ai.ev tm = v at *
  split at h
  · rename_i k n
    have e2 := hvi.int_inv
    have fin : ∀ ad len cap, a.eval x = .slice (some ad) len cap → 0 ≤ n → n < len → Rel E r (.pointer (some (ad.add (n.toNat * inf.size)))) → Yields P E a o r := fun ad len cap h1 h2 h3 h4 =>
      ⟨_, by simp [execOp, ho, h1, e2, Instr.indexAt, asIntOf, run_underlying hu, info_of hinf, h2, h3], h4⟩
    split at h
    · rename_i xs
      obtain ⟨b, cap, blk, o', sz, us, hv, hb, hcap, hsz, h1, hc, hr⟩ := hvx.fz_inv
      split at h
      · rename_i h0
        split at h
        · rename_i el hel
          split at h
          · rename_i hlen
            cases h
            have hne : xs ≠ [] := by intro h0; subst h0; simp at hel
            obtain ⟨hb1, hb2, hb3⟩ := hb hne
            have hnl : n.toNat < xs.length := (List.getElem?_eq_some_iff.1 hel).1
            have hel' : el ∈ xs := List.mem_of_getElem? hel
            have hszz : sz = inf.size := by rw [← hsz el hel', hlen]
            subst hb1
            refine fin _ _ _ hv h0 (by omega) ?_
            rw [Addr.add_mid]
            refine .fp el _ ((List.range el.length).map (us n.toNat)) hb2 hb3 rfl (by simp) (h1 el hel') (fun j u hu => ?_) (fun j c u hc' hu => ?_)
            · obtain ⟨hj', rfl⟩ := range_get hu
              have := hc n.toNat el j el[j] hel (List.getElem?_eq_getElem hj')
              rw [hszz] at this
              exact this
            · obtain ⟨hj', rfl⟩ := range_get hu
              exact hr n.toNat el j c hel hc'
          · cases h
        · cases h
      · cases h
    · rename_i id off len
      obtain ⟨b, cap, hv, hn, hp⟩ := hvx.sl_inv
      split at h
      · rename_i e sz xs hh
        obtain ⟨h1, h2, h3⟩ := hp e sz xs hh
        split at h
        · rename_i hsz
          split at h
          · rename_i h0
            split at h
            · rename_i hlt
              cases h
              obtain ⟨_, _, _, hxk, _⟩ := arr_row hs hh
              have hb : b = some ⟨E.ι id, off * sz, none⟩ := by
                rcases h3 with ⟨_, hz⟩ | hb
                · omega
                · exact hb
              subst hb
              refine fin _ _ _ hv h0 hlt ?_
              rw [Addr.add_mid]
              refine .pe _ _ _ _ hn fun e' sz' xs' hh' => ?_
              rw [hh] at hh'
              cases hh'
              rw [← hsz, Nat.add_mul]; rfl
            · cases h
          · cases h
        · cases h
      · cases h
    · cases h
  · cases h

theorem yields_fld {o : Oper} {t : TypeId} {x : Operand} {f : Nat} (ho : o.op = .field t x f) {fs : Array Field} (hu : P.underlying t = some (.struct fs)) {fd : Field} (hf : fs[f]? = some fd) {n : Option Nat} (hag : aggSize P fd.type = some n)
    {ax : AX} (hx : cOpd N x = some ax) (ht : TmRel E N tm a) {r : AV} (h : apure (.fld fd.offset n ax) tm E.h = some r) : Yields P E a o r := by
  have hv := opd hx ht
  simp only [apure] at h
  generalize ax.ev tm = u at *
  obtain ⟨hg1, hg2⟩ := isAgg_of (P := P) hag E.w
  split at h
  · rename_i cs
    obtain ⟨us, e1, hl, h1, hr⟩ := hv.agg_inv
    cases n with
    | none =>
      simp at h
      obtain ⟨u, hu', hru⟩ := hr.get h
      exact ⟨u, by simp [execOp, ho, e1, Instr.field, run_underlying hu, hf, asAgg, part, hg1, hu'], hru⟩
    | some n =>
      simp at h
      subst h
      obtain ⟨i, hi, hsz⟩ := hg2 n rfl
      refine ⟨.agg ((us.drop fd.offset).take n).toArray, ?_, .agg _ _ ((hr.drop _).take n).1 (fun c hc => h1 c (List.mem_of_mem_drop (List.mem_of_mem_take hc))) ((hr.drop _).take n).2⟩
      simp [execOp, ho, e1, Instr.field, run_underlying hu, hf, asAgg, part, hg1, info_of hi, hsz]
  · cases h

theorem yields_len (hs : Sim E) {o : Oper} {t : TypeId} {x : Operand} (ho : o.op = .call { callee := .builtin .len, args := #[x], argTypes := #[t] }) {k : LenK}
    (hk : match k with | .sl => ∃ e, P.underlying t = some (.slice e) | .str => P.underlying t = some .string | .map => ∃ kt et, P.underlying t = some (.map kt et))
    {ax : AX} (hx : cOpd N x = some ax) (ht : TmRel E N tm a) {r : AV} (h : apure (.len k ax) tm E.h = some r) : Yields P E a o r := by
  have hv := opd hx ht
  simp only [apure] at h
  generalize ax.ev tm = u at *
  split at h
  · obtain ⟨e, hu⟩ := hk
    obtain ⟨b, e1⟩ := hv.nl_inv
    cases h
    exact ⟨_, by simp [execOp, ho, e1, resolve, invoke, builtin, Builtin.len_, run_underlying hu, goInt], .int _ _⟩
  · obtain ⟨e, hu⟩ := hk
    obtain ⟨b, cap, blk, o', sz, us, e1, _⟩ := hv.fz_inv
    cases h
    exact ⟨_, by simp [execOp, ho, e1, resolve, invoke, builtin, Builtin.len_, run_underlying hu, goInt], .int _ _⟩
  · obtain ⟨e, hu⟩ := hk
    obtain ⟨b, cap, e1, _⟩ := hv.sl_inv
    cases h
    exact ⟨_, by simp [execOp, ho, e1, resolve, invoke, builtin, Builtin.len_, run_underlying hu, goInt], .int _ _⟩
  · have e1 := hv.str_inv
    cases h
    exact ⟨_, by simp [execOp, ho, e1, resolve, invoke, builtin, Builtin.len_, run_underlying hk, goInt, size_mk], .int _ _⟩
  · obtain ⟨kt, et, hu⟩ := hk
    have e1 := hv.nilm_inv
    cases h
    exact ⟨_, by simp [execOp, ho, e1, resolve, invoke, builtin, Builtin.len_, run_underlying hu, goInt], .int _ _⟩
  · rename_i id
    obtain ⟨kt, et, hu⟩ := hk
    split at h
    · rename_i es hh
      cases h
      have ob := hs.obj id
      unfold ObjRel at ob
      rw [hh] at ob
      obtain ⟨ents, clk, hb, hsz, _⟩ := ob
      obtain ⟨v0, hq⟩ : ∃ v, a.eval x = v := ⟨_, rfl⟩
      rw [hq] at hv
      cases hv with
      | mp _ r hn hp =>
        have hr := hp es hh
        subst hr
        have hg : (getObj (E.ι id)).run P E.w = .ok (.map ents clk) E.w := by simp [getObj, Sem.run, hb]
        exact ⟨_, by simp [execOp, ho, hq, resolve, invoke, builtin, Builtin.len_, run_underlying hu, goInt, hg, hsz], .int _ _⟩
    · cases h
  · cases h

/-! ### What a slice holds, in memory -/

/-- The cells of the elements, one behind the other. -/
theorem elems_cells (hs : Sim E) {x : AV} {v : Value} {sz : Nat} {ys : List (List AV)} (h : elemsOf E.h sz x = some ys) (hr : Rel E x v) :
    ∃ (b : Option Addr) (cap : Nat) (us : List Value), v = .slice b ys.length cap ∧ us.length = ys.length * sz ∧ (∀ y ∈ ys, y.length = sz) ∧ (∀ y ∈ ys, ∀ c ∈ y, c.one = true) ∧
      (∀ (i : Nat) (y : List AV) (j : Nat) (c : AV), ys[i]? = some y → y[j]? = some c → ∃ u, us[i * sz + j]? = some u ∧ Rel E c u) ∧
      (us ≠ [] → ∃ g o, b = some ⟨g, o, none⟩ ∧ ∀ j u, us[j]? = some u → E.w.cell? ⟨g, o + j, none⟩ = some u) := by
  unfold elemsOf at h
  split at h
  · cases h
    obtain ⟨b, e1⟩ := hr.nl_inv
    exact ⟨b, 0, [], e1, by simp, by simp, by simp, by simp, fun h => absurd rfl h⟩
  · rename_i xs
    split at h
    · rename_i hall
      obtain rfl : xs = ys := by simpa using h
      obtain ⟨b, cap, blk, o, sz', us, e1, hb, hcap, hsz', h1, hc, hrr⟩ := hr.fz_inv
      have hall' : ∀ y ∈ xs, y.length = sz := by simpa using hall
      by_cases hz : sz = 0
      · subst hz
        refine ⟨b, cap, [], e1, by simp, hall', h1, fun i y j c hy hj => ?_, fun h => absurd rfl h⟩
        have := hall' y (List.mem_of_getElem? hy)
        have := (List.getElem?_eq_some_iff.1 hj).1
        omega
      · refine ⟨b, cap, (List.range (xs.length * sz)).map fun k => us (k / sz) (k % sz), e1, by simp, hall', h1, fun i y j c hy hj => ?_, fun hne => ?_⟩
        · have hi := (List.getElem?_eq_some_iff.1 hy).1
          have hjl := (List.getElem?_eq_some_iff.1 hj).1
          rw [hall' y (List.mem_of_getElem? hy)] at hjl
          have hlt : i * sz + j < xs.length * sz := by
            have : (i + 1) * sz ≤ xs.length * sz := Nat.mul_le_mul_right _ (by omega)
            rw [Nat.add_mul] at this; omega
          refine ⟨us i j, ?_, hrr i y j c hy hj⟩
          have hpos : 0 < sz := by omega
          rw [List.getElem?_map, List.getElem?_range hlt]
          have d1 : (i * sz + j) / sz = i := by rw [Nat.add_comm, Nat.add_mul_div_right _ _ hpos, Nat.div_eq_of_lt hjl, Nat.zero_add]
          have d2 : (i * sz + j) % sz = j := by rw [Nat.add_comm, Nat.add_mul_mod_self_right, Nat.mod_eq_of_lt hjl]
          simp [d1, d2]
        · have hxne : xs ≠ [] := by intro h0; subst h0; simp at hne
          obtain ⟨hb1, hb2, hb3⟩ := hb hxne
          refine ⟨blk, o, hb1, fun k u hk => ?_⟩
          obtain ⟨hk', rfl⟩ := range_get hk
          obtain ⟨k', rfl⟩ : ∃ k', k' = k := ⟨k, rfl⟩
          have hpos : 0 < sz := by omega
          have hi : k' / sz < xs.length := (Nat.div_lt_iff_lt_mul hpos).2 hk'
          have hxi : xs[k' / sz]? = some xs[k' / sz] := List.getElem?_eq_getElem hi
          have hmod : k' % sz < sz := Nat.mod_lt _ hpos
          have hlen : xs[k' / sz].length = sz := hall' _ (List.getElem_mem hi)
          have hszz : sz' = sz := by rw [← hsz' _ (List.getElem_mem hi), hlen]
          have hxj : (xs[k' / sz])[k' % sz]? = some ((xs[k' / sz])[k' % sz]'(by omega)) := List.getElem?_eq_getElem (by omega)
          have hcell := hc (k' / sz) _ (k' % sz) _ hxi hxj
          rw [hszz] at hcell
          have e : o + k' / sz * sz + k' % sz = o + k' := by rw [Nat.add_assoc, Nat.mul_comm, Nat.div_add_mod]
          rw [e] at hcell
          exact hcell
    · cases h
  · rename_i id off len
    split at h
    · rename_i e sz' xs hh
      split at h
      · rename_i hsz
        split at h
        · rename_i hle
          cases h
          obtain ⟨b, cap, e1, hn, hp⟩ := hr.sl_inv
          obtain ⟨h1, h2, h3⟩ := hp e sz' xs hh
          obtain ⟨us, hb, hl, hxk, hkm, hpos, hlen, hone, huo, hru⟩ := arr_row hs hh
          subst hsz
          have hxs : ((xs.drop off).take len).length = len := by simp; omega
          have hget : ∀ i y, ((xs.drop off).take len)[i]? = some y → xs[off + i]? = some y := fun i y hy => by
            rw [List.getElem?_take] at hy
            split at hy
            · rwa [List.getElem?_drop] at hy
            · cases hy
          have hmem : ∀ y ∈ (xs.drop off).take len, y ∈ xs := fun y hy => List.mem_of_mem_drop (List.mem_of_mem_take hy)
          have hbd : (off + len) * sz' ≤ us.length := by rw [hl]; exact Nat.mul_le_mul_right _ (by omega)
          rw [Nat.add_mul] at hbd
          refine ⟨b, cap, (us.drop (off * sz')).take (len * sz'), by rw [hxs]; exact e1, by rw [hxs]; simp; omega, fun y hy => hlen y (hmem y hy), fun y hy => hone y (hmem y hy), fun i y j c hy hj => ?_, fun hne => ?_⟩
          · obtain ⟨u, hu, hr'⟩ := hru (off + i) y j c (hget i y hy) hj
            have hjl := (List.getElem?_eq_some_iff.1 hj).1
            rw [hlen y (hmem y (List.mem_of_getElem? hy))] at hjl
            have hil := (List.getElem?_eq_some_iff.1 hy).1
            rw [hxs] at hil
            have hlt : i * sz' + j < len * sz' := by
              have : (i + 1) * sz' ≤ len * sz' := Nat.mul_le_mul_right _ (by omega)
              rw [Nat.add_mul] at this; omega
            refine ⟨u, ?_, hr'⟩
            rw [List.getElem?_take, if_pos hlt, List.getElem?_drop, ← hu]
            congr 1
            rw [Nat.add_mul]; omega
          · have hb' : b = some ⟨E.ι id, off * sz', none⟩ := by
              rcases h3 with ⟨h4, h5⟩ | h4
              · exfalso
                have : len = 0 := by omega
                subst this
                simp at hne
              · exact h4
            refine ⟨_, _, hb', fun j u hj => ?_⟩
            rw [cell_row hb]
            rw [List.getElem?_take] at hj
            split at hj
            · rwa [List.getElem?_drop] at hj
            · cases hj
        · cases h
      · cases h
    · cases h
  · cases h

end Go.AM
