/- The program's names: what an expression binds, what is told, a visit. -/
import Derived.Test.YtcpkdbofohkipaaGreatKc
import Derived.Test.YtcpkdbofohkipaaGreatKTyA
set_option linter.unusedVariables false
set_option linter.unusedSimpArgs false
namespace Go.Proofs.YtcpkdbofohkipaaGreat
open Go.AM

theorem sbound_ok {h : Hp} {K : AV → Hp → Prop} {e : Ex} {i : Nat} (hK : K (rowsAV (strRows (boundS e i))) h) : ACalls Tryz.prog 118 [.agg e.cells, .int .i64 i] h K := by
  refine calls_of mixed Tryz.func118 comp118 (Nat.le_of_ble_eq_true rfl) ?_
  simp -dsimp [c118]
  intro i2 d2
  have hf : Keeps h (hset h i2 (.cells e.cells)) := (Keeps.refl h).new d2
  simp only [boundS] at hK
  by_cases h21 : e.op = 21
  · simp -dsimp [h21]
    intro i3 d3
    simp at d3
    simp -dsimp
    refine Gives.frz (h' := h) ((hf.set d3.2.2).sub) (Frz.rows (e := 9) (sz := 1) (xs := [[.str e.name]]) (by simp) d3.2.2) ?_
    simpa [h21, strRows, rowsAV] using hK
  by_cases h22 : e.op = 22 ∧ i = 1
  · obtain ⟨a1, a2⟩ := h22
    simp -dsimp [a1, a2]
    intro i3 d3
    simp at d3
    simp -dsimp
    refine Gives.frz (h' := h) ((hf.set d3.2.2).sub) (Frz.rows (e := 9) (sz := 1) (xs := [[.str e.name]]) (by simp) d3.2.2) ?_
    simpa [a1, a2, strRows, rowsAV] using hK
  have hnn : ¬ (e.op = 21 ∨ e.op = 22 ∧ (i : Int) = 1) := fun x => x.elim h21 (fun y => h22 ⟨y.1, by omega⟩)
  simp only [hnn, if_false] at hK
  by_cases o20 : e.op = 20 ∧ i = 2
  · obtain ⟨a1, a2⟩ := o20
    simp -dsimp [a1, a2]
    intro i3 d3
    simp at d3
    simp -dsimp
    refine Gives.frz (h' := h) ((hf.set d3.2.2).sub) (Frz.rows (e := 9) (sz := 1) (xs := [[.str e.name], [.str e.tail]]) (by simp) d3.2.2) ?_
    simpa [a1, a2, strRows, rowsAV] using hK
  have o20' : ¬ (e.op = 20 ∧ (i : Int) = 2) := fun y => o20 ⟨y.1, by omega⟩
  simp only [o20', if_false] at hK
  by_cases o22 : e.op = 22
  · have i1 : ¬ i = 1 := fun x => h22 ⟨o22, x⟩
    have i1' : ¬ (i : Int) = 1 := by omega
    simp -dsimp [o22, i1, i1']
    exact Gives.sub hf.sub hK
  by_cases q20 : e.op = 20
  · have i2' : ¬ i = 2 := fun x => o20 ⟨q20, x⟩
    have i2'' : ¬ (i : Int) = 2 := by omega
    simp -dsimp [q20, i2', i2'']
    exact Gives.sub hf.sub hK
  · simp -dsimp [h21, o22, q20]
    exact Gives.sub hf.sub hK

theorem tell_ok {h : Hp} {K : AV → Hp → Prop} {w at_ : Int} {fid : Nat} {f : Flt} (hf : h fid = .cells (fltRow f)) (hK : K .undef (hset h fid (.cells (fltRow (tell1 f (w, at_)))))) : ACalls Tryz.prog 81 [.int .i64 w, .int .i64 at_, .ptr fid 0] h K := by
  refine calls_of mixed Tryz.func81 comp81 (Nat.le_of_ble_eq_true rfl) ?_
  simp only [tell1] at hK
  by_cases h0 : f.1 = 0
  · simp -dsimp [c81, hf, fltRow, h0]
    exact Gives.same (by simpa [h0, fltRow] using hK)
  · by_cases h1 : at_ < f.2
    · simp -dsimp [c81, hf, fltRow, h0, h1]
      exact Gives.same (by simpa [h1, fltRow] using hK)
    · have hc : ¬ (f.1 = 0 ∨ at_ < f.2) := by simp [h0, h1]
      rw [if_neg hc, hset_self hf] at hK
      simp -dsimp [c81, hf, fltRow, h0, h1]
      exact Gives.same hK

/-- What a walk through a body stands on. -/
structure Sc (h : Hp) (p : List Df) (places : Mp) (pc pid tc i1 inid fid : Nat) (m : Mp) (f : Flt) : Prop where
  cpc : h pc = .cells [.mp pid]
  cpid : h pid = .map (mapAV places)
  ctc : h tc = .cells [.fn 81 [.ptr fid 0]]
  ci1 : h i1 = .cells [rowsAV (p.map Df.cells)]
  cinn : h inid = .map (mapAV m)
  cfid : h fid = .cells (fltRow f)
  n1 : ¬ pid = inid
  n2 : ¬ pc = fid
  n3 : ¬ tc = fid
  n4 : ¬ i1 = fid
theorem Sc.keep {h h' : Hp} {p : List Df} {places : Mp} {pc pid tc i1 inid fid : Nat} {m m' : Mp} {f f' : Flt} (s : Sc h p places pc pid tc i1 inid fid m f) (k : KeepsX [inid, fid] h h') (hi : h' inid = .map (mapAV m')) (hf : h' fid = .cells (fltRow f')) :
    Sc h' p places pc pid tc i1 inid fid m' f' := by
  have nc : ∀ {j : Nat} {cs : List AV}, h j = .cells cs → ¬ j = fid → h' j = .cells cs := fun {j cs} hj hn => k.at hj (by simp) (by
    have : ¬ j = inid := by rintro rfl; rw [s.cinn] at hj; cases hj
    simp [this, hn])
  refine ⟨nc s.cpc s.n2, k.at s.cpid (by simp) ?_, nc s.ctc s.n3, nc s.ci1 s.n4, hi, hf, s.n1, s.n2, s.n3, s.n4⟩
  have hpf : ¬ pid = fid := by rintro rfl; have := s.cfid; rw [s.cpid] at this; cases this
  have hpi := s.n1
  simp [hpf, hpi]

theorem visit_ok {p : List Df} {places : Mp} {pc pid tc i1 inid fid : Nat} {m : Mp} {f : Flt} {h : Hp} {K : AV → Hp → Prop} {e : Ex} {names : List Bytes} (hp : p.length ≤ 1000000) (s : Sc h p places pc pid tc i1 inid fid m f) (hpl : PlOK places p) (hn : NmOK m names)
    (hK : K .undef (hset h fid (.cells (fltRow (least f (usesF p (Ex.use names e))))))) : ACalls Tryz.prog 83 [.agg e.cells, .mp inid, .ptr pc 0, .ptr tc 0, .ptr i1 0] h K := by
  refine calls_of mixed Tryz.func83 comp83 (Nat.le_of_ble_eq_true rfl) ?_
  simp -dsimp [c83]
  intro i5 d5
  have hf0 : Keeps h (hset h i5 (.cells e.cells)) := (Keeps.refl h).new d5
  have n1 := cells_ne s.cpc d5
  have n2 := map_ne s.cpid d5
  have n3 := cells_ne s.ctc d5
  have n4 := cells_ne s.ci1 d5
  have n5 := map_ne s.cinn d5
  have n6 := cells_ne s.cfid d5
  have n6' : ¬ i5 = fid := fun x => n6 x.symm
  have hpa := hpl e.name
  have hz := hn.zero e.name
  have hcell : hset h i5 (.cells e.cells) fid = .cells (fltRow f) := by simp [n6, s.cfid]
  have hcomm : ∀ o, hset (hset h i5 (.cells e.cells)) fid o = hset (hset h fid o) i5 (.cells e.cells) := fun o => hset_comm n6'
  have dead' : ∀ o, hset h fid o i5 = .dead := fun o => by simp [n6', d5]
  have fin : ∀ l, usesF p (Ex.use names e) = l → ∀ o, o = .cells (fltRow (least f l)) → Gives K (some .undef) (hset (hset h i5 (.cells e.cells)) fid o) := by
    rintro l rfl o rfl
    rw [hcomm]
    exact Gives.sub (Sub.drop (dead' _)) hK
  have same : usesF p (Ex.use names e) = [] → Gives K (some .undef) (hset h i5 (.cells e.cells)) := by
    intro hl
    rw [hl, least_nil, hset_self s.cfid] at hK
    exact Gives.sub hf0.sub hK
  have hge := headsS_ge e.name p 0
  by_cases o6 : e.op = 6
  · have hu : usesF p (Ex.use names e) = if e.name ∉ names then [(31, e.pos)] else [] := by
      by_cases hm : e.name ∈ names <;> simp [Ex.use, o6, usesF, useF, hm]
    by_cases hm : e.name ∈ names
    · have hg : ¬ getM m e.name = 0 := fun x => (hz.1 x) hm
      simp -dsimp [o6, s.cpc, s.cpid, s.cinn, n1, n2, n5, hg]
      exact same (by rw [hu]; simp [hm])
    · have hg : getM m e.name = 0 := hz.2 hm
      simp -dsimp [o6, s.cpc, s.cpid, s.cinn, s.ctc, n1, n2, n3, n5, hg]
      refine tell_ok (f := f) hcell ?_
      simp -dsimp
      exact fin [(31, e.pos)] (by rw [hu]; simp [hm]) _ rfl
  · by_cases o7 : e.op = 7
    · have hu : usesF p (Ex.use names e) = if headsS e.name p 0 < 0 then [(32, e.pos)] else if (p.getD (headsS e.name p 0).toNat ⟨[], [], 0, ex0, 0⟩).params.length ≠ e.args.length then [(33, e.pos)] else [] := by
        simp [Ex.use, o7, usesF, useF]
      by_cases hneg : headsS e.name p 0 < 0
      · have hg : getM places e.name = 0 := by omega
        simp -dsimp [o7, s.cpc, s.cpid, s.cinn, s.ctc, n1, n2, n3, n5, hg]
        refine tell_ok (f := f) hcell ?_
        simp -dsimp
        exact fin [(32, e.pos)] (by rw [hu, if_pos hneg]) _ rfl
      · obtain ⟨k, hk, ek, _⟩ := headsS_at hneg
        have hm0 : ¬ ((k : Int) < 0) := by omega
        rw [ek] at hpa
        have hg0 : ¬ ((k : Int) + 1 = 0) := by omega
        have hw : IntKind.i64.wrap (k : Int) = (k : Int) := by rw [wrap_i64] <;> omega
        have hgm : p[k]? = some p[k] := List.getElem?_eq_getElem hk
        simp only [ek, if_neg hm0, Int.toNat_natCast, List.getD, hgm, Option.getD_some] at hu
        generalize hx : p[k] = x at *
        by_cases hne : x.params.length = e.args.length
        · simp -dsimp [o7, s.cpc, s.cpid, s.cinn, s.ctc, s.ci1, n1, n2, n3, n4, n5, hpa, hg0, hw, hk, hx, hne]
          exact same (by rw [hu]; simp [hne])
        · have hne' : ¬ (x.params.length : Int) = e.args.length := by omega
          simp -dsimp [o7, s.cpc, s.cpid, s.cinn, s.ctc, s.ci1, n1, n2, n3, n4, n5, hpa, hg0, hw, hk, hx, hne, hne']
          refine tell_ok (f := f) hcell ?_
          simp -dsimp
          exact fin [(33, e.pos)] (by rw [hu]; simp [hne]) _ rfl
    · simp -dsimp [o6, o7, s.cpc, s.cpid, s.cinn, s.ctc, s.ci1, n1, n2, n3, n4, n5]
      exact same (by simp [Ex.use, o6, o7, usesF])
end Go.Proofs.YtcpkdbofohkipaaGreat

/- The program's names: a walk through an expression. -/
namespace Go.Proofs.YtcpkdbofohkipaaGreat
open Go.AM

theorem walk_ok {p : List Df} {places : Mp} {pc pid tc i1 inid fid : Nat} (hp : p.length ≤ 1000000) (hpl : PlOK places p) : ∀ (n : Nat) (e : Ex) (names : List Bytes) (m : Mp) (f : Flt) (h : Hp) (K : AV → Hp → Prop), e.size ≤ n → names.length + 2 * e.size ≤ 200000 →
    Sc h p places pc pid tc i1 inid fid m f → NmOK m names → (∀ m', NmOK m' names → K .undef (hset (hset h inid (.map (mapAV m'))) fid (.cells (fltRow (least f (usesF p (seenS names e))))))) →
    ACalls Tryz.prog 82 [.agg e.cells, .mp inid, .fn 83 [.ptr pc 0, .ptr tc 0, .ptr i1 0]] h K := by
  intro n
  induction n with
  | zero => intro e names m f h K hn; have := e.size_pos; omega
  | succ n0 ih =>
    intro e names m f h K hn hnm s hm hK
    refine calls_of mixed Tryz.func82 comp82 (Nat.le_of_ble_eq_true rfl) ?_
    have hsa := e.size_args
    have hla := Ex.sizeL_len e.args
    have nif : ¬ inid = fid := by rintro rfl; have := s.cfid; rw [s.cinn] at this; cases this
    simp -dsimp [c82]
    intro i3 d3
    have n3i := map_ne s.cinn d3
    have n3f := cells_ne s.cfid d3
    have n3f' : ¬ i3 = fid := fun x => n3f x.symm
    have n3i' : ¬ i3 = inid := fun x => n3i x.symm
    have k3 : KeepsX [inid, fid] h (hset h i3 (.cells e.cells)) := KeepsX.refl.new d3
    simp -dsimp
    refine visit_ok hp (s.keep (m' := m) (f' := f) k3 (by simp [n3i, s.cinn]) (by simp [n3f, s.cfid])) hpl hm ?_
    have hsE := seenS_eq names e
    generalize hf1 : least f (usesF p (Ex.use names e)) = f1 at *
    simp -dsimp [n3f']
    refine ALoop.start (fun n tm h' => ∃ (i : Nat) (m' : Mp), i + n = e.args.length ∧ tm 1 = .mp inid ∧ tm 2 = .fn 83 [.ptr pc 0, .ptr tc 0, .ptr i1 0] ∧ tm 3 = .ptr i3 0 ∧ tm 18 = rowsAV (e.args.map Ex.cells) ∧ tm 19 = .int .i64 e.args.length ∧ tm 20 = .int .i64 i ∧
      h' i3 = .cells e.cells ∧ h' inid = .map (mapAV m') ∧ h' fid = .cells (fltRow (least f1 (usesF p (seenL names e 0 (e.args.take i))))) ∧ NmOK m' names ∧ KeepsX [inid, fid] h h') e.args.length
      ⟨0, m, by simp, by simp, by simp, by simp, by simp, by simp, by simp, by simp [n3f'], by simp [n3i, nif, s.cinn], by simp [seenL, usesF, least], hm, (KeepsX.refl.set d3).mem (by simp)⟩ ?_
    rintro n tm h' ⟨i, m', hi, t1, t2, t3, t18, t19, t20, hi3, hin, hfi, hm', hk⟩
    have hw1 : IntKind.i64.wrap ((i : Int) + 1) = ((i + 1 : Nat) : Int) := by rw [wrap_i64] <;> omega
    by_cases hlt : i < e.args.length
    · have hmem : e.args[i].size ≤ Ex.sizeL e.args := Ex.size_mem (List.getElem_mem hlt)
      have hsn := seenL_snoc names e (e.args.take i) 0 e.args[i]
      rw [← take_snoc e.args hlt] at hsn
      have hmin : min i e.args.length = i := by omega
      simp only [List.length_take, hmin, Nat.zero_add] at hsn
      have hbl := boundS_length e (i : Int)
      generalize hx : e.args[i] = x at *
      simp -dsimp [t1, t2, t3, t18, t19, t20, hlt, hx]
      intro i7 d7
      have n37 := cells_ne hi3 d7
      have n7i := map_ne hin d7
      have n7f := cells_ne hfi d7
      have n7i' : ¬ i7 = inid := fun x => n7i x.symm
      have n7f' : ¬ i7 = fid := fun x => n7f x.symm
      have hk7 : ∀ o, KeepsX [inid, fid] h (hset h' i7 o) := fun o => hk.new d7
      have d7' : h i7 = .dead := hk.dead d7 (by simp [n7i', n7f'])
      simp -dsimp [t3, hi3, n37]
      refine sbound_ok ?_
      generalize hns : boundS e (i : Int) = ns at *
      generalize hg : least f1 (usesF p (seenL names e 0 (e.args.take i))) = g at *
      simp -dsimp
      refine ALoop.start (fun n tm h' => ∃ (k : Nat) (m' : Mp), k + n = ns.length ∧ tm 1 = .mp inid ∧ tm 2 = .fn 83 [.ptr pc 0, .ptr tc 0, .ptr i1 0] ∧ tm 3 = .ptr i3 0 ∧ tm 18 = rowsAV (e.args.map Ex.cells) ∧ tm 19 = .int .i64 e.args.length ∧ tm 20 = .int .i64 i ∧
        tm 7 = .ptr i7 0 ∧ tm 8 = rowsAV (strRows ns) ∧ tm 28 = rowsAV (strRows ns) ∧ tm 29 = .int .i64 ns.length ∧ tm 30 = .int .i64 k ∧ h' i3 = .cells e.cells ∧ h' i7 = .cells x.cells ∧ h' inid = .map (mapAV m') ∧ h' fid = .cells (fltRow g) ∧ NmOK m' (names ++ ns.take k) ∧ KeepsX [inid, fid] h h') ns.length
        ⟨0, m', by simp, by simp [t1], by simp [t2], by simp [t3], by simp [t18], by simp [t19], by simp [t20], by simp, by simp, by simp, by simp, by simp, by simp [n37, hi3], by simp, by simp [n7i, hin], by simp [n7f, hfi], by simpa using hm', hk7 _⟩ ?_
      clear t1 t2 t3 t18 t19 t20 hi3 hin hfi hm' hk hk7 d7
      rintro n' tm h' ⟨k, m1, hkn, t1, t2, t3, t18, t19, t20, t7, t8, t28, t29, t30, hi3, hi7, hin, hfi, hm', hk⟩
      have hw2 : IntKind.i64.wrap ((k : Int) + 1) = ((k + 1 : Nat) : Int) := by rw [wrap_i64] <;> omega
      by_cases hkl : k < ns.length
      · have htk := take_snoc ns hkl
        have hnl := hm'.le ns[k]
        have hwm : IntKind.i64.wrap (getM m1 ns[k] + 1) = getM m1 ns[k] + 1 := by
          have : (names ++ ns.take k).length ≤ 300000 := by simp only [List.length_append, List.length_take]; omega
          rw [wrap_i64] <;> omega
        have hm2 := hm'.inc ns[k]
        rw [List.append_assoc, ← htk] at hm2
        generalize hy : ns[k] = y at *
        simp -dsimp [t1, t28, t29, t30, hkl, strRows, hy, hin, hwm, hw2]
        exact Again.same (n' - 1) (by omega) ⟨k + 1, putM y (getM m1 y + 1) m1, by omega, by simp [t1], by simp [t2], by simp [t3], by simp [t18], by simp [t19], by simp [t20], by simp [t7], by simp [t8, strRows], by simp [t28, strRows], by simp [t29], by simp,
          by simp [n3i', hi3], by simp [n7i', hi7], by simp, by simp [show ¬ fid = inid from fun x => nif x.symm, hfi], hm2, hk.mem (by simp)⟩
      · have htk : ns.take k = ns := List.take_of_length_le (by omega)
        rw [htk] at hm'
        simp -dsimp [t1, t2, t7, t28, t29, t30, hkl, hi7]
        refine ih x (names ++ ns) m1 g _ _ (by omega) (by simp only [List.length_append]; omega) (s.keep hk hin hfi) hm' ?_
        intro m2 hm2
        simp -dsimp [t8]
        have hgg : least g (usesF p (seenS (names ++ ns) x)) = least f1 (usesF p (seenL names e 0 (e.args.take (i + 1)))) := by
          rw [hsn, ← hg]
          simp only [usesF, List.flatMap_append, least_append]
        generalize least g (usesF p (seenS (names ++ ns) x)) = g2 at *
        refine ALoop.start (fun n tm h' => ∃ (k : Nat) (m' : Mp), k + n = ns.length ∧ tm 1 = .mp inid ∧ tm 2 = .fn 83 [.ptr pc 0, .ptr tc 0, .ptr i1 0] ∧ tm 3 = .ptr i3 0 ∧ tm 18 = rowsAV (e.args.map Ex.cells) ∧ tm 19 = .int .i64 e.args.length ∧ tm 20 = .int .i64 i ∧
          tm 43 = rowsAV (strRows ns) ∧ tm 44 = .int .i64 ns.length ∧ tm 45 = .int .i64 k ∧ h' i3 = .cells e.cells ∧ h' inid = .map (mapAV m') ∧ h' fid = .cells (fltRow g2) ∧ NmOK m' (names ++ ns.drop k) ∧ KeepsX [inid, fid] h h') ns.length
          ⟨0, m2, by simp, by simp [t1], by simp [t2], by simp [t3], by simp [t18], by simp [t19], by simp [t20], by simp, by simp, by simp, by simp [n3f', n3i', hi3], by simp [nif], by simp, by simpa using hm2, (hk.mem (by simp)).mem (by simp)⟩ ?_
        clear t1 t2 t3 t18 t19 t20 t7 t8 t28 t29 t30 hi3 hi7 hin hfi hm' hk
        rintro n'' tm h' ⟨k, m3, hkn, t1, t2, t3, t18, t19, t20, t43, t44, t45, hi3, hin, hfi, hm3, hk⟩
        have hw3 : IntKind.i64.wrap ((k : Int) + 1) = ((k + 1 : Nat) : Int) := by rw [wrap_i64] <;> omega
        by_cases hkl : k < ns.length
        · have htk := List.drop_eq_getElem_cons hkl
          rw [htk] at hm3
          have hnl := hm3.le ns[k]
          have hwm : IntKind.i64.wrap (getM m3 ns[k] - 1) = getM m3 ns[k] - 1 := by
            have : (names ++ ns[k] :: ns.drop (k + 1)).length ≤ 300000 := by simp only [List.length_append, List.length_cons, List.length_drop]; omega
            rw [wrap_i64] <;> omega
          have hm4 := hm3.dec
          generalize hy : ns[k] = y at *
          simp -dsimp [t1, t43, t44, t45, hkl, strRows, hy, hin, hwm, hw3]
          exact Again.same (n'' - 1) (by omega) ⟨k + 1, putM y (getM m3 y - 1) m3, by omega, by simp [t1], by simp [t2], by simp [t3], by simp [t18], by simp [t19], by simp [t20], by simp [t43, strRows], by simp [t44], by simp,
            by simp [n3i', hi3], by simp, by simp [show ¬ fid = inid from fun x => nif x.symm, hfi], hm4, hk.mem (by simp)⟩
        · have htk : ns.drop k = [] := List.drop_eq_nil_of_le (by omega)
          rw [htk, List.append_nil] at hm3
          simp -dsimp [t44, t45, hkl, t20, hw1]
          exact Again.same (n - 1) (by omega) ⟨i + 1, m3, by omega, by simp [t1], by simp [t2], by simp [t3], by simp [t18], by simp [t19], by simp, hi3, hin, by rw [← hgg]; exact hfi, hm3, hk⟩
    · have htk : e.args.take i = e.args := List.take_of_length_le (by omega)
      rw [htk] at hfi
      simp -dsimp [t19, t20, hlt]
      refine Gives.sub (hk.sub2 nif hin hfi) ?_
      have := hK m' hm'
      rw [hsE] at this
      simpa only [usesF, List.flatMap_append, least_append, ← hf1] using this
end Go.Proofs.YtcpkdbofohkipaaGreat
