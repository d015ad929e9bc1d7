/- The program's names: what an expression binds, what is told, a visit. -/
import Derived.Test.YtcpkdbofohkipaaKc
import Derived.Test.YtcpkdbofohkipaaKTyB
set_option linter.unusedVariables false
set_option linter.unusedSimpArgs false
set_option linter.unusedSimpArgs false
set_option linter.unusedVariables false
namespace Go.Proofs.Ytcpkdbofohkipaa
open Go.AM

theorem sbound_ok {h : Hp} {K : AV → Hp → Prop} {e : Ex} {i : Nat} (hK : K (rowsAV (strRows (boundS e i))) h) : ACalls Try.prog 37 [.agg e.cells, .int .i64 i] h K := by
  refine calls_of mixed Try.func37 comp37 (Nat.le_of_ble_eq_true rfl) ?_
  simp -dsimp [c37]
  intro i2 d2
  have hf : Keeps h (hset h i2 (.cells e.cells)) := (Keeps.refl h).new d2
  simp only [boundS] at hK
  by_cases h21 : e.op = 21
  · simp -dsimp [h21]
    intro i3 d3
    simp at d3
    simp -dsimp
    refine Gives.frz (h' := h) ((hf.set d3.2.2).sub) (Frz.rows (e := 9) (sz := 1) (xs := [[.str e.name]]) (by simp) d3.2.2) ?_
    simpa [h21, strRows, rowsAV] using hK
  by_cases h22 : e.op = 22 ∧ i = 1
  · obtain ⟨a1, a2⟩ := h22
    simp -dsimp [a1, a2]
    intro i3 d3
    simp at d3
    simp -dsimp
    refine Gives.frz (h' := h) ((hf.set d3.2.2).sub) (Frz.rows (e := 9) (sz := 1) (xs := [[.str e.name]]) (by simp) d3.2.2) ?_
    simpa [a1, a2, strRows, rowsAV] using hK
  have hnn : ¬ (e.op = 21 ∨ e.op = 22 ∧ (i : Int) = 1) := fun x => x.elim h21 (fun y => h22 ⟨y.1, by omega⟩)
  simp only [hnn, if_false] at hK
  by_cases o20 : e.op = 20 ∧ i = 2
  · obtain ⟨a1, a2⟩ := o20
    simp -dsimp [a1, a2]
    intro i3 d3
    simp at d3
    simp -dsimp
    refine Gives.frz (h' := h) ((hf.set d3.2.2).sub) (Frz.rows (e := 9) (sz := 1) (xs := [[.str e.name], [.str e.tail]]) (by simp) d3.2.2) ?_
    simpa [a1, a2, strRows, rowsAV] using hK
  have o20' : ¬ (e.op = 20 ∧ (i : Int) = 2) := fun y => o20 ⟨y.1, by omega⟩
  simp only [o20', if_false] at hK
  by_cases o22 : e.op = 22
  · have i1 : ¬ i = 1 := fun x => h22 ⟨o22, x⟩
    have i1' : ¬ (i : Int) = 1 := by omega
    simp -dsimp [o22, i1, i1']
    exact Gives.sub hf.sub hK
  by_cases q20 : e.op = 20
  · have i2' : ¬ i = 2 := fun x => o20 ⟨q20, x⟩
    have i2'' : ¬ (i : Int) = 2 := by omega
    simp -dsimp [q20, i2', i2'']
    exact Gives.sub hf.sub hK
  · simp -dsimp [h21, o22, q20]
    exact Gives.sub hf.sub hK

theorem tell_ok {h : Hp} {K : AV → Hp → Prop} {w at_ : Int} {fid : Nat} {f : Flt} (hf : h fid = .cells (fltRow f)) (hK : K .undef (hset h fid (.cells (fltRow (tell1 f (w, at_)))))) : ACalls Try.prog 20 [.int .i64 w, .int .i64 at_, .ptr fid 0] h K := by
  refine calls_of mixed Try.func20 comp20 (Nat.le_of_ble_eq_true rfl) ?_
  simp only [tell1] at hK
  by_cases h0 : f.1 = 0
  · simp -dsimp [c20, hf, fltRow, h0]
    exact Gives.same (by simpa [h0, fltRow] using hK)
  · by_cases h1 : at_ < f.2
    · simp -dsimp [c20, hf, fltRow, h0, h1]
      exact Gives.same (by simpa [h1, fltRow] using hK)
    · have hc : ¬ (f.1 = 0 ∨ at_ < f.2) := by simp [h0, h1]
      rw [if_neg hc, hset_self hf] at hK
      simp -dsimp [c20, hf, fltRow, h0, h1]
      exact Gives.same hK

/-- What a walk through a body stands on. -/
structure Sc (h : Hp) (p : List Df) (places : Mp) (pc pid tc i1 inid fid : Nat) (m : Mp) (f : Flt) : Prop where
  cpc : h pc = .cells [.mp pid]
  cpid : h pid = .map (mapAV places)
  ctc : h tc = .cells [.fn 20 [.ptr fid 0]]
  ci1 : h i1 = .cells [rowsAV (p.map Df.cells)]
  cinn : h inid = .map (mapAV m)
  cfid : h fid = .cells (fltRow f)
  n1 : ¬ pid = inid
  n2 : ¬ pc = fid
  n3 : ¬ tc = fid
  n4 : ¬ i1 = fid
theorem Sc.keep {h h' : Hp} {p : List Df} {places : Mp} {pc pid tc i1 inid fid : Nat} {m m' : Mp} {f f' : Flt} (s : Sc h p places pc pid tc i1 inid fid m f) (k : KeepsX [inid, fid] h h') (hi : h' inid = .map (mapAV m')) (hf : h' fid = .cells (fltRow f')) :
    Sc h' p places pc pid tc i1 inid fid m' f' := by
  have nc : ∀ {j : Nat} {cs : List AV}, h j = .cells cs → ¬ j = fid → h' j = .cells cs := fun {j cs} hj hn => k.at hj (by simp) (by
    have : ¬ j = inid := by rintro rfl; rw [s.cinn] at hj; cases hj
    simp [this, hn])
  refine ⟨nc s.cpc s.n2, k.at s.cpid (by simp) ?_, nc s.ctc s.n3, nc s.ci1 s.n4, hi, hf, s.n1, s.n2, s.n3, s.n4⟩
  have hpf : ¬ pid = fid := by rintro rfl; have := s.cfid; rw [s.cpid] at this; cases this
  have hpi := s.n1
  simp [hpf, hpi]

theorem visit_ok {p : List Df} {places : Mp} {pc pid tc i1 inid fid : Nat} {m : Mp} {f : Flt} {h : Hp} {K : AV → Hp → Prop} {e : Ex} {names : List Bytes} (hp : p.length ≤ 1000000) (s : Sc h p places pc pid tc i1 inid fid m f) (hpl : PlOK places p) (hn : NmOK m names)
    (hK : K .undef (hset h fid (.cells (fltRow (least f (usesF p (Ex.use names e))))))) : ACalls Try.prog 22 [.agg e.cells, .mp inid, .ptr pc 0, .ptr tc 0, .ptr i1 0] h K := by
  refine calls_of mixed Try.func22 comp22 (Nat.le_of_ble_eq_true rfl) ?_
  simp -dsimp [c22]
  intro i5 d5
  have hf0 : Keeps h (hset h i5 (.cells e.cells)) := (Keeps.refl h).new d5
  have n1 := cells_ne s.cpc d5
  have n2 := map_ne s.cpid d5
  have n3 := cells_ne s.ctc d5
  have n4 := cells_ne s.ci1 d5
  have n5 := map_ne s.cinn d5
  have n6 := cells_ne s.cfid d5
  have n6' : ¬ i5 = fid := fun x => n6 x.symm
  have hpa := hpl e.name
  have hz := hn.zero e.name
  have hcell : hset h i5 (.cells e.cells) fid = .cells (fltRow f) := by simp [n6, s.cfid]
  have hcomm : ∀ o, hset (hset h i5 (.cells e.cells)) fid o = hset (hset h fid o) i5 (.cells e.cells) := fun o => hset_comm n6'
  have dead' : ∀ o, hset h fid o i5 = .dead := fun o => by simp [n6', d5]
  have fin : ∀ l, usesF p (Ex.use names e) = l → ∀ o, o = .cells (fltRow (least f l)) → Gives K (some .undef) (hset (hset h i5 (.cells e.cells)) fid o) := by
    rintro l rfl o rfl
    rw [hcomm]
    exact Gives.sub (Sub.drop (dead' _)) hK
  have same : usesF p (Ex.use names e) = [] → Gives K (some .undef) (hset h i5 (.cells e.cells)) := by
    intro hl
    rw [hl, least_nil, hset_self s.cfid] at hK
    exact Gives.sub hf0.sub hK
  have hge := headsS_ge e.name p 0
  by_cases o6 : e.op = 6
  · have hu : usesF p (Ex.use names e) = if e.name ∉ names then [(31, e.pos)] else [] := by
      by_cases hm : e.name ∈ names <;> simp [Ex.use, o6, usesF, useF, hm]
    by_cases hm : e.name ∈ names
    · have hg : ¬ getM m e.name = 0 := fun x => (hz.1 x) hm
      simp -dsimp [o6, s.cpc, s.cpid, s.cinn, n1, n2, n5, hg]
      exact same (by rw [hu]; simp [hm])
    · have hg : getM m e.name = 0 := hz.2 hm
      simp -dsimp [o6, s.cpc, s.cpid, s.cinn, s.ctc, n1, n2, n3, n5, hg]
      refine tell_ok (f := f) hcell ?_
      simp -dsimp
      exact fin [(31, e.pos)] (by rw [hu]; simp [hm]) _ rfl
  · by_cases o7 : e.op = 7
    · have hu : usesF p (Ex.use names e) = if headsS e.name p 0 < 0 then [(32, e.pos)] else if (p.getD (headsS e.name p 0).toNat ⟨[], [], 0, ex0, 0⟩).params.length ≠ e.args.length then [(33, e.pos)] else [] := by
        simp [Ex.use, o7, usesF, useF]
      by_cases hneg : headsS e.name p 0 < 0
      · have hg : getM places e.name = 0 := by omega
        simp -dsimp [o7, s.cpc, s.cpid, s.cinn, s.ctc, n1, n2, n3, n5, hg]
        refine tell_ok (f := f) hcell ?_
        simp -dsimp
        exact fin [(32, e.pos)] (by rw [hu, if_pos hneg]) _ rfl
      · obtain ⟨k, hk, ek, _⟩ := headsS_at hneg
        have hm0 : ¬ ((k : Int) < 0) := by omega
        rw [ek] at hpa
        have hg0 : ¬ ((k : Int) + 1 = 0) := by omega
        have hw : IntKind.i64.wrap (k : Int) = (k : Int) := by rw [wrap_i64] <;> omega
        have hgm : p[k]? = some p[k] := List.getElem?_eq_getElem hk
        simp only [ek, if_neg hm0, Int.toNat_natCast, List.getD, hgm, Option.getD_some] at hu
        generalize hx : p[k] = x at *
        by_cases hne : x.params.length = e.args.length
        · simp -dsimp [o7, s.cpc, s.cpid, s.cinn, s.ctc, s.ci1, n1, n2, n3, n4, n5, hpa, hg0, hw, hk, hx, hne]
          exact same (by rw [hu]; simp [hne])
        · have hne' : ¬ (x.params.length : Int) = e.args.length := by omega
          simp -dsimp [o7, s.cpc, s.cpid, s.cinn, s.ctc, s.ci1, n1, n2, n3, n4, n5, hpa, hg0, hw, hk, hx, hne, hne']
          refine tell_ok (f := f) hcell ?_
          simp -dsimp
          exact fin [(33, e.pos)] (by rw [hu]; simp [hne]) _ rfl
    · simp -dsimp [o6, o7, s.cpc, s.cpid, s.cinn, s.ctc, s.ci1, n1, n2, n3, n4, n5]
      exact same (by simp [Ex.use, o6, o7, usesF])
end Go.Proofs.Ytcpkdbofohkipaa
