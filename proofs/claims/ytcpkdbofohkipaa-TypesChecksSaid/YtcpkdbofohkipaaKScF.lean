/- The program's names: a walk through an expression. -/
import Derived.Test.YtcpkdbofohkipaaKScE
set_option linter.unusedVariables false
set_option linter.unusedSimpArgs false
set_option linter.unusedSimpArgs false
set_option linter.unusedVariables false
namespace Go.Proofs.Ytcpkdbofohkipaa
open Go.AM

theorem walk_ok {p : List Df} {places : Mp} {pc pid tc i1 inid fid : Nat} (hp : p.length ≤ 1000000) (hpl : PlOK places p) : ∀ (n : Nat) (e : Ex) (names : List Bytes) (m : Mp) (f : Flt) (h : Hp) (K : AV → Hp → Prop), e.size ≤ n → names.length + 2 * e.size ≤ 200000 →
    Sc h p places pc pid tc i1 inid fid m f → NmOK m names → (∀ m', NmOK m' names → K .undef (hset (hset h inid (.map (mapAV m'))) fid (.cells (fltRow (least f (usesF p (seenS names e))))))) →
    ACalls Try.prog 21 [.agg e.cells, .mp inid, .fn 22 [.ptr pc 0, .ptr tc 0, .ptr i1 0]] h K := by
  intro n
  induction n with
  | zero => intro e names m f h K hn; have := e.size_pos; omega
  | succ n0 ih =>
    intro e names m f h K hn hnm s hm hK
    refine calls_of mixed Try.func21 comp21 (Nat.le_of_ble_eq_true rfl) ?_
    have hsa := e.size_args
    have hla := Ex.sizeL_len e.args
    have nif : ¬ inid = fid := by rintro rfl; have := s.cfid; rw [s.cinn] at this; cases this
    simp -dsimp [c21]
    intro i3 d3
    have n3i := map_ne s.cinn d3
    have n3f := cells_ne s.cfid d3
    have n3f' : ¬ i3 = fid := fun x => n3f x.symm
    have n3i' : ¬ i3 = inid := fun x => n3i x.symm
    have k3 : KeepsX [inid, fid] h (hset h i3 (.cells e.cells)) := KeepsX.refl.new d3
    simp -dsimp
    refine visit_ok hp (s.keep (m' := m) (f' := f) k3 (by simp [n3i, s.cinn]) (by simp [n3f, s.cfid])) hpl hm ?_
    have hsE := seenS_eq names e
    generalize hf1 : least f (usesF p (Ex.use names e)) = f1 at *
    simp -dsimp [n3f']
    refine ALoop.start (fun n tm h' => ∃ (i : Nat) (m' : Mp), i + n = e.args.length ∧ tm 1 = .mp inid ∧ tm 2 = .fn 22 [.ptr pc 0, .ptr tc 0, .ptr i1 0] ∧ tm 3 = .ptr i3 0 ∧ tm 18 = rowsAV (e.args.map Ex.cells) ∧ tm 19 = .int .i64 e.args.length ∧ tm 20 = .int .i64 i ∧
      h' i3 = .cells e.cells ∧ h' inid = .map (mapAV m') ∧ h' fid = .cells (fltRow (least f1 (usesF p (seenL names e 0 (e.args.take i))))) ∧ NmOK m' names ∧ KeepsX [inid, fid] h h') e.args.length
      ⟨0, m, by simp, by simp, by simp, by simp, by simp, by simp, by simp, by simp [n3f'], by simp [n3i, nif, s.cinn], by simp [seenL, usesF, least], hm, (KeepsX.refl.set d3).mem (by simp)⟩ ?_
    rintro n tm h' ⟨i, m', hi, t1, t2, t3, t18, t19, t20, hi3, hin, hfi, hm', hk⟩
    have hw1 : IntKind.i64.wrap ((i : Int) + 1) = ((i + 1 : Nat) : Int) := by rw [wrap_i64] <;> omega
    by_cases hlt : i < e.args.length
    · have hmem : e.args[i].size ≤ Ex.sizeL e.args := Ex.size_mem (List.getElem_mem hlt)
      have hsn := seenL_snoc names e (e.args.take i) 0 e.args[i]
      rw [← take_snoc e.args hlt] at hsn
      have hmin : min i e.args.length = i := by omega
      simp only [List.length_take, hmin, Nat.zero_add] at hsn
      have hbl := boundS_length e (i : Int)
      generalize hx : e.args[i] = x at *
      simp -dsimp [t1, t2, t3, t18, t19, t20, hlt, hx]
      intro i7 d7
      have n37 := cells_ne hi3 d7
      have n7i := map_ne hin d7
      have n7f := cells_ne hfi d7
      have n7i' : ¬ i7 = inid := fun x => n7i x.symm
      have n7f' : ¬ i7 = fid := fun x => n7f x.symm
      have hk7 : ∀ o, KeepsX [inid, fid] h (hset h' i7 o) := fun o => hk.new d7
      have d7' : h i7 = .dead := hk.dead d7 (by simp [n7i', n7f'])
      simp -dsimp [t3, hi3, n37]
      refine sbound_ok ?_
      generalize hns : boundS e (i : Int) = ns at *
      generalize hg : least f1 (usesF p (seenL names e 0 (e.args.take i))) = g at *
      simp -dsimp
      refine ALoop.start (fun n tm h' => ∃ (k : Nat) (m' : Mp), k + n = ns.length ∧ tm 1 = .mp inid ∧ tm 2 = .fn 22 [.ptr pc 0, .ptr tc 0, .ptr i1 0] ∧ tm 3 = .ptr i3 0 ∧ tm 18 = rowsAV (e.args.map Ex.cells) ∧ tm 19 = .int .i64 e.args.length ∧ tm 20 = .int .i64 i ∧
        tm 7 = .ptr i7 0 ∧ tm 8 = rowsAV (strRows ns) ∧ tm 28 = rowsAV (strRows ns) ∧ tm 29 = .int .i64 ns.length ∧ tm 30 = .int .i64 k ∧ h' i3 = .cells e.cells ∧ h' i7 = .cells x.cells ∧ h' inid = .map (mapAV m') ∧ h' fid = .cells (fltRow g) ∧ NmOK m' (names ++ ns.take k) ∧ KeepsX [inid, fid] h h') ns.length
        ⟨0, m', by simp, by simp [t1], by simp [t2], by simp [t3], by simp [t18], by simp [t19], by simp [t20], by simp, by simp, by simp, by simp, by simp, by simp [n37, hi3], by simp, by simp [n7i, hin], by simp [n7f, hfi], by simpa using hm', hk7 _⟩ ?_
      clear t1 t2 t3 t18 t19 t20 hi3 hin hfi hm' hk hk7 d7
      rintro n' tm h' ⟨k, m1, hkn, t1, t2, t3, t18, t19, t20, t7, t8, t28, t29, t30, hi3, hi7, hin, hfi, hm', hk⟩
      have hw2 : IntKind.i64.wrap ((k : Int) + 1) = ((k + 1 : Nat) : Int) := by rw [wrap_i64] <;> omega
      by_cases hkl : k < ns.length
      · have htk := take_snoc ns hkl
        have hnl := hm'.le ns[k]
        have hwm : IntKind.i64.wrap (getM m1 ns[k] + 1) = getM m1 ns[k] + 1 := by
          have : (names ++ ns.take k).length ≤ 300000 := by simp only [List.length_append, List.length_take]; omega
          rw [wrap_i64] <;> omega
        have hm2 := hm'.inc ns[k]
        rw [List.append_assoc, ← htk] at hm2
        generalize hy : ns[k] = y at *
        simp -dsimp [t1, t28, t29, t30, hkl, strRows, hy, hin, hwm, hw2]
        exact Again.same (n' - 1) (by omega) ⟨k + 1, putM y (getM m1 y + 1) m1, by omega, by simp [t1], by simp [t2], by simp [t3], by simp [t18], by simp [t19], by simp [t20], by simp [t7], by simp [t8, strRows], by simp [t28, strRows], by simp [t29], by simp,
          by simp [n3i', hi3], by simp [n7i', hi7], by simp, by simp [show ¬ fid = inid from fun x => nif x.symm, hfi], hm2, hk.mem (by simp)⟩
      · have htk : ns.take k = ns := List.take_of_length_le (by omega)
        rw [htk] at hm'
        simp -dsimp [t1, t2, t7, t28, t29, t30, hkl, hi7]
        refine ih x (names ++ ns) m1 g _ _ (by omega) (by simp only [List.length_append]; omega) (s.keep hk hin hfi) hm' ?_
        intro m2 hm2
        simp -dsimp [t8]
        have hgg : least g (usesF p (seenS (names ++ ns) x)) = least f1 (usesF p (seenL names e 0 (e.args.take (i + 1)))) := by
          rw [hsn, ← hg]
          simp only [usesF, List.flatMap_append, least_append]
        generalize least g (usesF p (seenS (names ++ ns) x)) = g2 at *
        refine ALoop.start (fun n tm h' => ∃ (k : Nat) (m' : Mp), k + n = ns.length ∧ tm 1 = .mp inid ∧ tm 2 = .fn 22 [.ptr pc 0, .ptr tc 0, .ptr i1 0] ∧ tm 3 = .ptr i3 0 ∧ tm 18 = rowsAV (e.args.map Ex.cells) ∧ tm 19 = .int .i64 e.args.length ∧ tm 20 = .int .i64 i ∧
          tm 43 = rowsAV (strRows ns) ∧ tm 44 = .int .i64 ns.length ∧ tm 45 = .int .i64 k ∧ h' i3 = .cells e.cells ∧ h' inid = .map (mapAV m') ∧ h' fid = .cells (fltRow g2) ∧ NmOK m' (names ++ ns.drop k) ∧ KeepsX [inid, fid] h h') ns.length
          ⟨0, m2, by simp, by simp [t1], by simp [t2], by simp [t3], by simp [t18], by simp [t19], by simp [t20], by simp, by simp, by simp, by simp [n3f', n3i', hi3], by simp [nif], by simp, by simpa using hm2, (hk.mem (by simp)).mem (by simp)⟩ ?_
        clear t1 t2 t3 t18 t19 t20 t7 t8 t28 t29 t30 hi3 hi7 hin hfi hm' hk
        rintro n'' tm h' ⟨k, m3, hkn, t1, t2, t3, t18, t19, t20, t43, t44, t45, hi3, hin, hfi, hm3, hk⟩
        have hw3 : IntKind.i64.wrap ((k : Int) + 1) = ((k + 1 : Nat) : Int) := by rw [wrap_i64] <;> omega
        by_cases hkl : k < ns.length
        · have htk := List.drop_eq_getElem_cons hkl
          rw [htk] at hm3
          have hnl := hm3.le ns[k]
          have hwm : IntKind.i64.wrap (getM m3 ns[k] - 1) = getM m3 ns[k] - 1 := by
            have : (names ++ ns[k] :: ns.drop (k + 1)).length ≤ 300000 := by simp only [List.length_append, List.length_cons, List.length_drop]; omega
            rw [wrap_i64] <;> omega
          have hm4 := hm3.dec
          generalize hy : ns[k] = y at *
          simp -dsimp [t1, t43, t44, t45, hkl, strRows, hy, hin, hwm, hw3]
          exact Again.same (n'' - 1) (by omega) ⟨k + 1, putM y (getM m3 y - 1) m3, by omega, by simp [t1], by simp [t2], by simp [t3], by simp [t18], by simp [t19], by simp [t20], by simp [t43, strRows], by simp [t44], by simp,
            by simp [n3i', hi3], by simp, by simp [show ¬ fid = inid from fun x => nif x.symm, hfi], hm4, hk.mem (by simp)⟩
        · have htk : ns.drop k = [] := List.drop_eq_nil_of_le (by omega)
          rw [htk, List.append_nil] at hm3
          simp -dsimp [t44, t45, hkl, t20, hw1]
          exact Again.same (n - 1) (by omega) ⟨i + 1, m3, by omega, by simp [t1], by simp [t2], by simp [t3], by simp [t18], by simp [t19], by simp, hi3, hin, by rw [← hgg]; exact hfi, hm3, hk⟩
    · have htk : e.args.take i = e.args := List.take_of_length_le (by omega)
      rw [htk] at hfi
      simp -dsimp [t19, t20, hlt]
      refine Gives.sub (hk.sub2 nif hin hfi) ?_
      have := hK m' hm'
      rw [hsE] at this
      simpa only [usesF, List.flatMap_append, least_append, ← hf1] using this
end Go.Proofs.Ytcpkdbofohkipaa
