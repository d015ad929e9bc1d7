/- The document's answer for types: what is wrong, Check. -/
import Derived.Test.YtcpkdbofohkipaaKTyA
set_option linter.unusedVariables false
set_option linter.unusedSimpArgs false
set_option linter.unusedSimpArgs false
set_option linter.unusedVariables false
namespace Go.Proofs.Ytcpkdbofohkipaa
open Go.AM

theorem wrong_ok {p : List Df} (hp : p.length ≤ 1000000) : ∀ (n : Nat) (e : Ex) (env : List Pm) (t : Int) (h : Hp) (K : AV → Hp → Prop), e.size ≤ n → env.length + 2 * e.size ≤ 200000 → K (rowsAV (intRows (wrongS p env t e))) h → ACalls Try.prog 16 [progAV p, pmRows env, .agg e.cells, .int .i64 t] h K := by
  intro n
  induction n with
  | zero => intro e env t h K hn; have := e.size_pos; omega
  | succ n0 ih =>
    intro e env t h K hn hnm hK
    refine calls_of mixed Try.func16 comp16 (Nat.le_of_ble_eq_true rfl) ?_
    have hsa := e.size_args
    have hla := Ex.sizeL_len e.args
    have hwl := ownW_length p env e t
    have hwL := wrongL_length p e.args env e t 0
    simp -dsimp [c16, progAV]
    intro i4 d4
    simp -dsimp
    intro i6 d6
    have n46 := hset_ne d6
    have hf0 : Keeps h (hset (hset h i4 (.cells [rowsAV (p.map Df.cells)])) i6 (.cells e.cells)) := ((Keeps.refl h).new d4).new d6
    simp -dsimp [n46]
    refine own_ok (p := p) hp (by omega) ?_
    have hoW : ownW p env e t = if (ownS p env e).2 = true ∧ (ownS p env e).1 ≠ t then [e.pos] else [] := rfl
    generalize ownS p env e = o at *
    obtain ⟨o1, o2⟩ := o
    simp -dsimp
    have body : ∀ (tm : Tm) (h' : Hp), (tm 1 = pmRows env ∧ tm 3 = .int .i64 t ∧ tm 4 = .ptr i4 0 ∧ tm 6 = .ptr i6 0 ∧ h' i4 = .cells [rowsAV (p.map Df.cells)] ∧ h' i6 = .cells e.cells ∧ Keeps h h' ∧ Own h h' 3 1 (tm 9) (intRows (ownW p env e t))) →
        AW Try.prog (match c16.code with | .seq _ (.seq _ (.seq _ (.seq _ x))) => x | _ => .skip) (fun e tm h' => match e with | .exit _ => False | _ => Gives K (some (tm 8)) h') tm h' := by
      clear n46 hf0 d4 d6
      rintro tm h' ⟨t1, t3, t4, t6, hi4, hi6, hf, ho⟩
      simp -dsimp [c16]
      refine ALoop.start (fun n tm h' => ∃ i : Nat, i + n = e.args.length ∧ tm 1 = pmRows env ∧ tm 3 = .int .i64 t ∧ tm 4 = .ptr i4 0 ∧ tm 6 = .ptr i6 0 ∧ tm 12 = .int .i64 i ∧ h' i4 = .cells [rowsAV (p.map Df.cells)] ∧ h' i6 = .cells e.cells ∧ Keeps h h' ∧
        Own h h' 3 1 (tm 9) (intRows (ownW p env e t ++ wrongL p env e t 0 (e.args.take i)))) e.args.length ⟨0, by simp, by simp [t1], by simp [t3], by simp [t4], by simp [t6], by simp, hi4, hi6, hf, by simpa [wrongL] using ho⟩ ?_
      clear t1 t3 t4 t6 hi4 hi6 hf ho
      rintro n tm h' ⟨i, hi, t1, t3, t4, t6, t12, hi4, hi6, hf, ho⟩
      have hw1 : IntKind.i64.wrap ((i : Int) + 1) = ((i + 1 : Nat) : Int) := by rw [wrap_i64] <;> omega
      by_cases hlt : i < e.args.length
      · have hmem : e.args[i].size ≤ Ex.sizeL e.args := Ex.size_mem (List.getElem_mem hlt)
        have hsn := wrongL_snoc p env e t (e.args.take i) 0 e.args[i]
        rw [← take_snoc e.args hlt] at hsn
        have hmin : min i e.args.length = i := by omega
        simp only [List.length_take, hmin, Nat.zero_add] at hsn
        have hsl := wrongL_length p (e.args.take (i + 1)) env e t 0
        have htl : Ex.sizeL (e.args.take (i + 1)) ≤ Ex.sizeL e.args := by
          have := Ex.sizeL_append (e.args.take (i + 1)) (e.args.drop (i + 1))
          rw [List.take_append_drop] at this; omega
        have hwi := withinS_length env e i
        generalize hx : e.args[i] = x at *
        simp -dsimp [t1, t3, t4, t6, t12, hi4, hi6, hlt, hx]
        refine within_ok (by omega) ?_
        simp -dsimp [Stable, AIns.wants, QStep, t1, t3, t4, t6, t12, hi4, hi6, hlt, hx]
        refine wanted_ok (p := p) hp ?_
        simp -dsimp [Stable, AIns.wants, QStep, t1, t3, t4, t6, t12, hi4, hi6, hlt, hx]
        refine ih x _ _ _ _ (by omega) (by omega) ?_
        have hlen := congrArg List.length hsn
        simp only [List.length_append] at hlen
        simp -dsimp
        refine ho.pushE hf (by simp only [intRows_length, List.length_append]; omega) (by decide) fun v' h2 ho2 hf2 hk2 => ?_
        simp -dsimp [t12, hw1]
        refine Again.same (n - 1) (by omega) ⟨i + 1, by omega, by simp [t1], by simp [t3], by simp [t4], by simp [t6], by simp, hk2.cells hi4, hk2.cells hi6, hf2, ?_⟩
        rw [hsn]
        simpa [intRows_append] using ho2
      · have htk : e.args.take i = e.args := List.take_of_length_le (by omega)
        rw [htk] at ho
        simp -dsimp [t1, t6, t12, hi6, hlt]
        refine ho.out hf ?_
        rw [← wrongS_eq]
        exact hK
    simp only [c16] at body
    cases o2 with
    | false =>
      simp -dsimp
      have := body
      refine body _ _ ⟨by simp, by simp, by simp, by simp, by simp [n46], by simp, hf0, ?_⟩
      rw [hoW]
      exact .inl ⟨by simp [intRows], by simp⟩
    | true =>
      by_cases hc : o1 = t
      · simp -dsimp [hc]
        refine body _ _ ⟨by simp, by simp, by simp, by simp, by simp [n46], by simp, hf0, ?_⟩
        rw [hoW]
        exact .inl ⟨by simp [intRows, hc], by simp⟩
      · simp -dsimp [hc]
        intro i7 d7
        have e7 := d7
        simp at d7
        simp -dsimp
        intro i8 d8
        have e8 := d8
        simp [d7] at d8
        refine body _ _ ⟨by simp, by simp, by simp, by simp, by simp [n46, d7, d8], by simp [d7, d8], (hf0.new e7).new e8, ?_⟩
        rw [hoW]
        exact .inr ⟨i8, by simp [intRows, hc], by simp [d8], by simp [intRows, hc], by simp [intRows, hc]⟩

theorem tell_snoc (l : List Int) (x : Int) (f : Flt) : (l ++ [x]).foldl tell7 f = tell7 (l.foldl tell7 f) x := by simp only [List.foldl_append, List.foldl_cons, List.foldl_nil]
theorem check07_ok {p : List Df} {h : Hp} {K : AV → Hp → Prop} (hp : sizeP p ≤ 40000) (hK : K (.agg (fltRow (check07 p))) h) : ACalls Try.prog 7 [progAV p] h K := by
  refine calls_of mixed Try.func7 comp7 (Nat.le_of_ble_eq_true rfl) ?_
  have hlen := sizeP_len p
  have hq : check07 p = if (check06 p).1 ≠ 0 then check06 p else (wrongP p p).foldl tell7 (check06 p) := rfl
  simp -dsimp [c7, progAV]
  intro i1 d1
  simp -dsimp
  intro i2 d2
  simp at d2
  obtain ⟨n21, n12, d2⟩ := d2
  simp -dsimp [n12]
  refine check06_ok (p := p) hp ?_
  generalize check06 p = c0 at *
  simp -dsimp
  intro i3 d3
  simp at d3
  obtain ⟨n32, n23, n31, n13, d3⟩ := d3
  have k3 : ∀ o1 o2 o3, Keeps h (hset (hset (hset h i1 o1) i2 o2) i3 o3) := fun o1 o2 o3 => (((Keeps.refl h).set d1).set d2).set d3
  simp -dsimp [fltRow]
  by_cases hc : c0.1 = 0
  · simp only [ne_eq, hc, not_true_eq_false, if_false] at hq
    rw [hq] at hK
    simp -dsimp [hc, fltRow, n23, n32]
    refine ALoop.start (fun n tm h' => ∃ i : Nat, i + n = p.length ∧ tm 1 = .ptr i1 0 ∧ tm 2 = .ptr i2 0 ∧ tm 3 = .ptr i3 0 ∧ tm 4 = .int .i64 i ∧ h' i1 = .cells [rowsAV (p.map Df.cells)] ∧ h' i2 = .cells [.int .i64 0, .int .i64 0] ∧ h' i3 = .cells (fltRow ((wrongP p (p.take i)).foldl tell7 c0)) ∧ Keeps h h') p.length
      ⟨0, by simp, by simp, by simp, by simp, by simp, by simp [n12, n13], by simp [n23], by simp [wrongP, fltRow, hc], k3 _ _ _⟩ ?_
    clear k3
    rintro n tm h' ⟨i, hi, t1, t2, t3, t4, hi1, hi2, hi3, hf⟩
    have hw1 : IntKind.i64.wrap ((i : Int) + 1) = ((i + 1 : Nat) : Int) := by rw [wrap_i64] <;> omega
    by_cases hlt : i < p.length
    · have hsf : p[i].size ≤ sizeP p := sizeP_mem (List.getElem_mem hlt)
      have hsz : p[i].size = 1 + p[i].params.length + p[i].body.size := rfl
      have hsn := wrongP_snoc p (p.take i) p[i]
      rw [← take_snoc p hlt] at hsn
      have hwl := wrongS_length p p[i].body p[i].params p[i].ty
      generalize hx : p[i] = f at *
      simp -dsimp [t1, t2, t3, t4, hi1, hlt, hx]
      refine wrong_ok (p := p) (by omega) _ f.body f.params f.ty _ _ (Nat.le_refl _) (by omega) ?_
      generalize hL : wrongS p f.params f.ty f.body = L at *
      generalize hz : (wrongP p (p.take i)).foldl tell7 c0 = z at *
      simp -dsimp
      refine ALoop.start (fun n tm h' => ∃ k : Nat, k + n = L.length ∧ tm 1 = .ptr i1 0 ∧ tm 2 = .ptr i2 0 ∧ tm 3 = .ptr i3 0 ∧ tm 4 = .int .i64 i ∧ tm 5 = rowsAV (intRows L) ∧ tm 6 = .int .i64 k ∧ h' i1 = .cells [rowsAV (p.map Df.cells)] ∧ h' i2 = .cells [.int .i64 0, .int .i64 0] ∧ h' i3 = .cells (fltRow ((L.take k).foldl tell7 z)) ∧ Keeps h h') L.length
        ⟨0, by simp, by simp [t1], by simp [t2], by simp [t3], by simp [t4], by simp, by simp, hi1, hi2, by simpa using hi3, hf⟩ ?_
      clear t1 t2 t3 t4 hi1 hi2 hi3 hf
      rintro n' tm h' ⟨k, hk, t1, t2, t3, t4, t5, t6, hi1, hi2, hi3, hf⟩
      have hw2 : IntKind.i64.wrap ((k : Int) + 1) = ((k + 1 : Nat) : Int) := by rw [wrap_i64] <;> omega
      by_cases hkl : k < L.length
      · have hts := tell_snoc (L.take k) L[k] z
        rw [← take_snoc L hkl] at hts
        generalize hy : L[k] = y at *
        generalize hu : (L.take k).foldl tell7 z = u at *
        have again : ∀ (tm : Tm) (h' : Hp), tm 1 = .ptr i1 0 → tm 2 = .ptr i2 0 → tm 3 = .ptr i3 0 → tm 4 = .int .i64 i → tm 5 = rowsAV (intRows L) → tm 6 = .int .i64 ((k + 1 : Nat) : Int) → h' i1 = .cells [rowsAV (p.map Df.cells)] → h' i2 = .cells [.int .i64 0, .int .i64 0] → h' i3 = .cells (fltRow (tell7 u y)) → Keeps h h' →
          ∃ k : Nat, k + (n' - 1) = L.length ∧ tm 1 = .ptr i1 0 ∧ tm 2 = .ptr i2 0 ∧ tm 3 = .ptr i3 0 ∧ tm 4 = .int .i64 i ∧ tm 5 = rowsAV (intRows L) ∧ tm 6 = .int .i64 k ∧ h' i1 = .cells [rowsAV (p.map Df.cells)] ∧ h' i2 = .cells [.int .i64 0, .int .i64 0] ∧ h' i3 = .cells (fltRow ((L.take k).foldl tell7 z)) ∧ Keeps h h' :=
          fun tm h' a1 a2 a3 a4 a5 a6 a7 a8 a9 a10 => ⟨k + 1, by omega, a1, a2, a3, a4, a5, a6, a7, a8, by rw [hts]; exact a9, a10⟩
        by_cases hu0 : u.1 = 0
        · simp -dsimp [t1, t3, t5, t6, hi1, hi3, fltRow, hu0, hkl, hy, intRows, hw2]
          exact Again.same (n' - 1) (by omega) (again _ _ (by simp [t1]) (by simp [t2]) (by simp [t3]) (by simp [t4]) (by simp [t5, intRows]) (by simp) (by simp [n13, hi1]) (by simp [n23, hi2]) (by simp [tell7, hu0, fltRow]) (hf.set d3))
        · by_cases hlt2 : y < u.2
          · simp -dsimp [t1, t3, t5, t6, hi1, hi3, fltRow, hu0, hlt2, hkl, hy, intRows, hw2]
            exact Again.same (n' - 1) (by omega) (again _ _ (by simp [t1]) (by simp [t2]) (by simp [t3]) (by simp [t4]) (by simp [t5, intRows]) (by simp) (by simp [n13, hi1]) (by simp [n23, hi2]) (by simp [tell7, hlt2, fltRow]) (hf.set d3))
          · simp -dsimp [t1, t3, t5, t6, hi1, hi3, fltRow, hu0, hlt2, hkl, hy, intRows, hw2]
            exact Again.same (n' - 1) (by omega) (again _ _ (by simp [t1]) (by simp [t2]) (by simp [t3]) (by simp [t4]) (by simp [t5, intRows]) (by simp) hi1 hi2 (by simp [tell7, hu0, hlt2, hi3]) hf)
      · have htk : L.take k = L := List.take_of_length_le (by omega)
        rw [htk] at hi3
        simp -dsimp [t4, t5, t6, hkl, hw1]
        refine Again.same (n - 1) (by omega) ⟨i + 1, by omega, by simp [t1], by simp [t2], by simp [t3], by simp, hi1, hi2, ?_, hf⟩
        rw [hsn, List.foldl_append, hz]
        exact hi3
    · have htk : p.take i = p := List.take_of_length_le (by omega)
      rw [htk] at hi3
      simp -dsimp [t1, t2, t3, t4, hi1, hi2, hi3, fltRow, hlt]
      exact Gives.sub (hf.set d2).sub hK
  · simp only [ne_eq, hc, not_false_eq_true, if_true] at hq
    rw [hq] at hK
    simp -dsimp [hc, fltRow, n23, n32]
    exact Gives.sub (((((Keeps.refl h).set d1).set d2).set d3).set d2).sub hK
end Go.Proofs.Ytcpkdbofohkipaa
