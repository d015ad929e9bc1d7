/- The document's answer for types: heads, names with types, an expression's own type. -/
import Derived.Test.YtghidedifiolbaaGreatK09
import Derived.Test.YtghidedifiolbaaGreatK25
set_option linter.unusedVariables false
set_option linter.unusedSimpArgs false
namespace Go.Proofs.YtghidedifiolbaaGreat
open Go.AM
variable {h : Hp} {K : AV → Hp → Prop}

theorem head_ok {p : List Df} {nm : Bytes} (hl : p.length ≤ 1000000) (hK : K (.tup [.agg ((headD nm p).getD df0).cells, .bool (headD nm p).isSome]) h) : ACalls Tryz.prog 110 [progAV p, .str nm] h K := by
  refine calls_of mixed Tryz.func110 comp110 (Nat.le_of_ble_eq_true rfl) ?_
  simp -dsimp [c110, progAV]
  intro i2 d2
  simp -dsimp
  intro i4 d4
  have n24 := hset_ne d4
  have n42 : ¬ i4 = i2 := fun x => n24 x.symm
  have d4' : h i4 = .dead := ((Keeps.refl h).new d2).dead d4
  simp -dsimp
  refine ALoop.start (fun n tm h' => ∃ i : Nat, i + n = p.length ∧ tm 1 = .str nm ∧ tm 2 = .ptr i2 0 ∧ tm 4 = .ptr i4 0 ∧ tm 6 = .int .i64 i ∧ headD nm (p.drop i) = headD nm p ∧ h' = hset (hset h i2 (.cells [rowsAV (p.map Df.cells)])) i4 (.cells df0.cells)) p.length ⟨0, by simp, by simp, by simp, by simp, by simp, by simp, rfl⟩ ?_
  rintro n tm h' ⟨i, hi, t1, t2, t4, t6, hq, rfl⟩
  have hw1 : IntKind.i64.wrap ((i : Int) + 1) = ((i + 1 : Nat) : Int) := by rw [wrap_i64] <;> omega
  have hsub : ∀ o : AObj, Sub h (hset (hset h i2 (.cells [rowsAV (p.map Df.cells)])) i4 o) := fun o => (((Keeps.refl h).new d2).set d4').sub
  have hd0 : df0.cells.length = 11 := by simp
  by_cases hlt : i < p.length
  · rw [List.drop_eq_getElem_cons hlt] at hq
    simp only [headD] at hq
    generalize hf : p[i] = f at *
    by_cases he : f.name = nm
    · rw [if_pos he] at hq
      rw [← hq] at hK
      simp -dsimp [t1, t2, t4, t6, hlt, hf, he, n24, n42]
      exact Gives.sub (hsub _) hK
    · rw [if_neg he] at hq
      simp -dsimp [t1, t2, t4, t6, hlt, hf, he, n24, n42, hw1]
      exact Again.same (n - 1) (by omega) ⟨i + 1, by omega, by simp [t1], by simp [t2], by simp [t4], by simp, hq, rfl⟩
  · have hnil : p.drop i = [] := List.drop_eq_nil_of_le (by omega)
    rw [hnil] at hq
    rw [← hq] at hK
    simp -dsimp [t1, t2, t4, t6, hlt, n24, n42, df0, Df.cells, Ex.cells, ex0, rowsAV_nil, Ex.rows]
    exact Gives.sub (hsub _) hK

theorem with7_ok {env : List Pm} {nm : Bytes} {t : Int} (hl : env.length ≤ 900000) (hK : K (pmRows (env ++ [⟨nm, t, 0⟩])) h) : ACalls Tryz.prog 111 [pmRows env, .str nm, .int .i64 t] h K := by
  refine calls_of mixed Tryz.func111 comp111 (Nat.le_of_ble_eq_true rfl) ?_
  simp -dsimp [c111, pmRows]
  refine Own.pushE (h := h) (rows := []) (.inl ⟨rfl, rfl⟩) (Keeps.refl h) (by simp; omega) (by decide) fun v1 h1 ho1 hf1 _ => ?_
  simp -dsimp
  intro i2 d2
  simp -dsimp
  refine Own.pushE (h := h) (ho1.new d2) (hf1.new d2) (by simp; omega) (by decide) fun v2 h2 ho2 hf2 _ => ?_
  simp -dsimp
  refine ho2.out hf2 ?_
  simpa [pmRows, Pm.cells] using hK

theorem within_ok {env : List Pm} {e : Ex} {i : Nat} (hl : env.length ≤ 800000) (hK : K (pmRows (withinS env e i)) h) : ACalls Tryz.prog 80 [pmRows env, .agg e.cells, .int .i64 i] h K := by
  refine calls_of mixed Tryz.func80 comp80 (Nat.le_of_ble_eq_true rfl) ?_
  simp -dsimp [c80]
  intro i2 d2
  have hf : Keeps h (hset h i2 (.cells e.cells)) := (Keeps.refl h).new d2
  simp only [withinS] at hK
  by_cases h21 : e.op = 21
  · simp -dsimp [h21]
    refine with7_ok (by omega) ?_
    simp -dsimp
    exact Gives.sub hf.sub (by simpa [h21] using hK)
  by_cases h22 : e.op = 22 ∧ i = 1
  · obtain ⟨a1, a2⟩ := h22
    simp -dsimp [a1, a2]
    refine with7_ok (by omega) ?_
    simp -dsimp
    exact Gives.sub hf.sub (by simpa [a1, a2] using hK)
  have hnn : ¬ (e.op = 21 ∨ e.op = 22 ∧ i = 1) := fun x => x.elim h21 h22
  simp only [hnn, if_false] at hK
  by_cases o20 : e.op = 20 ∧ i = 2
  · obtain ⟨a1, a2⟩ := o20
    simp only [a1, a2, and_self, if_true] at hK
    simp -dsimp [a1, a2]
    refine with7_ok (by omega) ?_
    simp -dsimp
    refine with7_ok (by simp; omega) ?_
    simp -dsimp
    exact Gives.sub hf.sub (by simpa using hK)
  · rw [if_neg o20] at hK
    by_cases o22 : e.op = 22
    · have i1 : ¬ i = 1 := fun x => h22 ⟨o22, x⟩
      have i1' : ¬ (i : Int) = 1 := by omega
      simp -dsimp [o22, i1, i1']
      exact Gives.sub hf.sub hK
    · by_cases q20 : e.op = 20
      · have i2' : ¬ i = 2 := fun x => o20 ⟨q20, x⟩
        have i2'' : ¬ (i : Int) = 2 := by omega
        simp -dsimp [q20, i2', i2'']
        exact Gives.sub hf.sub hK
      · simp -dsimp [h21, o22, q20]
        exact Gives.sub hf.sub hK

theorem own_ok {p : List Df} {env : List Pm} {e : Ex} (hp : p.length ≤ 1000000) (hl : env.length ≤ 800000) (hK : K (.tup [.int .i64 (ownS p env e).1, .bool (ownS p env e).2]) h) : ACalls Tryz.prog 79 [progAV p, pmRows env, .agg e.cells] h K := by
  refine calls_of mixed Tryz.func79 comp79 (Nat.le_of_ble_eq_true rfl) ?_
  simp -dsimp [c79, progAV]
  intro i3 d3
  simp -dsimp
  intro i5 d5
  have n35 := hset_ne d5
  have n53 : ¬ i5 = i3 := fun x => n35 x.symm
  have hf : Keeps h (hset (hset h i3 (.cells [rowsAV (p.map Df.cells)])) i5 (.cells e.cells)) := ((Keeps.refl h).new d3).new d5
  by_cases hN : e.op = 1 ∨ e.op = 8 ∨ e.op = 9 ∨ e.op = 10 ∨ e.op = 11 ∨ e.op = 15 ∨ e.op = 16 ∨ e.op = 17
  · have hK' := hK
    simp only [ownS, if_pos hN] at hK'
    rcases hN with o | o | o | o | o | o | o | o
    all_goals
      simp -dsimp [o]
      exact Gives.sub hf.sub hK'
  by_cases hB : e.op = 2 ∨ e.op = 3 ∨ e.op = 12 ∨ e.op = 13 ∨ e.op = 14
  · have hK' := hK
    simp only [ownS, if_neg hN, if_pos hB] at hK'
    rcases hB with o | o | o | o | o
    all_goals
      simp -dsimp [o]
      exact Gives.sub hf.sub hK'
  by_cases hL : e.op = 4 ∨ e.op = 18
  · have hK' := hK
    simp only [ownS, if_neg hN, if_neg hB, if_pos hL] at hK'
    rcases hL with o | o
    all_goals
      simp -dsimp [o]
      exact Gives.sub hf.sub hK'
  simp only [ownS, if_neg hN, if_neg hB, if_neg hL] at hK
  simp only [not_or] at hN hB hL
  obtain ⟨o1, o8, o9, o10, o11, o15, o16, o17⟩ := hN
  obtain ⟨o2, o3, o12, o13, o14⟩ := hB
  obtain ⟨o4, o18⟩ := hL
  by_cases o5 : e.op = 5
  · simp only [o5, if_true] at hK
    simp -dsimp [o5]
    exact Gives.sub hf.sub hK
  rw [if_neg o5] at hK
  by_cases o6 : e.op = 6
  · rw [if_pos o6] at hK
    have hw0 : IntKind.i64.wrap ((env.length : Int) - 1) = (env.length : Int) - 1 := by rw [wrap_i64] <;> omega
    simp -dsimp [o6, pmRows, hw0]
    refine ALoop.start (fun n tm h' => n ≤ env.length ∧ tm 1 = pmRows env ∧ tm 5 = .ptr i5 0 ∧ tm 8 = .int .i64 ((n : Int) - 1) ∧ lastT e.name (env.take n) = lastT e.name env ∧ h' = hset (hset h i3 (.cells [rowsAV (p.map Df.cells)])) i5 (.cells e.cells)) env.length ⟨by simp, by simp [pmRows], by simp, by simp, by simp, rfl⟩ ?_
    rintro n tm h' ⟨hn, t1, t5, t8, hq, rfl⟩
    cases n with
    | zero =>
      simp [lastT] at hq
      rw [← hq] at hK
      simp -dsimp [t1, t5, t8]
      exact Gives.sub hf.sub hK
    | succ n =>
      have hlt : n < env.length := by omega
      rw [take_snoc env hlt, lastT_snoc] at hq
      generalize hx : env[n] = x at *
      have e1 : ((n + 1 : Nat) : Int) - 1 = n := by omega
      have hw1 : IntKind.i64.wrap ((n : Int) - 1) = (n : Int) - 1 := by rw [wrap_i64] <;> omega
      have hge : ¬ ((n : Int) < 0) := by omega
      rw [e1] at t8
      by_cases hnm : x.name = e.name
      · rw [if_pos hnm] at hq
        rw [← hq] at hK
        simp -dsimp [t1, t5, t8, pmRows, hlt, hx, hnm]
        exact Gives.sub hf.sub hK
      · rw [if_neg hnm] at hq
        simp -dsimp [t1, t5, t8, pmRows, hlt, hx, hnm, hw1]
        exact Again.same n (by omega) ⟨by omega, by simp [t1, pmRows], by simp [t5], by simp, hq, rfl⟩
  rw [if_neg o6] at hK
  by_cases o7 : e.op = 7
  · rw [if_pos o7] at hK
    simp -dsimp [o7, n35]
    refine head_ok (p := p) (by omega) ?_
    have hfl : ((headD e.name p).getD df0).cells.length = 11 := by simp
    cases hd : headD e.name p with
    | none =>
      rw [hd] at hK
      simp -dsimp
      intro i9 d9
      simp -dsimp
      exact Gives.sub (hf.new d9).sub hK
    | some f =>
      rw [hd] at hK
      simp -dsimp
      intro i9 d9
      have n59 : ¬ i5 = i9 := cells_ne (cs := e.cells) (by simp) d9
      have d9' := hf.dead d9
      simp -dsimp [n59]
      by_cases hc : f.params.length = e.args.length
      · simp only [ne_eq, hc, not_true_eq_false, if_false] at hK
        simp -dsimp [hc]
        exact Gives.sub (hf.new d9).sub hK
      · simp only [ne_eq, hc, not_false_eq_true, if_true] at hK
        have hc' : ¬ (f.params.length : Int) = e.args.length := by omega
        simp -dsimp [hc, hc']
        exact Gives.sub (hf.new d9).sub hK
  rw [if_neg o7] at hK
  simp -dsimp [o1, o2, o3, o4, o5, o6, o7, o8, o9, o10, o11, o12, o13, o14, o15, o16, o17, o18]
  exact Gives.sub hf.sub hK

theorem wanted_ok {p : List Df} {e : Ex} {i : Nat} {t : Int} (hp : p.length ≤ 1000000) (hK : K (.int .i64 (wantedS p e i t)) h) : ACalls Tryz.prog 81 [progAV p, .agg e.cells, .int .i64 i, .int .i64 t] h K := by
  refine calls_of mixed Tryz.func81 comp81 (Nat.le_of_ble_eq_true rfl) ?_
  simp -dsimp [c81, progAV]
  intro i4 d4
  simp -dsimp
  intro i5 d5
  have n45 := hset_ne d5
  have hf : Keeps h (hset (hset h i4 (.cells [rowsAV (p.map Df.cells)])) i5 (.cells e.cells)) := ((Keeps.refl h).new d4).new d5
  simp only [wantedS] at hK
  by_cases o14 : e.op = 14
  · rw [if_pos o14] at hK
    simp -dsimp [o14]
    exact Gives.sub hf.sub hK
  rw [if_neg o14] at hK
  by_cases o18 : e.op = 18
  · rw [if_pos o18] at hK
    by_cases hi : i = 1
    · simp only [hi, if_true] at hK
      simp -dsimp [o18, hi]
      exact Gives.sub hf.sub hK
    · have hi' : ¬ (i : Int) = 1 := by omega
      simp only [hi, if_false] at hK
      simp -dsimp [o18, hi, hi']
      exact Gives.sub hf.sub hK
  rw [if_neg o18] at hK
  by_cases o7 : e.op = 7
  · rw [if_pos o7] at hK
    simp -dsimp [o7, n45]
    refine head_ok (p := p) (by omega) ?_
    cases hd : headD e.name p with
    | none =>
      rw [hd] at hK
      simp -dsimp
      intro i9 d9
      simp -dsimp
      exact Gives.sub (hf.new d9).sub hK
    | some f =>
      rw [hd] at hK
      simp -dsimp
      intro i9 d9
      have d9' := hf.dead d9
      simp -dsimp
      by_cases hc : i < f.params.length
      · simp only [List.getElem?_eq_getElem hc] at hK
        simp -dsimp [hc]
        exact Gives.sub (hf.new d9).sub hK
      · simp only [List.getElem?_eq_none (Nat.le_of_not_lt hc)] at hK
        simp -dsimp [hc]
        exact Gives.sub (hf.new d9).sub hK
  rw [if_neg o7] at hK
  by_cases o19 : e.op = 19
  · rw [if_pos o19] at hK
    by_cases hi : i = 0
    · simp only [hi, if_true] at hK
      simp -dsimp [o19, hi]
      exact Gives.sub hf.sub hK
    · have hi' : ¬ (i : Int) = 0 := by omega
      simp only [hi, if_false] at hK
      simp -dsimp [o19, hi, hi']
      exact Gives.sub hf.sub hK
  rw [if_neg o19] at hK
  by_cases o20 : e.op = 20
  · rw [if_pos o20] at hK
    by_cases hi : i = 0
    · simp only [hi, if_true] at hK
      simp -dsimp [o20, hi]
      exact Gives.sub hf.sub hK
    · have hi' : ¬ (i : Int) = 0 := by omega
      simp only [hi, if_false] at hK
      simp -dsimp [o20, hi, hi']
      exact Gives.sub hf.sub hK
  rw [if_neg o20] at hK
  by_cases o21 : e.op = 21 ∨ e.op = 22
  · rw [if_pos o21] at hK
    rcases o21 with o | o
    all_goals
      by_cases hi : i = 0
      · simp only [hi, if_true] at hK
        simp -dsimp [o, hi]
        exact Gives.sub hf.sub hK
      · have hi' : ¬ (i : Int) = 0 := by omega
        simp only [hi, if_false] at hK
        simp -dsimp [o, hi, hi']
        exact Gives.sub hf.sub hK
  rw [if_neg o21] at hK
  simp only [not_or] at o21
  simp -dsimp [o7, o14, o18, o19, o20, o21]
  exact Gives.sub hf.sub hK
end Go.Proofs.YtghidedifiolbaaGreat

/- The document's answer for types: what is wrong, Check. -/
namespace Go.Proofs.YtghidedifiolbaaGreat
open Go.AM

theorem wrong_ok {p : List Df} (hp : p.length ≤ 1000000) : ∀ (n : Nat) (e : Ex) (env : List Pm) (t : Int) (h : Hp) (K : AV → Hp → Prop), e.size ≤ n → env.length + 2 * e.size ≤ 200000 → K (rowsAV (intRows (wrongS p env t e))) h → ACalls Tryz.prog 45 [progAV p, pmRows env, .agg e.cells, .int .i64 t] h K := by
  intro n
  induction n with
  | zero => intro e env t h K hn; have := e.size_pos; omega
  | succ n0 ih =>
    intro e env t h K hn hnm hK
    refine calls_of mixed Tryz.func45 comp45 (Nat.le_of_ble_eq_true rfl) ?_
    have hsa := e.size_args
    have hla := Ex.sizeL_len e.args
    have hwl := ownW_length p env e t
    have hwL := wrongL_length p e.args env e t 0
    simp -dsimp [c45, progAV]
    intro i4 d4
    simp -dsimp
    intro i6 d6
    have n46 := hset_ne d6
    have hf0 : Keeps h (hset (hset h i4 (.cells [rowsAV (p.map Df.cells)])) i6 (.cells e.cells)) := ((Keeps.refl h).new d4).new d6
    simp -dsimp [n46]
    refine own_ok (p := p) hp (by omega) ?_
    have hoW : ownW p env e t = if (ownS p env e).2 = true ∧ (ownS p env e).1 ≠ t then [e.pos] else [] := rfl
    generalize ownS p env e = o at *
    obtain ⟨o1, o2⟩ := o
    simp -dsimp
    have body : ∀ (tm : Tm) (h' : Hp), (tm 1 = pmRows env ∧ tm 3 = .int .i64 t ∧ tm 4 = .ptr i4 0 ∧ tm 6 = .ptr i6 0 ∧ h' i4 = .cells [rowsAV (p.map Df.cells)] ∧ h' i6 = .cells e.cells ∧ Keeps h h' ∧ Own h h' 3 1 (tm 9) (intRows (ownW p env e t))) →
        AW Tryz.prog (match c45.code with | .seq _ (.seq _ (.seq _ (.seq _ x))) => x | _ => .skip) (fun e tm h' => match e with | .exit _ => False | _ => Gives K (some (tm 8)) h') tm h' := by
      clear n46 hf0 d4 d6
      rintro tm h' ⟨t1, t3, t4, t6, hi4, hi6, hf, ho⟩
      simp -dsimp [c45]
      refine ALoop.start (fun n tm h' => ∃ i : Nat, i + n = e.args.length ∧ tm 1 = pmRows env ∧ tm 3 = .int .i64 t ∧ tm 4 = .ptr i4 0 ∧ tm 6 = .ptr i6 0 ∧ tm 12 = .int .i64 i ∧ h' i4 = .cells [rowsAV (p.map Df.cells)] ∧ h' i6 = .cells e.cells ∧ Keeps h h' ∧
        Own h h' 3 1 (tm 9) (intRows (ownW p env e t ++ wrongL p env e t 0 (e.args.take i)))) e.args.length ⟨0, by simp, by simp [t1], by simp [t3], by simp [t4], by simp [t6], by simp, hi4, hi6, hf, by simpa [wrongL] using ho⟩ ?_
      clear t1 t3 t4 t6 hi4 hi6 hf ho
      rintro n tm h' ⟨i, hi, t1, t3, t4, t6, t12, hi4, hi6, hf, ho⟩
      have hw1 : IntKind.i64.wrap ((i : Int) + 1) = ((i + 1 : Nat) : Int) := by rw [wrap_i64] <;> omega
      by_cases hlt : i < e.args.length
      · have hmem : e.args[i].size ≤ Ex.sizeL e.args := Ex.size_mem (List.getElem_mem hlt)
        have hsn := wrongL_snoc p env e t (e.args.take i) 0 e.args[i]
        rw [← take_snoc e.args hlt] at hsn
        have hmin : min i e.args.length = i := by omega
        simp only [List.length_take, hmin, Nat.zero_add] at hsn
        have hsl := wrongL_length p (e.args.take (i + 1)) env e t 0
        have htl : Ex.sizeL (e.args.take (i + 1)) ≤ Ex.sizeL e.args := by
          have := Ex.sizeL_append (e.args.take (i + 1)) (e.args.drop (i + 1))
          rw [List.take_append_drop] at this; omega
        have hwi := withinS_length env e i
        generalize hx : e.args[i] = x at *
        simp -dsimp [t1, t3, t4, t6, t12, hi4, hi6, hlt, hx]
        refine within_ok (by omega) ?_
        simp -dsimp [Stable, AIns.wants, QStep, t1, t3, t4, t6, t12, hi4, hi6, hlt, hx]
        refine wanted_ok (p := p) hp ?_
        simp -dsimp [Stable, AIns.wants, QStep, t1, t3, t4, t6, t12, hi4, hi6, hlt, hx]
        refine ih x _ _ _ _ (by omega) (by omega) ?_
        have hlen := congrArg List.length hsn
        simp only [List.length_append] at hlen
        simp -dsimp
        refine ho.pushE hf (by simp only [intRows_length, List.length_append]; omega) (by decide) fun v' h2 ho2 hf2 hk2 => ?_
        simp -dsimp [t12, hw1]
        refine Again.same (n - 1) (by omega) ⟨i + 1, by omega, by simp [t1], by simp [t3], by simp [t4], by simp [t6], by simp, hk2.cells hi4, hk2.cells hi6, hf2, ?_⟩
        rw [hsn]
        simpa [intRows_append] using ho2
      · have htk : e.args.take i = e.args := List.take_of_length_le (by omega)
        rw [htk] at ho
        simp -dsimp [t1, t6, t12, hi6, hlt]
        refine ho.out hf ?_
        rw [← wrongS_eq]
        exact hK
    simp only [c45] at body
    cases o2 with
    | false =>
      simp -dsimp
      have := body
      refine body _ _ ⟨by simp, by simp, by simp, by simp, by simp [n46], by simp, hf0, ?_⟩
      rw [hoW]
      exact .inl ⟨by simp [intRows], by simp⟩
    | true =>
      by_cases hc : o1 = t
      · simp -dsimp [hc]
        refine body _ _ ⟨by simp, by simp, by simp, by simp, by simp [n46], by simp, hf0, ?_⟩
        rw [hoW]
        exact .inl ⟨by simp [intRows, hc], by simp⟩
      · simp -dsimp [hc]
        intro i7 d7
        have e7 := d7
        simp at d7
        simp -dsimp
        intro i8 d8
        have e8 := d8
        simp [d7] at d8
        refine body _ _ ⟨by simp, by simp, by simp, by simp, by simp [n46, d7, d8], by simp [d7, d8], (hf0.new e7).new e8, ?_⟩
        rw [hoW]
        exact .inr ⟨i8, by simp [intRows, hc], by simp [d8], by simp [intRows, hc], by simp [intRows, hc]⟩

theorem tell_snoc (l : List Int) (x : Int) (f : Flt) : (l ++ [x]).foldl tell7 f = tell7 (l.foldl tell7 f) x := by simp only [List.foldl_append, List.foldl_cons, List.foldl_nil]
theorem check07_ok {p : List Df} {h : Hp} {K : AV → Hp → Prop} (hp : sizeP p ≤ 40000) (hK : K (.agg (fltRow (check07 p))) h) : ACalls Tryz.prog 13 [progAV p] h K := by
  refine calls_of mixed Tryz.func13 comp13 (Nat.le_of_ble_eq_true rfl) ?_
  have hlen := sizeP_len p
  have hq : check07 p = if (check06 p).1 ≠ 0 then check06 p else (wrongP p p).foldl tell7 (check06 p) := rfl
  simp -dsimp [c13, progAV]
  intro i1 d1
  simp -dsimp
  intro i2 d2
  simp at d2
  obtain ⟨n21, n12, d2⟩ := d2
  simp -dsimp [n12]
  refine check06_ok (p := p) hp ?_
  generalize check06 p = c0 at *
  simp -dsimp
  intro i3 d3
  simp at d3
  obtain ⟨n32, n23, n31, n13, d3⟩ := d3
  have k3 : ∀ o1 o2 o3, Keeps h (hset (hset (hset h i1 o1) i2 o2) i3 o3) := fun o1 o2 o3 => (((Keeps.refl h).set d1).set d2).set d3
  simp -dsimp [fltRow]
  by_cases hc : c0.1 = 0
  · simp only [ne_eq, hc, not_true_eq_false, if_false] at hq
    rw [hq] at hK
    simp -dsimp [hc, fltRow, n23, n32]
    refine ALoop.start (fun n tm h' => ∃ i : Nat, i + n = p.length ∧ tm 1 = .ptr i1 0 ∧ tm 2 = .ptr i2 0 ∧ tm 3 = .ptr i3 0 ∧ tm 4 = .int .i64 i ∧ h' i1 = .cells [rowsAV (p.map Df.cells)] ∧ h' i2 = .cells [.int .i64 0, .int .i64 0] ∧ h' i3 = .cells (fltRow ((wrongP p (p.take i)).foldl tell7 c0)) ∧ Keeps h h') p.length
      ⟨0, by simp, by simp, by simp, by simp, by simp, by simp [n12, n13], by simp [n23], by simp [wrongP, fltRow, hc], k3 _ _ _⟩ ?_
    clear k3
    rintro n tm h' ⟨i, hi, t1, t2, t3, t4, hi1, hi2, hi3, hf⟩
    have hw1 : IntKind.i64.wrap ((i : Int) + 1) = ((i + 1 : Nat) : Int) := by rw [wrap_i64] <;> omega
    by_cases hlt : i < p.length
    · have hsf : p[i].size ≤ sizeP p := sizeP_mem (List.getElem_mem hlt)
      have hsz : p[i].size = 1 + p[i].params.length + p[i].body.size := rfl
      have hsn := wrongP_snoc p (p.take i) p[i]
      rw [← take_snoc p hlt] at hsn
      have hwl := wrongS_length p p[i].body p[i].params p[i].ty
      generalize hx : p[i] = f at *
      simp -dsimp [t1, t2, t3, t4, hi1, hlt, hx]
      refine wrong_ok (p := p) (by omega) _ f.body f.params f.ty _ _ (Nat.le_refl _) (by omega) ?_
      generalize hL : wrongS p f.params f.ty f.body = L at *
      generalize hz : (wrongP p (p.take i)).foldl tell7 c0 = z at *
      simp -dsimp
      refine ALoop.start (fun n tm h' => ∃ k : Nat, k + n = L.length ∧ tm 1 = .ptr i1 0 ∧ tm 2 = .ptr i2 0 ∧ tm 3 = .ptr i3 0 ∧ tm 4 = .int .i64 i ∧ tm 5 = rowsAV (intRows L) ∧ tm 6 = .int .i64 k ∧ h' i1 = .cells [rowsAV (p.map Df.cells)] ∧ h' i2 = .cells [.int .i64 0, .int .i64 0] ∧ h' i3 = .cells (fltRow ((L.take k).foldl tell7 z)) ∧ Keeps h h') L.length
        ⟨0, by simp, by simp [t1], by simp [t2], by simp [t3], by simp [t4], by simp, by simp, hi1, hi2, by simpa using hi3, hf⟩ ?_
      clear t1 t2 t3 t4 hi1 hi2 hi3 hf
      rintro n' tm h' ⟨k, hk, t1, t2, t3, t4, t5, t6, hi1, hi2, hi3, hf⟩
      have hw2 : IntKind.i64.wrap ((k : Int) + 1) = ((k + 1 : Nat) : Int) := by rw [wrap_i64] <;> omega
      by_cases hkl : k < L.length
      · have hts := tell_snoc (L.take k) L[k] z
        rw [← take_snoc L hkl] at hts
        generalize hy : L[k] = y at *
        generalize hu : (L.take k).foldl tell7 z = u at *
        have again : ∀ (tm : Tm) (h' : Hp), tm 1 = .ptr i1 0 → tm 2 = .ptr i2 0 → tm 3 = .ptr i3 0 → tm 4 = .int .i64 i → tm 5 = rowsAV (intRows L) → tm 6 = .int .i64 ((k + 1 : Nat) : Int) → h' i1 = .cells [rowsAV (p.map Df.cells)] → h' i2 = .cells [.int .i64 0, .int .i64 0] → h' i3 = .cells (fltRow (tell7 u y)) → Keeps h h' →
          ∃ k : Nat, k + (n' - 1) = L.length ∧ tm 1 = .ptr i1 0 ∧ tm 2 = .ptr i2 0 ∧ tm 3 = .ptr i3 0 ∧ tm 4 = .int .i64 i ∧ tm 5 = rowsAV (intRows L) ∧ tm 6 = .int .i64 k ∧ h' i1 = .cells [rowsAV (p.map Df.cells)] ∧ h' i2 = .cells [.int .i64 0, .int .i64 0] ∧ h' i3 = .cells (fltRow ((L.take k).foldl tell7 z)) ∧ Keeps h h' :=
          fun tm h' a1 a2 a3 a4 a5 a6 a7 a8 a9 a10 => ⟨k + 1, by omega, a1, a2, a3, a4, a5, a6, a7, a8, by rw [hts]; exact a9, a10⟩
        by_cases hu0 : u.1 = 0
        · simp -dsimp [t1, t3, t5, t6, hi1, hi3, fltRow, hu0, hkl, hy, intRows, hw2]
          exact Again.same (n' - 1) (by omega) (again _ _ (by simp [t1]) (by simp [t2]) (by simp [t3]) (by simp [t4]) (by simp [t5, intRows]) (by simp) (by simp [n13, hi1]) (by simp [n23, hi2]) (by simp [tell7, hu0, fltRow]) (hf.set d3))
        · by_cases hlt2 : y < u.2
          · simp -dsimp [t1, t3, t5, t6, hi1, hi3, fltRow, hu0, hlt2, hkl, hy, intRows, hw2]
            exact Again.same (n' - 1) (by omega) (again _ _ (by simp [t1]) (by simp [t2]) (by simp [t3]) (by simp [t4]) (by simp [t5, intRows]) (by simp) (by simp [n13, hi1]) (by simp [n23, hi2]) (by simp [tell7, hlt2, fltRow]) (hf.set d3))
          · simp -dsimp [t1, t3, t5, t6, hi1, hi3, fltRow, hu0, hlt2, hkl, hy, intRows, hw2]
            exact Again.same (n' - 1) (by omega) (again _ _ (by simp [t1]) (by simp [t2]) (by simp [t3]) (by simp [t4]) (by simp [t5, intRows]) (by simp) hi1 hi2 (by simp [tell7, hu0, hlt2, hi3]) hf)
      · have htk : L.take k = L := List.take_of_length_le (by omega)
        rw [htk] at hi3
        simp -dsimp [t4, t5, t6, hkl, hw1]
        refine Again.same (n - 1) (by omega) ⟨i + 1, by omega, by simp [t1], by simp [t2], by simp [t3], by simp, hi1, hi2, ?_, hf⟩
        rw [hsn, List.foldl_append, hz]
        exact hi3
    · have htk : p.take i = p := List.take_of_length_le (by omega)
      rw [htk] at hi3
      simp -dsimp [t1, t2, t3, t4, hi1, hi2, hi3, fltRow, hlt]
      exact Gives.sub (hf.set d2).sub hK
  · simp only [ne_eq, hc, not_false_eq_true, if_true] at hq
    rw [hq] at hK
    simp -dsimp [hc, fltRow, n23, n32]
    exact Gives.sub (((((Keeps.refl h).set d1).set d2).set d3).set d2).sub hK
end Go.Proofs.YtghidedifiolbaaGreat

/- The program's names: what an expression binds, what is told, a visit. -/
namespace Go.Proofs.YtghidedifiolbaaGreat
open Go.AM

theorem sbound_ok {h : Hp} {K : AV → Hp → Prop} {e : Ex} {i : Nat} (hK : K (rowsAV (strRows (boundS e i))) h) : ACalls Tryz.prog 141 [.agg e.cells, .int .i64 i] h K := by
  refine calls_of mixed Tryz.func141 comp141 (Nat.le_of_ble_eq_true rfl) ?_
  simp -dsimp [c141]
  intro i2 d2
  have hf : Keeps h (hset h i2 (.cells e.cells)) := (Keeps.refl h).new d2
  simp only [boundS] at hK
  by_cases h21 : e.op = 21
  · simp -dsimp [h21]
    intro i3 d3
    simp at d3
    simp -dsimp
    refine Gives.frz (h' := h) ((hf.set d3.2.2).sub) (Frz.rows (e := 9) (sz := 1) (xs := [[.str e.name]]) (by simp) d3.2.2) ?_
    simpa [h21, strRows, rowsAV] using hK
  by_cases h22 : e.op = 22 ∧ i = 1
  · obtain ⟨a1, a2⟩ := h22
    simp -dsimp [a1, a2]
    intro i3 d3
    simp at d3
    simp -dsimp
    refine Gives.frz (h' := h) ((hf.set d3.2.2).sub) (Frz.rows (e := 9) (sz := 1) (xs := [[.str e.name]]) (by simp) d3.2.2) ?_
    simpa [a1, a2, strRows, rowsAV] using hK
  have hnn : ¬ (e.op = 21 ∨ e.op = 22 ∧ (i : Int) = 1) := fun x => x.elim h21 (fun y => h22 ⟨y.1, by omega⟩)
  simp only [hnn, if_false] at hK
  by_cases o20 : e.op = 20 ∧ i = 2
  · obtain ⟨a1, a2⟩ := o20
    simp -dsimp [a1, a2]
    intro i3 d3
    simp at d3
    simp -dsimp
    refine Gives.frz (h' := h) ((hf.set d3.2.2).sub) (Frz.rows (e := 9) (sz := 1) (xs := [[.str e.name], [.str e.tail]]) (by simp) d3.2.2) ?_
    simpa [a1, a2, strRows, rowsAV] using hK
  have o20' : ¬ (e.op = 20 ∧ (i : Int) = 2) := fun y => o20 ⟨y.1, by omega⟩
  simp only [o20', if_false] at hK
  by_cases o22 : e.op = 22
  · have i1 : ¬ i = 1 := fun x => h22 ⟨o22, x⟩
    have i1' : ¬ (i : Int) = 1 := by omega
    simp -dsimp [o22, i1, i1']
    exact Gives.sub hf.sub hK
  by_cases q20 : e.op = 20
  · have i2' : ¬ i = 2 := fun x => o20 ⟨q20, x⟩
    have i2'' : ¬ (i : Int) = 2 := by omega
    simp -dsimp [q20, i2', i2'']
    exact Gives.sub hf.sub hK
  · simp -dsimp [h21, o22, q20]
    exact Gives.sub hf.sub hK

theorem tell_ok {h : Hp} {K : AV → Hp → Prop} {w at_ : Int} {fid : Nat} {f : Flt} (hf : h fid = .cells (fltRow f)) (hK : K .undef (hset h fid (.cells (fltRow (tell1 f (w, at_)))))) : ACalls Tryz.prog 126 [.int .i64 w, .int .i64 at_, .ptr fid 0] h K := by
  refine calls_of mixed Tryz.func126 comp126 (Nat.le_of_ble_eq_true rfl) ?_
  simp only [tell1] at hK
  by_cases h0 : f.1 = 0
  · simp -dsimp [c126, hf, fltRow, h0]
    exact Gives.same (by simpa [h0, fltRow] using hK)
  · by_cases h1 : at_ < f.2
    · simp -dsimp [c126, hf, fltRow, h0, h1]
      exact Gives.same (by simpa [h1, fltRow] using hK)
    · have hc : ¬ (f.1 = 0 ∨ at_ < f.2) := by simp [h0, h1]
      rw [if_neg hc, hset_self hf] at hK
      simp -dsimp [c126, hf, fltRow, h0, h1]
      exact Gives.same hK

/-- What a walk through a body stands on. -/
structure Sc (h : Hp) (p : List Df) (places : Mp) (pc pid tc i1 inid fid : Nat) (m : Mp) (f : Flt) : Prop where
  cpc : h pc = .cells [.mp pid]
  cpid : h pid = .map (mapAV places)
  ctc : h tc = .cells [.fn 126 [.ptr fid 0]]
  ci1 : h i1 = .cells [rowsAV (p.map Df.cells)]
  cinn : h inid = .map (mapAV m)
  cfid : h fid = .cells (fltRow f)
  n1 : ¬ pid = inid
  n2 : ¬ pc = fid
  n3 : ¬ tc = fid
  n4 : ¬ i1 = fid
theorem Sc.keep {h h' : Hp} {p : List Df} {places : Mp} {pc pid tc i1 inid fid : Nat} {m m' : Mp} {f f' : Flt} (s : Sc h p places pc pid tc i1 inid fid m f) (k : KeepsX [inid, fid] h h') (hi : h' inid = .map (mapAV m')) (hf : h' fid = .cells (fltRow f')) :
    Sc h' p places pc pid tc i1 inid fid m' f' := by
  have nc : ∀ {j : Nat} {cs : List AV}, h j = .cells cs → ¬ j = fid → h' j = .cells cs := fun {j cs} hj hn => k.at hj (by simp) (by
    have : ¬ j = inid := by rintro rfl; rw [s.cinn] at hj; cases hj
    simp [this, hn])
  refine ⟨nc s.cpc s.n2, k.at s.cpid (by simp) ?_, nc s.ctc s.n3, nc s.ci1 s.n4, hi, hf, s.n1, s.n2, s.n3, s.n4⟩
  have hpf : ¬ pid = fid := by rintro rfl; have := s.cfid; rw [s.cpid] at this; cases this
  have hpi := s.n1
  simp [hpf, hpi]

theorem visit_ok {p : List Df} {places : Mp} {pc pid tc i1 inid fid : Nat} {m : Mp} {f : Flt} {h : Hp} {K : AV → Hp → Prop} {e : Ex} {names : List Bytes} (hp : p.length ≤ 1000000) (s : Sc h p places pc pid tc i1 inid fid m f) (hpl : PlOK places p) (hn : NmOK m names)
    (hK : K .undef (hset h fid (.cells (fltRow (least f (usesF p (Ex.use names e))))))) : ACalls Tryz.prog 128 [.agg e.cells, .mp inid, .ptr pc 0, .ptr tc 0, .ptr i1 0] h K := by
  refine calls_of mixed Tryz.func128 comp128 (Nat.le_of_ble_eq_true rfl) ?_
  simp -dsimp [c128]
  intro i5 d5
  have hf0 : Keeps h (hset h i5 (.cells e.cells)) := (Keeps.refl h).new d5
  have n1 := cells_ne s.cpc d5
  have n2 := map_ne s.cpid d5
  have n3 := cells_ne s.ctc d5
  have n4 := cells_ne s.ci1 d5
  have n5 := map_ne s.cinn d5
  have n6 := cells_ne s.cfid d5
  have n6' : ¬ i5 = fid := fun x => n6 x.symm
  have hpa := hpl e.name
  have hz := hn.zero e.name
  have hcell : hset h i5 (.cells e.cells) fid = .cells (fltRow f) := by simp [n6, s.cfid]
  have hcomm : ∀ o, hset (hset h i5 (.cells e.cells)) fid o = hset (hset h fid o) i5 (.cells e.cells) := fun o => hset_comm n6'
  have dead' : ∀ o, hset h fid o i5 = .dead := fun o => by simp [n6', d5]
  have fin : ∀ l, usesF p (Ex.use names e) = l → ∀ o, o = .cells (fltRow (least f l)) → Gives K (some .undef) (hset (hset h i5 (.cells e.cells)) fid o) := by
    rintro l rfl o rfl
    rw [hcomm]
    exact Gives.sub (Sub.drop (dead' _)) hK
  have same : usesF p (Ex.use names e) = [] → Gives K (some .undef) (hset h i5 (.cells e.cells)) := by
    intro hl
    rw [hl, least_nil, hset_self s.cfid] at hK
    exact Gives.sub hf0.sub hK
  have hge := headsS_ge e.name p 0
  by_cases o6 : e.op = 6
  · have hu : usesF p (Ex.use names e) = if e.name ∉ names then [(31, e.pos)] else [] := by
      by_cases hm : e.name ∈ names <;> simp [Ex.use, o6, usesF, useF, hm]
    by_cases hm : e.name ∈ names
    · have hg : ¬ getM m e.name = 0 := fun x => (hz.1 x) hm
      simp -dsimp [o6, s.cpc, s.cpid, s.cinn, n1, n2, n5, hg]
      exact same (by rw [hu]; simp [hm])
    · have hg : getM m e.name = 0 := hz.2 hm
      simp -dsimp [o6, s.cpc, s.cpid, s.cinn, s.ctc, n1, n2, n3, n5, hg]
      refine tell_ok (f := f) hcell ?_
      simp -dsimp
      exact fin [(31, e.pos)] (by rw [hu]; simp [hm]) _ rfl
  · by_cases o7 : e.op = 7
    · have hu : usesF p (Ex.use names e) = if headsS e.name p 0 < 0 then [(32, e.pos)] else if (p.getD (headsS e.name p 0).toNat ⟨[], [], 0, ex0, 0⟩).params.length ≠ e.args.length then [(33, e.pos)] else [] := by
        simp [Ex.use, o7, usesF, useF]
      by_cases hneg : headsS e.name p 0 < 0
      · have hg : getM places e.name = 0 := by omega
        simp -dsimp [o7, s.cpc, s.cpid, s.cinn, s.ctc, n1, n2, n3, n5, hg]
        refine tell_ok (f := f) hcell ?_
        simp -dsimp
        exact fin [(32, e.pos)] (by rw [hu, if_pos hneg]) _ rfl
      · obtain ⟨k, hk, ek, _⟩ := headsS_at hneg
        have hm0 : ¬ ((k : Int) < 0) := by omega
        rw [ek] at hpa
        have hg0 : ¬ ((k : Int) + 1 = 0) := by omega
        have hw : IntKind.i64.wrap (k : Int) = (k : Int) := by rw [wrap_i64] <;> omega
        have hgm : p[k]? = some p[k] := List.getElem?_eq_getElem hk
        simp only [ek, if_neg hm0, Int.toNat_natCast, List.getD, hgm, Option.getD_some] at hu
        generalize hx : p[k] = x at *
        by_cases hne : x.params.length = e.args.length
        · simp -dsimp [o7, s.cpc, s.cpid, s.cinn, s.ctc, s.ci1, n1, n2, n3, n4, n5, hpa, hg0, hw, hk, hx, hne]
          exact same (by rw [hu]; simp [hne])
        · have hne' : ¬ (x.params.length : Int) = e.args.length := by omega
          simp -dsimp [o7, s.cpc, s.cpid, s.cinn, s.ctc, s.ci1, n1, n2, n3, n4, n5, hpa, hg0, hw, hk, hx, hne, hne']
          refine tell_ok (f := f) hcell ?_
          simp -dsimp
          exact fin [(33, e.pos)] (by rw [hu]; simp [hne]) _ rfl
    · simp -dsimp [o6, o7, s.cpc, s.cpid, s.cinn, s.ctc, s.ci1, n1, n2, n3, n4, n5]
      exact same (by simp [Ex.use, o6, o7, usesF])
end Go.Proofs.YtghidedifiolbaaGreat

/- The program's names: a walk through an expression. -/
namespace Go.Proofs.YtghidedifiolbaaGreat
open Go.AM

theorem walk_ok {p : List Df} {places : Mp} {pc pid tc i1 inid fid : Nat} (hp : p.length ≤ 1000000) (hpl : PlOK places p) : ∀ (n : Nat) (e : Ex) (names : List Bytes) (m : Mp) (f : Flt) (h : Hp) (K : AV → Hp → Prop), e.size ≤ n → names.length + 2 * e.size ≤ 200000 →
    Sc h p places pc pid tc i1 inid fid m f → NmOK m names → (∀ m', NmOK m' names → K .undef (hset (hset h inid (.map (mapAV m'))) fid (.cells (fltRow (least f (usesF p (seenS names e))))))) →
    ACalls Tryz.prog 127 [.agg e.cells, .mp inid, .fn 128 [.ptr pc 0, .ptr tc 0, .ptr i1 0]] h K := by
  intro n
  induction n with
  | zero => intro e names m f h K hn; have := e.size_pos; omega
  | succ n0 ih =>
    intro e names m f h K hn hnm s hm hK
    refine calls_of mixed Tryz.func127 comp127 (Nat.le_of_ble_eq_true rfl) ?_
    have hsa := e.size_args
    have hla := Ex.sizeL_len e.args
    have nif : ¬ inid = fid := by rintro rfl; have := s.cfid; rw [s.cinn] at this; cases this
    simp -dsimp [c127]
    intro i3 d3
    have n3i := map_ne s.cinn d3
    have n3f := cells_ne s.cfid d3
    have n3f' : ¬ i3 = fid := fun x => n3f x.symm
    have n3i' : ¬ i3 = inid := fun x => n3i x.symm
    have k3 : KeepsX [inid, fid] h (hset h i3 (.cells e.cells)) := KeepsX.refl.new d3
    simp -dsimp
    refine visit_ok hp (s.keep (m' := m) (f' := f) k3 (by simp [n3i, s.cinn]) (by simp [n3f, s.cfid])) hpl hm ?_
    have hsE := seenS_eq names e
    generalize hf1 : least f (usesF p (Ex.use names e)) = f1 at *
    simp -dsimp [n3f']
    refine ALoop.start (fun n tm h' => ∃ (i : Nat) (m' : Mp), i + n = e.args.length ∧ tm 1 = .mp inid ∧ tm 2 = .fn 128 [.ptr pc 0, .ptr tc 0, .ptr i1 0] ∧ tm 3 = .ptr i3 0 ∧ tm 18 = rowsAV (e.args.map Ex.cells) ∧ tm 19 = .int .i64 e.args.length ∧ tm 20 = .int .i64 i ∧
      h' i3 = .cells e.cells ∧ h' inid = .map (mapAV m') ∧ h' fid = .cells (fltRow (least f1 (usesF p (seenL names e 0 (e.args.take i))))) ∧ NmOK m' names ∧ KeepsX [inid, fid] h h') e.args.length
      ⟨0, m, by simp, by simp, by simp, by simp, by simp, by simp, by simp, by simp [n3f'], by simp [n3i, nif, s.cinn], by simp [seenL, usesF, least], hm, (KeepsX.refl.set d3).mem (by simp)⟩ ?_
    rintro n tm h' ⟨i, m', hi, t1, t2, t3, t18, t19, t20, hi3, hin, hfi, hm', hk⟩
    have hw1 : IntKind.i64.wrap ((i : Int) + 1) = ((i + 1 : Nat) : Int) := by rw [wrap_i64] <;> omega
    by_cases hlt : i < e.args.length
    · have hmem : e.args[i].size ≤ Ex.sizeL e.args := Ex.size_mem (List.getElem_mem hlt)
      have hsn := seenL_snoc names e (e.args.take i) 0 e.args[i]
      rw [← take_snoc e.args hlt] at hsn
      have hmin : min i e.args.length = i := by omega
      simp only [List.length_take, hmin, Nat.zero_add] at hsn
      have hbl := boundS_length e (i : Int)
      generalize hx : e.args[i] = x at *
      simp -dsimp [t1, t2, t3, t18, t19, t20, hlt, hx]
      intro i7 d7
      have n37 := cells_ne hi3 d7
      have n7i := map_ne hin d7
      have n7f := cells_ne hfi d7
      have n7i' : ¬ i7 = inid := fun x => n7i x.symm
      have n7f' : ¬ i7 = fid := fun x => n7f x.symm
      have hk7 : ∀ o, KeepsX [inid, fid] h (hset h' i7 o) := fun o => hk.new d7
      have d7' : h i7 = .dead := hk.dead d7 (by simp [n7i', n7f'])
      simp -dsimp [t3, hi3, n37]
      refine sbound_ok ?_
      generalize hns : boundS e (i : Int) = ns at *
      generalize hg : least f1 (usesF p (seenL names e 0 (e.args.take i))) = g at *
      simp -dsimp
      refine ALoop.start (fun n tm h' => ∃ (k : Nat) (m' : Mp), k + n = ns.length ∧ tm 1 = .mp inid ∧ tm 2 = .fn 128 [.ptr pc 0, .ptr tc 0, .ptr i1 0] ∧ tm 3 = .ptr i3 0 ∧ tm 18 = rowsAV (e.args.map Ex.cells) ∧ tm 19 = .int .i64 e.args.length ∧ tm 20 = .int .i64 i ∧
        tm 7 = .ptr i7 0 ∧ tm 8 = rowsAV (strRows ns) ∧ tm 28 = rowsAV (strRows ns) ∧ tm 29 = .int .i64 ns.length ∧ tm 30 = .int .i64 k ∧ h' i3 = .cells e.cells ∧ h' i7 = .cells x.cells ∧ h' inid = .map (mapAV m') ∧ h' fid = .cells (fltRow g) ∧ NmOK m' (names ++ ns.take k) ∧ KeepsX [inid, fid] h h') ns.length
        ⟨0, m', by simp, by simp [t1], by simp [t2], by simp [t3], by simp [t18], by simp [t19], by simp [t20], by simp, by simp, by simp, by simp, by simp, by simp [n37, hi3], by simp, by simp [n7i, hin], by simp [n7f, hfi], by simpa using hm', hk7 _⟩ ?_
      clear t1 t2 t3 t18 t19 t20 hi3 hin hfi hm' hk hk7 d7
      rintro n' tm h' ⟨k, m1, hkn, t1, t2, t3, t18, t19, t20, t7, t8, t28, t29, t30, hi3, hi7, hin, hfi, hm', hk⟩
      have hw2 : IntKind.i64.wrap ((k : Int) + 1) = ((k + 1 : Nat) : Int) := by rw [wrap_i64] <;> omega
      by_cases hkl : k < ns.length
      · have htk := take_snoc ns hkl
        have hnl := hm'.le ns[k]
        have hwm : IntKind.i64.wrap (getM m1 ns[k] + 1) = getM m1 ns[k] + 1 := by
          have : (names ++ ns.take k).length ≤ 300000 := by simp only [List.length_append, List.length_take]; omega
          rw [wrap_i64] <;> omega
        have hm2 := hm'.inc ns[k]
        rw [List.append_assoc, ← htk] at hm2
        generalize hy : ns[k] = y at *
        simp -dsimp [t1, t28, t29, t30, hkl, strRows, hy, hin, hwm, hw2]
        exact Again.same (n' - 1) (by omega) ⟨k + 1, putM y (getM m1 y + 1) m1, by omega, by simp [t1], by simp [t2], by simp [t3], by simp [t18], by simp [t19], by simp [t20], by simp [t7], by simp [t8, strRows], by simp [t28, strRows], by simp [t29], by simp,
          by simp [n3i', hi3], by simp [n7i', hi7], by simp, by simp [show ¬ fid = inid from fun x => nif x.symm, hfi], hm2, hk.mem (by simp)⟩
      · have htk : ns.take k = ns := List.take_of_length_le (by omega)
        rw [htk] at hm'
        simp -dsimp [t1, t2, t7, t28, t29, t30, hkl, hi7]
        refine ih x (names ++ ns) m1 g _ _ (by omega) (by simp only [List.length_append]; omega) (s.keep hk hin hfi) hm' ?_
        intro m2 hm2
        simp -dsimp [t8]
        have hgg : least g (usesF p (seenS (names ++ ns) x)) = least f1 (usesF p (seenL names e 0 (e.args.take (i + 1)))) := by
          rw [hsn, ← hg]
          simp only [usesF, List.flatMap_append, least_append]
        generalize least g (usesF p (seenS (names ++ ns) x)) = g2 at *
        refine ALoop.start (fun n tm h' => ∃ (k : Nat) (m' : Mp), k + n = ns.length ∧ tm 1 = .mp inid ∧ tm 2 = .fn 128 [.ptr pc 0, .ptr tc 0, .ptr i1 0] ∧ tm 3 = .ptr i3 0 ∧ tm 18 = rowsAV (e.args.map Ex.cells) ∧ tm 19 = .int .i64 e.args.length ∧ tm 20 = .int .i64 i ∧
          tm 43 = rowsAV (strRows ns) ∧ tm 44 = .int .i64 ns.length ∧ tm 45 = .int .i64 k ∧ h' i3 = .cells e.cells ∧ h' inid = .map (mapAV m') ∧ h' fid = .cells (fltRow g2) ∧ NmOK m' (names ++ ns.drop k) ∧ KeepsX [inid, fid] h h') ns.length
          ⟨0, m2, by simp, by simp [t1], by simp [t2], by simp [t3], by simp [t18], by simp [t19], by simp [t20], by simp, by simp, by simp, by simp [n3f', n3i', hi3], by simp [nif], by simp, by simpa using hm2, (hk.mem (by simp)).mem (by simp)⟩ ?_
        clear t1 t2 t3 t18 t19 t20 t7 t8 t28 t29 t30 hi3 hi7 hin hfi hm' hk
        rintro n'' tm h' ⟨k, m3, hkn, t1, t2, t3, t18, t19, t20, t43, t44, t45, hi3, hin, hfi, hm3, hk⟩
        have hw3 : IntKind.i64.wrap ((k : Int) + 1) = ((k + 1 : Nat) : Int) := by rw [wrap_i64] <;> omega
        by_cases hkl : k < ns.length
        · have htk := List.drop_eq_getElem_cons hkl
          rw [htk] at hm3
          have hnl := hm3.le ns[k]
          have hwm : IntKind.i64.wrap (getM m3 ns[k] - 1) = getM m3 ns[k] - 1 := by
            have : (names ++ ns[k] :: ns.drop (k + 1)).length ≤ 300000 := by simp only [List.length_append, List.length_cons, List.length_drop]; omega
            rw [wrap_i64] <;> omega
          have hm4 := hm3.dec
          generalize hy : ns[k] = y at *
          simp -dsimp [t1, t43, t44, t45, hkl, strRows, hy, hin, hwm, hw3]
          exact Again.same (n'' - 1) (by omega) ⟨k + 1, putM y (getM m3 y - 1) m3, by omega, by simp [t1], by simp [t2], by simp [t3], by simp [t18], by simp [t19], by simp [t20], by simp [t43, strRows], by simp [t44], by simp,
            by simp [n3i', hi3], by simp, by simp [show ¬ fid = inid from fun x => nif x.symm, hfi], hm4, hk.mem (by simp)⟩
        · have htk : ns.drop k = [] := List.drop_eq_nil_of_le (by omega)
          rw [htk, List.append_nil] at hm3
          simp -dsimp [t44, t45, hkl, t20, hw1]
          exact Again.same (n - 1) (by omega) ⟨i + 1, m3, by omega, by simp [t1], by simp [t2], by simp [t3], by simp [t18], by simp [t19], by simp, hi3, hin, by rw [← hgg]; exact hfi, hm3, hk⟩
    · have htk : e.args.take i = e.args := List.take_of_length_le (by omega)
      rw [htk] at hfi
      simp -dsimp [t19, t20, hlt]
      refine Gives.sub (hk.sub2 nif hin hfi) ?_
      have := hK m' hm'
      rw [hsE] at this
      simpa only [usesF, List.flatMap_append, least_append, ← hf1] using this
end Go.Proofs.YtghidedifiolbaaGreat

/- The program's names: Check. -/
namespace Go.Proofs.YtghidedifiolbaaGreat
open Go.AM

theorem scheck_ok {p : List Df} {h : Hp} {K : AV → Hp → Prop} (hp : sizeP p ≤ 40000) (hK : K (.agg (fltRow (scheck p))) h) : ACalls Tryz.prog 93 [progAV p] h K := by
  refine calls_of mixed Tryz.func93 comp93 (Nat.le_of_ble_eq_true rfl) ?_
  have hlen := sizeP_len p
  have hsc : scheck p = least (least (0, 0) (dupsL p 0 p)) (insP p p) := by rw [← least_append]; rfl
  simp -dsimp [c93, progAV]
  intro i1 d1
  simp -dsimp
  intro i2 d2
  simp at d2
  obtain ⟨n21, n12, d2⟩ := d2
  simp -dsimp
  intro fid d3
  simp at d3
  obtain ⟨nf2, n2f, nf1, n1f, d3⟩ := d3
  simp -dsimp
  intro tc d4
  simp at d4
  obtain ⟨ntf, nft, nt2, n2t, nt1, n1t, d4⟩ := d4
  simp -dsimp
  intro pid d5
  simp at d5
  obtain ⟨npt, ntp, npf, nfp, np2, n2p, np1, n1p, d5⟩ := d5
  simp -dsimp
  intro pc d6
  simp at d6
  obtain ⟨ncp, npc, nct, ntc, ncf, nfc, nc2, n2c, nc1, n1c, d6⟩ := d6
  have k6 : ∀ o1 o2 o3 o4 o5 o6, Keeps h (hset (hset (hset (hset (hset (hset h i1 o1) i2 o2) fid o3) tc o4) pid o5) pc o6) := fun o1 o2 o3 o4 o5 o6 => ((((((Keeps.refl h).set d1).set d2).set d3).set d4).set d5).set d6
  simp -dsimp [n1c, n1p, n1t, n1f, n12]
  refine ALoop.start (fun n tm h' => ∃ (i : Nat) (m : Mp), i + n = p.length ∧ tm 1 = .ptr i1 0 ∧ tm 2 = .ptr i2 0 ∧ tm 3 = .ptr fid 0 ∧ tm 4 = .ptr tc 0 ∧ tm 5 = .ptr pc 0 ∧ tm 16 = rowsAV (p.map Df.cells) ∧ tm 17 = .int .i64 p.length ∧ tm 18 = .int .i64 i ∧
      h' i1 = .cells [rowsAV (p.map Df.cells)] ∧ h' i2 = .cells [.int .i64 0, .int .i64 0] ∧ h' tc = .cells [.fn 126 [.ptr fid 0]] ∧ h' pc = .cells [.mp pid] ∧ h' pid = .map (mapAV m) ∧ h' fid = .cells (fltRow (least (0, 0) (dupsL p 0 (p.take i)))) ∧ PlOK m (p.take i) ∧ Keeps h h') p.length
    ⟨0, [], by simp, by simp, by simp, by simp, by simp, by simp, by simp, by simp, by simp, by simp [n1c, n1p, n1t, n1f, n12], by simp [n2c, n2p, n2t, n2f], by simp [ntc, ntp], by simp, by simp [npc, mapAV], by simp [nfc, nfp, nft, dupsL, least, fltRow], fun nm => by simp [headsS, getM], k6 _ _ _ _ _ _⟩ ?_
  clear k6
  rintro n tm h' ⟨i, m, hi, t1, t2, t3, t4, t5, t16, t17, t18, hi1, hi2, htc, hpc, hpid, hfid, hpl, hk⟩
  have hw1 : IntKind.i64.wrap ((i : Int) + 1) = ((i + 1 : Nat) : Int) := by rw [wrap_i64] <;> omega
  by_cases hlt : i < p.length
  · have hsn := dupsL_snoc p (p.take i) 0 p[i]
    rw [← take_snoc p hlt] at hsn
    have hmin : min i p.length = i := by omega
    have hd := heads_dup (List.getElem?_eq_getElem hlt)
    simp only [List.length_take, hmin, Nat.zero_add, hd] at hsn
    have hps : ∀ nm, headsS nm (p.take (i + 1)) 0 = if headsS nm (p.take i) 0 < 0 then (if p[i].name = nm then (i : Int) else -1) else headsS nm (p.take i) 0 := by
      intro nm
      rw [take_snoc p hlt, headsS_snoc]
      simp only [List.length_take, hmin, Nat.zero_add]
    have hge := headsS_ge p[i].name (p.take i) 0
    have hpm := hpl p[i].name
    generalize hx : p[i] = f at *
    simp -dsimp [t1, t2, t3, t4, t5, t16, t17, t18, hlt, hx]
    intro i7 d7
    have n17 := cells_ne hi1 d7
    have n27 := cells_ne hi2 d7
    have nt7 := cells_ne htc d7
    have nc7 := cells_ne hpc d7
    have np7 := map_ne hpid d7
    have nf7 := cells_ne hfid d7
    have hk7 := fun o => hk.new (o := o) d7
    have d7' := hk.dead d7
    simp -dsimp [t4, t5, nc7, np7, nt7, hpc, hpid, htc]
    by_cases hdup : 0 ≤ headsS f.name (p.take i) 0
    · have hpos : 0 < getM m f.name := by omega
      simp only [if_pos hdup] at hsn
      simp -dsimp [hpos, t4, htc, nt7]
      refine tell_ok (f := least (0, 0) (dupsL p 0 (p.take i))) (by simp [nf7, hfid]) ?_
      have hnn : PlOK m (p.take (i + 1)) := fun nm => by
        rw [hps nm, hpl nm]
        by_cases hneg : headsS nm (p.take i) 0 < 0
        · have hne : ¬ f.name = nm := by rintro rfl; omega
          rw [if_pos hneg, if_neg hne]
          have := headsS_ge nm (p.take i) 0
          omega
        · rw [if_neg hneg]
      simp -dsimp [t18, hw1]
      exact Again.same (n - 1) (by omega) ⟨i + 1, m, by omega, by simp [t1], by simp [t2], by simp [t3], by simp [t4], by simp [t5], by simp [t16], by simp [t17], by simp, by simp [n17, n1f, hi1], by simp [n27, n2f, hi2], by simp [nt7, ntf, htc], by simp [nc7, ncf, hpc], by simp [np7, npf, hpid],
        by rw [hsn, least_append, least_one]; simp, hnn, (hk7 _).set d3⟩
    · have hpos : ¬ 0 < getM m f.name := by omega
      simp only [if_neg hdup, List.append_nil] at hsn
      have hneg : headsS f.name (p.take i) 0 < 0 := by omega
      have hnn : PlOK (putM f.name ((i + 1 : Nat) : Int) m) (p.take (i + 1)) := fun nm => by
        rw [getM_putM, hps nm, hpl nm]
        by_cases hne : nm = f.name
        · subst hne; simp [hneg]
        · have : ¬ f.name = nm := fun x => hne x.symm
          rw [if_neg hne, if_neg this]
          have := headsS_ge nm (p.take i) 0
          split <;> omega
      simp -dsimp [hpos, t5, t18, hpc, nc7, np7, hpid, hw1]
      exact Again.same (n - 1) (by omega) ⟨i + 1, _, by omega, by simp [t1], by simp [t2], by simp [t3], by simp [t4], by simp [t5], by simp [t16], by simp [t17], by simp, by simp [n17, n1p, hi1], by simp [n27, n2p, hi2], by simp [nt7, ntp, htc], by simp [nc7, ncp, hpc], by simp,
        by rw [hsn]; simp [nfp, nf7, hfid], hnn, (hk7 _).set d5⟩
  · have htk : p.take i = p := List.take_of_length_le (by omega)
    rw [htk] at hfid hpl
    rw [hsc] at hK
    generalize hg0 : least (0, 0) (dupsL p 0 p) = g0 at *
    simp -dsimp [t1, t17, t18, hlt, hi1]
    refine ALoop.start (fun n tm h' => ∃ (i : Nat), i + n = p.length ∧ tm 1 = .ptr i1 0 ∧ tm 2 = .ptr i2 0 ∧ tm 3 = .ptr fid 0 ∧ tm 4 = .ptr tc 0 ∧ tm 5 = .ptr pc 0 ∧ tm 39 = rowsAV (p.map Df.cells) ∧ tm 40 = .int .i64 p.length ∧ tm 41 = .int .i64 i ∧
      h' i1 = .cells [rowsAV (p.map Df.cells)] ∧ h' i2 = .cells [.int .i64 0, .int .i64 0] ∧ h' tc = .cells [.fn 126 [.ptr fid 0]] ∧ h' pc = .cells [.mp pid] ∧ h' pid = .map (mapAV m) ∧ h' fid = .cells (fltRow (least g0 (insP p (p.take i)))) ∧ Keeps h h') p.length
      ⟨0, by simp, by simp [t1], by simp [t2], by simp [t3], by simp [t4], by simp [t5], by simp, by simp, by simp, hi1, hi2, htc, hpc, hpid, by simpa [insP, least] using hfid, hk⟩ ?_
    clear t1 t2 t3 t4 t5 t16 t17 t18 hi1 hi2 htc hpc hpid hfid hk hw1 hlt htk hi
    rintro n1 tm h' ⟨i, hi, t1, t2, t3, t4, t5, t39, t40, t41, hi1, hi2, htc, hpc, hpid, hfid, hk⟩
    have hw1 : IntKind.i64.wrap ((i : Int) + 1) = ((i + 1 : Nat) : Int) := by rw [wrap_i64] <;> omega
    by_cases hlt : i < p.length
    · have hsf : p[i].size ≤ sizeP p := sizeP_mem (List.getElem_mem hlt)
      have hsz : p[i].size = 1 + p[i].params.length + p[i].body.size := rfl
      have hsn := insP_snoc p (p.take i) p[i]
      rw [← take_snoc p hlt] at hsn
      generalize hx : p[i] = f at *
      generalize hg : least g0 (insP p (p.take i)) = g at *
      simp -dsimp [t39, t40, t41, hlt, hx]
      intro i9 d9
      have n19 := cells_ne hi1 d9
      have n29 := cells_ne hi2 d9
      have nt9 := cells_ne htc d9
      have nc9 := cells_ne hpc d9
      have np9 := map_ne hpid d9
      have nf9 := cells_ne hfid d9
      have n9f : ¬ i9 = fid := fun x => nf9 x.symm
      have d9' := hk.dead d9
      simp -dsimp
      intro inid d10
      simp at d10
      obtain ⟨nin9, n9in, d10⟩ := d10
      have n1i := cells_ne hi1 d10
      have n2i := cells_ne hi2 d10
      have nti := cells_ne htc d10
      have nci := cells_ne hpc d10
      have npi := map_ne hpid d10
      have nfi := cells_ne hfid d10
      have nif : ¬ inid = fid := fun x => nfi x.symm
      have d10' := hk.dead d10
      simp -dsimp [n9in]
      refine ALoop.start (fun n tm h' => ∃ (k : Nat) (m1 : Mp), k + n = f.params.length ∧ tm 1 = .ptr i1 0 ∧ tm 2 = .ptr i2 0 ∧ tm 3 = .ptr fid 0 ∧ tm 4 = .ptr tc 0 ∧ tm 5 = .ptr pc 0 ∧ tm 39 = rowsAV (p.map Df.cells) ∧ tm 40 = .int .i64 p.length ∧ tm 41 = .int .i64 i ∧
        tm 9 = .ptr i9 0 ∧ tm 10 = .mp inid ∧ tm 47 = rowsAV (f.params.map Pm.cells) ∧ tm 48 = .int .i64 f.params.length ∧ tm 49 = .int .i64 k ∧ h' i9 = .cells f.cells ∧
        h' i1 = .cells [rowsAV (p.map Df.cells)] ∧ h' i2 = .cells [.int .i64 0, .int .i64 0] ∧ h' tc = .cells [.fn 126 [.ptr fid 0]] ∧ h' pc = .cells [.mp pid] ∧ h' pid = .map (mapAV m) ∧ h' fid = .cells (fltRow (least g (parF [] (f.params.take k)))) ∧ h' inid = .map (mapAV m1) ∧ NmOK m1 (pnames (f.params.take k)) ∧ Keeps h h') f.params.length
        ⟨0, [], by simp, by simp [t1], by simp [t2], by simp [t3], by simp [t4], by simp [t5], by simp [t39], by simp [t40], by simp [t41], by simp, by simp, by simp, by simp, by simp, by simp [n9in], by simp [n19, n1i, hi1], by simp [n29, n2i, hi2], by simp [nt9, nti, htc], by simp [nc9, nci, hpc], by simp [np9, npi, hpid], by simp [nf9, nfi, hfid, parF, least], by simp [mapAV],
          by simpa [pnames] using NmOK.nil, (hk.new d9).set d10'⟩ ?_
      clear t1 t2 t3 t4 t5 t39 t40 t41 hi1 hi2 htc hpc hpid hfid hk
      rintro n2 tm h' ⟨k, m1, hkn, t1, t2, t3, t4, t5, t39, t40, t41, t9, t10, t47, t48, t49, hi9, hi1, hi2, htc, hpc, hpid, hfid, hin, hm1, hk⟩
      have hw2 : IntKind.i64.wrap ((k : Int) + 1) = ((k + 1 : Nat) : Int) := by rw [wrap_i64] <;> omega
      by_cases hkl : k < f.params.length
      · have hpn : pnames (f.params.take (k + 1)) = pnames (f.params.take k) ++ [f.params[k].name] := by rw [take_snoc f.params hkl]; simp only [pnames, List.map_append]; rfl
        have hps := parF_snoc (f.params.take k) [] f.params[k]
        rw [← take_snoc f.params hkl, List.nil_append] at hps
        have hpnl : (pnames (f.params.take k)).length = k := by simp [pnames]; omega
        have hz := hm1.zero f.params[k].name
        have hle := hm1.le f.params[k].name
        have hwm : IntKind.i64.wrap (getM m1 f.params[k].name + 1) = getM m1 f.params[k].name + 1 := by rw [wrap_i64] <;> omega
        have hinc := hm1.inc f.params[k].name
        rw [← hpn] at hinc
        generalize hy : f.params[k] = y at *
        generalize hq : least g (parF [] (f.params.take k)) = q at *
        simp -dsimp [t47, t48, t49, hkl, hy]
        intro i12 d12
        have m1i := cells_ne hi1 d12
        have m2i := cells_ne hi2 d12
        have mti := cells_ne htc d12
        have mci := cells_ne hpc d12
        have mpi := map_ne hpid d12
        have mfi := cells_ne hfid d12
        have mni := map_ne hin d12
        have m9i := cells_ne hi9 d12
        have n12f : ¬ i12 = fid := fun x => mfi x.symm
        have hk12 := fun o => hk.new (o := o) d12
        by_cases hmem : y.name ∈ pnames (f.params.take k)
        · have hg1 : 0 < getM m1 y.name := by
            have : ¬ getM m1 y.name = 0 := fun x => hz.1 x hmem
            omega
          simp only [if_pos hmem] at hps
          simp -dsimp [t4, t10, hin, htc, mni, mti, hg1]
          refine tell_ok (f := q) (by simp [mfi, hfid]) ?_
          simp -dsimp [t10, hin, mni, nif, n12f, hwm, t49, hw2]
          refine Again.same (n2 - 1) (by omega) ⟨k + 1, _, by omega, by simp [t1], by simp [t2], by simp [t3], by simp [t4], by simp [t5], by simp [t39], by simp [t40], by simp [t41], by simp [t9], by simp [t10], by simp [t47], by simp [t48], by simp, by simp [m9i, n9f, n9in, hi9], by simp [m1i, n1f, n1i, hi1], by simp [m2i, n2f, n2i, hi2], by simp [mti, ntf, nti, htc], by simp [mci, ncf, nci, hpc], by simp [mpi, npf, npi, hpid],
            by rw [hps, least_append, least_one, hq]; simp [nfi], by simp, hinc, ((hk12 _).set d3).set d10'⟩
        · have hg1 : ¬ 0 < getM m1 y.name := by
            have := hz.2 hmem
            omega
          simp only [if_neg hmem, List.append_nil] at hps
          simp -dsimp [t4, t10, hin, htc, mni, mti, hg1, nif, hwm, t49, hw2]
          refine Again.same (n2 - 1) (by omega) ⟨k + 1, _, by omega, by simp [t1], by simp [t2], by simp [t3], by simp [t4], by simp [t5], by simp [t39], by simp [t40], by simp [t41], by simp [t9], by simp [t10], by simp [t47], by simp [t48], by simp, by simp [m9i, n9f, n9in, hi9], by simp [m1i, n1f, n1i, hi1], by simp [m2i, n2f, n2i, hi2], by simp [mti, ntf, nti, htc], by simp [mci, ncf, nci, hpc], by simp [mpi, npf, npi, hpid],
            by rw [hps, hq]; simp [nfi, mfi, hfid], by simp, hinc, (hk12 _).set d10'⟩
      · have htk : f.params.take k = f.params := List.take_of_length_le (by omega)
        rw [htk] at hfid hm1
        have hpnl : (pnames f.params).length = f.params.length := by simp [pnames]
        simp -dsimp [t1, t4, t5, t9, t10, t48, t49, hkl, hi9]
        refine walk_ok (p := p) (by omega) hpl _ f.body (pnames f.params) m1 _ _ _ (Nat.le_refl _) (by omega) ⟨hpc, hpid, htc, hi1, hin, hfid, npi, ncf, ntf, n1f⟩ hm1 ?_
        intro m2 _
        simp -dsimp [t41, hw1]
        refine Again.same (n1 - 1) (by omega) ⟨i + 1, by omega, by simp [t1], by simp [t2], by simp [t3], by simp [t4], by simp [t5], by simp [t39], by simp [t40], by simp, by simp [n1f, n1i, hi1], by simp [n2f, n2i, hi2], by simp [ntf, nti, htc], by simp [ncf, nci, hpc], by simp [npf, npi, hpid],
          ?_, (hk.set d10').set d3⟩
        rw [hsn, least_append, hg]
        simp [insF, least_append]
    · have htk : p.take i = p := List.take_of_length_le (by omega)
      rw [htk] at hfid
      simp -dsimp [t2, t3, t40, t41, hlt, hfid, hi2, fltRow]
      exact Gives.sub (hk.set d2).sub hK
end Go.Proofs.YtghidedifiolbaaGreat
