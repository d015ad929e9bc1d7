/- The document's answer for types: heads, names with types, an expression's own type. -/
import Derived.Test.YtcpkdbofohkipaaGreatKc
import Derived.Test.YtcpkdbofohkipaaGreatKScD
set_option linter.unusedVariables false
set_option linter.unusedSimpArgs false
namespace Go.Proofs.YtcpkdbofohkipaaGreat
open Go.AM
variable {h : Hp} {K : AV → Hp → Prop}

theorem head_ok {p : List Df} {nm : Bytes} (hl : p.length ≤ 1000000) (hK : K (.tup [.agg ((headD nm p).getD df0).cells, .bool (headD nm p).isSome]) h) : ACalls Tryz.prog 101 [progAV p, .str nm] h K := by
  refine calls_of mixed Tryz.func101 comp101 (Nat.le_of_ble_eq_true rfl) ?_
  simp -dsimp [c101, progAV]
  intro i2 d2
  simp -dsimp
  intro i4 d4
  have n24 := hset_ne d4
  have n42 : ¬ i4 = i2 := fun x => n24 x.symm
  have d4' : h i4 = .dead := ((Keeps.refl h).new d2).dead d4
  simp -dsimp
  refine ALoop.start (fun n tm h' => ∃ i : Nat, i + n = p.length ∧ tm 1 = .str nm ∧ tm 2 = .ptr i2 0 ∧ tm 4 = .ptr i4 0 ∧ tm 6 = .int .i64 i ∧ headD nm (p.drop i) = headD nm p ∧ h' = hset (hset h i2 (.cells [rowsAV (p.map Df.cells)])) i4 (.cells df0.cells)) p.length ⟨0, by simp, by simp, by simp, by simp, by simp, by simp, rfl⟩ ?_
  rintro n tm h' ⟨i, hi, t1, t2, t4, t6, hq, rfl⟩
  have hw1 : IntKind.i64.wrap ((i : Int) + 1) = ((i + 1 : Nat) : Int) := by rw [wrap_i64] <;> omega
  have hsub : ∀ o : AObj, Sub h (hset (hset h i2 (.cells [rowsAV (p.map Df.cells)])) i4 o) := fun o => (((Keeps.refl h).new d2).set d4').sub
  have hd0 : df0.cells.length = 11 := by simp
  by_cases hlt : i < p.length
  · rw [List.drop_eq_getElem_cons hlt] at hq
    simp only [headD] at hq
    generalize hf : p[i] = f at *
    by_cases he : f.name = nm
    · rw [if_pos he] at hq
      rw [← hq] at hK
      simp -dsimp [t1, t2, t4, t6, hlt, hf, he, n24, n42]
      exact Gives.sub (hsub _) hK
    · rw [if_neg he] at hq
      simp -dsimp [t1, t2, t4, t6, hlt, hf, he, n24, n42, hw1]
      exact Again.same (n - 1) (by omega) ⟨i + 1, by omega, by simp [t1], by simp [t2], by simp [t4], by simp, hq, rfl⟩
  · have hnil : p.drop i = [] := List.drop_eq_nil_of_le (by omega)
    rw [hnil] at hq
    rw [← hq] at hK
    simp -dsimp [t1, t2, t4, t6, hlt, n24, n42, df0, Df.cells, Ex.cells, ex0, rowsAV_nil, Ex.rows]
    exact Gives.sub (hsub _) hK

theorem with7_ok {env : List Pm} {nm : Bytes} {t : Int} (hl : env.length ≤ 900000) (hK : K (pmRows (env ++ [⟨nm, t, 0⟩])) h) : ACalls Tryz.prog 102 [pmRows env, .str nm, .int .i64 t] h K := by
  refine calls_of mixed Tryz.func102 comp102 (Nat.le_of_ble_eq_true rfl) ?_
  simp -dsimp [c102, pmRows]
  refine Own.pushE (h := h) (rows := []) (.inl ⟨rfl, rfl⟩) (Keeps.refl h) (by simp; omega) (by decide) fun v1 h1 ho1 hf1 _ => ?_
  simp -dsimp
  intro i2 d2
  simp -dsimp
  refine Own.pushE (h := h) (ho1.new d2) (hf1.new d2) (by simp; omega) (by decide) fun v2 h2 ho2 hf2 _ => ?_
  simp -dsimp
  refine ho2.out hf2 ?_
  simpa [pmRows, Pm.cells] using hK

theorem within_ok {env : List Pm} {e : Ex} {i : Nat} (hl : env.length ≤ 800000) (hK : K (pmRows (withinS env e i)) h) : ACalls Tryz.prog 67 [pmRows env, .agg e.cells, .int .i64 i] h K := by
  refine calls_of mixed Tryz.func67 comp67 (Nat.le_of_ble_eq_true rfl) ?_
  simp -dsimp [c67]
  intro i2 d2
  have hf : Keeps h (hset h i2 (.cells e.cells)) := (Keeps.refl h).new d2
  simp only [withinS] at hK
  by_cases h21 : e.op = 21
  · simp -dsimp [h21]
    refine with7_ok (by omega) ?_
    simp -dsimp
    exact Gives.sub hf.sub (by simpa [h21] using hK)
  by_cases h22 : e.op = 22 ∧ i = 1
  · obtain ⟨a1, a2⟩ := h22
    simp -dsimp [a1, a2]
    refine with7_ok (by omega) ?_
    simp -dsimp
    exact Gives.sub hf.sub (by simpa [a1, a2] using hK)
  have hnn : ¬ (e.op = 21 ∨ e.op = 22 ∧ i = 1) := fun x => x.elim h21 h22
  simp only [hnn, if_false] at hK
  by_cases o20 : e.op = 20 ∧ i = 2
  · obtain ⟨a1, a2⟩ := o20
    simp only [a1, a2, and_self, if_true] at hK
    simp -dsimp [a1, a2]
    refine with7_ok (by omega) ?_
    simp -dsimp
    refine with7_ok (by simp; omega) ?_
    simp -dsimp
    exact Gives.sub hf.sub (by simpa using hK)
  · rw [if_neg o20] at hK
    by_cases o22 : e.op = 22
    · have i1 : ¬ i = 1 := fun x => h22 ⟨o22, x⟩
      have i1' : ¬ (i : Int) = 1 := by omega
      simp -dsimp [o22, i1, i1']
      exact Gives.sub hf.sub hK
    · by_cases q20 : e.op = 20
      · have i2' : ¬ i = 2 := fun x => o20 ⟨q20, x⟩
        have i2'' : ¬ (i : Int) = 2 := by omega
        simp -dsimp [q20, i2', i2'']
        exact Gives.sub hf.sub hK
      · simp -dsimp [h21, o22, q20]
        exact Gives.sub hf.sub hK

theorem own_ok {p : List Df} {env : List Pm} {e : Ex} (hp : p.length ≤ 1000000) (hl : env.length ≤ 800000) (hK : K (.tup [.int .i64 (ownS p env e).1, .bool (ownS p env e).2]) h) : ACalls Tryz.prog 66 [progAV p, pmRows env, .agg e.cells] h K := by
  refine calls_of mixed Tryz.func66 comp66 (Nat.le_of_ble_eq_true rfl) ?_
  simp -dsimp [c66, progAV]
  intro i3 d3
  simp -dsimp
  intro i5 d5
  have n35 := hset_ne d5
  have n53 : ¬ i5 = i3 := fun x => n35 x.symm
  have hf : Keeps h (hset (hset h i3 (.cells [rowsAV (p.map Df.cells)])) i5 (.cells e.cells)) := ((Keeps.refl h).new d3).new d5
  by_cases hN : e.op = 1 ∨ e.op = 8 ∨ e.op = 9 ∨ e.op = 10 ∨ e.op = 11 ∨ e.op = 15 ∨ e.op = 16 ∨ e.op = 17
  · have hK' := hK
    simp only [ownS, if_pos hN] at hK'
    rcases hN with o | o | o | o | o | o | o | o
    all_goals
      simp -dsimp [o]
      exact Gives.sub hf.sub hK'
  by_cases hB : e.op = 2 ∨ e.op = 3 ∨ e.op = 12 ∨ e.op = 13 ∨ e.op = 14
  · have hK' := hK
    simp only [ownS, if_neg hN, if_pos hB] at hK'
    rcases hB with o | o | o | o | o
    all_goals
      simp -dsimp [o]
      exact Gives.sub hf.sub hK'
  by_cases hL : e.op = 4 ∨ e.op = 18
  · have hK' := hK
    simp only [ownS, if_neg hN, if_neg hB, if_pos hL] at hK'
    rcases hL with o | o
    all_goals
      simp -dsimp [o]
      exact Gives.sub hf.sub hK'
  simp only [ownS, if_neg hN, if_neg hB, if_neg hL] at hK
  simp only [not_or] at hN hB hL
  obtain ⟨o1, o8, o9, o10, o11, o15, o16, o17⟩ := hN
  obtain ⟨o2, o3, o12, o13, o14⟩ := hB
  obtain ⟨o4, o18⟩ := hL
  by_cases o5 : e.op = 5
  · simp only [o5, if_true] at hK
    simp -dsimp [o5]
    exact Gives.sub hf.sub hK
  rw [if_neg o5] at hK
  by_cases o6 : e.op = 6
  · rw [if_pos o6] at hK
    have hw0 : IntKind.i64.wrap ((env.length : Int) - 1) = (env.length : Int) - 1 := by rw [wrap_i64] <;> omega
    simp -dsimp [o6, pmRows, hw0]
    refine ALoop.start (fun n tm h' => n ≤ env.length ∧ tm 1 = pmRows env ∧ tm 5 = .ptr i5 0 ∧ tm 8 = .int .i64 ((n : Int) - 1) ∧ lastT e.name (env.take n) = lastT e.name env ∧ h' = hset (hset h i3 (.cells [rowsAV (p.map Df.cells)])) i5 (.cells e.cells)) env.length ⟨by simp, by simp [pmRows], by simp, by simp, by simp, rfl⟩ ?_
    rintro n tm h' ⟨hn, t1, t5, t8, hq, rfl⟩
    cases n with
    | zero =>
      simp [lastT] at hq
      rw [← hq] at hK
      simp -dsimp [t1, t5, t8]
      exact Gives.sub hf.sub hK
    | succ n =>
      have hlt : n < env.length := by omega
      rw [take_snoc env hlt, lastT_snoc] at hq
      generalize hx : env[n] = x at *
      have e1 : ((n + 1 : Nat) : Int) - 1 = n := by omega
      have hw1 : IntKind.i64.wrap ((n : Int) - 1) = (n : Int) - 1 := by rw [wrap_i64] <;> omega
      have hge : ¬ ((n : Int) < 0) := by omega
      rw [e1] at t8
      by_cases hnm : x.name = e.name
      · rw [if_pos hnm] at hq
        rw [← hq] at hK
        simp -dsimp [t1, t5, t8, pmRows, hlt, hx, hnm]
        exact Gives.sub hf.sub hK
      · rw [if_neg hnm] at hq
        simp -dsimp [t1, t5, t8, pmRows, hlt, hx, hnm, hw1]
        exact Again.same n (by omega) ⟨by omega, by simp [t1, pmRows], by simp [t5], by simp, hq, rfl⟩
  rw [if_neg o6] at hK
  by_cases o7 : e.op = 7
  · rw [if_pos o7] at hK
    simp -dsimp [o7, n35]
    refine head_ok (p := p) (by omega) ?_
    have hfl : ((headD e.name p).getD df0).cells.length = 11 := by simp
    cases hd : headD e.name p with
    | none =>
      rw [hd] at hK
      simp -dsimp
      intro i9 d9
      simp -dsimp
      exact Gives.sub (hf.new d9).sub hK
    | some f =>
      rw [hd] at hK
      simp -dsimp
      intro i9 d9
      have n59 : ¬ i5 = i9 := cells_ne (cs := e.cells) (by simp) d9
      have d9' := hf.dead d9
      simp -dsimp [n59]
      by_cases hc : f.params.length = e.args.length
      · simp only [ne_eq, hc, not_true_eq_false, if_false] at hK
        simp -dsimp [hc]
        exact Gives.sub (hf.new d9).sub hK
      · simp only [ne_eq, hc, not_false_eq_true, if_true] at hK
        have hc' : ¬ (f.params.length : Int) = e.args.length := by omega
        simp -dsimp [hc, hc']
        exact Gives.sub (hf.new d9).sub hK
  rw [if_neg o7] at hK
  simp -dsimp [o1, o2, o3, o4, o5, o6, o7, o8, o9, o10, o11, o12, o13, o14, o15, o16, o17, o18]
  exact Gives.sub hf.sub hK

theorem wanted_ok {p : List Df} {e : Ex} {i : Nat} {t : Int} (hp : p.length ≤ 1000000) (hK : K (.int .i64 (wantedS p e i t)) h) : ACalls Tryz.prog 68 [progAV p, .agg e.cells, .int .i64 i, .int .i64 t] h K := by
  refine calls_of mixed Tryz.func68 comp68 (Nat.le_of_ble_eq_true rfl) ?_
  simp -dsimp [c68, progAV]
  intro i4 d4
  simp -dsimp
  intro i5 d5
  have n45 := hset_ne d5
  have hf : Keeps h (hset (hset h i4 (.cells [rowsAV (p.map Df.cells)])) i5 (.cells e.cells)) := ((Keeps.refl h).new d4).new d5
  simp only [wantedS] at hK
  by_cases o14 : e.op = 14
  · rw [if_pos o14] at hK
    simp -dsimp [o14]
    exact Gives.sub hf.sub hK
  rw [if_neg o14] at hK
  by_cases o18 : e.op = 18
  · rw [if_pos o18] at hK
    by_cases hi : i = 1
    · simp only [hi, if_true] at hK
      simp -dsimp [o18, hi]
      exact Gives.sub hf.sub hK
    · have hi' : ¬ (i : Int) = 1 := by omega
      simp only [hi, if_false] at hK
      simp -dsimp [o18, hi, hi']
      exact Gives.sub hf.sub hK
  rw [if_neg o18] at hK
  by_cases o7 : e.op = 7
  · rw [if_pos o7] at hK
    simp -dsimp [o7, n45]
    refine head_ok (p := p) (by omega) ?_
    cases hd : headD e.name p with
    | none =>
      rw [hd] at hK
      simp -dsimp
      intro i9 d9
      simp -dsimp
      exact Gives.sub (hf.new d9).sub hK
    | some f =>
      rw [hd] at hK
      simp -dsimp
      intro i9 d9
      have d9' := hf.dead d9
      simp -dsimp
      by_cases hc : i < f.params.length
      · simp only [List.getElem?_eq_getElem hc] at hK
        simp -dsimp [hc]
        exact Gives.sub (hf.new d9).sub hK
      · simp only [List.getElem?_eq_none (Nat.le_of_not_lt hc)] at hK
        simp -dsimp [hc]
        exact Gives.sub (hf.new d9).sub hK
  rw [if_neg o7] at hK
  by_cases o19 : e.op = 19
  · rw [if_pos o19] at hK
    by_cases hi : i = 0
    · simp only [hi, if_true] at hK
      simp -dsimp [o19, hi]
      exact Gives.sub hf.sub hK
    · have hi' : ¬ (i : Int) = 0 := by omega
      simp only [hi, if_false] at hK
      simp -dsimp [o19, hi, hi']
      exact Gives.sub hf.sub hK
  rw [if_neg o19] at hK
  by_cases o20 : e.op = 20
  · rw [if_pos o20] at hK
    by_cases hi : i = 0
    · simp only [hi, if_true] at hK
      simp -dsimp [o20, hi]
      exact Gives.sub hf.sub hK
    · have hi' : ¬ (i : Int) = 0 := by omega
      simp only [hi, if_false] at hK
      simp -dsimp [o20, hi, hi']
      exact Gives.sub hf.sub hK
  rw [if_neg o20] at hK
  by_cases o21 : e.op = 21 ∨ e.op = 22
  · rw [if_pos o21] at hK
    rcases o21 with o | o
    all_goals
      by_cases hi : i = 0
      · simp only [hi, if_true] at hK
        simp -dsimp [o, hi]
        exact Gives.sub hf.sub hK
      · have hi' : ¬ (i : Int) = 0 := by omega
        simp only [hi, if_false] at hK
        simp -dsimp [o, hi, hi']
        exact Gives.sub hf.sub hK
  rw [if_neg o21] at hK
  simp only [not_or] at o21
  simp -dsimp [o7, o14, o18, o19, o20, o21]
  exact Gives.sub hf.sub hK
end Go.Proofs.YtcpkdbofohkipaaGreat

/- The document's answer for types: what is wrong, Check. -/
namespace Go.Proofs.YtcpkdbofohkipaaGreat
open Go.AM

theorem wrong_ok {p : List Df} (hp : p.length ≤ 1000000) : ∀ (n : Nat) (e : Ex) (env : List Pm) (t : Int) (h : Hp) (K : AV → Hp → Prop), e.size ≤ n → env.length + 2 * e.size ≤ 200000 → K (rowsAV (intRows (wrongS p env t e))) h → ACalls Tryz.prog 35 [progAV p, pmRows env, .agg e.cells, .int .i64 t] h K := by
  intro n
  induction n with
  | zero => intro e env t h K hn; have := e.size_pos; omega
  | succ n0 ih =>
    intro e env t h K hn hnm hK
    refine calls_of mixed Tryz.func35 comp35 (Nat.le_of_ble_eq_true rfl) ?_
    have hsa := e.size_args
    have hla := Ex.sizeL_len e.args
    have hwl := ownW_length p env e t
    have hwL := wrongL_length p e.args env e t 0
    simp -dsimp [c35, progAV]
    intro i4 d4
    simp -dsimp
    intro i6 d6
    have n46 := hset_ne d6
    have hf0 : Keeps h (hset (hset h i4 (.cells [rowsAV (p.map Df.cells)])) i6 (.cells e.cells)) := ((Keeps.refl h).new d4).new d6
    simp -dsimp [n46]
    refine own_ok (p := p) hp (by omega) ?_
    have hoW : ownW p env e t = if (ownS p env e).2 = true ∧ (ownS p env e).1 ≠ t then [e.pos] else [] := rfl
    generalize ownS p env e = o at *
    obtain ⟨o1, o2⟩ := o
    simp -dsimp
    have body : ∀ (tm : Tm) (h' : Hp), (tm 1 = pmRows env ∧ tm 3 = .int .i64 t ∧ tm 4 = .ptr i4 0 ∧ tm 6 = .ptr i6 0 ∧ h' i4 = .cells [rowsAV (p.map Df.cells)] ∧ h' i6 = .cells e.cells ∧ Keeps h h' ∧ Own h h' 3 1 (tm 9) (intRows (ownW p env e t))) →
        AW Tryz.prog (match c35.code with | .seq _ (.seq _ (.seq _ (.seq _ x))) => x | _ => .skip) (fun e tm h' => match e with | .exit _ => False | _ => Gives K (some (tm 8)) h') tm h' := by
      clear n46 hf0 d4 d6
      rintro tm h' ⟨t1, t3, t4, t6, hi4, hi6, hf, ho⟩
      simp -dsimp [c35]
      refine ALoop.start (fun n tm h' => ∃ i : Nat, i + n = e.args.length ∧ tm 1 = pmRows env ∧ tm 3 = .int .i64 t ∧ tm 4 = .ptr i4 0 ∧ tm 6 = .ptr i6 0 ∧ tm 12 = .int .i64 i ∧ h' i4 = .cells [rowsAV (p.map Df.cells)] ∧ h' i6 = .cells e.cells ∧ Keeps h h' ∧
        Own h h' 3 1 (tm 9) (intRows (ownW p env e t ++ wrongL p env e t 0 (e.args.take i)))) e.args.length ⟨0, by simp, by simp [t1], by simp [t3], by simp [t4], by simp [t6], by simp, hi4, hi6, hf, by simpa [wrongL] using ho⟩ ?_
      clear t1 t3 t4 t6 hi4 hi6 hf ho
      rintro n tm h' ⟨i, hi, t1, t3, t4, t6, t12, hi4, hi6, hf, ho⟩
      have hw1 : IntKind.i64.wrap ((i : Int) + 1) = ((i + 1 : Nat) : Int) := by rw [wrap_i64] <;> omega
      by_cases hlt : i < e.args.length
      · have hmem : e.args[i].size ≤ Ex.sizeL e.args := Ex.size_mem (List.getElem_mem hlt)
        have hsn := wrongL_snoc p env e t (e.args.take i) 0 e.args[i]
        rw [← take_snoc e.args hlt] at hsn
        have hmin : min i e.args.length = i := by omega
        simp only [List.length_take, hmin, Nat.zero_add] at hsn
        have hsl := wrongL_length p (e.args.take (i + 1)) env e t 0
        have htl : Ex.sizeL (e.args.take (i + 1)) ≤ Ex.sizeL e.args := by
          have := Ex.sizeL_append (e.args.take (i + 1)) (e.args.drop (i + 1))
          rw [List.take_append_drop] at this; omega
        have hwi := withinS_length env e i
        generalize hx : e.args[i] = x at *
        simp -dsimp [t1, t3, t4, t6, t12, hi4, hi6, hlt, hx]
        refine within_ok (by omega) ?_
        simp -dsimp [Stable, AIns.wants, QStep, t1, t3, t4, t6, t12, hi4, hi6, hlt, hx]
        refine wanted_ok (p := p) hp ?_
        simp -dsimp [Stable, AIns.wants, QStep, t1, t3, t4, t6, t12, hi4, hi6, hlt, hx]
        refine ih x _ _ _ _ (by omega) (by omega) ?_
        have hlen := congrArg List.length hsn
        simp only [List.length_append] at hlen
        simp -dsimp
        refine ho.pushE hf (by simp only [intRows_length, List.length_append]; omega) (by decide) fun v' h2 ho2 hf2 hk2 => ?_
        simp -dsimp [t12, hw1]
        refine Again.same (n - 1) (by omega) ⟨i + 1, by omega, by simp [t1], by simp [t3], by simp [t4], by simp [t6], by simp, hk2.cells hi4, hk2.cells hi6, hf2, ?_⟩
        rw [hsn]
        simpa [intRows_append] using ho2
      · have htk : e.args.take i = e.args := List.take_of_length_le (by omega)
        rw [htk] at ho
        simp -dsimp [t1, t6, t12, hi6, hlt]
        refine ho.out hf ?_
        rw [← wrongS_eq]
        exact hK
    simp only [c35] at body
    cases o2 with
    | false =>
      simp -dsimp
      have := body
      refine body _ _ ⟨by simp, by simp, by simp, by simp, by simp [n46], by simp, hf0, ?_⟩
      rw [hoW]
      exact .inl ⟨by simp [intRows], by simp⟩
    | true =>
      by_cases hc : o1 = t
      · simp -dsimp [hc]
        refine body _ _ ⟨by simp, by simp, by simp, by simp, by simp [n46], by simp, hf0, ?_⟩
        rw [hoW]
        exact .inl ⟨by simp [intRows, hc], by simp⟩
      · simp -dsimp [hc]
        intro i7 d7
        have e7 := d7
        simp at d7
        simp -dsimp
        intro i8 d8
        have e8 := d8
        simp [d7] at d8
        refine body _ _ ⟨by simp, by simp, by simp, by simp, by simp [n46, d7, d8], by simp [d7, d8], (hf0.new e7).new e8, ?_⟩
        rw [hoW]
        exact .inr ⟨i8, by simp [intRows, hc], by simp [d8], by simp [intRows, hc], by simp [intRows, hc]⟩

theorem tell_snoc (l : List Int) (x : Int) (f : Flt) : (l ++ [x]).foldl tell7 f = tell7 (l.foldl tell7 f) x := by simp only [List.foldl_append, List.foldl_cons, List.foldl_nil]
theorem check07_ok {p : List Df} {h : Hp} {K : AV → Hp → Prop} (hp : sizeP p ≤ 40000) (hK : K (.agg (fltRow (check07 p))) h) : ACalls Tryz.prog 16 [progAV p] h K := by
  refine calls_of mixed Tryz.func16 comp16 (Nat.le_of_ble_eq_true rfl) ?_
  have hlen := sizeP_len p
  have hq : check07 p = if (check06 p).1 ≠ 0 then check06 p else (wrongP p p).foldl tell7 (check06 p) := rfl
  simp -dsimp [c16, progAV]
  intro i1 d1
  simp -dsimp
  intro i2 d2
  simp at d2
  obtain ⟨n21, n12, d2⟩ := d2
  simp -dsimp [n12]
  refine check06_ok (p := p) hp ?_
  generalize check06 p = c0 at *
  simp -dsimp
  intro i3 d3
  simp at d3
  obtain ⟨n32, n23, n31, n13, d3⟩ := d3
  have k3 : ∀ o1 o2 o3, Keeps h (hset (hset (hset h i1 o1) i2 o2) i3 o3) := fun o1 o2 o3 => (((Keeps.refl h).set d1).set d2).set d3
  simp -dsimp [fltRow]
  by_cases hc : c0.1 = 0
  · simp only [ne_eq, hc, not_true_eq_false, if_false] at hq
    rw [hq] at hK
    simp -dsimp [hc, fltRow, n23, n32]
    refine ALoop.start (fun n tm h' => ∃ i : Nat, i + n = p.length ∧ tm 1 = .ptr i1 0 ∧ tm 2 = .ptr i2 0 ∧ tm 3 = .ptr i3 0 ∧ tm 4 = .int .i64 i ∧ h' i1 = .cells [rowsAV (p.map Df.cells)] ∧ h' i2 = .cells [.int .i64 0, .int .i64 0] ∧ h' i3 = .cells (fltRow ((wrongP p (p.take i)).foldl tell7 c0)) ∧ Keeps h h') p.length
      ⟨0, by simp, by simp, by simp, by simp, by simp, by simp [n12, n13], by simp [n23], by simp [wrongP, fltRow, hc], k3 _ _ _⟩ ?_
    clear k3
    rintro n tm h' ⟨i, hi, t1, t2, t3, t4, hi1, hi2, hi3, hf⟩
    have hw1 : IntKind.i64.wrap ((i : Int) + 1) = ((i + 1 : Nat) : Int) := by rw [wrap_i64] <;> omega
    by_cases hlt : i < p.length
    · have hsf : p[i].size ≤ sizeP p := sizeP_mem (List.getElem_mem hlt)
      have hsz : p[i].size = 1 + p[i].params.length + p[i].body.size := rfl
      have hsn := wrongP_snoc p (p.take i) p[i]
      rw [← take_snoc p hlt] at hsn
      have hwl := wrongS_length p p[i].body p[i].params p[i].ty
      generalize hx : p[i] = f at *
      simp -dsimp [t1, t2, t3, t4, hi1, hlt, hx]
      refine wrong_ok (p := p) (by omega) _ f.body f.params f.ty _ _ (Nat.le_refl _) (by omega) ?_
      generalize hL : wrongS p f.params f.ty f.body = L at *
      generalize hz : (wrongP p (p.take i)).foldl tell7 c0 = z at *
      simp -dsimp
      refine ALoop.start (fun n tm h' => ∃ k : Nat, k + n = L.length ∧ tm 1 = .ptr i1 0 ∧ tm 2 = .ptr i2 0 ∧ tm 3 = .ptr i3 0 ∧ tm 4 = .int .i64 i ∧ tm 5 = rowsAV (intRows L) ∧ tm 6 = .int .i64 k ∧ h' i1 = .cells [rowsAV (p.map Df.cells)] ∧ h' i2 = .cells [.int .i64 0, .int .i64 0] ∧ h' i3 = .cells (fltRow ((L.take k).foldl tell7 z)) ∧ Keeps h h') L.length
        ⟨0, by simp, by simp [t1], by simp [t2], by simp [t3], by simp [t4], by simp, by simp, hi1, hi2, by simpa using hi3, hf⟩ ?_
      clear t1 t2 t3 t4 hi1 hi2 hi3 hf
      rintro n' tm h' ⟨k, hk, t1, t2, t3, t4, t5, t6, hi1, hi2, hi3, hf⟩
      have hw2 : IntKind.i64.wrap ((k : Int) + 1) = ((k + 1 : Nat) : Int) := by rw [wrap_i64] <;> omega
      by_cases hkl : k < L.length
      · have hts := tell_snoc (L.take k) L[k] z
        rw [← take_snoc L hkl] at hts
        generalize hy : L[k] = y at *
        generalize hu : (L.take k).foldl tell7 z = u at *
        have again : ∀ (tm : Tm) (h' : Hp), tm 1 = .ptr i1 0 → tm 2 = .ptr i2 0 → tm 3 = .ptr i3 0 → tm 4 = .int .i64 i → tm 5 = rowsAV (intRows L) → tm 6 = .int .i64 ((k + 1 : Nat) : Int) → h' i1 = .cells [rowsAV (p.map Df.cells)] → h' i2 = .cells [.int .i64 0, .int .i64 0] → h' i3 = .cells (fltRow (tell7 u y)) → Keeps h h' →
          ∃ k : Nat, k + (n' - 1) = L.length ∧ tm 1 = .ptr i1 0 ∧ tm 2 = .ptr i2 0 ∧ tm 3 = .ptr i3 0 ∧ tm 4 = .int .i64 i ∧ tm 5 = rowsAV (intRows L) ∧ tm 6 = .int .i64 k ∧ h' i1 = .cells [rowsAV (p.map Df.cells)] ∧ h' i2 = .cells [.int .i64 0, .int .i64 0] ∧ h' i3 = .cells (fltRow ((L.take k).foldl tell7 z)) ∧ Keeps h h' :=
          fun tm h' a1 a2 a3 a4 a5 a6 a7 a8 a9 a10 => ⟨k + 1, by omega, a1, a2, a3, a4, a5, a6, a7, a8, by rw [hts]; exact a9, a10⟩
        by_cases hu0 : u.1 = 0
        · simp -dsimp [t1, t3, t5, t6, hi1, hi3, fltRow, hu0, hkl, hy, intRows, hw2]
          exact Again.same (n' - 1) (by omega) (again _ _ (by simp [t1]) (by simp [t2]) (by simp [t3]) (by simp [t4]) (by simp [t5, intRows]) (by simp) (by simp [n13, hi1]) (by simp [n23, hi2]) (by simp [tell7, hu0, fltRow]) (hf.set d3))
        · by_cases hlt2 : y < u.2
          · simp -dsimp [t1, t3, t5, t6, hi1, hi3, fltRow, hu0, hlt2, hkl, hy, intRows, hw2]
            exact Again.same (n' - 1) (by omega) (again _ _ (by simp [t1]) (by simp [t2]) (by simp [t3]) (by simp [t4]) (by simp [t5, intRows]) (by simp) (by simp [n13, hi1]) (by simp [n23, hi2]) (by simp [tell7, hlt2, fltRow]) (hf.set d3))
          · simp -dsimp [t1, t3, t5, t6, hi1, hi3, fltRow, hu0, hlt2, hkl, hy, intRows, hw2]
            exact Again.same (n' - 1) (by omega) (again _ _ (by simp [t1]) (by simp [t2]) (by simp [t3]) (by simp [t4]) (by simp [t5, intRows]) (by simp) hi1 hi2 (by simp [tell7, hu0, hlt2, hi3]) hf)
      · have htk : L.take k = L := List.take_of_length_le (by omega)
        rw [htk] at hi3
        simp -dsimp [t4, t5, t6, hkl, hw1]
        refine Again.same (n - 1) (by omega) ⟨i + 1, by omega, by simp [t1], by simp [t2], by simp [t3], by simp, hi1, hi2, ?_, hf⟩
        rw [hsn, List.foldl_append, hz]
        exact hi3
    · have htk : p.take i = p := List.take_of_length_le (by omega)
      rw [htk] at hi3
      simp -dsimp [t1, t2, t3, t4, hi1, hi2, hi3, fltRow, hlt]
      exact Gives.sub (hf.set d2).sub hK
  · simp only [ne_eq, hc, not_false_eq_true, if_true] at hq
    rw [hq] at hK
    simp -dsimp [hc, fltRow, n23, n32]
    exact Gives.sub (((((Keeps.refl h).set d1).set d2).set d3).set d2).sub hK
end Go.Proofs.YtcpkdbofohkipaaGreat
