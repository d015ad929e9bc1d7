/- The program's check of flat programs: literals, slots. -/
import Derived.Test.YtcpkdbofohkipaaGreatKcc
import Derived.Test.YtcpkdbofohkipaaGreatKCfF
set_option linter.unusedVariables false
set_option linter.unusedSimpArgs false
namespace Go.Proofs.YtcpkdbofohkipaaGreat
open Go.AM
section
variable {h : Hp} {K : AV → Hp → Prop}

theorem trunc_ok {n : Int} (hn : Whl n) (hK : K (.flt (FloatKind.f64.nearest n)) h) : ACalls Tryz.prog 138 [.flt (FloatKind.f64.nearest n)] h K := by
  refine calls_of mixed Tryz.func138 comp138 (Nat.le_of_ble_eq_true rfl) ?_
  have h1 := aTrunc_near hn.lt
  simp -dsimp [c138, h1]
  exact Gives.same hK
theorem signbit_ok (hK : K (.bool false) h) : ACalls Tryz.prog 139 [.flt 0] h K := by
  refine calls_of mixed Tryz.func139 comp139 (Nat.le_of_ble_eq_true rfl) ?_
  have h6 : aFext .bits (.flt 0) = some (.int .u64 0) := rfl
  have hw : IntKind.i64.wrap 0 = 0 := by decide
  simp -dsimp [c139, h6, hw]
  exact Gives.same hK
theorem plain_ok {n : Int} (hn : Whl n) (hK : K (.bool true) h) : ACalls Tryz.prog 136 [.flt (FloatKind.f64.nearest n)] h K := by
  refine calls_of mixed Tryz.func136 comp136 (Nat.le_of_ble_eq_true rfl) ?_
  have h1 := geq_most hn
  have h2 := leq_most hn
  have h3 := eql_near hn hn
  have h4 : binF .neq (FloatKind.f64.nearest n) 0 = some (.bool (decide (n ≠ 0))) := by
    have := fOrd_near (b := 0) hn.lt (by decide)
    rw [near_zero] at this
    simp only [binF, this]
    have e := cmp_eq n 0
    simp only [bne, e]
    simp
  simp -dsimp [c136, h1, h2]
  refine trunc_ok hn ?_
  by_cases h0 : n = 0
  · subst h0
    have hz : FloatKind.f64.nearest 0 = 0 := near_zero
    simp only [hz] at h3 h4
    simp -dsimp [hz, h3, h4]
    refine signbit_ok ?_
    simp -dsimp
    exact Gives.same hK
  · simp -dsimp [h3, h4, h0]
    exact Gives.same hK
theorem gvalid_ok {re im : Nat} (hn : numOK re im) (hK : K (.bool true) h) : ACalls Tryz.prog 133 [.cplx re im] h K := by
  obtain ⟨a, b, h1, h2, h3, h4, rfl, rfl⟩ := hn
  refine calls_of mixed Tryz.func133 comp133 (Nat.le_of_ble_eq_true rfl) ?_
  simp -dsimp [c133]
  refine plain_ok ⟨h1, h2⟩ ?_
  simp -dsimp
  refine plain_ok ⟨h3, h4⟩ ?_
  simp -dsimp
  exact Gives.same hK
theorem cplxEq_zero {re im : Nat} (h : numOK re im) : cplxEq re im 0 0 = decide (re = 0 ∧ im = 0) := by
  obtain ⟨a, b, h1, h2, h3, h4, rfl, rfl⟩ := h
  have e1 := floatEq_near (a := a) (b := 0) ⟨h1, h2⟩ ⟨by omega, by omega⟩
  have e2 := floatEq_near (a := b) (b := 0) ⟨h3, h4⟩ ⟨by omega, by omega⟩
  rw [near_zero] at e1 e2
  have inj : ∀ {n : Int}, Whl n → (FloatKind.f64.nearest n = 0 ↔ n = 0) := fun {n} hn => by
    constructor
    · intro e
      have := eql_zero hn
      rw [e] at this
      have e3 : binF .eql 0 0 = some (.bool true) := by kernel_rfl
      rw [e3] at this
      simp at this
      exact this
    · rintro rfl; exact near_zero
  simp only [cplxEq, e1, e2, inj ⟨h1, h2⟩, inj ⟨h3, h4⟩]
  by_cases x : a = 0 <;> by_cases y : b = 0 <;> simp [x, y]
theorem vcheck_ok {v : Vl} (hv : LitNum v) (hK : K (.int .i64 (if litOK v then 0 else 3)) h) : ACalls Tryz.prog 121 [.agg v.cells] h K := by
  obtain ⟨ty, re, im, b, ls⟩ := v
  obtain ⟨hl, hn⟩ := hv
  simp only at hl hn
  subst hl
  have zl : rowsAV (zRows []) = .nl := rfl
  have hz := cplxEq_zero hn
  refine calls_of mixed Tryz.func121 comp121 (Nat.le_of_ble_eq_true rfl) ?_
  simp -dsimp [c121, Vl.cells, zl]
  intro i1 d1
  have ks : ∀ o1, Keeps h (hset h i1 o1) := fun o1 => (Keeps.refl h).set d1
  simp only [litOK] at hK
  by_cases t1 : ty = 1
  · subst t1
    simp -dsimp
    refine gvalid_ok hn ?_
    cases b
    · simp -dsimp
      exact Gives.sub (ks _).sub (by simpa using hK)
    · simp -dsimp
      exact Gives.sub (ks _).sub (by simpa using hK)
  by_cases t2 : ty = 2
  · subst t2
    simp -dsimp
    refine gvalid_ok hn ?_
    by_cases z : re = 0 ∧ im = 0
    · rw [decide_eq_true z] at hz
      simp -dsimp [hz]
      exact Gives.sub (ks _).sub (by simpa [decide_eq_true z] using hK)
    · rw [decide_eq_false z] at hz
      simp -dsimp [hz]
      exact Gives.sub (ks _).sub (by simpa [decide_eq_false z] using hK)
  by_cases t3 : ty = 3
  · subst t3
    simp -dsimp
    refine gvalid_ok hn ?_
    by_cases z : re = 0 ∧ im = 0
    · rw [decide_eq_true z] at hz
      cases b
      · simp -dsimp [hz]
        refine ALoop.start (fun m tm h' => tm 3 = .bool true ∧ tm 56 = .nl ∧ tm 57 = .int .i64 0 ∧ tm 58 = .int .i64 0 ∧ Keeps h h') 0 ⟨by simp, by simp, by simp, by simp, ks _⟩ ?_
        rintro m tm h' ⟨t3, t56, t57, t58, kf⟩
        simp -dsimp [t3, t56, t57, t58]
        exact Gives.sub kf.sub (by simpa [decide_eq_true z] using hK)
      · simp -dsimp [hz]
        refine ALoop.start (fun m tm h' => tm 3 = .bool false ∧ tm 56 = .nl ∧ tm 57 = .int .i64 0 ∧ tm 58 = .int .i64 0 ∧ Keeps h h') 0 ⟨by simp, by simp, by simp, by simp, ks _⟩ ?_
        rintro m tm h' ⟨t3, t56, t57, t58, kf⟩
        simp -dsimp [t3, t56, t57, t58]
        exact Gives.sub kf.sub (by simpa [decide_eq_true z] using hK)
    · rw [decide_eq_false z] at hz
      simp -dsimp [hz]
      refine ALoop.start (fun m tm h' => tm 3 = .bool false ∧ tm 56 = .nl ∧ tm 57 = .int .i64 0 ∧ tm 58 = .int .i64 0 ∧ Keeps h h') 0 ⟨by simp, by simp, by simp, by simp, ks _⟩ ?_
      rintro m tm h' ⟨t3, t56, t57, t58, kf⟩
      simp -dsimp [t3, t56, t57, t58]
      exact Gives.sub kf.sub (by simpa [decide_eq_false z] using hK)
  · simp -dsimp [t1, t2, t3]
    exact Gives.sub (ks _).sub (by simpa [t1, t2, t3] using hK)
end
end Go.Proofs.YtcpkdbofohkipaaGreat

/- The program's check of flat programs: shapes, slots. -/
namespace Go.Proofs.YtcpkdbofohkipaaGreat
open Go.AM

theorem literal_ok {v : Vl} {h : Hp} {K : AV → Hp → Prop} (hv : LitNum v) (hK : K (.bool (litOK v)) h) : ACalls Tryz.prog 94 [.agg v.cells] h K := by
  refine calls_of mixed Tryz.func94 comp94 (Nat.le_of_ble_eq_true rfl) ?_
  have zl : rowsAV (zRows v.ls) = .nl := by rw [hv.1]; rfl
  have q3 : v.cells[3]? = some .nl := by rw [← zl]; rfl
  simp -dsimp [c94]
  intro i1 d1
  simp -dsimp
  refine vcheck_ok hv ?_
  by_cases hl : litOK v = true
  · rw [hl] at hK ⊢
    simp -dsimp [q3]
    exact Gives.sub ((Keeps.refl h).set d1).sub hK
  · have hl' : litOK v = false := by simpa using hl
    rw [hl'] at hK ⊢
    simp -dsimp [q3]
    exact Gives.sub ((Keeps.refl h).set d1).sub hK
theorem takes_ok {op : Int} {h : Hp} {K : AV → Hp → Prop} (hK : ∀ t : Int, K (.tup [.int .i64 (takesN op), .int .i64 t]) h) : ACalls Tryz.prog 120 [.int .i64 op] h K := by
  refine calls_of mixed Tryz.func120 comp120 (Nat.le_of_ble_eq_true rfl) ?_
  simp only [takesN] at hK
  by_cases h8 : 8 ≤ op
  · by_cases h13 : op ≤ 13
    · rw [if_pos ⟨h8, h13⟩] at hK
      simp -dsimp [c120, h8, h13]
      exact Gives.same (hK _)
    · rw [if_neg (fun x => h13 x.2)] at hK
      by_cases h14 : op = 14
      · rw [if_pos h14] at hK
        simp -dsimp [c120, h14]
        exact Gives.same (hK _)
      · rw [if_neg h14] at hK
        have h15 : 15 ≤ op := by omega
        by_cases h17 : op ≤ 17
        · rw [if_pos ⟨h15, h17⟩] at hK
          simp -dsimp [c120, h8, h13, h14, h15, h17]
          exact Gives.same (hK _)
        · rw [if_neg (fun x => h17 x.2)] at hK
          simp -dsimp [c120, h8, h13, h14, h15, h17]
          exact Gives.same (hK _)
  · have h14 : ¬ op = 14 := by omega
    have h15 : ¬ 15 ≤ op := by omega
    rw [if_neg (fun x => h8 x.1), if_neg h14, if_neg (fun x => h15 x.1)] at hK
    simp -dsimp [c120, h8, h14, h15]
    exact Gives.same (hK _)

/-- The supers, as far as their number and the numbers of their parameters go. -/
def CoreAt (h : Hp) (vs : AV) (ps : List Nat) : Prop := ∃ rows, LsV 63 15 h vs rows ∧ rows.length = ps.length ∧ ∀ (i : Nat) (row : List AV), rows[i]? = some row → row.length = 15 ∧ ∃ pv, row[1]? = some pv ∧ ∀ hh, aLen .sl pv hh = some (.int .i64 (ps.getD i 0 : Nat))
theorem CoreAt.keep {h h1 : Hp} {vs : AV} {ps : List Nat} (c : CoreAt h vs ps) (hk : ∀ id sz xs, h id = .arr 63 sz xs → h1 id = .arr 63 sz xs) : CoreAt h1 vs ps := by
  obtain ⟨rows, h1, h2, h3⟩ := c
  exact ⟨rows, h1.keep hk, h2, h3⟩
theorem CoreAt.flat {h : Hp} {vs : AV} {ps : List Nat} (c : CoreAt h vs ps) : vs.flat = true ∧ vs.cells = [vs] := by
  obtain ⟨rows, h1, _⟩ := c
  rcases h1 with rfl | rfl | ⟨id, xs, rfl, _⟩
  · cases rows <;> exact ⟨rfl, rfl⟩
  · exact ⟨rfl, rfl⟩
  · exact ⟨rfl, rfl⟩
/-- The checker. -/
structure Kk (ps : List Nat) (P : Nat) (kid sid : Nat) (vs : AV) (h : Hp) (sl : List Int) : Prop where
  ck : h kid = .cells [vs, .int .i64 P, .sl sid 0 sl.length]
  cs : h sid = .arr 3 1 (intRows sl)
  co : CoreAt h vs ps
section
variable {ps : List Nat} {P kid sid : Nat} {vs : AV} {h h1 : Hp} {sl : List Int} {K : AV → Hp → Prop}
theorem Kk.new (c : Kk ps P kid sid vs h sl) {j : Nat} {o : AObj} (hj : h j = .dead) : Kk ps P kid sid vs (hset h j o) sl :=
  ⟨cells_new c.ck hj, at_new c.cs (by simp) hj, c.co.keep fun id sz xs hh => at_new hh (by simp) hj⟩
theorem Kk.ne (c : Kk ps P kid sid vs h sl) : ¬ kid = sid := by
  rintro rfl
  have := c.ck; rw [c.cs] at this; cases this
theorem Kk.set (c : Kk ps P kid sid vs h sl) {sl' : List Int} (hl : sl'.length = sl.length) : Kk ps P kid sid vs (hset h sid (.arr 3 1 (intRows sl'))) sl' := by
  refine ⟨by rw [hset_at, if_neg c.ne, c.ck, hl], by simp, c.co.keep fun id sz xs hh => ?_⟩
  have : ¬ id = sid := by rintro rfl; rw [c.cs] at hh; cases hh
  simp [this, hh]
theorem used_ok {at_ : Int} (c : Kk ps P kid sid vs h sl) (hK : K (.bool (usedS sl at_)) h) : ACalls Tryz.prog 95 [.ptr kid 0, .int .i64 at_] h K := by
  refine calls_of mixed Tryz.func95 comp95 (Nat.le_of_ble_eq_true rfl) ?_
  simp only [usedS] at hK
  by_cases h0 : 0 ≤ at_
  · by_cases h1 : at_ < sl.length
    · have hlt : at_.toNat < sl.length := by omega
      simp -dsimp [c95, h0, h1, c.ck, c.cs, hlt, intRows]
      have e1 : sl.getD at_.toNat 0 = sl[at_.toNat] := by simp [hlt]
      rw [e1] at hK
      by_cases h2 : sl[at_.toNat] = 1
      · exact Gives.same (by simpa [h0, h1, h2] using hK)
      · exact Gives.same (by simpa [h0, h1, h2] using hK)
    · simp -dsimp [c95, h0, h1, c.ck, c.cs]
      exact Gives.same (by simpa [h0, h1] using hK)
  · simp -dsimp [c95, h0, c.ck, c.cs]
    exact Gives.same (by simpa [h0] using hK)
theorem kbind_ok {at_ : Int} (c : Kk ps P kid sid vs h sl) (hK : match bindC P sl at_ with | some sl' => K (.bool true) (hset h sid (.arr 3 1 (intRows sl'))) | none => K (.bool false) h) : ACalls Tryz.prog 96 [.ptr kid 0, .int .i64 at_] h K := by
  refine calls_of mixed Tryz.func96 comp96 (Nat.le_of_ble_eq_true rfl) ?_
  simp only [bindC] at hK
  by_cases h0 : at_ < P
  · simp only [h0, true_or, if_true] at hK
    simp -dsimp [c96, h0, c.ck, c.cs]
    exact Gives.same hK
  by_cases h1 : (sl.length : Int) ≤ at_
  · simp only [h1, true_or, or_true, if_true] at hK
    simp -dsimp [c96, h0, h1, c.ck, c.cs]
    exact Gives.same hK
  · have hlt : at_.toNat < sl.length := by omega
    have h2 : at_ < sl.length := by omega
    have h3 : 0 ≤ at_ := by omega
    have e1 : sl.getD at_.toNat 0 = sl[at_.toNat] := by simp [hlt]
    rw [e1] at hK
    by_cases h4 : sl[at_.toNat] = 0
    · simp only [h0, h1, h4, ne_eq, not_true, or_self, if_false] at hK
      simp -dsimp [c96, h0, h1, h2, h3, h4, hlt, c.ck, c.cs, intRows]
      have e2 : (sl.map (fun x => [AV.int IntKind.i64 x])).set at_.toNat [.int .i64 1] = intRows (sl.set at_.toNat 1) := by simp [intRows, List.map_set]
      rw [e2]
      exact Gives.same hK
    · simp only [h0, h1, h4, ne_eq, not_false_eq_true, or_true, if_true] at hK
      simp -dsimp [c96, h0, h1, h2, h3, h4, hlt, c.ck, c.cs, intRows]
      exact Gives.same hK
theorem shape_ok {cd : Cd} {cs : List AV} (c : Kk ps P kid sid vs h sl) (hps : ps.length ≤ 1000000) (hd : DenC 111 61 h cd cs) (hl : LitNum cd.lit) (hK : K (.tup [.int .i64 (shapeC ps sl cd.op cd.slot cd.func cd.prim cd.lit).1, .int .i64 (shapeC ps sl cd.op cd.slot cd.func cd.prim cd.lit).2]) h) : ACalls Tryz.prog 93 [.ptr kid 0, .agg cs] h K := by
  obtain ⟨op, slot, slot2, func, prim, lit, atoms, args⟩ := cd
  obtain ⟨va, vb, rows, rfl, ha, hb, hr⟩ := hd
  have hl' : LitNum lit := hl
  refine calls_of mixed Tryz.func93 comp93 (Nat.le_of_ble_eq_true rfl) ?_
  replace hK : K (.tup [.int .i64 (shapeC ps sl op slot func prim lit).1, .int .i64 (shapeC ps sl op slot func prim lit).2]) h := hK
  simp only [shapeC] at hK
  generalize hlc : lit.cells = lc at *
  have hlen : lc.length = 4 := by rw [← hlc]; rfl
  obtain ⟨l0, l1, l2, l3, rfl⟩ : ∃ l0 l1 l2 l3, lc = [l0, l1, l2, l3] := by
    match lc, hlen with
    | [a, b, c, d], _ => exact ⟨a, b, c, d, rfl⟩
  simp -dsimp [c93]
  intro i3 d3
  have ks : ∀ o, Keeps h (hset h i3 o) := fun o => (Keeps.refl h).set d3
  have c3 := fun o => c.new (o := o) d3
  have nk3 := cells_ne c.ck d3
  simp -dsimp
  by_cases o1 : op = 1
  · simp only [o1, if_true] at hK
    simp -dsimp [o1]
    rw [← hlc]
    refine literal_ok hl' ?_
    by_cases hx : litOK lit = true
    · rw [if_pos hx] at hK
      rw [hx]
      simp -dsimp
      exact Gives.sub (ks _).sub hK
    · have hx' : litOK lit = false := by simpa using hx
      rw [if_neg hx] at hK
      rw [hx']
      simp -dsimp
      exact Gives.sub (ks _).sub hK
  by_cases o2 : op = 2
  · simp only [o2, if_true, show ¬ ((2 : Int) = 1) by omega, if_false] at hK
    simp -dsimp [o2]
    refine used_ok (c3 _) ?_
    by_cases hx : usedS sl slot = true
    · rw [if_pos hx] at hK
      rw [hx]
      simp -dsimp
      exact Gives.sub (ks _).sub hK
    · have hx' : usedS sl slot = false := by simpa using hx
      rw [if_neg hx] at hK
      rw [hx']
      simp -dsimp
      exact Gives.sub (ks _).sub hK
  by_cases o10 : op = 10
  · simp only [o10, if_true, show ¬ ((10 : Int) = 1) by omega, show ¬ ((10 : Int) = 2) by omega, if_false] at hK
    simp -dsimp [o10]
    exact Gives.sub (ks _).sub hK
  by_cases o3 : op = 3
  · simp only [o3, if_true, show ¬ ((3 : Int) = 1) by omega, show ¬ ((3 : Int) = 2) by omega, show ¬ ((3 : Int) = 10) by omega, if_false] at hK
    obtain ⟨srows, s1, s2, s3⟩ := c.co
    have hlen := s1.len
    rw [s2] at hlen
    by_cases h0 : 0 ≤ func
    · by_cases h1 : func < ps.length
      · rw [if_pos ⟨h0, h1⟩] at hK
        have hlt : func.toNat < srows.length := by omega
        obtain ⟨hrl, pv, hp1, hp2⟩ := s3 _ _ (List.getElem?_eq_getElem hlt)
        have s1' : LsV 63 15 (hset h i3 (.cells ([.int .i64 op, .int .i64 slot, .int .i64 slot2, .int .i64 func, .int .i64 prim] ++ [l0, l1, l2, l3] ++ [va, vb]))) vs srows := s1.keep fun id sz xs hh => at_new hh (by simp) d3
        obtain ⟨q, e1, _, _, e4⟩ := s1'.get (List.getElem?_eq_getElem hlt) hrl
        obtain ⟨q', e5, e6⟩ := e4 1 (by omega)
        have e7 := e6 pv hp1
        have hf : ((func.toNat : Nat) : Int) = func := by omega
        rw [hf] at e1
        simp only [o3, List.cons_append, List.nil_append] at e1 e7
        have hfl : func.toNat < ps.length := by omega
        have hget : ps.getD func.toNat 0 = ps[func.toNat] := by simp [hfl]
        rw [hget] at hK
        simp -dsimp [o3, h0, h1, nk3, c.ck, hlen, e1, e5, e7, hp2, hfl, Stable, AIns.wants, QStep]
        exact Gives.sub (ks _).sub hK
      · rw [if_neg (fun x => h1 x.2)] at hK
        simp -dsimp [o3, h0, h1, nk3, c.ck, hlen, Stable, AIns.wants, QStep]
        exact Gives.sub (ks _).sub hK
    · rw [if_neg (fun x => h0 x.1)] at hK
      simp -dsimp [o3, h0, nk3, c.ck, hlen, Stable, AIns.wants, QStep]
      exact Gives.sub (ks _).sub hK
  by_cases o4 : op = 4
  · simp only [o4, if_true, show ¬ ((4 : Int) = 1) by omega, show ¬ ((4 : Int) = 2) by omega, show ¬ ((4 : Int) = 10) by omega, show ¬ ((4 : Int) = 3) by omega, if_false] at hK
    simp -dsimp [o4]
    refine takes_ok fun t => ?_
    by_cases hx : 0 < takesN prim
    · rw [if_pos hx] at hK
      simp -dsimp [hx]
      exact Gives.sub (ks _).sub hK
    · rw [if_neg hx] at hK
      simp -dsimp [hx]
      exact Gives.sub (ks _).sub hK
  by_cases o5 : op = 5
  · simp only [o5, if_true, show ¬ ((5 : Int) = 1) by omega, show ¬ ((5 : Int) = 2) by omega, show ¬ ((5 : Int) = 10) by omega, show ¬ ((5 : Int) = 3) by omega, show ¬ ((5 : Int) = 4) by omega, if_false] at hK
    simp -dsimp [o5]
    exact Gives.sub (ks _).sub hK
  by_cases o6 : op = 6
  · simp only [o6, true_or, if_true, show ¬ ((6 : Int) = 1) by omega, show ¬ ((6 : Int) = 2) by omega, show ¬ ((6 : Int) = 10) by omega, show ¬ ((6 : Int) = 3) by omega, show ¬ ((6 : Int) = 4) by omega, show ¬ ((6 : Int) = 5) by omega, if_false] at hK
    simp -dsimp [o6]
    exact Gives.sub (ks _).sub hK
  by_cases o7 : op = 7
  · simp only [o7, or_true, if_true, show ¬ ((7 : Int) = 1) by omega, show ¬ ((7 : Int) = 2) by omega, show ¬ ((7 : Int) = 10) by omega, show ¬ ((7 : Int) = 3) by omega, show ¬ ((7 : Int) = 4) by omega, show ¬ ((7 : Int) = 5) by omega, if_false] at hK
    simp -dsimp [o7]
    exact Gives.sub (ks _).sub hK
  by_cases o8 : op = 8
  · simp only [o8, true_or, if_true, show ¬ ((8 : Int) = 1) by omega, show ¬ ((8 : Int) = 2) by omega, show ¬ ((8 : Int) = 10) by omega, show ¬ ((8 : Int) = 3) by omega, show ¬ ((8 : Int) = 4) by omega, show ¬ ((8 : Int) = 5) by omega, show ¬ ((8 : Int) = 6) by omega, show ¬ ((8 : Int) = 7) by omega, or_self, if_false] at hK
    simp -dsimp [o8]
    exact Gives.sub (ks _).sub hK
  by_cases o9 : op = 9
  · simp only [o9, or_true, if_true, show ¬ ((9 : Int) = 1) by omega, show ¬ ((9 : Int) = 2) by omega, show ¬ ((9 : Int) = 10) by omega, show ¬ ((9 : Int) = 3) by omega, show ¬ ((9 : Int) = 4) by omega, show ¬ ((9 : Int) = 5) by omega, show ¬ ((9 : Int) = 6) by omega, show ¬ ((9 : Int) = 7) by omega, or_self, if_false] at hK
    simp -dsimp [o9]
    exact Gives.sub (ks _).sub hK
  · simp only [o1, o2, o3, o4, o5, o6, o7, o8, o9, o10, or_self, if_false] at hK
    simp -dsimp [o1, o2, o3, o4, o5, o6, o7, o8, o9, o10]
    exact Gives.sub (ks _).sub hK
end
end Go.Proofs.YtcpkdbofohkipaaGreat
