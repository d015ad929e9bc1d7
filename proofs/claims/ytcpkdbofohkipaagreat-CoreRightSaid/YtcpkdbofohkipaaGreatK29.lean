/- The program's check of flat programs: shapes, slots. -/
import Derived.Test.YtcpkdbofohkipaaGreatK28
set_option linter.unusedVariables false
set_option linter.unusedSimpArgs false
namespace Go.Proofs.YtcpkdbofohkipaaGreat
open Go.AM

theorem literal_ok {v : Vl} {h : Hp} {K : AV → Hp → Prop} (hv : LitNum v) (hK : K (.bool (litOK v)) h) : ACalls Tryz.prog 94 [.agg v.cells] h K := by
  refine calls_of mixed Tryz.func94 comp94 (Nat.le_of_ble_eq_true rfl) ?_
  have zl : rowsAV (zRows v.ls) = .nl := by rw [hv.1]; rfl
  have q3 : v.cells[3]? = some .nl := by rw [← zl]; rfl
  simp -dsimp [c94]
  intro i1 d1
  simp -dsimp
  refine vcheck_ok hv ?_
  by_cases hl : litOK v = true
  · rw [hl] at hK ⊢
    simp -dsimp [q3]
    exact Gives.sub ((Keeps.refl h).set d1).sub hK
  · have hl' : litOK v = false := by simpa using hl
    rw [hl'] at hK ⊢
    simp -dsimp [q3]
    exact Gives.sub ((Keeps.refl h).set d1).sub hK
theorem takes_ok {op : Int} {h : Hp} {K : AV → Hp → Prop} (hK : ∀ t : Int, K (.tup [.int .i64 (takesN op), .int .i64 t]) h) : ACalls Tryz.prog 120 [.int .i64 op] h K := by
  refine calls_of mixed Tryz.func120 comp120 (Nat.le_of_ble_eq_true rfl) ?_
  simp only [takesN] at hK
  by_cases h8 : 8 ≤ op
  · by_cases h13 : op ≤ 13
    · rw [if_pos ⟨h8, h13⟩] at hK
      simp -dsimp [c120, h8, h13]
      exact Gives.same (hK _)
    · rw [if_neg (fun x => h13 x.2)] at hK
      by_cases h14 : op = 14
      · rw [if_pos h14] at hK
        simp -dsimp [c120, h14]
        exact Gives.same (hK _)
      · rw [if_neg h14] at hK
        have h15 : 15 ≤ op := by omega
        by_cases h17 : op ≤ 17
        · rw [if_pos ⟨h15, h17⟩] at hK
          simp -dsimp [c120, h8, h13, h14, h15, h17]
          exact Gives.same (hK _)
        · rw [if_neg (fun x => h17 x.2)] at hK
          simp -dsimp [c120, h8, h13, h14, h15, h17]
          exact Gives.same (hK _)
  · have h14 : ¬ op = 14 := by omega
    have h15 : ¬ 15 ≤ op := by omega
    rw [if_neg (fun x => h8 x.1), if_neg h14, if_neg (fun x => h15 x.1)] at hK
    simp -dsimp [c120, h8, h14, h15]
    exact Gives.same (hK _)

/-- The supers, as far as their number and the numbers of their parameters go. -/
def CoreAt (h : Hp) (vs : AV) (ps : List Nat) : Prop := ∃ rows, LsV 63 15 h vs rows ∧ rows.length = ps.length ∧ ∀ (i : Nat) (row : List AV), rows[i]? = some row → row.length = 15 ∧ ∃ pv, row[1]? = some pv ∧ ∀ hh, aLen .sl pv hh = some (.int .i64 (ps.getD i 0 : Nat))
theorem CoreAt.keep {h h1 : Hp} {vs : AV} {ps : List Nat} (c : CoreAt h vs ps) (hk : ∀ id sz xs, h id = .arr 63 sz xs → h1 id = .arr 63 sz xs) : CoreAt h1 vs ps := by
  obtain ⟨rows, h1, h2, h3⟩ := c
  exact ⟨rows, h1.keep hk, h2, h3⟩
theorem CoreAt.flat {h : Hp} {vs : AV} {ps : List Nat} (c : CoreAt h vs ps) : vs.flat = true ∧ vs.cells = [vs] := by
  obtain ⟨rows, h1, _⟩ := c
  rcases h1 with rfl | rfl | ⟨id, xs, rfl, _⟩
  · cases rows <;> exact ⟨rfl, rfl⟩
  · exact ⟨rfl, rfl⟩
  · exact ⟨rfl, rfl⟩
/-- The checker. -/
structure Kk (ps : List Nat) (P : Nat) (kid sid : Nat) (vs : AV) (h : Hp) (sl : List Int) : Prop where
  ck : h kid = .cells [vs, .int .i64 P, .sl sid 0 sl.length]
  cs : h sid = .arr 3 1 (intRows sl)
  co : CoreAt h vs ps
section
variable {ps : List Nat} {P kid sid : Nat} {vs : AV} {h h1 : Hp} {sl : List Int} {K : AV → Hp → Prop}
theorem Kk.new (c : Kk ps P kid sid vs h sl) {j : Nat} {o : AObj} (hj : h j = .dead) : Kk ps P kid sid vs (hset h j o) sl :=
  ⟨cells_new c.ck hj, at_new c.cs (by simp) hj, c.co.keep fun id sz xs hh => at_new hh (by simp) hj⟩
theorem Kk.ne (c : Kk ps P kid sid vs h sl) : ¬ kid = sid := by
  rintro rfl
  have := c.ck; rw [c.cs] at this; cases this
theorem Kk.set (c : Kk ps P kid sid vs h sl) {sl' : List Int} (hl : sl'.length = sl.length) : Kk ps P kid sid vs (hset h sid (.arr 3 1 (intRows sl'))) sl' := by
  refine ⟨by rw [hset_at, if_neg c.ne, c.ck, hl], by simp, c.co.keep fun id sz xs hh => ?_⟩
  have : ¬ id = sid := by rintro rfl; rw [c.cs] at hh; cases hh
  simp [this, hh]
theorem used_ok {at_ : Int} (c : Kk ps P kid sid vs h sl) (hK : K (.bool (usedS sl at_)) h) : ACalls Tryz.prog 95 [.ptr kid 0, .int .i64 at_] h K := by
  refine calls_of mixed Tryz.func95 comp95 (Nat.le_of_ble_eq_true rfl) ?_
  simp only [usedS] at hK
  by_cases h0 : 0 ≤ at_
  · by_cases h1 : at_ < sl.length
    · have hlt : at_.toNat < sl.length := by omega
      simp -dsimp [c95, h0, h1, c.ck, c.cs, hlt, intRows]
      have e1 : sl.getD at_.toNat 0 = sl[at_.toNat] := by simp [hlt]
      rw [e1] at hK
      by_cases h2 : sl[at_.toNat] = 1
      · exact Gives.same (by simpa [h0, h1, h2] using hK)
      · exact Gives.same (by simpa [h0, h1, h2] using hK)
    · simp -dsimp [c95, h0, h1, c.ck, c.cs]
      exact Gives.same (by simpa [h0, h1] using hK)
  · simp -dsimp [c95, h0, c.ck, c.cs]
    exact Gives.same (by simpa [h0] using hK)
theorem kbind_ok {at_ : Int} (c : Kk ps P kid sid vs h sl) (hK : match bindC P sl at_ with | some sl' => K (.bool true) (hset h sid (.arr 3 1 (intRows sl'))) | none => K (.bool false) h) : ACalls Tryz.prog 96 [.ptr kid 0, .int .i64 at_] h K := by
  refine calls_of mixed Tryz.func96 comp96 (Nat.le_of_ble_eq_true rfl) ?_
  simp only [bindC] at hK
  by_cases h0 : at_ < P
  · simp only [h0, true_or, if_true] at hK
    simp -dsimp [c96, h0, c.ck, c.cs]
    exact Gives.same hK
  by_cases h1 : (sl.length : Int) ≤ at_
  · simp only [h1, true_or, or_true, if_true] at hK
    simp -dsimp [c96, h0, h1, c.ck, c.cs]
    exact Gives.same hK
  · have hlt : at_.toNat < sl.length := by omega
    have h2 : at_ < sl.length := by omega
    have h3 : 0 ≤ at_ := by omega
    have e1 : sl.getD at_.toNat 0 = sl[at_.toNat] := by simp [hlt]
    rw [e1] at hK
    by_cases h4 : sl[at_.toNat] = 0
    · simp only [h0, h1, h4, ne_eq, not_true, or_self, if_false] at hK
      simp -dsimp [c96, h0, h1, h2, h3, h4, hlt, c.ck, c.cs, intRows]
      have e2 : (sl.map (fun x => [AV.int IntKind.i64 x])).set at_.toNat [.int .i64 1] = intRows (sl.set at_.toNat 1) := by simp [intRows, List.map_set]
      rw [e2]
      exact Gives.same hK
    · simp only [h0, h1, h4, ne_eq, not_false_eq_true, or_true, if_true] at hK
      simp -dsimp [c96, h0, h1, h2, h3, h4, hlt, c.ck, c.cs, intRows]
      exact Gives.same hK
theorem shape_ok {cd : Cd} {cs : List AV} (c : Kk ps P kid sid vs h sl) (hps : ps.length ≤ 1000000) (hd : DenC 111 61 h cd cs) (hl : LitNum cd.lit) (hK : K (.tup [.int .i64 (shapeC ps sl cd.op cd.slot cd.func cd.prim cd.lit).1, .int .i64 (shapeC ps sl cd.op cd.slot cd.func cd.prim cd.lit).2]) h) : ACalls Tryz.prog 93 [.ptr kid 0, .agg cs] h K := by
  obtain ⟨op, slot, slot2, func, prim, lit, atoms, args⟩ := cd
  obtain ⟨va, vb, rows, rfl, ha, hb, hr⟩ := hd
  have hl' : LitNum lit := hl
  refine calls_of mixed Tryz.func93 comp93 (Nat.le_of_ble_eq_true rfl) ?_
  replace hK : K (.tup [.int .i64 (shapeC ps sl op slot func prim lit).1, .int .i64 (shapeC ps sl op slot func prim lit).2]) h := hK
  simp only [shapeC] at hK
  generalize hlc : lit.cells = lc at *
  have hlen : lc.length = 4 := by rw [← hlc]; rfl
  obtain ⟨l0, l1, l2, l3, rfl⟩ : ∃ l0 l1 l2 l3, lc = [l0, l1, l2, l3] := by
    match lc, hlen with
    | [a, b, c, d], _ => exact ⟨a, b, c, d, rfl⟩
  simp -dsimp [c93]
  intro i3 d3
  have ks : ∀ o, Keeps h (hset h i3 o) := fun o => (Keeps.refl h).set d3
  have c3 := fun o => c.new (o := o) d3
  have nk3 := cells_ne c.ck d3
  simp -dsimp
  by_cases o1 : op = 1
  · simp only [o1, if_true] at hK
    simp -dsimp [o1]
    rw [← hlc]
    refine literal_ok hl' ?_
    by_cases hx : litOK lit = true
    · rw [if_pos hx] at hK
      rw [hx]
      simp -dsimp
      exact Gives.sub (ks _).sub hK
    · have hx' : litOK lit = false := by simpa using hx
      rw [if_neg hx] at hK
      rw [hx']
      simp -dsimp
      exact Gives.sub (ks _).sub hK
  by_cases o2 : op = 2
  · simp only [o2, if_true, show ¬ ((2 : Int) = 1) by omega, if_false] at hK
    simp -dsimp [o2]
    refine used_ok (c3 _) ?_
    by_cases hx : usedS sl slot = true
    · rw [if_pos hx] at hK
      rw [hx]
      simp -dsimp
      exact Gives.sub (ks _).sub hK
    · have hx' : usedS sl slot = false := by simpa using hx
      rw [if_neg hx] at hK
      rw [hx']
      simp -dsimp
      exact Gives.sub (ks _).sub hK
  by_cases o10 : op = 10
  · simp only [o10, if_true, show ¬ ((10 : Int) = 1) by omega, show ¬ ((10 : Int) = 2) by omega, if_false] at hK
    simp -dsimp [o10]
    exact Gives.sub (ks _).sub hK
  by_cases o3 : op = 3
  · simp only [o3, if_true, show ¬ ((3 : Int) = 1) by omega, show ¬ ((3 : Int) = 2) by omega, show ¬ ((3 : Int) = 10) by omega, if_false] at hK
    obtain ⟨srows, s1, s2, s3⟩ := c.co
    have hlen := s1.len
    rw [s2] at hlen
    by_cases h0 : 0 ≤ func
    · by_cases h1 : func < ps.length
      · rw [if_pos ⟨h0, h1⟩] at hK
        have hlt : func.toNat < srows.length := by omega
        obtain ⟨hrl, pv, hp1, hp2⟩ := s3 _ _ (List.getElem?_eq_getElem hlt)
        have s1' : LsV 63 15 (hset h i3 (.cells ([.int .i64 op, .int .i64 slot, .int .i64 slot2, .int .i64 func, .int .i64 prim] ++ [l0, l1, l2, l3] ++ [va, vb]))) vs srows := s1.keep fun id sz xs hh => at_new hh (by simp) d3
        obtain ⟨q, e1, _, _, e4⟩ := s1'.get (List.getElem?_eq_getElem hlt) hrl
        obtain ⟨q', e5, e6⟩ := e4 1 (by omega)
        have e7 := e6 pv hp1
        have hf : ((func.toNat : Nat) : Int) = func := by omega
        rw [hf] at e1
        simp only [o3, List.cons_append, List.nil_append] at e1 e7
        have hfl : func.toNat < ps.length := by omega
        have hget : ps.getD func.toNat 0 = ps[func.toNat] := by simp [hfl]
        rw [hget] at hK
        simp -dsimp [o3, h0, h1, nk3, c.ck, hlen, e1, e5, e7, hp2, hfl, Stable, AIns.wants, QStep]
        exact Gives.sub (ks _).sub hK
      · rw [if_neg (fun x => h1 x.2)] at hK
        simp -dsimp [o3, h0, h1, nk3, c.ck, hlen, Stable, AIns.wants, QStep]
        exact Gives.sub (ks _).sub hK
    · rw [if_neg (fun x => h0 x.1)] at hK
      simp -dsimp [o3, h0, nk3, c.ck, hlen, Stable, AIns.wants, QStep]
      exact Gives.sub (ks _).sub hK
  by_cases o4 : op = 4
  · simp only [o4, if_true, show ¬ ((4 : Int) = 1) by omega, show ¬ ((4 : Int) = 2) by omega, show ¬ ((4 : Int) = 10) by omega, show ¬ ((4 : Int) = 3) by omega, if_false] at hK
    simp -dsimp [o4]
    refine takes_ok fun t => ?_
    by_cases hx : 0 < takesN prim
    · rw [if_pos hx] at hK
      simp -dsimp [hx]
      exact Gives.sub (ks _).sub hK
    · rw [if_neg hx] at hK
      simp -dsimp [hx]
      exact Gives.sub (ks _).sub hK
  by_cases o5 : op = 5
  · simp only [o5, if_true, show ¬ ((5 : Int) = 1) by omega, show ¬ ((5 : Int) = 2) by omega, show ¬ ((5 : Int) = 10) by omega, show ¬ ((5 : Int) = 3) by omega, show ¬ ((5 : Int) = 4) by omega, if_false] at hK
    simp -dsimp [o5]
    exact Gives.sub (ks _).sub hK
  by_cases o6 : op = 6
  · simp only [o6, true_or, if_true, show ¬ ((6 : Int) = 1) by omega, show ¬ ((6 : Int) = 2) by omega, show ¬ ((6 : Int) = 10) by omega, show ¬ ((6 : Int) = 3) by omega, show ¬ ((6 : Int) = 4) by omega, show ¬ ((6 : Int) = 5) by omega, if_false] at hK
    simp -dsimp [o6]
    exact Gives.sub (ks _).sub hK
  by_cases o7 : op = 7
  · simp only [o7, or_true, if_true, show ¬ ((7 : Int) = 1) by omega, show ¬ ((7 : Int) = 2) by omega, show ¬ ((7 : Int) = 10) by omega, show ¬ ((7 : Int) = 3) by omega, show ¬ ((7 : Int) = 4) by omega, show ¬ ((7 : Int) = 5) by omega, if_false] at hK
    simp -dsimp [o7]
    exact Gives.sub (ks _).sub hK
  by_cases o8 : op = 8
  · simp only [o8, true_or, if_true, show ¬ ((8 : Int) = 1) by omega, show ¬ ((8 : Int) = 2) by omega, show ¬ ((8 : Int) = 10) by omega, show ¬ ((8 : Int) = 3) by omega, show ¬ ((8 : Int) = 4) by omega, show ¬ ((8 : Int) = 5) by omega, show ¬ ((8 : Int) = 6) by omega, show ¬ ((8 : Int) = 7) by omega, or_self, if_false] at hK
    simp -dsimp [o8]
    exact Gives.sub (ks _).sub hK
  by_cases o9 : op = 9
  · simp only [o9, or_true, if_true, show ¬ ((9 : Int) = 1) by omega, show ¬ ((9 : Int) = 2) by omega, show ¬ ((9 : Int) = 10) by omega, show ¬ ((9 : Int) = 3) by omega, show ¬ ((9 : Int) = 4) by omega, show ¬ ((9 : Int) = 5) by omega, show ¬ ((9 : Int) = 6) by omega, show ¬ ((9 : Int) = 7) by omega, or_self, if_false] at hK
    simp -dsimp [o9]
    exact Gives.sub (ks _).sub hK
  · simp only [o1, o2, o3, o4, o5, o6, o7, o8, o9, o10, or_self, if_false] at hK
    simp -dsimp [o1, o2, o3, o4, o5, o6, o7, o8, o9, o10]
    exact Gives.sub (ks _).sub hK
end
end Go.Proofs.YtcpkdbofohkipaaGreat

/- The program's check of flat programs: one code. -/
namespace Go.Proofs.YtcpkdbofohkipaaGreat
open Go.AM
section
variable {ps : List Nat} {P kid sid : Nat} {vs : AV}

/-- What is promised of 'right'. -/
def RC (ps : List Nat) (P kid sid : Nat) (vs : AV) (c : Cd) : Prop :=
  ∀ (cs : List AV) (h : Hp) (sl : List Int) (K : AV → Hp → Prop), Kk ps P kid sid vs h sl → DenC 111 61 h c cs →
    (∀ sl', rightC ps P c sl = some sl' → K (.bool true) (hset h sid (.arr 3 1 (intRows sl')))) → (rightC ps P c sl = none → ∀ sl' : List Int, sl'.length = sl.length → K (.bool false) (hset h sid (.arr 3 1 (intRows sl')))) →
    ACalls Tryz.prog 60 [.ptr kid 0, .agg cs] h K
theorem right_step {cd : Cd} (hps : ps.length ≤ 1000000) (hn : cd.nums) (hrec : ∀ a ∈ cd.args, RC ps P kid sid vs a) : RC ps P kid sid vs cd := by
  intro cs h sl K c hd hKt hKf
  have hshape := fun (K' : AV → Hp → Prop) (H : Hp) (c' : Kk ps P kid sid vs H sl) (hd' : DenC 111 61 H cd cs) (hl : LitNum cd.lit) (hK' : _) => shape_ok (K := K') c' hps hd' hl hK'
  have hd0 := hd
  obtain ⟨op, slot, slot2, func, prim, lit, atoms, args⟩ := cd
  obtain ⟨va, vb, rows, hcs, ha, hb, hr⟩ := hd
  obtain ⟨hl, hat, hal, hgl, _⟩ := hn
  have hrec' : ∀ a ∈ args, RC ps P kid sid vs a := hrec
  have hcl : cs.length = 11 := hd0.len
  have q0 : cs[0]? = some (.int .i64 op) := by rw [hcs]; rfl
  have q1 : cs[1]? = some (.int .i64 slot) := by rw [hcs]; rfl
  have q2 : cs[2]? = some (.int .i64 slot2) := by rw [hcs]; rfl
  have q9 : cs[9]? = some va := by rw [hcs]; rfl
  have q10 : cs[10]? = some vb := by rw [hcs]; rfl
  have htk : cs.take 11 = cs := List.take_of_length_le (by omega)
  have hrl := hr.length
  have hla := ha.len
  have hlb := hb.len
  rw [List.length_map] at hla
  rw [hrl] at hlb
  rw [rightC] at hKt hKf
  refine calls_of mixed Tryz.func60 comp60 (Nat.le_of_ble_eq_true rfl) ?_
  simp -dsimp [c60]
  intro i3 d3
  have hk3 : ∀ (o : AObj) (id e sz : Nat) (xs : List (List AV)), h id = .arr e sz xs → hset h i3 o id = .arr e sz xs := fun o id e sz xs hh => at_new hh (by simp) d3
  have c3 := c.new (o := .cells cs) d3
  have ha3 := ha.keep (h1 := hset h i3 (.cells cs)) (fun id sz xs hh => hk3 _ id _ sz xs hh)
  have hb3 := hb.keep (h1 := hset h i3 (.cells cs)) (fun id sz xs hh => hk3 _ id _ sz xs hh)
  have hr3 : DenL 111 61 (hset h i3 (.cells cs)) args rows := hr.keep (fun id e sz xs _ hh => hk3 _ id e sz xs hh)
  have hd3 := hd0.keep (h1 := hset h i3 (.cells cs)) (fun id e sz xs _ hh => hk3 _ id e sz xs hh)
  have g3 := hset_same h i3 (.cells cs)
  have k3 : KeepsX [sid] h (hset h i3 (.cells cs)) := KeepsX.refl.new d3
  have fin0 : ∀ {H : Hp}, KeepsX [sid] h H → H sid = .arr 3 1 (intRows sl) → (if ((args.length : Int), (atoms.length : Int)) = shapeC ps sl op slot func prim lit ∧ atoms.all (atomOK sl) = true then (rightL ps P op slot slot2 0 args sl).map (postC op slot slot2) else none) = none → Gives K (some (.bool false)) H := fun {H} k g hx => Gives.sub (k.sub1 g) (hKf hx sl rfl)
  simp -dsimp [hcl, htk]
  refine hshape _ _ c3 hd3 hl ?_
  generalize hset h i3 (.cells cs) = H at *
  generalize hS : shapeC ps sl op slot func prim lit = S at *
  replace hS : shapeC ps sl (Cd.mk op slot slot2 func prim lit atoms args).op (Cd.mk op slot slot2 func prim lit atoms args).slot (Cd.mk op slot slot2 func prim lit atoms args).func (Cd.mk op slot slot2 func prim lit atoms args).prim (Cd.mk op slot slot2 func prim lit atoms args).lit = S := hS
  rw [hS]
  by_cases e1 : (args.length : Int) = S.1
  · by_cases e2 : (atoms.length : Int) = S.2
    · simp -dsimp [g3, q9, q10, hla, hlb, e1.symm, e2.symm]
      refine ALoop.start (fun m tm h' => ∃ i : Nat, i + m = atoms.length ∧ tm 0 = .ptr kid 0 ∧ tm 3 = .ptr i3 0 ∧ tm 31 = va ∧ tm 32 = .int .i64 atoms.length ∧ tm 33 = .int .i64 i ∧ (∀ a ∈ atoms.take i, atomOK sl a = true) ∧
        h' i3 = .cells cs ∧ Kk ps P kid sid vs h' sl ∧ LsV 111 5 h' va (atoms.map Atm.cells) ∧ LsV 61 11 h' vb rows ∧ DenL 111 61 h' args rows ∧ KeepsX [sid] h h') atoms.length
        ⟨0, by simp, by simp, by simp, by simp, by simp, by simp, by simp, g3, c3, ha3, hb3, hr3, k3⟩ ?_
      clear g3 c3 ha3 hb3 hr3 hd3 k3
      rintro m tm h' ⟨i, hi, t0, t3, t31, t32, t33, hall, g3, c', ha', hb', hr', kf⟩
      have hw1 : IntKind.i64.wrap ((i : Int) + 1) = ((i + 1 : Nat) : Int) := by rw [wrap_i64] <;> omega
      by_cases hlt : i < atoms.length
      · have hla' := hat _ (List.getElem_mem hlt)
        have hsn := take_snoc atoms hlt
        have hxm : atoms[i] ∈ atoms := List.getElem_mem hlt
        obtain ⟨pp, p1, p2, _, _⟩ := ha'.get (i := i) (row := atoms[i].cells) (by simp [hlt]) rfl
        generalize hx : atoms[i] = x at *
        simp -dsimp [t31, t32, t33, hlt, p1, p2]
        intro i8 d8
        have n38 := cells_ne g3 d8
        have c8 := fun o => c'.new (o := o) d8
        have k8 := fun o => kf.new (o := o) d8
        have s8 : ∀ o, hset h' i8 o sid = .arr 3 1 (intRows sl) := fun o => (c8 o).cs
        have g38 : ∀ o, hset h' i8 o i3 = .cells cs := fun o => cells_new g3 d8
        have hk8 : ∀ (o : AObj) (id e sz : Nat) (xs : List (List AV)), h' id = .arr e sz xs → hset h' i8 o id = .arr e sz xs := fun o id e sz xs hh => at_new hh (by simp) d8
        have again : ∀ (tm' : Tm) (o : AObj), atomOK sl x = true → tm' 0 = .ptr kid 0 → tm' 3 = .ptr i3 0 → tm' 31 = va → tm' 32 = .int .i64 atoms.length → tm' 33 = .int .i64 ((i + 1 : Nat) : Int) → ∃ i : Nat, i + (m - 1) = atoms.length ∧ tm' 0 = .ptr kid 0 ∧ tm' 3 = .ptr i3 0 ∧ tm' 31 = va ∧ tm' 32 = .int .i64 atoms.length ∧ tm' 33 = .int .i64 i ∧ (∀ a ∈ atoms.take i, atomOK sl a = true) ∧
            hset h' i8 o i3 = .cells cs ∧ Kk ps P kid sid vs (hset h' i8 o) sl ∧ LsV 111 5 (hset h' i8 o) va (atoms.map Atm.cells) ∧ LsV 61 11 (hset h' i8 o) vb rows ∧ DenL 111 61 (hset h' i8 o) args rows ∧ KeepsX [sid] h (hset h' i8 o) := by
          intro tm' o hok b0 b3 b31 b32 b33
          refine ⟨i + 1, by omega, b0, b3, b31, b32, b33, fun a hm => ?_, g38 o, c8 o, ha'.keep (fun id sz xs hh => hk8 o id _ sz xs hh), hb'.keep (fun id sz xs hh => hk8 o id _ sz xs hh), hr'.keep (fun id e sz xs _ hh => hk8 o id e sz xs hh), k8 o⟩
          rw [hsn, List.mem_append] at hm
          rcases hm with hm | hm
          · exact hall a hm
          · rw [List.mem_singleton] at hm; rw [hm]; exact hok
        have nok : atomOK sl x = false → (if ((args.length : Int), (atoms.length : Int)) = S ∧ atoms.all (atomOK sl) = true then (rightL ps P op slot slot2 0 args sl).map (postC op slot slot2) else none) = none := fun hno => if_neg (fun y => by
          have := List.all_eq_true.1 y.2 x hxm
          rw [hno] at this; cases this)
        by_cases hs : x.slot = -1
        · have hao : atomOK sl x = litOK x.lit := by simp [atomOK, hs]
          simp -dsimp [hs]
          refine literal_ok hla' ?_
          by_cases hx2 : litOK x.lit = true
          · rw [hx2]
            simp -dsimp [t33, hw1, hs]
            exact Again.same (m - 1) (by omega) (again _ _ (hao.trans hx2) (by simp [t0]) (by simp [t3]) (by simp [t31]) (by simp [t32]) (by simp))
          · have hx3 : litOK x.lit = false := by simpa using hx2
            rw [hx3]
            simp -dsimp
            exact fin0 (k8 _) (s8 _) (nok (hao.trans hx3))
        · have hao : atomOK sl x = usedS sl x.slot := by simp [atomOK, hs]
          simp -dsimp [hs, t0]
          refine used_ok (c8 _) ?_
          by_cases hx2 : usedS sl x.slot = true
          · rw [hx2]
            simp -dsimp [t33, hw1]
            exact Again.same (m - 1) (by omega) (again _ _ (hao.trans hx2) (by simp [t0]) (by simp [t3]) (by simp [t31]) (by simp [t32]) (by simp))
          · have hx3 : usedS sl x.slot = false := by simpa using hx2
            rw [hx3]
            simp -dsimp
            exact fin0 (k8 _) (s8 _) (nok (hao.trans hx3))
      · have htk2 : atoms.take i = atoms := List.take_of_length_le (by omega)
        rw [htk2] at hall
        have hcond : ((args.length : Int), (atoms.length : Int)) = S ∧ atoms.all (atomOK sl) = true := ⟨by rw [e1, e2], List.all_eq_true.2 hall⟩
        rw [if_pos hcond] at hKf
        rw [if_pos hcond] at hKt
        simp -dsimp [t3, t31, t32, t33, hlt, g3, q10, hlb]
        have hRL : rightL ps P op slot slot2 0 args sl = rightL ps P op slot slot2 0 args sl := rfl
        refine ALoop.start (fun m tm h' => ∃ (i : Nat) (s : List Int), i + m = args.length ∧ tm 0 = .ptr kid 0 ∧ tm 3 = .ptr i3 0 ∧ tm 60 = vb ∧ tm 61 = .int .i64 args.length ∧ tm 62 = .int .i64 i ∧ s.length = sl.length ∧ rightL ps P op slot slot2 i (args.drop i) s = rightL ps P op slot slot2 0 args sl ∧
          h' i3 = .cells cs ∧ Kk ps P kid sid vs h' s ∧ LsV 61 11 h' vb rows ∧ DenL 111 61 h' args rows ∧ KeepsX [sid] h h') args.length
          ⟨0, sl, by simp, by simp [t0], by simp [t3], by simp, by simp, by simp, rfl, rfl, g3, c', hb', hr', kf⟩ ?_
        clear t0 t3 t31 t32 t33 g3 c' ha' hb' hr' kf hw1 hlt htk2 hall hi hRL
        clear i
        rintro m tm h' ⟨i, s, hi, t0, t3, t60, t61, t62, hsl, hinv, g3, c', hb', hr', kf⟩
        have hw1 : IntKind.i64.wrap ((i : Int) + 1) = ((i + 1 : Nat) : Int) := by rw [wrap_i64] <;> omega
        have finF : ∀ (H : Hp) (s2 : List Int), KeepsX [sid] h H → H sid = .arr 3 1 (intRows s2) → s2.length = sl.length → rightL ps P op slot slot2 0 args sl = none → Gives K (some (.bool false)) H := fun H s2 k g hl2 hx => Gives.sub (k.sub1 g) (hKf (by rw [hx]; rfl) s2 hl2)
        by_cases hlt : i < args.length
        · have hxa : args[i] ∈ args := List.getElem_mem hlt
          obtain ⟨r, hr1, hr2⟩ := hr'.get (List.getElem?_eq_getElem hlt)
          obtain ⟨pp, p1, p2, _, _⟩ := hb'.get hr1 hr2.len
          rw [List.drop_eq_getElem_cons hlt, rightL_cons] at hinv
          have hrl2 : r.length = 11 := hr2.len
          have hrt : r.take 11 = r := List.take_of_length_le (by omega)
          have hrd : r.drop 11 = [] := List.drop_eq_nil_of_le (by omega)
          generalize hx : args[i] = x at *
          simp -dsimp [t60, t61, t62, hlt, p1, p2]
          intro i10 d10
          have n310 := cells_ne g3 d10
          have c10 := c'.new (o := .cells r) d10
          have k10 := kf.new (o := .cells r) d10
          have g10 := hset_same h' i10 (.cells r)
          have g310 : hset h' i10 (.cells r) i3 = .cells cs := cells_new g3 d10
          have hk10 : ∀ (id e sz : Nat) (xs : List (List AV)), h' id = .arr e sz xs → hset h' i10 (.cells r) id = .arr e sz xs := fun id e sz xs hh => at_new hh (by simp) d10
          have hb10 := hb'.keep (h1 := hset h' i10 (.cells r)) (fun id sz xs hh => hk10 id _ sz xs hh)
          have hr10 : DenL 111 61 (hset h' i10 (.cells r)) args rows := hr'.keep (fun id e sz xs _ hh => hk10 id e sz xs hh)
          have hd10 : DenC 111 61 (hset h' i10 (.cells r)) x r := hr2.keep (fun id e sz xs _ hh => hk10 id e sz xs hh)
          have m10s : ¬ i10 = sid := by rintro rfl; rw [c'.cs] at d10; cases d10
          have m3s : ¬ i3 = sid := by rintro rfl; rw [c'.cs] at g3; cases g3
          simp -dsimp [hrl2, hrt, hrd]
          generalize hset h' i10 (.cells r) = H at *
          -- what stays when slots are set
          have gset : ∀ (H : Hp) (s' : List Int) (id e sz : Nat) (xs : List (List AV)), e = 111 ∨ e = 61 → H sid = .arr 3 1 (intRows s') → ∀ o, H id = .arr e sz xs → hset H sid o id = .arr e sz xs := fun H s' id e sz xs he hs o hh => by
            have : ¬ id = sid := by rintro rfl; rw [hs] at hh; cases hh; rcases he with he | he <;> cases he
            simp [this, hh]
          have again2 : ∀ (tm' : Tm) (H1 : Hp) (s1 s2 : List Int), preC P op slot slot2 i s = some s1 → rightC ps P x s1 = some s2 → Kk ps P kid sid vs H1 s1 → H1 i3 = .cells cs → LsV 61 11 H1 vb rows → DenL 111 61 H1 args rows → KeepsX [sid] h H1 → tm' 0 = .ptr kid 0 → tm' 3 = .ptr i3 0 → tm' 60 = vb → tm' 61 = .int .i64 args.length → tm' 62 = .int .i64 ((i + 1 : Nat) : Int) →
              ∃ (i : Nat) (s : List Int), i + (m - 1) = args.length ∧ tm' 0 = .ptr kid 0 ∧ tm' 3 = .ptr i3 0 ∧ tm' 60 = vb ∧ tm' 61 = .int .i64 args.length ∧ tm' 62 = .int .i64 i ∧ s.length = sl.length ∧ rightL ps P op slot slot2 i (args.drop i) s = rightL ps P op slot slot2 0 args sl ∧
              hset H1 sid (.arr 3 1 (intRows s2)) i3 = .cells cs ∧ Kk ps P kid sid vs (hset H1 sid (.arr 3 1 (intRows s2))) s ∧ LsV 61 11 (hset H1 sid (.arr 3 1 (intRows s2))) vb rows ∧ DenL 111 61 (hset H1 sid (.arr 3 1 (intRows s2))) args rows ∧ KeepsX [sid] h (hset H1 sid (.arr 3 1 (intRows s2))) := by
            intro tm' H1 s1 s2 hp1 hp2 cc gg bb rr kk b0 b3 b60 b61 b62
            refine ⟨i + 1, s2, by omega, b0, b3, b60, b61, b62, by rw [rightC_length hp2, preC_length hp1, hsl], ?_, by simp [m3s, gg], cc.set (rightC_length hp2), bb.keep (fun id sz xs hh => gset H1 s1 id _ sz xs (.inr rfl) cc.cs _ hh), rr.keep (fun id e sz xs he hh => gset H1 s1 id e sz xs he cc.cs _ hh), kk.mem (by simp)⟩
            rw [← hinv, hp1, Option.bind_some, hp2, Option.bind_some]
          by_cases o8 : op = 8
          · by_cases hi0 : i = 0
            · have hi0' : (i : Int) = 0 := by omega
              simp -dsimp [t0, t3, g310, q0, q1, o8, hi0, hi0']
              have hpc : preC P op slot slot2 i s = bindC P s slot := by simp [preC, o8, hi0, hi0']
              refine kbind_ok c10 ?_
              cases hbd : bindC P s slot with
              | none =>
                simp -dsimp
                exact finF _ s k10 c10.cs hsl (hinv.symm.trans (by rw [hpc, hbd, Option.bind_none]))
              | some s1 =>
                have hpre : preC P op slot slot2 i s = some s1 := hpc.trans hbd
                have hls : s1.length = s.length := preC_length hpre
                have c11 := c10.set hls
                have g11 : hset H sid (.arr 3 1 (intRows s1)) i3 = .cells cs := by simp [m3s, g310]
                have b11 := hb10.keep (h1 := hset H sid (.arr 3 1 (intRows s1))) (fun id sz xs hh => gset H s id _ sz xs (.inr rfl) c10.cs _ hh)
                have r11 : DenL 111 61 (hset H sid (.arr 3 1 (intRows s1))) args rows := hr10.keep (fun id e sz xs he hh => gset H s id e sz xs he c10.cs _ hh)
                have d11 : DenC 111 61 (hset H sid (.arr 3 1 (intRows s1))) x r := hd10.keep (fun id e sz xs he hh => gset H s id e sz xs he c10.cs _ hh)
                have k11 : KeepsX [sid] h (hset H sid (.arr 3 1 (intRows s1))) := k10.mem (by simp)
                simp -dsimp [t0, m10s, g10, hrl2, hrt]
                generalize hset H sid (.arr 3 1 (intRows s1)) = H1 at *
                have hl1 : (s1).length = sl.length := by rw [preC_length hpre, hsl]
                refine hrec' x hxa r _ _ _ c11 d11 (fun s2 hs2 => ?_) (fun hno s2 hl2 => ?_)
                · simp -dsimp [t62, hw1]
                  exact Again.same (m - 1) (by omega) (again2 _ _ _ s2 hpre hs2 c11 g11 b11 r11 k11 (by simp [t0]) (by simp [t3]) (by simp [t60]) (by simp [t61]) (by simp))
                · simp -dsimp
                  exact finF _ s2 ((k11).mem (by simp)) (by simp) (by rw [hl2, hl1]) (hinv.symm.trans (by rw [hpre, Option.bind_some, hno, Option.bind_none]))
            · have hi0' : ¬ (i : Int) = 0 := by omega
              have hpre : preC P op slot slot2 i s = some s := by simp [preC, o8, hi0, hi0']
              simp -dsimp [t0, t3, g310, q0, o8, hi0, hi0', g10, hrl2, hrt]
              have hl1 : (s).length = sl.length := by rw [preC_length hpre, hsl]
              refine hrec' x hxa r _ _ _ c10 hd10 (fun s2 hs2 => ?_) (fun hno s2 hl2 => ?_)
              · simp -dsimp [t62, hw1]
                exact Again.same (m - 1) (by omega) (again2 _ _ _ s2 hpre hs2 c10 g310 hb10 hr10 k10 (by simp [t0]) (by simp [t3]) (by simp [t60]) (by simp [t61]) (by simp))
              · simp -dsimp
                exact finF _ s2 ((k10).mem (by simp)) (by simp) (by rw [hl2, hl1]) (hinv.symm.trans (by rw [hpre, Option.bind_some, hno, Option.bind_none]))
          by_cases o9 : op = 9
          · by_cases hi0 : i = 1
            · have hi0' : (i : Int) = 1 := by omega
              simp -dsimp [t0, t3, g310, q0, q1, o9, hi0, hi0']
              have hpc : preC P op slot slot2 i s = bindC P s slot := by simp [preC, o9, hi0, hi0']
              refine kbind_ok c10 ?_
              cases hbd : bindC P s slot with
              | none =>
                simp -dsimp
                exact finF _ s k10 c10.cs hsl (hinv.symm.trans (by rw [hpc, hbd, Option.bind_none]))
              | some s1 =>
                have hpre : preC P op slot slot2 i s = some s1 := hpc.trans hbd
                have hls : s1.length = s.length := preC_length hpre
                have c11 := c10.set hls
                have g11 : hset H sid (.arr 3 1 (intRows s1)) i3 = .cells cs := by simp [m3s, g310]
                have b11 := hb10.keep (h1 := hset H sid (.arr 3 1 (intRows s1))) (fun id sz xs hh => gset H s id _ sz xs (.inr rfl) c10.cs _ hh)
                have r11 : DenL 111 61 (hset H sid (.arr 3 1 (intRows s1))) args rows := hr10.keep (fun id e sz xs he hh => gset H s id e sz xs he c10.cs _ hh)
                have d11 : DenC 111 61 (hset H sid (.arr 3 1 (intRows s1))) x r := hd10.keep (fun id e sz xs he hh => gset H s id e sz xs he c10.cs _ hh)
                have k11 : KeepsX [sid] h (hset H sid (.arr 3 1 (intRows s1))) := k10.mem (by simp)
                simp -dsimp [t0, m10s, g10, hrl2, hrt]
                generalize hset H sid (.arr 3 1 (intRows s1)) = H1 at *
                have hl1 : (s1).length = sl.length := by rw [preC_length hpre, hsl]
                refine hrec' x hxa r _ _ _ c11 d11 (fun s2 hs2 => ?_) (fun hno s2 hl2 => ?_)
                · simp -dsimp [t62, hw1]
                  exact Again.same (m - 1) (by omega) (again2 _ _ _ s2 hpre hs2 c11 g11 b11 r11 k11 (by simp [t0]) (by simp [t3]) (by simp [t60]) (by simp [t61]) (by simp))
                · simp -dsimp
                  exact finF _ s2 ((k11).mem (by simp)) (by simp) (by rw [hl2, hl1]) (hinv.symm.trans (by rw [hpre, Option.bind_some, hno, Option.bind_none]))
            · have hi0' : ¬ (i : Int) = 1 := by omega
              have hpre : preC P op slot slot2 i s = some s := by simp [preC, o9, hi0, hi0']
              simp -dsimp [t0, t3, g310, q0, o9, hi0, hi0', g10, hrl2, hrt]
              have hl1 : (s).length = sl.length := by rw [preC_length hpre, hsl]
              refine hrec' x hxa r _ _ _ c10 hd10 (fun s2 hs2 => ?_) (fun hno s2 hl2 => ?_)
              · simp -dsimp [t62, hw1]
                exact Again.same (m - 1) (by omega) (again2 _ _ _ s2 hpre hs2 c10 g310 hb10 hr10 k10 (by simp [t0]) (by simp [t3]) (by simp [t60]) (by simp [t61]) (by simp))
              · simp -dsimp
                exact finF _ s2 ((k10).mem (by simp)) (by simp) (by rw [hl2, hl1]) (hinv.symm.trans (by rw [hpre, Option.bind_some, hno, Option.bind_none]))
          by_cases o7 : op = 7
          · by_cases hi0 : i = 2
            · have hi0' : (i : Int) = 2 := by omega
              have hpc : preC P op slot slot2 i s = (bindC P s slot).bind (fun s => bindC P s slot2) := by simp [preC, o7, hi0]
              simp -dsimp [t0, t3, g310, q0, q1, o7, hi0, hi0']
              refine kbind_ok c10 ?_
              cases hbd : bindC P s slot with
              | none =>
                simp -dsimp
                exact finF _ s k10 c10.cs hsl (hinv.symm.trans (by rw [hpc, hbd, Option.bind_none, Option.bind_none]))
              | some s1 =>
                have hls : s1.length = s.length := by obtain ⟨_, _, rfl⟩ := bindC_some hbd; simp
                have c11 := c10.set hls
                have g11 : hset H sid (.arr 3 1 (intRows s1)) i3 = .cells cs := by simp [m3s, g310]
                have b11 := hb10.keep (h1 := hset H sid (.arr 3 1 (intRows s1))) (fun id sz xs hh => gset _ s id _ sz xs (.inr rfl) c10.cs _ hh)
                have r11 : DenL 111 61 (hset H sid (.arr 3 1 (intRows s1))) args rows := hr10.keep (fun id e sz xs he hh => gset _ s id e sz xs he c10.cs _ hh)
                have d11 : DenC 111 61 (hset H sid (.arr 3 1 (intRows s1))) x r := hd10.keep (fun id e sz xs he hh => gset _ s id e sz xs he c10.cs _ hh)
                have k11 : KeepsX [sid] h (hset H sid (.arr 3 1 (intRows s1))) := k10.mem (by simp)
                have g1011 : hset H sid (.arr 3 1 (intRows s1)) i10 = .cells r := by simp [m10s, g10]
                simp -dsimp [t0, t3, m3s, g310, q2]
                generalize hset H sid (.arr 3 1 (intRows s1)) = H1 at *
                refine kbind_ok c11 ?_
                cases hbd2 : bindC P s1 slot2 with
                | none =>
                  simp -dsimp
                  exact finF _ s1 k11 c11.cs (hls.trans hsl) (hinv.symm.trans (by rw [hpc, hbd, Option.bind_some, hbd2, Option.bind_none]))
                | some s3 =>
                  have hpre : preC P op slot slot2 i s = some s3 := by rw [hpc, hbd, Option.bind_some, hbd2]
                  have hls2 : s3.length = s1.length := by obtain ⟨_, _, rfl⟩ := bindC_some hbd2; simp
                  have c12 := c11.set hls2
                  have g12 : hset H1 sid (.arr 3 1 (intRows s3)) i3 = .cells cs := by simp [m3s, g11]
                  have b12 := b11.keep (h1 := hset H1 sid (.arr 3 1 (intRows s3))) (fun id sz xs hh => gset _ s1 id _ sz xs (.inr rfl) c11.cs _ hh)
                  have r12 : DenL 111 61 (hset H1 sid (.arr 3 1 (intRows s3))) args rows := r11.keep (fun id e sz xs he hh => gset _ s1 id e sz xs he c11.cs _ hh)
                  have d12 : DenC 111 61 (hset H1 sid (.arr 3 1 (intRows s3))) x r := d11.keep (fun id e sz xs he hh => gset _ s1 id e sz xs he c11.cs _ hh)
                  have k12 : KeepsX [sid] h (hset H1 sid (.arr 3 1 (intRows s3))) := k11.mem (by simp)
                  simp -dsimp [t0, m10s, g1011, hrl2, hrt]
                  generalize hset H1 sid (.arr 3 1 (intRows s3)) = H2 at *
                  have hl1 : (s3).length = sl.length := by rw [preC_length hpre, hsl]
                  refine hrec' x hxa r _ _ _ c12 d12 (fun s2 hs2 => ?_) (fun hno s2 hl2 => ?_)
                  · simp -dsimp [t62, hw1]
                    exact Again.same (m - 1) (by omega) (again2 _ _ _ s2 hpre hs2 c12 g12 b12 r12 k12 (by simp [t0]) (by simp [t3]) (by simp [t60]) (by simp [t61]) (by simp))
                  · simp -dsimp
                    exact finF _ s2 ((k12).mem (by simp)) (by simp) (by rw [hl2, hl1]) (hinv.symm.trans (by rw [hpre, Option.bind_some, hno, Option.bind_none]))
            · have hi0' : ¬ (i : Int) = 2 := by omega
              have hpre : preC P op slot slot2 i s = some s := by simp [preC, o7, hi0, hi0']
              simp -dsimp [t0, t3, g310, q0, o7, hi0, hi0', g10, hrl2, hrt]
              have hl1 : (s).length = sl.length := by rw [preC_length hpre, hsl]
              refine hrec' x hxa r _ _ _ c10 hd10 (fun s2 hs2 => ?_) (fun hno s2 hl2 => ?_)
              · simp -dsimp [t62, hw1]
                exact Again.same (m - 1) (by omega) (again2 _ _ _ s2 hpre hs2 c10 g310 hb10 hr10 k10 (by simp [t0]) (by simp [t3]) (by simp [t60]) (by simp [t61]) (by simp))
              · simp -dsimp
                exact finF _ s2 ((k10).mem (by simp)) (by simp) (by rw [hl2, hl1]) (hinv.symm.trans (by rw [hpre, Option.bind_some, hno, Option.bind_none]))
          · have hpre : preC P op slot slot2 i s = some s := by simp [preC, o7, o8, o9]
            simp -dsimp [t0, t3, g310, q0, o7, o8, o9, g10, hrl2, hrt]
            have hl1 : (s).length = sl.length := by rw [preC_length hpre, hsl]
            refine hrec' x hxa r _ _ _ c10 hd10 (fun s2 hs2 => ?_) (fun hno s2 hl2 => ?_)
            · simp -dsimp [t62, hw1]
              exact Again.same (m - 1) (by omega) (again2 _ _ _ s2 hpre hs2 c10 g310 hb10 hr10 k10 (by simp [t0]) (by simp [t3]) (by simp [t60]) (by simp [t61]) (by simp))
            · simp -dsimp
              exact finF _ s2 ((k10).mem (by simp)) (by simp) (by rw [hl2, hl1]) (hinv.symm.trans (by rw [hpre, Option.bind_some, hno, Option.bind_none]))
        · have hdn : args.drop i = [] := List.drop_eq_nil_of_le (by omega)
          rw [hdn, rightL] at hinv
          have hsome : rightL ps P op slot slot2 0 args sl = some s := hinv.symm
          have hin := fun ho => slots_in (n := atoms.length) (args := args) (sl0 := sl) (func := func) (prim := prim) (lit := lit) (show _ = shapeC ps sl op slot func prim lit from hcond.1.trans hS.symm) hsome ho
          have hKs := hKt (postC op slot slot2 s) (by rw [hsome]; rfl)
          have n3 : ¬ i3 = sid := by rintro rfl; rw [c'.cs] at g3; cases g3
          have nks := c'.ne
          have fin : ∀ (H : Hp), KeepsX [sid] h H → H sid = .arr 3 1 (intRows (postC op slot slot2 s)) → Gives K (some (.bool true)) H := fun H k g => Gives.sub (k.sub1 g) hKs
          by_cases o7 : op = 7
          · obtain ⟨a1, a2, a3⟩ := hin (.inl o7)
            obtain ⟨b1, b2⟩ := a3 o7
            have a4 : slot < s.length := by omega
            have b4 : slot2 < s.length := by omega
            have a5 : slot.toNat < s.length := by omega
            have b5 : slot2.toNat < s.length := by omega
            have nk3 : ¬ kid = sid := nks
            have hgs : ((s.map fun x => [AV.int IntKind.i64 x]).set slot.toNat [AV.int .i64 2])[slot2.toNat]? = some [.int .i64 ((s.set slot.toNat 2).getD slot2.toNat 0)] := by
              have : (s.map fun x => [AV.int IntKind.i64 x]).set slot.toNat [AV.int .i64 2] = (s.set slot.toNat 2).map fun x => [AV.int IntKind.i64 x] := by simp [List.map_set]
              have hl5 : slot2.toNat < (s.set slot.toNat 2).length := by simpa using b5
              have hgd : (s.set slot.toNat 2).getD slot2.toNat 0 = (s.set slot.toNat 2)[slot2.toNat] := by
                rw [List.getD_eq_getElem?_getD, List.getElem?_eq_getElem hl5]; rfl
              rw [this, List.getElem?_map, List.getElem?_eq_getElem hl5, hgd]
              rfl
            have hgs2 : ((s.map fun x => [AV.int IntKind.i64 x]).set slot.toNat [AV.int .i64 2])[slot2.toNat]'(by simp [b5]) = [.int .i64 ((s.set slot.toNat 2).getD slot2.toNat 0)] := by
              rw [List.getElem?_eq_getElem (by simp [b5])] at hgs
              exact Option.some.inj hgs
            simp -dsimp [t0, t3, t60, t61, t62, hlt, g3, q0, q1, q2, o7, c'.ck, c'.cs, n3, nk3, a1, a2, a4, a5, b1, b2, b4, b5, hgs2, intRows, Stable, AIns.wants, QStep]
            refine fin _ ?_ ?_
            · exact kf.mem (by simp)
            · simp [postC, o7, intRows, List.map_set]
          by_cases o8 : op = 8
          · obtain ⟨a1, a2, _⟩ := hin (.inr (.inl o8))
            have a4 : slot < s.length := by omega
            have a5 : slot.toNat < s.length := by omega
            simp -dsimp [t0, t3, t60, t61, t62, hlt, g3, q0, q1, q2, o8, c'.ck, c'.cs, n3, nks, a1, a2, a4, a5, intRows, Stable, AIns.wants, QStep]
            refine fin _ ?_ ?_
            · exact kf.mem (by simp)
            · simp [postC, o8, intRows, List.map_set]
          by_cases o9 : op = 9
          · obtain ⟨a1, a2, _⟩ := hin (.inr (.inr o9))
            have a4 : slot < s.length := by omega
            have a5 : slot.toNat < s.length := by omega
            simp -dsimp [t0, t3, t60, t61, t62, hlt, g3, q0, q1, q2, o9, c'.ck, c'.cs, n3, nks, a1, a2, a4, a5, intRows, Stable, AIns.wants, QStep]
            refine fin _ ?_ ?_
            · exact kf.mem (by simp)
            · simp [postC, o9, intRows, List.map_set]
          · simp -dsimp [t0, t3, t60, t61, t62, hlt, g3, q0, o7, o8, o9]
            refine fin _ kf ?_
            rw [c'.cs]
            simp [postC, o7, o8, o9]
    · have hne : ¬ (((args.length : Int), (atoms.length : Int)) = S ∧ atoms.all (atomOK sl) = true) := fun x => e2 (by rw [← x.1])
      simp -dsimp [g3, q9, q10, hla, hlb, e1.symm, e2]
      exact fin0 k3 c3.cs (if_neg hne)
  · have hne : ¬ (((args.length : Int), (atoms.length : Int)) = S ∧ atoms.all (atomOK sl) = true) := fun x => e1 (by rw [← x.1])
    simp -dsimp [g3, q9, q10, hla, hlb, e1]
    exact fin0 k3 c3.cs (if_neg hne)
mutual
theorem right_ok (hps : ps.length ≤ 1000000) : ∀ (c : Cd), c.nums → RC ps P kid sid vs c
  | .mk op slot slot2 func prim lit atoms args, hn => right_step hps hn (rights_ok hps args hn.2.2.2.2)
theorem rights_ok (hps : ps.length ≤ 1000000) : ∀ (l : List Cd), Cd.numsL l → ∀ a ∈ l, RC ps P kid sid vs a
  | [], _, a, h => by cases h
  | c :: l, hn, a, h => by
    rcases List.mem_cons.1 h with e | h
    · rw [e]; exact right_ok hps c hn.1
    · exact rights_ok hps l hn.2 a h
end
end
end Go.Proofs.YtcpkdbofohkipaaGreat

/- The program's check of flat programs: how many slots are bound. -/
namespace Go.Proofs.YtcpkdbofohkipaaGreat
open Go.AM

theorem keyEq_int (a b : Int) : keyEq true (.int .i64 a) (.int .i64 b) = some (decide (a = b)) := by
  simp only [keyEq]
  by_cases h : a = b <;> simp [h]
def bdT : ACode := match c59.code with | .seq _ (.seq _ x) => x | _ => .skip
/-- What is promised of 'binds'. -/
def BC (c : Cd) : Prop := ∀ (cs : List AV) (h : Hp) (K : AV → Hp → Prop), DenC 111 61 h c cs → K (.int .i64 (bindsC c : Nat)) h → ACalls Tryz.prog 59 [.agg cs] h K
theorem bindsL_snoc : ∀ (l : List Cd) (a : Cd), bindsL (l ++ [a]) = bindsL l + bindsC a
  | [], a => by simp [bindsL]
  | b :: l, a => by simp only [List.cons_append, bindsL, bindsL_snoc l a]; omega
theorem bindsL_take {l : List Cd} {i : Nat} (h : i < l.length) : bindsL (l.take (i + 1)) = bindsL (l.take i) + bindsC l[i] ∧ bindsL (l.take (i + 1)) ≤ bindsL l := by
  constructor
  · rw [take_snoc l h, bindsL_snoc]
  · have : ∀ (a b : List Cd), bindsL (a ++ b) = bindsL a + bindsL b := by
      intro a b
      induction a with
      | nil => simp [bindsL]
      | cons x a ih => simp only [List.cons_append, bindsL, ih]; omega
    have h2 := this (l.take (i + 1)) (l.drop (i + 1))
    rw [List.take_append_drop] at h2
    omega
theorem binds_step {cd : Cd} (hb : bindsC cd ≤ 1000000000) (hal : cd.args.length ≤ 1000000) (hrec : ∀ a ∈ cd.args, BC a) : BC cd := by
  intro cs h K hd hK
  have hd0 := hd
  obtain ⟨op, slot, slot2, func, prim, lit, atoms, args⟩ := cd
  obtain ⟨va, vb, rows, hcs, ha, hbv, hr⟩ := hd
  have hrec' : ∀ a ∈ args, BC a := hrec
  replace hal : args.length ≤ 1000000 := hal
  have hcl : cs.length = 11 := hd0.len
  have q0 : cs[0]? = some (.int .i64 op) := by rw [hcs]; rfl
  have q10 : cs[10]? = some vb := by rw [hcs]; rfl
  have hrl := hr.length
  have hlb := hbv.len
  rw [hrl] at hlb
  replace hK : K (.int .i64 (((if op = 8 ∨ op = 9 then 1 else if op = 7 then 2 else 0) + bindsL args : Nat) : Int)) h := by rw [bindsC] at hK; exact hK
  replace hb : (if op = 8 ∨ op = 9 then 1 else if op = 7 then 2 else 0) + bindsL args ≤ 1000000000 := by rw [bindsC] at hb; exact hb
  generalize hB : (if op = 8 ∨ op = 9 then 1 else if op = 7 then 2 else 0 : Nat) = B at *
  have hf : ((if op = 8 then (1 : Int) else if op = 9 then 1 else if op = 7 then 2 else 0)) = (B : Int) := by
    rw [← hB]
    by_cases o8 : op = 8
    · simp [o8]
    by_cases o9 : op = 9
    · simp [o9]
    by_cases o7 : op = 7
    · simp [o7]
    · simp [o7, o8, o9]
  have hrest : ∀ (tm : Tm) (H : Hp) (i1 : Nat), tm 1 = .ptr i1 0 → tm 3 = .int .i64 (B : Int) → H i1 = .cells cs → Keeps h H → AW Tryz.prog bdT (fun e tm h' => match e with | .exit _ => False | _ => Gives K (some (tm 2)) h') tm H := by
    intro tm H i1 t1 t3 g1 kf
    have hb1 : LsV 61 11 H vb rows := hbv.keep fun id sz xs hh => kf.at hh (by simp)
    have hr1 : DenL 111 61 H args rows := hr.keep fun id e sz xs _ hh => kf.at hh (by simp)
    simp -dsimp [bdT, c59, t1, g1, q10, hlb]
    refine ALoop.start (fun m tm h' => ∃ i : Nat, i + m = args.length ∧ tm 1 = .ptr i1 0 ∧ tm 3 = .int .i64 ((B + bindsL (args.take i) : Nat) : Int) ∧ tm 12 = vb ∧ tm 13 = .int .i64 args.length ∧ tm 14 = .int .i64 i ∧ LsV 61 11 h' vb rows ∧ DenL 111 61 h' args rows ∧ Keeps h h') args.length
      ⟨0, by simp, by simp [t1], by simp [t3, bindsL], by simp, by simp, by simp, hb1, hr1, kf⟩ ?_
    clear t1 t3 g1 kf hb1 hr1
    rintro m tm h' ⟨i, hi, t1, t3, t12, t13, t14, hb', hr', kf⟩
    have hw1 : IntKind.i64.wrap ((i : Int) + 1) = ((i + 1 : Nat) : Int) := by rw [wrap_i64] <;> omega
    by_cases hlt : i < args.length
    · have hxa : args[i] ∈ args := List.getElem_mem hlt
      obtain ⟨r, hr1, hr2⟩ := hr'.get (List.getElem?_eq_getElem hlt)
      obtain ⟨pp, p1, p2, _, _⟩ := hb'.get hr1 hr2.len
      obtain ⟨hbt1, hbt2⟩ := bindsL_take hlt
      have hrl2 : r.length = 11 := hr2.len
      have hrt : r.take 11 = r := List.take_of_length_le (by omega)
      have hrd : r.drop 11 = [] := List.drop_eq_nil_of_le (by omega)
      generalize hx : args[i] = x at *
      generalize hT : bindsL (args.take i) = T at *
      have hw2 : IntKind.i64.wrap (((B + T : Nat) : Int) + (bindsC x : Nat)) = ((B + (T + bindsC x) : Nat) : Int) := by rw [wrap_i64] <;> omega
      simp -dsimp [t12, t13, t14, hlt, p1, p2]
      intro i5 d5
      have hk5 : ∀ (id e sz : Nat) (xs : List (List AV)), h' id = .arr e sz xs → hset h' i5 (.cells r) id = .arr e sz xs := fun id e sz xs hh => at_new hh (by simp) d5
      have hb5 := hb'.keep (h1 := hset h' i5 (.cells r)) (fun id sz xs hh => hk5 id _ sz xs hh)
      have hr5 : DenL 111 61 (hset h' i5 (.cells r)) args rows := hr'.keep (fun id e sz xs _ hh => hk5 id e sz xs hh)
      have hd5 : DenC 111 61 (hset h' i5 (.cells r)) x r := hr2.keep (fun id e sz xs _ hh => hk5 id e sz xs hh)
      have k5 := kf.new (o := .cells r) d5
      simp -dsimp [hrl2, hrt, hrd]
      refine hrec' x hxa r _ _ hd5 ?_
      simp -dsimp [-Int.natCast_add, t3, t14, hw1, hw2]
      exact Again.same (m - 1) (by omega) ⟨i + 1, by omega, by simp [t1], by simp [hbt1], by simp [t12], by simp [t13], by simp, hb5, hr5, k5⟩
    · have htk : args.take i = args := List.take_of_length_le (by omega)
      rw [htk] at t3
      simp -dsimp [t3, t12, t13, t14, hlt]
      exact Gives.sub kf.sub hK
  refine calls_of mixed Tryz.func59 comp59 (Nat.le_of_ble_eq_true rfl) ?_
  have hsplit2 : c59.code = .seq (match c59.code with | .seq a _ => a | _ => .skip) (.seq (match c59.code with | .seq _ (.seq b _) => b | _ => .skip) bdT) := rfl
  rw [hsplit2]
  generalize bdT = T at *
  simp -dsimp [c59]
  intro i1 d1
  have g1 := hset_same h i1 (.cells cs)
  simp -dsimp
  intro mid dm
  have n1m := cells_ne g1 dm
  have km : Keeps h (hset (hset h i1 (.cells cs)) mid (.map [])) := ((Keeps.refl h).new d1).new dm
  have ks : ∀ o, Keeps h (hset (hset h i1 (.cells cs)) mid o) := fun o => ((Keeps.refl h).new d1).new dm
  simp -dsimp [putK, findK, keyEq_int, n1m, q0]
  by_cases o8 : op = 8
  · simp -dsimp [o8]
    exact hrest _ _ i1 (by simp) (by rw [← hf]; simp [o8]) (by simp [n1m]) (ks _)
  by_cases o9 : op = 9
  · simp -dsimp [o8, o9]
    exact hrest _ _ i1 (by simp) (by rw [← hf]; simp [o9]) (by simp [n1m]) (ks _)
  by_cases o7 : op = 7
  · simp -dsimp [o7, o8, o9]
    exact hrest _ _ i1 (by simp) (by rw [← hf]; simp [o7]) (by simp [n1m]) (ks _)
  · simp -dsimp [o7, o8, o9]
    exact hrest _ _ i1 (by simp) (by rw [← hf]; simp [o7, o8, o9]) (by simp [n1m]) (ks _)
mutual
theorem binds_ok : ∀ (c : Cd), c.nums → bindsC c ≤ 1000000000 → BC c
  | .mk op slot slot2 func prim lit atoms args, hn, hb => binds_step hb hn.2.2.2.1 (bindss_ok args hn.2.2.2.2 (by rw [bindsC] at hb; omega))
theorem bindss_ok : ∀ (l : List Cd), Cd.numsL l → bindsL l ≤ 1000000000 → ∀ a ∈ l, BC a
  | [], _, _, a, h => by cases h
  | c :: l, hn, hb, a, h => by
    rcases List.mem_cons.1 h with e | h
    · rw [e]; exact binds_ok c hn.1 (by simp only [bindsL] at hb; omega)
    · exact bindss_ok l hn.2 (by simp only [bindsL] at hb; omega) a h
end
end Go.Proofs.YtcpkdbofohkipaaGreat
