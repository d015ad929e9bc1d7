/- The document's likeness of values, codes and cores: of what is the same. -/
import Derived.Test.YtcpkdbofohkipaaGreatKcc
import Derived.Test.YtcpkdbofohkipaaGreatKCgE
set_option linter.unusedVariables false
set_option linter.unusedSimpArgs false
namespace Go.Proofs.YtcpkdbofohkipaaGreat
open Go.AM
section
variable {h : Hp} {K : AV → Hp → Prop}

theorem part_ok {n : Int} (hn : Whl n) (hK : K (.tup [.int .i64 n, .bool true]) h) : ACalls Tryz.prog 104 [.flt (FloatKind.f64.nearest n)] h K := by
  refine calls_of mixed Tryz.func104 comp104 (Nat.le_of_ble_eq_true rfl) ?_
  have h1 := geq_most hn
  have h2 := leq_most hn
  have h3 := eql_zero hn
  have h4 := aCfi_near hn.lt
  have h5 := eql_near hn hn
  have h6 : aFext .bits (.flt (FloatKind.f64.nearest n)) = some (.int .u64 (FloatKind.f64.nearest n : Int)) := rfl
  by_cases h0 : n = 0
  · subst h0
    have hz : FloatKind.f64.nearest 0 = 0 := near_zero
    simp only [hz] at h1 h2 h3 h4 h5 h6
    simp -dsimp [c104, hz, h1, h2, h3, h4, h5, h6]
    exact Gives.same hK
  · simp -dsimp [c104, h1, h2, h3, h4, h5, h6, h0]
    exact Gives.same hK

theorem of_ok {re im : Nat} (hn : numOK re im) (hK : ∀ a b : Int, K (.tup [.agg [.int .i64 a, .int .i64 b], .bool true]) h) : ACalls Tryz.prog 73 [.cplx re im] h K := by
  obtain ⟨a, b, h1, h2, h3, h4, rfl, rfl⟩ := hn
  refine calls_of mixed Tryz.func73 comp73 (Nat.le_of_ble_eq_true rfl) ?_
  simp -dsimp [c73]
  intro i2 d2
  simp -dsimp
  refine part_ok ⟨h1, h2⟩ ?_
  simp -dsimp
  refine part_ok ⟨h3, h4⟩ ?_
  simp -dsimp
  exact Gives.sub ((Keeps.refl h).set d2).sub (hK a b)
theorem cplx0 : cplxEq 0 0 0 0 = true := by decide
theorem valid_ok {v : Vl} (hv : VlGood v) (hK : K (.bool true) h) : ACalls Tryz.prog 98 [.agg v.cells] h K := by
  obtain ⟨ty, re, im, b, ls⟩ := v
  obtain ⟨hl, hn, hv⟩ := hv
  simp only at hl hn hv
  subst hl
  have zl : rowsAV (zRows []) = .nl := rfl
  refine calls_of mixed Tryz.func98 comp98 (Nat.le_of_ble_eq_true rfl) ?_
  simp -dsimp [c98, Vl.cells, zl]
  intro i1 d1
  simp -dsimp
  refine of_ok hn fun x y => ?_
  simp -dsimp
  intro i3 d3
  have n13 := hset_ne d3
  have n31 : ¬ i3 = i1 := fun x => n13 x.symm
  have d3' : h i3 = .dead := by simpa [n31] using d3
  have ks : ∀ o1 o2, Keeps h (hset (hset h i1 o1) i3 o2) := fun o1 o2 => ((Keeps.refl h).set d1).set d3'
  simp -dsimp
  refine ALoop.start (fun m tm h' => tm 1 = .ptr i1 0 ∧ tm 4 = .bool true ∧ tm 5 = .int .i64 0 ∧ h' i1 = .cells [.int .i64 ty, .cplx re im, .bool b, .nl] ∧ Keeps h h') 0 ⟨by simp, by simp, by simp, by simp [n13], ks _ _⟩ ?_
  rintro m tm h' ⟨t1, t4, t5, g1, kf⟩
  simp -dsimp [t1, t4, t5, g1]
  rcases hv with ⟨rfl, rfl⟩ | ⟨rfl, rfl, rfl⟩ | ⟨rfl, rfl, rfl, rfl⟩
  · simp -dsimp [t1, t4, t5, g1]
    exact Gives.sub kf.sub hK
  · simp -dsimp [t1, t4, t5, g1, cplx0]
    exact Gives.sub kf.sub hK
  · simp -dsimp [t1, t4, t5, g1, cplx0]
    exact Gives.sub kf.sub hK
theorem same9_ok {v : Vl} (hv : VlGood v) (hK : K (.bool true) h) : ACalls Tryz.prog 92 [.agg v.cells, .agg v.cells] h K := by
  have hg := hv
  obtain ⟨ty, re, im, b, ls⟩ := v
  obtain ⟨hl, hn, hv⟩ := hv
  simp only at hl hn hv
  subst hl
  have zl : rowsAV (zRows []) = .nl := rfl
  have hq := cplxEq_same hn
  refine calls_of mixed Tryz.func92 comp92 (Nat.le_of_ble_eq_true rfl) ?_
  simp -dsimp [c92]
  intro i2 d2
  simp -dsimp
  intro i3 d3
  have n23 := hset_ne d3
  have n32 : ¬ i3 = i2 := fun x => n23 x.symm
  have d3' : h i3 = .dead := by simpa [n32] using d3
  have ks : ∀ o1 o2, Keeps h (hset (hset h i2 o1) i3 o2) := fun o1 o2 => ((Keeps.refl h).set d2).set d3'
  simp -dsimp [n23]
  refine valid_ok hg ?_
  simp -dsimp
  refine valid_ok hg ?_
  simp -dsimp [n23, Vl.cells, zl, hq]
  refine ALoop.start (fun m tm h' => tm 2 = .ptr i2 0 ∧ tm 5 = .int .i64 0 ∧ h' i2 = .cells [.int .i64 ty, .cplx re im, .bool b, .nl] ∧ Keeps h h') 0 ⟨by simp, by simp, by simp [n23], ks _ _⟩ ?_
  rintro m tm h' ⟨t2, t5, g2, kf⟩
  simp -dsimp [t2, t5, g2]
  exact Gives.sub kf.sub hK
theorem gwhole_ok {v : Vl} (hv : VlGood v ∨ v = vl0) (hK : K (.bool true) h) : ACalls Tryz.prog 58 [.agg v.cells, .agg v.cells] h K := by
  refine calls_of mixed Tryz.func58 comp58 (Nat.le_of_ble_eq_true rfl) ?_
  have zl : rowsAV (zRows []) = .nl := rfl
  simp -dsimp [c58]
  intro i2 d2
  simp -dsimp
  intro i3 d3
  have n23 := hset_ne d3
  have n32 : ¬ i3 = i2 := fun x => n23 x.symm
  have d3' : h i3 = .dead := by simpa [n32] using d3
  have ks : ∀ o1 o2, Keeps h (hset (hset h i2 o1) i3 o2) := fun o1 o2 => ((Keeps.refl h).set d2).set d3'
  rcases hv with hv | rfl
  · have ht : ¬ v.ty = 0 := by rcases hv.2.2 with ⟨x, _⟩ | ⟨x, _⟩ | ⟨x, _⟩ <;> omega
    have q0 : v.cells[0]? = some (.int .i64 v.ty) := rfl
    simp -dsimp [n23, n32, q0, ht]
    refine same9_ok hv ?_
    simp -dsimp
    exact Gives.sub (ks _ _).sub hK
  · simp -dsimp [n23, n32, vl0, Vl.cells, zl, cplx0]
    exact Gives.sub (ks _ _).sub hK
end
end Go.Proofs.YtcpkdbofohkipaaGreat

/- The document's likeness of codes and cores: of what is the same. -/
namespace Go.Proofs.YtcpkdbofohkipaaGreat
open Go.AM

/-- What is promised of SameCode. -/
def SC (c : Cd) : Prop := ∀ (h : Hp) (K : AV → Hp → Prop), K (.bool true) h → ACalls Tryz.prog 29 [.agg c.cells, .agg c.cells] h K
theorem samecode_step {c : Cd} (hf : c.fine) (hrec : ∀ a ∈ c.args, SC a) : SC c := by
  intro h K hK
  obtain ⟨op, slot, slot2, func, prim, lit, atoms, args⟩ := c
  obtain ⟨hl, hat, hal, hgl, _⟩ := hf
  have hrec' : ∀ a ∈ args, SC a := hrec
  refine calls_of mixed Tryz.func29 comp29 (Nat.le_of_ble_eq_true rfl) ?_
  simp -dsimp [c29]
  intro i2 d2
  simp -dsimp
  intro i3 d3
  have n23 := hset_ne d3
  have n32 : ¬ i3 = i2 := fun x => n23 x.symm
  have d3' : h i3 = .dead := by simpa [n32] using d3
  have ks : ∀ o1 o2, Keeps h (hset (hset h i2 o1) i3 o2) := fun o1 o2 => ((Keeps.refl h).set d2).set d3'
  simp -dsimp [n23, Cd.op, Cd.slot, Cd.slot2, Cd.func, Cd.prim, Cd.lit, Cd.atoms, Cd.args]
  refine gwhole_ok hl ?_
  simp -dsimp [n23, Cd.atoms, Cd.args]
  generalize hcells : (Cd.mk op slot slot2 func prim lit atoms args).cells = cells
  have q9 : cells[9]? = some (rowsAV (atoms.map Atm.cells)) := by rw [← hcells]; exact Cd.q9
  have q10 : cells[10]? = some (rowsAV (args.map Cd.cells)) := by rw [← hcells]; exact Cd.q10
  refine ALoop.start (fun m tm h' => ∃ i : Nat, i + m = atoms.length ∧ tm 2 = .ptr i2 0 ∧ tm 3 = .ptr i3 0 ∧ tm 5 = .int .i64 i ∧ h' = hset (hset h i2 (.cells cells)) i3 (.cells cells)) atoms.length ⟨0, by simp, by simp, by simp, by simp, rfl⟩ ?_
  rintro m tm h' ⟨i, hi, t2, t3, t5, rfl⟩
  have hw1 : IntKind.i64.wrap ((i : Int) + 1) = ((i + 1 : Nat) : Int) := by rw [wrap_i64] <;> omega
  by_cases hlt : i < atoms.length
  · have ha := hat _ (List.getElem_mem hlt)
    generalize hx : atoms[i] = x at *
    simp -dsimp [t2, t3, t5, n23, q9, hlt, hx, Stable, AIns.wants, QStep]
    refine gwhole_ok ha ?_
    simp -dsimp [t2, t3, t5, n23, q9, hlt, hx, Stable, AIns.wants, QStep, hw1]
    exact Again.same (m - 1) (by omega) ⟨i + 1, by omega, by simp [t2], by simp [t3], by simp, rfl⟩
  · simp -dsimp [t2, t3, t5, n23, q9, hlt]
    refine ALoop.start (fun m tm h' => ∃ i : Nat, i + m = args.length ∧ tm 2 = .ptr i2 0 ∧ tm 3 = .ptr i3 0 ∧ tm 6 = .int .i64 i ∧ h' = hset (hset h i2 (.cells cells)) i3 (.cells cells)) args.length ⟨0, by simp, by simp [t2], by simp [t3], by simp, rfl⟩ ?_
    clear t2 t3 t5 hlt hw1 hi
    clear i
    rintro m tm h' ⟨i, hi, t2, t3, t6, rfl⟩
    have hw1 : IntKind.i64.wrap ((i : Int) + 1) = ((i + 1 : Nat) : Int) := by rw [wrap_i64] <;> omega
    by_cases hlt : i < args.length
    · have ha := hrec' _ (List.getElem_mem hlt)
      generalize hx : args[i] = x at *
      simp -dsimp [t2, t3, t6, n23, q10, hlt, hx, Stable, AIns.wants, QStep]
      refine ha _ _ ?_
      simp -dsimp [t2, t3, t6, n23, q10, hlt, hx, Stable, AIns.wants, QStep, hw1]
      exact Again.same (m - 1) (by omega) ⟨i + 1, by omega, by simp [t2], by simp [t3], by simp, rfl⟩
    · simp -dsimp [t2, t3, t6, n23, q10, hlt]
      exact Gives.sub (ks _ _).sub hK
mutual
theorem samecode_ok : ∀ (c : Cd), c.fine → SC c
  | .mk op slot slot2 func prim lit atoms args, hf => samecode_step hf (samecodes_ok args hf.2.2.2.2)
theorem samecodes_ok : ∀ (l : List Cd), Cd.fineL l → ∀ a ∈ l, SC a
  | [], _, a, h => by cases h
  | c :: l, hf, a, h => by
    rcases List.mem_cons.1 h with e | h
    · rw [e]; exact samecode_ok c hf.1
    · exact samecodes_ok l hf.2 a h
end
structure Sup.fine (s : Sup) : Prop where
  code : s.code.fine
  len : s.params.length ≤ 1000000
def coreAV (l : List Sup) : AV := .agg [rowsAV (l.map Sup.cells)]
@[simp] theorem Sup.q0 {s : Sup} : s.cells[0]? = some (.str s.name) := rfl
@[simp] theorem Sup.q1 {s : Sup} : s.cells[1]? = some (rowsAV (intRows s.params)) := rfl
@[simp] theorem Sup.q2 {s : Sup} : s.cells[2]? = some (.int .i64 s.ty) := rfl
@[simp] theorem Sup.q3 {s : Sup} : s.cells[3]? = some (.int .i64 s.slots) := rfl
@[simp] theorem Sup.code11 (s : Sup) : (s.cells.drop 4).take 11 = s.code.cells := by
  show s.code.cells.take 11 = _
  simp
@[simp] theorem Sup.take15 (s : Sup) : s.cells.take 15 = s.cells := List.take_of_length_le (by simp)
@[simp] theorem Sup.drop15 (s : Sup) : s.cells.drop 15 = [] := List.drop_eq_nil_of_le (by simp)
@[simp] theorem Sup.c0 {s : Sup} {h : 0 < s.cells.length} : s.cells[0] = .str s.name := rfl
@[simp] theorem Sup.c1 {s : Sup} {h : 1 < s.cells.length} : s.cells[1] = rowsAV (intRows s.params) := rfl
@[simp] theorem Sup.c2 {s : Sup} {h : 2 < s.cells.length} : s.cells[2] = .int .i64 s.ty := rfl
@[simp] theorem Sup.c3 {s : Sup} {h : 3 < s.cells.length} : s.cells[3] = .int .i64 s.slots := rfl
theorem same_ok {l : List Sup} {h : Hp} {K : AV → Hp → Prop} (hl : l.length ≤ 1000000) (hf : ∀ s ∈ l, Sup.fine s) (hK : K (.bool true) h) : ACalls Tryz.prog 12 [coreAV l, coreAV l] h K := by
  refine calls_of mixed Tryz.func12 comp12 (Nat.le_of_ble_eq_true rfl) ?_
  simp -dsimp [c12, coreAV]
  intro i2 d2
  simp -dsimp
  intro i3 d3
  have n23 := hset_ne d3
  have n32 : ¬ i3 = i2 := fun x => n23 x.symm
  have ks : Keeps h (hset (hset h i2 (.cells [rowsAV (l.map Sup.cells)])) i3 (.cells [rowsAV (l.map Sup.cells)])) := ((Keeps.refl h).new d2).new d3
  simp -dsimp [n23]
  refine ALoop.start (fun m tm h' => ∃ i : Nat, i + m = l.length ∧ tm 2 = .ptr i2 0 ∧ tm 3 = .ptr i3 0 ∧ tm 5 = .int .i64 i ∧ h' i2 = .cells [rowsAV (l.map Sup.cells)] ∧ h' i3 = .cells [rowsAV (l.map Sup.cells)] ∧ Keeps h h') l.length ⟨0, by simp, by simp, by simp, by simp, by simp [n23], by simp, ks⟩ ?_
  rintro m tm h' ⟨i, hi, t2, t3, t5, g2, g3, kf⟩
  have hw1 : IntKind.i64.wrap ((i : Int) + 1) = ((i + 1 : Nat) : Int) := by rw [wrap_i64] <;> omega
  by_cases hlt : i < l.length
  · have hs := hf _ (List.getElem_mem hlt)
    generalize hx : l[i] = s at *
    have hlp := hs.len
    simp -dsimp [t2, t3, t5, g2, g3, hlt, hx]
    intro i6 d6
    have a2 := cells_new (o' := .cells s.cells) g2 d6
    have a3 := cells_new (o' := .cells s.cells) g3 d6
    have n36 := cells_ne g3 d6
    have n26 := cells_ne g2 d6
    simp -dsimp [t3, t5, n36, g3, hlt, hx]
    intro i7 d7
    have n67 := hset_ne d7
    have n76 : ¬ i7 = i6 := fun x => n67 x.symm
    have b2 := cells_new (o' := .cells s.cells) a2 d7
    have b3 := cells_new (o' := .cells s.cells) a3 d7
    have b6 : hset (hset h' i6 (.cells s.cells)) i7 (.cells s.cells) i6 = .cells s.cells := by simp [n67]
    have b7 : hset (hset h' i6 (.cells s.cells)) i7 (.cells s.cells) i7 = .cells s.cells := by simp
    have k7 := (kf.new (o := .cells s.cells) d6).new (o := .cells s.cells) d7
    simp -dsimp [n67, n76]
    generalize hset (hset h' i6 (.cells s.cells)) i7 (.cells s.cells) = H at *
    refine samecode_ok _ hs.code _ _ ?_
    simp -dsimp
    refine ALoop.start (fun m' tm h' => ∃ k : Nat, k + m' = s.params.length ∧ tm 2 = .ptr i2 0 ∧ tm 3 = .ptr i3 0 ∧ tm 5 = .int .i64 i ∧ tm 6 = .ptr i6 0 ∧ tm 7 = .ptr i7 0 ∧ tm 8 = .int .i64 k ∧ h' = H) s.params.length ⟨0, by simp, by simp [t2], by simp [t3], by simp [t5], by simp, by simp, by simp, rfl⟩ ?_
    clear t2 t3 t5
    rintro m' tm h' ⟨k, hk, t2, t3, t5, t6, t7, t8, rfl⟩
    have hw2 : IntKind.i64.wrap ((k : Int) + 1) = ((k + 1 : Nat) : Int) := by rw [wrap_i64] <;> omega
    by_cases hlk : k < s.params.length
    · simp -dsimp [t6, t7, t8, b6, b7, hlk, intRows, hw2, Stable, AIns.wants, QStep]
      exact Again.same (m' - 1) (by omega) ⟨k + 1, by omega, by simp [t2], by simp [t3], by simp [t5], by simp [t6], by simp [t7], by simp, rfl⟩
    · simp -dsimp [t5, t6, t8, b6, hlk, hw1]
      exact Again.same (m - 1) (by omega) ⟨i + 1, by omega, by simp [t2], by simp [t3], by simp, b2, b3, k7⟩
  · simp -dsimp [t2, t5, g2, hlt]
    exact Gives.sub kf.sub hK
end Go.Proofs.YtcpkdbofohkipaaGreat
