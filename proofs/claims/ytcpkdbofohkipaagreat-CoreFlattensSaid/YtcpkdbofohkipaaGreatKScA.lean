/- The document's answer for names: Has. -/
import Derived.Test.YtcpkdbofohkipaaGreatKc
import Derived.Test.YtcpkdbofohkipaaGreatKhe
set_option linter.unusedVariables false
set_option linter.unusedSimpArgs false
namespace Go.Proofs.YtcpkdbofohkipaaGreat
open Go.AM
variable {h : Hp} {K : AV → Hp → Prop}

theorem has_ok {l : List Bytes} {v : AV} {s : Bytes} (hl : l.length ≤ 1000000) (hv : IsStrs h v l) (hK : K (.bool (decide (s ∈ l))) h) : ACalls Tryz.prog 70 [v, .str s] h K := by
  refine calls_of mixed Tryz.func70 comp70 (Nat.le_of_ble_eq_true rfl) ?_
  simp -dsimp [c70]
  have hlen := hv.len
  refine ALoop.start (fun n tm h' => ∃ i : Nat, i + n = l.length ∧ tm 0 = v ∧ tm 1 = .str s ∧ tm 5 = .int .i64 i ∧ (∀ j (hj : j < l.length), j < i → l[j] ≠ s) ∧ h' = h) l.length ⟨0, by simp⟩ ?_
  rintro n tm h' ⟨i, hi, t0, t1, t5, hno, rfl⟩
  have hw1 : IntKind.i64.wrap ((i : Int) + 1) = ((i + 1 : Nat) : Int) := by rw [wrap_i64] <;> omega
  by_cases hlt : i < l.length
  · have next : ¬ l[i] = s → ∀ j (hj : j < l.length), j < i + 1 → l[j] ≠ s := by
      intro he j hj hji
      rcases Nat.lt_or_ge j i with h | h
      · exact hno j hj h
      · have : j = i := by omega
        subst this; exact he
    have hmem : l[i] = s → s ∈ l := fun he => he ▸ List.getElem_mem hlt
    have hfz : v = .fz (strRows l) ∨ ∃ id e, v = .sl id 0 l.length ∧ h' id = .arr e 1 (strRows l) := by
      rcases hv with e | e | e
      · left
        rw [e]
        cases l with
        | nil => simp at hlt
        | cons a l => rfl
      · exact .inl e
      · exact .inr e
    have hget : (strRows l)[i]? = some [.str l[i]] := by simp [strRows, hlt]
    rcases hfz with rfl | ⟨id, e, rfl, ha⟩
    · by_cases he : l[i] = s
      · simp -dsimp [t0, t1, t5, hlt, strRows, he]
        exact Gives.same (by simpa [hmem he] using hK)
      · simp -dsimp [t0, t1, t5, hlt, strRows, he, hw1]
        exact Again.same (n - 1) (by omega) ⟨i + 1, by omega, by simp [t0, strRows], by simp [t1], by simp, next he, rfl⟩
    · by_cases he : l[i] = s
      · simp -dsimp [t0, t1, t5, hlt, ha, strRows, he]
        exact Gives.same (by simpa [hmem he] using hK)
      · simp -dsimp [t0, t1, t5, hlt, ha, strRows, he, hw1]
        exact Again.same (n - 1) (by omega) ⟨i + 1, by omega, by simp [t0], by simp [t1], by simp, next he, rfl⟩
  · have : ¬ s ∈ l := by
      intro hm
      obtain ⟨j, hj, e⟩ := List.getElem_of_mem hm
      exact hno j hj (by omega) e
    simp -dsimp [t0, t1, t5, hlen, hlt]
    exact Gives.same (by simpa [this] using hK)

theorem bound_ok {e : Ex} {i : Int} (hK : K (rowsAV (strRows (boundS e i))) h) : ACalls Tryz.prog 123 [.agg e.cells, .int .i64 i] h K := by
  refine calls_of mixed Tryz.func123 comp123 (Nat.le_of_ble_eq_true rfl) ?_
  obtain ⟨op, name, tail, ty, re, im, args, pos⟩ := e
  simp -dsimp [c123, Ex.cells]
  intro i2 d2
  simp only [boundS, Ex.op, Ex.name, Ex.tail] at hK
  by_cases h21 : op = 21
  · simp -dsimp [h21]
    intro i3 d3
    simp at d3
    simp -dsimp
    refine Gives.frz (h' := h) (((Sub.refl h).dropr d2).dropr d3.2.2) (Frz.rows (e := 9) (sz := 1) (xs := [[.str name]]) (by simp) d3.2.2) ?_
    simpa [h21, strRows, rowsAV] using hK
  by_cases h22 : op = 22 ∧ i = 1
  · obtain ⟨a1, a2⟩ := h22
    simp -dsimp [a1, a2]
    intro i3 d3
    simp at d3
    simp -dsimp
    refine Gives.frz (h' := h) (((Sub.refl h).dropr d2).dropr d3.2.2) (Frz.rows (e := 9) (sz := 1) (xs := [[.str name]]) (by simp) d3.2.2) ?_
    simpa [a1, a2, strRows, rowsAV] using hK
  have hnn : ¬ (op = 21 ∨ op = 22 ∧ i = 1) := fun x => x.elim h21 h22
  simp only [hnn, if_false] at hK
  have none_case : ¬ (op = 20 ∧ i = 2) → K .nl h := by intro hc; simp only [hc, if_false] at hK; exact hK
  by_cases o22 : op = 22
  · have i1 : ¬ i = 1 := fun x => h22 ⟨o22, x⟩
    simp -dsimp [o22, i1]
    exact Gives.sub (h' := h) (Sub.drop d2) (none_case (by omega))
  by_cases o20 : op = 20
  · by_cases i2' : i = 2
    · simp only [o20, i2', and_self, if_true] at hK
      simp -dsimp [o20, i2']
      intro i3 d3
      simp at d3
      simp -dsimp
      refine Gives.frz (h' := h) (((Sub.refl h).dropr d2).dropr d3.2.2) (Frz.rows (e := 9) (sz := 1) (xs := [[.str name], [.str tail]]) (by simp) d3.2.2) ?_
      simpa [strRows, rowsAV] using hK
    · simp -dsimp [o20, i2']
      exact Gives.sub (h' := h) (Sub.drop d2) (none_case (by omega))
  · simp -dsimp [h21, o22, o20]
    exact Gives.sub (h' := h) (Sub.drop d2) (none_case (by omega))
end Go.Proofs.YtcpkdbofohkipaaGreat

/- The document's answer for names: with, heads. -/
namespace Go.Proofs.YtcpkdbofohkipaaGreat
open Go.AM
variable {h : Hp} {K : AV → Hp → Prop}

theorem with_ok {l m : List Bytes} {v w : AV} (hl : l.length ≤ 1000000) (hm : m.length ≤ 1000000) (hv : elemsOf h 1 v = some (strRows l)) (hw : w = rowsAV (strRows m)) (hK : K (rowsAV (strRows (l ++ m))) h) : ACalls Tryz.prog 122 [v, w] h K := by
  refine calls_of mixed Tryz.func122 comp122 (Nat.le_of_ble_eq_true rfl) ?_
  simp -dsimp [c122, hv]
  refine Own.app0 (h := h) (rows := []) (.inl ⟨rfl, rfl⟩) (fun _ => .inr rfl) (by simp; omega) (by simp; omega) fun v1 h1 ho1 hf1 => ?_
  have hew : ∀ h', elemsOf h' 1 w = some (strRows m) := by
    intro h'
    rw [hw]
    cases m with
    | nil => rfl
    | cons a m => simp [strRows, rowsAV]
  simp -dsimp [hew]
  refine Own.app0 (h := h) ho1 hf1 (by simp; omega) (by simp; omega) fun v2 h2 ho2 hf2 => ?_
  simp -dsimp
  refine ho2.out hf2 ?_
  simpa [strRows] using hK

theorem heads_ok {l : List Df} {nm : Bytes} (hl : l.length ≤ 1000000) (hK : K (.int .i64 (headsS nm l 0)) h) : ACalls Tryz.prog 99 [progAV l, .str nm] h K := by
  refine calls_of mixed Tryz.func99 comp99 (Nat.le_of_ble_eq_true rfl) ?_
  simp -dsimp [c99, progAV]
  intro i2 d2
  simp -dsimp
  refine ALoop.start (fun n tm h' => ∃ i : Nat, i + n = l.length ∧ tm 1 = .str nm ∧ tm 2 = .ptr i2 0 ∧ tm 5 = .int .i64 i ∧ headsS nm (l.drop i) i = headsS nm l 0 ∧ h' = hset h i2 (.cells [rowsAV (l.map Df.cells)])) l.length ⟨0, by simp⟩ ?_
  rintro n tm h' ⟨i, hi, t1, t2, t5, hq, rfl⟩
  have hw1 : IntKind.i64.wrap ((i : Int) + 1) = ((i + 1 : Nat) : Int) := by rw [wrap_i64] <;> omega
  cases l with
  | nil =>
    simp at hi
    obtain ⟨rfl, rfl⟩ := hi
    simp -dsimp [t1, t2, t5, rowsAV]
    exact Gives.sub (h' := h) (Sub.drop d2) (by simpa [headsS] using hK)
  | cons f0 l0 =>
    have hrow : rowsAV ((f0 :: l0).map Df.cells) = .fz ((f0 :: l0).map Df.cells) := rfl
    rw [hrow]
    generalize hL : f0 :: l0 = l at *
    by_cases hlt : i < l.length
    · rw [List.drop_eq_getElem_cons hlt] at hq
      simp only [headsS] at hq
      have hc0 : (l[i]).cells[0] = .str (l[i]).name := rfl
      by_cases he : (l[i]).name = nm
      · rw [if_pos he] at hq
        simp -dsimp [t1, t2, t5, hlt, hc0, he]
        exact Gives.sub (h' := h) (Sub.drop d2) (by rw [hq]; exact hK)
      · rw [if_neg he] at hq
        simp -dsimp [t1, t2, t5, hlt, hc0, he, hw1]
        exact Again.same (n - 1) (by omega) ⟨i + 1, by omega, by simp [t1], by simp [t2], by simp, hq, rfl⟩
    · have hnil : l.drop i = [] := List.drop_eq_nil_of_le (by omega)
      rw [hnil] at hq
      simp -dsimp [t1, t2, t5, hlt]
      exact Gives.sub (h' := h) (Sub.drop d2) (by rw [← hq] at hK; exact hK)
end Go.Proofs.YtcpkdbofohkipaaGreat
