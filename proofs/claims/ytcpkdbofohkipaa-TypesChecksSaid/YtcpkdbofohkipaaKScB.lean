/- The document's answer for names: with, heads. -/
import Derived.Test.YtcpkdbofohkipaaKScA
set_option linter.unusedVariables false
set_option linter.unusedSimpArgs false
set_option linter.unusedSimpArgs false
set_option linter.unusedVariables false
namespace Go.Proofs.Ytcpkdbofohkipaa
open Go.AM
variable {h : Hp} {K : AV → Hp → Prop}

theorem with_ok {l m : List Bytes} {v w : AV} (hl : l.length ≤ 1000000) (hm : m.length ≤ 1000000) (hv : elemsOf h 1 v = some (strRows l)) (hw : w = rowsAV (strRows m)) (hK : K (rowsAV (strRows (l ++ m))) h) : ACalls Try.prog 56 [v, w] h K := by
  refine calls_of mixed Try.func56 comp56 (Nat.le_of_ble_eq_true rfl) ?_
  simp -dsimp [c56, hv]
  refine Own.app0 (h := h) (rows := []) (.inl ⟨rfl, rfl⟩) (fun _ => .inr rfl) (by simp; omega) (by simp; omega) fun v1 h1 ho1 hf1 => ?_
  have hew : ∀ h', elemsOf h' 1 w = some (strRows m) := by
    intro h'
    rw [hw]
    cases m with
    | nil => rfl
    | cons a m => simp [strRows, rowsAV]
  simp -dsimp [hew]
  refine Own.app0 (h := h) ho1 hf1 (by simp; omega) (by simp; omega) fun v2 h2 ho2 hf2 => ?_
  simp -dsimp
  refine ho2.out hf2 ?_
  simpa [strRows] using hK

theorem heads_ok {l : List Df} {nm : Bytes} (hl : l.length ≤ 1000000) (hK : K (.int .i64 (headsS nm l 0)) h) : ACalls Try.prog 39 [progAV l, .str nm] h K := by
  refine calls_of mixed Try.func39 comp39 (Nat.le_of_ble_eq_true rfl) ?_
  simp -dsimp [c39, progAV]
  intro i2 d2
  simp -dsimp
  refine ALoop.start (fun n tm h' => ∃ i : Nat, i + n = l.length ∧ tm 1 = .str nm ∧ tm 2 = .ptr i2 0 ∧ tm 5 = .int .i64 i ∧ headsS nm (l.drop i) i = headsS nm l 0 ∧ h' = hset h i2 (.cells [rowsAV (l.map Df.cells)])) l.length ⟨0, by simp⟩ ?_
  rintro n tm h' ⟨i, hi, t1, t2, t5, hq, rfl⟩
  have hw1 : IntKind.i64.wrap ((i : Int) + 1) = ((i + 1 : Nat) : Int) := by rw [wrap_i64] <;> omega
  cases l with
  | nil =>
    simp at hi
    obtain ⟨rfl, rfl⟩ := hi
    simp -dsimp [t1, t2, t5, rowsAV]
    exact Gives.sub (h' := h) (Sub.drop d2) (by simpa [headsS] using hK)
  | cons f0 l0 =>
    have hrow : rowsAV ((f0 :: l0).map Df.cells) = .fz ((f0 :: l0).map Df.cells) := rfl
    rw [hrow]
    generalize hL : f0 :: l0 = l at *
    by_cases hlt : i < l.length
    · rw [List.drop_eq_getElem_cons hlt] at hq
      simp only [headsS] at hq
      have hc0 : (l[i]).cells[0] = .str (l[i]).name := rfl
      by_cases he : (l[i]).name = nm
      · rw [if_pos he] at hq
        simp -dsimp [t1, t2, t5, hlt, hc0, he]
        exact Gives.sub (h' := h) (Sub.drop d2) (by rw [hq]; exact hK)
      · rw [if_neg he] at hq
        simp -dsimp [t1, t2, t5, hlt, hc0, he, hw1]
        exact Again.same (n - 1) (by omega) ⟨i + 1, by omega, by simp [t1], by simp [t2], by simp, hq, rfl⟩
    · have hnil : l.drop i = [] := List.drop_eq_nil_of_le (by omega)
      rw [hnil] at hq
      simp -dsimp [t1, t2, t5, hlt]
      exact Gives.sub (h' := h) (Sub.drop d2) (by rw [← hq] at hK; exact hK)
end Go.Proofs.Ytcpkdbofohkipaa
