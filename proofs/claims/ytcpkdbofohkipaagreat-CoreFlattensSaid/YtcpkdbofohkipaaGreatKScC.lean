/- The document's answer for names: what is seen. -/
import Derived.Test.YtcpkdbofohkipaaGreatKc
import Derived.Test.YtcpkdbofohkipaaGreatKScA
set_option linter.unusedVariables false
set_option linter.unusedSimpArgs false
namespace Go.Proofs.YtcpkdbofohkipaaGreat
open Go.AM

def snL : ACode := match c100.code with | .seq _ (.seq _ (.seq _ x)) => x | _ => .skip

theorem seen_loop {n0 : Nat} (rec : ∀ (e : Ex) (names : List Bytes) (v : AV) (h : Hp) (K : AV → Hp → Prop), e.size ≤ n0 → names.length + 2 * e.size ≤ 200000 → IsStrs h v names → K (rowsAV ((seenS names e).map seenRow)) h → ACalls Tryz.prog 100 [.agg e.cells, v] h K)
    {e : Ex} {names : List Bytes} {v vo : AV} {h h' : Hp} {K : AV → Hp → Prop} {tm : Tm} {i2 : Nat} (hsz : e.size ≤ n0 + 1) (hnm : names.length + 2 * e.size ≤ 200000) (hv : IsStrs h v names)
    (t1 : tm 1 = v) (t2 : tm 2 = .ptr i2 0) (t5 : tm 5 = vo) (ho : Own h h' 194 8 vo ((Ex.use names e).map seenRow)) (hf : Keeps h h') (hi2 : h' i2 = .cells e.cells) (d2 : h i2 = .dead)
    (hK : K (rowsAV ((seenS names e).map seenRow)) h) :
    AW Tryz.prog snL (fun e tm h' => match e with | .exit _ => False | _ => Gives K (some (tm 4)) h') tm h' := by
  have hargs : e.cells[5]? = some (rowsAV (e.args.map Ex.cells)) := by cases e; simp [Ex.cells, Ex.rows_map, Ex.args]
  have hsa := e.size_args
  have hla := Ex.sizeL_len e.args
  have h7 : e.cells.length = 7 := by simp
  simp -dsimp [snL, c100, t1, t2, t5]
  refine ALoop.start (fun n tm h' => ∃ i : Nat, i + n = e.args.length ∧ tm 1 = v ∧ tm 2 = .ptr i2 0 ∧ tm 6 = .int .i64 i ∧ h' i2 = .cells e.cells ∧ Keeps h h' ∧ Own h h' 194 8 (tm 5) ((Ex.use names e ++ seenL names e 0 (e.args.take i)).map seenRow)) e.args.length ⟨0, by simp, by simp [t1], by simp [t2], by simp, hi2, hf, by simpa [seenL, t5] using ho⟩ ?_
  rintro n tm h' ⟨i, hi, t1, t2, t6, hi2, hf, ho⟩
  have hw1 : IntKind.i64.wrap ((i : Int) + 1) = ((i + 1 : Nat) : Int) := by rw [wrap_i64] <;> omega
  by_cases hlt : i < e.args.length
  · have hmem : e.args[i].size ≤ Ex.sizeL e.args := Ex.size_mem (List.getElem_mem hlt)
    have hbl := boundS_length e (i : Int)
    have hul := use_length names e
    have htake : e.args.take (i + 1) = e.args.take i ++ [e.args[i]] := by simp
    have hsl := seenL_length names e 0 (e.args.take (i + 1))
    have htl : Ex.sizeL (e.args.take (i + 1)) ≤ Ex.sizeL e.args := by
      have := Ex.sizeL_append (e.args.take (i + 1)) (e.args.drop (i + 1))
      rw [List.take_append_drop] at this; omega
    have hsn := seenL_snoc names e (e.args.take i) 0 e.args[i]
    rw [← htake] at hsn
    have hmin : min i e.args.length = i := by omega
    simp only [List.length_take, hmin, Nat.zero_add] at hsn
    simp -dsimp [t1, t2, t6, hi2, h7, hargs, hlt]
    refine bound_ok ?_
    simp -dsimp [t1]
    have hvs : IsStrs h' v names := hv.keep hf
    refine with_ok (by omega) (by omega) hvs.elems rfl ?_
    simp -dsimp [t2, t6, hi2, h7, hargs, hlt]
    refine rec _ _ _ _ _ (by omega) (by simp only [List.length_append]; omega) (IsStrs.rows _) ?_
    have hlen := congrArg List.length hsn
    simp only [List.length_append] at hlen
    simp -dsimp
    refine ho.push hf (by simp only [List.length_map, List.length_append]; omega) (by decide) fun v' h2 ho2 hf2 hc2 => ?_
    simp -dsimp [t6, hw1]
    refine Again.same (n - 1) (by omega) ⟨i + 1, by omega, by simp [t1], by simp [t2], by simp, hc2 _ _ hi2, hf2, ?_⟩
    rw [hsn]
    simpa using ho2
  · have htk : e.args.take i = e.args := List.take_of_length_le (by omega)
    rw [htk] at ho
    simp -dsimp [t1, t2, t6, hi2, h7, hargs, hlt]
    refine ho.out hf ?_
    rw [← seenS_eq]
    exact hK
theorem seen_ok : ∀ (n : Nat) (e : Ex) (names : List Bytes) (v : AV) (h : Hp) (K : AV → Hp → Prop), e.size ≤ n → names.length + 2 * e.size ≤ 200000 → IsStrs h v names → K (rowsAV ((seenS names e).map seenRow)) h → ACalls Tryz.prog 100 [.agg e.cells, v] h K := by
  intro n
  induction n with
  | zero => intro e names v h K hn; have := e.size_pos; omega
  | succ n ih =>
    intro e names v h K hn hnm hv hK
    refine calls_of mixed Tryz.func100 comp100 (Nat.le_of_ble_eq_true rfl) ?_
    have h7 : e.cells.length = 7 := by simp
    have h0 : e.cells[0]? = some (.int .i64 e.op) := by cases e; rfl
    have h1 : e.cells[1]? = some (.str e.name) := by cases e; rfl
    have hsplit : c100.code = .seq (match c100.code with | .seq a _ => a | _ => .skip) (.seq (match c100.code with | .seq _ (.seq a _) => a | _ => .skip) (.seq (match c100.code with | .seq _ (.seq _ (.seq a _)) => a | _ => .skip) snL)) := rfl
    rw [hsplit]
    have tail := @seen_loop n ih e names v
    generalize snL = T at *
    simp -dsimp [c100]
    intro i2 d2
    simp -dsimp [h0]
    by_cases o6 : e.op = 6
    · simp -dsimp [o6, h1]
      refine has_ok (by omega) (hv.keep ((Keeps.refl h).new d2)) ?_
      simp -dsimp [Stable, AIns.wants, QStep, o6]
      intro i3 d3
      have e3 := d3
      simp at d3
      simp -dsimp
      intro i4 d4
      have e4 := d4
      simp [d3] at d4
      simp -dsimp
      refine tail (h := h) (i2 := i2) (by omega) hnm hv (by simp) (by simp) rfl ?_ ((((Keeps.refl h).new d2).new e3).new e4) (by simp [d3, d4]) d2 hK
      exact .inr ⟨i4, by simp [Ex.use, o6, seenRow], by simp [d4], by simp [Ex.use, o6, seenRow], by simp [Ex.use, o6, seenRow]⟩
    · by_cases o7 : e.op = 7
      · simp -dsimp [o7, o6]
        intro i3 d3
        have e3 := d3
        simp at d3
        simp -dsimp
        intro i4 d4
        have e4 := d4
        simp [d3] at d4
        simp -dsimp
        refine tail (h := h) (i2 := i2) (by omega) hnm hv (by simp) (by simp) rfl ?_ ((((Keeps.refl h).new d2).new e3).new e4) (by simp [d3, d4]) d2 hK
        exact .inr ⟨i4, by simp [Ex.use, o7, o6, seenRow], by simp [d4], by simp [Ex.use, o7, o6, seenRow], by simp [Ex.use, o7, o6, seenRow]⟩
      · simp -dsimp [o7, o6]
        refine tail (h := h) (i2 := i2) (by omega) hnm hv (by simp) (by simp) rfl ?_ ((Keeps.refl h).new d2) (by simp) d2 hK
        exact .inl ⟨by simp [Ex.use, o6, o7], by simp⟩
end Go.Proofs.YtcpkdbofohkipaaGreat
