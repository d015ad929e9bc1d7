/- The program's types: an expression's own type. -/
import Derived.Test.YtcpkdbofohkipaaKTyC
set_option linter.unusedVariables false
set_option linter.unusedSimpArgs false
set_option linter.unusedSimpArgs false
set_option linter.unusedVariables false
namespace Go.Proofs.Ytcpkdbofohkipaa
open Go.AM
section
variable {p : List Df} {heads : Mp} {cid mid fid fw : Nat} {σ : Type} {rep : σ → List AV} {stp : σ → Int → σ} {h h1 : Hp} {v v1 : AV} {env : List Pm} {s : σ}

theorem pown_ok {n : Nat} (hp : p.length ≤ 1000000) (hh : PlOK heads p) (hpp : ∀ f ∈ p, ∀ x ∈ f.params, tyOK x.ty) (hw : Wants p heads cid mid fid fw rep stp n) {e : Ex} {hi : Int} {t : Int} {K : AV → Hp → Prop} (hn : e.size ≤ n + 1) (hnm : env.length + 2 * e.size ≤ 200000) (hf : e.fine hi) (hc : callsOK p e) (hop : ¬ (e.op = 19 ∨ e.op = 20 ∨ e.op = 21 ∨ e.op = 22)) (c : Ck p heads cid mid fid fw rep h v env s)
    (hK : Nx p heads cid mid fid fw rep stp env h v s (progL p env e t 0 e.args) (K (.int .i64 (ownT p env e)))) : ACalls Try.prog 28 [.ptr cid 0, .agg e.cells] h K := by
  refine calls_of mixed Try.func28 comp28 (Nat.le_of_ble_eq_true rfl) ?_
  have hsa := e.size_args
  have hla := Ex.sizeL_len e.args
  have hcl := (callsOK_eq.1 hc).2
  have hfa := Ex.fine_args hf
  have har : arOK e.op e.args.length := by cases e; exact hf.1
  simp -dsimp [c28]
  intro i3 d3
  have c3 := c.new (o := .cells e.cells) d3
  have n3c : ¬ cid = i3 := cells_ne c.cc d3
  have n3f : ¬ fid = i3 := cells_ne c.cf d3
  have n3c' : ¬ i3 = cid := fun x => n3c x.symm
  have n3f' : ¬ i3 = fid := fun x => n3f x.symm
  have k3 : Fr7 [cid, fid] h v (hset h i3 (.cells e.cells)) v := Fr7.refl.new d3
  have hv3 : ¬ isId v i3 := c.ce.notd d3
  have h3at : ∀ {h2 : Hp} {v2 : AV}, Fr7 [cid, fid] (hset h i3 (.cells e.cells)) v h2 v2 → h2 i3 = .cells e.cells := fun k => k.at (j := i3) (by simp) (by simp) (by simp [n3c', n3f']) hv3
  simp only [not_or] at hop
  obtain ⟨o19, o20, o21, o22⟩ := hop
  have hwi : ∀ i, withinS env e i = env := fun i => by simp [withinS, o20, o21, o22]
  -- no parts
  have leaf : e.args = [] → Gives K (some (.int .i64 (ownT p env e))) (hset h i3 (.cells e.cells)) := by
    intro ha
    rw [ha] at hK
    exact Gives.same (hK v _ (by simpa [progL] using c3) k3)
  have nil_of : (e.op = 1 ∨ e.op = 2 ∨ e.op = 3 ∨ e.op = 4 ∨ e.op = 5 ∨ e.op = 6) → e.args = [] := fun h => by
    have : e.args.length = 0 := by
      rcases har with x | x | x | x | x <;> omega
    exact List.length_eq_zero_iff.1 this
  -- one type wanted of all parts
  have hall : ∀ t', (∀ k, wantedS p e k t = t') → progL p env e t 0 e.args = allL p env t' e.args := fun t' ht => progL_all p env e t t' e.args 0 fun k _ _ => ⟨hwi k, ht k⟩
  by_cases o2 : e.op = 2 ∨ e.op = 3
  · have hl := leaf (nil_of (by omega))
    have : ownT p env e = 2 := by rcases o2 with o | o <;> simp [ownT, ownS, o]
    rw [this] at hl
    rcases o2 with o | o <;> simp -dsimp [o] <;> exact hl
  by_cases o4 : e.op = 4
  · have hl := leaf (nil_of (by omega))
    have : ownT p env e = 3 := by simp [ownT, ownS, o4]
    rw [this] at hl
    simp -dsimp [o4]; exact hl
  by_cases o5 : e.op = 5
  · have hl := leaf (nil_of (by omega))
    have : ownT p env e = e.ty := by simp [ownT, ownS, o5]
    rw [this] at hl
    simp -dsimp [o5]; exact hl
  by_cases o6 : e.op = 6
  · have hl := leaf (nil_of (by omega))
    have hT : ownT p env e = (lastT e.name env).getD 0 := by simp [ownT, o6]
    rw [hT] at hl
    have hw0 : IntKind.i64.wrap ((env.length : Int) - 1) = (env.length : Int) - 1 := by rw [wrap_i64] <;> omega
    simp -dsimp [o6, c.cc, n3c, c.ce.len, hw0]
    refine ALoop.start (fun n tm h' => n ≤ env.length ∧ tm 0 = .ptr cid 0 ∧ tm 3 = .ptr i3 0 ∧ tm 5 = .int .i64 ((n : Int) - 1) ∧ lastT e.name (env.take n) = lastT e.name env ∧ h' = hset h i3 (.cells e.cells)) env.length ⟨by simp, by simp, by simp, by simp, by simp, rfl⟩ ?_
    rintro n tm h' ⟨hn, t0, t3, t5, hq, rfl⟩
    cases n with
    | zero =>
      simp [lastT] at hq
      rw [← hq] at hl
      simp -dsimp [t5]
      exact hl
    | succ n =>
      have hlt : n < env.length := by omega
      rw [take_snoc env hlt, lastT_snoc] at hq
      have e1 : ((n + 1 : Nat) : Int) - 1 = n := by omega
      have hw1 : IntKind.i64.wrap ((n : Int) - 1) = (n : Int) - 1 := by rw [wrap_i64] <;> omega
      rw [e1] at t5
      rcases c.ce with ⟨_, x⟩ | ⟨id, xs, rfl, ha⟩
      · rw [x] at hlt; simp at hlt
      have nid : ¬ id = i3 := by rintro rfl; rw [d3] at ha; cases ha
      have hcc := c.cc
      have hrow : (env.map Pm.cells ++ xs)[n]? = some env[n].cells := by rw [List.getElem?_append_left (by simpa using hlt)]; simp [hlt]
      generalize hx : env[n] = x at *
      have hlt2 : n < env.length + xs.length := by omega
      by_cases hnm2 : x.name = e.name
      · rw [if_pos hnm2] at hq
        rw [← hq] at hl
        simp -dsimp [t0, t3, t5, hcc, n3c, nid, ha, hlt, hrow, hnm2]
        exact hl
      · rw [if_neg hnm2] at hq
        simp -dsimp [t0, t3, t5, hcc, n3c, nid, ha, hlt, hrow, hnm2, hw1]
        exact Again.same n (by omega) ⟨by omega, by simp [t0], by simp [t3], by simp, hq, rfl⟩
  by_cases o7 : e.op = 7
  · simp -dsimp [o7]
    refine call_ok hp hh hpp hw (t := t) (by omega) (by omega) hf hc o7 c3 ?_
    intro v2 h2 c2 k2
    simp -dsimp
    exact Gives.same (hK v2 h2 c2 (k3.trans k2))
  by_cases o14 : e.op = 14
  · have hT : ownT p env e = 2 := by simp [ownT, ownS, o14]
    rw [hT, hall 2 (fun k => by simp [wantedS, o14])] at hK
    simp -dsimp [o14]
    refine all_ok hw (by omega) (by omega) hfa hcl (.inr (.inl rfl)) c3 ?_
    intro v2 h2 c2 k2
    simp -dsimp
    exact Gives.same (hK v2 h2 c2 (k3.trans k2))
  by_cases o18 : e.op = 18
  · have hT : ownT p env e = 3 := by simp [ownT, ownS, o18]
    have hlen : e.args.length = 2 := by rcases har with x | x | x | x | x <;> omega
    have hw0 : wantedS p e 0 t = 1 := by simp [wantedS, o18]
    have hw1 : wantedS p e 1 t = 3 := by simp [wantedS, o18]
    rw [hT] at hK
    match hA : e.args, hlen with
    | [a, b], _ =>
      rw [hA] at hK hfa hcl hsa
      simp only [progL, hwi, hw0, hw1, List.append_nil, Nat.zero_add, List.foldl_append] at hK
      simp only [Ex.sizeL] at hsa
      simp -dsimp [o18, hA]
      refine hw a _ env 1 _ _ v _ (by omega) (by omega) hfa.1 hcl.1 (.inl rfl) c3 ?_
      intro v2 h2 c2 k2
      simp -dsimp [h3at k2, hA]
      refine hw b _ env 3 _ _ v2 _ (by omega) (by omega) hfa.2.1 hcl.2.1 (.inr (.inr rfl)) c2 ?_
      intro v4 h4 c4 k4
      simp -dsimp
      refine Gives.same (hK v4 h4 ?_ ((k3.trans k2).trans k4))
      simpa [List.foldl_append] using c4
  · have hT : ownT p env e = if e.op = 12 ∨ e.op = 13 then 2 else 1 := by
      by_cases o12 : e.op = 12
      · simp [ownT, ownS, o12]
      · by_cases o13 : e.op = 13
        · simp [ownT, ownS, o13]
        · have : e.op = 1 ∨ e.op = 8 ∨ e.op = 9 ∨ e.op = 10 ∨ e.op = 11 ∨ e.op = 15 ∨ e.op = 16 ∨ e.op = 17 := by
            rcases har with x | x | x | x | x <;> omega
          simp [ownT, ownS, o6, o12, o13, this]
    simp only [not_or] at o2
    rw [hT, hall 1 (fun k => by simp [wantedS, o14, o18, o7, o19, o20, o21, o22])] at hK
    simp -dsimp [o2.1, o2.2, o4, o5, o6, o7, o14, o18]
    refine all_ok hw (by omega) (by omega) hfa hcl (.inl rfl) c3 ?_
    intro v2 h2 c2 k2
    have hK2 := hK v2 h2 c2 (k3.trans k2)
    by_cases o12 : e.op = 12
    · simp only [o12, true_or, if_true] at hK2
      simp -dsimp [h3at k2, o12]
      exact Gives.same hK2
    · by_cases o13 : e.op = 13
      · simp only [o13, or_true, if_true] at hK2
        simp -dsimp [h3at k2, o13]
        exact Gives.same hK2
      · simp only [o12, o13, or_self, if_false] at hK2
        simp -dsimp [h3at k2, o12, o13]
        exact Gives.same hK2
end
end Go.Proofs.Ytcpkdbofohkipaa
