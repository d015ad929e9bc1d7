/- The program's types: what a checker stands on; several expressions, calls, an expression's own type. -/
import Derived.Test.YtcpkdbofohkipaaKc
import Derived.Test.YtcpkdbofohkipaaKScG
set_option linter.unusedVariables false
set_option linter.unusedSimpArgs false
set_option linter.unusedSimpArgs false
set_option linter.unusedVariables false
namespace Go.Proofs.Ytcpkdbofohkipaa
open Go.AM

/-- A function that is told what is wrong. -/
def WrOK (fw : FuncId) {σ : Type} (rep : σ → List AV) (stp : σ → Int → σ) : Prop := ∀ (fid : Nat) (s : σ) (at_ : Int) (h : Hp) (K : AV → Hp → Prop), h fid = .cells (rep s) → K .undef (hset h fid (.cells (rep (stp s at_)))) → ACalls Try.prog fw [.int .i64 at_, .ptr fid 0] h K
/-- A checker. -/
structure Ck (p : List Df) (heads : Mp) (cid mid fid fw : Nat) {σ : Type} (rep : σ → List AV) (h : Hp) (v : AV) (env : List Pm) (s : σ) : Prop where
  cc : h cid = .cells [.mp mid, rowsAV (p.map Df.cells), v, .fn fw [.ptr fid 0]]
  cm : h mid = .map (mapAV heads)
  cf : h fid = .cells (rep s)
  ce : EnvAt 69 h v env
  nf : ¬ cid = fid
section
variable {p : List Df} {heads : Mp} {cid mid fid fw : Nat} {σ : Type} {rep : σ → List AV} {stp : σ → Int → σ} {h h1 : Hp} {v v1 : AV} {env : List Pm} {s : σ}
theorem Ck.new (c : Ck p heads cid mid fid fw rep h v env s) {j : Nat} {o : AObj} (hj : h j = .dead) : Ck p heads cid mid fid fw rep (hset h j o) v env s :=
  ⟨cells_new c.cc hj, at_new c.cm (by simp) hj, cells_new c.cf hj, c.ce.set (c.ce.notd hj), c.nf⟩
theorem Ck.keep (c : Ck p heads cid mid fid fw rep h v env s) {v0 : AV} {h0 : Hp} (k : Fr7 [cid, fid] h0 v0 h v) {j : Nat} {cs : List AV} (hj : h0 j = .cells cs) (h1 : ¬ j = cid) (h2 : ¬ j = fid) (hv : ¬ isId v0 j) : h j = .cells cs := k.at hj (by simp) (by simp [h1, h2]) hv
/-- What follows a piece of work that tells l. -/
def Nx (p : List Df) (heads : Mp) (cid mid fid fw : Nat) {σ : Type} (rep : σ → List AV) (stp : σ → Int → σ) (env : List Pm) (h : Hp) (v : AV) (s : σ) (l : List Int) (Q : Hp → Prop) : Prop :=
  ∀ (v' : AV) (h' : Hp), Ck p heads cid mid fid fw rep h' v' env (l.foldl stp s) → Fr7 [cid, fid] h v h' v' → Q h'
/-- What is promised of 'want' for trees of at most n parts. -/
def Wants (p : List Df) (heads : Mp) (cid mid fid fw : Nat) {σ : Type} (rep : σ → List AV) (stp : σ → Int → σ) (n : Nat) : Prop :=
  ∀ (e : Ex) (hi : Int) (env : List Pm) (t : Int) (s : σ) (h : Hp) (v : AV) (K : AV → Hp → Prop), e.size ≤ n → env.length + 2 * e.size ≤ 200000 → e.fine hi → callsOK p e → tyOK t → Ck p heads cid mid fid fw rep h v env s →
    Nx p heads cid mid fid fw rep stp env h v s (progS p env t e) (K .undef) → ACalls Try.prog 14 [.ptr cid 0, .agg e.cells, .int .i64 t] h K

theorem all_ok {n : Nat} (hw : Wants p heads cid mid fid fw rep stp n) {l : List Ex} {hi : Int} {t : Int} {K : AV → Hp → Prop} (hn : Ex.sizeL l ≤ n) (hnm : env.length + 2 * Ex.sizeL l ≤ 200000) (hf : Ex.fineL hi l) (hc : callsL p l) (ht : tyOK t) (c : Ck p heads cid mid fid fw rep h v env s)
    (hK : Nx p heads cid mid fid fw rep stp env h v s (allL p env t l) (K .undef)) : ACalls Try.prog 23 [.ptr cid 0, .int .i64 t, rowsAV (l.map Ex.cells)] h K := by
  refine calls_of mixed Try.func23 comp23 (Nat.le_of_ble_eq_true rfl) ?_
  have hll := Ex.sizeL_len l
  simp -dsimp [c23]
  refine ALoop.start (fun n tm h' => ∃ (i : Nat) (v' : AV), i + n = l.length ∧ tm 0 = .ptr cid 0 ∧ tm 1 = .int .i64 t ∧ tm 8 = rowsAV (l.map Ex.cells) ∧ tm 9 = .int .i64 l.length ∧ tm 10 = .int .i64 i ∧
    Ck p heads cid mid fid fw rep h' v' env ((allL p env t (l.take i)).foldl stp s) ∧ Fr7 [cid, fid] h v h' v') l.length
    ⟨0, v, by simp, by simp, by simp, by simp, by simp, by simp, by simpa [allL] using c, Fr7.refl⟩ ?_
  rintro n tm h' ⟨i, v', hi, t0, t1, t8, t9, t10, c', k⟩
  have hw1 : IntKind.i64.wrap ((i : Int) + 1) = ((i + 1 : Nat) : Int) := by rw [wrap_i64] <;> omega
  by_cases hlt : i < l.length
  · have hmem := List.getElem_mem hlt
    have hsz := Ex.size_mem hmem
    have hfi := Ex.fineL_mem hf hmem
    have hci := callsL_mem hc hmem
    have hsn := allL_snoc p env t (l.take i) l[i]
    rw [← take_snoc l hlt] at hsn
    generalize hx : l[i] = x at *
    simp -dsimp [t8, t9, t10, hlt, hx]
    intro i7 d7
    simp -dsimp [t0, t1]
    refine hw x _ env t _ _ v' _ (by omega) (by omega) hfi hci ht (c'.new d7) ?_
    intro v2 h2 c2 k2
    simp -dsimp [t10, hw1]
    refine Again.same (n - 1) (by omega) ⟨i + 1, v2, by omega, by simp [t0], by simp [t1], by simp [t8], by simp [t9], by simp, ?_, (k.trans (Fr7.refl.new d7)).trans k2⟩
    rw [hsn, List.foldl_append]; exact c2
  · have htk : l.take i = l := List.take_of_length_le (by omega)
    rw [htk] at c'
    simp -dsimp [t9, t10, hlt]
    exact Gives.same (hK v' h' c' k)

theorem call_ok {n : Nat} (hp : p.length ≤ 1000000) (hh : PlOK heads p) (hpp : ∀ f ∈ p, ∀ x ∈ f.params, tyOK x.ty) (hw : Wants p heads cid mid fid fw rep stp n) {e : Ex} {hi : Int} {t : Int} {K : AV → Hp → Prop} (hn : e.size ≤ n + 1) (hnm : env.length + 2 * e.size ≤ 200000) (hf : e.fine hi) (hc : callsOK p e) (ho : e.op = 7) (c : Ck p heads cid mid fid fw rep h v env s)
    (hK : Nx p heads cid mid fid fw rep stp env h v s (progL p env e t 0 e.args) (K (.int .i64 (ownT p env e)))) : ACalls Try.prog 38 [.ptr cid 0, .agg e.cells] h K := by
  refine calls_of mixed Try.func38 comp38 (Nat.le_of_ble_eq_true rfl) ?_
  have hsa := e.size_args
  have hla := Ex.sizeL_len e.args
  rw [callsOK_eq] at hc
  obtain ⟨f, hhd, hfl⟩ := hc.1 ho
  have hcl := hc.2
  have hfa := Ex.fine_args hf
  -- where the function stands
  have hpos : ¬ headsS e.name p 0 < 0 := by
    intro hneg
    have hm := headD_mem hhd
    have : ∀ (l : List Df) (i : Nat), f ∈ l → 0 ≤ headsS f.name l i := by
      intro l
      induction l with
      | nil => intro i h; cases h
      | cons g l ih =>
        intro i h
        simp only [headsS]
        split
        · omega
        · rename_i hne
          rcases List.mem_cons.1 h with rfl | h
          · exact absurd rfl hne
          · exact ih _ h
    have := this p 0 hm.1
    rw [hm.2] at this
    omega
  obtain ⟨k, hk, ek, enm⟩ := headsS_at hpos
  have hpk : p[k] = f := by
    have : ∀ (l : List Df) (i k : Nat) (hk : k < l.length), headsS e.name l i = ((i + k : Nat) : Int) → headD e.name l = some l[k] := by
      intro l
      induction l with
      | nil => intro i k hk; simp at hk
      | cons g l ih =>
        intro i k hk hq
        simp only [headsS] at hq
        simp only [headD]
        by_cases hg : g.name = e.name
        · rw [if_pos hg] at hq ⊢
          have : k = 0 := by omega
          subst this; rfl
        · rw [if_neg hg] at hq ⊢
          cases k with
          | zero =>
            have := headsS_ge e.name l (i + 1)
            omega
          | succ k =>
            have := ih (i + 1) k (by simpa using hk) (by rw [hq]; congr 1; omega)
            simpa using this
    have := this p 0 k hk (by rw [ek]; simp)
    rw [hhd] at this
    exact (Option.some.inj this).symm
  have hpm := hh e.name
  rw [ek] at hpm
  have hg0 : ¬ ((k : Int) + 1 = 0) := by omega
  have hwk : IntKind.i64.wrap (k : Int) = (k : Int) := by rw [wrap_i64] <;> omega
  have hty : ownT p env e = f.ty := by
    simp [ownT, ownS, ho, hhd, hfl]
  rw [hty] at hK
  have hwi : ∀ i, withinS env e i = env := fun i => by simp [withinS, ho]
  have hwt : ∀ (i : Nat) (hi : i < f.params.length), wantedS p e i t = f.params[i].ty := fun i hi => by
    simp [wantedS, ho, hhd, hi]
  simp -dsimp [c38]
  intro i3 d3
  have c3 := c.new (o := .cells e.cells) d3
  have hv3 : ¬ isId v i3 := c.ce.notd d3
  have n3c : ¬ cid = i3 := cells_ne c.cc d3
  have n3f : ¬ fid = i3 := cells_ne c.cf d3
  have n3m := map_ne c.cm d3
  simp -dsimp [c.cc, c.cm, n3c, n3m, hpm, hg0, hwk, hk, hpk, hfl]
  have hmf : f ∈ p := (headD_mem hhd).1
  refine ALoop.start (fun n tm h' => ∃ (i : Nat) (v' : AV), i + n = e.args.length ∧ tm 0 = .ptr cid 0 ∧ tm 3 = .ptr i3 0 ∧ tm 5 = .int .i64 ((k : Int) + 1) ∧ tm 41 = rowsAV (f.params.map Pm.cells) ∧ tm 42 = .int .i64 e.args.length ∧ tm 43 = .int .i64 i ∧ h' i3 = .cells e.cells ∧
    Ck p heads cid mid fid fw rep h' v' env ((progL p env e t 0 (e.args.take i)).foldl stp s) ∧ Fr7 [cid, fid] h v h' v') e.args.length
    ⟨0, v, by simp, by simp, by simp, by simp [hpm], by simp, by simp, by simp, by simp, by simpa [progL] using c3, Fr7.refl.new d3⟩ ?_
  rintro n tm h' ⟨i, v', hi, t0, t3, t5, t41, t42, t43, hi3, c', kf⟩
  have hw1 : IntKind.i64.wrap ((i : Int) + 1) = ((i + 1 : Nat) : Int) := by rw [wrap_i64] <;> omega
  by_cases hlt : i < e.args.length
  · have hmem := List.getElem_mem hlt
    have hsz := Ex.size_mem hmem
    have hfi := Ex.fineL_mem hfa hmem
    have hci := callsL_mem hcl hmem
    have hsn := progL_snoc p env e t (e.args.take i) 0 e.args[i]
    rw [← take_snoc e.args hlt] at hsn
    have hmin : min i e.args.length = i := by omega
    have hlf : i < f.params.length := by omega
    simp only [List.length_take, hmin, Nat.zero_add, hwi, hwt i hlf] at hsn
    have hyt := hpp f hmf _ (List.getElem_mem hlf)
    generalize hx : e.args[i] = x at *
    generalize hy : f.params[i] = y at *
    simp -dsimp [t0, t3, t41, t42, t43, hlt, hlf, hy]
    intro i7 d7
    have n37 := cells_ne hi3 d7
    simp -dsimp [t0, t3, hi3, n37, hlt, hx]
    refine hw x _ env y.ty _ _ v' _ (by omega) (by omega) hfi hci hyt (c'.new d7) ?_
    intro v2 h2 c2 k2
    simp -dsimp [t43, hw1]
    have kk : Fr7 [cid, fid] h v h2 v2 := (kf.trans (Fr7.refl.new d7)).trans k2
    refine Again.same (n - 1) (by omega) ⟨i + 1, v2, by omega, by simp [t0], by simp [t3], by simp [t5], by simp [t41], by simp [t42], by simp, ?_, ?_, kk⟩
    · have n3c' : ¬ i3 = cid := fun x => n3c x.symm
      have n3f' : ¬ i3 = fid := fun x => n3f x.symm
      exact (Fr7.trans (Fr7.refl.new d7) k2).at hi3 (by simp) (by simp [n3c', n3f']) (c'.ce.notc hi3)
    · rw [hsn, List.foldl_append]; exact c2
  · have htk : e.args.take i = e.args := List.take_of_length_le (by omega)
    rw [htk] at c'
    simp -dsimp [t0, t5, t42, t43, hlt, c'.cc, hwk, hk, hpk]
    exact Gives.same (hK v' h' c' kf)
end
end Go.Proofs.Ytcpkdbofohkipaa
