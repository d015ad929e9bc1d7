/- The program's types: what a checker stands on; several expressions, calls, an expression's own type. -/
import Derived.Test.YtghidedifiolbaaGreatK09
import Derived.Test.YtghidedifiolbaaGreatK26
import Derived.Test.YtghidedifiolbaaGreatK12
import Derived.Test.YtghidedifiolbaaGreatK25
set_option linter.unusedVariables false
set_option linter.unusedSimpArgs false
namespace Go.Proofs.YtghidedifiolbaaGreat
open Go.AM

/-- A function that is told what is wrong. -/
def WrOK (fw : FuncId) {σ : Type} (rep : σ → List AV) (stp : σ → Int → σ) : Prop := ∀ (fid : Nat) (s : σ) (at_ : Int) (h : Hp) (K : AV → Hp → Prop), h fid = .cells (rep s) → K .undef (hset h fid (.cells (rep (stp s at_)))) → ACalls Tryz.prog fw [.int .i64 at_, .ptr fid 0] h K
/-- A checker. -/
structure Ck (p : List Df) (heads : Mp) (cid mid fid fw : Nat) {σ : Type} (rep : σ → List AV) (h : Hp) (v : AV) (env : List Pm) (s : σ) : Prop where
  cc : h cid = .cells [.mp mid, rowsAV (p.map Df.cells), v, .fn fw [.ptr fid 0]]
  cm : h mid = .map (mapAV heads)
  cf : h fid = .cells (rep s)
  ce : EnvAt 48 h v env
  nf : ¬ cid = fid
section
variable {p : List Df} {heads : Mp} {cid mid fid fw : Nat} {σ : Type} {rep : σ → List AV} {stp : σ → Int → σ} {h h1 : Hp} {v v1 : AV} {env : List Pm} {s : σ}
theorem Ck.new (c : Ck p heads cid mid fid fw rep h v env s) {j : Nat} {o : AObj} (hj : h j = .dead) : Ck p heads cid mid fid fw rep (hset h j o) v env s :=
  ⟨cells_new c.cc hj, at_new c.cm (by simp) hj, cells_new c.cf hj, c.ce.set (c.ce.notd hj), c.nf⟩
theorem Ck.keep (c : Ck p heads cid mid fid fw rep h v env s) {v0 : AV} {h0 : Hp} (k : Fr7 [cid, fid] h0 v0 h v) {j : Nat} {cs : List AV} (hj : h0 j = .cells cs) (h1 : ¬ j = cid) (h2 : ¬ j = fid) (hv : ¬ isId v0 j) : h j = .cells cs := k.at hj (by simp) (by simp [h1, h2]) hv
/-- What follows a piece of work that tells l. -/
def Nx (p : List Df) (heads : Mp) (cid mid fid fw : Nat) {σ : Type} (rep : σ → List AV) (stp : σ → Int → σ) (env : List Pm) (h : Hp) (v : AV) (s : σ) (l : List Int) (Q : Hp → Prop) : Prop :=
  ∀ (v' : AV) (h' : Hp), Ck p heads cid mid fid fw rep h' v' env (l.foldl stp s) → Fr7 [cid, fid] h v h' v' → Q h'
/-- What is promised of 'want' for trees of at most n parts. -/
def Wants (p : List Df) (heads : Mp) (cid mid fid fw : Nat) {σ : Type} (rep : σ → List AV) (stp : σ → Int → σ) (n : Nat) : Prop :=
  ∀ (e : Ex) (hi : Int) (env : List Pm) (t : Int) (s : σ) (h : Hp) (v : AV) (K : AV → Hp → Prop), e.size ≤ n → env.length + 2 * e.size ≤ 200000 → e.fine hi → callsOK p e → tyOK t → Ck p heads cid mid fid fw rep h v env s →
    Nx p heads cid mid fid fw rep stp env h v s (progS p env t e) (K .undef) → ACalls Tryz.prog 70 [.ptr cid 0, .agg e.cells, .int .i64 t] h K

theorem all_ok {n : Nat} (hw : Wants p heads cid mid fid fw rep stp n) {l : List Ex} {hi : Int} {t : Int} {K : AV → Hp → Prop} (hn : Ex.sizeL l ≤ n) (hnm : env.length + 2 * Ex.sizeL l ≤ 200000) (hf : Ex.fineL hi l) (hc : callsL p l) (ht : tyOK t) (c : Ck p heads cid mid fid fw rep h v env s)
    (hK : Nx p heads cid mid fid fw rep stp env h v s (allL p env t l) (K .undef)) : ACalls Tryz.prog 96 [.ptr cid 0, .int .i64 t, rowsAV (l.map Ex.cells)] h K := by
  refine calls_of mixed Tryz.func96 comp96 (Nat.le_of_ble_eq_true rfl) ?_
  have hll := Ex.sizeL_len l
  simp -dsimp [c96]
  refine ALoop.start (fun n tm h' => ∃ (i : Nat) (v' : AV), i + n = l.length ∧ tm 0 = .ptr cid 0 ∧ tm 1 = .int .i64 t ∧ tm 8 = rowsAV (l.map Ex.cells) ∧ tm 9 = .int .i64 l.length ∧ tm 10 = .int .i64 i ∧
    Ck p heads cid mid fid fw rep h' v' env ((allL p env t (l.take i)).foldl stp s) ∧ Fr7 [cid, fid] h v h' v') l.length
    ⟨0, v, by simp, by simp, by simp, by simp, by simp, by simp, by simpa [allL] using c, Fr7.refl⟩ ?_
  rintro n tm h' ⟨i, v', hi, t0, t1, t8, t9, t10, c', k⟩
  have hw1 : IntKind.i64.wrap ((i : Int) + 1) = ((i + 1 : Nat) : Int) := by rw [wrap_i64] <;> omega
  by_cases hlt : i < l.length
  · have hmem := List.getElem_mem hlt
    have hsz := Ex.size_mem hmem
    have hfi := Ex.fineL_mem hf hmem
    have hci := callsL_mem hc hmem
    have hsn := allL_snoc p env t (l.take i) l[i]
    rw [← take_snoc l hlt] at hsn
    generalize hx : l[i] = x at *
    simp -dsimp [t8, t9, t10, hlt, hx]
    intro i7 d7
    simp -dsimp [t0, t1]
    refine hw x _ env t _ _ v' _ (by omega) (by omega) hfi hci ht (c'.new d7) ?_
    intro v2 h2 c2 k2
    simp -dsimp [t10, hw1]
    refine Again.same (n - 1) (by omega) ⟨i + 1, v2, by omega, by simp [t0], by simp [t1], by simp [t8], by simp [t9], by simp, ?_, (k.trans (Fr7.refl.new d7)).trans k2⟩
    rw [hsn, List.foldl_append]; exact c2
  · have htk : l.take i = l := List.take_of_length_le (by omega)
    rw [htk] at c'
    simp -dsimp [t9, t10, hlt]
    exact Gives.same (hK v' h' c' k)

theorem call_ok {n : Nat} (hp : p.length ≤ 1000000) (hh : PlOK heads p) (hpp : ∀ f ∈ p, ∀ x ∈ f.params, tyOK x.ty) (hw : Wants p heads cid mid fid fw rep stp n) {e : Ex} {hi : Int} {t : Int} {K : AV → Hp → Prop} (hn : e.size ≤ n + 1) (hnm : env.length + 2 * e.size ≤ 200000) (hf : e.fine hi) (hc : callsOK p e) (ho : e.op = 7) (c : Ck p heads cid mid fid fw rep h v env s)
    (hK : Nx p heads cid mid fid fw rep stp env h v s (progL p env e t 0 e.args) (K (.int .i64 (ownT p env e)))) : ACalls Tryz.prog 130 [.ptr cid 0, .agg e.cells] h K := by
  refine calls_of mixed Tryz.func130 comp130 (Nat.le_of_ble_eq_true rfl) ?_
  have hsa := e.size_args
  have hla := Ex.sizeL_len e.args
  rw [callsOK_eq] at hc
  obtain ⟨f, hhd, hfl⟩ := hc.1 ho
  have hcl := hc.2
  have hfa := Ex.fine_args hf
  -- where the function stands
  have hpos : ¬ headsS e.name p 0 < 0 := by
    intro hneg
    have hm := headD_mem hhd
    have : ∀ (l : List Df) (i : Nat), f ∈ l → 0 ≤ headsS f.name l i := by
      intro l
      induction l with
      | nil => intro i h; cases h
      | cons g l ih =>
        intro i h
        simp only [headsS]
        split
        · omega
        · rename_i hne
          rcases List.mem_cons.1 h with rfl | h
          · exact absurd rfl hne
          · exact ih _ h
    have := this p 0 hm.1
    rw [hm.2] at this
    omega
  obtain ⟨k, hk, ek, enm⟩ := headsS_at hpos
  have hpk : p[k] = f := by
    have : ∀ (l : List Df) (i k : Nat) (hk : k < l.length), headsS e.name l i = ((i + k : Nat) : Int) → headD e.name l = some l[k] := by
      intro l
      induction l with
      | nil => intro i k hk; simp at hk
      | cons g l ih =>
        intro i k hk hq
        simp only [headsS] at hq
        simp only [headD]
        by_cases hg : g.name = e.name
        · rw [if_pos hg] at hq ⊢
          have : k = 0 := by omega
          subst this; rfl
        · rw [if_neg hg] at hq ⊢
          cases k with
          | zero =>
            have := headsS_ge e.name l (i + 1)
            omega
          | succ k =>
            have := ih (i + 1) k (by simpa using hk) (by rw [hq]; congr 1; omega)
            simpa using this
    have := this p 0 k hk (by rw [ek]; simp)
    rw [hhd] at this
    exact (Option.some.inj this).symm
  have hpm := hh e.name
  rw [ek] at hpm
  have hg0 : ¬ ((k : Int) + 1 = 0) := by omega
  have hwk : IntKind.i64.wrap (k : Int) = (k : Int) := by rw [wrap_i64] <;> omega
  have hty : ownT p env e = f.ty := by
    simp [ownT, ownS, ho, hhd, hfl]
  rw [hty] at hK
  have hwi : ∀ i, withinS env e i = env := fun i => by simp [withinS, ho]
  have hwt : ∀ (i : Nat) (hi : i < f.params.length), wantedS p e i t = f.params[i].ty := fun i hi => by
    simp [wantedS, ho, hhd, hi]
  simp -dsimp [c130]
  intro i3 d3
  have c3 := c.new (o := .cells e.cells) d3
  have hv3 : ¬ isId v i3 := c.ce.notd d3
  have n3c : ¬ cid = i3 := cells_ne c.cc d3
  have n3f : ¬ fid = i3 := cells_ne c.cf d3
  have n3m := map_ne c.cm d3
  simp -dsimp [c.cc, c.cm, n3c, n3m, hpm, hg0, hwk, hk, hpk, hfl]
  have hmf : f ∈ p := (headD_mem hhd).1
  refine ALoop.start (fun n tm h' => ∃ (i : Nat) (v' : AV), i + n = e.args.length ∧ tm 0 = .ptr cid 0 ∧ tm 3 = .ptr i3 0 ∧ tm 5 = .int .i64 ((k : Int) + 1) ∧ tm 41 = rowsAV (f.params.map Pm.cells) ∧ tm 42 = .int .i64 e.args.length ∧ tm 43 = .int .i64 i ∧ h' i3 = .cells e.cells ∧
    Ck p heads cid mid fid fw rep h' v' env ((progL p env e t 0 (e.args.take i)).foldl stp s) ∧ Fr7 [cid, fid] h v h' v') e.args.length
    ⟨0, v, by simp, by simp, by simp, by simp [hpm], by simp, by simp, by simp, by simp, by simpa [progL] using c3, Fr7.refl.new d3⟩ ?_
  rintro n tm h' ⟨i, v', hi, t0, t3, t5, t41, t42, t43, hi3, c', kf⟩
  have hw1 : IntKind.i64.wrap ((i : Int) + 1) = ((i + 1 : Nat) : Int) := by rw [wrap_i64] <;> omega
  by_cases hlt : i < e.args.length
  · have hmem := List.getElem_mem hlt
    have hsz := Ex.size_mem hmem
    have hfi := Ex.fineL_mem hfa hmem
    have hci := callsL_mem hcl hmem
    have hsn := progL_snoc p env e t (e.args.take i) 0 e.args[i]
    rw [← take_snoc e.args hlt] at hsn
    have hmin : min i e.args.length = i := by omega
    have hlf : i < f.params.length := by omega
    simp only [List.length_take, hmin, Nat.zero_add, hwi, hwt i hlf] at hsn
    have hyt := hpp f hmf _ (List.getElem_mem hlf)
    generalize hx : e.args[i] = x at *
    generalize hy : f.params[i] = y at *
    simp -dsimp [t0, t3, t41, t42, t43, hlt, hlf, hy]
    intro i7 d7
    have n37 := cells_ne hi3 d7
    simp -dsimp [t0, t3, hi3, n37, hlt, hx]
    refine hw x _ env y.ty _ _ v' _ (by omega) (by omega) hfi hci hyt (c'.new d7) ?_
    intro v2 h2 c2 k2
    simp -dsimp [t43, hw1]
    have kk : Fr7 [cid, fid] h v h2 v2 := (kf.trans (Fr7.refl.new d7)).trans k2
    refine Again.same (n - 1) (by omega) ⟨i + 1, v2, by omega, by simp [t0], by simp [t3], by simp [t5], by simp [t41], by simp [t42], by simp, ?_, ?_, kk⟩
    · have n3c' : ¬ i3 = cid := fun x => n3c x.symm
      have n3f' : ¬ i3 = fid := fun x => n3f x.symm
      exact (Fr7.trans (Fr7.refl.new d7) k2).at hi3 (by simp) (by simp [n3c', n3f']) (c'.ce.notc hi3)
    · rw [hsn, List.foldl_append]; exact c2
  · have htk : e.args.take i = e.args := List.take_of_length_le (by omega)
    rw [htk] at c'
    simp -dsimp [t0, t5, t42, t43, hlt, c'.cc, hwk, hk, hpk]
    exact Gives.same (hK v' h' c' kf)
end
end Go.Proofs.YtghidedifiolbaaGreat

/- The program's types: an expression's own type. -/
namespace Go.Proofs.YtghidedifiolbaaGreat
open Go.AM
section
variable {p : List Df} {heads : Mp} {cid mid fid fw : Nat} {σ : Type} {rep : σ → List AV} {stp : σ → Int → σ} {h h1 : Hp} {v v1 : AV} {env : List Pm} {s : σ}

theorem pown_ok {n : Nat} (hp : p.length ≤ 1000000) (hh : PlOK heads p) (hpp : ∀ f ∈ p, ∀ x ∈ f.params, tyOK x.ty) (hw : Wants p heads cid mid fid fw rep stp n) {e : Ex} {hi : Int} {t : Int} {K : AV → Hp → Prop} (hn : e.size ≤ n + 1) (hnm : env.length + 2 * e.size ≤ 200000) (hf : e.fine hi) (hc : callsOK p e) (hop : ¬ (e.op = 19 ∨ e.op = 20 ∨ e.op = 21 ∨ e.op = 22)) (c : Ck p heads cid mid fid fw rep h v env s)
    (hK : Nx p heads cid mid fid fw rep stp env h v s (progL p env e t 0 e.args) (K (.int .i64 (ownT p env e)))) : ACalls Tryz.prog 101 [.ptr cid 0, .agg e.cells] h K := by
  refine calls_of mixed Tryz.func101 comp101 (Nat.le_of_ble_eq_true rfl) ?_
  have hsa := e.size_args
  have hla := Ex.sizeL_len e.args
  have hcl := (callsOK_eq.1 hc).2
  have hfa := Ex.fine_args hf
  have har : arOK e.op e.args.length := by cases e; exact hf.1
  simp -dsimp [c101]
  intro i3 d3
  have c3 := c.new (o := .cells e.cells) d3
  have n3c : ¬ cid = i3 := cells_ne c.cc d3
  have n3f : ¬ fid = i3 := cells_ne c.cf d3
  have n3c' : ¬ i3 = cid := fun x => n3c x.symm
  have n3f' : ¬ i3 = fid := fun x => n3f x.symm
  have k3 : Fr7 [cid, fid] h v (hset h i3 (.cells e.cells)) v := Fr7.refl.new d3
  have hv3 : ¬ isId v i3 := c.ce.notd d3
  have h3at : ∀ {h2 : Hp} {v2 : AV}, Fr7 [cid, fid] (hset h i3 (.cells e.cells)) v h2 v2 → h2 i3 = .cells e.cells := fun k => k.at (j := i3) (by simp) (by simp) (by simp [n3c', n3f']) hv3
  simp only [not_or] at hop
  obtain ⟨o19, o20, o21, o22⟩ := hop
  have hwi : ∀ i, withinS env e i = env := fun i => by simp [withinS, o20, o21, o22]
  -- no parts
  have leaf : e.args = [] → Gives K (some (.int .i64 (ownT p env e))) (hset h i3 (.cells e.cells)) := by
    intro ha
    rw [ha] at hK
    exact Gives.same (hK v _ (by simpa [progL] using c3) k3)
  have nil_of : (e.op = 1 ∨ e.op = 2 ∨ e.op = 3 ∨ e.op = 4 ∨ e.op = 5 ∨ e.op = 6) → e.args = [] := fun h => by
    have : e.args.length = 0 := by
      rcases har with x | x | x | x | x <;> omega
    exact List.length_eq_zero_iff.1 this
  -- one type wanted of all parts
  have hall : ∀ t', (∀ k, wantedS p e k t = t') → progL p env e t 0 e.args = allL p env t' e.args := fun t' ht => progL_all p env e t t' e.args 0 fun k _ _ => ⟨hwi k, ht k⟩
  by_cases o2 : e.op = 2 ∨ e.op = 3
  · have hl := leaf (nil_of (by omega))
    have : ownT p env e = 2 := by rcases o2 with o | o <;> simp [ownT, ownS, o]
    rw [this] at hl
    rcases o2 with o | o <;> simp -dsimp [o] <;> exact hl
  by_cases o4 : e.op = 4
  · have hl := leaf (nil_of (by omega))
    have : ownT p env e = 3 := by simp [ownT, ownS, o4]
    rw [this] at hl
    simp -dsimp [o4]; exact hl
  by_cases o5 : e.op = 5
  · have hl := leaf (nil_of (by omega))
    have : ownT p env e = e.ty := by simp [ownT, ownS, o5]
    rw [this] at hl
    simp -dsimp [o5]; exact hl
  by_cases o6 : e.op = 6
  · have hl := leaf (nil_of (by omega))
    have hT : ownT p env e = (lastT e.name env).getD 0 := by simp [ownT, o6]
    rw [hT] at hl
    have hw0 : IntKind.i64.wrap ((env.length : Int) - 1) = (env.length : Int) - 1 := by rw [wrap_i64] <;> omega
    simp -dsimp [o6, c.cc, n3c, c.ce.len, hw0]
    refine ALoop.start (fun n tm h' => n ≤ env.length ∧ tm 0 = .ptr cid 0 ∧ tm 3 = .ptr i3 0 ∧ tm 5 = .int .i64 ((n : Int) - 1) ∧ lastT e.name (env.take n) = lastT e.name env ∧ h' = hset h i3 (.cells e.cells)) env.length ⟨by simp, by simp, by simp, by simp, by simp, rfl⟩ ?_
    rintro n tm h' ⟨hn, t0, t3, t5, hq, rfl⟩
    cases n with
    | zero =>
      simp [lastT] at hq
      rw [← hq] at hl
      simp -dsimp [t5]
      exact hl
    | succ n =>
      have hlt : n < env.length := by omega
      rw [take_snoc env hlt, lastT_snoc] at hq
      have e1 : ((n + 1 : Nat) : Int) - 1 = n := by omega
      have hw1 : IntKind.i64.wrap ((n : Int) - 1) = (n : Int) - 1 := by rw [wrap_i64] <;> omega
      rw [e1] at t5
      rcases c.ce with ⟨_, x⟩ | ⟨id, xs, rfl, ha⟩
      · rw [x] at hlt; simp at hlt
      have nid : ¬ id = i3 := by rintro rfl; rw [d3] at ha; cases ha
      have hcc := c.cc
      have hrow : (env.map Pm.cells ++ xs)[n]? = some env[n].cells := by rw [List.getElem?_append_left (by simpa using hlt)]; simp [hlt]
      generalize hx : env[n] = x at *
      have hlt2 : n < env.length + xs.length := by omega
      by_cases hnm2 : x.name = e.name
      · rw [if_pos hnm2] at hq
        rw [← hq] at hl
        simp -dsimp [t0, t3, t5, hcc, n3c, nid, ha, hlt, hrow, hnm2]
        exact hl
      · rw [if_neg hnm2] at hq
        simp -dsimp [t0, t3, t5, hcc, n3c, nid, ha, hlt, hrow, hnm2, hw1]
        exact Again.same n (by omega) ⟨by omega, by simp [t0], by simp [t3], by simp, hq, rfl⟩
  by_cases o7 : e.op = 7
  · simp -dsimp [o7]
    refine call_ok hp hh hpp hw (t := t) (by omega) (by omega) hf hc o7 c3 ?_
    intro v2 h2 c2 k2
    simp -dsimp
    exact Gives.same (hK v2 h2 c2 (k3.trans k2))
  by_cases o14 : e.op = 14
  · have hT : ownT p env e = 2 := by simp [ownT, ownS, o14]
    rw [hT, hall 2 (fun k => by simp [wantedS, o14])] at hK
    simp -dsimp [o14]
    refine all_ok hw (by omega) (by omega) hfa hcl (.inr (.inl rfl)) c3 ?_
    intro v2 h2 c2 k2
    simp -dsimp
    exact Gives.same (hK v2 h2 c2 (k3.trans k2))
  by_cases o18 : e.op = 18
  · have hT : ownT p env e = 3 := by simp [ownT, ownS, o18]
    have hlen : e.args.length = 2 := by rcases har with x | x | x | x | x <;> omega
    have hw0 : wantedS p e 0 t = 1 := by simp [wantedS, o18]
    have hw1 : wantedS p e 1 t = 3 := by simp [wantedS, o18]
    rw [hT] at hK
    match hA : e.args, hlen with
    | [a, b], _ =>
      rw [hA] at hK hfa hcl hsa
      simp only [progL, hwi, hw0, hw1, List.append_nil, Nat.zero_add, List.foldl_append] at hK
      simp only [Ex.sizeL] at hsa
      simp -dsimp [o18, hA]
      refine hw a _ env 1 _ _ v _ (by omega) (by omega) hfa.1 hcl.1 (.inl rfl) c3 ?_
      intro v2 h2 c2 k2
      simp -dsimp [h3at k2, hA]
      refine hw b _ env 3 _ _ v2 _ (by omega) (by omega) hfa.2.1 hcl.2.1 (.inr (.inr rfl)) c2 ?_
      intro v4 h4 c4 k4
      simp -dsimp
      refine Gives.same (hK v4 h4 ?_ ((k3.trans k2).trans k4))
      simpa [List.foldl_append] using c4
  · have hT : ownT p env e = if e.op = 12 ∨ e.op = 13 then 2 else 1 := by
      by_cases o12 : e.op = 12
      · simp [ownT, ownS, o12]
      · by_cases o13 : e.op = 13
        · simp [ownT, ownS, o13]
        · have : e.op = 1 ∨ e.op = 8 ∨ e.op = 9 ∨ e.op = 10 ∨ e.op = 11 ∨ e.op = 15 ∨ e.op = 16 ∨ e.op = 17 := by
            rcases har with x | x | x | x | x <;> omega
          simp [ownT, ownS, o6, o12, o13, this]
    simp only [not_or] at o2
    rw [hT, hall 1 (fun k => by simp [wantedS, o14, o18, o7, o19, o20, o21, o22])] at hK
    simp -dsimp [o2.1, o2.2, o4, o5, o6, o7, o14, o18]
    refine all_ok hw (by omega) (by omega) hfa hcl (.inl rfl) c3 ?_
    intro v2 h2 c2 k2
    have hK2 := hK v2 h2 c2 (k3.trans k2)
    by_cases o12 : e.op = 12
    · simp only [o12, true_or, if_true] at hK2
      simp -dsimp [h3at k2, o12]
      exact Gives.same hK2
    · by_cases o13 : e.op = 13
      · simp only [o13, or_true, if_true] at hK2
        simp -dsimp [h3at k2, o13]
        exact Gives.same hK2
      · simp only [o12, o13, or_self, if_false] at hK2
        simp -dsimp [h3at k2, o12, o13]
        exact Gives.same hK2
end
end Go.Proofs.YtghidedifiolbaaGreat

/- The program's types: want. -/
namespace Go.Proofs.YtghidedifiolbaaGreat
open Go.AM
section
variable {p : List Df} {heads : Mp} {cid mid fid fw : Nat} {σ : Type} {rep : σ → List AV} {stp : σ → Int → σ} {h h1 : Hp} {v v1 : AV} {env : List Pm} {s : σ}

theorem tin_ok {ys : List Pm} {vs : AV} {fd : FuncId} {caps : List AV} {l : List Int} {K : AV → Hp → Prop} (hvs : elemsOf h 3 vs = some (ys.map Pm.cells)) (hne : ys ≠ []) (hlen : env.length + ys.length ≤ 1000000) (c : Ck p heads cid mid fid fw rep h v env s)
    (hdo : ∀ (h1 : Hp) (v1 : AV) (K1 : AV → Hp → Prop), Ck p heads cid mid fid fw rep h1 v1 (env ++ ys) s → Fr7 [cid, fid] h v h1 v1 → Nx p heads cid mid fid fw rep stp (env ++ ys) h1 v1 s l (K1 .undef) → ACalls Tryz.prog fd caps h1 K1)
    (hK : Nx p heads cid mid fid fw rep stp env h v s l (K .undef)) : ACalls Tryz.prog 97 [.ptr cid 0, .fn fd caps, vs] h K := by
  refine calls_of mixed Tryz.func97 comp97 (Nat.le_of_ble_eq_true rfl) ?_
  simp -dsimp [c97, c.cc, c.ce.len, hvs]
  refine c.ce.app (ys := ys) rfl hne hlen (by decide) ?_
  intro v1 h1 ce1 k1
  have hc1 : h1 cid = .cells [.mp mid, rowsAV (p.map Df.cells), v, .fn fw [.ptr fid 0]] := k1.at c.cc (by simp) (by simp) (c.ce.notc c.cc)
  have hf1 : h1 fid = .cells (rep s) := k1.at c.cf (by simp) (by simp) (c.ce.notc c.cf)
  have hm1 : h1 mid = .map (mapAV heads) := k1.at c.cm (by simp) (by simp) (c.ce.notm c.cm)
  have nmc : ¬ mid = cid := by rintro rfl; have := c.cm; rw [c.cc] at this; cases this
  have nfc : ¬ fid = cid := fun x => c.nf x.symm
  have hv1 : v1.flat = true ∧ v1.cells = [v1] := by
    rcases ce1 with ⟨rfl, _⟩ | ⟨id, xs, rfl, _⟩ <;> exact ⟨rfl, rfl⟩
  simp -dsimp [hc1, hv1]
  refine hdo _ v1 _ ⟨by simp, by simp [nmc, hm1], by simp [nfc, hf1], ce1.set (ce1.notc hc1), c.nf⟩ (k1.weak.mem (by simp)) ?_
  intro v2 h2 c2 k2
  obtain ⟨v3, hcut, ce3, hid⟩ := c2.ce.cut hne
  have hcut2 := hcut h2 (fun _ _ _ _ => rfl)
  have hv3 : v3.flat = true ∧ v3.cells = [v3] := by
    rcases ce3 with ⟨rfl, _⟩ | ⟨id, xs, rfl, _⟩ <;> exact ⟨rfl, rfl⟩
  simp -dsimp [c2.cc, hcut2, hv3]
  refine Gives.same (hK v3 _ ⟨by simp, by simp [nmc, c2.cm], by simp [nfc, c2.cf], ce3.set ?_, c.nf⟩ ?_)
  · rw [hid]; exact c2.ce.notc c2.cc
  · exact (((k1.weak.mem (by simp)).trans k2).same hid).mem (by simp)

def wnT : ACode := match c70.code with | .seq _ x => x | _ => .skip
theorem want_core {n : Nat} (hp : p.length ≤ 1000000) (hh : PlOK heads p) (hpp : ∀ f ∈ p, ∀ x ∈ f.params, tyOK x.ty) (hwr : WrOK fw rep stp) (hw : Wants p heads cid mid fid fw rep stp n)
    {e : Ex} {hi : Int} {t : Int} {K : AV → Hp → Prop} {tm : Tm} {H : Hp} {i3 i4 i5 : Nat} (hn : e.size ≤ n + 1) (hnm : env.length + 2 * e.size ≤ 200000) (hf : e.fine hi) (hc : callsOK p e) (ht : tyOK t) (c5 : Ck p heads cid mid fid fw rep H v env s)
    (t3 : tm 3 = .ptr i3 0) (t4 : tm 4 = .ptr i4 0) (t5 : tm 5 = .ptr i5 0) (h3 : H i3 = .cells [.ptr cid 0]) (h4 : H i4 = .cells e.cells) (h5 : H i5 = .cells [.int .i64 t])
    (m3c : ¬ i3 = cid) (m3f : ¬ i3 = fid) (m4c : ¬ i4 = cid) (m4f : ¬ i4 = fid) (m5c : ¬ i5 = cid) (m5f : ¬ i5 = fid) (k5 : Fr7 [cid, fid] h v1 H v)
    (hK : Nx p heads cid mid fid fw rep stp env h v1 s (progS p env t e) (K .undef)) :
    AW Tryz.prog wnT (fun e tm h' => match e with | .exit _ => False | _ => Gives K (some .undef) h') tm H := by
  have hsa := e.size_args
  have hla := Ex.sizeL_len e.args
  have hcl := (callsOK_eq.1 hc).2
  have hfa := Ex.fine_args hf
  have har : arOK e.op e.args.length := by cases e; exact hf.1
  have hety : (e.op = 5 ∨ e.op = 21 ∨ e.op = 22) → tyOK e.ty := by cases e; exact hf.2.1
  rw [show progS p env t e = progL p env e t 0 e.args ++ ownW p env e t from progS_eq p env t e] at hK
  have v3 := c5.ce.notc h3
  have v4 := c5.ce.notc h4
  have v5 := c5.ce.notc h5
  -- what stands in the three cells behind any work
  have at3 : ∀ {h2 : Hp} {v2 : AV}, Fr7 [cid, fid] H v h2 v2 → h2 i3 = .cells [.ptr cid 0] := fun k => k.at h3 (by simp) (by simp [m3c, m3f]) v3
  have at4 : ∀ {h2 : Hp} {v2 : AV}, Fr7 [cid, fid] H v h2 v2 → h2 i4 = .cells e.cells := fun k => k.at h4 (by simp) (by simp [m4c, m4f]) v4
  have at5 : ∀ {h2 : Hp} {v2 : AV}, Fr7 [cid, fid] H v h2 v2 → h2 i5 = .cells [.int .i64 t] := fun k => k.at h5 (by simp) (by simp [m5c, m5f]) v5
  by_cases hop : e.op = 19 ∨ e.op = 20 ∨ e.op = 21 ∨ e.op = 22
  · have hW : ownW p env e t = [] := by
      rcases hop with o | o | o | o <;> simp [ownW, ownS, o]
    rw [hW, List.append_nil] at hK
    by_cases o19 : e.op = 19
    · have hlen : e.args.length = 3 := by rcases har with x | x | x | x | x <;> omega
      have hwi : ∀ i, withinS env e i = env := fun i => by simp [withinS, o19]
      match hA : e.args, hlen with
      | [a, b, d], _ =>
        rw [hA] at hK hfa hcl hsa
        have q0 : wantedS p e 0 t = 2 := by simp [wantedS, o19]
        have q1 : wantedS p e 1 t = t := by simp [wantedS, o19]
        have q2 : wantedS p e 2 t = t := by simp [wantedS, o19]
        simp only [progL, hwi, q0, q1, q2, List.append_nil, Nat.zero_add, Nat.reduceAdd] at hK
        simp only [Ex.sizeL] at hsa
        simp -dsimp [wnT, c70, t3, t4, t5, h3, h4, h5, o19, hA]
        refine hw a _ env 2 _ _ v _ (by omega) (by omega) hfa.1 hcl.1 (.inr (.inl rfl)) c5 ?_
        intro v2 h2 c2 k2
        simp -dsimp [t3, t4, t5, at3 k2, at4 k2, at5 k2, hA, rowsAV_cons]
        refine all_ok hw (l := [b, d]) (hi := hi) (env := env) (s := (progS p env 2 a).foldl stp s) (v := v2) (by simp only [Ex.sizeL]; omega) (by simp only [Ex.sizeL]; omega) ⟨hfa.2.1, hfa.2.2.1, trivial⟩ ⟨hcl.2.1, hcl.2.2.1, trivial⟩ ht c2 ?_
        intro v6 h6 c6 k6
        have kk := k2.trans k6
        simp -dsimp [t3, t4, t5, at5 kk]
        refine Gives.same (hK v6 h6 ?_ (k5.trans kk))
        simpa [List.foldl_append, allL] using c6
    by_cases o20 : e.op = 20
    · have hlen : e.args.length = 3 := by rcases har with x | x | x | x | x <;> omega
      match hA : e.args, hlen with
      | [a, b, d], _ =>
        rw [hA] at hK hfa hcl hsa
        have q0 : wantedS p e 0 t = 3 := by simp [wantedS, o20]
        have q1 : wantedS p e 1 t = t := by simp [wantedS, o20]
        have q2 : wantedS p e 2 t = t := by simp [wantedS, o20]
        have r0 : withinS env e 0 = env := by simp [withinS, o20]
        have r1 : withinS env e 1 = env := by simp [withinS, o20]
        have r2 : withinS env e 2 = env ++ [⟨e.name, 1, 0⟩, ⟨e.tail, 3, 0⟩] := by simp [withinS, o20]
        simp only [progL, r0, r1, r2, q0, q1, q2, List.append_nil, Nat.zero_add, Nat.reduceAdd] at hK
        simp only [Ex.sizeL] at hsa
        simp -dsimp [wnT, c70, t3, t4, t5, h3, h4, h5, o20, hA]
        refine hw a _ env 3 _ _ v _ (by omega) (by omega) hfa.1 hcl.1 (.inr (.inr rfl)) c5 ?_
        intro v2 h2 c2 k2
        simp -dsimp [t3, t4, t5, at3 k2, at4 k2, at5 k2, hA]
        refine hw b _ env t _ _ v2 _ (by omega) (by omega) hfa.2.1 hcl.2.1 ht c2 ?_
        intro v6 h6 c6 k6
        have kk := k2.trans k6
        simp -dsimp [t3, t4, t5, at3 kk, at4 kk, at5 kk]
        intro i7 d7
        have c7 := fun o => c6.new (o := o) d7
        have kk7 := fun o => kk.new (o := o) d7
        simp -dsimp
        refine tin_ok (ys := [⟨e.name, 1, 0⟩, ⟨e.tail, 3, 0⟩]) (l := progS p (env ++ [⟨e.name, 1, 0⟩, ⟨e.tail, 3, 0⟩]) t d) (stp := stp) (by simp [Pm.cells]) (by simp) (by simp; omega) (c7 _) ?_ ?_
        · intro h8 v8 K8 c8 k8 hK8
          have kk8 := (kk7 _).trans k8
          refine calls_of mixed Tryz.func98 comp98 (Nat.le_of_ble_eq_true rfl) ?_
          simp -dsimp [c98, at3 kk8, at4 kk8, at5 kk8, hA]
          refine hw d _ _ t _ _ v8 _ (by omega) (by simp; omega) hfa.2.2.1 hcl.2.2.1 ht c8 ?_
          intro v9 h9 c9 k9
          simp -dsimp
          exact Gives.same (hK8 v9 h9 c9 k9)
        · intro v9 h9 c9 k9
          have kk9 := (kk7 _).trans k9
          simp -dsimp [t3, t4, t5, at5 kk9]
          refine Gives.same (hK v9 h9 ?_ (k5.trans kk9))
          simpa [List.foldl_append] using c9
    by_cases o21 : e.op = 21
    · have hlen : e.args.length = 2 := by rcases har with x | x | x | x | x <;> omega
      match hA : e.args, hlen with
      | [a, b], _ =>
        rw [hA] at hK hfa hcl hsa
        have q0 : wantedS p e 0 t = e.ty := by simp [wantedS, o21]
        have q1 : wantedS p e 1 t = t := by simp [wantedS, o21]
        have r0 : withinS env e 0 = env ++ [⟨e.name, e.ty, 0⟩] := by simp [withinS, o21]
        have r1 : withinS env e 1 = env ++ [⟨e.name, e.ty, 0⟩] := by simp [withinS, o21]
        simp only [progL, r0, r1, q0, q1, List.append_nil, Nat.zero_add, Nat.reduceAdd] at hK
        simp only [Ex.sizeL] at hsa
        simp -dsimp [wnT, c70, t3, t4, t5, h3, h4, h5, o21]
        intro i7 d7
        have c7 := fun o => c5.new (o := o) d7
        have kk7 := fun o => (Fr7.refl (A := [cid, fid]) (h := H) (v := v)).new (o := o) d7
        simp -dsimp
        refine tin_ok (ys := [⟨e.name, e.ty, 0⟩]) (l := progS p (env ++ [⟨e.name, e.ty, 0⟩]) e.ty a ++ progS p (env ++ [⟨e.name, e.ty, 0⟩]) t b) (stp := stp) (by simp [Pm.cells]) (by simp) (by simp; omega) (c7 _) ?_ ?_
        · intro h8 v8 K8 c8 k8 hK8
          have kk8 := (kk7 _).trans k8
          refine calls_of mixed Tryz.func99 comp99 (Nat.le_of_ble_eq_true rfl) ?_
          simp -dsimp [c99, at3 kk8, at4 kk8, at5 kk8, hA]
          refine hw a _ _ e.ty _ _ v8 _ (by omega) (by simp; omega) hfa.1 hcl.1 (hety (by omega)) c8 ?_
          intro v9 h9 c9 k9
          have kk9 := kk8.trans k9
          simp -dsimp [t3, t4, t5, at3 kk9, at4 kk9, at5 kk9, hA]
          refine hw b _ _ t _ _ v9 _ (by omega) (by simp; omega) hfa.2.1 hcl.2.1 ht c9 ?_
          intro v10 h10 c10 k10
          simp -dsimp
          refine Gives.same (hK8 v10 h10 ?_ (k9.trans k10))
          simpa [List.foldl_append] using c10
        · intro v9 h9 c9 k9
          have kk9 := (kk7 _).trans k9
          simp -dsimp [t3, t4, t5, at5 kk9]
          exact Gives.same (hK v9 h9 c9 (k5.trans kk9))
    · have o22 : e.op = 22 := by omega
      have hlen : e.args.length = 2 := by rcases har with x | x | x | x | x <;> omega
      match hA : e.args, hlen with
      | [a, b], _ =>
        rw [hA] at hK hfa hcl hsa
        have q0 : wantedS p e 0 t = e.ty := by simp [wantedS, o22]
        have q1 : wantedS p e 1 t = t := by simp [wantedS, o22]
        have r0 : withinS env e 0 = env := by simp [withinS, o22]
        have r1 : withinS env e 1 = env ++ [⟨e.name, e.ty, 0⟩] := by simp [withinS, o22]
        simp only [progL, r0, r1, q0, q1, List.append_nil, Nat.zero_add, Nat.reduceAdd] at hK
        simp only [Ex.sizeL] at hsa
        simp -dsimp [wnT, c70, t3, t4, t5, h3, h4, h5, o22, hA]
        refine hw a _ env e.ty _ _ v _ (by omega) (by omega) hfa.1 hcl.1 (hety (by omega)) c5 ?_
        intro v6 h6 c6 kk
        simp -dsimp [t3, t4, t5, at3 kk, at4 kk, at5 kk]
        intro i7 d7
        have c7 := fun o => c6.new (o := o) d7
        have kk7 := fun o => kk.new (o := o) d7
        simp -dsimp
        refine tin_ok (ys := [⟨e.name, e.ty, 0⟩]) (l := progS p (env ++ [⟨e.name, e.ty, 0⟩]) t b) (stp := stp) (by simp [Pm.cells]) (by simp) (by simp; omega) (c7 _) ?_ ?_
        · intro h8 v8 K8 c8 k8 hK8
          have kk8 := (kk7 _).trans k8
          refine calls_of mixed Tryz.func100 comp100 (Nat.le_of_ble_eq_true rfl) ?_
          simp -dsimp [c100, at3 kk8, at4 kk8, at5 kk8, hA]
          refine hw b _ _ t _ _ v8 _ (by omega) (by simp; omega) hfa.2.1 hcl.2.1 ht c8 ?_
          intro v9 h9 c9 k9
          simp -dsimp
          exact Gives.same (hK8 v9 h9 c9 k9)
        · intro v9 h9 c9 k9
          have kk9 := (kk7 _).trans k9
          simp -dsimp [t3, t4, t5, at5 kk9]
          refine Gives.same (hK v9 h9 ?_ (k5.trans kk9))
          simpa [List.foldl_append] using c9
  · have hs2 : (ownS p env e).2 = true := by
      simp only [ownS]
      split; · rfl
      split; · rfl
      split; · rfl
      split; · rfl
      split; · rfl
      split; · rfl
      · exfalso; rcases har with x | x | x | x | x <;> omega
    have hW : ownW p env e t = if ownT p env e ≠ t then [e.pos] else [] := ownW_leaf ht hs2
    have hop' := hop
    simp only [not_or] at hop
    simp -dsimp [wnT, c70, t3, t4, t5, h3, h4, h5, hop.1, hop.2.1, hop.2.2.1, hop.2.2.2]
    refine pown_ok hp hh hpp hw (t := t) (by omega) (by omega) hf hc hop' c5 ?_
    intro v2 h2 c2 k2
    by_cases heq : ownT p env e = t
    · rw [hW] at hK
      simp only [heq, ne_eq, not_true_eq_false, if_false, List.append_nil] at hK
      simp -dsimp [t3, t4, t5, at5 k2, heq]
      exact Gives.same (hK v2 h2 c2 (k5.trans k2))
    · rw [hW] at hK
      simp only [heq, ne_eq, not_false_eq_true, if_true] at hK
      simp -dsimp [t3, t4, t5, at3 k2, at4 k2, at5 k2, heq, c2.cc]
      refine hwr fid _ e.pos _ _ c2.cf ?_
      simp -dsimp
      have nmf : ¬ mid = fid := by rintro rfl; have := c2.cm; rw [c2.cf] at this; cases this
      refine Gives.same (hK v2 _ ⟨by simp [c5.nf, c2.cc], by simp [nmf, c2.cm], ?_, c2.ce.set (c2.ce.notc c2.cf), c5.nf⟩ ((k5.trans k2).mem (by simp)))
      simp [List.foldl_append]
theorem want_step {n : Nat} (hp : p.length ≤ 1000000) (hh : PlOK heads p) (hpp : ∀ f ∈ p, ∀ x ∈ f.params, tyOK x.ty) (hwr : WrOK fw rep stp) (hw : Wants p heads cid mid fid fw rep stp n) : Wants p heads cid mid fid fw rep stp (n + 1) := by
  intro e hi env t s h v K hn hnm hf hc ht c hK
  refine calls_of mixed Tryz.func70 comp70 (Nat.le_of_ble_eq_true rfl) ?_
  have hsplit : c70.code = .seq (match c70.code with | .seq a _ => a | _ => .skip) wnT := rfl
  rw [hsplit]
  have core := @want_core p heads cid mid fid fw σ rep stp h
  generalize wnT = T at *
  simp -dsimp [c70]
  intro i3 d3
  have c3 := c.new (o := .cells [.ptr cid 0]) d3
  have k3 : Fr7 [cid, fid] h v (hset h i3 (.cells [.ptr cid 0])) v := Fr7.refl.new d3
  simp -dsimp
  intro i4 d4
  have n34 := hset_ne d4
  have c4 := c3.new (o := .cells e.cells) d4
  have k4 := k3.new (o := .cells e.cells) d4
  simp -dsimp
  intro i5 d5
  have n45 := hset_ne d5
  have n35 : ¬ i3 = i5 := cells_ne (cs := [.ptr cid 0]) (by simp [n34]) d5
  have c5 := c4.new (o := .cells [.int .i64 t]) d5
  have k5 := k4.new (o := .cells [.int .i64 t]) d5
  simp -dsimp
  exact core hp hh hpp hwr hw hn hnm hf hc ht c5 (by simp) (by simp) (by simp) (by simp [n34, n35]) (by simp [n45]) (by simp)
    (fun x => cells_ne c.cc d3 x.symm) (fun x => cells_ne c.cf d3 x.symm) (fun x => cells_ne c3.cc d4 x.symm) (fun x => cells_ne c3.cf d4 x.symm) (fun x => cells_ne c4.cc d5 x.symm) (fun x => cells_ne c4.cf d5 x.symm) k5 hK
theorem wants_ok (hp : p.length ≤ 1000000) (hh : PlOK heads p) (hpp : ∀ f ∈ p, ∀ x ∈ f.params, tyOK x.ty) (hwr : WrOK fw rep stp) : ∀ n, Wants p heads cid mid fid fw rep stp n
  | 0 => fun e hi env t s h v K hn => by have := e.size_pos; omega
  | n + 1 => want_step hp hh hpp hwr (wants_ok hp hh hpp hwr n)
end
end Go.Proofs.YtghidedifiolbaaGreat

/- The program's types: a checker is made; what is told; Check. -/
namespace Go.Proofs.YtghidedifiolbaaGreat
open Go.AM

theorem topen_ok {p : List Df} {h : Hp} {K : AV → Hp → Prop} {w : AV} (hp : p.length ≤ 1000000) (hw : w.flat = true ∧ w.cells = [w])
    (hK : ∀ (cid mid : Nat) (heads : Mp), ¬ cid = mid → h cid = .dead → h mid = .dead → PlOK heads p → K (.ptr cid 0) (hset (hset h mid (.map (mapAV heads))) cid (.cells [.mp mid, rowsAV (p.map Df.cells), .nl, w]))) : ACalls Tryz.prog 68 [progAV p, w] h K := by
  refine calls_of mixed Tryz.func68 comp68 (Nat.le_of_ble_eq_true rfl) ?_
  simp -dsimp [c68, progAV]
  intro i2 d2
  simp -dsimp
  intro mid d3
  simp at d3
  obtain ⟨nm2, n2m, d3⟩ := d3
  simp -dsimp [n2m, hw]
  intro cid d4
  simp at d4
  obtain ⟨ncm, nmc, nc2, n2c, d4⟩ := d4
  have hw0 : IntKind.i64.wrap ((p.length : Int) - 1) = (p.length : Int) - 1 := by rw [wrap_i64] <;> omega
  simp -dsimp [n2m, n2c, hw0]
  have hks : ∀ o1 o2 o3, Keeps h (hset (hset (hset h i2 o1) mid o2) cid o3) := fun o1 o2 o3 => (((Keeps.refl h).set d2).set d3).set d4
  refine ALoop.start (fun n tm h' => ∃ heads : Mp, n ≤ p.length ∧ tm 2 = .ptr i2 0 ∧ tm 5 = .ptr cid 0 ∧ tm 6 = .int .i64 ((n : Int) - 1) ∧ (∀ nm, getM heads nm = headsS nm (p.drop n) n + 1) ∧
    h' = hset (hset (hset h i2 (.cells [rowsAV (p.map Df.cells)])) mid (.map (mapAV heads))) cid (.cells [.mp mid, rowsAV (p.map Df.cells), .nl, w])) p.length ⟨[], by simp, by simp, by simp, by simp, by simp [headsS, getM], by simp [mapAV]⟩ ?_
  rintro n tm h' ⟨heads, hn, t2, t5, t6, hq, rfl⟩
  cases n with
  | zero =>
    simp -dsimp [t5, t6]
    have hg : PlOK heads p := fun nm => by simpa using hq nm
    refine Gives.sub ?_ (hK cid mid heads ncm d4 d3 hg)
    intro j
    by_cases e1 : j = cid
    · exact .inl (by simp [e1])
    by_cases e2 : j = mid
    · exact .inl (by simp [e1, e2])
    by_cases e3 : j = i2
    · exact .inr (by simp [e1, e2, e3, d2, n2m, n2c])
    · exact .inl (by simp [e1, e2, e3])
  | succ n =>
    have hlt : n < p.length := by omega
    have e1 : ((n + 1 : Nat) : Int) - 1 = n := by omega
    rw [e1] at t6
    have hw1 : IntKind.i64.wrap ((n : Int) - 1) = (n : Int) - 1 := by rw [wrap_i64] <;> omega
    have hw2 : IntKind.i64.wrap ((n : Int) + 1) = (n : Int) + 1 := by rw [wrap_i64] <;> omega
    have hd := List.drop_eq_getElem_cons hlt
    have hq' : ∀ nm, headsS nm (p.drop n) n = if p[n].name = nm then (n : Int) else headsS nm (p.drop (n + 1)) (n + 1) := fun nm => by rw [hd]; rfl
    generalize hx : p[n] = f at *
    simp -dsimp [t2, t5, t6, hlt, hx, n2m, n2c, ncm, nmc, hw1, hw2]
    refine Again.same n (by omega) ⟨putM f.name ((n : Int) + 1) heads, by omega, by simp [t2], by simp [t5], by simp, fun nm => ?_, ?_⟩
    · rw [getM_putM, hq' nm, hq nm]
      by_cases e : nm = f.name
      · subst e; simp
      · have : ¬ f.name = nm := fun x => e x.symm
        rw [if_neg e, if_neg this]
    · rw [hset_comm ncm, hset_hset]

theorem wr_check : WrOK 94 fltRow tell7 := by
  intro fid f at_ h K hf hK
  refine calls_of mixed Tryz.func94 comp94 (Nat.le_of_ble_eq_true rfl) ?_
  simp only [tell7] at hK
  by_cases h0 : f.1 = 0
  · simp -dsimp [c94, hf, fltRow, h0]
    exact Gives.same (by simpa [h0, fltRow] using hK)
  · by_cases h1 : at_ < f.2
    · simp -dsimp [c94, hf, fltRow, h0, h1]
      exact Gives.same (by simpa [h1, fltRow] using hK)
    · have hc : ¬ (f.1 = 0 ∨ at_ < f.2) := by simp [h0, h1]
      rw [if_neg hc, hset_self hf] at hK
      simp -dsimp [c94, hf, fltRow, h0, h1]
      exact Gives.same hK
/-- What the program's Check gives. -/
def tcheck (p : List Df) : Flt := if (scheck p).1 ≠ 0 then scheck p else (progP p p).foldl tell7 (scheck p)
theorem tcheck_ok {p : List Df} {h : Hp} {K : AV → Hp → Prop} (hp : sizeP p ≤ 40000) (hf : ∀ f ∈ p, ∃ hi, f.fine hi) (hc : (scheck p).1 = 0 → ∀ f ∈ p, callsOK p f.body) (hK : K (.agg (fltRow (tcheck p))) h) : ACalls Tryz.prog 65 [progAV p] h K := by
  refine calls_of mixed Tryz.func65 comp65 (Nat.le_of_ble_eq_true rfl) ?_
  have hlen := sizeP_len p
  have hq : tcheck p = if (scheck p).1 ≠ 0 then scheck p else (progP p p).foldl tell7 (scheck p) := rfl
  have hpp : ∀ f ∈ p, ∀ x ∈ f.params, tyOK x.ty := fun f hm x hx => by
    obtain ⟨hi, hfi⟩ := hf f hm
    exact (hfi.params x hx).ty
  simp -dsimp [c65, progAV]
  intro i1 d1
  simp -dsimp
  intro i2 d2
  simp at d2
  obtain ⟨n21, n12, d2⟩ := d2
  simp -dsimp [n12]
  refine scheck_ok (p := p) hp ?_
  generalize scheck p = c0 at *
  simp -dsimp
  intro fid d3
  simp at d3
  obtain ⟨nf2, n2f, nf1, n1f, d3⟩ := d3
  have k3 : ∀ o1 o2 o3, Keeps h (hset (hset (hset h i1 o1) i2 o2) fid o3) := fun o1 o2 o3 => (((Keeps.refl h).set d1).set d2).set d3
  simp -dsimp [fltRow]
  by_cases hc0 : c0.1 = 0
  · simp only [ne_eq, hc0, not_true_eq_false, if_false] at hq
    have hc := hc hc0
    rw [hq] at hK
    simp -dsimp [hc0, fltRow, n12, n1f, n2f, nf2]
    refine topen_ok (p := p) (by omega) ⟨rfl, rfl⟩ ?_
    intro cid mid heads ncm d4 d5 hpl
    simp at d4 d5
    obtain ⟨⟨ncf, nfc⟩, ⟨nc2, n2c⟩, ⟨nc1, n1c⟩, d4⟩ : (¬ cid = fid ∧ ¬ fid = cid) ∧ (¬ cid = i2 ∧ ¬ i2 = cid) ∧ (¬ cid = i1 ∧ ¬ i1 = cid) ∧ h cid = .dead := ⟨⟨d4.1, d4.2.1⟩, ⟨d4.2.2.1, d4.2.2.2.1⟩, ⟨d4.2.2.2.2.1, d4.2.2.2.2.2.1⟩, d4.2.2.2.2.2.2⟩
    obtain ⟨⟨nmf, nfm⟩, ⟨nm2, n2m⟩, ⟨nm1, n1m⟩, d5⟩ : (¬ mid = fid ∧ ¬ fid = mid) ∧ (¬ mid = i2 ∧ ¬ i2 = mid) ∧ (¬ mid = i1 ∧ ¬ i1 = mid) ∧ h mid = .dead := ⟨⟨d5.1, d5.2.1⟩, ⟨d5.2.2.1, d5.2.2.2.1⟩, ⟨d5.2.2.2.2.1, d5.2.2.2.2.2.1⟩, d5.2.2.2.2.2.2⟩
    have nmc : ¬ mid = cid := fun x => ncm x.symm
    simp -dsimp [n1c, n1m, n1f, n12]
    refine ALoop.start (fun n tm h' => ∃ (i : Nat) (v : AV) (env : List Pm), i + n = p.length ∧ tm 2 = .ptr i2 0 ∧ tm 3 = .ptr fid 0 ∧ tm 4 = .ptr cid 0 ∧ tm 17 = rowsAV (p.map Df.cells) ∧ tm 18 = .int .i64 p.length ∧ tm 19 = .int .i64 i ∧
      h' i2 = .cells [.int .i64 0, .int .i64 0] ∧ ¬ isId v i2 ∧ Ck p heads cid mid fid 94 fltRow h' v env ((progP p (p.take i)).foldl tell7 c0) ∧ Fr7 [cid, fid] h .nl h' v) p.length
      ⟨0, .nl, [], by simp, by simp, by simp, by simp, by simp, by simp, by simp, by simp [n2c, n2m, n2f], by simp, ⟨by simp, by simp [nmc], by simp [nfc, nfm, progP, fltRow, hc0], .inl ⟨rfl, rfl⟩, ncf⟩, fun j hj _ => (((k3 _ _ _).set d5).set d4 j).imp id (fun x => ⟨x, isId_nl j⟩)⟩ ?_
    rintro n tm h' ⟨i, v, env, hi, t2, t3, t4, t17, t18, t19, hi2, hv2, ck, hk⟩
    have hw1 : IntKind.i64.wrap ((i : Int) + 1) = ((i + 1 : Nat) : Int) := by rw [wrap_i64] <;> omega
    by_cases hlt : i < p.length
    · have hmem := List.getElem_mem hlt
      have hsf : p[i].size ≤ sizeP p := sizeP_mem hmem
      have hsz : p[i].size = 1 + p[i].params.length + p[i].body.size := rfl
      have hsn := progP_snoc p (p.take i) p[i]
      rw [← take_snoc p hlt] at hsn
      obtain ⟨hif, hfi⟩ := hf _ hmem
      have hcf := hc _ hmem
      generalize hx : p[i] = f at *
      simp -dsimp [t17, t18, t19, hlt, hx]
      intro i6 d6
      have ck6 := ck.new (o := .cells f.cells) d6
      have hk6 := hk.new (o := .cells f.cells) d6
      have n26 := cells_ne hi2 d6
      have nc6 := cells_ne ck.cc d6
      have n6c : ¬ i6 = cid := fun x => nc6 x.symm
      simp -dsimp [t4]
      refine EnvAt.app0 (ys := f.params) rfl (by omega) (by decide) ?_
      intro v1 h1 ce1 kq
      have q : ∀ {j : Nat} {o : AObj}, hset h' i6 (.cells f.cells) j = o → o ≠ .dead → h1 j = o ∧ ¬ isId v1 j := fun {j o} hj ho => by
        rcases kq j (by simp) (by simp) with x | ⟨x, y⟩
        · exact absurd (hj.symm.trans x) ho
        · exact ⟨x.trans hj, y⟩
      have qc := q ck6.cc (by simp)
      have qm := q ck6.cm (by simp)
      have qf := q ck6.cf (by simp)
      have q2 := q (j := i2) (o := .cells [.int .i64 0, .int .i64 0]) (by simp [n26, hi2]) (by simp)
      have q6 := q (j := i6) (o := .cells f.cells) (by simp) (by simp)
      have hfl := ce1.flat
      have n2c' : ¬ i2 = cid := n2c
      simp -dsimp [t4, qc.1, hfl, q6.1, n6c]
      have hk1 : Fr7 [cid, fid] h .nl (hset h1 cid (.cells [.mp mid, rowsAV (p.map Df.cells), v1, .fn 94 [.ptr fid 0]])) v1 := by
        refine Fr7.mem (fun j hj _ => ?_) (by simp)
        rcases hk6 j hj (by simp) with x | ⟨x, _⟩
        · exact .inl x
        · rcases kq j (by simp) (by simp) with y | ⟨y, z⟩
          · exact .inl (by rw [← x]; exact y)
          · exact .inr ⟨y.trans x, z⟩
      refine wants_ok (mid := mid) (heads := heads) (by omega) hpl hpp wr_check _ f.body hif f.params f.ty ((progP p (p.take i)).foldl tell7 c0) (hset h1 cid (.cells [.mp mid, rowsAV (p.map Df.cells), v1, .fn 94 [.ptr fid 0]])) v1 _ (Nat.le_refl _) (by omega) hfi.body hcf hfi.ty ⟨by simp, by simp [nmc, qm.1], by simp [nfc, qf.1], ce1.set qc.2, ncf⟩ ?_
      intro v2 h2 ck2 k2
      have q22 : h2 i2 = .cells [.int .i64 0, .int .i64 0] ∧ ¬ isId v2 i2 := by
        rcases k2 i2 (by simp [n2c, n2f]) q2.2 with x | ⟨x, y⟩
        · simp [n2c, q2.1] at x
        · exact ⟨by rw [x]; simp [n2c, q2.1], y⟩
      simp -dsimp [t19, hw1]
      exact Again.same (n - 1) (by omega) ⟨i + 1, v2, f.params, by omega, by simp [t2], by simp [t3], by simp [t4], by simp [t17], by simp [t18], by simp, q22.1, q22.2, by rw [hsn, List.foldl_append]; exact ck2, hk1.trans k2⟩
    · have htk : p.take i = p := List.take_of_length_le (by omega)
      rw [htk] at ck
      simp -dsimp [t2, t3, t18, t19, hlt, ck.cf, hi2, fltRow]
      refine Gives.sub (Keeps.sub (Keeps.set (fun j => ?_) d2)) hK
      by_cases e1 : j = cid
      · exact .inl (e1 ▸ d4)
      by_cases e2 : j = fid
      · exact .inl (e2 ▸ d3)
      exact (hk j (by simp [e1, e2]) (by simp)).imp id (fun x => x.1)
  · simp only [ne_eq, hc0, not_false_eq_true, if_true] at hq
    rw [hq] at hK
    simp -dsimp [hc0, fltRow, n2f, nf2]
    exact Gives.sub (((((Keeps.refl h).set d1).set d2).set d3).set d2).sub hK
end Go.Proofs.YtghidedifiolbaaGreat

/- Nesting; the names' chain; do tables fit? -/
namespace Go.Proofs.YtghidedifiolbaaGreat
open Go.AM

theorem snest_ok : ∀ (n : Nat) (e : Ex) (h : Hp) (K : AV → Hp → Prop), e.size ≤ n → e.size ≤ 1000000 → K (.int .i64 (nestS e : Nat)) h → ACalls Tryz.prog 71 [.agg e.cells] h K
  | 0, e, _, _, hn, _, _ => by have := e.size_pos; omega
  | n + 1, e, h, K, hn, hs, hK => by
    have hsz : e.size = 1 + Ex.sizeL e.args := by cases e; rfl
    have hal := Ex.sizeL_len e.args
    refine calls_of mixed Tryz.func71 comp71 (Nat.le_of_ble_eq_true rfl) ?_
    simp -dsimp [c71]
    intro i1 d1
    have k1 : Keeps h (hset h i1 (.cells e.cells)) := (Keeps.refl h).new d1
    have g1 := hat h i1 (.cells e.cells)
    simp -dsimp
    generalize hset h i1 (.cells e.cells) = H at *
    refine ALoop.start (fun m tm h' => ∃ i : Nat, i + m = e.args.length ∧ tm 1 = .ptr i1 0 ∧ tm 7 = rowsAV (e.args.map Ex.cells) ∧ tm 8 = .int .i64 e.args.length ∧ tm 9 = .int .i64 i ∧ tm 3 = .int .i64 (nestL (e.args.take i) : Nat) ∧ h' i1 = .cells e.cells ∧ Keeps h h') e.args.length
      ⟨0, by simp, by simp, by simp, by simp, by simp, by simp [nestL], g1, k1⟩ ?_
    rintro m tm h' ⟨i, hi, t1, t7, t8, t9, t3, g1', k⟩
    by_cases hlt : i < e.args.length
    · have hw1 : IntKind.i64.wrap ((i : Int) + 1) = ((i + 1 : Nat) : Int) := by rw [wrap_i64] <;> omega
      have hmem := List.getElem_mem hlt
      have hsa := Ex.size_mem hmem
      have htk := take_snoc e.args hlt
      generalize hx : e.args[i] = a at *
      simp -dsimp [t7, t8, t9, hlt, hx]
      intro i5 d5
      simp -dsimp
      refine snest_ok n a _ _ (by omega) (by omega) ?_
      have hsn := nestL_snoc (e.args.take i) a
      rw [← htk] at hsn
      have hmx : (if ((nestL (e.args.take i) : Nat) : Int) < ((nestS a : Nat) : Int) then ((nestS a : Nat) : Int) else ((nestL (e.args.take i) : Nat) : Int)) = ((nestL (e.args.take (i + 1)) : Nat) : Int) := by
        rw [hsn]; split <;> omega
      have hmx2 : (if nestL (e.args.take i) < nestS a then ((nestS a : Nat) : Int) else ((nestL (e.args.take i) : Nat) : Int)) = ((nestL (e.args.take (i + 1)) : Nat) : Int) := by
        rw [hsn]; split <;> omega
      simp -dsimp [t3, t9, hw1, hmx, hmx2]
      exact Again.same (m - 1) (by omega) ⟨i + 1, by omega, by simp [t1], by simp [t7], by simp [t8], by simp, by simp, cells_new g1' d5, k.new d5⟩
    · have htk : e.args.take i = e.args := List.take_of_length_le (by omega)
      rw [htk] at t3
      have hne := nestS_eq e
      have hnl := nestL_le e.args
      have hw : IntKind.i64.wrap ((nestL e.args : Nat) + 1 : Int) = (nestL e.args : Nat) + 1 := by rw [wrap_i64] <;> omega
      by_cases o21 : e.op = 21
      · simp -dsimp [t1, t8, t9, hlt, g1', o21, t3, hw]
        exact Gives.sub k.sub (by rw [hne] at hK; simpa [o21] using hK)
      · by_cases o22 : e.op = 22
        · simp -dsimp [t1, t8, t9, hlt, g1', o21, o22, t3, hw]
          exact Gives.sub k.sub (by rw [hne] at hK; simpa [o22] using hK)
        · by_cases o20 : e.op = 20
          · simp -dsimp [t1, t8, t9, hlt, g1', o21, o22, o20, t3, hw]
            exact Gives.sub k.sub (by rw [hne] at hK; simpa [o20] using hK)
          · simp -dsimp [t1, t8, t9, hlt, g1', o21, o22, o20, t3]
            exact Gives.sub k.sub (by rw [hne] at hK; simpa [o20, o21, o22] using hK)
theorem rnest_ok : ∀ (n : Nat) (e : Ex) (h : Hp) (K : AV → Hp → Prop), e.size ≤ n → e.size ≤ 1000000 → K (.int .i64 (nestS e : Nat)) h → ACalls Tryz.prog 14 [.agg e.cells] h K
  | 0, e, _, _, hn, _, _ => by have := e.size_pos; omega
  | n + 1, e, h, K, hn, hs, hK => by
    have hsz : e.size = 1 + Ex.sizeL e.args := by cases e; rfl
    have hal := Ex.sizeL_len e.args
    refine calls_of mixed Tryz.func14 comp14 (Nat.le_of_ble_eq_true rfl) ?_
    simp -dsimp [c14]
    intro i1 d1
    have k : Keeps h (hset h i1 (.cells e.cells)) := (Keeps.refl h).new d1
    have g1 := hat h i1 (.cells e.cells)
    simp -dsimp
    generalize hset h i1 (.cells e.cells) = H at *
    refine ALoop.start (fun m tm h' => ∃ i : Nat, i + m = e.args.length ∧ tm 1 = .ptr i1 0 ∧ tm 4 = .int .i64 i ∧ tm 3 = .int .i64 (nestL (e.args.take i) : Nat) ∧ h' = H) e.args.length
      ⟨0, by simp, by simp, by simp, by simp [nestL], rfl⟩ ?_
    rintro m tm h' ⟨i, hi, t1, t4, t3, rfl⟩
    by_cases hlt : i < e.args.length
    · have hw1 : IntKind.i64.wrap ((i : Int) + 1) = ((i + 1 : Nat) : Int) := by rw [wrap_i64] <;> omega
      have hmem := List.getElem_mem hlt
      have hsa := Ex.size_mem hmem
      have htk := take_snoc e.args hlt
      generalize hx : e.args[i] = a at *
      simp -dsimp [t1, t4, hlt, hx, g1]
      refine rnest_ok n a _ _ (by omega) (by omega) ?_
      have hsn := nestL_snoc (e.args.take i) a
      rw [← htk] at hsn
      have hmx : (if ((nestL (e.args.take i) : Nat) : Int) < ((nestS a : Nat) : Int) then ((nestS a : Nat) : Int) else ((nestL (e.args.take i) : Nat) : Int)) = ((nestL (e.args.take (i + 1)) : Nat) : Int) := by
        rw [hsn]; split <;> omega
      have hmx2 : (if nestL (e.args.take i) < nestS a then ((nestS a : Nat) : Int) else ((nestL (e.args.take i) : Nat) : Int)) = ((nestL (e.args.take (i + 1)) : Nat) : Int) := by
        rw [hsn]; split <;> omega
      simp -dsimp [t3, t4, hw1, hmx, hmx2]
      exact Again.same (m - 1) (by omega) ⟨i + 1, by omega, by simp [t1], by simp, by simp, rfl⟩
    · have htk : e.args.take i = e.args := List.take_of_length_le (by omega)
      rw [htk] at t3
      have hne := nestS_eq e
      have hnl := nestL_le e.args
      have hw : IntKind.i64.wrap ((nestL e.args : Nat) + 1 : Int) = (nestL e.args : Nat) + 1 := by rw [wrap_i64] <;> omega
      by_cases o21 : e.op = 21
      · simp -dsimp [t1, t4, hlt, g1, o21, t3, hw]
        exact Gives.sub k.sub (by rw [hne] at hK; simpa [o21] using hK)
      · by_cases o22 : e.op = 22
        · simp -dsimp [t1, t4, hlt, g1, o21, o22, t3, hw]
          exact Gives.sub k.sub (by rw [hne] at hK; simpa [o22] using hK)
        · by_cases o20 : e.op = 20
          · simp -dsimp [t1, t4, hlt, g1, o21, o22, o20, t3, hw]
            exact Gives.sub k.sub (by rw [hne] at hK; simpa [o20] using hK)
          · simp -dsimp [t1, t4, hlt, g1, o21, o22, o20, t3]
            exact Gives.sub k.sub (by rw [hne] at hK; simpa [o20, o21, o22] using hK)
theorem shallow_ok {e : Ex} {h : Hp} {K : AV → Hp → Prop} (hs : e.size ≤ 1000000) (hK : K (.int .i64 (if 6 < nestS e then 23 else 0)) h) : ACalls Tryz.prog 38 [.agg e.cells] h K := by
  refine calls_of mixed Tryz.func38 comp38 (Nat.le_of_ble_eq_true rfl) ?_
  simp -dsimp [c38]
  intro i1 d1
  simp -dsimp
  refine snest_ok _ e _ _ (Nat.le_refl _) hs ?_
  by_cases hn : 6 < nestS e
  · have hn' : (6 : Int) < ((nestS e : Nat) : Int) := by omega
    simp -dsimp [hn', hn]
    exact Gives.sub ((Keeps.refl h).new d1).sub (by simpa [hn] using hK)
  · have hn' : ¬ (6 : Int) < ((nestS e : Nat) : Int) := by omega
    simp -dsimp [hn', hn]
    exact Gives.sub ((Keeps.refl h).new d1).sub (by simpa [hn] using hK)
theorem afind_ok {names : Nms} {nm : Bytes} {q : Int} {v : AV} {h : Hp} {K : AV → Hp → Prop} (c : ChN h v names) (hq : lastN nm names = some q) (hK : K (.int .i64 q) h) : ACalls Tryz.prog 72 [v, .str nm] h K := by
  rw [← firstN_rev] at hq
  simp only [ChN] at c
  generalize names.reverse = l at *
  refine calls_of mixed Tryz.func72 comp72 (Nat.le_of_ble_eq_true rfl) ?_
  simp -dsimp [c72]
  refine ALoop.start (fun m tm h' => ∃ (r : Nms) (v' : AV), r.length = m ∧ tm 0 = v' ∧ tm 1 = .str nm ∧ ChR h v' r ∧ firstN nm r = some q ∧ h' = h) l.length ⟨l, v, rfl, by simp, by simp, c, hq, rfl⟩ ?_
  rintro m tm h' ⟨r, v', hm, t0, t1, c', hq', rfl⟩
  cases r with
  | nil => simp [firstN] at hq'
  | cons x r =>
    obtain ⟨id, out, rfl, hc, c2⟩ := c'
    simp only [firstN] at hq'
    by_cases hx : x.1 = nm
    · rw [if_pos hx] at hq'
      cases hq'
      simp -dsimp [t0, t1, hc, hx]
      exact Gives.same hK
    · rw [if_neg hx] at hq'
      simp -dsimp [t0, t1, hc, hx]
      exact Again.same (m - 1) (by simp at hm; omega) ⟨r, out, by simp at hm; omega, by simp, by simp [t1], c2, hq', rfl⟩
end Go.Proofs.YtghidedifiolbaaGreat
