/- The program's types: what a checker stands on; several expressions, calls, an expression's own type. -/
import Derived.Test.YtcpkdbofohkipaaGreatKc
import Derived.Test.YtcpkdbofohkipaaGreatKScG
set_option linter.unusedVariables false
set_option linter.unusedSimpArgs false
namespace Go.Proofs.YtcpkdbofohkipaaGreat
open Go.AM

/-- A function that is told what is wrong. -/
def WrOK (fw : FuncId) {σ : Type} (rep : σ → List AV) (stp : σ → Int → σ) : Prop := ∀ (fid : Nat) (s : σ) (at_ : Int) (h : Hp) (K : AV → Hp → Prop), h fid = .cells (rep s) → K .undef (hset h fid (.cells (rep (stp s at_)))) → ACalls Tryz.prog fw [.int .i64 at_, .ptr fid 0] h K
/-- A checker. -/
structure Ck (p : List Df) (heads : Mp) (cid mid fid fw : Nat) {σ : Type} (rep : σ → List AV) (h : Hp) (v : AV) (env : List Pm) (s : σ) : Prop where
  cc : h cid = .cells [.mp mid, rowsAV (p.map Df.cells), v, .fn fw [.ptr fid 0]]
  cm : h mid = .map (mapAV heads)
  cf : h fid = .cells (rep s)
  ce : EnvAt 73 h v env
  nf : ¬ cid = fid
section
variable {p : List Df} {heads : Mp} {cid mid fid fw : Nat} {σ : Type} {rep : σ → List AV} {stp : σ → Int → σ} {h h1 : Hp} {v v1 : AV} {env : List Pm} {s : σ}
theorem Ck.new (c : Ck p heads cid mid fid fw rep h v env s) {j : Nat} {o : AObj} (hj : h j = .dead) : Ck p heads cid mid fid fw rep (hset h j o) v env s :=
  ⟨cells_new c.cc hj, at_new c.cm (by simp) hj, cells_new c.cf hj, c.ce.set (c.ce.notd hj), c.nf⟩
theorem Ck.keep (c : Ck p heads cid mid fid fw rep h v env s) {v0 : AV} {h0 : Hp} (k : Fr7 [cid, fid] h0 v0 h v) {j : Nat} {cs : List AV} (hj : h0 j = .cells cs) (h1 : ¬ j = cid) (h2 : ¬ j = fid) (hv : ¬ isId v0 j) : h j = .cells cs := k.at hj (by simp) (by simp [h1, h2]) hv
/-- What follows a piece of work that tells l. -/
def Nx (p : List Df) (heads : Mp) (cid mid fid fw : Nat) {σ : Type} (rep : σ → List AV) (stp : σ → Int → σ) (env : List Pm) (h : Hp) (v : AV) (s : σ) (l : List Int) (Q : Hp → Prop) : Prop :=
  ∀ (v' : AV) (h' : Hp), Ck p heads cid mid fid fw rep h' v' env (l.foldl stp s) → Fr7 [cid, fid] h v h' v' → Q h'
/-- What is promised of 'want' for trees of at most n parts. -/
def Wants (p : List Df) (heads : Mp) (cid mid fid fw : Nat) {σ : Type} (rep : σ → List AV) (stp : σ → Int → σ) (n : Nat) : Prop :=
  ∀ (e : Ex) (hi : Int) (env : List Pm) (t : Int) (s : σ) (h : Hp) (v : AV) (K : AV → Hp → Prop), e.size ≤ n → env.length + 2 * e.size ≤ 200000 → e.fine hi → callsOK p e → tyOK t → Ck p heads cid mid fid fw rep h v env s →
    Nx p heads cid mid fid fw rep stp env h v s (progS p env t e) (K .undef) → ACalls Tryz.prog 45 [.ptr cid 0, .agg e.cells, .int .i64 t] h K

theorem all_ok {n : Nat} (hw : Wants p heads cid mid fid fw rep stp n) {l : List Ex} {hi : Int} {t : Int} {K : AV → Hp → Prop} (hn : Ex.sizeL l ≤ n) (hnm : env.length + 2 * Ex.sizeL l ≤ 200000) (hf : Ex.fineL hi l) (hc : callsL p l) (ht : tyOK t) (c : Ck p heads cid mid fid fw rep h v env s)
    (hK : Nx p heads cid mid fid fw rep stp env h v s (allL p env t l) (K .undef)) : ACalls Tryz.prog 84 [.ptr cid 0, .int .i64 t, rowsAV (l.map Ex.cells)] h K := by
  refine calls_of mixed Tryz.func84 comp84 (Nat.le_of_ble_eq_true rfl) ?_
  have hll := Ex.sizeL_len l
  simp -dsimp [c84]
  refine ALoop.start (fun n tm h' => ∃ (i : Nat) (v' : AV), i + n = l.length ∧ tm 0 = .ptr cid 0 ∧ tm 1 = .int .i64 t ∧ tm 8 = rowsAV (l.map Ex.cells) ∧ tm 9 = .int .i64 l.length ∧ tm 10 = .int .i64 i ∧
    Ck p heads cid mid fid fw rep h' v' env ((allL p env t (l.take i)).foldl stp s) ∧ Fr7 [cid, fid] h v h' v') l.length
    ⟨0, v, by simp, by simp, by simp, by simp, by simp, by simp, by simpa [allL] using c, Fr7.refl⟩ ?_
  rintro n tm h' ⟨i, v', hi, t0, t1, t8, t9, t10, c', k⟩
  have hw1 : IntKind.i64.wrap ((i : Int) + 1) = ((i + 1 : Nat) : Int) := by rw [wrap_i64] <;> omega
  by_cases hlt : i < l.length
  · have hmem := List.getElem_mem hlt
    have hsz := Ex.size_mem hmem
    have hfi := Ex.fineL_mem hf hmem
    have hci := callsL_mem hc hmem
    have hsn := allL_snoc p env t (l.take i) l[i]
    rw [← take_snoc l hlt] at hsn
    generalize hx : l[i] = x at *
    simp -dsimp [t8, t9, t10, hlt, hx]
    intro i7 d7
    simp -dsimp [t0, t1]
    refine hw x _ env t _ _ v' _ (by omega) (by omega) hfi hci ht (c'.new d7) ?_
    intro v2 h2 c2 k2
    simp -dsimp [t10, hw1]
    refine Again.same (n - 1) (by omega) ⟨i + 1, v2, by omega, by simp [t0], by simp [t1], by simp [t8], by simp [t9], by simp, ?_, (k.trans (Fr7.refl.new d7)).trans k2⟩
    rw [hsn, List.foldl_append]; exact c2
  · have htk : l.take i = l := List.take_of_length_le (by omega)
    rw [htk] at c'
    simp -dsimp [t9, t10, hlt]
    exact Gives.same (hK v' h' c' k)

theorem call_ok {n : Nat} (hp : p.length ≤ 1000000) (hh : PlOK heads p) (hpp : ∀ f ∈ p, ∀ x ∈ f.params, tyOK x.ty) (hw : Wants p heads cid mid fid fw rep stp n) {e : Ex} {hi : Int} {t : Int} {K : AV → Hp → Prop} (hn : e.size ≤ n + 1) (hnm : env.length + 2 * e.size ≤ 200000) (hf : e.fine hi) (hc : callsOK p e) (ho : e.op = 7) (c : Ck p heads cid mid fid fw rep h v env s)
    (hK : Nx p heads cid mid fid fw rep stp env h v s (progL p env e t 0 e.args) (K (.int .i64 (ownT p env e)))) : ACalls Tryz.prog 119 [.ptr cid 0, .agg e.cells] h K := by
  refine calls_of mixed Tryz.func119 comp119 (Nat.le_of_ble_eq_true rfl) ?_
  have hsa := e.size_args
  have hla := Ex.sizeL_len e.args
  rw [callsOK_eq] at hc
  obtain ⟨f, hhd, hfl⟩ := hc.1 ho
  have hcl := hc.2
  have hfa := Ex.fine_args hf
  -- where the function stands
  have hpos : ¬ headsS e.name p 0 < 0 := by
    intro hneg
    have hm := headD_mem hhd
    have : ∀ (l : List Df) (i : Nat), f ∈ l → 0 ≤ headsS f.name l i := by
      intro l
      induction l with
      | nil => intro i h; cases h
      | cons g l ih =>
        intro i h
        simp only [headsS]
        split
        · omega
        · rename_i hne
          rcases List.mem_cons.1 h with rfl | h
          · exact absurd rfl hne
          · exact ih _ h
    have := this p 0 hm.1
    rw [hm.2] at this
    omega
  obtain ⟨k, hk, ek, enm⟩ := headsS_at hpos
  have hpk : p[k] = f := by
    have : ∀ (l : List Df) (i k : Nat) (hk : k < l.length), headsS e.name l i = ((i + k : Nat) : Int) → headD e.name l = some l[k] := by
      intro l
      induction l with
      | nil => intro i k hk; simp at hk
      | cons g l ih =>
        intro i k hk hq
        simp only [headsS] at hq
        simp only [headD]
        by_cases hg : g.name = e.name
        · rw [if_pos hg] at hq ⊢
          have : k = 0 := by omega
          subst this; rfl
        · rw [if_neg hg] at hq ⊢
          cases k with
          | zero =>
            have := headsS_ge e.name l (i + 1)
            omega
          | succ k =>
            have := ih (i + 1) k (by simpa using hk) (by rw [hq]; congr 1; omega)
            simpa using this
    have := this p 0 k hk (by rw [ek]; simp)
    rw [hhd] at this
    exact (Option.some.inj this).symm
  have hpm := hh e.name
  rw [ek] at hpm
  have hg0 : ¬ ((k : Int) + 1 = 0) := by omega
  have hwk : IntKind.i64.wrap (k : Int) = (k : Int) := by rw [wrap_i64] <;> omega
  have hty : ownT p env e = f.ty := by
    simp [ownT, ownS, ho, hhd, hfl]
  rw [hty] at hK
  have hwi : ∀ i, withinS env e i = env := fun i => by simp [withinS, ho]
  have hwt : ∀ (i : Nat) (hi : i < f.params.length), wantedS p e i t = f.params[i].ty := fun i hi => by
    simp [wantedS, ho, hhd, hi]
  simp -dsimp [c119]
  intro i3 d3
  have c3 := c.new (o := .cells e.cells) d3
  have hv3 : ¬ isId v i3 := c.ce.notd d3
  have n3c : ¬ cid = i3 := cells_ne c.cc d3
  have n3f : ¬ fid = i3 := cells_ne c.cf d3
  have n3m := map_ne c.cm d3
  simp -dsimp [c.cc, c.cm, n3c, n3m, hpm, hg0, hwk, hk, hpk, hfl]
  have hmf : f ∈ p := (headD_mem hhd).1
  refine ALoop.start (fun n tm h' => ∃ (i : Nat) (v' : AV), i + n = e.args.length ∧ tm 0 = .ptr cid 0 ∧ tm 3 = .ptr i3 0 ∧ tm 5 = .int .i64 ((k : Int) + 1) ∧ tm 41 = rowsAV (f.params.map Pm.cells) ∧ tm 42 = .int .i64 e.args.length ∧ tm 43 = .int .i64 i ∧ h' i3 = .cells e.cells ∧
    Ck p heads cid mid fid fw rep h' v' env ((progL p env e t 0 (e.args.take i)).foldl stp s) ∧ Fr7 [cid, fid] h v h' v') e.args.length
    ⟨0, v, by simp, by simp, by simp, by simp [hpm], by simp, by simp, by simp, by simp, by simpa [progL] using c3, Fr7.refl.new d3⟩ ?_
  rintro n tm h' ⟨i, v', hi, t0, t3, t5, t41, t42, t43, hi3, c', kf⟩
  have hw1 : IntKind.i64.wrap ((i : Int) + 1) = ((i + 1 : Nat) : Int) := by rw [wrap_i64] <;> omega
  by_cases hlt : i < e.args.length
  · have hmem := List.getElem_mem hlt
    have hsz := Ex.size_mem hmem
    have hfi := Ex.fineL_mem hfa hmem
    have hci := callsL_mem hcl hmem
    have hsn := progL_snoc p env e t (e.args.take i) 0 e.args[i]
    rw [← take_snoc e.args hlt] at hsn
    have hmin : min i e.args.length = i := by omega
    have hlf : i < f.params.length := by omega
    simp only [List.length_take, hmin, Nat.zero_add, hwi, hwt i hlf] at hsn
    have hyt := hpp f hmf _ (List.getElem_mem hlf)
    generalize hx : e.args[i] = x at *
    generalize hy : f.params[i] = y at *
    simp -dsimp [t0, t3, t41, t42, t43, hlt, hlf, hy]
    intro i7 d7
    have n37 := cells_ne hi3 d7
    simp -dsimp [t0, t3, hi3, n37, hlt, hx]
    refine hw x _ env y.ty _ _ v' _ (by omega) (by omega) hfi hci hyt (c'.new d7) ?_
    intro v2 h2 c2 k2
    simp -dsimp [t43, hw1]
    have kk : Fr7 [cid, fid] h v h2 v2 := (kf.trans (Fr7.refl.new d7)).trans k2
    refine Again.same (n - 1) (by omega) ⟨i + 1, v2, by omega, by simp [t0], by simp [t3], by simp [t5], by simp [t41], by simp [t42], by simp, ?_, ?_, kk⟩
    · have n3c' : ¬ i3 = cid := fun x => n3c x.symm
      have n3f' : ¬ i3 = fid := fun x => n3f x.symm
      exact (Fr7.trans (Fr7.refl.new d7) k2).at hi3 (by simp) (by simp [n3c', n3f']) (c'.ce.notc hi3)
    · rw [hsn, List.foldl_append]; exact c2
  · have htk : e.args.take i = e.args := List.take_of_length_le (by omega)
    rw [htk] at c'
    simp -dsimp [t0, t5, t42, t43, hlt, c'.cc, hwk, hk, hpk]
    exact Gives.same (hK v' h' c' kf)
end
end Go.Proofs.YtcpkdbofohkipaaGreat

/- The program's types: an expression's own type. -/
namespace Go.Proofs.YtcpkdbofohkipaaGreat
open Go.AM
section
variable {p : List Df} {heads : Mp} {cid mid fid fw : Nat} {σ : Type} {rep : σ → List AV} {stp : σ → Int → σ} {h h1 : Hp} {v v1 : AV} {env : List Pm} {s : σ}

theorem pown_ok {n : Nat} (hp : p.length ≤ 1000000) (hh : PlOK heads p) (hpp : ∀ f ∈ p, ∀ x ∈ f.params, tyOK x.ty) (hw : Wants p heads cid mid fid fw rep stp n) {e : Ex} {hi : Int} {t : Int} {K : AV → Hp → Prop} (hn : e.size ≤ n + 1) (hnm : env.length + 2 * e.size ≤ 200000) (hf : e.fine hi) (hc : callsOK p e) (hop : ¬ (e.op = 19 ∨ e.op = 20 ∨ e.op = 21 ∨ e.op = 22)) (c : Ck p heads cid mid fid fw rep h v env s)
    (hK : Nx p heads cid mid fid fw rep stp env h v s (progL p env e t 0 e.args) (K (.int .i64 (ownT p env e)))) : ACalls Tryz.prog 89 [.ptr cid 0, .agg e.cells] h K := by
  refine calls_of mixed Tryz.func89 comp89 (Nat.le_of_ble_eq_true rfl) ?_
  have hsa := e.size_args
  have hla := Ex.sizeL_len e.args
  have hcl := (callsOK_eq.1 hc).2
  have hfa := Ex.fine_args hf
  have har : arOK e.op e.args.length := by cases e; exact hf.1
  simp -dsimp [c89]
  intro i3 d3
  have c3 := c.new (o := .cells e.cells) d3
  have n3c : ¬ cid = i3 := cells_ne c.cc d3
  have n3f : ¬ fid = i3 := cells_ne c.cf d3
  have n3c' : ¬ i3 = cid := fun x => n3c x.symm
  have n3f' : ¬ i3 = fid := fun x => n3f x.symm
  have k3 : Fr7 [cid, fid] h v (hset h i3 (.cells e.cells)) v := Fr7.refl.new d3
  have hv3 : ¬ isId v i3 := c.ce.notd d3
  have h3at : ∀ {h2 : Hp} {v2 : AV}, Fr7 [cid, fid] (hset h i3 (.cells e.cells)) v h2 v2 → h2 i3 = .cells e.cells := fun k => k.at (j := i3) (by simp) (by simp) (by simp [n3c', n3f']) hv3
  simp only [not_or] at hop
  obtain ⟨o19, o20, o21, o22⟩ := hop
  have hwi : ∀ i, withinS env e i = env := fun i => by simp [withinS, o20, o21, o22]
  -- no parts
  have leaf : e.args = [] → Gives K (some (.int .i64 (ownT p env e))) (hset h i3 (.cells e.cells)) := by
    intro ha
    rw [ha] at hK
    exact Gives.same (hK v _ (by simpa [progL] using c3) k3)
  have nil_of : (e.op = 1 ∨ e.op = 2 ∨ e.op = 3 ∨ e.op = 4 ∨ e.op = 5 ∨ e.op = 6) → e.args = [] := fun h => by
    have : e.args.length = 0 := by
      rcases har with x | x | x | x | x <;> omega
    exact List.length_eq_zero_iff.1 this
  -- one type wanted of all parts
  have hall : ∀ t', (∀ k, wantedS p e k t = t') → progL p env e t 0 e.args = allL p env t' e.args := fun t' ht => progL_all p env e t t' e.args 0 fun k _ _ => ⟨hwi k, ht k⟩
  by_cases o2 : e.op = 2 ∨ e.op = 3
  · have hl := leaf (nil_of (by omega))
    have : ownT p env e = 2 := by rcases o2 with o | o <;> simp [ownT, ownS, o]
    rw [this] at hl
    rcases o2 with o | o <;> simp -dsimp [o] <;> exact hl
  by_cases o4 : e.op = 4
  · have hl := leaf (nil_of (by omega))
    have : ownT p env e = 3 := by simp [ownT, ownS, o4]
    rw [this] at hl
    simp -dsimp [o4]; exact hl
  by_cases o5 : e.op = 5
  · have hl := leaf (nil_of (by omega))
    have : ownT p env e = e.ty := by simp [ownT, ownS, o5]
    rw [this] at hl
    simp -dsimp [o5]; exact hl
  by_cases o6 : e.op = 6
  · have hl := leaf (nil_of (by omega))
    have hT : ownT p env e = (lastT e.name env).getD 0 := by simp [ownT, o6]
    rw [hT] at hl
    have hw0 : IntKind.i64.wrap ((env.length : Int) - 1) = (env.length : Int) - 1 := by rw [wrap_i64] <;> omega
    simp -dsimp [o6, c.cc, n3c, c.ce.len, hw0]
    refine ALoop.start (fun n tm h' => n ≤ env.length ∧ tm 0 = .ptr cid 0 ∧ tm 3 = .ptr i3 0 ∧ tm 5 = .int .i64 ((n : Int) - 1) ∧ lastT e.name (env.take n) = lastT e.name env ∧ h' = hset h i3 (.cells e.cells)) env.length ⟨by simp, by simp, by simp, by simp, by simp, rfl⟩ ?_
    rintro n tm h' ⟨hn, t0, t3, t5, hq, rfl⟩
    cases n with
    | zero =>
      simp [lastT] at hq
      rw [← hq] at hl
      simp -dsimp [t5]
      exact hl
    | succ n =>
      have hlt : n < env.length := by omega
      rw [take_snoc env hlt, lastT_snoc] at hq
      have e1 : ((n + 1 : Nat) : Int) - 1 = n := by omega
      have hw1 : IntKind.i64.wrap ((n : Int) - 1) = (n : Int) - 1 := by rw [wrap_i64] <;> omega
      rw [e1] at t5
      rcases c.ce with ⟨_, x⟩ | ⟨id, xs, rfl, ha⟩
      · rw [x] at hlt; simp at hlt
      have nid : ¬ id = i3 := by rintro rfl; rw [d3] at ha; cases ha
      have hcc := c.cc
      have hrow : (env.map Pm.cells ++ xs)[n]? = some env[n].cells := by rw [List.getElem?_append_left (by simpa using hlt)]; simp [hlt]
      generalize hx : env[n] = x at *
      have hlt2 : n < env.length + xs.length := by omega
      by_cases hnm2 : x.name = e.name
      · rw [if_pos hnm2] at hq
        rw [← hq] at hl
        simp -dsimp [t0, t3, t5, hcc, n3c, nid, ha, hlt, hrow, hnm2]
        exact hl
      · rw [if_neg hnm2] at hq
        simp -dsimp [t0, t3, t5, hcc, n3c, nid, ha, hlt, hrow, hnm2, hw1]
        exact Again.same n (by omega) ⟨by omega, by simp [t0], by simp [t3], by simp, hq, rfl⟩
  by_cases o7 : e.op = 7
  · simp -dsimp [o7]
    refine call_ok hp hh hpp hw (t := t) (by omega) (by omega) hf hc o7 c3 ?_
    intro v2 h2 c2 k2
    simp -dsimp
    exact Gives.same (hK v2 h2 c2 (k3.trans k2))
  by_cases o14 : e.op = 14
  · have hT : ownT p env e = 2 := by simp [ownT, ownS, o14]
    rw [hT, hall 2 (fun k => by simp [wantedS, o14])] at hK
    simp -dsimp [o14]
    refine all_ok hw (by omega) (by omega) hfa hcl (.inr (.inl rfl)) c3 ?_
    intro v2 h2 c2 k2
    simp -dsimp
    exact Gives.same (hK v2 h2 c2 (k3.trans k2))
  by_cases o18 : e.op = 18
  · have hT : ownT p env e = 3 := by simp [ownT, ownS, o18]
    have hlen : e.args.length = 2 := by rcases har with x | x | x | x | x <;> omega
    have hw0 : wantedS p e 0 t = 1 := by simp [wantedS, o18]
    have hw1 : wantedS p e 1 t = 3 := by simp [wantedS, o18]
    rw [hT] at hK
    match hA : e.args, hlen with
    | [a, b], _ =>
      rw [hA] at hK hfa hcl hsa
      simp only [progL, hwi, hw0, hw1, List.append_nil, Nat.zero_add, List.foldl_append] at hK
      simp only [Ex.sizeL] at hsa
      simp -dsimp [o18, hA]
      refine hw a _ env 1 _ _ v _ (by omega) (by omega) hfa.1 hcl.1 (.inl rfl) c3 ?_
      intro v2 h2 c2 k2
      simp -dsimp [h3at k2, hA]
      refine hw b _ env 3 _ _ v2 _ (by omega) (by omega) hfa.2.1 hcl.2.1 (.inr (.inr rfl)) c2 ?_
      intro v4 h4 c4 k4
      simp -dsimp
      refine Gives.same (hK v4 h4 ?_ ((k3.trans k2).trans k4))
      simpa [List.foldl_append] using c4
  · have hT : ownT p env e = if e.op = 12 ∨ e.op = 13 then 2 else 1 := by
      by_cases o12 : e.op = 12
      · simp [ownT, ownS, o12]
      · by_cases o13 : e.op = 13
        · simp [ownT, ownS, o13]
        · have : e.op = 1 ∨ e.op = 8 ∨ e.op = 9 ∨ e.op = 10 ∨ e.op = 11 ∨ e.op = 15 ∨ e.op = 16 ∨ e.op = 17 := by
            rcases har with x | x | x | x | x <;> omega
          simp [ownT, ownS, o6, o12, o13, this]
    simp only [not_or] at o2
    rw [hT, hall 1 (fun k => by simp [wantedS, o14, o18, o7, o19, o20, o21, o22])] at hK
    simp -dsimp [o2.1, o2.2, o4, o5, o6, o7, o14, o18]
    refine all_ok hw (by omega) (by omega) hfa hcl (.inl rfl) c3 ?_
    intro v2 h2 c2 k2
    have hK2 := hK v2 h2 c2 (k3.trans k2)
    by_cases o12 : e.op = 12
    · simp only [o12, true_or, if_true] at hK2
      simp -dsimp [h3at k2, o12]
      exact Gives.same hK2
    · by_cases o13 : e.op = 13
      · simp only [o13, or_true, if_true] at hK2
        simp -dsimp [h3at k2, o13]
        exact Gives.same hK2
      · simp only [o12, o13, or_self, if_false] at hK2
        simp -dsimp [h3at k2, o12, o13]
        exact Gives.same hK2
end
end Go.Proofs.YtcpkdbofohkipaaGreat
