/- The program's names: Check. -/
import Derived.Test.YtcpkdbofohkipaaGreatK25
import Derived.Test.YtcpkdbofohkipaaGreatK09
set_option linter.unusedVariables false
set_option linter.unusedSimpArgs false
namespace Go.Proofs.YtcpkdbofohkipaaGreat
open Go.AM

theorem scheck_ok {p : List Df} {h : Hp} {K : AV → Hp → Prop} (hp : sizeP p ≤ 40000) (hK : K (.agg (fltRow (scheck p))) h) : ACalls Tryz.prog 42 [progAV p] h K := by
  refine calls_of mixed Tryz.func42 comp42 (Nat.le_of_ble_eq_true rfl) ?_
  have hlen := sizeP_len p
  have hsc : scheck p = least (least (0, 0) (dupsL p 0 p)) (insP p p) := by rw [← least_append]; rfl
  simp -dsimp [c42, progAV]
  intro i1 d1
  simp -dsimp
  intro i2 d2
  simp at d2
  obtain ⟨n21, n12, d2⟩ := d2
  simp -dsimp
  intro fid d3
  simp at d3
  obtain ⟨nf2, n2f, nf1, n1f, d3⟩ := d3
  simp -dsimp
  intro tc d4
  simp at d4
  obtain ⟨ntf, nft, nt2, n2t, nt1, n1t, d4⟩ := d4
  simp -dsimp
  intro pid d5
  simp at d5
  obtain ⟨npt, ntp, npf, nfp, np2, n2p, np1, n1p, d5⟩ := d5
  simp -dsimp
  intro pc d6
  simp at d6
  obtain ⟨ncp, npc, nct, ntc, ncf, nfc, nc2, n2c, nc1, n1c, d6⟩ := d6
  have k6 : ∀ o1 o2 o3 o4 o5 o6, Keeps h (hset (hset (hset (hset (hset (hset h i1 o1) i2 o2) fid o3) tc o4) pid o5) pc o6) := fun o1 o2 o3 o4 o5 o6 => ((((((Keeps.refl h).set d1).set d2).set d3).set d4).set d5).set d6
  simp -dsimp [n1c, n1p, n1t, n1f, n12]
  refine ALoop.start (fun n tm h' => ∃ (i : Nat) (m : Mp), i + n = p.length ∧ tm 1 = .ptr i1 0 ∧ tm 2 = .ptr i2 0 ∧ tm 3 = .ptr fid 0 ∧ tm 4 = .ptr tc 0 ∧ tm 5 = .ptr pc 0 ∧ tm 16 = rowsAV (p.map Df.cells) ∧ tm 17 = .int .i64 p.length ∧ tm 18 = .int .i64 i ∧
      h' i1 = .cells [rowsAV (p.map Df.cells)] ∧ h' i2 = .cells [.int .i64 0, .int .i64 0] ∧ h' tc = .cells [.fn 81 [.ptr fid 0]] ∧ h' pc = .cells [.mp pid] ∧ h' pid = .map (mapAV m) ∧ h' fid = .cells (fltRow (least (0, 0) (dupsL p 0 (p.take i)))) ∧ PlOK m (p.take i) ∧ Keeps h h') p.length
    ⟨0, [], by simp, by simp, by simp, by simp, by simp, by simp, by simp, by simp, by simp, by simp [n1c, n1p, n1t, n1f, n12], by simp [n2c, n2p, n2t, n2f], by simp [ntc, ntp], by simp, by simp [npc, mapAV], by simp [nfc, nfp, nft, dupsL, least, fltRow], fun nm => by simp [headsS, getM], k6 _ _ _ _ _ _⟩ ?_
  clear k6
  rintro n tm h' ⟨i, m, hi, t1, t2, t3, t4, t5, t16, t17, t18, hi1, hi2, htc, hpc, hpid, hfid, hpl, hk⟩
  have hw1 : IntKind.i64.wrap ((i : Int) + 1) = ((i + 1 : Nat) : Int) := by rw [wrap_i64] <;> omega
  by_cases hlt : i < p.length
  · have hsn := dupsL_snoc p (p.take i) 0 p[i]
    rw [← take_snoc p hlt] at hsn
    have hmin : min i p.length = i := by omega
    have hd := heads_dup (List.getElem?_eq_getElem hlt)
    simp only [List.length_take, hmin, Nat.zero_add, hd] at hsn
    have hps : ∀ nm, headsS nm (p.take (i + 1)) 0 = if headsS nm (p.take i) 0 < 0 then (if p[i].name = nm then (i : Int) else -1) else headsS nm (p.take i) 0 := by
      intro nm
      rw [take_snoc p hlt, headsS_snoc]
      simp only [List.length_take, hmin, Nat.zero_add]
    have hge := headsS_ge p[i].name (p.take i) 0
    have hpm := hpl p[i].name
    generalize hx : p[i] = f at *
    simp -dsimp [t1, t2, t3, t4, t5, t16, t17, t18, hlt, hx]
    intro i7 d7
    have n17 := cells_ne hi1 d7
    have n27 := cells_ne hi2 d7
    have nt7 := cells_ne htc d7
    have nc7 := cells_ne hpc d7
    have np7 := map_ne hpid d7
    have nf7 := cells_ne hfid d7
    have hk7 := fun o => hk.new (o := o) d7
    have d7' := hk.dead d7
    simp -dsimp [t4, t5, nc7, np7, nt7, hpc, hpid, htc]
    by_cases hdup : 0 ≤ headsS f.name (p.take i) 0
    · have hpos : 0 < getM m f.name := by omega
      simp only [if_pos hdup] at hsn
      simp -dsimp [hpos, t4, htc, nt7]
      refine tell_ok (f := least (0, 0) (dupsL p 0 (p.take i))) (by simp [nf7, hfid]) ?_
      have hnn : PlOK m (p.take (i + 1)) := fun nm => by
        rw [hps nm, hpl nm]
        by_cases hneg : headsS nm (p.take i) 0 < 0
        · have hne : ¬ f.name = nm := by rintro rfl; omega
          rw [if_pos hneg, if_neg hne]
          have := headsS_ge nm (p.take i) 0
          omega
        · rw [if_neg hneg]
      simp -dsimp [t18, hw1]
      exact Again.same (n - 1) (by omega) ⟨i + 1, m, by omega, by simp [t1], by simp [t2], by simp [t3], by simp [t4], by simp [t5], by simp [t16], by simp [t17], by simp, by simp [n17, n1f, hi1], by simp [n27, n2f, hi2], by simp [nt7, ntf, htc], by simp [nc7, ncf, hpc], by simp [np7, npf, hpid],
        by rw [hsn, least_append, least_one]; simp, hnn, (hk7 _).set d3⟩
    · have hpos : ¬ 0 < getM m f.name := by omega
      simp only [if_neg hdup, List.append_nil] at hsn
      have hneg : headsS f.name (p.take i) 0 < 0 := by omega
      have hnn : PlOK (putM f.name ((i + 1 : Nat) : Int) m) (p.take (i + 1)) := fun nm => by
        rw [getM_putM, hps nm, hpl nm]
        by_cases hne : nm = f.name
        · subst hne; simp [hneg]
        · have : ¬ f.name = nm := fun x => hne x.symm
          rw [if_neg hne, if_neg this]
          have := headsS_ge nm (p.take i) 0
          split <;> omega
      simp -dsimp [hpos, t5, t18, hpc, nc7, np7, hpid, hw1]
      exact Again.same (n - 1) (by omega) ⟨i + 1, _, by omega, by simp [t1], by simp [t2], by simp [t3], by simp [t4], by simp [t5], by simp [t16], by simp [t17], by simp, by simp [n17, n1p, hi1], by simp [n27, n2p, hi2], by simp [nt7, ntp, htc], by simp [nc7, ncp, hpc], by simp,
        by rw [hsn]; simp [nfp, nf7, hfid], hnn, (hk7 _).set d5⟩
  · have htk : p.take i = p := List.take_of_length_le (by omega)
    rw [htk] at hfid hpl
    rw [hsc] at hK
    generalize hg0 : least (0, 0) (dupsL p 0 p) = g0 at *
    simp -dsimp [t1, t17, t18, hlt, hi1]
    refine ALoop.start (fun n tm h' => ∃ (i : Nat), i + n = p.length ∧ tm 1 = .ptr i1 0 ∧ tm 2 = .ptr i2 0 ∧ tm 3 = .ptr fid 0 ∧ tm 4 = .ptr tc 0 ∧ tm 5 = .ptr pc 0 ∧ tm 39 = rowsAV (p.map Df.cells) ∧ tm 40 = .int .i64 p.length ∧ tm 41 = .int .i64 i ∧
      h' i1 = .cells [rowsAV (p.map Df.cells)] ∧ h' i2 = .cells [.int .i64 0, .int .i64 0] ∧ h' tc = .cells [.fn 81 [.ptr fid 0]] ∧ h' pc = .cells [.mp pid] ∧ h' pid = .map (mapAV m) ∧ h' fid = .cells (fltRow (least g0 (insP p (p.take i)))) ∧ Keeps h h') p.length
      ⟨0, by simp, by simp [t1], by simp [t2], by simp [t3], by simp [t4], by simp [t5], by simp, by simp, by simp, hi1, hi2, htc, hpc, hpid, by simpa [insP, least] using hfid, hk⟩ ?_
    clear t1 t2 t3 t4 t5 t16 t17 t18 hi1 hi2 htc hpc hpid hfid hk hw1 hlt htk hi
    rintro n1 tm h' ⟨i, hi, t1, t2, t3, t4, t5, t39, t40, t41, hi1, hi2, htc, hpc, hpid, hfid, hk⟩
    have hw1 : IntKind.i64.wrap ((i : Int) + 1) = ((i + 1 : Nat) : Int) := by rw [wrap_i64] <;> omega
    by_cases hlt : i < p.length
    · have hsf : p[i].size ≤ sizeP p := sizeP_mem (List.getElem_mem hlt)
      have hsz : p[i].size = 1 + p[i].params.length + p[i].body.size := rfl
      have hsn := insP_snoc p (p.take i) p[i]
      rw [← take_snoc p hlt] at hsn
      generalize hx : p[i] = f at *
      generalize hg : least g0 (insP p (p.take i)) = g at *
      simp -dsimp [t39, t40, t41, hlt, hx]
      intro i9 d9
      have n19 := cells_ne hi1 d9
      have n29 := cells_ne hi2 d9
      have nt9 := cells_ne htc d9
      have nc9 := cells_ne hpc d9
      have np9 := map_ne hpid d9
      have nf9 := cells_ne hfid d9
      have n9f : ¬ i9 = fid := fun x => nf9 x.symm
      have d9' := hk.dead d9
      simp -dsimp
      intro inid d10
      simp at d10
      obtain ⟨nin9, n9in, d10⟩ := d10
      have n1i := cells_ne hi1 d10
      have n2i := cells_ne hi2 d10
      have nti := cells_ne htc d10
      have nci := cells_ne hpc d10
      have npi := map_ne hpid d10
      have nfi := cells_ne hfid d10
      have nif : ¬ inid = fid := fun x => nfi x.symm
      have d10' := hk.dead d10
      simp -dsimp [n9in]
      refine ALoop.start (fun n tm h' => ∃ (k : Nat) (m1 : Mp), k + n = f.params.length ∧ tm 1 = .ptr i1 0 ∧ tm 2 = .ptr i2 0 ∧ tm 3 = .ptr fid 0 ∧ tm 4 = .ptr tc 0 ∧ tm 5 = .ptr pc 0 ∧ tm 39 = rowsAV (p.map Df.cells) ∧ tm 40 = .int .i64 p.length ∧ tm 41 = .int .i64 i ∧
        tm 9 = .ptr i9 0 ∧ tm 10 = .mp inid ∧ tm 47 = rowsAV (f.params.map Pm.cells) ∧ tm 48 = .int .i64 f.params.length ∧ tm 49 = .int .i64 k ∧ h' i9 = .cells f.cells ∧
        h' i1 = .cells [rowsAV (p.map Df.cells)] ∧ h' i2 = .cells [.int .i64 0, .int .i64 0] ∧ h' tc = .cells [.fn 81 [.ptr fid 0]] ∧ h' pc = .cells [.mp pid] ∧ h' pid = .map (mapAV m) ∧ h' fid = .cells (fltRow (least g (parF [] (f.params.take k)))) ∧ h' inid = .map (mapAV m1) ∧ NmOK m1 (pnames (f.params.take k)) ∧ Keeps h h') f.params.length
        ⟨0, [], by simp, by simp [t1], by simp [t2], by simp [t3], by simp [t4], by simp [t5], by simp [t39], by simp [t40], by simp [t41], by simp, by simp, by simp, by simp, by simp, by simp [n9in], by simp [n19, n1i, hi1], by simp [n29, n2i, hi2], by simp [nt9, nti, htc], by simp [nc9, nci, hpc], by simp [np9, npi, hpid], by simp [nf9, nfi, hfid, parF, least], by simp [mapAV],
          by simpa [pnames] using NmOK.nil, (hk.new d9).set d10'⟩ ?_
      clear t1 t2 t3 t4 t5 t39 t40 t41 hi1 hi2 htc hpc hpid hfid hk
      rintro n2 tm h' ⟨k, m1, hkn, t1, t2, t3, t4, t5, t39, t40, t41, t9, t10, t47, t48, t49, hi9, hi1, hi2, htc, hpc, hpid, hfid, hin, hm1, hk⟩
      have hw2 : IntKind.i64.wrap ((k : Int) + 1) = ((k + 1 : Nat) : Int) := by rw [wrap_i64] <;> omega
      by_cases hkl : k < f.params.length
      · have hpn : pnames (f.params.take (k + 1)) = pnames (f.params.take k) ++ [f.params[k].name] := by rw [take_snoc f.params hkl]; simp only [pnames, List.map_append]; rfl
        have hps := parF_snoc (f.params.take k) [] f.params[k]
        rw [← take_snoc f.params hkl, List.nil_append] at hps
        have hpnl : (pnames (f.params.take k)).length = k := by simp [pnames]; omega
        have hz := hm1.zero f.params[k].name
        have hle := hm1.le f.params[k].name
        have hwm : IntKind.i64.wrap (getM m1 f.params[k].name + 1) = getM m1 f.params[k].name + 1 := by rw [wrap_i64] <;> omega
        have hinc := hm1.inc f.params[k].name
        rw [← hpn] at hinc
        generalize hy : f.params[k] = y at *
        generalize hq : least g (parF [] (f.params.take k)) = q at *
        simp -dsimp [t47, t48, t49, hkl, hy]
        intro i12 d12
        have m1i := cells_ne hi1 d12
        have m2i := cells_ne hi2 d12
        have mti := cells_ne htc d12
        have mci := cells_ne hpc d12
        have mpi := map_ne hpid d12
        have mfi := cells_ne hfid d12
        have mni := map_ne hin d12
        have m9i := cells_ne hi9 d12
        have n12f : ¬ i12 = fid := fun x => mfi x.symm
        have hk12 := fun o => hk.new (o := o) d12
        by_cases hmem : y.name ∈ pnames (f.params.take k)
        · have hg1 : 0 < getM m1 y.name := by
            have : ¬ getM m1 y.name = 0 := fun x => hz.1 x hmem
            omega
          simp only [if_pos hmem] at hps
          simp -dsimp [t4, t10, hin, htc, mni, mti, hg1]
          refine tell_ok (f := q) (by simp [mfi, hfid]) ?_
          simp -dsimp [t10, hin, mni, nif, n12f, hwm, t49, hw2]
          refine Again.same (n2 - 1) (by omega) ⟨k + 1, _, by omega, by simp [t1], by simp [t2], by simp [t3], by simp [t4], by simp [t5], by simp [t39], by simp [t40], by simp [t41], by simp [t9], by simp [t10], by simp [t47], by simp [t48], by simp, by simp [m9i, n9f, n9in, hi9], by simp [m1i, n1f, n1i, hi1], by simp [m2i, n2f, n2i, hi2], by simp [mti, ntf, nti, htc], by simp [mci, ncf, nci, hpc], by simp [mpi, npf, npi, hpid],
            by rw [hps, least_append, least_one, hq]; simp [nfi], by simp, hinc, ((hk12 _).set d3).set d10'⟩
        · have hg1 : ¬ 0 < getM m1 y.name := by
            have := hz.2 hmem
            omega
          simp only [if_neg hmem, List.append_nil] at hps
          simp -dsimp [t4, t10, hin, htc, mni, mti, hg1, nif, hwm, t49, hw2]
          refine Again.same (n2 - 1) (by omega) ⟨k + 1, _, by omega, by simp [t1], by simp [t2], by simp [t3], by simp [t4], by simp [t5], by simp [t39], by simp [t40], by simp [t41], by simp [t9], by simp [t10], by simp [t47], by simp [t48], by simp, by simp [m9i, n9f, n9in, hi9], by simp [m1i, n1f, n1i, hi1], by simp [m2i, n2f, n2i, hi2], by simp [mti, ntf, nti, htc], by simp [mci, ncf, nci, hpc], by simp [mpi, npf, npi, hpid],
            by rw [hps, hq]; simp [nfi, mfi, hfid], by simp, hinc, (hk12 _).set d10'⟩
      · have htk : f.params.take k = f.params := List.take_of_length_le (by omega)
        rw [htk] at hfid hm1
        have hpnl : (pnames f.params).length = f.params.length := by simp [pnames]
        simp -dsimp [t1, t4, t5, t9, t10, t48, t49, hkl, hi9]
        refine walk_ok (p := p) (by omega) hpl _ f.body (pnames f.params) m1 _ _ _ (Nat.le_refl _) (by omega) ⟨hpc, hpid, htc, hi1, hin, hfid, npi, ncf, ntf, n1f⟩ hm1 ?_
        intro m2 _
        simp -dsimp [t41, hw1]
        refine Again.same (n1 - 1) (by omega) ⟨i + 1, by omega, by simp [t1], by simp [t2], by simp [t3], by simp [t4], by simp [t5], by simp [t39], by simp [t40], by simp, by simp [n1f, n1i, hi1], by simp [n2f, n2i, hi2], by simp [ntf, nti, htc], by simp [ncf, nci, hpc], by simp [npf, npi, hpid],
          ?_, (hk.set d10').set d3⟩
        rw [hsn, least_append, hg]
        simp [insF, least_append]
    · have htk : p.take i = p := List.take_of_length_le (by omega)
      rw [htk] at hfid
      simp -dsimp [t2, t3, t40, t41, hlt, hfid, hi2, fltRow]
      exact Gives.sub (hk.set d2).sub hK
end Go.Proofs.YtcpkdbofohkipaaGreat

/- The program's types: what a checker stands on; several expressions, calls, an expression's own type. -/
namespace Go.Proofs.YtcpkdbofohkipaaGreat
open Go.AM

/-- A function that is told what is wrong. -/
def WrOK (fw : FuncId) {σ : Type} (rep : σ → List AV) (stp : σ → Int → σ) : Prop := ∀ (fid : Nat) (s : σ) (at_ : Int) (h : Hp) (K : AV → Hp → Prop), h fid = .cells (rep s) → K .undef (hset h fid (.cells (rep (stp s at_)))) → ACalls Tryz.prog fw [.int .i64 at_, .ptr fid 0] h K
/-- A checker. -/
structure Ck (p : List Df) (heads : Mp) (cid mid fid fw : Nat) {σ : Type} (rep : σ → List AV) (h : Hp) (v : AV) (env : List Pm) (s : σ) : Prop where
  cc : h cid = .cells [.mp mid, rowsAV (p.map Df.cells), v, .fn fw [.ptr fid 0]]
  cm : h mid = .map (mapAV heads)
  cf : h fid = .cells (rep s)
  ce : EnvAt 73 h v env
  nf : ¬ cid = fid
section
variable {p : List Df} {heads : Mp} {cid mid fid fw : Nat} {σ : Type} {rep : σ → List AV} {stp : σ → Int → σ} {h h1 : Hp} {v v1 : AV} {env : List Pm} {s : σ}
theorem Ck.new (c : Ck p heads cid mid fid fw rep h v env s) {j : Nat} {o : AObj} (hj : h j = .dead) : Ck p heads cid mid fid fw rep (hset h j o) v env s :=
  ⟨cells_new c.cc hj, at_new c.cm (by simp) hj, cells_new c.cf hj, c.ce.set (c.ce.notd hj), c.nf⟩
theorem Ck.keep (c : Ck p heads cid mid fid fw rep h v env s) {v0 : AV} {h0 : Hp} (k : Fr7 [cid, fid] h0 v0 h v) {j : Nat} {cs : List AV} (hj : h0 j = .cells cs) (h1 : ¬ j = cid) (h2 : ¬ j = fid) (hv : ¬ isId v0 j) : h j = .cells cs := k.at hj (by simp) (by simp [h1, h2]) hv
/-- What follows a piece of work that tells l. -/
def Nx (p : List Df) (heads : Mp) (cid mid fid fw : Nat) {σ : Type} (rep : σ → List AV) (stp : σ → Int → σ) (env : List Pm) (h : Hp) (v : AV) (s : σ) (l : List Int) (Q : Hp → Prop) : Prop :=
  ∀ (v' : AV) (h' : Hp), Ck p heads cid mid fid fw rep h' v' env (l.foldl stp s) → Fr7 [cid, fid] h v h' v' → Q h'
/-- What is promised of 'want' for trees of at most n parts. -/
def Wants (p : List Df) (heads : Mp) (cid mid fid fw : Nat) {σ : Type} (rep : σ → List AV) (stp : σ → Int → σ) (n : Nat) : Prop :=
  ∀ (e : Ex) (hi : Int) (env : List Pm) (t : Int) (s : σ) (h : Hp) (v : AV) (K : AV → Hp → Prop), e.size ≤ n → env.length + 2 * e.size ≤ 200000 → e.fine hi → callsOK p e → tyOK t → Ck p heads cid mid fid fw rep h v env s →
    Nx p heads cid mid fid fw rep stp env h v s (progS p env t e) (K .undef) → ACalls Tryz.prog 45 [.ptr cid 0, .agg e.cells, .int .i64 t] h K

theorem all_ok {n : Nat} (hw : Wants p heads cid mid fid fw rep stp n) {l : List Ex} {hi : Int} {t : Int} {K : AV → Hp → Prop} (hn : Ex.sizeL l ≤ n) (hnm : env.length + 2 * Ex.sizeL l ≤ 200000) (hf : Ex.fineL hi l) (hc : callsL p l) (ht : tyOK t) (c : Ck p heads cid mid fid fw rep h v env s)
    (hK : Nx p heads cid mid fid fw rep stp env h v s (allL p env t l) (K .undef)) : ACalls Tryz.prog 84 [.ptr cid 0, .int .i64 t, rowsAV (l.map Ex.cells)] h K := by
  refine calls_of mixed Tryz.func84 comp84 (Nat.le_of_ble_eq_true rfl) ?_
  have hll := Ex.sizeL_len l
  simp -dsimp [c84]
  refine ALoop.start (fun n tm h' => ∃ (i : Nat) (v' : AV), i + n = l.length ∧ tm 0 = .ptr cid 0 ∧ tm 1 = .int .i64 t ∧ tm 8 = rowsAV (l.map Ex.cells) ∧ tm 9 = .int .i64 l.length ∧ tm 10 = .int .i64 i ∧
    Ck p heads cid mid fid fw rep h' v' env ((allL p env t (l.take i)).foldl stp s) ∧ Fr7 [cid, fid] h v h' v') l.length
    ⟨0, v, by simp, by simp, by simp, by simp, by simp, by simp, by simpa [allL] using c, Fr7.refl⟩ ?_
  rintro n tm h' ⟨i, v', hi, t0, t1, t8, t9, t10, c', k⟩
  have hw1 : IntKind.i64.wrap ((i : Int) + 1) = ((i + 1 : Nat) : Int) := by rw [wrap_i64] <;> omega
  by_cases hlt : i < l.length
  · have hmem := List.getElem_mem hlt
    have hsz := Ex.size_mem hmem
    have hfi := Ex.fineL_mem hf hmem
    have hci := callsL_mem hc hmem
    have hsn := allL_snoc p env t (l.take i) l[i]
    rw [← take_snoc l hlt] at hsn
    generalize hx : l[i] = x at *
    simp -dsimp [t8, t9, t10, hlt, hx]
    intro i7 d7
    simp -dsimp [t0, t1]
    refine hw x _ env t _ _ v' _ (by omega) (by omega) hfi hci ht (c'.new d7) ?_
    intro v2 h2 c2 k2
    simp -dsimp [t10, hw1]
    refine Again.same (n - 1) (by omega) ⟨i + 1, v2, by omega, by simp [t0], by simp [t1], by simp [t8], by simp [t9], by simp, ?_, (k.trans (Fr7.refl.new d7)).trans k2⟩
    rw [hsn, List.foldl_append]; exact c2
  · have htk : l.take i = l := List.take_of_length_le (by omega)
    rw [htk] at c'
    simp -dsimp [t9, t10, hlt]
    exact Gives.same (hK v' h' c' k)

theorem call_ok {n : Nat} (hp : p.length ≤ 1000000) (hh : PlOK heads p) (hpp : ∀ f ∈ p, ∀ x ∈ f.params, tyOK x.ty) (hw : Wants p heads cid mid fid fw rep stp n) {e : Ex} {hi : Int} {t : Int} {K : AV → Hp → Prop} (hn : e.size ≤ n + 1) (hnm : env.length + 2 * e.size ≤ 200000) (hf : e.fine hi) (hc : callsOK p e) (ho : e.op = 7) (c : Ck p heads cid mid fid fw rep h v env s)
    (hK : Nx p heads cid mid fid fw rep stp env h v s (progL p env e t 0 e.args) (K (.int .i64 (ownT p env e)))) : ACalls Tryz.prog 119 [.ptr cid 0, .agg e.cells] h K := by
  refine calls_of mixed Tryz.func119 comp119 (Nat.le_of_ble_eq_true rfl) ?_
  have hsa := e.size_args
  have hla := Ex.sizeL_len e.args
  rw [callsOK_eq] at hc
  obtain ⟨f, hhd, hfl⟩ := hc.1 ho
  have hcl := hc.2
  have hfa := Ex.fine_args hf
  -- where the function stands
  have hpos : ¬ headsS e.name p 0 < 0 := by
    intro hneg
    have hm := headD_mem hhd
    have : ∀ (l : List Df) (i : Nat), f ∈ l → 0 ≤ headsS f.name l i := by
      intro l
      induction l with
      | nil => intro i h; cases h
      | cons g l ih =>
        intro i h
        simp only [headsS]
        split
        · omega
        · rename_i hne
          rcases List.mem_cons.1 h with rfl | h
          · exact absurd rfl hne
          · exact ih _ h
    have := this p 0 hm.1
    rw [hm.2] at this
    omega
  obtain ⟨k, hk, ek, enm⟩ := headsS_at hpos
  have hpk : p[k] = f := by
    have : ∀ (l : List Df) (i k : Nat) (hk : k < l.length), headsS e.name l i = ((i + k : Nat) : Int) → headD e.name l = some l[k] := by
      intro l
      induction l with
      | nil => intro i k hk; simp at hk
      | cons g l ih =>
        intro i k hk hq
        simp only [headsS] at hq
        simp only [headD]
        by_cases hg : g.name = e.name
        · rw [if_pos hg] at hq ⊢
          have : k = 0 := by omega
          subst this; rfl
        · rw [if_neg hg] at hq ⊢
          cases k with
          | zero =>
            have := headsS_ge e.name l (i + 1)
            omega
          | succ k =>
            have := ih (i + 1) k (by simpa using hk) (by rw [hq]; congr 1; omega)
            simpa using this
    have := this p 0 k hk (by rw [ek]; simp)
    rw [hhd] at this
    exact (Option.some.inj this).symm
  have hpm := hh e.name
  rw [ek] at hpm
  have hg0 : ¬ ((k : Int) + 1 = 0) := by omega
  have hwk : IntKind.i64.wrap (k : Int) = (k : Int) := by rw [wrap_i64] <;> omega
  have hty : ownT p env e = f.ty := by
    simp [ownT, ownS, ho, hhd, hfl]
  rw [hty] at hK
  have hwi : ∀ i, withinS env e i = env := fun i => by simp [withinS, ho]
  have hwt : ∀ (i : Nat) (hi : i < f.params.length), wantedS p e i t = f.params[i].ty := fun i hi => by
    simp [wantedS, ho, hhd, hi]
  simp -dsimp [c119]
  intro i3 d3
  have c3 := c.new (o := .cells e.cells) d3
  have hv3 : ¬ isId v i3 := c.ce.notd d3
  have n3c : ¬ cid = i3 := cells_ne c.cc d3
  have n3f : ¬ fid = i3 := cells_ne c.cf d3
  have n3m := map_ne c.cm d3
  simp -dsimp [c.cc, c.cm, n3c, n3m, hpm, hg0, hwk, hk, hpk, hfl]
  have hmf : f ∈ p := (headD_mem hhd).1
  refine ALoop.start (fun n tm h' => ∃ (i : Nat) (v' : AV), i + n = e.args.length ∧ tm 0 = .ptr cid 0 ∧ tm 3 = .ptr i3 0 ∧ tm 5 = .int .i64 ((k : Int) + 1) ∧ tm 41 = rowsAV (f.params.map Pm.cells) ∧ tm 42 = .int .i64 e.args.length ∧ tm 43 = .int .i64 i ∧ h' i3 = .cells e.cells ∧
    Ck p heads cid mid fid fw rep h' v' env ((progL p env e t 0 (e.args.take i)).foldl stp s) ∧ Fr7 [cid, fid] h v h' v') e.args.length
    ⟨0, v, by simp, by simp, by simp, by simp [hpm], by simp, by simp, by simp, by simp, by simpa [progL] using c3, Fr7.refl.new d3⟩ ?_
  rintro n tm h' ⟨i, v', hi, t0, t3, t5, t41, t42, t43, hi3, c', kf⟩
  have hw1 : IntKind.i64.wrap ((i : Int) + 1) = ((i + 1 : Nat) : Int) := by rw [wrap_i64] <;> omega
  by_cases hlt : i < e.args.length
  · have hmem := List.getElem_mem hlt
    have hsz := Ex.size_mem hmem
    have hfi := Ex.fineL_mem hfa hmem
    have hci := callsL_mem hcl hmem
    have hsn := progL_snoc p env e t (e.args.take i) 0 e.args[i]
    rw [← take_snoc e.args hlt] at hsn
    have hmin : min i e.args.length = i := by omega
    have hlf : i < f.params.length := by omega
    simp only [List.length_take, hmin, Nat.zero_add, hwi, hwt i hlf] at hsn
    have hyt := hpp f hmf _ (List.getElem_mem hlf)
    generalize hx : e.args[i] = x at *
    generalize hy : f.params[i] = y at *
    simp -dsimp [t0, t3, t41, t42, t43, hlt, hlf, hy]
    intro i7 d7
    have n37 := cells_ne hi3 d7
    simp -dsimp [t0, t3, hi3, n37, hlt, hx]
    refine hw x _ env y.ty _ _ v' _ (by omega) (by omega) hfi hci hyt (c'.new d7) ?_
    intro v2 h2 c2 k2
    simp -dsimp [t43, hw1]
    have kk : Fr7 [cid, fid] h v h2 v2 := (kf.trans (Fr7.refl.new d7)).trans k2
    refine Again.same (n - 1) (by omega) ⟨i + 1, v2, by omega, by simp [t0], by simp [t3], by simp [t5], by simp [t41], by simp [t42], by simp, ?_, ?_, kk⟩
    · have n3c' : ¬ i3 = cid := fun x => n3c x.symm
      have n3f' : ¬ i3 = fid := fun x => n3f x.symm
      exact (Fr7.trans (Fr7.refl.new d7) k2).at hi3 (by simp) (by simp [n3c', n3f']) (c'.ce.notc hi3)
    · rw [hsn, List.foldl_append]; exact c2
  · have htk : e.args.take i = e.args := List.take_of_length_le (by omega)
    rw [htk] at c'
    simp -dsimp [t0, t5, t42, t43, hlt, c'.cc, hwk, hk, hpk]
    exact Gives.same (hK v' h' c' kf)
end
end Go.Proofs.YtcpkdbofohkipaaGreat

/- The program's types: an expression's own type. -/
namespace Go.Proofs.YtcpkdbofohkipaaGreat
open Go.AM
section
variable {p : List Df} {heads : Mp} {cid mid fid fw : Nat} {σ : Type} {rep : σ → List AV} {stp : σ → Int → σ} {h h1 : Hp} {v v1 : AV} {env : List Pm} {s : σ}

theorem pown_ok {n : Nat} (hp : p.length ≤ 1000000) (hh : PlOK heads p) (hpp : ∀ f ∈ p, ∀ x ∈ f.params, tyOK x.ty) (hw : Wants p heads cid mid fid fw rep stp n) {e : Ex} {hi : Int} {t : Int} {K : AV → Hp → Prop} (hn : e.size ≤ n + 1) (hnm : env.length + 2 * e.size ≤ 200000) (hf : e.fine hi) (hc : callsOK p e) (hop : ¬ (e.op = 19 ∨ e.op = 20 ∨ e.op = 21 ∨ e.op = 22)) (c : Ck p heads cid mid fid fw rep h v env s)
    (hK : Nx p heads cid mid fid fw rep stp env h v s (progL p env e t 0 e.args) (K (.int .i64 (ownT p env e)))) : ACalls Tryz.prog 89 [.ptr cid 0, .agg e.cells] h K := by
  refine calls_of mixed Tryz.func89 comp89 (Nat.le_of_ble_eq_true rfl) ?_
  have hsa := e.size_args
  have hla := Ex.sizeL_len e.args
  have hcl := (callsOK_eq.1 hc).2
  have hfa := Ex.fine_args hf
  have har : arOK e.op e.args.length := by cases e; exact hf.1
  simp -dsimp [c89]
  intro i3 d3
  have c3 := c.new (o := .cells e.cells) d3
  have n3c : ¬ cid = i3 := cells_ne c.cc d3
  have n3f : ¬ fid = i3 := cells_ne c.cf d3
  have n3c' : ¬ i3 = cid := fun x => n3c x.symm
  have n3f' : ¬ i3 = fid := fun x => n3f x.symm
  have k3 : Fr7 [cid, fid] h v (hset h i3 (.cells e.cells)) v := Fr7.refl.new d3
  have hv3 : ¬ isId v i3 := c.ce.notd d3
  have h3at : ∀ {h2 : Hp} {v2 : AV}, Fr7 [cid, fid] (hset h i3 (.cells e.cells)) v h2 v2 → h2 i3 = .cells e.cells := fun k => k.at (j := i3) (by simp) (by simp) (by simp [n3c', n3f']) hv3
  simp only [not_or] at hop
  obtain ⟨o19, o20, o21, o22⟩ := hop
  have hwi : ∀ i, withinS env e i = env := fun i => by simp [withinS, o20, o21, o22]
  -- no parts
  have leaf : e.args = [] → Gives K (some (.int .i64 (ownT p env e))) (hset h i3 (.cells e.cells)) := by
    intro ha
    rw [ha] at hK
    exact Gives.same (hK v _ (by simpa [progL] using c3) k3)
  have nil_of : (e.op = 1 ∨ e.op = 2 ∨ e.op = 3 ∨ e.op = 4 ∨ e.op = 5 ∨ e.op = 6) → e.args = [] := fun h => by
    have : e.args.length = 0 := by
      rcases har with x | x | x | x | x <;> omega
    exact List.length_eq_zero_iff.1 this
  -- one type wanted of all parts
  have hall : ∀ t', (∀ k, wantedS p e k t = t') → progL p env e t 0 e.args = allL p env t' e.args := fun t' ht => progL_all p env e t t' e.args 0 fun k _ _ => ⟨hwi k, ht k⟩
  by_cases o2 : e.op = 2 ∨ e.op = 3
  · have hl := leaf (nil_of (by omega))
    have : ownT p env e = 2 := by rcases o2 with o | o <;> simp [ownT, ownS, o]
    rw [this] at hl
    rcases o2 with o | o <;> simp -dsimp [o] <;> exact hl
  by_cases o4 : e.op = 4
  · have hl := leaf (nil_of (by omega))
    have : ownT p env e = 3 := by simp [ownT, ownS, o4]
    rw [this] at hl
    simp -dsimp [o4]; exact hl
  by_cases o5 : e.op = 5
  · have hl := leaf (nil_of (by omega))
    have : ownT p env e = e.ty := by simp [ownT, ownS, o5]
    rw [this] at hl
    simp -dsimp [o5]; exact hl
  by_cases o6 : e.op = 6
  · have hl := leaf (nil_of (by omega))
    have hT : ownT p env e = (lastT e.name env).getD 0 := by simp [ownT, o6]
    rw [hT] at hl
    have hw0 : IntKind.i64.wrap ((env.length : Int) - 1) = (env.length : Int) - 1 := by rw [wrap_i64] <;> omega
    simp -dsimp [o6, c.cc, n3c, c.ce.len, hw0]
    refine ALoop.start (fun n tm h' => n ≤ env.length ∧ tm 0 = .ptr cid 0 ∧ tm 3 = .ptr i3 0 ∧ tm 5 = .int .i64 ((n : Int) - 1) ∧ lastT e.name (env.take n) = lastT e.name env ∧ h' = hset h i3 (.cells e.cells)) env.length ⟨by simp, by simp, by simp, by simp, by simp, rfl⟩ ?_
    rintro n tm h' ⟨hn, t0, t3, t5, hq, rfl⟩
    cases n with
    | zero =>
      simp [lastT] at hq
      rw [← hq] at hl
      simp -dsimp [t5]
      exact hl
    | succ n =>
      have hlt : n < env.length := by omega
      rw [take_snoc env hlt, lastT_snoc] at hq
      have e1 : ((n + 1 : Nat) : Int) - 1 = n := by omega
      have hw1 : IntKind.i64.wrap ((n : Int) - 1) = (n : Int) - 1 := by rw [wrap_i64] <;> omega
      rw [e1] at t5
      rcases c.ce with ⟨_, x⟩ | ⟨id, xs, rfl, ha⟩
      · rw [x] at hlt; simp at hlt
      have nid : ¬ id = i3 := by rintro rfl; rw [d3] at ha; cases ha
      have hcc := c.cc
      have hrow : (env.map Pm.cells ++ xs)[n]? = some env[n].cells := by rw [List.getElem?_append_left (by simpa using hlt)]; simp [hlt]
      generalize hx : env[n] = x at *
      have hlt2 : n < env.length + xs.length := by omega
      by_cases hnm2 : x.name = e.name
      · rw [if_pos hnm2] at hq
        rw [← hq] at hl
        simp -dsimp [t0, t3, t5, hcc, n3c, nid, ha, hlt, hrow, hnm2]
        exact hl
      · rw [if_neg hnm2] at hq
        simp -dsimp [t0, t3, t5, hcc, n3c, nid, ha, hlt, hrow, hnm2, hw1]
        exact Again.same n (by omega) ⟨by omega, by simp [t0], by simp [t3], by simp, hq, rfl⟩
  by_cases o7 : e.op = 7
  · simp -dsimp [o7]
    refine call_ok hp hh hpp hw (t := t) (by omega) (by omega) hf hc o7 c3 ?_
    intro v2 h2 c2 k2
    simp -dsimp
    exact Gives.same (hK v2 h2 c2 (k3.trans k2))
  by_cases o14 : e.op = 14
  · have hT : ownT p env e = 2 := by simp [ownT, ownS, o14]
    rw [hT, hall 2 (fun k => by simp [wantedS, o14])] at hK
    simp -dsimp [o14]
    refine all_ok hw (by omega) (by omega) hfa hcl (.inr (.inl rfl)) c3 ?_
    intro v2 h2 c2 k2
    simp -dsimp
    exact Gives.same (hK v2 h2 c2 (k3.trans k2))
  by_cases o18 : e.op = 18
  · have hT : ownT p env e = 3 := by simp [ownT, ownS, o18]
    have hlen : e.args.length = 2 := by rcases har with x | x | x | x | x <;> omega
    have hw0 : wantedS p e 0 t = 1 := by simp [wantedS, o18]
    have hw1 : wantedS p e 1 t = 3 := by simp [wantedS, o18]
    rw [hT] at hK
    match hA : e.args, hlen with
    | [a, b], _ =>
      rw [hA] at hK hfa hcl hsa
      simp only [progL, hwi, hw0, hw1, List.append_nil, Nat.zero_add, List.foldl_append] at hK
      simp only [Ex.sizeL] at hsa
      simp -dsimp [o18, hA]
      refine hw a _ env 1 _ _ v _ (by omega) (by omega) hfa.1 hcl.1 (.inl rfl) c3 ?_
      intro v2 h2 c2 k2
      simp -dsimp [h3at k2, hA]
      refine hw b _ env 3 _ _ v2 _ (by omega) (by omega) hfa.2.1 hcl.2.1 (.inr (.inr rfl)) c2 ?_
      intro v4 h4 c4 k4
      simp -dsimp
      refine Gives.same (hK v4 h4 ?_ ((k3.trans k2).trans k4))
      simpa [List.foldl_append] using c4
  · have hT : ownT p env e = if e.op = 12 ∨ e.op = 13 then 2 else 1 := by
      by_cases o12 : e.op = 12
      · simp [ownT, ownS, o12]
      · by_cases o13 : e.op = 13
        · simp [ownT, ownS, o13]
        · have : e.op = 1 ∨ e.op = 8 ∨ e.op = 9 ∨ e.op = 10 ∨ e.op = 11 ∨ e.op = 15 ∨ e.op = 16 ∨ e.op = 17 := by
            rcases har with x | x | x | x | x <;> omega
          simp [ownT, ownS, o6, o12, o13, this]
    simp only [not_or] at o2
    rw [hT, hall 1 (fun k => by simp [wantedS, o14, o18, o7, o19, o20, o21, o22])] at hK
    simp -dsimp [o2.1, o2.2, o4, o5, o6, o7, o14, o18]
    refine all_ok hw (by omega) (by omega) hfa hcl (.inl rfl) c3 ?_
    intro v2 h2 c2 k2
    have hK2 := hK v2 h2 c2 (k3.trans k2)
    by_cases o12 : e.op = 12
    · simp only [o12, true_or, if_true] at hK2
      simp -dsimp [h3at k2, o12]
      exact Gives.same hK2
    · by_cases o13 : e.op = 13
      · simp only [o13, or_true, if_true] at hK2
        simp -dsimp [h3at k2, o13]
        exact Gives.same hK2
      · simp only [o12, o13, or_self, if_false] at hK2
        simp -dsimp [h3at k2, o12, o13]
        exact Gives.same hK2
end
end Go.Proofs.YtcpkdbofohkipaaGreat

/- The program's types: want. -/
namespace Go.Proofs.YtcpkdbofohkipaaGreat
open Go.AM
section
variable {p : List Df} {heads : Mp} {cid mid fid fw : Nat} {σ : Type} {rep : σ → List AV} {stp : σ → Int → σ} {h h1 : Hp} {v v1 : AV} {env : List Pm} {s : σ}

theorem tin_ok {ys : List Pm} {vs : AV} {fd : FuncId} {caps : List AV} {l : List Int} {K : AV → Hp → Prop} (hvs : elemsOf h 3 vs = some (ys.map Pm.cells)) (hne : ys ≠ []) (hlen : env.length + ys.length ≤ 1000000) (c : Ck p heads cid mid fid fw rep h v env s)
    (hdo : ∀ (h1 : Hp) (v1 : AV) (K1 : AV → Hp → Prop), Ck p heads cid mid fid fw rep h1 v1 (env ++ ys) s → Fr7 [cid, fid] h v h1 v1 → Nx p heads cid mid fid fw rep stp (env ++ ys) h1 v1 s l (K1 .undef) → ACalls Tryz.prog fd caps h1 K1)
    (hK : Nx p heads cid mid fid fw rep stp env h v s l (K .undef)) : ACalls Tryz.prog 85 [.ptr cid 0, .fn fd caps, vs] h K := by
  refine calls_of mixed Tryz.func85 comp85 (Nat.le_of_ble_eq_true rfl) ?_
  simp -dsimp [c85, c.cc, c.ce.len, hvs]
  refine c.ce.app (ys := ys) rfl hne hlen (by decide) ?_
  intro v1 h1 ce1 k1
  have hc1 : h1 cid = .cells [.mp mid, rowsAV (p.map Df.cells), v, .fn fw [.ptr fid 0]] := k1.at c.cc (by simp) (by simp) (c.ce.notc c.cc)
  have hf1 : h1 fid = .cells (rep s) := k1.at c.cf (by simp) (by simp) (c.ce.notc c.cf)
  have hm1 : h1 mid = .map (mapAV heads) := k1.at c.cm (by simp) (by simp) (c.ce.notm c.cm)
  have nmc : ¬ mid = cid := by rintro rfl; have := c.cm; rw [c.cc] at this; cases this
  have nfc : ¬ fid = cid := fun x => c.nf x.symm
  have hv1 : v1.flat = true ∧ v1.cells = [v1] := by
    rcases ce1 with ⟨rfl, _⟩ | ⟨id, xs, rfl, _⟩ <;> exact ⟨rfl, rfl⟩
  simp -dsimp [hc1, hv1]
  refine hdo _ v1 _ ⟨by simp, by simp [nmc, hm1], by simp [nfc, hf1], ce1.set (ce1.notc hc1), c.nf⟩ (k1.weak.mem (by simp)) ?_
  intro v2 h2 c2 k2
  obtain ⟨v3, hcut, ce3, hid⟩ := c2.ce.cut hne
  have hcut2 := hcut h2 (fun _ _ _ _ => rfl)
  have hv3 : v3.flat = true ∧ v3.cells = [v3] := by
    rcases ce3 with ⟨rfl, _⟩ | ⟨id, xs, rfl, _⟩ <;> exact ⟨rfl, rfl⟩
  simp -dsimp [c2.cc, hcut2, hv3]
  refine Gives.same (hK v3 _ ⟨by simp, by simp [nmc, c2.cm], by simp [nfc, c2.cf], ce3.set ?_, c.nf⟩ ?_)
  · rw [hid]; exact c2.ce.notc c2.cc
  · exact (((k1.weak.mem (by simp)).trans k2).same hid).mem (by simp)

def wnT : ACode := match c45.code with | .seq _ x => x | _ => .skip
theorem want_core {n : Nat} (hp : p.length ≤ 1000000) (hh : PlOK heads p) (hpp : ∀ f ∈ p, ∀ x ∈ f.params, tyOK x.ty) (hwr : WrOK fw rep stp) (hw : Wants p heads cid mid fid fw rep stp n)
    {e : Ex} {hi : Int} {t : Int} {K : AV → Hp → Prop} {tm : Tm} {H : Hp} {i3 i4 i5 : Nat} (hn : e.size ≤ n + 1) (hnm : env.length + 2 * e.size ≤ 200000) (hf : e.fine hi) (hc : callsOK p e) (ht : tyOK t) (c5 : Ck p heads cid mid fid fw rep H v env s)
    (t3 : tm 3 = .ptr i3 0) (t4 : tm 4 = .ptr i4 0) (t5 : tm 5 = .ptr i5 0) (h3 : H i3 = .cells [.ptr cid 0]) (h4 : H i4 = .cells e.cells) (h5 : H i5 = .cells [.int .i64 t])
    (m3c : ¬ i3 = cid) (m3f : ¬ i3 = fid) (m4c : ¬ i4 = cid) (m4f : ¬ i4 = fid) (m5c : ¬ i5 = cid) (m5f : ¬ i5 = fid) (k5 : Fr7 [cid, fid] h v1 H v)
    (hK : Nx p heads cid mid fid fw rep stp env h v1 s (progS p env t e) (K .undef)) :
    AW Tryz.prog wnT (fun e tm h' => match e with | .exit _ => False | _ => Gives K (some .undef) h') tm H := by
  have hsa := e.size_args
  have hla := Ex.sizeL_len e.args
  have hcl := (callsOK_eq.1 hc).2
  have hfa := Ex.fine_args hf
  have har : arOK e.op e.args.length := by cases e; exact hf.1
  have hety : (e.op = 5 ∨ e.op = 21 ∨ e.op = 22) → tyOK e.ty := by cases e; exact hf.2.1
  rw [show progS p env t e = progL p env e t 0 e.args ++ ownW p env e t from progS_eq p env t e] at hK
  have v3 := c5.ce.notc h3
  have v4 := c5.ce.notc h4
  have v5 := c5.ce.notc h5
  -- what stands in the three cells behind any work
  have at3 : ∀ {h2 : Hp} {v2 : AV}, Fr7 [cid, fid] H v h2 v2 → h2 i3 = .cells [.ptr cid 0] := fun k => k.at h3 (by simp) (by simp [m3c, m3f]) v3
  have at4 : ∀ {h2 : Hp} {v2 : AV}, Fr7 [cid, fid] H v h2 v2 → h2 i4 = .cells e.cells := fun k => k.at h4 (by simp) (by simp [m4c, m4f]) v4
  have at5 : ∀ {h2 : Hp} {v2 : AV}, Fr7 [cid, fid] H v h2 v2 → h2 i5 = .cells [.int .i64 t] := fun k => k.at h5 (by simp) (by simp [m5c, m5f]) v5
  by_cases hop : e.op = 19 ∨ e.op = 20 ∨ e.op = 21 ∨ e.op = 22
  · have hW : ownW p env e t = [] := by
      rcases hop with o | o | o | o <;> simp [ownW, ownS, o]
    rw [hW, List.append_nil] at hK
    by_cases o19 : e.op = 19
    · have hlen : e.args.length = 3 := by rcases har with x | x | x | x | x <;> omega
      have hwi : ∀ i, withinS env e i = env := fun i => by simp [withinS, o19]
      match hA : e.args, hlen with
      | [a, b, d], _ =>
        rw [hA] at hK hfa hcl hsa
        have q0 : wantedS p e 0 t = 2 := by simp [wantedS, o19]
        have q1 : wantedS p e 1 t = t := by simp [wantedS, o19]
        have q2 : wantedS p e 2 t = t := by simp [wantedS, o19]
        simp only [progL, hwi, q0, q1, q2, List.append_nil, Nat.zero_add, Nat.reduceAdd] at hK
        simp only [Ex.sizeL] at hsa
        simp -dsimp [wnT, c45, t3, t4, t5, h3, h4, h5, o19, hA]
        refine hw a _ env 2 _ _ v _ (by omega) (by omega) hfa.1 hcl.1 (.inr (.inl rfl)) c5 ?_
        intro v2 h2 c2 k2
        simp -dsimp [t3, t4, t5, at3 k2, at4 k2, at5 k2, hA, rowsAV_cons]
        refine all_ok hw (l := [b, d]) (hi := hi) (env := env) (s := (progS p env 2 a).foldl stp s) (v := v2) (by simp only [Ex.sizeL]; omega) (by simp only [Ex.sizeL]; omega) ⟨hfa.2.1, hfa.2.2.1, trivial⟩ ⟨hcl.2.1, hcl.2.2.1, trivial⟩ ht c2 ?_
        intro v6 h6 c6 k6
        have kk := k2.trans k6
        simp -dsimp [t3, t4, t5, at5 kk]
        refine Gives.same (hK v6 h6 ?_ (k5.trans kk))
        simpa [List.foldl_append, allL] using c6
    by_cases o20 : e.op = 20
    · have hlen : e.args.length = 3 := by rcases har with x | x | x | x | x <;> omega
      match hA : e.args, hlen with
      | [a, b, d], _ =>
        rw [hA] at hK hfa hcl hsa
        have q0 : wantedS p e 0 t = 3 := by simp [wantedS, o20]
        have q1 : wantedS p e 1 t = t := by simp [wantedS, o20]
        have q2 : wantedS p e 2 t = t := by simp [wantedS, o20]
        have r0 : withinS env e 0 = env := by simp [withinS, o20]
        have r1 : withinS env e 1 = env := by simp [withinS, o20]
        have r2 : withinS env e 2 = env ++ [⟨e.name, 1, 0⟩, ⟨e.tail, 3, 0⟩] := by simp [withinS, o20]
        simp only [progL, r0, r1, r2, q0, q1, q2, List.append_nil, Nat.zero_add, Nat.reduceAdd] at hK
        simp only [Ex.sizeL] at hsa
        simp -dsimp [wnT, c45, t3, t4, t5, h3, h4, h5, o20, hA]
        refine hw a _ env 3 _ _ v _ (by omega) (by omega) hfa.1 hcl.1 (.inr (.inr rfl)) c5 ?_
        intro v2 h2 c2 k2
        simp -dsimp [t3, t4, t5, at3 k2, at4 k2, at5 k2, hA]
        refine hw b _ env t _ _ v2 _ (by omega) (by omega) hfa.2.1 hcl.2.1 ht c2 ?_
        intro v6 h6 c6 k6
        have kk := k2.trans k6
        simp -dsimp [t3, t4, t5, at3 kk, at4 kk, at5 kk]
        intro i7 d7
        have c7 := fun o => c6.new (o := o) d7
        have kk7 := fun o => kk.new (o := o) d7
        simp -dsimp
        refine tin_ok (ys := [⟨e.name, 1, 0⟩, ⟨e.tail, 3, 0⟩]) (l := progS p (env ++ [⟨e.name, 1, 0⟩, ⟨e.tail, 3, 0⟩]) t d) (stp := stp) (by simp [Pm.cells]) (by simp) (by simp; omega) (c7 _) ?_ ?_
        · intro h8 v8 K8 c8 k8 hK8
          have kk8 := (kk7 _).trans k8
          refine calls_of mixed Tryz.func86 comp86 (Nat.le_of_ble_eq_true rfl) ?_
          simp -dsimp [c86, at3 kk8, at4 kk8, at5 kk8, hA]
          refine hw d _ _ t _ _ v8 _ (by omega) (by simp; omega) hfa.2.2.1 hcl.2.2.1 ht c8 ?_
          intro v9 h9 c9 k9
          simp -dsimp
          exact Gives.same (hK8 v9 h9 c9 k9)
        · intro v9 h9 c9 k9
          have kk9 := (kk7 _).trans k9
          simp -dsimp [t3, t4, t5, at5 kk9]
          refine Gives.same (hK v9 h9 ?_ (k5.trans kk9))
          simpa [List.foldl_append] using c9
    by_cases o21 : e.op = 21
    · have hlen : e.args.length = 2 := by rcases har with x | x | x | x | x <;> omega
      match hA : e.args, hlen with
      | [a, b], _ =>
        rw [hA] at hK hfa hcl hsa
        have q0 : wantedS p e 0 t = e.ty := by simp [wantedS, o21]
        have q1 : wantedS p e 1 t = t := by simp [wantedS, o21]
        have r0 : withinS env e 0 = env ++ [⟨e.name, e.ty, 0⟩] := by simp [withinS, o21]
        have r1 : withinS env e 1 = env ++ [⟨e.name, e.ty, 0⟩] := by simp [withinS, o21]
        simp only [progL, r0, r1, q0, q1, List.append_nil, Nat.zero_add, Nat.reduceAdd] at hK
        simp only [Ex.sizeL] at hsa
        simp -dsimp [wnT, c45, t3, t4, t5, h3, h4, h5, o21]
        intro i7 d7
        have c7 := fun o => c5.new (o := o) d7
        have kk7 := fun o => (Fr7.refl (A := [cid, fid]) (h := H) (v := v)).new (o := o) d7
        simp -dsimp
        refine tin_ok (ys := [⟨e.name, e.ty, 0⟩]) (l := progS p (env ++ [⟨e.name, e.ty, 0⟩]) e.ty a ++ progS p (env ++ [⟨e.name, e.ty, 0⟩]) t b) (stp := stp) (by simp [Pm.cells]) (by simp) (by simp; omega) (c7 _) ?_ ?_
        · intro h8 v8 K8 c8 k8 hK8
          have kk8 := (kk7 _).trans k8
          refine calls_of mixed Tryz.func87 comp87 (Nat.le_of_ble_eq_true rfl) ?_
          simp -dsimp [c87, at3 kk8, at4 kk8, at5 kk8, hA]
          refine hw a _ _ e.ty _ _ v8 _ (by omega) (by simp; omega) hfa.1 hcl.1 (hety (by omega)) c8 ?_
          intro v9 h9 c9 k9
          have kk9 := kk8.trans k9
          simp -dsimp [t3, t4, t5, at3 kk9, at4 kk9, at5 kk9, hA]
          refine hw b _ _ t _ _ v9 _ (by omega) (by simp; omega) hfa.2.1 hcl.2.1 ht c9 ?_
          intro v10 h10 c10 k10
          simp -dsimp
          refine Gives.same (hK8 v10 h10 ?_ (k9.trans k10))
          simpa [List.foldl_append] using c10
        · intro v9 h9 c9 k9
          have kk9 := (kk7 _).trans k9
          simp -dsimp [t3, t4, t5, at5 kk9]
          exact Gives.same (hK v9 h9 c9 (k5.trans kk9))
    · have o22 : e.op = 22 := by omega
      have hlen : e.args.length = 2 := by rcases har with x | x | x | x | x <;> omega
      match hA : e.args, hlen with
      | [a, b], _ =>
        rw [hA] at hK hfa hcl hsa
        have q0 : wantedS p e 0 t = e.ty := by simp [wantedS, o22]
        have q1 : wantedS p e 1 t = t := by simp [wantedS, o22]
        have r0 : withinS env e 0 = env := by simp [withinS, o22]
        have r1 : withinS env e 1 = env ++ [⟨e.name, e.ty, 0⟩] := by simp [withinS, o22]
        simp only [progL, r0, r1, q0, q1, List.append_nil, Nat.zero_add, Nat.reduceAdd] at hK
        simp only [Ex.sizeL] at hsa
        simp -dsimp [wnT, c45, t3, t4, t5, h3, h4, h5, o22, hA]
        refine hw a _ env e.ty _ _ v _ (by omega) (by omega) hfa.1 hcl.1 (hety (by omega)) c5 ?_
        intro v6 h6 c6 kk
        simp -dsimp [t3, t4, t5, at3 kk, at4 kk, at5 kk]
        intro i7 d7
        have c7 := fun o => c6.new (o := o) d7
        have kk7 := fun o => kk.new (o := o) d7
        simp -dsimp
        refine tin_ok (ys := [⟨e.name, e.ty, 0⟩]) (l := progS p (env ++ [⟨e.name, e.ty, 0⟩]) t b) (stp := stp) (by simp [Pm.cells]) (by simp) (by simp; omega) (c7 _) ?_ ?_
        · intro h8 v8 K8 c8 k8 hK8
          have kk8 := (kk7 _).trans k8
          refine calls_of mixed Tryz.func88 comp88 (Nat.le_of_ble_eq_true rfl) ?_
          simp -dsimp [c88, at3 kk8, at4 kk8, at5 kk8, hA]
          refine hw b _ _ t _ _ v8 _ (by omega) (by simp; omega) hfa.2.1 hcl.2.1 ht c8 ?_
          intro v9 h9 c9 k9
          simp -dsimp
          exact Gives.same (hK8 v9 h9 c9 k9)
        · intro v9 h9 c9 k9
          have kk9 := (kk7 _).trans k9
          simp -dsimp [t3, t4, t5, at5 kk9]
          refine Gives.same (hK v9 h9 ?_ (k5.trans kk9))
          simpa [List.foldl_append] using c9
  · have hs2 : (ownS p env e).2 = true := by
      simp only [ownS]
      split; · rfl
      split; · rfl
      split; · rfl
      split; · rfl
      split; · rfl
      split; · rfl
      · exfalso; rcases har with x | x | x | x | x <;> omega
    have hW : ownW p env e t = if ownT p env e ≠ t then [e.pos] else [] := ownW_leaf ht hs2
    have hop' := hop
    simp only [not_or] at hop
    simp -dsimp [wnT, c45, t3, t4, t5, h3, h4, h5, hop.1, hop.2.1, hop.2.2.1, hop.2.2.2]
    refine pown_ok hp hh hpp hw (t := t) (by omega) (by omega) hf hc hop' c5 ?_
    intro v2 h2 c2 k2
    by_cases heq : ownT p env e = t
    · rw [hW] at hK
      simp only [heq, ne_eq, not_true_eq_false, if_false, List.append_nil] at hK
      simp -dsimp [t3, t4, t5, at5 k2, heq]
      exact Gives.same (hK v2 h2 c2 (k5.trans k2))
    · rw [hW] at hK
      simp only [heq, ne_eq, not_false_eq_true, if_true] at hK
      simp -dsimp [t3, t4, t5, at3 k2, at4 k2, at5 k2, heq, c2.cc]
      refine hwr fid _ e.pos _ _ c2.cf ?_
      simp -dsimp
      have nmf : ¬ mid = fid := by rintro rfl; have := c2.cm; rw [c2.cf] at this; cases this
      refine Gives.same (hK v2 _ ⟨by simp [c5.nf, c2.cc], by simp [nmf, c2.cm], ?_, c2.ce.set (c2.ce.notc c2.cf), c5.nf⟩ ((k5.trans k2).mem (by simp)))
      simp [List.foldl_append]
theorem want_step {n : Nat} (hp : p.length ≤ 1000000) (hh : PlOK heads p) (hpp : ∀ f ∈ p, ∀ x ∈ f.params, tyOK x.ty) (hwr : WrOK fw rep stp) (hw : Wants p heads cid mid fid fw rep stp n) : Wants p heads cid mid fid fw rep stp (n + 1) := by
  intro e hi env t s h v K hn hnm hf hc ht c hK
  refine calls_of mixed Tryz.func45 comp45 (Nat.le_of_ble_eq_true rfl) ?_
  have hsplit : c45.code = .seq (match c45.code with | .seq a _ => a | _ => .skip) wnT := rfl
  rw [hsplit]
  have core := @want_core p heads cid mid fid fw σ rep stp h
  generalize wnT = T at *
  simp -dsimp [c45]
  intro i3 d3
  have c3 := c.new (o := .cells [.ptr cid 0]) d3
  have k3 : Fr7 [cid, fid] h v (hset h i3 (.cells [.ptr cid 0])) v := Fr7.refl.new d3
  simp -dsimp
  intro i4 d4
  have n34 := hset_ne d4
  have c4 := c3.new (o := .cells e.cells) d4
  have k4 := k3.new (o := .cells e.cells) d4
  simp -dsimp
  intro i5 d5
  have n45 := hset_ne d5
  have n35 : ¬ i3 = i5 := cells_ne (cs := [.ptr cid 0]) (by simp [n34]) d5
  have c5 := c4.new (o := .cells [.int .i64 t]) d5
  have k5 := k4.new (o := .cells [.int .i64 t]) d5
  simp -dsimp
  exact core hp hh hpp hwr hw hn hnm hf hc ht c5 (by simp) (by simp) (by simp) (by simp [n34, n35]) (by simp [n45]) (by simp)
    (fun x => cells_ne c.cc d3 x.symm) (fun x => cells_ne c.cf d3 x.symm) (fun x => cells_ne c3.cc d4 x.symm) (fun x => cells_ne c3.cf d4 x.symm) (fun x => cells_ne c4.cc d5 x.symm) (fun x => cells_ne c4.cf d5 x.symm) k5 hK
theorem wants_ok (hp : p.length ≤ 1000000) (hh : PlOK heads p) (hpp : ∀ f ∈ p, ∀ x ∈ f.params, tyOK x.ty) (hwr : WrOK fw rep stp) : ∀ n, Wants p heads cid mid fid fw rep stp n
  | 0 => fun e hi env t s h v K hn => by have := e.size_pos; omega
  | n + 1 => want_step hp hh hpp hwr (wants_ok hp hh hpp hwr n)
end
end Go.Proofs.YtcpkdbofohkipaaGreat

/- The program's types: a checker is made; what is told; Check. -/
namespace Go.Proofs.YtcpkdbofohkipaaGreat
open Go.AM

theorem topen_ok {p : List Df} {h : Hp} {K : AV → Hp → Prop} {w : AV} (hp : p.length ≤ 1000000) (hw : w.flat = true ∧ w.cells = [w])
    (hK : ∀ (cid mid : Nat) (heads : Mp), ¬ cid = mid → h cid = .dead → h mid = .dead → PlOK heads p → K (.ptr cid 0) (hset (hset h mid (.map (mapAV heads))) cid (.cells [.mp mid, rowsAV (p.map Df.cells), .nl, w]))) : ACalls Tryz.prog 43 [progAV p, w] h K := by
  refine calls_of mixed Tryz.func43 comp43 (Nat.le_of_ble_eq_true rfl) ?_
  simp -dsimp [c43, progAV]
  intro i2 d2
  simp -dsimp
  intro mid d3
  simp at d3
  obtain ⟨nm2, n2m, d3⟩ := d3
  simp -dsimp [n2m, hw]
  intro cid d4
  simp at d4
  obtain ⟨ncm, nmc, nc2, n2c, d4⟩ := d4
  have hw0 : IntKind.i64.wrap ((p.length : Int) - 1) = (p.length : Int) - 1 := by rw [wrap_i64] <;> omega
  simp -dsimp [n2m, n2c, hw0]
  have hks : ∀ o1 o2 o3, Keeps h (hset (hset (hset h i2 o1) mid o2) cid o3) := fun o1 o2 o3 => (((Keeps.refl h).set d2).set d3).set d4
  refine ALoop.start (fun n tm h' => ∃ heads : Mp, n ≤ p.length ∧ tm 2 = .ptr i2 0 ∧ tm 5 = .ptr cid 0 ∧ tm 6 = .int .i64 ((n : Int) - 1) ∧ (∀ nm, getM heads nm = headsS nm (p.drop n) n + 1) ∧
    h' = hset (hset (hset h i2 (.cells [rowsAV (p.map Df.cells)])) mid (.map (mapAV heads))) cid (.cells [.mp mid, rowsAV (p.map Df.cells), .nl, w])) p.length ⟨[], by simp, by simp, by simp, by simp, by simp [headsS, getM], by simp [mapAV]⟩ ?_
  rintro n tm h' ⟨heads, hn, t2, t5, t6, hq, rfl⟩
  cases n with
  | zero =>
    simp -dsimp [t5, t6]
    have hg : PlOK heads p := fun nm => by simpa using hq nm
    refine Gives.sub ?_ (hK cid mid heads ncm d4 d3 hg)
    intro j
    by_cases e1 : j = cid
    · exact .inl (by simp [e1])
    by_cases e2 : j = mid
    · exact .inl (by simp [e1, e2])
    by_cases e3 : j = i2
    · exact .inr (by simp [e1, e2, e3, d2, n2m, n2c])
    · exact .inl (by simp [e1, e2, e3])
  | succ n =>
    have hlt : n < p.length := by omega
    have e1 : ((n + 1 : Nat) : Int) - 1 = n := by omega
    rw [e1] at t6
    have hw1 : IntKind.i64.wrap ((n : Int) - 1) = (n : Int) - 1 := by rw [wrap_i64] <;> omega
    have hw2 : IntKind.i64.wrap ((n : Int) + 1) = (n : Int) + 1 := by rw [wrap_i64] <;> omega
    have hd := List.drop_eq_getElem_cons hlt
    have hq' : ∀ nm, headsS nm (p.drop n) n = if p[n].name = nm then (n : Int) else headsS nm (p.drop (n + 1)) (n + 1) := fun nm => by rw [hd]; rfl
    generalize hx : p[n] = f at *
    simp -dsimp [t2, t5, t6, hlt, hx, n2m, n2c, ncm, nmc, hw1, hw2]
    refine Again.same n (by omega) ⟨putM f.name ((n : Int) + 1) heads, by omega, by simp [t2], by simp [t5], by simp, fun nm => ?_, ?_⟩
    · rw [getM_putM, hq' nm, hq nm]
      by_cases e : nm = f.name
      · subst e; simp
      · have : ¬ f.name = nm := fun x => e x.symm
        rw [if_neg e, if_neg this]
    · rw [hset_comm ncm, hset_hset]

theorem wr_check : WrOK 44 fltRow tell7 := by
  intro fid f at_ h K hf hK
  refine calls_of mixed Tryz.func44 comp44 (Nat.le_of_ble_eq_true rfl) ?_
  simp only [tell7] at hK
  by_cases h0 : f.1 = 0
  · simp -dsimp [c44, hf, fltRow, h0]
    exact Gives.same (by simpa [h0, fltRow] using hK)
  · by_cases h1 : at_ < f.2
    · simp -dsimp [c44, hf, fltRow, h0, h1]
      exact Gives.same (by simpa [h1, fltRow] using hK)
    · have hc : ¬ (f.1 = 0 ∨ at_ < f.2) := by simp [h0, h1]
      rw [if_neg hc, hset_self hf] at hK
      simp -dsimp [c44, hf, fltRow, h0, h1]
      exact Gives.same hK
/-- What the program's Check gives. -/
def tcheck (p : List Df) : Flt := if (scheck p).1 ≠ 0 then scheck p else (progP p p).foldl tell7 (scheck p)
theorem tcheck_ok {p : List Df} {h : Hp} {K : AV → Hp → Prop} (hp : sizeP p ≤ 40000) (hf : ∀ f ∈ p, ∃ hi, f.fine hi) (hc : (scheck p).1 = 0 → ∀ f ∈ p, callsOK p f.body) (hK : K (.agg (fltRow (tcheck p))) h) : ACalls Tryz.prog 25 [progAV p] h K := by
  refine calls_of mixed Tryz.func25 comp25 (Nat.le_of_ble_eq_true rfl) ?_
  have hlen := sizeP_len p
  have hq : tcheck p = if (scheck p).1 ≠ 0 then scheck p else (progP p p).foldl tell7 (scheck p) := rfl
  have hpp : ∀ f ∈ p, ∀ x ∈ f.params, tyOK x.ty := fun f hm x hx => by
    obtain ⟨hi, hfi⟩ := hf f hm
    exact (hfi.params x hx).ty
  simp -dsimp [c25, progAV]
  intro i1 d1
  simp -dsimp
  intro i2 d2
  simp at d2
  obtain ⟨n21, n12, d2⟩ := d2
  simp -dsimp [n12]
  refine scheck_ok (p := p) hp ?_
  generalize scheck p = c0 at *
  simp -dsimp
  intro fid d3
  simp at d3
  obtain ⟨nf2, n2f, nf1, n1f, d3⟩ := d3
  have k3 : ∀ o1 o2 o3, Keeps h (hset (hset (hset h i1 o1) i2 o2) fid o3) := fun o1 o2 o3 => (((Keeps.refl h).set d1).set d2).set d3
  simp -dsimp [fltRow]
  by_cases hc0 : c0.1 = 0
  · simp only [ne_eq, hc0, not_true_eq_false, if_false] at hq
    have hc := hc hc0
    rw [hq] at hK
    simp -dsimp [hc0, fltRow, n12, n1f, n2f, nf2]
    refine topen_ok (p := p) (by omega) ⟨rfl, rfl⟩ ?_
    intro cid mid heads ncm d4 d5 hpl
    simp at d4 d5
    obtain ⟨⟨ncf, nfc⟩, ⟨nc2, n2c⟩, ⟨nc1, n1c⟩, d4⟩ : (¬ cid = fid ∧ ¬ fid = cid) ∧ (¬ cid = i2 ∧ ¬ i2 = cid) ∧ (¬ cid = i1 ∧ ¬ i1 = cid) ∧ h cid = .dead := ⟨⟨d4.1, d4.2.1⟩, ⟨d4.2.2.1, d4.2.2.2.1⟩, ⟨d4.2.2.2.2.1, d4.2.2.2.2.2.1⟩, d4.2.2.2.2.2.2⟩
    obtain ⟨⟨nmf, nfm⟩, ⟨nm2, n2m⟩, ⟨nm1, n1m⟩, d5⟩ : (¬ mid = fid ∧ ¬ fid = mid) ∧ (¬ mid = i2 ∧ ¬ i2 = mid) ∧ (¬ mid = i1 ∧ ¬ i1 = mid) ∧ h mid = .dead := ⟨⟨d5.1, d5.2.1⟩, ⟨d5.2.2.1, d5.2.2.2.1⟩, ⟨d5.2.2.2.2.1, d5.2.2.2.2.2.1⟩, d5.2.2.2.2.2.2⟩
    have nmc : ¬ mid = cid := fun x => ncm x.symm
    simp -dsimp [n1c, n1m, n1f, n12]
    refine ALoop.start (fun n tm h' => ∃ (i : Nat) (v : AV) (env : List Pm), i + n = p.length ∧ tm 2 = .ptr i2 0 ∧ tm 3 = .ptr fid 0 ∧ tm 4 = .ptr cid 0 ∧ tm 17 = rowsAV (p.map Df.cells) ∧ tm 18 = .int .i64 p.length ∧ tm 19 = .int .i64 i ∧
      h' i2 = .cells [.int .i64 0, .int .i64 0] ∧ ¬ isId v i2 ∧ Ck p heads cid mid fid 44 fltRow h' v env ((progP p (p.take i)).foldl tell7 c0) ∧ Fr7 [cid, fid] h .nl h' v) p.length
      ⟨0, .nl, [], by simp, by simp, by simp, by simp, by simp, by simp, by simp, by simp [n2c, n2m, n2f], by simp, ⟨by simp, by simp [nmc], by simp [nfc, nfm, progP, fltRow, hc0], .inl ⟨rfl, rfl⟩, ncf⟩, fun j hj _ => (((k3 _ _ _).set d5).set d4 j).imp id (fun x => ⟨x, isId_nl j⟩)⟩ ?_
    rintro n tm h' ⟨i, v, env, hi, t2, t3, t4, t17, t18, t19, hi2, hv2, ck, hk⟩
    have hw1 : IntKind.i64.wrap ((i : Int) + 1) = ((i + 1 : Nat) : Int) := by rw [wrap_i64] <;> omega
    by_cases hlt : i < p.length
    · have hmem := List.getElem_mem hlt
      have hsf : p[i].size ≤ sizeP p := sizeP_mem hmem
      have hsz : p[i].size = 1 + p[i].params.length + p[i].body.size := rfl
      have hsn := progP_snoc p (p.take i) p[i]
      rw [← take_snoc p hlt] at hsn
      obtain ⟨hif, hfi⟩ := hf _ hmem
      have hcf := hc _ hmem
      generalize hx : p[i] = f at *
      simp -dsimp [t17, t18, t19, hlt, hx]
      intro i6 d6
      have ck6 := ck.new (o := .cells f.cells) d6
      have hk6 := hk.new (o := .cells f.cells) d6
      have n26 := cells_ne hi2 d6
      have nc6 := cells_ne ck.cc d6
      have n6c : ¬ i6 = cid := fun x => nc6 x.symm
      simp -dsimp [t4]
      refine EnvAt.app0 (ys := f.params) rfl (by omega) (by decide) ?_
      intro v1 h1 ce1 kq
      have q : ∀ {j : Nat} {o : AObj}, hset h' i6 (.cells f.cells) j = o → o ≠ .dead → h1 j = o ∧ ¬ isId v1 j := fun {j o} hj ho => by
        rcases kq j (by simp) (by simp) with x | ⟨x, y⟩
        · exact absurd (hj.symm.trans x) ho
        · exact ⟨x.trans hj, y⟩
      have qc := q ck6.cc (by simp)
      have qm := q ck6.cm (by simp)
      have qf := q ck6.cf (by simp)
      have q2 := q (j := i2) (o := .cells [.int .i64 0, .int .i64 0]) (by simp [n26, hi2]) (by simp)
      have q6 := q (j := i6) (o := .cells f.cells) (by simp) (by simp)
      have hfl := ce1.flat
      have n2c' : ¬ i2 = cid := n2c
      simp -dsimp [t4, qc.1, hfl, q6.1, n6c]
      have hk1 : Fr7 [cid, fid] h .nl (hset h1 cid (.cells [.mp mid, rowsAV (p.map Df.cells), v1, .fn 44 [.ptr fid 0]])) v1 := by
        refine Fr7.mem (fun j hj _ => ?_) (by simp)
        rcases hk6 j hj (by simp) with x | ⟨x, _⟩
        · exact .inl x
        · rcases kq j (by simp) (by simp) with y | ⟨y, z⟩
          · exact .inl (by rw [← x]; exact y)
          · exact .inr ⟨y.trans x, z⟩
      refine wants_ok (mid := mid) (heads := heads) (by omega) hpl hpp wr_check _ f.body hif f.params f.ty ((progP p (p.take i)).foldl tell7 c0) (hset h1 cid (.cells [.mp mid, rowsAV (p.map Df.cells), v1, .fn 44 [.ptr fid 0]])) v1 _ (Nat.le_refl _) (by omega) hfi.body hcf hfi.ty ⟨by simp, by simp [nmc, qm.1], by simp [nfc, qf.1], ce1.set qc.2, ncf⟩ ?_
      intro v2 h2 ck2 k2
      have q22 : h2 i2 = .cells [.int .i64 0, .int .i64 0] ∧ ¬ isId v2 i2 := by
        rcases k2 i2 (by simp [n2c, n2f]) q2.2 with x | ⟨x, y⟩
        · simp [n2c, q2.1] at x
        · exact ⟨by rw [x]; simp [n2c, q2.1], y⟩
      simp -dsimp [t19, hw1]
      exact Again.same (n - 1) (by omega) ⟨i + 1, v2, f.params, by omega, by simp [t2], by simp [t3], by simp [t4], by simp [t17], by simp [t18], by simp, q22.1, q22.2, by rw [hsn, List.foldl_append]; exact ck2, hk1.trans k2⟩
    · have htk : p.take i = p := List.take_of_length_le (by omega)
      rw [htk] at ck
      simp -dsimp [t2, t3, t18, t19, hlt, ck.cf, hi2, fltRow]
      refine Gives.sub (Keeps.sub (Keeps.set (fun j => ?_) d2)) hK
      by_cases e1 : j = cid
      · exact .inl (e1 ▸ d4)
      by_cases e2 : j = fid
      · exact .inl (e2 ▸ d3)
      exact (hk j (by simp [e1, e2]) (by simp)).imp id (fun x => x.1)
  · simp only [ne_eq, hc0, not_false_eq_true, if_true] at hq
    rw [hq] at hK
    simp -dsimp [hc0, fltRow, n2f, nf2]
    exact Gives.sub (((((Keeps.refl h).set d1).set d2).set d3).set d2).sub hK
end Go.Proofs.YtcpkdbofohkipaaGreat
