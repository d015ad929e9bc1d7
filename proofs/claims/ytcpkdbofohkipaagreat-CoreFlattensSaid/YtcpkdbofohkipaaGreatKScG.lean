/- The program's names: Check. -/
import Derived.Test.YtcpkdbofohkipaaGreatKScE
set_option linter.unusedVariables false
set_option linter.unusedSimpArgs false
namespace Go.Proofs.YtcpkdbofohkipaaGreat
open Go.AM

theorem scheck_ok {p : List Df} {h : Hp} {K : AV → Hp → Prop} (hp : sizeP p ≤ 40000) (hK : K (.agg (fltRow (scheck p))) h) : ACalls Tryz.prog 42 [progAV p] h K := by
  refine calls_of mixed Tryz.func42 comp42 (Nat.le_of_ble_eq_true rfl) ?_
  have hlen := sizeP_len p
  have hsc : scheck p = least (least (0, 0) (dupsL p 0 p)) (insP p p) := by rw [← least_append]; rfl
  simp -dsimp [c42, progAV]
  intro i1 d1
  simp -dsimp
  intro i2 d2
  simp at d2
  obtain ⟨n21, n12, d2⟩ := d2
  simp -dsimp
  intro fid d3
  simp at d3
  obtain ⟨nf2, n2f, nf1, n1f, d3⟩ := d3
  simp -dsimp
  intro tc d4
  simp at d4
  obtain ⟨ntf, nft, nt2, n2t, nt1, n1t, d4⟩ := d4
  simp -dsimp
  intro pid d5
  simp at d5
  obtain ⟨npt, ntp, npf, nfp, np2, n2p, np1, n1p, d5⟩ := d5
  simp -dsimp
  intro pc d6
  simp at d6
  obtain ⟨ncp, npc, nct, ntc, ncf, nfc, nc2, n2c, nc1, n1c, d6⟩ := d6
  have k6 : ∀ o1 o2 o3 o4 o5 o6, Keeps h (hset (hset (hset (hset (hset (hset h i1 o1) i2 o2) fid o3) tc o4) pid o5) pc o6) := fun o1 o2 o3 o4 o5 o6 => ((((((Keeps.refl h).set d1).set d2).set d3).set d4).set d5).set d6
  simp -dsimp [n1c, n1p, n1t, n1f, n12]
  refine ALoop.start (fun n tm h' => ∃ (i : Nat) (m : Mp), i + n = p.length ∧ tm 1 = .ptr i1 0 ∧ tm 2 = .ptr i2 0 ∧ tm 3 = .ptr fid 0 ∧ tm 4 = .ptr tc 0 ∧ tm 5 = .ptr pc 0 ∧ tm 16 = rowsAV (p.map Df.cells) ∧ tm 17 = .int .i64 p.length ∧ tm 18 = .int .i64 i ∧
      h' i1 = .cells [rowsAV (p.map Df.cells)] ∧ h' i2 = .cells [.int .i64 0, .int .i64 0] ∧ h' tc = .cells [.fn 81 [.ptr fid 0]] ∧ h' pc = .cells [.mp pid] ∧ h' pid = .map (mapAV m) ∧ h' fid = .cells (fltRow (least (0, 0) (dupsL p 0 (p.take i)))) ∧ PlOK m (p.take i) ∧ Keeps h h') p.length
    ⟨0, [], by simp, by simp, by simp, by simp, by simp, by simp, by simp, by simp, by simp, by simp [n1c, n1p, n1t, n1f, n12], by simp [n2c, n2p, n2t, n2f], by simp [ntc, ntp], by simp, by simp [npc, mapAV], by simp [nfc, nfp, nft, dupsL, least, fltRow], fun nm => by simp [headsS, getM], k6 _ _ _ _ _ _⟩ ?_
  clear k6
  rintro n tm h' ⟨i, m, hi, t1, t2, t3, t4, t5, t16, t17, t18, hi1, hi2, htc, hpc, hpid, hfid, hpl, hk⟩
  have hw1 : IntKind.i64.wrap ((i : Int) + 1) = ((i + 1 : Nat) : Int) := by rw [wrap_i64] <;> omega
  by_cases hlt : i < p.length
  · have hsn := dupsL_snoc p (p.take i) 0 p[i]
    rw [← take_snoc p hlt] at hsn
    have hmin : min i p.length = i := by omega
    have hd := heads_dup (List.getElem?_eq_getElem hlt)
    simp only [List.length_take, hmin, Nat.zero_add, hd] at hsn
    have hps : ∀ nm, headsS nm (p.take (i + 1)) 0 = if headsS nm (p.take i) 0 < 0 then (if p[i].name = nm then (i : Int) else -1) else headsS nm (p.take i) 0 := by
      intro nm
      rw [take_snoc p hlt, headsS_snoc]
      simp only [List.length_take, hmin, Nat.zero_add]
    have hge := headsS_ge p[i].name (p.take i) 0
    have hpm := hpl p[i].name
    generalize hx : p[i] = f at *
    simp -dsimp [t1, t2, t3, t4, t5, t16, t17, t18, hlt, hx]
    intro i7 d7
    have n17 := cells_ne hi1 d7
    have n27 := cells_ne hi2 d7
    have nt7 := cells_ne htc d7
    have nc7 := cells_ne hpc d7
    have np7 := map_ne hpid d7
    have nf7 := cells_ne hfid d7
    have hk7 := fun o => hk.new (o := o) d7
    have d7' := hk.dead d7
    simp -dsimp [t4, t5, nc7, np7, nt7, hpc, hpid, htc]
    by_cases hdup : 0 ≤ headsS f.name (p.take i) 0
    · have hpos : 0 < getM m f.name := by omega
      simp only [if_pos hdup] at hsn
      simp -dsimp [hpos, t4, htc, nt7]
      refine tell_ok (f := least (0, 0) (dupsL p 0 (p.take i))) (by simp [nf7, hfid]) ?_
      have hnn : PlOK m (p.take (i + 1)) := fun nm => by
        rw [hps nm, hpl nm]
        by_cases hneg : headsS nm (p.take i) 0 < 0
        · have hne : ¬ f.name = nm := by rintro rfl; omega
          rw [if_pos hneg, if_neg hne]
          have := headsS_ge nm (p.take i) 0
          omega
        · rw [if_neg hneg]
      simp -dsimp [t18, hw1]
      exact Again.same (n - 1) (by omega) ⟨i + 1, m, by omega, by simp [t1], by simp [t2], by simp [t3], by simp [t4], by simp [t5], by simp [t16], by simp [t17], by simp, by simp [n17, n1f, hi1], by simp [n27, n2f, hi2], by simp [nt7, ntf, htc], by simp [nc7, ncf, hpc], by simp [np7, npf, hpid],
        by rw [hsn, least_append, least_one]; simp, hnn, (hk7 _).set d3⟩
    · have hpos : ¬ 0 < getM m f.name := by omega
      simp only [if_neg hdup, List.append_nil] at hsn
      have hneg : headsS f.name (p.take i) 0 < 0 := by omega
      have hnn : PlOK (putM f.name ((i + 1 : Nat) : Int) m) (p.take (i + 1)) := fun nm => by
        rw [getM_putM, hps nm, hpl nm]
        by_cases hne : nm = f.name
        · subst hne; simp [hneg]
        · have : ¬ f.name = nm := fun x => hne x.symm
          rw [if_neg hne, if_neg this]
          have := headsS_ge nm (p.take i) 0
          split <;> omega
      simp -dsimp [hpos, t5, t18, hpc, nc7, np7, hpid, hw1]
      exact Again.same (n - 1) (by omega) ⟨i + 1, _, by omega, by simp [t1], by simp [t2], by simp [t3], by simp [t4], by simp [t5], by simp [t16], by simp [t17], by simp, by simp [n17, n1p, hi1], by simp [n27, n2p, hi2], by simp [nt7, ntp, htc], by simp [nc7, ncp, hpc], by simp,
        by rw [hsn]; simp [nfp, nf7, hfid], hnn, (hk7 _).set d5⟩
  · have htk : p.take i = p := List.take_of_length_le (by omega)
    rw [htk] at hfid hpl
    rw [hsc] at hK
    generalize hg0 : least (0, 0) (dupsL p 0 p) = g0 at *
    simp -dsimp [t1, t17, t18, hlt, hi1]
    refine ALoop.start (fun n tm h' => ∃ (i : Nat), i + n = p.length ∧ tm 1 = .ptr i1 0 ∧ tm 2 = .ptr i2 0 ∧ tm 3 = .ptr fid 0 ∧ tm 4 = .ptr tc 0 ∧ tm 5 = .ptr pc 0 ∧ tm 39 = rowsAV (p.map Df.cells) ∧ tm 40 = .int .i64 p.length ∧ tm 41 = .int .i64 i ∧
      h' i1 = .cells [rowsAV (p.map Df.cells)] ∧ h' i2 = .cells [.int .i64 0, .int .i64 0] ∧ h' tc = .cells [.fn 81 [.ptr fid 0]] ∧ h' pc = .cells [.mp pid] ∧ h' pid = .map (mapAV m) ∧ h' fid = .cells (fltRow (least g0 (insP p (p.take i)))) ∧ Keeps h h') p.length
      ⟨0, by simp, by simp [t1], by simp [t2], by simp [t3], by simp [t4], by simp [t5], by simp, by simp, by simp, hi1, hi2, htc, hpc, hpid, by simpa [insP, least] using hfid, hk⟩ ?_
    clear t1 t2 t3 t4 t5 t16 t17 t18 hi1 hi2 htc hpc hpid hfid hk hw1 hlt htk hi
    rintro n1 tm h' ⟨i, hi, t1, t2, t3, t4, t5, t39, t40, t41, hi1, hi2, htc, hpc, hpid, hfid, hk⟩
    have hw1 : IntKind.i64.wrap ((i : Int) + 1) = ((i + 1 : Nat) : Int) := by rw [wrap_i64] <;> omega
    by_cases hlt : i < p.length
    · have hsf : p[i].size ≤ sizeP p := sizeP_mem (List.getElem_mem hlt)
      have hsz : p[i].size = 1 + p[i].params.length + p[i].body.size := rfl
      have hsn := insP_snoc p (p.take i) p[i]
      rw [← take_snoc p hlt] at hsn
      generalize hx : p[i] = f at *
      generalize hg : least g0 (insP p (p.take i)) = g at *
      simp -dsimp [t39, t40, t41, hlt, hx]
      intro i9 d9
      have n19 := cells_ne hi1 d9
      have n29 := cells_ne hi2 d9
      have nt9 := cells_ne htc d9
      have nc9 := cells_ne hpc d9
      have np9 := map_ne hpid d9
      have nf9 := cells_ne hfid d9
      have n9f : ¬ i9 = fid := fun x => nf9 x.symm
      have d9' := hk.dead d9
      simp -dsimp
      intro inid d10
      simp at d10
      obtain ⟨nin9, n9in, d10⟩ := d10
      have n1i := cells_ne hi1 d10
      have n2i := cells_ne hi2 d10
      have nti := cells_ne htc d10
      have nci := cells_ne hpc d10
      have npi := map_ne hpid d10
      have nfi := cells_ne hfid d10
      have nif : ¬ inid = fid := fun x => nfi x.symm
      have d10' := hk.dead d10
      simp -dsimp [n9in]
      refine ALoop.start (fun n tm h' => ∃ (k : Nat) (m1 : Mp), k + n = f.params.length ∧ tm 1 = .ptr i1 0 ∧ tm 2 = .ptr i2 0 ∧ tm 3 = .ptr fid 0 ∧ tm 4 = .ptr tc 0 ∧ tm 5 = .ptr pc 0 ∧ tm 39 = rowsAV (p.map Df.cells) ∧ tm 40 = .int .i64 p.length ∧ tm 41 = .int .i64 i ∧
        tm 9 = .ptr i9 0 ∧ tm 10 = .mp inid ∧ tm 47 = rowsAV (f.params.map Pm.cells) ∧ tm 48 = .int .i64 f.params.length ∧ tm 49 = .int .i64 k ∧ h' i9 = .cells f.cells ∧
        h' i1 = .cells [rowsAV (p.map Df.cells)] ∧ h' i2 = .cells [.int .i64 0, .int .i64 0] ∧ h' tc = .cells [.fn 81 [.ptr fid 0]] ∧ h' pc = .cells [.mp pid] ∧ h' pid = .map (mapAV m) ∧ h' fid = .cells (fltRow (least g (parF [] (f.params.take k)))) ∧ h' inid = .map (mapAV m1) ∧ NmOK m1 (pnames (f.params.take k)) ∧ Keeps h h') f.params.length
        ⟨0, [], by simp, by simp [t1], by simp [t2], by simp [t3], by simp [t4], by simp [t5], by simp [t39], by simp [t40], by simp [t41], by simp, by simp, by simp, by simp, by simp, by simp [n9in], by simp [n19, n1i, hi1], by simp [n29, n2i, hi2], by simp [nt9, nti, htc], by simp [nc9, nci, hpc], by simp [np9, npi, hpid], by simp [nf9, nfi, hfid, parF, least], by simp [mapAV],
          by simpa [pnames] using NmOK.nil, (hk.new d9).set d10'⟩ ?_
      clear t1 t2 t3 t4 t5 t39 t40 t41 hi1 hi2 htc hpc hpid hfid hk
      rintro n2 tm h' ⟨k, m1, hkn, t1, t2, t3, t4, t5, t39, t40, t41, t9, t10, t47, t48, t49, hi9, hi1, hi2, htc, hpc, hpid, hfid, hin, hm1, hk⟩
      have hw2 : IntKind.i64.wrap ((k : Int) + 1) = ((k + 1 : Nat) : Int) := by rw [wrap_i64] <;> omega
      by_cases hkl : k < f.params.length
      · have hpn : pnames (f.params.take (k + 1)) = pnames (f.params.take k) ++ [f.params[k].name] := by rw [take_snoc f.params hkl]; simp only [pnames, List.map_append]; rfl
        have hps := parF_snoc (f.params.take k) [] f.params[k]
        rw [← take_snoc f.params hkl, List.nil_append] at hps
        have hpnl : (pnames (f.params.take k)).length = k := by simp [pnames]; omega
        have hz := hm1.zero f.params[k].name
        have hle := hm1.le f.params[k].name
        have hwm : IntKind.i64.wrap (getM m1 f.params[k].name + 1) = getM m1 f.params[k].name + 1 := by rw [wrap_i64] <;> omega
        have hinc := hm1.inc f.params[k].name
        rw [← hpn] at hinc
        generalize hy : f.params[k] = y at *
        generalize hq : least g (parF [] (f.params.take k)) = q at *
        simp -dsimp [t47, t48, t49, hkl, hy]
        intro i12 d12
        have m1i := cells_ne hi1 d12
        have m2i := cells_ne hi2 d12
        have mti := cells_ne htc d12
        have mci := cells_ne hpc d12
        have mpi := map_ne hpid d12
        have mfi := cells_ne hfid d12
        have mni := map_ne hin d12
        have m9i := cells_ne hi9 d12
        have n12f : ¬ i12 = fid := fun x => mfi x.symm
        have hk12 := fun o => hk.new (o := o) d12
        by_cases hmem : y.name ∈ pnames (f.params.take k)
        · have hg1 : 0 < getM m1 y.name := by
            have : ¬ getM m1 y.name = 0 := fun x => hz.1 x hmem
            omega
          simp only [if_pos hmem] at hps
          simp -dsimp [t4, t10, hin, htc, mni, mti, hg1]
          refine tell_ok (f := q) (by simp [mfi, hfid]) ?_
          simp -dsimp [t10, hin, mni, nif, n12f, hwm, t49, hw2]
          refine Again.same (n2 - 1) (by omega) ⟨k + 1, _, by omega, by simp [t1], by simp [t2], by simp [t3], by simp [t4], by simp [t5], by simp [t39], by simp [t40], by simp [t41], by simp [t9], by simp [t10], by simp [t47], by simp [t48], by simp, by simp [m9i, n9f, n9in, hi9], by simp [m1i, n1f, n1i, hi1], by simp [m2i, n2f, n2i, hi2], by simp [mti, ntf, nti, htc], by simp [mci, ncf, nci, hpc], by simp [mpi, npf, npi, hpid],
            by rw [hps, least_append, least_one, hq]; simp [nfi], by simp, hinc, ((hk12 _).set d3).set d10'⟩
        · have hg1 : ¬ 0 < getM m1 y.name := by
            have := hz.2 hmem
            omega
          simp only [if_neg hmem, List.append_nil] at hps
          simp -dsimp [t4, t10, hin, htc, mni, mti, hg1, nif, hwm, t49, hw2]
          refine Again.same (n2 - 1) (by omega) ⟨k + 1, _, by omega, by simp [t1], by simp [t2], by simp [t3], by simp [t4], by simp [t5], by simp [t39], by simp [t40], by simp [t41], by simp [t9], by simp [t10], by simp [t47], by simp [t48], by simp, by simp [m9i, n9f, n9in, hi9], by simp [m1i, n1f, n1i, hi1], by simp [m2i, n2f, n2i, hi2], by simp [mti, ntf, nti, htc], by simp [mci, ncf, nci, hpc], by simp [mpi, npf, npi, hpid],
            by rw [hps, hq]; simp [nfi, mfi, hfid], by simp, hinc, (hk12 _).set d10'⟩
      · have htk : f.params.take k = f.params := List.take_of_length_le (by omega)
        rw [htk] at hfid hm1
        have hpnl : (pnames f.params).length = f.params.length := by simp [pnames]
        simp -dsimp [t1, t4, t5, t9, t10, t48, t49, hkl, hi9]
        refine walk_ok (p := p) (by omega) hpl _ f.body (pnames f.params) m1 _ _ _ (Nat.le_refl _) (by omega) ⟨hpc, hpid, htc, hi1, hin, hfid, npi, ncf, ntf, n1f⟩ hm1 ?_
        intro m2 _
        simp -dsimp [t41, hw1]
        refine Again.same (n1 - 1) (by omega) ⟨i + 1, by omega, by simp [t1], by simp [t2], by simp [t3], by simp [t4], by simp [t5], by simp [t39], by simp [t40], by simp, by simp [n1f, n1i, hi1], by simp [n2f, n2i, hi2], by simp [ntf, nti, htc], by simp [ncf, nci, hpc], by simp [npf, npi, hpid],
          ?_, (hk.set d10').set d3⟩
        rw [hsn, least_append, hg]
        simp [insF, least_append]
    · have htk : p.take i = p := List.take_of_length_le (by omega)
      rw [htk] at hfid
      simp -dsimp [t2, t3, t40, t41, hlt, hfid, hi2, fltRow]
      exact Gives.sub (hk.set d2).sub hK
end Go.Proofs.YtcpkdbofohkipaaGreat
