/- The program's check of flat programs: all functions. -/
import Derived.Test.YtcpkdbofohkipaaGreatKChD
import Derived.Test.YtcpkdbofohkipaaGreatKCgF
set_option linter.unusedVariables false
set_option linter.unusedSimpArgs false
namespace Go.Proofs.YtcpkdbofohkipaaGreat
open Go.AM

/-- A flat program in memory. -/
structure DenP (h : Hp) (l : List Sup) (vs : AV) (rows : List (List AV)) : Prop where
  ls : LsV 63 15 h vs rows
  len : rows.length = l.length
  at_ : ∀ (i : Nat) (s : Sup) (row : List AV), l[i]? = some s → rows[i]? = some row → DenS h s row
theorem DenS.len {h : Hp} {s : Sup} {row : List AV} (d : DenS h s row) : row.length = 15 := by
  obtain ⟨pv, cs, hrow, _, hdc⟩ := d
  rw [hrow]; simp [hdc.len]
theorem DenS.keep {h h1 : Hp} {s : Sup} {row : List AV} (d : DenS h s row) (hk : ∀ id e sz xs, h id = .arr e sz xs → h1 id = .arr e sz xs) : DenS h1 s row := by
  obtain ⟨pv, cs, hrow, hpv, hdc⟩ := d
  exact ⟨pv, cs, hrow, hpv.keep fun id sz xs hh => hk id _ sz xs hh, hdc.keep fun id e sz xs _ hh => hk id e sz xs hh⟩
theorem DenP.keep {h h1 : Hp} {l : List Sup} {vs : AV} {rows : List (List AV)} (d : DenP h l vs rows) (hk : ∀ id e sz xs, h id = .arr e sz xs → h1 id = .arr e sz xs) : DenP h1 l vs rows :=
  ⟨d.ls.keep fun id sz xs hh => hk id _ sz xs hh, d.len, fun i s row h1 h2 => (d.at_ i s row h1 h2).keep hk⟩
theorem DenP.core {h : Hp} {l : List Sup} {vs : AV} {rows : List (List AV)} (d : DenP h l vs rows) : CoreAt h vs (l.map fun s => s.params.length) := by
  refine ⟨rows, d.ls, by simp [d.len], fun i row hi => ?_⟩
  have hlt : i < l.length := by rw [← d.len]; exact (List.getElem?_eq_some_iff.1 hi).1
  have hd := d.at_ i _ row (List.getElem?_eq_getElem hlt) hi
  refine ⟨hd.len, ?_⟩
  obtain ⟨pv, cs, hrow, hpv, _⟩ := hd
  refine ⟨pv, by rw [hrow]; rfl, fun hh => ?_⟩
  rw [hpv.len, intRows_length]
  simp [hlt]
structure SupOK (s : Sup) : Prop where
  nums : s.code.nums
  binds : bindsC s.code ≤ 1000000
  len : s.params.length ≤ 900000
  slots : s.slots ≤ 9223372036854775807
theorem check_ok {l : List Sup} {vs : AV} {rows : List (List AV)} {h : Hp} {K : AV → Hp → Prop} (hl : l.length ≤ 1000000) (d : DenP h l vs rows) (hs : ∀ s ∈ l, SupOK s) (hK : K (.int .i64 (coreC l)) h) : ACalls Tryz.prog 13 [.agg [vs]] h K := by
  have hlen := d.ls.len
  rw [d.len] at hlen
  have hvf := d.core.flat
  refine calls_of mixed Tryz.func13 comp13 (Nat.le_of_ble_eq_true rfl) ?_
  simp -dsimp [c13, hvf]
  intro i1 d1
  have g1 := hset_same h i1 (.cells [vs])
  simp -dsimp
  intro mid dm
  have n1m := cells_ne g1 dm
  have km : Keeps h (hset (hset h i1 (.cells [vs])) mid (.map [])) := ((Keeps.refl h).new d1).new dm
  simp -dsimp [n1m, hlen]
  refine ALoop.start (fun m tm h' => ∃ (i : Nat) (mp : Mp), i + m = l.length ∧ tm 1 = .ptr i1 0 ∧ tm 3 = .mp mid ∧ tm 8 = vs ∧ tm 9 = .int .i64 l.length ∧ tm 10 = .int .i64 i ∧ h' i1 = .cells [vs] ∧ h' mid = .map (mapAV mp) ∧ NmOK mp ((l.take i).map Sup.name) ∧
    checkC (l.map fun s => s.params.length) ((l.take i).map Sup.name) (l.drop i) = checkC (l.map fun s => s.params.length) [] l ∧ Keeps h h') l.length
    ⟨0, [], by simp, by simp, by simp, by simp, by simp, by simp, by simp [n1m], by simp [mapAV], NmOK.nil, by simp, km⟩ ?_
  rintro m tm h' ⟨i, mp, hi, t1, t3, t8, t9, t10, g1, gm, hnm, hchk, kf⟩
  have hw1 : IntKind.i64.wrap ((i : Int) + 1) = ((i + 1 : Nat) : Int) := by rw [wrap_i64] <;> omega
  have zm : h mid = .dead := by
    have := ((Keeps.refl h).new (o := .cells [vs]) d1).dead dm
    exact this
  have n1m' : ¬ i1 = mid := by rintro rfl; rw [g1] at gm; cases gm
  by_cases hlt : i < l.length
  · have hmem := List.getElem_mem hlt
    have hso := hs _ hmem
    have hdp := d.keep (h1 := h') fun id e sz xs hh => kf.at hh (by simp)
    have hrlt : i < rows.length := by rw [d.len]; exact hlt
    have hrow := List.getElem?_eq_getElem hrlt
    have hds := hdp.at_ i _ _ (List.getElem?_eq_getElem hlt) hrow
    obtain ⟨pp, p1, p2, _, _⟩ := hdp.ls.get hrow hds.len
    have htk := take_snoc l hlt
    rw [List.drop_eq_getElem_cons hlt] at hchk
    generalize hr : rows[i] = row at *
    generalize hx : l[i] = s at *
    have hrl := hds.len
    have hrt : row.take 15 = row := List.take_of_length_le (by omega)
    have hrd : row.drop 15 = [] := List.drop_eq_nil_of_le (by omega)
    have q0 : row[0]? = some (.str s.name) := by obtain ⟨pv, cs, e, _⟩ := hds; rw [e]; rfl
    simp -dsimp [t8, t9, t10, hlt, p1, p2]
    intro i5 d5
    have n15 := cells_ne g1 d5
    have nm5 := map_ne gm d5
    have n5m : ¬ i5 = mid := fun x => nm5 x.symm
    have hgm := hnm.le s.name
    have htl : ((l.take i).map Sup.name).length ≤ 1000000 := by simp; omega
    have hw2 : IntKind.i64.wrap (getM mp s.name + 1) = getM mp s.name + 1 := by rw [wrap_i64] <;> omega
    have hz := hnm.zero s.name
    have hne : ¬ l = [] := by intro e; rw [e] at hlt; simp at hlt
    have hbad : checkC (l.map fun s => s.params.length) [] l = false → K (.int .i64 3) h := fun hb => by
      simpa [coreC, hne, hb] using hK
    have hgp : getM (putM s.name (getM mp s.name + 1) mp) s.name = getM mp s.name + 1 := by rw [getM_putM, if_pos rfl]
    have k5 : ∀ o o', Keeps h (hset (hset h' i5 o) mid o') := fun o o' => (kf.new d5).set zm
    have r0 : row[0]'(by omega) = .str s.name := by
      rw [List.getElem?_eq_getElem (by omega)] at q0; exact Option.some.inj q0
    simp -dsimp [t3, hrl, hrt, hrd, r0, nm5, n5m, gm, hw2, hgp]
    by_cases hin : s.name ∈ (l.take i).map Sup.name
    · have hg1 : 1 < getM mp s.name + 1 := by
        have : ¬ getM mp s.name = 0 := fun x => (hz.1 x) hin
        omega
      have hcf : checkC (l.map fun s => s.params.length) [] l = false := by
        rw [← hchk, checkC]
        simp only [hin, not_true, decide_false, Bool.false_and]
      simp -dsimp [hg1]
      exact Gives.sub (k5 _ _).sub (hbad hcf)
    · have hg1 : ¬ 1 < getM mp s.name + 1 := by
        have := hz.2 hin
        omega
      have hk5 : ∀ o o' (id e sz : Nat) (xs : List (List AV)), h id = .arr e sz xs → hset (hset h' i5 o) mid o' id = .arr e sz xs := fun o o' id e sz xs hh => (k5 o o').at hh (by simp)
      simp -dsimp [hg1, t1, n1m', n15, g1, n5m, hrl, hrt]
      refine function_ok (by simpa using hl) ((d.core).keep fun id sz xs hh => hk5 _ _ id _ sz xs hh) ((d.at_ i s row (by rw [List.getElem?_eq_getElem hlt, hx]) (by rw [List.getElem?_eq_getElem hrlt, hr])).keep fun id e sz xs hh => hk5 _ _ id e sz xs hh) hso.nums hso.binds hso.len hso.slots ?_
      rw [checkC] at hchk
      simp only [hin, not_false_eq_true, decide_true, Bool.true_and] at hchk
      by_cases hfc : funcC (l.map fun s => s.params.length) s = true
      · rw [hfc, Bool.true_and] at hchk
        rw [hfc]
        simp -dsimp [hg1, t10, hw1]
        refine Again.same (m - 1) (by omega) ⟨i + 1, putM s.name (getM mp s.name + 1) mp, by omega, by simp [t1], by simp [t3], by simp [t8], by simp [t9], by simp, by simp [n1m', n15, g1], by simp, ?_, ?_, k5 _ _⟩
        · rw [htk, List.map_append]; exact hnm.inc s.name
        · rw [htk, List.map_append]; exact hchk
      · have hfc' : funcC (l.map fun s => s.params.length) s = false := by simpa using hfc
        rw [hfc', Bool.false_and] at hchk
        rw [hfc']
        simp -dsimp [hg1]
        exact Gives.sub (k5 _ _).sub (hbad hchk.symm)
  · have hdn : l.drop i = [] := List.drop_eq_nil_of_le (by omega)
    rw [hdn, checkC] at hchk
    by_cases hne : l = []
    · have hK' : K (.int .i64 3) h := by simpa [coreC, hne] using hK
      have hl0 : l.length = 0 := by rw [hne]; rfl
      have hi0 : ¬ ((i : Int) < 0) := by omega
      simp -dsimp [t1, t8, t9, t10, hlt, g1, hlen, hl0, hi0]
      exact Gives.sub kf.sub hK'
    · have hK' : K (.int .i64 0) h := by simpa [coreC, hne, ← hchk] using hK
      have hl0 : ¬ l.length = 0 := fun x => hne (List.length_eq_zero_iff.1 x)
      simp -dsimp [t1, t8, t9, t10, hlt, g1, hlen, hl0]
      exact Gives.sub kf.sub hK'
end Go.Proofs.YtcpkdbofohkipaaGreat

/- The statements' calls whose answers the document fixes; CoreFlattens' own function. -/
namespace Go.Proofs.YtcpkdbofohkipaaGreat
open Go.AM

@[simp ↓] theorem AStep_bfz {P : Program} {K : AV → Hp → Prop} {tm : Tm} {h : Hp} (x : AX) : AStep P (.bfz x) K tm h = ThenV (x.ev tm) (fun v => match v with | .sl id off len => off = 0 ∧ ThenA (h id) (fun _ _ xs => off + len ≤ xs.length ∧ K (.fz ((xs.drop off).take len)) (hset h id .dead)) | _ => False) := by
  simp only [AStep, ThenV, ThenA]
  cases x.ev tm <;> first | rfl | (rename_i id _ _; simp only; cases h id <;> rfl)
def b12 : Bytes := [103, 40, 120, 32, 78, 44, 121, 32, 76, 41, 58, 78, 61, 120, 59, 102, 40, 120, 32, 78, 41, 58, 78, 61, 103, 40, 120, 42, 50, 44, 49, 58, 110, 105, 108, 41, 59]
def p12 : List Df := (readS b12).1
theorem ok12 : (readS b12).2 = true := by kernel_rfl
theorem fine12 : FineP p12 := readS_fine ok12
theorem chk12 : (check07 p12).1 = 0 := by kernel_rfl
theorem core12 : coreC (flatS p12) = 0 := by kernel_rfl
theorem len12 : (flatS p12).length = 2 := by kernel_rfl
def s12 : Sup := (flatS p12).getD 1 ⟨[], [], 0, 0, .mk 0 0 0 0 0 vl0 [] []⟩
def cd00 : Cd := .mk 0 0 0 0 0 vl0 [] []
def s11 : Sup := (flatS p12).getD 0 ⟨[], [], 0, 0, cd00⟩
def x12 : Cd := s12.code
def w12 : Cd := x12.args.getD 0 cd00
def y12 : Cd := x12.args.getD 1 cd00
def w13 : Cd := y12.args.getD 0 cd00
def y13 : Cd := y12.args.getD 1 cd00
theorem flat12 : flatS p12 = [s11, s12] := by kernel_rfl
theorem xargs12 : x12.args = [w12, y12] := by kernel_rfl
theorem xop12 : x12.op = 8 := by kernel_rfl
theorem xslot12 : x12.slot = 1 := by kernel_rfl
theorem yslot12 : y12.slot = 2 := by kernel_rfl
theorem yargs12 : y12.args = [w13, y13] := by kernel_rfl
theorem yop13 : y13.op = 3 := by kernel_rfl
theorem slots12 : s12.slots = 3 := by kernel_rfl

/-- What is made of programs is right enough to be checked. -/
theorem flatS_fine {p : List Df} (hf : FineP p) : ∀ s ∈ flatS p, Sup.fine s := by
  intro s hs
  simp only [flatS, List.mem_map] at hs
  obtain ⟨f, hm, rfl⟩ := hs
  obtain ⟨hi, hfi⟩ := fineP_mem hf.fine hm
  have h1 := sizeP_mem hm
  have h2 := hf.size
  have h3 : f.size = 1 + f.params.length + f.body.size := rfl
  exact ⟨codeS_fine p f.body _ _ hi hfi.body (by omega), by show (f.params.map Pm.ty).length ≤ _; simp; omega⟩
theorem DenP.frozen {h : Hp} {l : List Sup} : DenP h l (rowsAV (l.map Sup.cells)) (l.map Sup.cells) := by
  refine ⟨.inl rfl, by simp, fun i s row h1 h2 => ?_⟩
  simp [h1] at h2
  subst h2
  exact ⟨rowsAV (intRows s.params), s.code.cells, rfl, .inl rfl, DenC.frozen s.code⟩
theorem sup12 : ∀ s ∈ flatS p12, SupOK s := by
  have hb : (flatS p12).all (fun s => decide (bindsC s.code ≤ 1000000 ∧ s.params.length ≤ 900000 ∧ s.slots ≤ 9223372036854775807)) = true := by kernel_rfl
  intro s hs
  have h1 := of_decide_eq_true (List.all_eq_true.1 hb s hs)
  exact ⟨Cd.fine_nums _ (flatS_fine fine12 s hs).code, h1.1, h1.2.1, h1.2.2⟩
set_option maxRecDepth 20000 in
theorem cawake_ok {h : Hp} {K : AV → Hp → Prop} (hK : K (.bool true) h) : ACalls Tryz.prog 8 [] h K := by
  refine calls_of mixed Tryz.func8 comp8 (Nat.le_of_ble_eq_true rfl) ?_
  simp -dsimp [c8]
  intro i7 d7
  simp -dsimp [hset_self d7]
  refine read_ok (b := b12) (.inl rfl) ?_
  rw [ok12]
  have hp1 : (readS b12).1 = p12 := rfl
  rw [hp1]
  simp -dsimp
  intro i1 d1
  simp -dsimp
  refine flatten_ok fine12 ?_
  have hfa : flatAV p12 = .tup [.agg [rowsAV [s11.cells, s12.cells]], .int .i64 0] := by
    simp only [flatAV, chk12, if_true, flat12, List.map_cons, List.map_nil]
  rw [hfa]
  simp -dsimp
  intro i3 d3
  have ks : ∀ o, Keeps h (hset (hset h i1 (.cells [rowsAV (p12.map Df.cells)])) i3 o) := fun o => ((Keeps.refl h).new d1).new d3
  simp -dsimp [rowsAV_cons, slots12]
  have hchk := fun (H : Hp) (K' : AV → Hp → Prop) (hK' : K' (.int .i64 0) H) => check_ok (l := flatS p12) (vs := rowsAV ((flatS p12).map Sup.cells)) (rows := (flatS p12).map Sup.cells) (h := H) (K := K') (by rw [len12]; decide) DenP.frozen sup12 (by rw [core12]; exact hK')
  simp only [flat12, List.map_cons, List.map_nil, rowsAV_cons] at hchk
  have hnil := fun (H : Hp) (K' : AV → Hp → Prop) (hK' : K' (.int .i64 3) H) => check_ok (l := []) (vs := .nl) (rows := []) (h := H) (K := K') (by decide) (DenP.frozen (l := [])) (fun s hs => by cases hs) hK'
  refine hchk _ _ ?_
  have hcode : (s12.cells.drop 4).take 11 = x12.cells := Sup.code11 s12
  have xa : x12.args.map Cd.cells = [w12.cells, y12.cells] := by rw [xargs12]; rfl
  have ya : y12.args.map Cd.cells = [w13.cells, y13.cells] := by rw [yargs12]; rfl
  simp -dsimp [rowsAV_cons, hcode]
  intro i5 d5
  simp -dsimp [xop12, xslot12, xa, ya, rowsAV_cons, yslot12, yop13]
  refine hnil _ _ ?_
  simp -dsimp
  exact Gives.sub ((ks _).new d5).sub hK
theorem flatlaw_ok {b : Bytes} {t : AV} {h : Hp} {K : AV → Hp → Prop} (ht : t = .fz (bytesAV b) ∨ (b = [] ∧ t = .nl)) (hK : K (.bool true) h) : ACalls Tryz.prog 3 [t] h K := by
  refine calls_of mixed Tryz.func3 comp3 (Nat.le_of_ble_eq_true rfl) ?_
  simp -dsimp [c3]
  refine cawake_ok ?_
  simp -dsimp
  refine read_ok ht ?_
  simp -dsimp
  intro i3 d3
  have ks : ∀ o, Keeps h (hset h i3 o) := fun o => (Keeps.refl h).new d3
  by_cases hb : (readS b).2 = true
  · have hf := readS_fine hb
    rw [hb]
    generalize (readS b).1 = p at *
    simp -dsimp
    refine flatten_ok hf ?_
    by_cases hc : (check07 p).1 = 0
    · have hfa : flatAV p = .tup [.agg [rowsAV ((flatS p).map Sup.cells)], .int .i64 0] := by simp only [flatAV, hc, if_true]
      rw [hfa]
      simp -dsimp
      intro i5 d5
      have n35 := hset_ne d5
      simp -dsimp [n35]
      refine gflatten_ok hf ?_
      rw [hfa]
      simp -dsimp
      intro i7 d7
      have n57 := cells_ne (hset_same (hset h i3 (.cells [rowsAV (p.map Df.cells)])) i5 (.cells [rowsAV ((flatS p).map Sup.cells)])) d7
      simp -dsimp [n57]
      have hlp := sizeP_len p
      have hsz := hf.size
      refine same_ok (l := flatS p) (by simp [flatS]; omega) (flatS_fine hf) ?_
      simp -dsimp
      exact Gives.sub (((ks _).new d5).new d7).sub hK
    · have hfa : flatAV p = .tup [.agg [.nl], .int .i64 3] := by simp only [flatAV, hc, if_false]
      rw [hfa]
      simp -dsimp
      intro i5 d5
      have n35 := hset_ne d5
      simp -dsimp [n35]
      refine gflatten_ok hf ?_
      rw [hfa]
      simp -dsimp
      intro i7 d7
      have n57 := cells_ne (hset_same (hset h i3 (.cells [rowsAV (p.map Df.cells)])) i5 (.cells [.nl])) d7
      simp -dsimp [n57]
      refine same_ok (l := []) (by simp) (fun s hs => by cases hs) ?_
      simp -dsimp
      exact Gives.sub (((ks _).new d5).new d7).sub hK
  · have hb' : (readS b).2 = false := by simpa using hb
    rw [hb']
    simp -dsimp
    exact Gives.sub (ks _).sub hK
end Go.Proofs.YtcpkdbofohkipaaGreat
