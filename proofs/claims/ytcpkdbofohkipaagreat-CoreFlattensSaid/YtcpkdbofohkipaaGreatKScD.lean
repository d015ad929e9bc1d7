/- The document's answer for names: all faults, the least one. -/
import Derived.Test.YtcpkdbofohkipaaGreatKScC
set_option linter.unusedVariables false
set_option linter.unusedSimpArgs false
namespace Go.Proofs.YtcpkdbofohkipaaGreat
open Go.AM

theorem faults_ok {p : List Df} {h : Hp} {K : AV → Hp → Prop} (hp : sizeP p ≤ 40000) (hK : K (rowsAV ((faultsS p).map fltRow)) h) : ACalls Tryz.prog 65 [progAV p] h K := by
  refine calls_of mixed Tryz.func65 comp65 (Nat.le_of_ble_eq_true rfl) ?_
  have hlen := sizeP_len p
  simp -dsimp [c65, progAV]
  intro i1 d1
  simp -dsimp
  refine ALoop.start (fun n tm h' => ∃ i : Nat, i + n = p.length ∧ tm 1 = .ptr i1 0 ∧ tm 4 = .int .i64 i ∧ h' i1 = .cells [rowsAV (p.map Df.cells)] ∧ Keeps h h' ∧ Own h h' 47 2 (tm 3) ((faultsL p 0 (p.take i)).map fltRow)) p.length ⟨0, by simp, by simp, by simp, by simp, (Keeps.refl h).new d1, .inl ⟨by simp [faultsL], by simp⟩⟩ ?_
  rintro n tm h' ⟨i, hi, t1, t4, hi1, hf, ho⟩
  have hw1 : IntKind.i64.wrap ((i : Int) + 1) = ((i + 1 : Nat) : Int) := by rw [wrap_i64] <;> omega
  by_cases hlt : i < p.length
  · have hsf : p[i].size ≤ sizeP p := sizeP_mem (List.getElem_mem hlt)
    have hls := faultsL_length p (p.take i) 0
    have hst := sizeP_take p i
    have hsz : p[i].size = 1 + p[i].params.length + p[i].body.size := rfl
    have hsn := faultsL_snoc p (p.take i) 0 p[i]
    rw [← take_snoc p hlt] at hsn
    have hmin : min i p.length = i := by omega
    simp only [List.length_take, hmin, Nat.zero_add] at hsn
    generalize hG : faultsL p 0 (p.take i) = G at *
    generalize hfe : p[i] = f at *
    have hget : p[i]? = some f := by rw [List.getElem?_eq_getElem hlt, hfe]
    simp -dsimp [t1, t4, hi1, hlt, hfe]
    intro i5 d5
    have c1 := cells_new (o' := .cells f.cells) hi1 d5
    have n15 := cells_ne hi1 d5
    simp -dsimp [t1, t4, hi1, n15]
    refine heads_ok (l := p) (by omega) ?_
    simp -dsimp [t4]
    refine ThenB.cut (fun tm h' => tm 1 = .ptr i1 0 ∧ tm 4 = .int .i64 i ∧ tm 5 = .ptr i5 0 ∧ h' i1 = .cells [rowsAV (p.map Df.cells)] ∧ h' i5 = .cells f.cells ∧ Keeps h h' ∧ Own h h' 47 2 (tm 3) ((G ++ (if headsS f.name p 0 < i then [(30, f.pos)] else [])).map fltRow)) ?_ ?_ ?_
    · intro hb
      have hb' := of_decide_eq_true hb
      simp -dsimp
      intro i6 d6
      have e6 := d6
      simp at d6
      simp -dsimp
      refine Own.pushE (h := h) ((ho.new d5).new e6) ((hf.new d5).new e6) (by simp; omega) (by decide) fun v' h2 ho2 hf2 hk2 => ?_
      simp -dsimp [t1, t4]
      refine ⟨hk2.cells (cells_new c1 e6), hk2.cells (cells_new (by simp) e6), hf2, ?_⟩
      simpa [hb', fltRow] using ho2
    · intro hb
      have hb' : ¬ headsS f.name p 0 < i := of_decide_eq_false hb
      simp -dsimp [t1, t4]
      exact ⟨c1, hf.new d5, by simpa [hb'] using ho.new d5⟩
    clear hi1 hf ho t1 t4 c1 d5
    rintro tm h' ⟨t1, t4, t5, hi1, hi5, hf, ho⟩
    generalize hD : (if headsS f.name p 0 < (i : Int) then [((30 : Int), f.pos)] else []) = D at *
    have hDl : D.length ≤ 1 := by rw [← hD]; split <;> simp
    simp -dsimp
    refine ALoop.start (fun n tm h' => ∃ k : Nat, k + n = f.params.length ∧ tm 1 = .ptr i1 0 ∧ tm 4 = .int .i64 i ∧ tm 5 = .ptr i5 0 ∧ tm 7 = .int .i64 k ∧ h' i1 = .cells [rowsAV (p.map Df.cells)] ∧ h' i5 = .cells f.cells ∧ Keeps h h' ∧
      Own h h' 47 2 (tm 3) ((G ++ D ++ parF [] (f.params.take k)).map fltRow) ∧ Own h h' 9 1 (tm 6) (strRows (pnames (f.params.take k)))) f.params.length
      ⟨0, by simp, by simp [t1], by simp [t4], by simp [t5], by simp, hi1, hi5, hf, by simpa [parF] using ho, .inl ⟨by simp [strRows, pnames], by simp⟩⟩ ?_
    clear hi1 hf ho t1 t4 t5 hi5
    rintro n' tm h' ⟨k, hk, t1, t4, t5, t7, hi1, hi5, hf, ho, ho6⟩
    have hw2 : IntKind.i64.wrap ((k : Int) + 1) = ((k + 1 : Nat) : Int) := by rw [wrap_i64] <;> omega
    by_cases hkl : k < f.params.length
    · have hps := parF_snoc (f.params.take k) [] f.params[k]
      rw [← take_snoc f.params hkl] at hps
      have hpl := parF_length (f.params.take k) []
      have hpn : pnames (f.params.take (k + 1)) = pnames (f.params.take k) ++ [f.params[k].name] := by rw [take_snoc f.params hkl]; simp only [pnames, List.map_append]; rfl
      have hpnl : (pnames (f.params.take k)).length = k := by simp [pnames]; omega
      have hmk : min k f.params.length = k := by omega
      simp only [List.length_take, hmk] at hpl
      rw [List.nil_append] at hps
      generalize hx : f.params[k] = x at *
      have hgx : f.params[k]? = some x := by rw [List.getElem?_eq_getElem hkl, hx]
      generalize hPF : parF [] (f.params.take k) = PF at *
      generalize hN : pnames (f.params.take k) = N at *
      simp -dsimp [t5, t7, hi5, hkl, hx]
      refine has_ok (by omega) ho6.isStrs ?_
      simp -dsimp
      refine ThenB.cut (fun tm h' => tm 1 = .ptr i1 0 ∧ tm 4 = .int .i64 i ∧ tm 5 = .ptr i5 0 ∧ tm 7 = .int .i64 k ∧ h' i1 = .cells [rowsAV (p.map Df.cells)] ∧ h' i5 = .cells f.cells ∧ Keeps h h' ∧
        Own h h' 47 2 (tm 3) ((G ++ D ++ (PF ++ (if x.name ∈ N then [(30, x.pos)] else []))).map fltRow) ∧ Own h h' 9 1 (tm 6) (strRows N)) ?_ ?_ ?_
      · intro hb
        have hb' : x.name ∈ N := of_decide_eq_true hb
        simp -dsimp [t5, t7, hi5, hkl, hx]
        intro i8 d8
        simp -dsimp
        refine Own.pushE (h := h) (ho.new d8) (hf.new d8) (by simp; omega) (by decide) fun v' h2 ho2 hf2 hk2 => ?_
        simp -dsimp [t1, t4, t5, t7]
        exact ⟨hk2.cells (cells_new hi1 d8), hk2.cells (cells_new hi5 d8), hf2, by simpa [hb', fltRow] using ho2, hk2.own (ho6.new d8) (by decide)⟩
      · intro hb
        have hb' : ¬ x.name ∈ N := of_decide_eq_false hb
        simp -dsimp [t1, t4, t5, t7]
        exact ⟨hi1, hi5, hf, by simpa [hb'] using ho, ho6⟩
      clear hi1 hf ho t1 t4 t5 hi5 t7 ho6
      rintro tm h' ⟨t1, t4, t5, t7, hi1, hi5, hf, ho, ho6⟩
      simp -dsimp [t5, t7, hi5, hkl, hx]
      intro i8 d8
      simp -dsimp
      refine Own.pushE (h := h) (ho6.new d8) (hf.new d8) (by simp; omega) (by decide) fun v' h2 ho2 hf2 hk2 => ?_
      simp -dsimp [t7, hw2]
      refine Again.same (n' - 1) (by omega) ⟨k + 1, by omega, by simp [t1], by simp [t4], by simp [t5], by simp, hk2.cells (cells_new hi1 d8), hk2.cells (cells_new hi5 d8), hf2, ?_, ?_⟩
      · rw [hps]; simpa using hk2.own (ho.new d8) (by decide)
      · rw [hpn]; simpa [strRows] using ho2
    · have htk : f.params.take k = f.params := List.take_of_length_le (by omega)
      rw [htk] at ho ho6
      have hpl := parF_length f.params []
      have hpnl : (pnames f.params).length = f.params.length := by simp [pnames]
      simp -dsimp [t5, t7, hi5, hkl]
      refine seen_ok _ _ _ _ _ _ (Nat.le_refl _) (by omega) ho6.isStrs ?_
      have hFF : faultF p i f = D ++ parF [] f.params ++ usesF p (seenS (pnames f.params) f.body) := by rw [← hD]; rfl
      have hsl := seenS_length (pnames f.params) f.body
      generalize hS : seenS (pnames f.params) f.body = S at *
      generalize hPF : parF [] f.params = PF at *
      simp -dsimp
      clear ho6
      refine ALoop.start (fun n tm h' => ∃ k : Nat, k + n = S.length ∧ tm 1 = .ptr i1 0 ∧ tm 4 = .int .i64 i ∧ tm 8 = rowsAV (S.map seenRow) ∧ tm 9 = .int .i64 k ∧ h' i1 = .cells [rowsAV (p.map Df.cells)] ∧ Keeps h h' ∧
        Own h h' 47 2 (tm 3) ((G ++ D ++ PF ++ usesF p (S.take k)).map fltRow)) S.length
        ⟨0, by simp, by simp [t1], by simp [t4], by simp, by simp, hi1, hf, by simpa [usesF] using ho⟩ ?_
      clear hi1 hf ho t1 t4 t5 hi5 t7
      rintro n'' tm h' ⟨k, hk, t1, t4, t8, t9, hi1, hf, ho⟩
      have hw3 : IntKind.i64.wrap ((k : Int) + 1) = ((k + 1 : Nat) : Int) := by rw [wrap_i64] <;> omega
      by_cases hkl : k < S.length
      · have hus := usesF_snoc p (S.take k) S[k]
        rw [← take_snoc S hkl] at hus
        have hul := usesF_length p (S.take k)
        have hmk : min k S.length = k := by omega
        simp only [List.length_take, hmk] at hul
        generalize hx : S[k] = x at *
        have hgx : S[k]? = some x := by rw [List.getElem?_eq_getElem hkl, hx]
        generalize hU : usesF p (S.take k) = U at *
        obtain ⟨x, b⟩ := x
        simp -dsimp [t8, t9, hkl, hx]
        intro i10 d10
        have e1 := cells_new (o' := .cells x.cells) hi1 d10
        have n15 := cells_ne hi1 d10
        simp -dsimp [t8, t9, hkl, hx, seenRow, n15]
        have hdrop : x.cells.drop 7 = [] := by simp
        refine ThenB.cut (fun tm h' => tm 1 = .ptr i1 0 ∧ tm 4 = .int .i64 i ∧ tm 8 = rowsAV (S.map seenRow) ∧ tm 9 = .int .i64 k ∧ tm 10 = .ptr i10 0 ∧ h' i1 = .cells [rowsAV (p.map Df.cells)] ∧ h' i10 = .cells x.cells ∧ Keeps h h' ∧
          Own h h' 47 2 (tm 3) ((G ++ D ++ PF ++ (U ++ (if b = true then [(31, x.pos)] else []))).map fltRow)) ?_ ?_ ?_
        · intro hb
          simp -dsimp
          intro i8 d8
          simp -dsimp
          refine Own.pushE (h := h) ((ho.new d10).new d8) ((hf.new d10).new d8) (by simp; omega) (by decide) fun v' h2 ho2 hf2 hk2 => ?_
          simp -dsimp [t1, t4, t8, t9]
          exact ⟨hk2.cells (cells_new e1 d8), hk2.cells (cells_new (by simp) d8), hf2, by simpa [hb, fltRow] using ho2⟩
        · intro hb
          simp -dsimp [t1, t4, t8, t9]
          exact ⟨e1, hf.new d10, by simpa [hb] using ho.new d10⟩
        clear hi1 hf ho t1 t4 t8 t9 e1 d10
        rintro tm h' ⟨t1, t4, t8, t9, t10, hi1, hi10, hf, ho⟩
        have hue : useF p (x, b) = (if b = true then [(31, x.pos)] else []) ++
          (if x.op ≠ 7 then [] else if headsS x.name p 0 < 0 then [(32, x.pos)] else if (p.getD (headsS x.name p 0).toNat ⟨[], [], 0, ex0, 0⟩).params.length ≠ x.args.length then [(33, x.pos)] else []) := rfl
        generalize hB : (if b = true then [((31 : Int), x.pos)] else []) = B at *
        have hBl : B.length ≤ 1 := by rw [← hB]; split <;> simp
        have done : ∀ (tm : Tm) (h' : Hp) (l : List Flt), useF p (x, b) = B ++ l → tm 1 = .ptr i1 0 → tm 4 = .int .i64 i → tm 8 = rowsAV (S.map seenRow) → tm 9 = .int .i64 ((k + 1 : Nat) : Int) → h' i1 = .cells [rowsAV (p.map Df.cells)] → Keeps h h' →
            Own h h' 47 2 (tm 3) ((G ++ D ++ PF ++ (U ++ B) ++ l).map fltRow) → ∃ k : Nat, k + (n'' - 1) = S.length ∧ tm 1 = .ptr i1 0 ∧ tm 4 = .int .i64 i ∧ tm 8 = rowsAV (S.map seenRow) ∧ tm 9 = .int .i64 k ∧ h' i1 = .cells [rowsAV (p.map Df.cells)] ∧ Keeps h h' ∧
            Own h h' 47 2 (tm 3) ((G ++ D ++ PF ++ usesF p (S.take k)).map fltRow) := fun tm h' l hl a1 a2 a3 a4 a5 a6 a7 => ⟨k + 1, by omega, a1, a2, a3, a4, a5, a6, by rw [hus, hl]; simpa using a7⟩
        by_cases o7 : x.op = 7
        · simp -dsimp [t1, t10, hi1, hi10, o7]
          refine heads_ok (l := p) (by omega) ?_
          simp -dsimp
          by_cases hneg : headsS x.name p 0 < 0
          · simp only [o7, ne_eq, not_true_eq_false, if_false, if_pos hneg] at hue
            refine ThenB_split ?_ ?_
            · intro _
              simp -dsimp [t10, hi10]
              intro i8 d8
              simp -dsimp
              refine Own.pushE (h := h) (ho.new d8) (hf.new d8) (by simp; omega) (by decide) fun v' h2 ho2 hf2 hk2 => ?_
              simp -dsimp [t9, hw3]
              exact Again.same (n'' - 1) (by omega) (done _ _ _ hue (by simp [t1]) (by simp [t4]) (by simp [t8]) (by simp) (hk2.cells (cells_new hi1 d8)) hf2 (by simpa [fltRow] using ho2))
            · intro hb; simp [hneg] at hb
          · obtain ⟨m, hm, em, _⟩ := headsS_at hneg
            have hgm : p[m]? = some p[m] := List.getElem?_eq_getElem hm
            have hm0 : ¬ ((m : Int) < 0) := by omega
            simp only [o7, ne_eq, not_true_eq_false, if_false, em, if_neg hm0, Int.toNat_natCast, List.getD, hgm, Option.getD_some] at hue
            generalize hg : p[m] = g at *
            refine ThenB_split ?_ ?_
            · intro hb; simp [hneg] at hb
            · intro _
              simp -dsimp [t1, t10, hi1, hi10, em, hgm]
              by_cases hne : g.params.length = x.args.length
              · simp only [hne, not_true_eq_false, if_false] at hue
                refine ThenB_split ?_ ?_
                · intro hb; simp [hne] at hb
                · intro _
                  simp -dsimp [t9, hw3]
                  exact Again.same (n'' - 1) (by omega) (done _ _ _ hue (by simp [t1]) (by simp [t4]) (by simp [t8]) (by simp) hi1 hf (by simpa using ho))
              · simp only [hne, not_false_eq_true, if_true] at hue
                refine ThenB_split ?_ ?_
                · intro _
                  simp -dsimp [t10, hi10]
                  intro i8 d8
                  simp -dsimp
                  refine Own.pushE (h := h) (ho.new d8) (hf.new d8) (by simp; omega) (by decide) fun v' h2 ho2 hf2 hk2 => ?_
                  simp -dsimp [t9, hw3]
                  exact Again.same (n'' - 1) (by omega) (done _ _ _ hue (by simp [t1]) (by simp [t4]) (by simp [t8]) (by simp) (hk2.cells (cells_new hi1 d8)) hf2 (by simpa [fltRow] using ho2))
                · intro hb
                  have hb2 : (g.params.length : Int) = x.args.length := by simpa using hb
                  exact absurd (by omega) hne
        · simp only [o7, ne_eq, not_false_eq_true, if_true] at hue
          simp -dsimp [t1, t10, hi1, hi10, o7, t9, hw3]
          exact Again.same (n'' - 1) (by omega) (done _ _ _ hue (by simp [t1]) (by simp [t4]) (by simp [t8]) (by simp) hi1 hf (by simpa using ho))
      · have htk : S.take k = S := List.take_of_length_le (by omega)
        rw [htk] at ho
        simp -dsimp [t8, t9, hkl, t4, hw1]
        refine Again.same (n - 1) (by omega) ⟨i + 1, by omega, by simp [t1], by simp, hi1, hf, ?_⟩
        rw [hsn, hFF]
        simpa using ho
  · have htk : p.take i = p := List.take_of_length_le (by omega)
    rw [htk] at ho
    simp -dsimp [t1, t4, hi1, hlt]
    exact ho.out hf hK

theorem check06_ok {p : List Df} {h : Hp} {K : AV → Hp → Prop} (hp : sizeP p ≤ 40000) (hK : K (.agg (fltRow (check06 p))) h) : ACalls Tryz.prog 34 [progAV p] h K := by
  refine calls_of mixed Tryz.func34 comp34 (Nat.le_of_ble_eq_true rfl) ?_
  simp -dsimp [c34, progAV]
  intro i1 d1
  simp -dsimp
  intro i2 d2
  have n12 : ¬ i1 = i2 := hset_ne d2
  simp -dsimp [n12]
  refine faults_ok (p := p) hp ?_
  have hl := faultsL_length p p 0
  have hq : check06 p = least (0, 0) (faultsS p) := rfl
  have hl' : (faultsS p).length ≤ 80000 := Nat.le_trans hl (by omega)
  generalize faultsS p = L at *
  simp -dsimp
  intro i4 d4
  have n24 : ¬ i2 = i4 := hset_ne d4
  simp -dsimp
  refine ALoop.start (fun n tm h' => ∃ k : Nat, k + n = L.length ∧ tm 2 = .ptr i2 0 ∧ tm 3 = rowsAV (L.map fltRow) ∧ tm 4 = .ptr i4 0 ∧ tm 5 = .int .i64 k ∧ h' i2 = .cells [.int .i64 0, .int .i64 0] ∧ h' i4 = .cells (fltRow (least (0, 0) (L.take k))) ∧ Keeps h h') L.length
    ⟨0, by simp, by simp, by simp, by simp, by simp, by simp [n24], by simp [least, fltRow], (((Keeps.refl h).new d1).new d2).new d4⟩ ?_
  rintro n tm h' ⟨k, hk, t2, t3, t4, t5, hi2, hi4, hf⟩
  have hw : IntKind.i64.wrap ((k : Int) + 1) = ((k + 1 : Nat) : Int) := by rw [wrap_i64] <;> omega
  have n24 : ¬ i2 = i4 := n24
  have n42 : ¬ i4 = i2 := fun x => n24 x.symm
  have d2' : h i2 = .dead := ((Keeps.refl h).new d1).dead d2
  have d4' : h i4 = .dead := (((Keeps.refl h).new d1).new d2).dead d4
  by_cases hkl : k < L.length
  · have hls : least (0, 0) (L.take (k + 1)) = if (least (0, 0) (L.take k)).1 = 0 ∨ L[k].2 < (least (0, 0) (L.take k)).2 then L[k] else least (0, 0) (L.take k) := by
      rw [take_snoc L hkl]; simp only [least, List.foldl_append, List.foldl_cons, List.foldl_nil]; rfl
    generalize hx : L[k] = x at *
    generalize hz : least (0, 0) (L.take k) = z at *
    have again : ∀ (tm : Tm) (h' : Hp), tm 2 = .ptr i2 0 → tm 3 = rowsAV (L.map fltRow) → tm 4 = .ptr i4 0 → tm 5 = .int .i64 ((k + 1 : Nat) : Int) → h' i2 = .cells [.int .i64 0, .int .i64 0] → h' i4 = .cells (fltRow (if z.1 = 0 ∨ x.2 < z.2 then x else z)) → Keeps h h' →
       ∃ k : Nat, k + (n - 1) = L.length ∧ tm 2 = .ptr i2 0 ∧ tm 3 = rowsAV (L.map fltRow) ∧ tm 4 = .ptr i4 0 ∧ tm 5 = .int .i64 k ∧ h' i2 = .cells [.int .i64 0, .int .i64 0] ∧ h' i4 = .cells (fltRow (least (0, 0) (L.take k))) ∧ Keeps h h' :=
      fun tm h' a1 a2 a3 a4 a5 a6 a7 => ⟨k + 1, by omega, a1, a2, a3, a4, a5, by rw [hls]; exact a6, a7⟩
    by_cases hz0 : z.1 = 0
    · simp -dsimp [t2, t3, t4, t5, hi4, hkl, hx, fltRow, hz0, hw]
      exact Again.same (n - 1) (by omega) (again _ _ (by simp [t2]) (by simp [t3, fltRow]) (by simp [t4]) (by simp) (by simp [n24, hi2]) (by simp [hz0, fltRow]) (hf.set d4'))
    · by_cases hlt : x.2 < z.2
      · simp -dsimp [t2, t3, t4, t5, hi4, hkl, hx, fltRow, hz0, hlt, hw]
        exact Again.same (n - 1) (by omega) (again _ _ (by simp [t2]) (by simp [t3, fltRow]) (by simp [t4]) (by simp) (by simp [n24, hi2]) (by simp [hlt, fltRow]) (hf.set d4'))
      · simp -dsimp [t2, t3, t4, t5, hi4, hkl, hx, fltRow, hz0, hlt, hw]
        exact Again.same (n - 1) (by omega) (again _ _ (by simp [t2]) (by simp [t3, fltRow]) (by simp [t4]) (by simp) hi2 (by simp [hz0, hlt, hi4]) hf)
  · have htk : L.take k = L := List.take_of_length_le (by omega)
    rw [htk] at hi4
    simp -dsimp [t2, t3, t4, t5, hi4, hi2, hkl, fltRow]
    rw [hq] at hK
    exact Gives.sub (hf.set d2').sub hK
end Go.Proofs.YtcpkdbofohkipaaGreat
