/- The document's answer for names: all faults, the least one. -/
import Derived.Test.YtcpkdbofohkipaaGreatK24
import Derived.Test.YtcpkdbofohkipaaGreatK09
set_option linter.unusedVariables false
set_option linter.unusedSimpArgs false
namespace Go.Proofs.YtcpkdbofohkipaaGreat
open Go.AM

theorem faults_ok {p : List Df} {h : Hp} {K : AV → Hp → Prop} (hp : sizeP p ≤ 40000) (hK : K (rowsAV ((faultsS p).map fltRow)) h) : ACalls Tryz.prog 65 [progAV p] h K := by
  refine calls_of mixed Tryz.func65 comp65 (Nat.le_of_ble_eq_true rfl) ?_
  have hlen := sizeP_len p
  simp -dsimp [c65, progAV]
  intro i1 d1
  simp -dsimp
  refine ALoop.start (fun n tm h' => ∃ i : Nat, i + n = p.length ∧ tm 1 = .ptr i1 0 ∧ tm 4 = .int .i64 i ∧ h' i1 = .cells [rowsAV (p.map Df.cells)] ∧ Keeps h h' ∧ Own h h' 47 2 (tm 3) ((faultsL p 0 (p.take i)).map fltRow)) p.length ⟨0, by simp, by simp, by simp, by simp, (Keeps.refl h).new d1, .inl ⟨by simp [faultsL], by simp⟩⟩ ?_
  rintro n tm h' ⟨i, hi, t1, t4, hi1, hf, ho⟩
  have hw1 : IntKind.i64.wrap ((i : Int) + 1) = ((i + 1 : Nat) : Int) := by rw [wrap_i64] <;> omega
  by_cases hlt : i < p.length
  · have hsf : p[i].size ≤ sizeP p := sizeP_mem (List.getElem_mem hlt)
    have hls := faultsL_length p (p.take i) 0
    have hst := sizeP_take p i
    have hsz : p[i].size = 1 + p[i].params.length + p[i].body.size := rfl
    have hsn := faultsL_snoc p (p.take i) 0 p[i]
    rw [← take_snoc p hlt] at hsn
    have hmin : min i p.length = i := by omega
    simp only [List.length_take, hmin, Nat.zero_add] at hsn
    generalize hG : faultsL p 0 (p.take i) = G at *
    generalize hfe : p[i] = f at *
    have hget : p[i]? = some f := by rw [List.getElem?_eq_getElem hlt, hfe]
    simp -dsimp [t1, t4, hi1, hlt, hfe]
    intro i5 d5
    have c1 := cells_new (o' := .cells f.cells) hi1 d5
    have n15 := cells_ne hi1 d5
    simp -dsimp [t1, t4, hi1, n15]
    refine heads_ok (l := p) (by omega) ?_
    simp -dsimp [t4]
    refine ThenB.cut (fun tm h' => tm 1 = .ptr i1 0 ∧ tm 4 = .int .i64 i ∧ tm 5 = .ptr i5 0 ∧ h' i1 = .cells [rowsAV (p.map Df.cells)] ∧ h' i5 = .cells f.cells ∧ Keeps h h' ∧ Own h h' 47 2 (tm 3) ((G ++ (if headsS f.name p 0 < i then [(30, f.pos)] else [])).map fltRow)) ?_ ?_ ?_
    · intro hb
      have hb' := of_decide_eq_true hb
      simp -dsimp
      intro i6 d6
      have e6 := d6
      simp at d6
      simp -dsimp
      refine Own.pushE (h := h) ((ho.new d5).new e6) ((hf.new d5).new e6) (by simp; omega) (by decide) fun v' h2 ho2 hf2 hk2 => ?_
      simp -dsimp [t1, t4]
      refine ⟨hk2.cells (cells_new c1 e6), hk2.cells (cells_new (by simp) e6), hf2, ?_⟩
      simpa [hb', fltRow] using ho2
    · intro hb
      have hb' : ¬ headsS f.name p 0 < i := of_decide_eq_false hb
      simp -dsimp [t1, t4]
      exact ⟨c1, hf.new d5, by simpa [hb'] using ho.new d5⟩
    clear hi1 hf ho t1 t4 c1 d5
    rintro tm h' ⟨t1, t4, t5, hi1, hi5, hf, ho⟩
    generalize hD : (if headsS f.name p 0 < (i : Int) then [((30 : Int), f.pos)] else []) = D at *
    have hDl : D.length ≤ 1 := by rw [← hD]; split <;> simp
    simp -dsimp
    refine ALoop.start (fun n tm h' => ∃ k : Nat, k + n = f.params.length ∧ tm 1 = .ptr i1 0 ∧ tm 4 = .int .i64 i ∧ tm 5 = .ptr i5 0 ∧ tm 7 = .int .i64 k ∧ h' i1 = .cells [rowsAV (p.map Df.cells)] ∧ h' i5 = .cells f.cells ∧ Keeps h h' ∧
      Own h h' 47 2 (tm 3) ((G ++ D ++ parF [] (f.params.take k)).map fltRow) ∧ Own h h' 9 1 (tm 6) (strRows (pnames (f.params.take k)))) f.params.length
      ⟨0, by simp, by simp [t1], by simp [t4], by simp [t5], by simp, hi1, hi5, hf, by simpa [parF] using ho, .inl ⟨by simp [strRows, pnames], by simp⟩⟩ ?_
    clear hi1 hf ho t1 t4 t5 hi5
    rintro n' tm h' ⟨k, hk, t1, t4, t5, t7, hi1, hi5, hf, ho, ho6⟩
    have hw2 : IntKind.i64.wrap ((k : Int) + 1) = ((k + 1 : Nat) : Int) := by rw [wrap_i64] <;> omega
    by_cases hkl : k < f.params.length
    · have hps := parF_snoc (f.params.take k) [] f.params[k]
      rw [← take_snoc f.params hkl] at hps
      have hpl := parF_length (f.params.take k) []
      have hpn : pnames (f.params.take (k + 1)) = pnames (f.params.take k) ++ [f.params[k].name] := by rw [take_snoc f.params hkl]; simp only [pnames, List.map_append]; rfl
      have hpnl : (pnames (f.params.take k)).length = k := by simp [pnames]; omega
      have hmk : min k f.params.length = k := by omega
      simp only [List.length_take, hmk] at hpl
      rw [List.nil_append] at hps
      generalize hx : f.params[k] = x at *
      have hgx : f.params[k]? = some x := by rw [List.getElem?_eq_getElem hkl, hx]
      generalize hPF : parF [] (f.params.take k) = PF at *
      generalize hN : pnames (f.params.take k) = N at *
      simp -dsimp [t5, t7, hi5, hkl, hx]
      refine has_ok (by omega) ho6.isStrs ?_
      simp -dsimp
      refine ThenB.cut (fun tm h' => tm 1 = .ptr i1 0 ∧ tm 4 = .int .i64 i ∧ tm 5 = .ptr i5 0 ∧ tm 7 = .int .i64 k ∧ h' i1 = .cells [rowsAV (p.map Df.cells)] ∧ h' i5 = .cells f.cells ∧ Keeps h h' ∧
        Own h h' 47 2 (tm 3) ((G ++ D ++ (PF ++ (if x.name ∈ N then [(30, x.pos)] else []))).map fltRow) ∧ Own h h' 9 1 (tm 6) (strRows N)) ?_ ?_ ?_
      · intro hb
        have hb' : x.name ∈ N := of_decide_eq_true hb
        simp -dsimp [t5, t7, hi5, hkl, hx]
        intro i8 d8
        simp -dsimp
        refine Own.pushE (h := h) (ho.new d8) (hf.new d8) (by simp; omega) (by decide) fun v' h2 ho2 hf2 hk2 => ?_
        simp -dsimp [t1, t4, t5, t7]
        exact ⟨hk2.cells (cells_new hi1 d8), hk2.cells (cells_new hi5 d8), hf2, by simpa [hb', fltRow] using ho2, hk2.own (ho6.new d8) (by decide)⟩
      · intro hb
        have hb' : ¬ x.name ∈ N := of_decide_eq_false hb
        simp -dsimp [t1, t4, t5, t7]
        exact ⟨hi1, hi5, hf, by simpa [hb'] using ho, ho6⟩
      clear hi1 hf ho t1 t4 t5 hi5 t7 ho6
      rintro tm h' ⟨t1, t4, t5, t7, hi1, hi5, hf, ho, ho6⟩
      simp -dsimp [t5, t7, hi5, hkl, hx]
      intro i8 d8
      simp -dsimp
      refine Own.pushE (h := h) (ho6.new d8) (hf.new d8) (by simp; omega) (by decide) fun v' h2 ho2 hf2 hk2 => ?_
      simp -dsimp [t7, hw2]
      refine Again.same (n' - 1) (by omega) ⟨k + 1, by omega, by simp [t1], by simp [t4], by simp [t5], by simp, hk2.cells (cells_new hi1 d8), hk2.cells (cells_new hi5 d8), hf2, ?_, ?_⟩
      · rw [hps]; simpa using hk2.own (ho.new d8) (by decide)
      · rw [hpn]; simpa [strRows] using ho2
    · have htk : f.params.take k = f.params := List.take_of_length_le (by omega)
      rw [htk] at ho ho6
      have hpl := parF_length f.params []
      have hpnl : (pnames f.params).length = f.params.length := by simp [pnames]
      simp -dsimp [t5, t7, hi5, hkl]
      refine seen_ok _ _ _ _ _ _ (Nat.le_refl _) (by omega) ho6.isStrs ?_
      have hFF : faultF p i f = D ++ parF [] f.params ++ usesF p (seenS (pnames f.params) f.body) := by rw [← hD]; rfl
      have hsl := seenS_length (pnames f.params) f.body
      generalize hS : seenS (pnames f.params) f.body = S at *
      generalize hPF : parF [] f.params = PF at *
      simp -dsimp
      clear ho6
      refine ALoop.start (fun n tm h' => ∃ k : Nat, k + n = S.length ∧ tm 1 = .ptr i1 0 ∧ tm 4 = .int .i64 i ∧ tm 8 = rowsAV (S.map seenRow) ∧ tm 9 = .int .i64 k ∧ h' i1 = .cells [rowsAV (p.map Df.cells)] ∧ Keeps h h' ∧
        Own h h' 47 2 (tm 3) ((G ++ D ++ PF ++ usesF p (S.take k)).map fltRow)) S.length
        ⟨0, by simp, by simp [t1], by simp [t4], by simp, by simp, hi1, hf, by simpa [usesF] using ho⟩ ?_
      clear hi1 hf ho t1 t4 t5 hi5 t7
      rintro n'' tm h' ⟨k, hk, t1, t4, t8, t9, hi1, hf, ho⟩
      have hw3 : IntKind.i64.wrap ((k : Int) + 1) = ((k + 1 : Nat) : Int) := by rw [wrap_i64] <;> omega
      by_cases hkl : k < S.length
      · have hus := usesF_snoc p (S.take k) S[k]
        rw [← take_snoc S hkl] at hus
        have hul := usesF_length p (S.take k)
        have hmk : min k S.length = k := by omega
        simp only [List.length_take, hmk] at hul
        generalize hx : S[k] = x at *
        have hgx : S[k]? = some x := by rw [List.getElem?_eq_getElem hkl, hx]
        generalize hU : usesF p (S.take k) = U at *
        obtain ⟨x, b⟩ := x
        simp -dsimp [t8, t9, hkl, hx]
        intro i10 d10
        have e1 := cells_new (o' := .cells x.cells) hi1 d10
        have n15 := cells_ne hi1 d10
        simp -dsimp [t8, t9, hkl, hx, seenRow, n15]
        have hdrop : x.cells.drop 7 = [] := by simp
        refine ThenB.cut (fun tm h' => tm 1 = .ptr i1 0 ∧ tm 4 = .int .i64 i ∧ tm 8 = rowsAV (S.map seenRow) ∧ tm 9 = .int .i64 k ∧ tm 10 = .ptr i10 0 ∧ h' i1 = .cells [rowsAV (p.map Df.cells)] ∧ h' i10 = .cells x.cells ∧ Keeps h h' ∧
          Own h h' 47 2 (tm 3) ((G ++ D ++ PF ++ (U ++ (if b = true then [(31, x.pos)] else []))).map fltRow)) ?_ ?_ ?_
        · intro hb
          simp -dsimp
          intro i8 d8
          simp -dsimp
          refine Own.pushE (h := h) ((ho.new d10).new d8) ((hf.new d10).new d8) (by simp; omega) (by decide) fun v' h2 ho2 hf2 hk2 => ?_
          simp -dsimp [t1, t4, t8, t9]
          exact ⟨hk2.cells (cells_new e1 d8), hk2.cells (cells_new (by simp) d8), hf2, by simpa [hb, fltRow] using ho2⟩
        · intro hb
          simp -dsimp [t1, t4, t8, t9]
          exact ⟨e1, hf.new d10, by simpa [hb] using ho.new d10⟩
        clear hi1 hf ho t1 t4 t8 t9 e1 d10
        rintro tm h' ⟨t1, t4, t8, t9, t10, hi1, hi10, hf, ho⟩
        have hue : useF p (x, b) = (if b = true then [(31, x.pos)] else []) ++
          (if x.op ≠ 7 then [] else if headsS x.name p 0 < 0 then [(32, x.pos)] else if (p.getD (headsS x.name p 0).toNat ⟨[], [], 0, ex0, 0⟩).params.length ≠ x.args.length then [(33, x.pos)] else []) := rfl
        generalize hB : (if b = true then [((31 : Int), x.pos)] else []) = B at *
        have hBl : B.length ≤ 1 := by rw [← hB]; split <;> simp
        have done : ∀ (tm : Tm) (h' : Hp) (l : List Flt), useF p (x, b) = B ++ l → tm 1 = .ptr i1 0 → tm 4 = .int .i64 i → tm 8 = rowsAV (S.map seenRow) → tm 9 = .int .i64 ((k + 1 : Nat) : Int) → h' i1 = .cells [rowsAV (p.map Df.cells)] → Keeps h h' →
            Own h h' 47 2 (tm 3) ((G ++ D ++ PF ++ (U ++ B) ++ l).map fltRow) → ∃ k : Nat, k + (n'' - 1) = S.length ∧ tm 1 = .ptr i1 0 ∧ tm 4 = .int .i64 i ∧ tm 8 = rowsAV (S.map seenRow) ∧ tm 9 = .int .i64 k ∧ h' i1 = .cells [rowsAV (p.map Df.cells)] ∧ Keeps h h' ∧
            Own h h' 47 2 (tm 3) ((G ++ D ++ PF ++ usesF p (S.take k)).map fltRow) := fun tm h' l hl a1 a2 a3 a4 a5 a6 a7 => ⟨k + 1, by omega, a1, a2, a3, a4, a5, a6, by rw [hus, hl]; simpa using a7⟩
        by_cases o7 : x.op = 7
        · simp -dsimp [t1, t10, hi1, hi10, o7]
          refine heads_ok (l := p) (by omega) ?_
          simp -dsimp
          by_cases hneg : headsS x.name p 0 < 0
          · simp only [o7, ne_eq, not_true_eq_false, if_false, if_pos hneg] at hue
            refine ThenB_split ?_ ?_
            · intro _
              simp -dsimp [t10, hi10]
              intro i8 d8
              simp -dsimp
              refine Own.pushE (h := h) (ho.new d8) (hf.new d8) (by simp; omega) (by decide) fun v' h2 ho2 hf2 hk2 => ?_
              simp -dsimp [t9, hw3]
              exact Again.same (n'' - 1) (by omega) (done _ _ _ hue (by simp [t1]) (by simp [t4]) (by simp [t8]) (by simp) (hk2.cells (cells_new hi1 d8)) hf2 (by simpa [fltRow] using ho2))
            · intro hb; simp [hneg] at hb
          · obtain ⟨m, hm, em, _⟩ := headsS_at hneg
            have hgm : p[m]? = some p[m] := List.getElem?_eq_getElem hm
            have hm0 : ¬ ((m : Int) < 0) := by omega
            simp only [o7, ne_eq, not_true_eq_false, if_false, em, if_neg hm0, Int.toNat_natCast, List.getD, hgm, Option.getD_some] at hue
            generalize hg : p[m] = g at *
            refine ThenB_split ?_ ?_
            · intro hb; simp [hneg] at hb
            · intro _
              simp -dsimp [t1, t10, hi1, hi10, em, hgm]
              by_cases hne : g.params.length = x.args.length
              · simp only [hne, not_true_eq_false, if_false] at hue
                refine ThenB_split ?_ ?_
                · intro hb; simp [hne] at hb
                · intro _
                  simp -dsimp [t9, hw3]
                  exact Again.same (n'' - 1) (by omega) (done _ _ _ hue (by simp [t1]) (by simp [t4]) (by simp [t8]) (by simp) hi1 hf (by simpa using ho))
              · simp only [hne, not_false_eq_true, if_true] at hue
                refine ThenB_split ?_ ?_
                · intro _
                  simp -dsimp [t10, hi10]
                  intro i8 d8
                  simp -dsimp
                  refine Own.pushE (h := h) (ho.new d8) (hf.new d8) (by simp; omega) (by decide) fun v' h2 ho2 hf2 hk2 => ?_
                  simp -dsimp [t9, hw3]
                  exact Again.same (n'' - 1) (by omega) (done _ _ _ hue (by simp [t1]) (by simp [t4]) (by simp [t8]) (by simp) (hk2.cells (cells_new hi1 d8)) hf2 (by simpa [fltRow] using ho2))
                · intro hb
                  have hb2 : (g.params.length : Int) = x.args.length := by simpa using hb
                  exact absurd (by omega) hne
        · simp only [o7, ne_eq, not_false_eq_true, if_true] at hue
          simp -dsimp [t1, t10, hi1, hi10, o7, t9, hw3]
          exact Again.same (n'' - 1) (by omega) (done _ _ _ hue (by simp [t1]) (by simp [t4]) (by simp [t8]) (by simp) hi1 hf (by simpa using ho))
      · have htk : S.take k = S := List.take_of_length_le (by omega)
        rw [htk] at ho
        simp -dsimp [t8, t9, hkl, t4, hw1]
        refine Again.same (n - 1) (by omega) ⟨i + 1, by omega, by simp [t1], by simp, hi1, hf, ?_⟩
        rw [hsn, hFF]
        simpa using ho
  · have htk : p.take i = p := List.take_of_length_le (by omega)
    rw [htk] at ho
    simp -dsimp [t1, t4, hi1, hlt]
    exact ho.out hf hK

theorem check06_ok {p : List Df} {h : Hp} {K : AV → Hp → Prop} (hp : sizeP p ≤ 40000) (hK : K (.agg (fltRow (check06 p))) h) : ACalls Tryz.prog 34 [progAV p] h K := by
  refine calls_of mixed Tryz.func34 comp34 (Nat.le_of_ble_eq_true rfl) ?_
  simp -dsimp [c34, progAV]
  intro i1 d1
  simp -dsimp
  intro i2 d2
  have n12 : ¬ i1 = i2 := hset_ne d2
  simp -dsimp [n12]
  refine faults_ok (p := p) hp ?_
  have hl := faultsL_length p p 0
  have hq : check06 p = least (0, 0) (faultsS p) := rfl
  have hl' : (faultsS p).length ≤ 80000 := Nat.le_trans hl (by omega)
  generalize faultsS p = L at *
  simp -dsimp
  intro i4 d4
  have n24 : ¬ i2 = i4 := hset_ne d4
  simp -dsimp
  refine ALoop.start (fun n tm h' => ∃ k : Nat, k + n = L.length ∧ tm 2 = .ptr i2 0 ∧ tm 3 = rowsAV (L.map fltRow) ∧ tm 4 = .ptr i4 0 ∧ tm 5 = .int .i64 k ∧ h' i2 = .cells [.int .i64 0, .int .i64 0] ∧ h' i4 = .cells (fltRow (least (0, 0) (L.take k))) ∧ Keeps h h') L.length
    ⟨0, by simp, by simp, by simp, by simp, by simp, by simp [n24], by simp [least, fltRow], (((Keeps.refl h).new d1).new d2).new d4⟩ ?_
  rintro n tm h' ⟨k, hk, t2, t3, t4, t5, hi2, hi4, hf⟩
  have hw : IntKind.i64.wrap ((k : Int) + 1) = ((k + 1 : Nat) : Int) := by rw [wrap_i64] <;> omega
  have n24 : ¬ i2 = i4 := n24
  have n42 : ¬ i4 = i2 := fun x => n24 x.symm
  have d2' : h i2 = .dead := ((Keeps.refl h).new d1).dead d2
  have d4' : h i4 = .dead := (((Keeps.refl h).new d1).new d2).dead d4
  by_cases hkl : k < L.length
  · have hls : least (0, 0) (L.take (k + 1)) = if (least (0, 0) (L.take k)).1 = 0 ∨ L[k].2 < (least (0, 0) (L.take k)).2 then L[k] else least (0, 0) (L.take k) := by
      rw [take_snoc L hkl]; simp only [least, List.foldl_append, List.foldl_cons, List.foldl_nil]; rfl
    generalize hx : L[k] = x at *
    generalize hz : least (0, 0) (L.take k) = z at *
    have again : ∀ (tm : Tm) (h' : Hp), tm 2 = .ptr i2 0 → tm 3 = rowsAV (L.map fltRow) → tm 4 = .ptr i4 0 → tm 5 = .int .i64 ((k + 1 : Nat) : Int) → h' i2 = .cells [.int .i64 0, .int .i64 0] → h' i4 = .cells (fltRow (if z.1 = 0 ∨ x.2 < z.2 then x else z)) → Keeps h h' →
       ∃ k : Nat, k + (n - 1) = L.length ∧ tm 2 = .ptr i2 0 ∧ tm 3 = rowsAV (L.map fltRow) ∧ tm 4 = .ptr i4 0 ∧ tm 5 = .int .i64 k ∧ h' i2 = .cells [.int .i64 0, .int .i64 0] ∧ h' i4 = .cells (fltRow (least (0, 0) (L.take k))) ∧ Keeps h h' :=
      fun tm h' a1 a2 a3 a4 a5 a6 a7 => ⟨k + 1, by omega, a1, a2, a3, a4, a5, by rw [hls]; exact a6, a7⟩
    by_cases hz0 : z.1 = 0
    · simp -dsimp [t2, t3, t4, t5, hi4, hkl, hx, fltRow, hz0, hw]
      exact Again.same (n - 1) (by omega) (again _ _ (by simp [t2]) (by simp [t3, fltRow]) (by simp [t4]) (by simp) (by simp [n24, hi2]) (by simp [hz0, fltRow]) (hf.set d4'))
    · by_cases hlt : x.2 < z.2
      · simp -dsimp [t2, t3, t4, t5, hi4, hkl, hx, fltRow, hz0, hlt, hw]
        exact Again.same (n - 1) (by omega) (again _ _ (by simp [t2]) (by simp [t3, fltRow]) (by simp [t4]) (by simp) (by simp [n24, hi2]) (by simp [hlt, fltRow]) (hf.set d4'))
      · simp -dsimp [t2, t3, t4, t5, hi4, hkl, hx, fltRow, hz0, hlt, hw]
        exact Again.same (n - 1) (by omega) (again _ _ (by simp [t2]) (by simp [t3, fltRow]) (by simp [t4]) (by simp) hi2 (by simp [hz0, hlt, hi4]) hf)
  · have htk : L.take k = L := List.take_of_length_le (by omega)
    rw [htk] at hi4
    simp -dsimp [t2, t3, t4, t5, hi4, hi2, hkl, fltRow]
    rw [hq] at hK
    exact Gives.sub (hf.set d2').sub hK
end Go.Proofs.YtcpkdbofohkipaaGreat

/- The document's answer for types: heads, names with types, an expression's own type. -/
namespace Go.Proofs.YtcpkdbofohkipaaGreat
open Go.AM
variable {h : Hp} {K : AV → Hp → Prop}

theorem head_ok {p : List Df} {nm : Bytes} (hl : p.length ≤ 1000000) (hK : K (.tup [.agg ((headD nm p).getD df0).cells, .bool (headD nm p).isSome]) h) : ACalls Tryz.prog 101 [progAV p, .str nm] h K := by
  refine calls_of mixed Tryz.func101 comp101 (Nat.le_of_ble_eq_true rfl) ?_
  simp -dsimp [c101, progAV]
  intro i2 d2
  simp -dsimp
  intro i4 d4
  have n24 := hset_ne d4
  have n42 : ¬ i4 = i2 := fun x => n24 x.symm
  have d4' : h i4 = .dead := ((Keeps.refl h).new d2).dead d4
  simp -dsimp
  refine ALoop.start (fun n tm h' => ∃ i : Nat, i + n = p.length ∧ tm 1 = .str nm ∧ tm 2 = .ptr i2 0 ∧ tm 4 = .ptr i4 0 ∧ tm 6 = .int .i64 i ∧ headD nm (p.drop i) = headD nm p ∧ h' = hset (hset h i2 (.cells [rowsAV (p.map Df.cells)])) i4 (.cells df0.cells)) p.length ⟨0, by simp, by simp, by simp, by simp, by simp, by simp, rfl⟩ ?_
  rintro n tm h' ⟨i, hi, t1, t2, t4, t6, hq, rfl⟩
  have hw1 : IntKind.i64.wrap ((i : Int) + 1) = ((i + 1 : Nat) : Int) := by rw [wrap_i64] <;> omega
  have hsub : ∀ o : AObj, Sub h (hset (hset h i2 (.cells [rowsAV (p.map Df.cells)])) i4 o) := fun o => (((Keeps.refl h).new d2).set d4').sub
  have hd0 : df0.cells.length = 11 := by simp
  by_cases hlt : i < p.length
  · rw [List.drop_eq_getElem_cons hlt] at hq
    simp only [headD] at hq
    generalize hf : p[i] = f at *
    by_cases he : f.name = nm
    · rw [if_pos he] at hq
      rw [← hq] at hK
      simp -dsimp [t1, t2, t4, t6, hlt, hf, he, n24, n42]
      exact Gives.sub (hsub _) hK
    · rw [if_neg he] at hq
      simp -dsimp [t1, t2, t4, t6, hlt, hf, he, n24, n42, hw1]
      exact Again.same (n - 1) (by omega) ⟨i + 1, by omega, by simp [t1], by simp [t2], by simp [t4], by simp, hq, rfl⟩
  · have hnil : p.drop i = [] := List.drop_eq_nil_of_le (by omega)
    rw [hnil] at hq
    rw [← hq] at hK
    simp -dsimp [t1, t2, t4, t6, hlt, n24, n42, df0, Df.cells, Ex.cells, ex0, rowsAV_nil, Ex.rows]
    exact Gives.sub (hsub _) hK

theorem with7_ok {env : List Pm} {nm : Bytes} {t : Int} (hl : env.length ≤ 900000) (hK : K (pmRows (env ++ [⟨nm, t, 0⟩])) h) : ACalls Tryz.prog 102 [pmRows env, .str nm, .int .i64 t] h K := by
  refine calls_of mixed Tryz.func102 comp102 (Nat.le_of_ble_eq_true rfl) ?_
  simp -dsimp [c102, pmRows]
  refine Own.pushE (h := h) (rows := []) (.inl ⟨rfl, rfl⟩) (Keeps.refl h) (by simp; omega) (by decide) fun v1 h1 ho1 hf1 _ => ?_
  simp -dsimp
  intro i2 d2
  simp -dsimp
  refine Own.pushE (h := h) (ho1.new d2) (hf1.new d2) (by simp; omega) (by decide) fun v2 h2 ho2 hf2 _ => ?_
  simp -dsimp
  refine ho2.out hf2 ?_
  simpa [pmRows, Pm.cells] using hK

theorem within_ok {env : List Pm} {e : Ex} {i : Nat} (hl : env.length ≤ 800000) (hK : K (pmRows (withinS env e i)) h) : ACalls Tryz.prog 67 [pmRows env, .agg e.cells, .int .i64 i] h K := by
  refine calls_of mixed Tryz.func67 comp67 (Nat.le_of_ble_eq_true rfl) ?_
  simp -dsimp [c67]
  intro i2 d2
  have hf : Keeps h (hset h i2 (.cells e.cells)) := (Keeps.refl h).new d2
  simp only [withinS] at hK
  by_cases h21 : e.op = 21
  · simp -dsimp [h21]
    refine with7_ok (by omega) ?_
    simp -dsimp
    exact Gives.sub hf.sub (by simpa [h21] using hK)
  by_cases h22 : e.op = 22 ∧ i = 1
  · obtain ⟨a1, a2⟩ := h22
    simp -dsimp [a1, a2]
    refine with7_ok (by omega) ?_
    simp -dsimp
    exact Gives.sub hf.sub (by simpa [a1, a2] using hK)
  have hnn : ¬ (e.op = 21 ∨ e.op = 22 ∧ i = 1) := fun x => x.elim h21 h22
  simp only [hnn, if_false] at hK
  by_cases o20 : e.op = 20 ∧ i = 2
  · obtain ⟨a1, a2⟩ := o20
    simp only [a1, a2, and_self, if_true] at hK
    simp -dsimp [a1, a2]
    refine with7_ok (by omega) ?_
    simp -dsimp
    refine with7_ok (by simp; omega) ?_
    simp -dsimp
    exact Gives.sub hf.sub (by simpa using hK)
  · rw [if_neg o20] at hK
    by_cases o22 : e.op = 22
    · have i1 : ¬ i = 1 := fun x => h22 ⟨o22, x⟩
      have i1' : ¬ (i : Int) = 1 := by omega
      simp -dsimp [o22, i1, i1']
      exact Gives.sub hf.sub hK
    · by_cases q20 : e.op = 20
      · have i2' : ¬ i = 2 := fun x => o20 ⟨q20, x⟩
        have i2'' : ¬ (i : Int) = 2 := by omega
        simp -dsimp [q20, i2', i2'']
        exact Gives.sub hf.sub hK
      · simp -dsimp [h21, o22, q20]
        exact Gives.sub hf.sub hK

theorem own_ok {p : List Df} {env : List Pm} {e : Ex} (hp : p.length ≤ 1000000) (hl : env.length ≤ 800000) (hK : K (.tup [.int .i64 (ownS p env e).1, .bool (ownS p env e).2]) h) : ACalls Tryz.prog 66 [progAV p, pmRows env, .agg e.cells] h K := by
  refine calls_of mixed Tryz.func66 comp66 (Nat.le_of_ble_eq_true rfl) ?_
  simp -dsimp [c66, progAV]
  intro i3 d3
  simp -dsimp
  intro i5 d5
  have n35 := hset_ne d5
  have n53 : ¬ i5 = i3 := fun x => n35 x.symm
  have hf : Keeps h (hset (hset h i3 (.cells [rowsAV (p.map Df.cells)])) i5 (.cells e.cells)) := ((Keeps.refl h).new d3).new d5
  by_cases hN : e.op = 1 ∨ e.op = 8 ∨ e.op = 9 ∨ e.op = 10 ∨ e.op = 11 ∨ e.op = 15 ∨ e.op = 16 ∨ e.op = 17
  · have hK' := hK
    simp only [ownS, if_pos hN] at hK'
    rcases hN with o | o | o | o | o | o | o | o
    all_goals
      simp -dsimp [o]
      exact Gives.sub hf.sub hK'
  by_cases hB : e.op = 2 ∨ e.op = 3 ∨ e.op = 12 ∨ e.op = 13 ∨ e.op = 14
  · have hK' := hK
    simp only [ownS, if_neg hN, if_pos hB] at hK'
    rcases hB with o | o | o | o | o
    all_goals
      simp -dsimp [o]
      exact Gives.sub hf.sub hK'
  by_cases hL : e.op = 4 ∨ e.op = 18
  · have hK' := hK
    simp only [ownS, if_neg hN, if_neg hB, if_pos hL] at hK'
    rcases hL with o | o
    all_goals
      simp -dsimp [o]
      exact Gives.sub hf.sub hK'
  simp only [ownS, if_neg hN, if_neg hB, if_neg hL] at hK
  simp only [not_or] at hN hB hL
  obtain ⟨o1, o8, o9, o10, o11, o15, o16, o17⟩ := hN
  obtain ⟨o2, o3, o12, o13, o14⟩ := hB
  obtain ⟨o4, o18⟩ := hL
  by_cases o5 : e.op = 5
  · simp only [o5, if_true] at hK
    simp -dsimp [o5]
    exact Gives.sub hf.sub hK
  rw [if_neg o5] at hK
  by_cases o6 : e.op = 6
  · rw [if_pos o6] at hK
    have hw0 : IntKind.i64.wrap ((env.length : Int) - 1) = (env.length : Int) - 1 := by rw [wrap_i64] <;> omega
    simp -dsimp [o6, pmRows, hw0]
    refine ALoop.start (fun n tm h' => n ≤ env.length ∧ tm 1 = pmRows env ∧ tm 5 = .ptr i5 0 ∧ tm 8 = .int .i64 ((n : Int) - 1) ∧ lastT e.name (env.take n) = lastT e.name env ∧ h' = hset (hset h i3 (.cells [rowsAV (p.map Df.cells)])) i5 (.cells e.cells)) env.length ⟨by simp, by simp [pmRows], by simp, by simp, by simp, rfl⟩ ?_
    rintro n tm h' ⟨hn, t1, t5, t8, hq, rfl⟩
    cases n with
    | zero =>
      simp [lastT] at hq
      rw [← hq] at hK
      simp -dsimp [t1, t5, t8]
      exact Gives.sub hf.sub hK
    | succ n =>
      have hlt : n < env.length := by omega
      rw [take_snoc env hlt, lastT_snoc] at hq
      generalize hx : env[n] = x at *
      have e1 : ((n + 1 : Nat) : Int) - 1 = n := by omega
      have hw1 : IntKind.i64.wrap ((n : Int) - 1) = (n : Int) - 1 := by rw [wrap_i64] <;> omega
      have hge : ¬ ((n : Int) < 0) := by omega
      rw [e1] at t8
      by_cases hnm : x.name = e.name
      · rw [if_pos hnm] at hq
        rw [← hq] at hK
        simp -dsimp [t1, t5, t8, pmRows, hlt, hx, hnm]
        exact Gives.sub hf.sub hK
      · rw [if_neg hnm] at hq
        simp -dsimp [t1, t5, t8, pmRows, hlt, hx, hnm, hw1]
        exact Again.same n (by omega) ⟨by omega, by simp [t1, pmRows], by simp [t5], by simp, hq, rfl⟩
  rw [if_neg o6] at hK
  by_cases o7 : e.op = 7
  · rw [if_pos o7] at hK
    simp -dsimp [o7, n35]
    refine head_ok (p := p) (by omega) ?_
    have hfl : ((headD e.name p).getD df0).cells.length = 11 := by simp
    cases hd : headD e.name p with
    | none =>
      rw [hd] at hK
      simp -dsimp
      intro i9 d9
      simp -dsimp
      exact Gives.sub (hf.new d9).sub hK
    | some f =>
      rw [hd] at hK
      simp -dsimp
      intro i9 d9
      have n59 : ¬ i5 = i9 := cells_ne (cs := e.cells) (by simp) d9
      have d9' := hf.dead d9
      simp -dsimp [n59]
      by_cases hc : f.params.length = e.args.length
      · simp only [ne_eq, hc, not_true_eq_false, if_false] at hK
        simp -dsimp [hc]
        exact Gives.sub (hf.new d9).sub hK
      · simp only [ne_eq, hc, not_false_eq_true, if_true] at hK
        have hc' : ¬ (f.params.length : Int) = e.args.length := by omega
        simp -dsimp [hc, hc']
        exact Gives.sub (hf.new d9).sub hK
  rw [if_neg o7] at hK
  simp -dsimp [o1, o2, o3, o4, o5, o6, o7, o8, o9, o10, o11, o12, o13, o14, o15, o16, o17, o18]
  exact Gives.sub hf.sub hK

theorem wanted_ok {p : List Df} {e : Ex} {i : Nat} {t : Int} (hp : p.length ≤ 1000000) (hK : K (.int .i64 (wantedS p e i t)) h) : ACalls Tryz.prog 68 [progAV p, .agg e.cells, .int .i64 i, .int .i64 t] h K := by
  refine calls_of mixed Tryz.func68 comp68 (Nat.le_of_ble_eq_true rfl) ?_
  simp -dsimp [c68, progAV]
  intro i4 d4
  simp -dsimp
  intro i5 d5
  have n45 := hset_ne d5
  have hf : Keeps h (hset (hset h i4 (.cells [rowsAV (p.map Df.cells)])) i5 (.cells e.cells)) := ((Keeps.refl h).new d4).new d5
  simp only [wantedS] at hK
  by_cases o14 : e.op = 14
  · rw [if_pos o14] at hK
    simp -dsimp [o14]
    exact Gives.sub hf.sub hK
  rw [if_neg o14] at hK
  by_cases o18 : e.op = 18
  · rw [if_pos o18] at hK
    by_cases hi : i = 1
    · simp only [hi, if_true] at hK
      simp -dsimp [o18, hi]
      exact Gives.sub hf.sub hK
    · have hi' : ¬ (i : Int) = 1 := by omega
      simp only [hi, if_false] at hK
      simp -dsimp [o18, hi, hi']
      exact Gives.sub hf.sub hK
  rw [if_neg o18] at hK
  by_cases o7 : e.op = 7
  · rw [if_pos o7] at hK
    simp -dsimp [o7, n45]
    refine head_ok (p := p) (by omega) ?_
    cases hd : headD e.name p with
    | none =>
      rw [hd] at hK
      simp -dsimp
      intro i9 d9
      simp -dsimp
      exact Gives.sub (hf.new d9).sub hK
    | some f =>
      rw [hd] at hK
      simp -dsimp
      intro i9 d9
      have d9' := hf.dead d9
      simp -dsimp
      by_cases hc : i < f.params.length
      · simp only [List.getElem?_eq_getElem hc] at hK
        simp -dsimp [hc]
        exact Gives.sub (hf.new d9).sub hK
      · simp only [List.getElem?_eq_none (Nat.le_of_not_lt hc)] at hK
        simp -dsimp [hc]
        exact Gives.sub (hf.new d9).sub hK
  rw [if_neg o7] at hK
  by_cases o19 : e.op = 19
  · rw [if_pos o19] at hK
    by_cases hi : i = 0
    · simp only [hi, if_true] at hK
      simp -dsimp [o19, hi]
      exact Gives.sub hf.sub hK
    · have hi' : ¬ (i : Int) = 0 := by omega
      simp only [hi, if_false] at hK
      simp -dsimp [o19, hi, hi']
      exact Gives.sub hf.sub hK
  rw [if_neg o19] at hK
  by_cases o20 : e.op = 20
  · rw [if_pos o20] at hK
    by_cases hi : i = 0
    · simp only [hi, if_true] at hK
      simp -dsimp [o20, hi]
      exact Gives.sub hf.sub hK
    · have hi' : ¬ (i : Int) = 0 := by omega
      simp only [hi, if_false] at hK
      simp -dsimp [o20, hi, hi']
      exact Gives.sub hf.sub hK
  rw [if_neg o20] at hK
  by_cases o21 : e.op = 21 ∨ e.op = 22
  · rw [if_pos o21] at hK
    rcases o21 with o | o
    all_goals
      by_cases hi : i = 0
      · simp only [hi, if_true] at hK
        simp -dsimp [o, hi]
        exact Gives.sub hf.sub hK
      · have hi' : ¬ (i : Int) = 0 := by omega
        simp only [hi, if_false] at hK
        simp -dsimp [o, hi, hi']
        exact Gives.sub hf.sub hK
  rw [if_neg o21] at hK
  simp only [not_or] at o21
  simp -dsimp [o7, o14, o18, o19, o20, o21]
  exact Gives.sub hf.sub hK
end Go.Proofs.YtcpkdbofohkipaaGreat

/- The document's answer for types: what is wrong, Check. -/
namespace Go.Proofs.YtcpkdbofohkipaaGreat
open Go.AM

theorem wrong_ok {p : List Df} (hp : p.length ≤ 1000000) : ∀ (n : Nat) (e : Ex) (env : List Pm) (t : Int) (h : Hp) (K : AV → Hp → Prop), e.size ≤ n → env.length + 2 * e.size ≤ 200000 → K (rowsAV (intRows (wrongS p env t e))) h → ACalls Tryz.prog 35 [progAV p, pmRows env, .agg e.cells, .int .i64 t] h K := by
  intro n
  induction n with
  | zero => intro e env t h K hn; have := e.size_pos; omega
  | succ n0 ih =>
    intro e env t h K hn hnm hK
    refine calls_of mixed Tryz.func35 comp35 (Nat.le_of_ble_eq_true rfl) ?_
    have hsa := e.size_args
    have hla := Ex.sizeL_len e.args
    have hwl := ownW_length p env e t
    have hwL := wrongL_length p e.args env e t 0
    simp -dsimp [c35, progAV]
    intro i4 d4
    simp -dsimp
    intro i6 d6
    have n46 := hset_ne d6
    have hf0 : Keeps h (hset (hset h i4 (.cells [rowsAV (p.map Df.cells)])) i6 (.cells e.cells)) := ((Keeps.refl h).new d4).new d6
    simp -dsimp [n46]
    refine own_ok (p := p) hp (by omega) ?_
    have hoW : ownW p env e t = if (ownS p env e).2 = true ∧ (ownS p env e).1 ≠ t then [e.pos] else [] := rfl
    generalize ownS p env e = o at *
    obtain ⟨o1, o2⟩ := o
    simp -dsimp
    have body : ∀ (tm : Tm) (h' : Hp), (tm 1 = pmRows env ∧ tm 3 = .int .i64 t ∧ tm 4 = .ptr i4 0 ∧ tm 6 = .ptr i6 0 ∧ h' i4 = .cells [rowsAV (p.map Df.cells)] ∧ h' i6 = .cells e.cells ∧ Keeps h h' ∧ Own h h' 3 1 (tm 9) (intRows (ownW p env e t))) →
        AW Tryz.prog (match c35.code with | .seq _ (.seq _ (.seq _ (.seq _ x))) => x | _ => .skip) (fun e tm h' => match e with | .exit _ => False | _ => Gives K (some (tm 8)) h') tm h' := by
      clear n46 hf0 d4 d6
      rintro tm h' ⟨t1, t3, t4, t6, hi4, hi6, hf, ho⟩
      simp -dsimp [c35]
      refine ALoop.start (fun n tm h' => ∃ i : Nat, i + n = e.args.length ∧ tm 1 = pmRows env ∧ tm 3 = .int .i64 t ∧ tm 4 = .ptr i4 0 ∧ tm 6 = .ptr i6 0 ∧ tm 12 = .int .i64 i ∧ h' i4 = .cells [rowsAV (p.map Df.cells)] ∧ h' i6 = .cells e.cells ∧ Keeps h h' ∧
        Own h h' 3 1 (tm 9) (intRows (ownW p env e t ++ wrongL p env e t 0 (e.args.take i)))) e.args.length ⟨0, by simp, by simp [t1], by simp [t3], by simp [t4], by simp [t6], by simp, hi4, hi6, hf, by simpa [wrongL] using ho⟩ ?_
      clear t1 t3 t4 t6 hi4 hi6 hf ho
      rintro n tm h' ⟨i, hi, t1, t3, t4, t6, t12, hi4, hi6, hf, ho⟩
      have hw1 : IntKind.i64.wrap ((i : Int) + 1) = ((i + 1 : Nat) : Int) := by rw [wrap_i64] <;> omega
      by_cases hlt : i < e.args.length
      · have hmem : e.args[i].size ≤ Ex.sizeL e.args := Ex.size_mem (List.getElem_mem hlt)
        have hsn := wrongL_snoc p env e t (e.args.take i) 0 e.args[i]
        rw [← take_snoc e.args hlt] at hsn
        have hmin : min i e.args.length = i := by omega
        simp only [List.length_take, hmin, Nat.zero_add] at hsn
        have hsl := wrongL_length p (e.args.take (i + 1)) env e t 0
        have htl : Ex.sizeL (e.args.take (i + 1)) ≤ Ex.sizeL e.args := by
          have := Ex.sizeL_append (e.args.take (i + 1)) (e.args.drop (i + 1))
          rw [List.take_append_drop] at this; omega
        have hwi := withinS_length env e i
        generalize hx : e.args[i] = x at *
        simp -dsimp [t1, t3, t4, t6, t12, hi4, hi6, hlt, hx]
        refine within_ok (by omega) ?_
        simp -dsimp [Stable, AIns.wants, QStep, t1, t3, t4, t6, t12, hi4, hi6, hlt, hx]
        refine wanted_ok (p := p) hp ?_
        simp -dsimp [Stable, AIns.wants, QStep, t1, t3, t4, t6, t12, hi4, hi6, hlt, hx]
        refine ih x _ _ _ _ (by omega) (by omega) ?_
        have hlen := congrArg List.length hsn
        simp only [List.length_append] at hlen
        simp -dsimp
        refine ho.pushE hf (by simp only [intRows_length, List.length_append]; omega) (by decide) fun v' h2 ho2 hf2 hk2 => ?_
        simp -dsimp [t12, hw1]
        refine Again.same (n - 1) (by omega) ⟨i + 1, by omega, by simp [t1], by simp [t3], by simp [t4], by simp [t6], by simp, hk2.cells hi4, hk2.cells hi6, hf2, ?_⟩
        rw [hsn]
        simpa [intRows_append] using ho2
      · have htk : e.args.take i = e.args := List.take_of_length_le (by omega)
        rw [htk] at ho
        simp -dsimp [t1, t6, t12, hi6, hlt]
        refine ho.out hf ?_
        rw [← wrongS_eq]
        exact hK
    simp only [c35] at body
    cases o2 with
    | false =>
      simp -dsimp
      have := body
      refine body _ _ ⟨by simp, by simp, by simp, by simp, by simp [n46], by simp, hf0, ?_⟩
      rw [hoW]
      exact .inl ⟨by simp [intRows], by simp⟩
    | true =>
      by_cases hc : o1 = t
      · simp -dsimp [hc]
        refine body _ _ ⟨by simp, by simp, by simp, by simp, by simp [n46], by simp, hf0, ?_⟩
        rw [hoW]
        exact .inl ⟨by simp [intRows, hc], by simp⟩
      · simp -dsimp [hc]
        intro i7 d7
        have e7 := d7
        simp at d7
        simp -dsimp
        intro i8 d8
        have e8 := d8
        simp [d7] at d8
        refine body _ _ ⟨by simp, by simp, by simp, by simp, by simp [n46, d7, d8], by simp [d7, d8], (hf0.new e7).new e8, ?_⟩
        rw [hoW]
        exact .inr ⟨i8, by simp [intRows, hc], by simp [d8], by simp [intRows, hc], by simp [intRows, hc]⟩

theorem tell_snoc (l : List Int) (x : Int) (f : Flt) : (l ++ [x]).foldl tell7 f = tell7 (l.foldl tell7 f) x := by simp only [List.foldl_append, List.foldl_cons, List.foldl_nil]
theorem check07_ok {p : List Df} {h : Hp} {K : AV → Hp → Prop} (hp : sizeP p ≤ 40000) (hK : K (.agg (fltRow (check07 p))) h) : ACalls Tryz.prog 16 [progAV p] h K := by
  refine calls_of mixed Tryz.func16 comp16 (Nat.le_of_ble_eq_true rfl) ?_
  have hlen := sizeP_len p
  have hq : check07 p = if (check06 p).1 ≠ 0 then check06 p else (wrongP p p).foldl tell7 (check06 p) := rfl
  simp -dsimp [c16, progAV]
  intro i1 d1
  simp -dsimp
  intro i2 d2
  simp at d2
  obtain ⟨n21, n12, d2⟩ := d2
  simp -dsimp [n12]
  refine check06_ok (p := p) hp ?_
  generalize check06 p = c0 at *
  simp -dsimp
  intro i3 d3
  simp at d3
  obtain ⟨n32, n23, n31, n13, d3⟩ := d3
  have k3 : ∀ o1 o2 o3, Keeps h (hset (hset (hset h i1 o1) i2 o2) i3 o3) := fun o1 o2 o3 => (((Keeps.refl h).set d1).set d2).set d3
  simp -dsimp [fltRow]
  by_cases hc : c0.1 = 0
  · simp only [ne_eq, hc, not_true_eq_false, if_false] at hq
    rw [hq] at hK
    simp -dsimp [hc, fltRow, n23, n32]
    refine ALoop.start (fun n tm h' => ∃ i : Nat, i + n = p.length ∧ tm 1 = .ptr i1 0 ∧ tm 2 = .ptr i2 0 ∧ tm 3 = .ptr i3 0 ∧ tm 4 = .int .i64 i ∧ h' i1 = .cells [rowsAV (p.map Df.cells)] ∧ h' i2 = .cells [.int .i64 0, .int .i64 0] ∧ h' i3 = .cells (fltRow ((wrongP p (p.take i)).foldl tell7 c0)) ∧ Keeps h h') p.length
      ⟨0, by simp, by simp, by simp, by simp, by simp, by simp [n12, n13], by simp [n23], by simp [wrongP, fltRow, hc], k3 _ _ _⟩ ?_
    clear k3
    rintro n tm h' ⟨i, hi, t1, t2, t3, t4, hi1, hi2, hi3, hf⟩
    have hw1 : IntKind.i64.wrap ((i : Int) + 1) = ((i + 1 : Nat) : Int) := by rw [wrap_i64] <;> omega
    by_cases hlt : i < p.length
    · have hsf : p[i].size ≤ sizeP p := sizeP_mem (List.getElem_mem hlt)
      have hsz : p[i].size = 1 + p[i].params.length + p[i].body.size := rfl
      have hsn := wrongP_snoc p (p.take i) p[i]
      rw [← take_snoc p hlt] at hsn
      have hwl := wrongS_length p p[i].body p[i].params p[i].ty
      generalize hx : p[i] = f at *
      simp -dsimp [t1, t2, t3, t4, hi1, hlt, hx]
      refine wrong_ok (p := p) (by omega) _ f.body f.params f.ty _ _ (Nat.le_refl _) (by omega) ?_
      generalize hL : wrongS p f.params f.ty f.body = L at *
      generalize hz : (wrongP p (p.take i)).foldl tell7 c0 = z at *
      simp -dsimp
      refine ALoop.start (fun n tm h' => ∃ k : Nat, k + n = L.length ∧ tm 1 = .ptr i1 0 ∧ tm 2 = .ptr i2 0 ∧ tm 3 = .ptr i3 0 ∧ tm 4 = .int .i64 i ∧ tm 5 = rowsAV (intRows L) ∧ tm 6 = .int .i64 k ∧ h' i1 = .cells [rowsAV (p.map Df.cells)] ∧ h' i2 = .cells [.int .i64 0, .int .i64 0] ∧ h' i3 = .cells (fltRow ((L.take k).foldl tell7 z)) ∧ Keeps h h') L.length
        ⟨0, by simp, by simp [t1], by simp [t2], by simp [t3], by simp [t4], by simp, by simp, hi1, hi2, by simpa using hi3, hf⟩ ?_
      clear t1 t2 t3 t4 hi1 hi2 hi3 hf
      rintro n' tm h' ⟨k, hk, t1, t2, t3, t4, t5, t6, hi1, hi2, hi3, hf⟩
      have hw2 : IntKind.i64.wrap ((k : Int) + 1) = ((k + 1 : Nat) : Int) := by rw [wrap_i64] <;> omega
      by_cases hkl : k < L.length
      · have hts := tell_snoc (L.take k) L[k] z
        rw [← take_snoc L hkl] at hts
        generalize hy : L[k] = y at *
        generalize hu : (L.take k).foldl tell7 z = u at *
        have again : ∀ (tm : Tm) (h' : Hp), tm 1 = .ptr i1 0 → tm 2 = .ptr i2 0 → tm 3 = .ptr i3 0 → tm 4 = .int .i64 i → tm 5 = rowsAV (intRows L) → tm 6 = .int .i64 ((k + 1 : Nat) : Int) → h' i1 = .cells [rowsAV (p.map Df.cells)] → h' i2 = .cells [.int .i64 0, .int .i64 0] → h' i3 = .cells (fltRow (tell7 u y)) → Keeps h h' →
          ∃ k : Nat, k + (n' - 1) = L.length ∧ tm 1 = .ptr i1 0 ∧ tm 2 = .ptr i2 0 ∧ tm 3 = .ptr i3 0 ∧ tm 4 = .int .i64 i ∧ tm 5 = rowsAV (intRows L) ∧ tm 6 = .int .i64 k ∧ h' i1 = .cells [rowsAV (p.map Df.cells)] ∧ h' i2 = .cells [.int .i64 0, .int .i64 0] ∧ h' i3 = .cells (fltRow ((L.take k).foldl tell7 z)) ∧ Keeps h h' :=
          fun tm h' a1 a2 a3 a4 a5 a6 a7 a8 a9 a10 => ⟨k + 1, by omega, a1, a2, a3, a4, a5, a6, a7, a8, by rw [hts]; exact a9, a10⟩
        by_cases hu0 : u.1 = 0
        · simp -dsimp [t1, t3, t5, t6, hi1, hi3, fltRow, hu0, hkl, hy, intRows, hw2]
          exact Again.same (n' - 1) (by omega) (again _ _ (by simp [t1]) (by simp [t2]) (by simp [t3]) (by simp [t4]) (by simp [t5, intRows]) (by simp) (by simp [n13, hi1]) (by simp [n23, hi2]) (by simp [tell7, hu0, fltRow]) (hf.set d3))
        · by_cases hlt2 : y < u.2
          · simp -dsimp [t1, t3, t5, t6, hi1, hi3, fltRow, hu0, hlt2, hkl, hy, intRows, hw2]
            exact Again.same (n' - 1) (by omega) (again _ _ (by simp [t1]) (by simp [t2]) (by simp [t3]) (by simp [t4]) (by simp [t5, intRows]) (by simp) (by simp [n13, hi1]) (by simp [n23, hi2]) (by simp [tell7, hlt2, fltRow]) (hf.set d3))
          · simp -dsimp [t1, t3, t5, t6, hi1, hi3, fltRow, hu0, hlt2, hkl, hy, intRows, hw2]
            exact Again.same (n' - 1) (by omega) (again _ _ (by simp [t1]) (by simp [t2]) (by simp [t3]) (by simp [t4]) (by simp [t5, intRows]) (by simp) hi1 hi2 (by simp [tell7, hu0, hlt2, hi3]) hf)
      · have htk : L.take k = L := List.take_of_length_le (by omega)
        rw [htk] at hi3
        simp -dsimp [t4, t5, t6, hkl, hw1]
        refine Again.same (n - 1) (by omega) ⟨i + 1, by omega, by simp [t1], by simp [t2], by simp [t3], by simp, hi1, hi2, ?_, hf⟩
        rw [hsn, List.foldl_append, hz]
        exact hi3
    · have htk : p.take i = p := List.take_of_length_le (by omega)
      rw [htk] at hi3
      simp -dsimp [t1, t2, t3, t4, hi1, hi2, hi3, fltRow, hlt]
      exact Gives.sub (hf.set d2).sub hK
  · simp only [ne_eq, hc, not_false_eq_true, if_true] at hq
    rw [hq] at hK
    simp -dsimp [hc, fltRow, n23, n32]
    exact Gives.sub (((((Keeps.refl h).set d1).set d2).set d3).set d2).sub hK
end Go.Proofs.YtcpkdbofohkipaaGreat

/- The program's names: what an expression binds, what is told, a visit. -/
namespace Go.Proofs.YtcpkdbofohkipaaGreat
open Go.AM

theorem sbound_ok {h : Hp} {K : AV → Hp → Prop} {e : Ex} {i : Nat} (hK : K (rowsAV (strRows (boundS e i))) h) : ACalls Tryz.prog 118 [.agg e.cells, .int .i64 i] h K := by
  refine calls_of mixed Tryz.func118 comp118 (Nat.le_of_ble_eq_true rfl) ?_
  simp -dsimp [c118]
  intro i2 d2
  have hf : Keeps h (hset h i2 (.cells e.cells)) := (Keeps.refl h).new d2
  simp only [boundS] at hK
  by_cases h21 : e.op = 21
  · simp -dsimp [h21]
    intro i3 d3
    simp at d3
    simp -dsimp
    refine Gives.frz (h' := h) ((hf.set d3.2.2).sub) (Frz.rows (e := 9) (sz := 1) (xs := [[.str e.name]]) (by simp) d3.2.2) ?_
    simpa [h21, strRows, rowsAV] using hK
  by_cases h22 : e.op = 22 ∧ i = 1
  · obtain ⟨a1, a2⟩ := h22
    simp -dsimp [a1, a2]
    intro i3 d3
    simp at d3
    simp -dsimp
    refine Gives.frz (h' := h) ((hf.set d3.2.2).sub) (Frz.rows (e := 9) (sz := 1) (xs := [[.str e.name]]) (by simp) d3.2.2) ?_
    simpa [a1, a2, strRows, rowsAV] using hK
  have hnn : ¬ (e.op = 21 ∨ e.op = 22 ∧ (i : Int) = 1) := fun x => x.elim h21 (fun y => h22 ⟨y.1, by omega⟩)
  simp only [hnn, if_false] at hK
  by_cases o20 : e.op = 20 ∧ i = 2
  · obtain ⟨a1, a2⟩ := o20
    simp -dsimp [a1, a2]
    intro i3 d3
    simp at d3
    simp -dsimp
    refine Gives.frz (h' := h) ((hf.set d3.2.2).sub) (Frz.rows (e := 9) (sz := 1) (xs := [[.str e.name], [.str e.tail]]) (by simp) d3.2.2) ?_
    simpa [a1, a2, strRows, rowsAV] using hK
  have o20' : ¬ (e.op = 20 ∧ (i : Int) = 2) := fun y => o20 ⟨y.1, by omega⟩
  simp only [o20', if_false] at hK
  by_cases o22 : e.op = 22
  · have i1 : ¬ i = 1 := fun x => h22 ⟨o22, x⟩
    have i1' : ¬ (i : Int) = 1 := by omega
    simp -dsimp [o22, i1, i1']
    exact Gives.sub hf.sub hK
  by_cases q20 : e.op = 20
  · have i2' : ¬ i = 2 := fun x => o20 ⟨q20, x⟩
    have i2'' : ¬ (i : Int) = 2 := by omega
    simp -dsimp [q20, i2', i2'']
    exact Gives.sub hf.sub hK
  · simp -dsimp [h21, o22, q20]
    exact Gives.sub hf.sub hK

theorem tell_ok {h : Hp} {K : AV → Hp → Prop} {w at_ : Int} {fid : Nat} {f : Flt} (hf : h fid = .cells (fltRow f)) (hK : K .undef (hset h fid (.cells (fltRow (tell1 f (w, at_)))))) : ACalls Tryz.prog 81 [.int .i64 w, .int .i64 at_, .ptr fid 0] h K := by
  refine calls_of mixed Tryz.func81 comp81 (Nat.le_of_ble_eq_true rfl) ?_
  simp only [tell1] at hK
  by_cases h0 : f.1 = 0
  · simp -dsimp [c81, hf, fltRow, h0]
    exact Gives.same (by simpa [h0, fltRow] using hK)
  · by_cases h1 : at_ < f.2
    · simp -dsimp [c81, hf, fltRow, h0, h1]
      exact Gives.same (by simpa [h1, fltRow] using hK)
    · have hc : ¬ (f.1 = 0 ∨ at_ < f.2) := by simp [h0, h1]
      rw [if_neg hc, hset_self hf] at hK
      simp -dsimp [c81, hf, fltRow, h0, h1]
      exact Gives.same hK

/-- What a walk through a body stands on. -/
structure Sc (h : Hp) (p : List Df) (places : Mp) (pc pid tc i1 inid fid : Nat) (m : Mp) (f : Flt) : Prop where
  cpc : h pc = .cells [.mp pid]
  cpid : h pid = .map (mapAV places)
  ctc : h tc = .cells [.fn 81 [.ptr fid 0]]
  ci1 : h i1 = .cells [rowsAV (p.map Df.cells)]
  cinn : h inid = .map (mapAV m)
  cfid : h fid = .cells (fltRow f)
  n1 : ¬ pid = inid
  n2 : ¬ pc = fid
  n3 : ¬ tc = fid
  n4 : ¬ i1 = fid
theorem Sc.keep {h h' : Hp} {p : List Df} {places : Mp} {pc pid tc i1 inid fid : Nat} {m m' : Mp} {f f' : Flt} (s : Sc h p places pc pid tc i1 inid fid m f) (k : KeepsX [inid, fid] h h') (hi : h' inid = .map (mapAV m')) (hf : h' fid = .cells (fltRow f')) :
    Sc h' p places pc pid tc i1 inid fid m' f' := by
  have nc : ∀ {j : Nat} {cs : List AV}, h j = .cells cs → ¬ j = fid → h' j = .cells cs := fun {j cs} hj hn => k.at hj (by simp) (by
    have : ¬ j = inid := by rintro rfl; rw [s.cinn] at hj; cases hj
    simp [this, hn])
  refine ⟨nc s.cpc s.n2, k.at s.cpid (by simp) ?_, nc s.ctc s.n3, nc s.ci1 s.n4, hi, hf, s.n1, s.n2, s.n3, s.n4⟩
  have hpf : ¬ pid = fid := by rintro rfl; have := s.cfid; rw [s.cpid] at this; cases this
  have hpi := s.n1
  simp [hpf, hpi]

theorem visit_ok {p : List Df} {places : Mp} {pc pid tc i1 inid fid : Nat} {m : Mp} {f : Flt} {h : Hp} {K : AV → Hp → Prop} {e : Ex} {names : List Bytes} (hp : p.length ≤ 1000000) (s : Sc h p places pc pid tc i1 inid fid m f) (hpl : PlOK places p) (hn : NmOK m names)
    (hK : K .undef (hset h fid (.cells (fltRow (least f (usesF p (Ex.use names e))))))) : ACalls Tryz.prog 83 [.agg e.cells, .mp inid, .ptr pc 0, .ptr tc 0, .ptr i1 0] h K := by
  refine calls_of mixed Tryz.func83 comp83 (Nat.le_of_ble_eq_true rfl) ?_
  simp -dsimp [c83]
  intro i5 d5
  have hf0 : Keeps h (hset h i5 (.cells e.cells)) := (Keeps.refl h).new d5
  have n1 := cells_ne s.cpc d5
  have n2 := map_ne s.cpid d5
  have n3 := cells_ne s.ctc d5
  have n4 := cells_ne s.ci1 d5
  have n5 := map_ne s.cinn d5
  have n6 := cells_ne s.cfid d5
  have n6' : ¬ i5 = fid := fun x => n6 x.symm
  have hpa := hpl e.name
  have hz := hn.zero e.name
  have hcell : hset h i5 (.cells e.cells) fid = .cells (fltRow f) := by simp [n6, s.cfid]
  have hcomm : ∀ o, hset (hset h i5 (.cells e.cells)) fid o = hset (hset h fid o) i5 (.cells e.cells) := fun o => hset_comm n6'
  have dead' : ∀ o, hset h fid o i5 = .dead := fun o => by simp [n6', d5]
  have fin : ∀ l, usesF p (Ex.use names e) = l → ∀ o, o = .cells (fltRow (least f l)) → Gives K (some .undef) (hset (hset h i5 (.cells e.cells)) fid o) := by
    rintro l rfl o rfl
    rw [hcomm]
    exact Gives.sub (Sub.drop (dead' _)) hK
  have same : usesF p (Ex.use names e) = [] → Gives K (some .undef) (hset h i5 (.cells e.cells)) := by
    intro hl
    rw [hl, least_nil, hset_self s.cfid] at hK
    exact Gives.sub hf0.sub hK
  have hge := headsS_ge e.name p 0
  by_cases o6 : e.op = 6
  · have hu : usesF p (Ex.use names e) = if e.name ∉ names then [(31, e.pos)] else [] := by
      by_cases hm : e.name ∈ names <;> simp [Ex.use, o6, usesF, useF, hm]
    by_cases hm : e.name ∈ names
    · have hg : ¬ getM m e.name = 0 := fun x => (hz.1 x) hm
      simp -dsimp [o6, s.cpc, s.cpid, s.cinn, n1, n2, n5, hg]
      exact same (by rw [hu]; simp [hm])
    · have hg : getM m e.name = 0 := hz.2 hm
      simp -dsimp [o6, s.cpc, s.cpid, s.cinn, s.ctc, n1, n2, n3, n5, hg]
      refine tell_ok (f := f) hcell ?_
      simp -dsimp
      exact fin [(31, e.pos)] (by rw [hu]; simp [hm]) _ rfl
  · by_cases o7 : e.op = 7
    · have hu : usesF p (Ex.use names e) = if headsS e.name p 0 < 0 then [(32, e.pos)] else if (p.getD (headsS e.name p 0).toNat ⟨[], [], 0, ex0, 0⟩).params.length ≠ e.args.length then [(33, e.pos)] else [] := by
        simp [Ex.use, o7, usesF, useF]
      by_cases hneg : headsS e.name p 0 < 0
      · have hg : getM places e.name = 0 := by omega
        simp -dsimp [o7, s.cpc, s.cpid, s.cinn, s.ctc, n1, n2, n3, n5, hg]
        refine tell_ok (f := f) hcell ?_
        simp -dsimp
        exact fin [(32, e.pos)] (by rw [hu, if_pos hneg]) _ rfl
      · obtain ⟨k, hk, ek, _⟩ := headsS_at hneg
        have hm0 : ¬ ((k : Int) < 0) := by omega
        rw [ek] at hpa
        have hg0 : ¬ ((k : Int) + 1 = 0) := by omega
        have hw : IntKind.i64.wrap (k : Int) = (k : Int) := by rw [wrap_i64] <;> omega
        have hgm : p[k]? = some p[k] := List.getElem?_eq_getElem hk
        simp only [ek, if_neg hm0, Int.toNat_natCast, List.getD, hgm, Option.getD_some] at hu
        generalize hx : p[k] = x at *
        by_cases hne : x.params.length = e.args.length
        · simp -dsimp [o7, s.cpc, s.cpid, s.cinn, s.ctc, s.ci1, n1, n2, n3, n4, n5, hpa, hg0, hw, hk, hx, hne]
          exact same (by rw [hu]; simp [hne])
        · have hne' : ¬ (x.params.length : Int) = e.args.length := by omega
          simp -dsimp [o7, s.cpc, s.cpid, s.cinn, s.ctc, s.ci1, n1, n2, n3, n4, n5, hpa, hg0, hw, hk, hx, hne, hne']
          refine tell_ok (f := f) hcell ?_
          simp -dsimp
          exact fin [(33, e.pos)] (by rw [hu]; simp [hne]) _ rfl
    · simp -dsimp [o6, o7, s.cpc, s.cpid, s.cinn, s.ctc, s.ci1, n1, n2, n3, n4, n5]
      exact same (by simp [Ex.use, o6, o7, usesF])
end Go.Proofs.YtcpkdbofohkipaaGreat

/- The program's names: a walk through an expression. -/
namespace Go.Proofs.YtcpkdbofohkipaaGreat
open Go.AM

theorem walk_ok {p : List Df} {places : Mp} {pc pid tc i1 inid fid : Nat} (hp : p.length ≤ 1000000) (hpl : PlOK places p) : ∀ (n : Nat) (e : Ex) (names : List Bytes) (m : Mp) (f : Flt) (h : Hp) (K : AV → Hp → Prop), e.size ≤ n → names.length + 2 * e.size ≤ 200000 →
    Sc h p places pc pid tc i1 inid fid m f → NmOK m names → (∀ m', NmOK m' names → K .undef (hset (hset h inid (.map (mapAV m'))) fid (.cells (fltRow (least f (usesF p (seenS names e))))))) →
    ACalls Tryz.prog 82 [.agg e.cells, .mp inid, .fn 83 [.ptr pc 0, .ptr tc 0, .ptr i1 0]] h K := by
  intro n
  induction n with
  | zero => intro e names m f h K hn; have := e.size_pos; omega
  | succ n0 ih =>
    intro e names m f h K hn hnm s hm hK
    refine calls_of mixed Tryz.func82 comp82 (Nat.le_of_ble_eq_true rfl) ?_
    have hsa := e.size_args
    have hla := Ex.sizeL_len e.args
    have nif : ¬ inid = fid := by rintro rfl; have := s.cfid; rw [s.cinn] at this; cases this
    simp -dsimp [c82]
    intro i3 d3
    have n3i := map_ne s.cinn d3
    have n3f := cells_ne s.cfid d3
    have n3f' : ¬ i3 = fid := fun x => n3f x.symm
    have n3i' : ¬ i3 = inid := fun x => n3i x.symm
    have k3 : KeepsX [inid, fid] h (hset h i3 (.cells e.cells)) := KeepsX.refl.new d3
    simp -dsimp
    refine visit_ok hp (s.keep (m' := m) (f' := f) k3 (by simp [n3i, s.cinn]) (by simp [n3f, s.cfid])) hpl hm ?_
    have hsE := seenS_eq names e
    generalize hf1 : least f (usesF p (Ex.use names e)) = f1 at *
    simp -dsimp [n3f']
    refine ALoop.start (fun n tm h' => ∃ (i : Nat) (m' : Mp), i + n = e.args.length ∧ tm 1 = .mp inid ∧ tm 2 = .fn 83 [.ptr pc 0, .ptr tc 0, .ptr i1 0] ∧ tm 3 = .ptr i3 0 ∧ tm 18 = rowsAV (e.args.map Ex.cells) ∧ tm 19 = .int .i64 e.args.length ∧ tm 20 = .int .i64 i ∧
      h' i3 = .cells e.cells ∧ h' inid = .map (mapAV m') ∧ h' fid = .cells (fltRow (least f1 (usesF p (seenL names e 0 (e.args.take i))))) ∧ NmOK m' names ∧ KeepsX [inid, fid] h h') e.args.length
      ⟨0, m, by simp, by simp, by simp, by simp, by simp, by simp, by simp, by simp [n3f'], by simp [n3i, nif, s.cinn], by simp [seenL, usesF, least], hm, (KeepsX.refl.set d3).mem (by simp)⟩ ?_
    rintro n tm h' ⟨i, m', hi, t1, t2, t3, t18, t19, t20, hi3, hin, hfi, hm', hk⟩
    have hw1 : IntKind.i64.wrap ((i : Int) + 1) = ((i + 1 : Nat) : Int) := by rw [wrap_i64] <;> omega
    by_cases hlt : i < e.args.length
    · have hmem : e.args[i].size ≤ Ex.sizeL e.args := Ex.size_mem (List.getElem_mem hlt)
      have hsn := seenL_snoc names e (e.args.take i) 0 e.args[i]
      rw [← take_snoc e.args hlt] at hsn
      have hmin : min i e.args.length = i := by omega
      simp only [List.length_take, hmin, Nat.zero_add] at hsn
      have hbl := boundS_length e (i : Int)
      generalize hx : e.args[i] = x at *
      simp -dsimp [t1, t2, t3, t18, t19, t20, hlt, hx]
      intro i7 d7
      have n37 := cells_ne hi3 d7
      have n7i := map_ne hin d7
      have n7f := cells_ne hfi d7
      have n7i' : ¬ i7 = inid := fun x => n7i x.symm
      have n7f' : ¬ i7 = fid := fun x => n7f x.symm
      have hk7 : ∀ o, KeepsX [inid, fid] h (hset h' i7 o) := fun o => hk.new d7
      have d7' : h i7 = .dead := hk.dead d7 (by simp [n7i', n7f'])
      simp -dsimp [t3, hi3, n37]
      refine sbound_ok ?_
      generalize hns : boundS e (i : Int) = ns at *
      generalize hg : least f1 (usesF p (seenL names e 0 (e.args.take i))) = g at *
      simp -dsimp
      refine ALoop.start (fun n tm h' => ∃ (k : Nat) (m' : Mp), k + n = ns.length ∧ tm 1 = .mp inid ∧ tm 2 = .fn 83 [.ptr pc 0, .ptr tc 0, .ptr i1 0] ∧ tm 3 = .ptr i3 0 ∧ tm 18 = rowsAV (e.args.map Ex.cells) ∧ tm 19 = .int .i64 e.args.length ∧ tm 20 = .int .i64 i ∧
        tm 7 = .ptr i7 0 ∧ tm 8 = rowsAV (strRows ns) ∧ tm 28 = rowsAV (strRows ns) ∧ tm 29 = .int .i64 ns.length ∧ tm 30 = .int .i64 k ∧ h' i3 = .cells e.cells ∧ h' i7 = .cells x.cells ∧ h' inid = .map (mapAV m') ∧ h' fid = .cells (fltRow g) ∧ NmOK m' (names ++ ns.take k) ∧ KeepsX [inid, fid] h h') ns.length
        ⟨0, m', by simp, by simp [t1], by simp [t2], by simp [t3], by simp [t18], by simp [t19], by simp [t20], by simp, by simp, by simp, by simp, by simp, by simp [n37, hi3], by simp, by simp [n7i, hin], by simp [n7f, hfi], by simpa using hm', hk7 _⟩ ?_
      clear t1 t2 t3 t18 t19 t20 hi3 hin hfi hm' hk hk7 d7
      rintro n' tm h' ⟨k, m1, hkn, t1, t2, t3, t18, t19, t20, t7, t8, t28, t29, t30, hi3, hi7, hin, hfi, hm', hk⟩
      have hw2 : IntKind.i64.wrap ((k : Int) + 1) = ((k + 1 : Nat) : Int) := by rw [wrap_i64] <;> omega
      by_cases hkl : k < ns.length
      · have htk := take_snoc ns hkl
        have hnl := hm'.le ns[k]
        have hwm : IntKind.i64.wrap (getM m1 ns[k] + 1) = getM m1 ns[k] + 1 := by
          have : (names ++ ns.take k).length ≤ 300000 := by simp only [List.length_append, List.length_take]; omega
          rw [wrap_i64] <;> omega
        have hm2 := hm'.inc ns[k]
        rw [List.append_assoc, ← htk] at hm2
        generalize hy : ns[k] = y at *
        simp -dsimp [t1, t28, t29, t30, hkl, strRows, hy, hin, hwm, hw2]
        exact Again.same (n' - 1) (by omega) ⟨k + 1, putM y (getM m1 y + 1) m1, by omega, by simp [t1], by simp [t2], by simp [t3], by simp [t18], by simp [t19], by simp [t20], by simp [t7], by simp [t8, strRows], by simp [t28, strRows], by simp [t29], by simp,
          by simp [n3i', hi3], by simp [n7i', hi7], by simp, by simp [show ¬ fid = inid from fun x => nif x.symm, hfi], hm2, hk.mem (by simp)⟩
      · have htk : ns.take k = ns := List.take_of_length_le (by omega)
        rw [htk] at hm'
        simp -dsimp [t1, t2, t7, t28, t29, t30, hkl, hi7]
        refine ih x (names ++ ns) m1 g _ _ (by omega) (by simp only [List.length_append]; omega) (s.keep hk hin hfi) hm' ?_
        intro m2 hm2
        simp -dsimp [t8]
        have hgg : least g (usesF p (seenS (names ++ ns) x)) = least f1 (usesF p (seenL names e 0 (e.args.take (i + 1)))) := by
          rw [hsn, ← hg]
          simp only [usesF, List.flatMap_append, least_append]
        generalize least g (usesF p (seenS (names ++ ns) x)) = g2 at *
        refine ALoop.start (fun n tm h' => ∃ (k : Nat) (m' : Mp), k + n = ns.length ∧ tm 1 = .mp inid ∧ tm 2 = .fn 83 [.ptr pc 0, .ptr tc 0, .ptr i1 0] ∧ tm 3 = .ptr i3 0 ∧ tm 18 = rowsAV (e.args.map Ex.cells) ∧ tm 19 = .int .i64 e.args.length ∧ tm 20 = .int .i64 i ∧
          tm 43 = rowsAV (strRows ns) ∧ tm 44 = .int .i64 ns.length ∧ tm 45 = .int .i64 k ∧ h' i3 = .cells e.cells ∧ h' inid = .map (mapAV m') ∧ h' fid = .cells (fltRow g2) ∧ NmOK m' (names ++ ns.drop k) ∧ KeepsX [inid, fid] h h') ns.length
          ⟨0, m2, by simp, by simp [t1], by simp [t2], by simp [t3], by simp [t18], by simp [t19], by simp [t20], by simp, by simp, by simp, by simp [n3f', n3i', hi3], by simp [nif], by simp, by simpa using hm2, (hk.mem (by simp)).mem (by simp)⟩ ?_
        clear t1 t2 t3 t18 t19 t20 t7 t8 t28 t29 t30 hi3 hi7 hin hfi hm' hk
        rintro n'' tm h' ⟨k, m3, hkn, t1, t2, t3, t18, t19, t20, t43, t44, t45, hi3, hin, hfi, hm3, hk⟩
        have hw3 : IntKind.i64.wrap ((k : Int) + 1) = ((k + 1 : Nat) : Int) := by rw [wrap_i64] <;> omega
        by_cases hkl : k < ns.length
        · have htk := List.drop_eq_getElem_cons hkl
          rw [htk] at hm3
          have hnl := hm3.le ns[k]
          have hwm : IntKind.i64.wrap (getM m3 ns[k] - 1) = getM m3 ns[k] - 1 := by
            have : (names ++ ns[k] :: ns.drop (k + 1)).length ≤ 300000 := by simp only [List.length_append, List.length_cons, List.length_drop]; omega
            rw [wrap_i64] <;> omega
          have hm4 := hm3.dec
          generalize hy : ns[k] = y at *
          simp -dsimp [t1, t43, t44, t45, hkl, strRows, hy, hin, hwm, hw3]
          exact Again.same (n'' - 1) (by omega) ⟨k + 1, putM y (getM m3 y - 1) m3, by omega, by simp [t1], by simp [t2], by simp [t3], by simp [t18], by simp [t19], by simp [t20], by simp [t43, strRows], by simp [t44], by simp,
            by simp [n3i', hi3], by simp, by simp [show ¬ fid = inid from fun x => nif x.symm, hfi], hm4, hk.mem (by simp)⟩
        · have htk : ns.drop k = [] := List.drop_eq_nil_of_le (by omega)
          rw [htk, List.append_nil] at hm3
          simp -dsimp [t44, t45, hkl, t20, hw1]
          exact Again.same (n - 1) (by omega) ⟨i + 1, m3, by omega, by simp [t1], by simp [t2], by simp [t3], by simp [t18], by simp [t19], by simp, hi3, hin, by rw [← hgg]; exact hfi, hm3, hk⟩
    · have htk : e.args.take i = e.args := List.take_of_length_le (by omega)
      rw [htk] at hfi
      simp -dsimp [t19, t20, hlt]
      refine Gives.sub (hk.sub2 nif hin hfi) ?_
      have := hK m' hm'
      rw [hsE] at this
      simpa only [usesF, List.flatMap_append, least_append, ← hf1] using this
end Go.Proofs.YtcpkdbofohkipaaGreat
