/- What stands around a body: the law. -/
import Derived.Test.YtghidedifiolbaaGreatK13
import Derived.Test.YtghidedifiolbaaGreatK30
set_option linter.unusedVariables false
set_option linter.unusedSimpArgs false
namespace Go.Proofs.YtghidedifiolbaaGreat
open Go.AM

theorem lastT_pos (n : Bytes) : ∀ (l : List Pm), lastT n (l.map fun x => ⟨x.name, x.ty, 0⟩) = lastT n l
  | [] => rfl
  | x :: l => by simp only [List.map_cons, lastT, lastT_pos n l]
theorem envB_snoc (bs : List Bd) (b : Bd) : envB (bs ++ [b]) = envB bs ++ [⟨b.name, b.ty, 0⟩] := by simp [envB]
theorem goodB_snoc (bs : List Bd) (b : Bd) (h : goodB bs = true) (hb : 0 ≤ b.pt ∧ b.pt ≤ topS b.ty) : goodB (bs ++ [b]) = true := by
  simp only [goodB, List.all_append, List.all_cons, List.all_nil, Bool.and_true, Bool.and_eq_true, decide_eq_true_eq] at h ⊢
  exact ⟨h, chkP_zero.2 hb⟩
theorem mod_in (i : Int) {n : Nat} (hn : 0 < n) : ∃ j : Nat, j < n ∧ (i.tmod n + n).tmod n = (j : Int) ∧ -(n : Int) < i.tmod n ∧ i.tmod n < n := by
  have h1 : i.tmod n < n := Int.tmod_lt_of_pos i (by omega)
  have h2 : -(n : Int) < i.tmod n := Int.lt_tmod_of_pos i (by omega)
  have h3 : (i.tmod n + n).tmod n = (i.tmod n + n) % n := Int.tmod_eq_emod_of_nonneg (by omega)
  have h4 : (i.tmod n + n) % n < n := Int.emod_lt_of_pos _ (by omega)
  have h5 : 0 ≤ (i.tmod n + n) % (n : Int) := Int.emod_nonneg _ (by omega)
  refine ⟨((i.tmod n + n) % (n : Int)).toNat, by omega, by rw [h3]; omega, h2, h1⟩
theorem at_ne {h : Hp} {i j : Nat} {o : AObj} (hi : h i = o) (ho : o ≠ .dead) (hj : h j = .dead) : ¬ i = j := by rintro rfl; exact ho (hi.symm.trans hj)
set_option maxRecDepth 20000 in
theorem turns_ok {b s : Bytes} {tx sv pv : AV} {i : Int} {qs : List Int} {es ep : Nat} {h : Hp} {K : AV → Hp → Prop} (ht : tx = .fz (bytesAV b) ∨ (b = [] ∧ tx = .nl)) (hsl : s.length ≤ 9223372036854775807) (hsv : LsV es 1 h sv (bytesAV s)) (hpl : qs.length ≤ 9223372036854775807) (hpv : LsV ep 1 h pv (intRows qs)) (hK : K (.bool true) h) :
    ACalls Tryz.prog 4 [tx, sv, .int .i64 i, pv] h K := by
  refine calls_of mixed Tryz.func4 comp4 (Nat.le_of_ble_eq_true rfl) ?_
  simp -dsimp [c4]
  refine awake17_ok ?_
  simp -dsimp
  refine read17_ok ht ?_
  by_cases hb : read17 b = true
  · obtain ⟨hf, hp40, hb8, hsm⟩ := rd17 hb
    rw [hb]
    generalize (readS b).1 = p at *
    obtain ⟨ty1, ty2, ty3⟩ := fine_types hf
    have hlp := sizeP_len p
    have hsz := hf.size
    simp -dsimp [progAV]
    intro i9 d9
    have k9 := (Keeps.refl h).new (o := .cells [rowsAV (p.map Df.cells)]) d9
    have g9 := hat h i9 (.cells [rowsAV (p.map Df.cells)])
    simp -dsimp
    refine check07_ok hsz ?_
    by_cases hc : (check07 p).1 = 0
    · have hn0 : 0 < p.length := List.length_pos_iff.2 hf.some
      obtain ⟨j, hj, hje, hm1, hm2⟩ := mod_in i hn0
      have hn0' : ¬ (p.length : Int) = 0 := by omega
      have hn0'' : ¬ p.length = 0 := by omega
      have hnn : ¬ p = [] := hf.some
      have hwj : IntKind.i64.wrap (i.tmod p.length + p.length) = i.tmod p.length + p.length := by rw [wrap_i64] <;> omega
      have hpj := List.getElem?_eq_getElem hj
      have hpm := List.getElem_mem hj
      obtain ⟨hi, hff⟩ := fineP_mem hf.fine hpm
      have hsf : p[j].size ≤ sizeP p := sizeP_mem hpm
      have hca := check06_calls (check07_06 hc) _ hpm
      have hwr := check07_wrong hc _ hpm
      generalize hx : p[j] = f at *
      have hfsz : f.size = 1 + f.params.length + f.body.size := rfl
      have fl11 : f.cells.length = 11 := by simp
      simp -dsimp [fltRow, hc, hn0', hn0'', hnn, hwj, hje, hj, hx, Stable, AIns.wants, QStep]
      intro i11 d11
      have n911 := cells_ne g9 d11
      have k11 := k9.new (o := .cells f.cells) d11
      have g911 := cells_new (o' := .cells f.cells) g9 d11
      have g11 := hat (hset h i9 (.cells [rowsAV (p.map Df.cells)])) i11 (.cells f.cells)
      simp -dsimp [n911]
      refine rnest_ok f.body.size f.body _ _ (Nat.le_refl _) (by omega) ?_
      by_cases hne : 6 ≤ nestS f.body
      · simp -dsimp [hne, show (6 : Int) ≤ (nestS f.body : Nat) by omega]
        exact Gives.sub k11.sub hK
      · have hne' : ¬ (6 : Int) ≤ ((nestS f.body : Nat) : Int) := by omega
        simp -dsimp [hne, hne', n911]
        refine tables_ok (es := es) (s := s) hp40 hsm ty1 ty3 hsl (hsv.keep (fun id sz xs hh => k11.at hh (by simp))) fun tv rows h3 own den k3 => ?_
        have fit : fitL p (tabsS s p) = true := tabsS_fit hsm ty1
        have tl : (tabsS s p).length ≤ 9223372036854775807 := by rw [tabsS_length]; omega
        have dt := DenTs_own own den
        generalize tabsS s p = ts at *
        have k13 := k11.trans k3
        have g93 := k3.at g911 (by simp)
        have g113 := k3.at g11 (by simp)
        simp -dsimp [fl11]
        have hplen : ∀ hh, aLen .sl pv hh = some (.int .i64 qs.length) := fun hh => by have := hpv.len hh; rwa [intRows_length] at this
        have tvf : tv.flat = true ∧ tv.cells = [tv] := by
          rcases dt.ls with rfl | rfl | ⟨id, xs, rfl, _⟩
          · cases rows <;> exact ⟨rfl, rfl⟩
          · exact ⟨rfl, rfl⟩
          · exact ⟨rfl, rfl⟩
        refine ALoop.start (fun m tm h' => ∃ (k : Nat) (bs : List Bd), k + m = f.params.length ∧ tm 1 = sv ∧ tm 3 = pv ∧ tm 9 = .ptr i9 0 ∧ tm 11 = .ptr i11 0 ∧ tm 12 = tv ∧ tm 14 = .int .i64 k ∧ envB bs = (f.params.take k).map (fun x => ⟨x.name, x.ty, 0⟩) ∧ goodB bs = true ∧ Own h3 h' 51 3 (tm 13) (bs.map Bd.cells) ∧ Keeps h3 h') f.params.length
          ⟨0, [], by simp, by simp, by simp, by simp, by simp, by simp, by simp, by simp [envB], rfl, .inl ⟨rfl, by simp⟩, Keeps.refl h3⟩ ?_
        rintro m tm h4 ⟨k, bs, hkm, t1, t3, t9, t11, t12, t14, henv, hgood, own4, k4⟩
        have g94 := k4.at g93 (by simp)
        have g114 := k4.at g113 (by simp)
        have kk4 := k13.trans k4
        have hbl : bs.length = k ∧ k ≤ f.params.length := by
          have := congrArg List.length henv
          simp [envB] at this
          omega
        by_cases hlt : k < f.params.length
        · have hw1 : IntKind.i64.wrap ((k : Int) + 1) = ((k + 1 : Nat) : Int) := by rw [wrap_i64] <;> omega
          have htk := take_snoc f.params hlt
          have hxk := List.getElem?_eq_getElem hlt
          have hxm := List.getElem_mem hlt
          generalize hx1 : f.params[k] = x at *
          have hty := ty2 f hpm x hxm
          have htop := topS_ok hty
          simp -dsimp [t9, t11, t14, g114, hlt, hx1, Stable, AIns.wants, QStep]
          intro i15 d15
          have n1115 := cells_ne g114 d15
          have hpv4 := (hpv.keep (fun id sz xs hh => kk4.at hh (by simp))).keep (h1 := hset h4 i15 (.cells [.str x.name, .int .i64 x.ty, .int .i64 0])) (fun id sz xs hh => ((Keeps.refl h4).new d15).at hh (by simp))
          by_cases hkq : k < qs.length
          · have hqk : (intRows qs)[k]? = some [.int .i64 qs[k]] := by simp [intRows, hkq]
            generalize qs[k] = y at *
            obtain ⟨y', y1, _, y3, _⟩ := hpv4.get hqk rfl
            have y4 := y3 _ rfl
            simp -dsimp [t3, t9, t11, t14, n1115, g114, hlt, hx1, hplen, hkq, y1, y4, Stable, AIns.wants, QStep]
            refine ris_ok ?_
            by_cases hip : isPt x.ty y = true
            · have hip2 := hip
              simp only [isPt, decide_eq_true_eq] at hip2
              simp -dsimp [t3, t9, t11, t14, n1115, g114, hlt, hx1, hplen, hkq, y1, y4, hip, Stable, AIns.wants, QStep]
              intro i107 d107
              simp -dsimp [-AApp_sls]
              have o15 := own4.new (o := .cells [.str x.name, .int .i64 x.ty, .int .i64 y]) d15
              have k15 := k4.new (o := .cells [.str x.name, .int .i64 x.ty, .int .i64 y]) d15
              have g15 := cells_new (o' := .cells [.str x.name, .int .i64 x.ty, .int .i64 y]) g114 d15
              have g16 := cells_new (o' := .cells [.str x.name, .int .i64 x.ty, .int .i64 y]) g94 d15
              refine (o15.new d107).pushE (ys := [[.str x.name, .int .i64 x.ty, .int .i64 y]]) (k15.new d107) (by simp; omega) (by decide) fun v' h5 ho5 hf5 hk5 => ?_
              simp -dsimp [t14, hw1]
              refine Again.same (m - 1) (by omega) ⟨k + 1, bs ++ [⟨x.name, x.ty, y⟩], by omega, by simp [t1], by simp [t3], by simp [t9], by simp [t11], by simp [t12], by simp, by rw [envB_snoc, henv, htk]; simp, goodB_snoc _ _ hgood hip2, by simpa [Bd.cells] using ho5, hf5⟩
            · simp -dsimp [t3, t9, t11, t14, n1115, g114, hlt, hx1, hplen, hkq, y1, y4, hip, Stable, AIns.wants, QStep]
              intro i107 d107
              simp -dsimp [-AApp_sls]
              have o15 := own4.new (o := .cells [.str x.name, .int .i64 x.ty, .int .i64 0]) d15
              have k15 := k4.new (o := .cells [.str x.name, .int .i64 x.ty, .int .i64 0]) d15
              have g15 := cells_new (o' := .cells [.str x.name, .int .i64 x.ty, .int .i64 0]) g114 d15
              have g16 := cells_new (o' := .cells [.str x.name, .int .i64 x.ty, .int .i64 0]) g94 d15
              refine (o15.new d107).pushE (ys := [[.str x.name, .int .i64 x.ty, .int .i64 0]]) (k15.new d107) (by simp; omega) (by decide) fun v' h5 ho5 hf5 hk5 => ?_
              simp -dsimp [t14, hw1]
              refine Again.same (m - 1) (by omega) ⟨k + 1, bs ++ [⟨x.name, x.ty, 0⟩], by omega, by simp [t1], by simp [t3], by simp [t9], by simp [t11], by simp [t12], by simp, by rw [envB_snoc, henv, htk]; simp, goodB_snoc _ _ hgood ⟨Int.le_refl 0, by show 0 ≤ topS x.ty; omega⟩, by simpa [Bd.cells] using ho5, hf5⟩
          · simp -dsimp [t3, t9, t11, t14, n1115, g114, hlt, hx1, hplen, hkq, Stable, AIns.wants, QStep]
            intro i107 d107
            simp -dsimp [-AApp_sls]
            have o15 := own4.new (o := .cells [.str x.name, .int .i64 x.ty, .int .i64 0]) d15
            have k15 := k4.new (o := .cells [.str x.name, .int .i64 x.ty, .int .i64 0]) d15
            have g15 := cells_new (o' := .cells [.str x.name, .int .i64 x.ty, .int .i64 0]) g114 d15
            have g16 := cells_new (o' := .cells [.str x.name, .int .i64 x.ty, .int .i64 0]) g94 d15
            refine (o15.new d107).pushE (ys := [[.str x.name, .int .i64 x.ty, .int .i64 0]]) (k15.new d107) (by simp; omega) (by decide) fun v' h5 ho5 hf5 hk5 => ?_
            simp -dsimp [t14, hw1]
            refine Again.same (m - 1) (by omega) ⟨k + 1, bs ++ [⟨x.name, x.ty, 0⟩], by omega, by simp [t1], by simp [t3], by simp [t9], by simp [t11], by simp [t12], by simp, by rw [envB_snoc, henv, htk]; simp, goodB_snoc _ _ hgood ⟨Int.le_refl 0, by show 0 ≤ topS x.ty; omega⟩, by simpa [Bd.cells] using ho5, hf5⟩
        · have htk : f.params.take k = f.params := List.take_of_length_le (by omega)
          rw [htk] at henv
          simp -dsimp [t9, t11, t12, t14, g94, g114, hlt]
          refine names_ok (by omega) fun l' hl' hll => ?_
          simp -dsimp
          refine has_ok (s := zzB) (by omega) (.inl rfl) ?_
          by_cases hzz : zzB ∈ l'
          · simp -dsimp [hzz]
            exact Gives.sub kk4.sub hK
          · have hzn : zzB ∉ namesF f := fun x => hzz ((hl' _).2 x)
            have hnz : noZ zzB f.body := fun x => hzn (by simp [namesF, x])
            generalize hbv0 : tm 13 = bv at *
            have hbvf := own4.flat
            have hbv := LsAt_lsV own4.ls
            have d4 := dt.keep k4
            have hag : AgT zzB (envB bs) f.params := fun x _ => by rw [henv, lastT_pos]
            have hwb : wrongS p (envB bs) f.ty f.body = [] := by rw [wrongS_ag p zz_ne f.body.size f.body _ f.params f.ty (Nat.le_refl _) hnz hag]; exact hwr
            have hsee : seeS p ts = true := by simp [seeS, hc, fit]
            obtain ⟨r1, r2⟩ := ptS_range (fit_tab fit) ty2 f.body.size f.body (envB bs) (nmB bs) f.ty hi (Nat.le_refl _) hff.body hca hff.ty hwb (envPt_B hgood)
            have hofs := ofS_typed hff.ty hwb
            have hex : exprS p ts bs f.body = (ptS p (ts.map Tb.pts) f.body (nmB bs), 0) := by simp [exprS, hsee, hgood, hofs, show ¬ 6 < nestS f.body by omega]
            have ar : Ar p ts bs f.body f.ty (ptS p (ts.map Tb.pts) f.body (nmB bs)) := ⟨hsee, hgood, hff.ty, hwb, hnz, by omega, rfl, r1, r2⟩
            simp -dsimp [hzz, t9, t11, t12, g94, g114, fl11, hbv0]
            refine pexpr_ok (bs := bs) hf tl d4 hbv (by omega) (by omega) hff.body (fun _ => hca) ty2 ?_
            rw [hex]
            generalize hown : ptS p (ts.map Tb.pts) f.body (nmB bs) = own at *
            simp -dsimp [hzz, t9, t11, t12, g94, g114, fl11, hbv0, hbvf, tvf]
            --ABS-TAIL
            have g9_h4 := g94
            have g11_h4 := g114
            have k_h4 := Keeps.refl h4
            intro i19 d19
            have n9_19 := at_ne g9_h4 (by simp) d19
            have n11_19 := at_ne g11_h4 (by simp) d19
            have g9_H19 := at_new (o' := .cells [rowsAV (p.map Df.cells), tv, bv]) g9_h4 (by simp) d19
            have g11_H19 := at_new (o' := .cells [rowsAV (p.map Df.cells), tv, bv]) g11_h4 (by simp) d19
            have g19_H19 := hat h4 i19 (.cells [rowsAV (p.map Df.cells), tv, bv])
            have k_H19 := k_h4.new (o := .cells [rowsAV (p.map Df.cells), tv, bv]) d19
            simp -dsimp [hzz, t9, t11, t12, fl11, hbv0, hbvf, tvf, g9_h4, g11_h4, n9_19, n11_19]
            generalize hset h4 i19 (.cells [rowsAV (p.map Df.cells), tv, bv]) = H19 at *
            intro i20 d20
            have n9_20 := at_ne g9_H19 (by simp) d20
            have n11_20 := at_ne g11_H19 (by simp) d20
            have n19_20 := at_ne g19_H19 (by simp) d20
            have g9_H20 := at_new (o' := .cells [.int .i64 5, .str [], .str [], .int .i64 f.ty, .cplx 0 0, .nl, .int .i64 0]) g9_H19 (by simp) d20
            have g11_H20 := at_new (o' := .cells [.int .i64 5, .str [], .str [], .int .i64 f.ty, .cplx 0 0, .nl, .int .i64 0]) g11_H19 (by simp) d20
            have g19_H20 := at_new (o' := .cells [.int .i64 5, .str [], .str [], .int .i64 f.ty, .cplx 0 0, .nl, .int .i64 0]) g19_H19 (by simp) d20
            have g20_H20 := hat H19 i20 (.cells [.int .i64 5, .str [], .str [], .int .i64 f.ty, .cplx 0 0, .nl, .int .i64 0])
            have k_H20 := k_H19.new (o := .cells [.int .i64 5, .str [], .str [], .int .i64 f.ty, .cplx 0 0, .nl, .int .i64 0]) d20
            simp -dsimp [hzz, t9, t11, t12, fl11, hbv0, hbvf, tvf, g9_H19, g11_H19, g19_H19, n9_20, n11_20, n19_20]
            generalize hset H19 i20 (.cells [.int .i64 5, .str [], .str [], .int .i64 f.ty, .cplx 0 0, .nl, .int .i64 0]) = H20 at *
            intro i21 d21
            have n9_21 := at_ne g9_H20 (by simp) d21
            have n11_21 := at_ne g11_H20 (by simp) d21
            have n19_21 := at_ne g19_H20 (by simp) d21
            have n20_21 := at_ne g20_H20 (by simp) d21
            have g9_H21 := at_new (o' := .cells [.int .i64 2, .str [], .str [], .int .i64 0, .cplx 0 0, .nl, .int .i64 0]) g9_H20 (by simp) d21
            have g11_H21 := at_new (o' := .cells [.int .i64 2, .str [], .str [], .int .i64 0, .cplx 0 0, .nl, .int .i64 0]) g11_H20 (by simp) d21
            have g19_H21 := at_new (o' := .cells [.int .i64 2, .str [], .str [], .int .i64 0, .cplx 0 0, .nl, .int .i64 0]) g19_H20 (by simp) d21
            have g20_H21 := at_new (o' := .cells [.int .i64 2, .str [], .str [], .int .i64 0, .cplx 0 0, .nl, .int .i64 0]) g20_H20 (by simp) d21
            have g21_H21 := hat H20 i21 (.cells [.int .i64 2, .str [], .str [], .int .i64 0, .cplx 0 0, .nl, .int .i64 0])
            have k_H21 := k_H20.new (o := .cells [.int .i64 2, .str [], .str [], .int .i64 0, .cplx 0 0, .nl, .int .i64 0]) d21
            simp -dsimp [hzz, t9, t11, t12, fl11, hbv0, hbvf, tvf, g9_H20, g11_H20, g19_H20, g20_H20, n9_21, n11_21, n19_21, n20_21]
            generalize hset H20 i21 (.cells [.int .i64 2, .str [], .str [], .int .i64 0, .cplx 0 0, .nl, .int .i64 0]) = H21 at *
            intro i22 d22
            have n9_22 := at_ne g9_H21 (by simp) d22
            have n11_22 := at_ne g11_H21 (by simp) d22
            have n19_22 := at_ne g19_H21 (by simp) d22
            have n20_22 := at_ne g20_H21 (by simp) d22
            have n21_22 := at_ne g21_H21 (by simp) d22
            have g9_H22 := at_new (o' := .cells [.int .i64 5, .str [], .str [], .int .i64 2, .cplx 0 0, .nl, .int .i64 0]) g9_H21 (by simp) d22
            have g11_H22 := at_new (o' := .cells [.int .i64 5, .str [], .str [], .int .i64 2, .cplx 0 0, .nl, .int .i64 0]) g11_H21 (by simp) d22
            have g19_H22 := at_new (o' := .cells [.int .i64 5, .str [], .str [], .int .i64 2, .cplx 0 0, .nl, .int .i64 0]) g19_H21 (by simp) d22
            have g20_H22 := at_new (o' := .cells [.int .i64 5, .str [], .str [], .int .i64 2, .cplx 0 0, .nl, .int .i64 0]) g20_H21 (by simp) d22
            have g21_H22 := at_new (o' := .cells [.int .i64 5, .str [], .str [], .int .i64 2, .cplx 0 0, .nl, .int .i64 0]) g21_H21 (by simp) d22
            have g22_H22 := hat H21 i22 (.cells [.int .i64 5, .str [], .str [], .int .i64 2, .cplx 0 0, .nl, .int .i64 0])
            have k_H22 := k_H21.new (o := .cells [.int .i64 5, .str [], .str [], .int .i64 2, .cplx 0 0, .nl, .int .i64 0]) d22
            simp -dsimp [hzz, t9, t11, t12, fl11, hbv0, hbvf, tvf, g9_H21, g11_H21, g19_H21, g20_H21, g21_H21, n9_22, n11_22, n19_22, n20_22, n21_22]
            generalize hset H21 i22 (.cells [.int .i64 5, .str [], .str [], .int .i64 2, .cplx 0 0, .nl, .int .i64 0]) = H22 at *
            intro i23 d23
            have n9_23 := at_ne g9_H22 (by simp) d23
            have n11_23 := at_ne g11_H22 (by simp) d23
            have n19_23 := at_ne g19_H22 (by simp) d23
            have n20_23 := at_ne g20_H22 (by simp) d23
            have n21_23 := at_ne g21_H22 (by simp) d23
            have n22_23 := at_ne g22_H22 (by simp) d23
            have g9_H23 := at_new (o' := .cells [.int .i64 1, .str [], .str [], .int .i64 0, .cplx 4607182418800017408 0, .nl, .int .i64 0]) g9_H22 (by simp) d23
            have g11_H23 := at_new (o' := .cells [.int .i64 1, .str [], .str [], .int .i64 0, .cplx 4607182418800017408 0, .nl, .int .i64 0]) g11_H22 (by simp) d23
            have g19_H23 := at_new (o' := .cells [.int .i64 1, .str [], .str [], .int .i64 0, .cplx 4607182418800017408 0, .nl, .int .i64 0]) g19_H22 (by simp) d23
            have g20_H23 := at_new (o' := .cells [.int .i64 1, .str [], .str [], .int .i64 0, .cplx 4607182418800017408 0, .nl, .int .i64 0]) g20_H22 (by simp) d23
            have g21_H23 := at_new (o' := .cells [.int .i64 1, .str [], .str [], .int .i64 0, .cplx 4607182418800017408 0, .nl, .int .i64 0]) g21_H22 (by simp) d23
            have g22_H23 := at_new (o' := .cells [.int .i64 1, .str [], .str [], .int .i64 0, .cplx 4607182418800017408 0, .nl, .int .i64 0]) g22_H22 (by simp) d23
            have g23_H23 := hat H22 i23 (.cells [.int .i64 1, .str [], .str [], .int .i64 0, .cplx 4607182418800017408 0, .nl, .int .i64 0])
            have k_H23 := k_H22.new (o := .cells [.int .i64 1, .str [], .str [], .int .i64 0, .cplx 4607182418800017408 0, .nl, .int .i64 0]) d23
            simp -dsimp [hzz, t9, t11, t12, fl11, hbv0, hbvf, tvf, g9_H22, g11_H22, g19_H22, g20_H22, g21_H22, g22_H22, n9_23, n11_23, n19_23, n20_23, n21_23, n22_23]
            generalize hset H22 i23 (.cells [.int .i64 1, .str [], .str [], .int .i64 0, .cplx 4607182418800017408 0, .nl, .int .i64 0]) = H23 at *
            intro iL dL
            have n9_L := at_ne g9_H23 (by simp) dL
            have n11_L := at_ne g11_H23 (by simp) dL
            have n19_L := at_ne g19_H23 (by simp) dL
            have n20_L := at_ne g20_H23 (by simp) dL
            have n21_L := at_ne g21_H23 (by simp) dL
            have n22_L := at_ne g22_H23 (by simp) dL
            have n23_L := at_ne g23_H23 (by simp) dL
            have g9_HL := at_new (o' := .arr 44 7 [[.int .i64 1, .str [], .str [], .int .i64 0, .cplx 4607182418800017408 0, .nl, .int .i64 0], [.int .i64 4, .str [], .str [], .int .i64 0, .cplx 0 0, .nl, .int .i64 0]]) g9_H23 (by simp) dL
            have g11_HL := at_new (o' := .arr 44 7 [[.int .i64 1, .str [], .str [], .int .i64 0, .cplx 4607182418800017408 0, .nl, .int .i64 0], [.int .i64 4, .str [], .str [], .int .i64 0, .cplx 0 0, .nl, .int .i64 0]]) g11_H23 (by simp) dL
            have g19_HL := at_new (o' := .arr 44 7 [[.int .i64 1, .str [], .str [], .int .i64 0, .cplx 4607182418800017408 0, .nl, .int .i64 0], [.int .i64 4, .str [], .str [], .int .i64 0, .cplx 0 0, .nl, .int .i64 0]]) g19_H23 (by simp) dL
            have g20_HL := at_new (o' := .arr 44 7 [[.int .i64 1, .str [], .str [], .int .i64 0, .cplx 4607182418800017408 0, .nl, .int .i64 0], [.int .i64 4, .str [], .str [], .int .i64 0, .cplx 0 0, .nl, .int .i64 0]]) g20_H23 (by simp) dL
            have g21_HL := at_new (o' := .arr 44 7 [[.int .i64 1, .str [], .str [], .int .i64 0, .cplx 4607182418800017408 0, .nl, .int .i64 0], [.int .i64 4, .str [], .str [], .int .i64 0, .cplx 0 0, .nl, .int .i64 0]]) g21_H23 (by simp) dL
            have g22_HL := at_new (o' := .arr 44 7 [[.int .i64 1, .str [], .str [], .int .i64 0, .cplx 4607182418800017408 0, .nl, .int .i64 0], [.int .i64 4, .str [], .str [], .int .i64 0, .cplx 0 0, .nl, .int .i64 0]]) g22_H23 (by simp) dL
            have g23_HL := at_new (o' := .arr 44 7 [[.int .i64 1, .str [], .str [], .int .i64 0, .cplx 4607182418800017408 0, .nl, .int .i64 0], [.int .i64 4, .str [], .str [], .int .i64 0, .cplx 0 0, .nl, .int .i64 0]]) g23_H23 (by simp) dL
            have gL_HL := hat H23 iL (.arr 44 7 [[.int .i64 1, .str [], .str [], .int .i64 0, .cplx 4607182418800017408 0, .nl, .int .i64 0], [.int .i64 4, .str [], .str [], .int .i64 0, .cplx 0 0, .nl, .int .i64 0]])
            have k_HL := k_H23.new (o := .arr 44 7 [[.int .i64 1, .str [], .str [], .int .i64 0, .cplx 4607182418800017408 0, .nl, .int .i64 0], [.int .i64 4, .str [], .str [], .int .i64 0, .cplx 0 0, .nl, .int .i64 0]]) dL
            simp -dsimp [hzz, t9, t11, t12, fl11, hbv0, hbvf, tvf, g9_H23, g11_H23, g19_H23, g20_H23, g21_H23, g22_H23, g23_H23, n9_L, n11_L, n19_L, n20_L, n21_L, n22_L, n23_L]
            generalize hset H23 iL (.arr 44 7 [[.int .i64 1, .str [], .str [], .int .i64 0, .cplx 4607182418800017408 0, .nl, .int .i64 0], [.int .i64 4, .str [], .str [], .int .i64 0, .cplx 0 0, .nl, .int .i64 0]]) = HL at *
            intro i24 d24
            have n9_24 := at_ne g9_HL (by simp) d24
            have n11_24 := at_ne g11_HL (by simp) d24
            have n19_24 := at_ne g19_HL (by simp) d24
            have n20_24 := at_ne g20_HL (by simp) d24
            have n21_24 := at_ne g21_HL (by simp) d24
            have n22_24 := at_ne g22_HL (by simp) d24
            have n23_24 := at_ne g23_HL (by simp) d24
            have nL_24 := at_ne gL_HL (by simp) d24
            have g9_H24 := at_new (o' := .cells [.int .i64 18, .str [], .str [], .int .i64 0, .cplx 0 0, .sl iL 0 2, .int .i64 0]) g9_HL (by simp) d24
            have g11_H24 := at_new (o' := .cells [.int .i64 18, .str [], .str [], .int .i64 0, .cplx 0 0, .sl iL 0 2, .int .i64 0]) g11_HL (by simp) d24
            have g19_H24 := at_new (o' := .cells [.int .i64 18, .str [], .str [], .int .i64 0, .cplx 0 0, .sl iL 0 2, .int .i64 0]) g19_HL (by simp) d24
            have g20_H24 := at_new (o' := .cells [.int .i64 18, .str [], .str [], .int .i64 0, .cplx 0 0, .sl iL 0 2, .int .i64 0]) g20_HL (by simp) d24
            have g21_H24 := at_new (o' := .cells [.int .i64 18, .str [], .str [], .int .i64 0, .cplx 0 0, .sl iL 0 2, .int .i64 0]) g21_HL (by simp) d24
            have g22_H24 := at_new (o' := .cells [.int .i64 18, .str [], .str [], .int .i64 0, .cplx 0 0, .sl iL 0 2, .int .i64 0]) g22_HL (by simp) d24
            have g23_H24 := at_new (o' := .cells [.int .i64 18, .str [], .str [], .int .i64 0, .cplx 0 0, .sl iL 0 2, .int .i64 0]) g23_HL (by simp) d24
            have gL_H24 := at_new (o' := .cells [.int .i64 18, .str [], .str [], .int .i64 0, .cplx 0 0, .sl iL 0 2, .int .i64 0]) gL_HL (by simp) d24
            have g24_H24 := hat HL i24 (.cells [.int .i64 18, .str [], .str [], .int .i64 0, .cplx 0 0, .sl iL 0 2, .int .i64 0])
            have k_H24 := k_HL.new (o := .cells [.int .i64 18, .str [], .str [], .int .i64 0, .cplx 0 0, .sl iL 0 2, .int .i64 0]) d24
            simp -dsimp [hzz, t9, t11, t12, fl11, hbv0, hbvf, tvf, g9_HL, g11_HL, g19_HL, g20_HL, g21_HL, g22_HL, g23_HL, gL_HL, n9_24, n11_24, n19_24, n20_24, n21_24, n22_24, n23_24, nL_24]
            generalize hset HL i24 (.cells [.int .i64 18, .str [], .str [], .int .i64 0, .cplx 0 0, .sl iL 0 2, .int .i64 0]) = H24 at *
            refine ThenB.cut (fun tm' h' => tm' 9 = .ptr i9 0 ∧ tm' 11 = .ptr i11 0 ∧ tm' 17 = .int .i64 own ∧ tm' 18 = .int .i64 0 ∧ tm' 19 = .ptr i19 0 ∧ tm' 20 = .ptr i20 0 ∧ tm' 21 = .ptr i21 0 ∧ tm' 22 = .ptr i22 0 ∧ tm' 23 = .ptr i23 0 ∧ tm' 24 = .ptr i24 0 ∧ tm' 25 = .int .i64 (if 0 < own then 1 else 0) ∧ h' = H24) ?_ ?_ ?_
            · intro hb; have hpos : 0 < own := of_decide_eq_true hb
              simp -dsimp [hzz, t9, t11, t12, fl11, hbv0, hbvf, tvf, t9, t11, hpos]
            · intro hb; have hpos : ¬ 0 < own := of_decide_eq_false hb
              simp -dsimp [hzz, t9, t11, t12, fl11, hbv0, hbvf, tvf, t9, t11, hpos]
            · rintro tm' h' ⟨u9, u11, u17, u18, u19, u20, u21, u22, u23, u24, u25, rfl⟩
              simp -dsimp
              intro i26 d26
              have n9_26 := at_ne g9_H24 (by simp) d26
              have n11_26 := at_ne g11_H24 (by simp) d26
              have n19_26 := at_ne g19_H24 (by simp) d26
              have n20_26 := at_ne g20_H24 (by simp) d26
              have n21_26 := at_ne g21_H24 (by simp) d26
              have n22_26 := at_ne g22_H24 (by simp) d26
              have n23_26 := at_ne g23_H24 (by simp) d26
              have nL_26 := at_ne gL_H24 (by simp) d26
              have n24_26 := at_ne g24_H24 (by simp) d26
              have g9_H26 := at_new (o' := .cells [.int .i64 6, .str [122, 122], .str [], .int .i64 0, .cplx 0 0, .nl, .int .i64 0]) g9_H24 (by simp) d26
              have g11_H26 := at_new (o' := .cells [.int .i64 6, .str [122, 122], .str [], .int .i64 0, .cplx 0 0, .nl, .int .i64 0]) g11_H24 (by simp) d26
              have g19_H26 := at_new (o' := .cells [.int .i64 6, .str [122, 122], .str [], .int .i64 0, .cplx 0 0, .nl, .int .i64 0]) g19_H24 (by simp) d26
              have g20_H26 := at_new (o' := .cells [.int .i64 6, .str [122, 122], .str [], .int .i64 0, .cplx 0 0, .nl, .int .i64 0]) g20_H24 (by simp) d26
              have g21_H26 := at_new (o' := .cells [.int .i64 6, .str [122, 122], .str [], .int .i64 0, .cplx 0 0, .nl, .int .i64 0]) g21_H24 (by simp) d26
              have g22_H26 := at_new (o' := .cells [.int .i64 6, .str [122, 122], .str [], .int .i64 0, .cplx 0 0, .nl, .int .i64 0]) g22_H24 (by simp) d26
              have g23_H26 := at_new (o' := .cells [.int .i64 6, .str [122, 122], .str [], .int .i64 0, .cplx 0 0, .nl, .int .i64 0]) g23_H24 (by simp) d26
              have gL_H26 := at_new (o' := .cells [.int .i64 6, .str [122, 122], .str [], .int .i64 0, .cplx 0 0, .nl, .int .i64 0]) gL_H24 (by simp) d26
              have g24_H26 := at_new (o' := .cells [.int .i64 6, .str [122, 122], .str [], .int .i64 0, .cplx 0 0, .nl, .int .i64 0]) g24_H24 (by simp) d26
              have g26_H26 := hat h' i26 (.cells [.int .i64 6, .str [122, 122], .str [], .int .i64 0, .cplx 0 0, .nl, .int .i64 0])
              have k_H26 := k_H24.new (o := .cells [.int .i64 6, .str [122, 122], .str [], .int .i64 0, .cplx 0 0, .nl, .int .i64 0]) d26
              simp -dsimp [u9, u11, u17, u18, u19, u20, u21, u22, u23, u24, u25, fl11, g9_H24, g11_H24, g19_H24, g20_H24, g21_H24, g22_H24, g23_H24, gL_H24, g24_H24, n9_26, n11_26, n19_26, n20_26, n21_26, n22_26, n23_26, nL_26, n24_26]
              generalize hset h' i26 (.cells [.int .i64 6, .str [122, 122], .str [], .int .i64 0, .cplx 0 0, .nl, .int .i64 0]) = H26 at *
              have dH := d4.keep k_H26
              have hbvH := hbv.keep (h1 := H26) (fun id sz xs hh => k_H26.at hh (by simp))
              have hsb : bs.length + 2 * (2 * f.body.size + 12) ≤ 200000 := by omega
              have hsc : 2 * f.body.size + 12 ≤ 90000 := by omega
              have h0hi : 0 < hi := by have := hff.pos; omega
              intro j1 e1
              simp -dsimp [u9, u11, u17, u18, u19, u20, u21, u22, u23, u24, u25, fl11, g9_H26, g11_H26, g19_H26, g20_H26, g21_H26, g22_H26, g23_H26, gL_H26, g24_H26, g26_H26]
              obtain ⟨x1, y1, z1⟩ := eg1 (p := p) (Nat.le_refl f.body.size) hff.body hca h0hi hff.ty
              refine askf_ok (e := ifE yesE f.body (badE f.ty)) (args := [yesE, f.body, badE f.ty]) (id := j1) rfl (by simp) rfl e1 rfl hf tl dH hbvH (by omega) (by omega) y1 (fun _ => z1) ty2 ?_
              rw [ar.q1]
              simp -dsimp [u9, u11, u17, u18, u19, u20, u21, u22, u23, u24, u25, fl11, g9_H26, g11_H26, g19_H26, g20_H26, g21_H26, g22_H26, g23_H26, gL_H26, g24_H26, g26_H26]
              intro j2 e2
              simp -dsimp [u9, u11, u17, u18, u19, u20, u21, u22, u23, u24, u25, fl11, g9_H26, g11_H26, g19_H26, g20_H26, g21_H26, g22_H26, g23_H26, gL_H26, g24_H26, g26_H26]
              obtain ⟨x2, y2, z2⟩ := eg2 (p := p) (Nat.le_refl f.body.size) hff.body hca h0hi hff.ty
              refine askf_ok (e := ifE (badE 2) f.body f.body) (args := [badE 2, f.body, f.body]) (id := j2) rfl (by simp) rfl e2 rfl hf tl dH hbvH (by omega) (by omega) y2 (fun _ => z2) ty2 ?_
              rw [ar.q2]
              simp -dsimp [u9, u11, u17, u18, u19, u20, u21, u22, u23, u24, u25, fl11, g9_H26, g11_H26, g19_H26, g20_H26, g21_H26, g22_H26, g23_H26, gL_H26, g24_H26, g26_H26]
              intro j3 e3
              simp -dsimp [u9, u11, u17, u18, u19, u20, u21, u22, u23, u24, u25, fl11, g9_H26, g11_H26, g19_H26, g20_H26, g21_H26, g22_H26, g23_H26, gL_H26, g24_H26, g26_H26]
              obtain ⟨x3, y3, z3⟩ := eg3 (p := p) (Nat.le_refl f.body.size) hff.body hca h0hi hff.ty
              refine askf_ok (e := letE 21 f.ty f.body zzE) (args := [f.body, zzE]) (id := j3) rfl (by simp) rfl e3 rfl hf tl dH hbvH (by omega) (by omega) y3 (fun _ => z3) ty2 ?_
              rw [ar.q3]
              simp -dsimp [u9, u11, u17, u18, u19, u20, u21, u22, u23, u24, u25, fl11, g9_H26, g11_H26, g19_H26, g20_H26, g21_H26, g22_H26, g23_H26, gL_H26, g24_H26, g26_H26]
              intro j4 e4
              simp -dsimp [u9, u11, u17, u18, u19, u20, u21, u22, u23, u24, u25, fl11, g9_H26, g11_H26, g19_H26, g20_H26, g21_H26, g22_H26, g23_H26, gL_H26, g24_H26, g26_H26]
              obtain ⟨x4, y4, z4⟩ := eg4 (p := p) (Nat.le_refl f.body.size) hff.body hca h0hi hff.ty
              refine askf_ok (e := letE 22 f.ty f.body oneE) (args := [f.body, oneE]) (id := j4) rfl (by simp) rfl e4 rfl hf tl dH hbvH (by omega) (by omega) y4 (fun _ => z4) ty2 ?_
              rw [ar.q4]
              simp -dsimp [u9, u11, u17, u18, u19, u20, u21, u22, u23, u24, u25, fl11, g9_H26, g11_H26, g19_H26, g20_H26, g21_H26, g22_H26, g23_H26, gL_H26, g24_H26, g26_H26]
              intro j5 e5
              simp -dsimp [u9, u11, u17, u18, u19, u20, u21, u22, u23, u24, u25, fl11, g9_H26, g11_H26, g19_H26, g20_H26, g21_H26, g22_H26, g23_H26, gL_H26, g24_H26, g26_H26]
              obtain ⟨x5, y5, z5⟩ := eg5 (p := p) (Nat.le_refl f.body.size) hff.body hca h0hi hff.ty
              refine askf_ok (e := letE 21 f.ty (badE f.ty) f.body) (args := [badE f.ty, f.body]) (id := j5) rfl (by simp) rfl e5 rfl hf tl dH hbvH (by omega) (by omega) y5 (fun _ => z5) ty2 ?_
              rw [ar.q5]
              simp -dsimp [u9, u11, u17, u18, u19, u20, u21, u22, u23, u24, u25, fl11, g9_H26, g11_H26, g19_H26, g20_H26, g21_H26, g22_H26, g23_H26, gL_H26, g24_H26, g26_H26]
              intro j6 e6
              simp -dsimp [u9, u11, u17, u18, u19, u20, u21, u22, u23, u24, u25, fl11, g9_H26, g11_H26, g19_H26, g20_H26, g21_H26, g22_H26, g23_H26, gL_H26, g24_H26, g26_H26]
              obtain ⟨x6, y6, z6⟩ := eg6 (p := p) (Nat.le_refl f.body.size) hff.body hca h0hi hff.ty
              refine askf_ok (e := letE 22 f.ty (badE f.ty) f.body) (args := [badE f.ty, f.body]) (id := j6) rfl (by simp) rfl e6 rfl hf tl dH hbvH (by omega) (by omega) y6 (fun _ => z6) ty2 ?_
              rw [ar.q6]
              simp -dsimp [u9, u11, u17, u18, u19, u20, u21, u22, u23, u24, u25, fl11, g9_H26, g11_H26, g19_H26, g20_H26, g21_H26, g22_H26, g23_H26, gL_H26, g24_H26, g26_H26]
              intro j7 e7
              simp -dsimp [u9, u11, u17, u18, u19, u20, u21, u22, u23, u24, u25, fl11, g9_H26, g11_H26, g19_H26, g20_H26, g21_H26, g22_H26, g23_H26, gL_H26, g24_H26, g26_H26]
              obtain ⟨x7, y7, z7⟩ := eg7 (p := p) (Nat.le_refl f.body.size) hff.body hca h0hi hff.ty
              have zL : h4 iL = .dead := k_H23.dead dL
              have kZ : Keeps h4 (hset H26 iL .dead) := k_H26.set zL
              have m9 : ¬ i9 = iL := by rintro rfl; rw [gL_H26] at g9_H26; cases g9_H26
              have g9_HZ := g9_H26
              rw [← show hset H26 iL .dead i9 = H26 i9 by simp [m9]] at g9_HZ
              have m11 : ¬ i11 = iL := by rintro rfl; rw [gL_H26] at g11_H26; cases g11_H26
              have g11_HZ := g11_H26
              rw [← show hset H26 iL .dead i11 = H26 i11 by simp [m11]] at g11_HZ
              have m19 : ¬ i19 = iL := by rintro rfl; rw [gL_H26] at g19_H26; cases g19_H26
              have g19_HZ := g19_H26
              rw [← show hset H26 iL .dead i19 = H26 i19 by simp [m19]] at g19_HZ
              have m20 : ¬ i20 = iL := by rintro rfl; rw [gL_H26] at g20_H26; cases g20_H26
              have g20_HZ := g20_H26
              rw [← show hset H26 iL .dead i20 = H26 i20 by simp [m20]] at g20_HZ
              have m21 : ¬ i21 = iL := by rintro rfl; rw [gL_H26] at g21_H26; cases g21_H26
              have g21_HZ := g21_H26
              rw [← show hset H26 iL .dead i21 = H26 i21 by simp [m21]] at g21_HZ
              have m22 : ¬ i22 = iL := by rintro rfl; rw [gL_H26] at g22_H26; cases g22_H26
              have g22_HZ := g22_H26
              rw [← show hset H26 iL .dead i22 = H26 i22 by simp [m22]] at g22_HZ
              have m23 : ¬ i23 = iL := by rintro rfl; rw [gL_H26] at g23_H26; cases g23_H26
              have g23_HZ := g23_H26
              rw [← show hset H26 iL .dead i23 = H26 i23 by simp [m23]] at g23_HZ
              have m24 : ¬ i24 = iL := by rintro rfl; rw [gL_H26] at g24_H26; cases g24_H26
              have g24_HZ := g24_H26
              rw [← show hset H26 iL .dead i24 = H26 i24 by simp [m24]] at g24_HZ
              have m26 : ¬ i26 = iL := by rintro rfl; rw [gL_H26] at g26_H26; cases g26_H26
              have g26_HZ := g26_H26
              rw [← show hset H26 iL .dead i26 = H26 i26 by simp [m26]] at g26_HZ
              have dZ := d4.keep kZ
              have hbvZ := hbv.keep (h1 := hset H26 iL .dead) (fun id sz xs hh => kZ.at hh (by simp))
              refine askl_ok (ty := f.ty) (b := f.body) gL_H26 e7 hf tl dZ hbvZ (by omega) (by omega) y7 (fun _ => z7) ty2 ?_
              rw [ar.q7]
              generalize hset H26 iL .dead = HZ at *
              simp -dsimp [u9, u11, u17, u18, u19, u20, u21, u22, u23, u24, u25, fl11, g9_HZ, g11_HZ, g19_HZ, g20_HZ, g21_HZ, g22_HZ, g23_HZ, g24_HZ, g26_HZ]
              intro j8 e8
              simp -dsimp [u9, u11, u17, u18, u19, u20, u21, u22, u23, u24, u25, fl11, g9_HZ, g11_HZ, g19_HZ, g20_HZ, g21_HZ, g22_HZ, g23_HZ, g24_HZ, g26_HZ]
              obtain ⟨x8, y8, z8⟩ := eg8 (p := p) (Nat.le_refl f.body.size) hff.body hca h0hi hff.ty
              refine askf_ok (e := caseE nilE f.body (badE f.ty)) (args := [nilE, f.body, badE f.ty]) (id := j8) rfl (by simp) rfl e8 rfl hf tl dZ hbvZ (by omega) (by omega) y8 (fun _ => z8) ty2 ?_
              rw [ar.q8]
              simp -dsimp [u9, u11, u17, u18, u19, u20, u21, u22, u23, u24, u25, fl11, g9_HZ, g11_HZ, g19_HZ, g20_HZ, g21_HZ, g22_HZ, g23_HZ, g24_HZ, g26_HZ]
              have kz2 := kk4.trans kZ
              have htop := topS_le f.ty
              have hw2 : IntKind.i64.wrap (2 + own) = 2 + own := by rw [wrap_i64] <;> omega
              rcases hff.ty with hty | hty | hty
              · simp -dsimp [u9, u11, u17, u18, u19, u20, u21, u22, u23, u24, u25, fl11, g9_HZ, g11_HZ, g19_HZ, g20_HZ, g21_HZ, g22_HZ, g23_HZ, g24_HZ, g26_HZ, hty]
                intro j9 e9
                simp -dsimp [u9, u11, u17, u18, u19, u20, u21, u22, u23, u24, u25, fl11, g9_HZ, g11_HZ, g19_HZ, g20_HZ, g21_HZ, g22_HZ, g23_HZ, g24_HZ, g26_HZ]
                obtain ⟨x9, y9, z9⟩ := eg9 (p := p) (Nat.le_refl f.body.size) hff.body hca h0hi hff.ty
                refine askf_ok (e := twoE 10 oneE f.body) (args := [oneE, f.body]) (id := j9) rfl (by simp) rfl e9 rfl hf tl dZ hbvZ (by omega) (by omega) y9 (fun _ => z9) ty2 ?_
                rw [ar.q9 hty]
                simp -dsimp [u9, u11, u17, u18, u19, u20, u21, u22, u23, u24, u25, fl11, g9_HZ, g11_HZ, g19_HZ, g20_HZ, g21_HZ, g22_HZ, g23_HZ, g24_HZ, g26_HZ]
                intro j10 e10
                simp -dsimp [u9, u11, u17, u18, u19, u20, u21, u22, u23, u24, u25, fl11, g9_HZ, g11_HZ, g19_HZ, g20_HZ, g21_HZ, g22_HZ, g23_HZ, g24_HZ, g26_HZ]
                obtain ⟨x10, y10, z10⟩ := eg10 (p := p) (Nat.le_refl f.body.size) hff.body hca h0hi hff.ty
                refine askf_ok (e := twoE 18 f.body nilE) (args := [f.body, nilE]) (id := j10) rfl (by simp) rfl e10 rfl hf tl dZ hbvZ (by omega) (by omega) y10 (fun _ => z10) ty2 ?_
                rw [ar.q10 hty]
                simp -dsimp [u9, u11, u17, u18, u19, u20, u21, u22, u23, u24, u25, fl11, g9_HZ, g11_HZ, g19_HZ, g20_HZ, g21_HZ, g22_HZ, g23_HZ, g24_HZ, g26_HZ]
                simp -dsimp [hw2]
                exact Gives.sub kz2.sub hK
              · simp -dsimp [u9, u11, u17, u18, u19, u20, u21, u22, u23, u24, u25, fl11, g9_HZ, g11_HZ, g19_HZ, g20_HZ, g21_HZ, g22_HZ, g23_HZ, g24_HZ, g26_HZ, hty]
                intro j12 e12
                simp -dsimp [u9, u11, u17, u18, u19, u20, u21, u22, u23, u24, u25, fl11, g9_HZ, g11_HZ, g19_HZ, g20_HZ, g21_HZ, g22_HZ, g23_HZ, g24_HZ, g26_HZ]
                obtain ⟨x12, y12, z12⟩ := eg12 (p := p) (Nat.le_refl f.body.size) hff.body hca h0hi hff.ty
                refine askf_ok (e := notE f.body) (args := [f.body]) (id := j12) rfl (by simp) rfl e12 rfl hf tl dZ hbvZ (by omega) (by omega) y12 (fun _ => z12) ty2 ?_
                rw [ar.q12 hty]
                simp -dsimp [u9, u11, u17, u18, u19, u20, u21, u22, u23, u24, u25, fl11, g9_HZ, g11_HZ, g19_HZ, g20_HZ, g21_HZ, g22_HZ, g23_HZ, g24_HZ, g26_HZ]
                exact Gives.sub kz2.sub hK
              · simp -dsimp [u9, u11, u17, u18, u19, u20, u21, u22, u23, u24, u25, fl11, g9_HZ, g11_HZ, g19_HZ, g20_HZ, g21_HZ, g22_HZ, g23_HZ, g24_HZ, g26_HZ, hty]
                intro j11 e11
                simp -dsimp [u9, u11, u17, u18, u19, u20, u21, u22, u23, u24, u25, fl11, g9_HZ, g11_HZ, g19_HZ, g20_HZ, g21_HZ, g22_HZ, g23_HZ, g24_HZ, g26_HZ]
                obtain ⟨x11, y11, z11⟩ := eg11 (p := p) (Nat.le_refl f.body.size) hff.body hca h0hi hff.ty
                refine askf_ok (e := twoE 18 oneE f.body) (args := [oneE, f.body]) (id := j11) rfl (by simp) rfl e11 rfl hf tl dZ hbvZ (by omega) (by omega) y11 (fun _ => z11) ty2 ?_
                rw [ar.q11 hty]
                simp -dsimp [u9, u11, u17, u18, u19, u20, u21, u22, u23, u24, u25, fl11, g9_HZ, g11_HZ, g19_HZ, g20_HZ, g21_HZ, g22_HZ, g23_HZ, g24_HZ, g26_HZ]
                have hmx : max 1 own = if 1 < own then own else 1 := by split <;> omega
                simp -dsimp [hmx]
                exact Gives.sub kz2.sub hK
    · simp -dsimp [fltRow, hc]
      exact Gives.sub k9.sub hK
  · simp -dsimp [hb, progAV]
    intro i9 d9
    have k9 := (Keeps.refl h).new (o := .cells [rowsAV ((readS b).1.map Df.cells)]) d9
    simp -dsimp
    exact Gives.sub k9.sub hK
theorem bytes_in {x : AV} (h : ShV Tryz.prog 22 [x]) : ∃ b : Bytes, (x = .fz (bytesAV b) ∨ (b = [] ∧ x = .nl)) ∧ b.length ≤ 9223372036854775807 := by
  obtain ⟨b, hb⟩ := h.bytes Tryz.underlying22 Tryz.underlying5
  refine ⟨b, hb, ?_⟩
  rcases hb with rfl | ⟨rfl, _⟩
  · rcases h.sl_inv Tryz.underlying22 with e | ⟨xs, e, hl, _⟩
    · cases e
    · cases e
      have : maxLen ≤ 9223372036854775807 := by decide
      simp at hl
      omega
  · simp
theorem ints_in {t e : TypeId} {x : AV} (ht : Tryz.prog.underlying t = some (.slice e)) (he : Tryz.prog.underlying e = some (.int .i64)) (h : ShV Tryz.prog t [x]) : ∃ q : List Int, LsV 0 1 (fun _ => .dead) x (intRows q) ∧ q.length ≤ 9223372036854775807 := by
  rcases h.sl_inv ht with h | ⟨xs, h, hl, hz, hx⟩
  · cases h; exact ⟨[], .inl rfl, by simp⟩
  · cases h
    refine ⟨xs.map fun x => match x with | [.int _ n] => n | _ => 0, .inr (.inl ?_), ?_⟩
    · refine congrArg AV.fz ?_
      simp only [intRows, List.map_map]
      refine (List.map_id xs).symm.trans (List.map_congr_left fun x hm => ?_)
      obtain ⟨n, rfl, hw⟩ := (hx x hm).int_inv he
      rfl
    · have : maxLen ≤ 9223372036854775807 := by decide
      simp
      omega
theorem absTurns_in {x y z w : AV} (h0 : ShV Tryz.prog 22 [x]) (h1 : ShV Tryz.prog 22 [y]) (h2 : ShV Tryz.prog 3 [z]) (h3 : ShV Tryz.prog 58 [w]) : ACalls Tryz.prog 4 [x, y, z, w] (fun _ => .dead) (fun r _ => r = .bool true) := by
  obtain ⟨b, hb, _⟩ := bytes_in h0
  obtain ⟨s, hs, hsl⟩ := bytes_in h1
  obtain ⟨i, e, _⟩ := h2.int_inv Tryz.underlying3
  obtain ⟨q, hq, hql⟩ := ints_in Tryz.underlying58 Tryz.underlying49 h3
  cases e
  have hsv : LsV 0 1 (fun _ => .dead) y (bytesAV s) := by
    rcases hs with rfl | ⟨rfl, rfl⟩
    · exact .inr (.inl rfl)
    · exact .inl rfl
  exact turns_ok hb hsl hsv hql hq rfl
end Go.Proofs.YtghidedifiolbaaGreat
