/- The grammar: one parameter. -/
import Derived.Test.YtghidedifiolbaaGreatK23
import Derived.Test.YtghidedifiolbaaGreatK08
import Derived.Test.YtghidedifiolbaaGreatK11
import Derived.Test.YtghidedifiolbaaGreatK12
import Derived.Test.YtghidedifiolbaaGreatK21
import Derived.KernelRfl
set_option linter.unusedVariables false
set_option linter.unusedSimpArgs false
namespace Go.Proofs.YtghidedifiolbaaGreat
open Go.AM
variable {ms : List Mk}

def dB2 : ACode := match c92.code with | .seq _ (.seq _ (.seq _ (.seq _ (.seq _ (.seq (.block _ (.loop (.seq _ (.block _ (.seq _ z))))) _))))) => z | _ => .skip
def dB3 : ACode := match dB2 with | .seq _ z => z | _ => .skip

theorem db3_ok (hg : Good ms) {rid i4 i6 : Nat} {h H : Hp} {tm : Tm} {s : St} {Q : AExit → Tm → Hp → Prop} {acc : List Pm} {v a0 : AV} {l z4 : List AV} (hl3 : l.length = 9) (ha : s.at_ < ms.length) (hacc : acc.length ≤ 50000)
    (t0 : tm 0 = .ptr rid 0) (t6 : tm 6 = .ptr i6 0) (hr : H rid = .cells (rdCells ms s)) (hi6 : H i6 = .cells (a0 :: v :: l)) (hi4 : H i4 = .cells z4) (d6 : h i6 = .dead) (n4r : ¬ i4 = rid) (n6r : ¬ i6 = rid) (n46 : ¬ i4 = i6)
    (ho : Own h H 48 3 v (acc.map Pm.cells)) (hf : Fr h H rid)
    (hQ : ∀ tm' H' v', tm' 0 = .ptr rid 0 → tm' 4 = tm 4 → tm' 6 = .ptr i6 0 → H' rid = .cells (rdCells ms (typS ms (nameS ms s).2).2) → H' i6 = .cells (a0 :: v' :: l) → H' i4 = .cells z4 →
      Own h H' 48 3 v' ((acc ++ [Pm.mk (nameS ms s).1.text (typS ms (nameS ms s).2).1 (nameS ms s).1.pos]).map Pm.cells) → Fr h H' rid → Q .normal tm' H') :
    AW Tryz.prog dB3 Q tm H := by
  have q2 := name_on hg ha
  have nr6 : ¬ rid = i6 := fun x => n6r x.symm
  simp -dsimp [dB3, dB2, c92, t0]
  refine name_ok (s := s) hg hr ha ?_
  simp -dsimp
  intro i7 d7
  simp at d7
  obtain ⟨n7r, nr7, d7⟩ := d7
  have n74 : ¬ i7 = i4 := by rintro rfl; rw [d7] at hi4; cases hi4
  have n76 : ¬ i7 = i6 := by rintro rfl; rw [d7] at hi6; cases hi6
  have n47 : ¬ i4 = i7 := fun x => n74 x.symm
  have n67 : ¬ i6 = i7 := fun x => n76 x.symm
  simp -dsimp [t0]
  refine typ_ok (s := (nameS ms s).2) hg (by simp [nr7]) q2.lt ?_
  simp -dsimp [t6, n6r, n67, n7r, n76, hi6]
  intro i8 d8
  simp at d8
  have n87 : ¬ i8 = i7 := by rintro rfl; simp [n7r] at d8
  have n8r : ¬ i8 = rid := by rintro rfl; simp at d8
  have d8' : H i8 = .dead := by
    repeat (obtain ⟨_, d8⟩ := d8)
    exact d8
  have n84 : ¬ i8 = i4 := by rintro rfl; rw [d8'] at hi4; cases hi4
  have n86 : ¬ i8 = i6 := by rintro rfl; rw [d8'] at hi6; cases hi6
  have n48 : ¬ i4 = i8 := fun x => n84 x.symm
  have n68 : ¬ i6 = i8 := fun x => n86 x.symm
  have nr8 : ¬ rid = i8 := fun x => n8r x.symm
  simp -dsimp
  refine Own.app (h := h) (rid := rid) (rows := acc.map Pm.cells) (x := rdCells ms (typS ms (nameS ms s).2).2) ?_ ?_ ?_ (by simp) (by simp; omega) (by simp; omega) (fun v' h2 ho2 hf2 hkeep => ?_)
  · repeat first | exact ho | refine Own.set ?_ (by intro a b c; simp [hr, n7r, n87, n8r, nr7, d7, d8'])
  · have := hf.dead hr d7
    have := hf.dead hr d8'
    repeat first | exact hf | refine Fr.own ?_ | refine Fr.set ?_ (by assumption)
  · simp [nr7, nr8]
  have e6 : h2 i6 = .cells (a0 :: v :: l) := hkeep i6 _ (by simp [n6r, n67, n68, hi6])
  have er : h2 rid = .cells (rdCells ms (typS ms (nameS ms s).2).2) := hkeep rid _ (by simp [nr7, nr8])
  have e4 : h2 i4 = .cells z4 := hkeep i4 _ (by simp [n4r, n47, n48, hi4])
  simp -dsimp [t6, e6, ho2.flat]
  exact hQ _ _ v' (by simp [t0]) (by simp) (by simp [t6]) (by simp [nr6, er]) (by simp) (by simp [n46, e4]) (by simpa [Pm.cells] using ho2.setc e6) (hf2.set d6)

theorem db2_ok (hg : Good ms) {rid i4 i6 : Nat} {h H : Hp} {tm : Tm} {s : St} {Q : AExit → Tm → Hp → Prop} {acc : List Pm} {v a0 : AV} {l z4 : List AV} (hl3 : l.length = 9) (ha : s.at_ < ms.length) (hacc : acc.length ≤ 50000)
    (t0 : tm 0 = .ptr rid 0) (t6 : tm 6 = .ptr i6 0) (hr : H rid = .cells (rdCells ms s)) (hi6 : H i6 = .cells (a0 :: v :: l)) (hi4 : H i4 = .cells z4) (d6 : h i6 = .dead) (n4r : ¬ i4 = rid) (n6r : ¬ i6 = rid) (n46 : ¬ i4 = i6)
    (ho : Own h H 48 3 v (acc.map Pm.cells)) (hf : Fr h H rid)
    (hQ : ∀ tm' H' v', tm' 0 = .ptr rid 0 → tm' 4 = tm 4 → tm' 6 = .ptr i6 0 → H' rid = .cells (rdCells ms (typS ms (nameS ms (parS ms acc.length s)).2).2) → H' i6 = .cells (a0 :: v' :: l) → H' i4 = .cells z4 →
      Own h H' 48 3 v' ((acc ++ [Pm.mk (nameS ms (parS ms acc.length s)).1.text (typS ms (nameS ms (parS ms acc.length s)).2).1 (nameS ms (parS ms acc.length s)).1.pos]).map Pm.cells) → Fr h H' rid → Q .normal tm' H') :
    AW Tryz.prog dB2 Q tm H := by
  have hsplit : dB2 = .seq (match dB2 with | .seq a _ => a | _ => .skip) dB3 := rfl
  rw [hsplit]
  have nr6 : ¬ rid = i6 := fun x => n6r x.symm
  have tail : ∀ (tm' : Tm) (H' : Hp), tm' 0 = .ptr rid 0 → tm' 4 = tm 4 → tm' 6 = .ptr i6 0 → H' = hset H rid (.cells (rdCells ms (parS ms acc.length s))) → AW Tryz.prog dB3 Q tm' H' := by
    rintro tm' H' u0 u4 u6 rfl
    refine db3_ok hg (s := parS ms acc.length s) (acc := acc) (v := v) (a0 := a0) (z4 := z4) hl3 (parS_on ha).lt hacc u0 u6 (by simp) (by simp [n6r, hi6]) (by simp [n4r, hi4]) d6 n4r n6r n46 (ho.setc hr) hf.own ?_
    intro tm2 H2 v2 w0 w4 w6
    exact hQ tm2 H2 v2 w0 (w4.trans u4) w6
  have hself : parS ms acc.length s = s → hset H rid (.cells (rdCells ms (parS ms acc.length s))) = H := fun x => by rw [x]; exact hset_self hr
  generalize dB3 = T at *
  by_cases hw : s.why = 0
  · by_cases hk0 : (nx ms s).kind = 0
    · by_cases hc : 32768 ≤ acc.length
      · have hp : parS ms acc.length s = failS ms s 22 := by simp [parS, hw, hk0, hc]
        have hc' : (32768 : Int) ≤ acc.length := by omega
        simp -dsimp [dB2, c92, t0, hr, rdCells, hw]
        refine next_ok (s := s) hr ha ?_
        simp -dsimp [t0, t6, hi6, hk0, ho.len, hr, rdCells, hc']
        refine fail_ok (s := s) hr ha ?_
        simp -dsimp
        exact tail _ _ (by simp [t0]) (by simp) (by simp [t6]) (by rw [hp])
      · have hp : parS ms acc.length s = s := by simp [parS, hc]
        have hc' : ¬ (32768 : Int) ≤ acc.length := by omega
        simp -dsimp [dB2, c92, t0, hr, rdCells, hw]
        refine next_ok (s := s) hr ha ?_
        simp -dsimp [t0, t6, hi6, hk0, ho.len, hr, rdCells, hc']
        exact tail _ _ (by simp [t0]) (by simp) (by simp [t6]) (hself hp).symm
    · have hp : parS ms acc.length s = s := by simp [parS, hk0]
      simp -dsimp [dB2, c92, t0, hr, rdCells, hw]
      refine next_ok (s := s) hr ha ?_
      simp -dsimp [hk0]
      exact tail _ _ (by simp [t0]) (by simp) (by simp [t6]) (hself hp).symm
  · have hp : parS ms acc.length s = s := by simp [parS, hw]
    simp -dsimp [dB2, c92, t0, hr, rdCells, hw]
    exact tail _ _ (by simp [t0]) (by simp) (by simp [t6]) (hself hp).symm
end Go.Proofs.YtghidedifiolbaaGreat

/- The grammar: definitions, whole. -/
namespace Go.Proofs.YtghidedifiolbaaGreat
open Go.AM
variable {ms : List Mk}

def dR1 : ACode := match c92.code with | .seq _ (.seq _ x) => x | _ => .skip

theorem def_r1 (hg : Good ms) {rid i4 n : Nat} {h H : Hp} {K : AV → Hp → Prop} {tm : Tm} {s : St} (ha : s.at_ < ms.length) (hn : 0 ≤ s.nest ∧ s.nest ≤ 32768)
    (t0 : tm 0 = .ptr rid 0) (t4 : tm 4 = .ptr i4 0) (hr : H rid = .cells (rdCells ms (df1 ms n s))) (hi4 : H i4 = .cells ([.str [], .nl, .int .i64 0] ++ (ex0.cells ++ [.int .i64 0]))) (d4 : h i4 = .dead) (hf : Fr h H rid) (n4r : ¬ i4 = rid)
    (hK : K (.agg (defS ms n s).1.cells) (hset h rid (.cells (rdCells ms (defS ms n s).2)))) :
    AW Tryz.prog dR1 (fun e tm h' => match e with | .exit _ => False | _ => Gives K (aLda 11 (tm 4) h') h') tm H := by
  have hl := hg.le
  have nr4 : ¬ rid = i4 := fun x => n4r x.symm
  have q1 := df1_on (ms := ms) (n := n) ha
  have q2 := name_on hg q1.lt
  have hsplit : dR1 = .seq (match dR1 with | .seq a _ => a | _ => .skip) (.seq (match dR1 with | .seq _ (.seq a _) => a | _ => .skip) (.seq (match dR1 with | .seq _ (.seq _ (.seq a _)) => a | _ => .skip) (.seq (.block 0 (.loop (.seq (match dR1 with | .seq _ (.seq _ (.seq _ (.seq (.block _ (.loop (.seq a _))) _))) => a | _ => .skip) (.block 1 (.seq (match dR1 with | .seq _ (.seq _ (.seq _ (.seq (.block _ (.loop (.seq _ (.block _ (.seq a _))))) _))) => a | _ => .skip) dB2))))) dT))) := rfl
  rw [hsplit]
  have tail := @def_t ms hg rid i4
  have mid := @db2_ok ms hg rid i4
  generalize dT = T at *
  generalize dB2 = B at *
  simp -dsimp [dR1, c92, t0]
  refine name_ok (s := df1 ms n s) hg hr q1.lt ?_
  simp -dsimp
  intro i5 d5
  simp at d5
  obtain ⟨n5r, nr5, d5⟩ := d5
  simp -dsimp
  intro i6 d6
  simp at d6
  obtain ⟨n65, n56, n6r, nr6, d6⟩ := d6
  have n54 : ¬ i5 = i4 := by rintro rfl; rw [d5] at hi4; cases hi4
  have n64 : ¬ i6 = i4 := by rintro rfl; rw [d6] at hi4; cases hi4
  have n46 : ¬ i4 = i6 := fun x => n64 x.symm
  have n45 : ¬ i4 = i5 := fun x => n54 x.symm
  simp -dsimp [t0, n65, n56]
  refine want_ok (s := (nameS ms (df1 ms n s)).2) hg (by simp [nr5, nr6]) q2.lt ?_
  simp -dsimp
  have q3 := want_on hg (t := [40]) q2.lt
  generalize hs0 : wantS ms (nameS ms (df1 ms n s)).2 [40] = s0 at *
  have q13 := (q1.trans q2).trans q3
  have hn0 : 0 ≤ s0.nest ∧ s0.nest ≤ 32768 := by rw [q13.nest]; exact hn
  have hdf2 : df2 ms n s = paramsS ms (ms.length + 1) [] s0 := by simp only [df2, hs0]
  generalize hR : paramsS ms (ms.length + 1) [] s0 = R at *
  have d5h := hf.dead hr d5
  have d6h := hf.dead hr d6
  refine ALoop.start (fun k tm h' => ∃ (acc : List Pm) (t : St) (v : AV), tm 0 = .ptr rid 0 ∧ tm 4 = .ptr i4 0 ∧ tm 6 = .ptr i6 0 ∧ h' rid = .cells (rdCells ms t) ∧ h' i4 = .cells ([.str [], .nl, .int .i64 0] ++ (ex0.cells ++ [.int .i64 0])) ∧
    h' i6 = .cells ([.str (nameS ms (df1 ms n s)).1.text, v, .int .i64 0] ++ (ex0.cells ++ [.int .i64 (nameS ms (df1 ms n s)).1.pos])) ∧ Own h h' 48 3 v (acc.map Pm.cells) ∧ Fr h h' rid ∧ On ms s0 t ∧
    paramsS ms k acc t = R ∧ (t.why = 0 → acc.length ≤ t.at_) ∧ acc.length ≤ t.at_ + 1 ∧ 1 ≤ k ∧ (t.why = 0 → ms.length + 1 ≤ t.at_ + k)) (ms.length + 1)
    ⟨[], s0, .nl, by simp [t0], by simp [t4], by simp, by simp, by simp [n4r, n46, n45, hi4], by simp [n6r, n65]; rfl, Own.nil, ((((hf.own).set d5h).set d6h).own), On.refl q3.lt, hR, by simp, by simp, by omega, by omega⟩ ?_
  rintro k tm h' ⟨acc, t, v, t0, t4, t6, hr, hi4, hi6, ho, hf, hon, hRR, hac, hac1, hk1, hfu⟩
  obtain ⟨k, rfl⟩ : ∃ q, k = q + 1 := ⟨k - 1, by omega⟩
  have fin : paramsS ms (k + 1) acc t = (acc, t) → ∀ tm' : Tm, tm' 0 = .ptr rid 0 → tm' 4 = .ptr i4 0 → tm' 6 = .ptr i6 0 →
      AW Tryz.prog T (fun e tm h' => match e with | .exit _ => False | _ => Gives K (aLda 11 (tm 4) h') h') tm' h' := by
    intro hq tm' u0 u4 u6
    rw [hq] at hRR
    refine tail (h := h) (t := t) (ps := acc) (v := v) hon.lt (by rw [hon.nest]; exact hn0) u0 u4 u6 hr hi4 hi6 ho d4 d6h hf n4r n6r n46 ?_
    have e3 : df3 ms n s = wantS ms (wantS ms t [41]) [58] := by simp only [df3, hdf2, ← hRR]
    simpa only [defS, df4, e3, hdf2, ← hRR] using hK
  by_cases hw : t.why = 0
  · by_cases hcl : isB ms t [41] = true
    · have hq : paramsS ms (k + 1) acc t = (acc, t) := by simp [paramsS, hcl]
      simp -dsimp [dR1, c92, t0, hr, rdCells, hw]
      refine is_ok (s := t) hr hon.lt ?_
      simp -dsimp [hcl]
      exact fin hq _ (by simp [t0]) (by simp [t4]) (by simp [t6])
    · have hq : paramsS ms (k + 1) acc t = paramsS ms k (acc ++ [parP ms acc t]) (parT ms acc t) := by simp [paramsS, hcl, hw]
      rw [hq] at hRR
      simp -dsimp [dR1, c92, t0, hr, rdCells, hw]
      refine is_ok (s := t) hr hon.lt ?_
      simp -dsimp [dR1, c92, hcl, t0, t6, hi6, ho.len]
      have hal := hac hw
      have hlt := hon.lt
      have step : ∀ (s1 : St) (tm' : Tm) (H' : Hp), s1 = (if acc = [] then t else wantS ms t [44]) → On ms t s1 → tm' 0 = .ptr rid 0 → tm' 4 = .ptr i4 0 → tm' 6 = .ptr i6 0 → H' rid = .cells (rdCells ms s1) →
          H' i6 = .cells ([.str (nameS ms (df1 ms n s)).1.text, v, .int .i64 0] ++ (ex0.cells ++ [.int .i64 (nameS ms (df1 ms n s)).1.pos])) → H' i4 = .cells ([.str [], .nl, .int .i64 0] ++ (ex0.cells ++ [.int .i64 0])) → Own h H' 48 3 v (acc.map Pm.cells) → Fr h H' rid →
          ∀ Q : AExit → Tm → Hp → Prop, (∀ tm2 H2 v2, tm2 0 = .ptr rid 0 → tm2 4 = .ptr i4 0 → tm2 6 = .ptr i6 0 → H2 rid = .cells (rdCells ms (parT ms acc t)) → H2 i6 = .cells ([.str (nameS ms (df1 ms n s)).1.text, v2, .int .i64 0] ++ (ex0.cells ++ [.int .i64 (nameS ms (df1 ms n s)).1.pos])) → H2 i4 = .cells ([.str [], .nl, .int .i64 0] ++ (ex0.cells ++ [.int .i64 0])) → Own h H2 48 3 v2 ((acc ++ [parP ms acc t]).map Pm.cells) → Fr h H2 rid → Q .normal tm2 H2) →
          AW Tryz.prog B Q tm' H' := by
        rintro s1 tm' H' hs1 hon1 u0 u4 u6 hr1 hi61 hi41 ho1 hf1 Q hQ
        refine mid (h := h) (s := s1) (acc := acc) (v := v) (a0 := AV.str (nameS ms (df1 ms n s)).1.text) (l := AV.int IntKind.i64 0 :: (ex0.cells ++ [AV.int IntKind.i64 (nameS ms (df1 ms n s)).1.pos])) (z4 := [AV.str [], AV.nl, AV.int IntKind.i64 0] ++ (ex0.cells ++ [AV.int IntKind.i64 0])) (by simp) hon1.lt (by omega) u0 u6 hr1 hi61 hi41 d6h n4r n6r n46 ho1 hf1 ?_
        intro tm2 H2 v2 w0 w4 w6 wr wi6 wi4 wo wf
        refine hQ tm2 H2 v2 w0 (w4.trans u4) w6 ?_ wi6 wi4 ?_ wf
        · rw [wr, hs1]; rfl
        · rw [hs1] at wo; exact wo
      have hpt := parT_on hg (acc := acc) hlt
      have hgo := parT_go hg (acc := acc) hlt
      have hple := hpt.le
      by_cases hacc : acc = []
      · simp -dsimp [t0, hacc]
        refine step t _ _ (by simp [hacc]) (On.refl hlt) (by simp [t0]) (by simp [t4]) (by simp [t6]) hr hi6 hi4 ho hf _ ?_
        intro tm2 H2 v2 w0 w4 w6 wr wi6 wi4 wo wf
        exact Again.same k (by omega) ⟨acc ++ [parP ms acc t], parT ms acc t, v2, w0, w4, w6, wr, wi4, wi6, wo, wf, hon.trans hpt, hRR, by simp; omega, by simp; omega, by omega, by omega⟩
      · have hpos : 0 < acc.length := List.length_pos_iff.2 hacc
        simp -dsimp [t0, hacc, hpos]
        refine want_ok (s := t) hg hr hlt ?_
        simp -dsimp
        refine step (wantS ms t [44]) _ _ (by simp [hacc]) (want_on hg hlt) (by simp [t0]) (by simp [t4]) (by simp [t6]) (by simp) (by simp [n6r, hi6]) (by simp [n4r, hi4]) (ho.setc hr) hf.own _ ?_
        intro tm2 H2 v2 w0 w4 w6 wr wi6 wi4 wo wf
        exact Again.same k (by omega) ⟨acc ++ [parP ms acc t], parT ms acc t, v2, w0, w4, w6, wr, wi4, wi6, wo, wf, hon.trans hpt, hRR, by simp; omega, by simp; omega, by omega, by omega⟩
  · have hq : paramsS ms (k + 1) acc t = (acc, t) := by simp [paramsS, hw]
    simp -dsimp [dR1, c92, t0, hr, rdCells, hw]
    exact fin hq _ (by simp [t0]) (by simp [t4]) (by simp [t6])

theorem def_ok (hg : Good ms) {rid n : Nat} {h : Hp} {K : AV → Hp → Prop} {s : St} (ha : s.at_ < ms.length) (hn : 0 ≤ s.nest ∧ s.nest ≤ 32768) (hh : h rid = .cells (rdCells ms s))
    (hK : K (.agg (defS ms n s).1.cells) (hset h rid (.cells (rdCells ms (defS ms n s).2)))) : ACalls Tryz.prog 92 [.ptr rid 0, .int .i64 n] h K := by
  refine calls_of mixed Tryz.func92 comp92 (Nat.le_of_ble_eq_true rfl) ?_
  have hres : ∀ (tm : Tm) (h' : Hp), resOf c92.res tm h' = aLda 11 (tm 4) h' := by intro tm h'; simp [c92]
  simp only [hres]
  have hsplit : c92.code = .seq (match c92.code with | .seq a _ => a | _ => .skip) (.seq (match c92.code with | .seq _ (.seq a _) => a | _ => .skip) dR1) := rfl
  rw [hsplit]
  have tail := @def_r1 ms hg rid
  generalize dR1 = T at *
  simp -dsimp [c92]
  intro i4 d4
  obtain ⟨nr4, n4r⟩ := rd_ne hh d4
  simp -dsimp
  refine next_ok (s := s) (by simp [nr4, hh]) ha ?_
  by_cases hk0 : (nx ms s).kind = 0
  · by_cases hc : 32768 ≤ n
    · have hc' : (32768 : Int) ≤ n := by omega
      have hdf : df1 ms n s = failS ms s 22 := by simp [df1, hk0, hc]
      simp -dsimp [hk0, nr4, hh, rdCells, hc']
      refine fail_ok (s := s) (by simp [nr4, hh]) ha ?_
      simp -dsimp
      exact tail (n := n) (s := s) (h := h) ha hn (by simp) (by simp) (by simp [hdf]) (by simp [n4r]; rfl) d4 ((Fr.refl.set d4).own) n4r hK
    · have hc' : ¬ (32768 : Int) ≤ n := by omega
      have hdf : df1 ms n s = s := by simp [df1, hc]
      simp -dsimp [hk0, nr4, hh, rdCells, hc']
      exact tail (n := n) (s := s) (h := h) ha hn (by simp) (by simp) (by simp [hdf, nr4, hh]) (by simp; rfl) d4 (Fr.refl.set d4) n4r hK
  · have hdf : df1 ms n s = s := by simp [df1, hk0]
    simp -dsimp [hk0]
    exact tail (n := n) (s := s) (h := h) ha hn (by simp) (by simp) (by simp [hdf, nr4, hh]) (by simp; rfl) d4 (Fr.refl.set d4) n4r hK
end Go.Proofs.YtghidedifiolbaaGreat

/- The grammar: programs. -/
namespace Go.Proofs.YtghidedifiolbaaGreat
open Go.AM
variable {ms : List Mk}

def pB : ACode := match c62.code with | .seq _ (.seq _ (.seq (.block _ (.loop (.seq _ (.block _ x)))) _)) => x | _ => .skip

theorem pbody_ok (hg : Good ms) {rid i2 i3 : Nat} {h h' : Hp} {tm' : Tm} {t : St} {v : AV} {acc : List Df} {Q : AExit → Tm → Hp → Prop} (hlt : t.at_ < ms.length) (hn : 0 ≤ t.nest ∧ t.nest ≤ 32768) (hal : acc.length ≤ 50000)
    (u0 : tm' 0 = .ptr rid 0) (u2 : tm' 2 = .ptr i2 0) (u3 : tm' 3 = .ptr i3 0) (hr : h' rid = .cells (rdCells ms t)) (hi2 : h' i2 = .cells [.nl]) (hi3 : h' i3 = .cells [v]) (ho : Own h h' 46 11 v (acc.map Df.cells)) (hf : Fr h h' rid)
    (d3 : h i3 = .dead) (n2r : ¬ i2 = rid) (n3r : ¬ i3 = rid) (nr3 : ¬ rid = i3) (n23 : ¬ i2 = i3)
    (hQ : ∀ tm2 H2 v2, tm2 0 = .ptr rid 0 → tm2 2 = .ptr i2 0 → tm2 3 = .ptr i3 0 → H2 rid = .cells (rdCells ms (defS ms acc.length t).2) → H2 i2 = .cells [.nl] → H2 i3 = .cells [v2] → Own h H2 46 11 v2 ((acc ++ [(defS ms acc.length t).1]).map Df.cells) → Fr h H2 rid → Q .normal tm2 H2) :
    AW Tryz.prog pB Q tm' h' := by
  simp -dsimp [pB, c62, u0, u3, hi3, ho.len]
  refine def_ok hg (n := acc.length) (s := t) hlt hn hr ?_
  simp -dsimp
  intro i4 d4
  simp at d4
  obtain ⟨n4r, nr4, d4⟩ := d4
  have n42 : ¬ i4 = i2 := by rintro rfl; rw [d4] at hi2; cases hi2
  have n43 : ¬ i4 = i3 := by rintro rfl; rw [d4] at hi3; cases hi3
  have n24 : ¬ i2 = i4 := fun x => n42 x.symm
  have n34 : ¬ i3 = i4 := fun x => n43 x.symm
  have tk : (defS ms acc.length t).1.cells.take 11 = (defS ms acc.length t).1.cells := List.take_of_length_le (by simp)
  have dk : (defS ms acc.length t).1.cells.drop 11 = [] := List.drop_eq_nil_of_le (by simp)
  simp -dsimp [u3, n34, n3r, hi3, tk, dk]
  intro i5 d5
  simp at d5
  have n54 : ¬ i5 = i4 := by rintro rfl; simp at d5
  have n5r : ¬ i5 = rid := by rintro rfl; simp at d5
  have d5' : h' i5 = .dead := by
    repeat (obtain ⟨_, d5⟩ := d5)
    exact d5
  have n52 : ¬ i5 = i2 := by rintro rfl; rw [d5'] at hi2; cases hi2
  have n53 : ¬ i5 = i3 := by rintro rfl; rw [d5'] at hi3; cases hi3
  have n25 : ¬ i2 = i5 := fun x => n52 x.symm
  have n35 : ¬ i3 = i5 := fun x => n53 x.symm
  have nr5 : ¬ rid = i5 := fun x => n5r x.symm
  simp -dsimp
  refine Own.app (h := h) (rid := rid) (rows := acc.map Df.cells) (x := rdCells ms (defS ms acc.length t).2) ?_ ?_ ?_ (by simp) (by simp; omega) (by simp; omega) (fun v' h2 ho2 hf2 hkeep => ?_)
  · repeat first | exact ho | refine Own.set ?_ (by intro a b c; simp [hr, n4r, n54, n5r, nr4, d4, d5'])
  · have := hf.dead hr d4
    have := hf.dead hr d5'
    repeat first | exact hf | refine Fr.own ?_ | refine Fr.set ?_ (by assumption)
  · simp [nr4, nr5]
  have e3 : h2 i3 = .cells [v] := hkeep i3 _ (by simp [n3r, n34, n35, hi3])
  have er : h2 rid = .cells (rdCells ms (defS ms acc.length t).2) := hkeep rid _ (by simp [nr4, nr5])
  have e2 : h2 i2 = .cells [.nl] := hkeep i2 _ (by simp [n2r, n24, n25, hi2])
  simp -dsimp [u3, e3, ho2.flat]
  exact hQ _ _ v' (by simp [u0]) (by simp [u2]) (by simp [u3]) (by simp [nr3, er]) (by simp [n23, e2]) (by simp) (by simpa using ho2.setc e3) (hf2.set d3)

theorem program_ok (hg : Good ms) {rid : Nat} {h : Hp} {K : AV → Hp → Prop} {s : St} (ha : s.at_ < ms.length) (hn : 0 ≤ s.nest ∧ s.nest ≤ 32768) (hh : h rid = .cells (rdCells ms s))
    (hK : K (.agg [rowsAV ((programS ms (ms.length + 1) [] s).1.map Df.cells)]) (hset h rid (.cells (rdCells ms (programS ms (ms.length + 1) [] s).2)))) : ACalls Tryz.prog 62 [.ptr rid 0] h K := by
  refine calls_of mixed Tryz.func62 comp62 (Nat.le_of_ble_eq_true rfl) ?_
  have hl := hg.le
  have hsplit : c62.code = .seq (match c62.code with | .seq a _ => a | _ => .skip) (.seq (match c62.code with | .seq _ (.seq a _) => a | _ => .skip) (.seq (.block 0 (.loop (.seq (match c62.code with | .seq _ (.seq _ (.seq (.block _ (.loop (.seq a _))) _)) => a | _ => .skip) (.block 1 pB)))) (match c62.code with | .seq _ (.seq _ (.seq _ a)) => a | _ => .skip))) := rfl
  rw [hsplit]
  have pb := @pbody_ok ms hg rid
  generalize pB = B at *
  simp -dsimp [c62]
  intro i2 d2
  obtain ⟨nr2, n2r⟩ := rd_ne hh d2
  simp -dsimp
  intro i3 d3
  simp at d3
  obtain ⟨n32, n23, d3⟩ := d3
  obtain ⟨nr3, n3r⟩ := rd_ne hh d3
  simp -dsimp
  generalize hR : programS ms (ms.length + 1) [] s = R at *
  refine ALoop.start (fun k tm h' => ∃ (acc : List Df) (t : St) (v : AV), tm 0 = .ptr rid 0 ∧ tm 2 = .ptr i2 0 ∧ tm 3 = .ptr i3 0 ∧ h' rid = .cells (rdCells ms t) ∧ h' i2 = .cells [.nl] ∧ h' i3 = .cells [v] ∧ Own h h' 46 11 v (acc.map Df.cells) ∧ Fr h h' rid ∧ On ms s t ∧
    programS ms k acc t = R ∧ (t.why = 0 → acc.length ≤ t.at_) ∧ acc.length ≤ t.at_ + 1 ∧ 1 ≤ k ∧ (t.why = 0 → ms.length + 1 ≤ t.at_ + k)) (ms.length + 1)
    ⟨[], s, .nl, by simp, by simp, by simp, by simp [nr2, nr3, hh], by simp [n23], by simp, Own.nil, (Fr.refl.set d2).set d3, On.refl ha, hR, by simp, by simp, by omega, by omega⟩ ?_
  rintro k tm h' ⟨acc, t, v, t0, t2, t3, hr, hi2, hi3, ho, hf, hon, hRR, hac, hac1, hk1, hfu⟩
  obtain ⟨k, rfl⟩ : ∃ q, k = q + 1 := ⟨k - 1, by omega⟩
  have hlt := hon.lt
  have fin : programS ms (k + 1) acc t = (acc, t) → Gives K (some (.agg [v])) (hset h' i2 (.cells [v])) := by
    intro hq
    rw [hq] at hRR
    subst hRR
    refine Gives.frz (h' := hset h rid (.cells (rdCells ms t))) ((hf.set d2).sub (by simp [nr2, hr])) (Frz.cell (a := []) (b := []) (Own.frz (h := h) (rid := rid) (e := 46) (sz := 11) (x := rdCells ms t) (rows := acc.map Df.cells) (ho.setc hi2) (by simp [nr2, hr]))) hK
  have step : t.why = 0 → programS ms (k + 1) acc t = programS ms k (acc ++ [(defS ms acc.length t).1]) (defS ms acc.length t).2 → ∀ tm' : Tm, tm' 0 = .ptr rid 0 → tm' 2 = .ptr i2 0 → tm' 3 = .ptr i3 0 → ∀ tm2 H2 v2, tm2 0 = .ptr rid 0 → tm2 2 = .ptr i2 0 → tm2 3 = .ptr i3 0 → H2 rid = .cells (rdCells ms (defS ms acc.length t).2) → H2 i2 = .cells [.nl] → H2 i3 = .cells [v2] → Own h H2 46 11 v2 ((acc ++ [(defS ms acc.length t).1]).map Df.cells) → Fr h H2 rid →
      (fun (k : Nat) (tm : Tm) (h' : Hp) => ∃ (acc : List Df) (t : St) (v : AV), tm 0 = .ptr rid 0 ∧ tm 2 = .ptr i2 0 ∧ tm 3 = .ptr i3 0 ∧ h' rid = .cells (rdCells ms t) ∧ h' i2 = .cells [.nl] ∧ h' i3 = .cells [v] ∧ Own h h' 46 11 v (acc.map Df.cells) ∧ Fr h h' rid ∧ On ms s t ∧
    programS ms k acc t = R ∧ (t.why = 0 → acc.length ≤ t.at_) ∧ acc.length ≤ t.at_ + 1 ∧ 1 ≤ k ∧ (t.why = 0 → ms.length + 1 ≤ t.at_ + k)) k tm2 H2 := by
    intro hw hq tm' u0 u2 u3 tm2 H2 v2 w0 w2 w3 wr wi2 wi3 wo wf
    have hal := hac hw
    have hdo := def_on hg (n := acc.length) hlt
    have hdg := def_go hg (n := acc.length) hlt
    have hdl := hdo.le
    rw [hq] at hRR
    exact ⟨acc ++ [(defS ms acc.length t).1], (defS ms acc.length t).2, v2, w0, w2, w3, wr, wi2, wi3, wo, wf, hon.trans hdo, hRR, by simp; omega, by simp; omega, by omega, by omega⟩
  by_cases hw : t.why = 0
  · have hal := hac hw
    by_cases hacc : acc = []
    · have hq : programS ms (k + 1) acc t = programS ms k (acc ++ [(defS ms acc.length t).1]) (defS ms acc.length t).2 := by simp [programS, hw, hacc]
      simp -dsimp [c62, t0, t2, t3, hr, hi3, hi2, rdCells, hw, n32, n23, ho.len, hacc]
      refine pb (h := h) (t := t) (v := v) (acc := acc) hlt (by rw [hon.nest]; exact hn) (by omega) (by simp [t0]) (by simp [t2]) (by simp [t3]) hr hi2 hi3 ho hf d3 n2r n3r nr3 n23 ?_
      intro tm2 H2 v2 w0 w2 w3 wr wi2 wi3 wo wf
      exact Again.same k (by omega) (step hw hq _ t0 t2 t3 tm2 H2 v2 w0 w2 w3 wr wi2 wi3 wo wf)
    · have hpos : ¬ acc.length = 0 := fun x => hacc (List.length_eq_zero_iff.1 x)
      simp -dsimp [c62, t0, t2, t3, hr, hi3, hi2, rdCells, hw, n32, n23, ho.len, hacc, hpos]
      refine next_ok (s := t) hr hlt ?_
      by_cases hk4 : (nx ms t).kind = 4
      · have hq : programS ms (k + 1) acc t = (acc, t) := by simp [programS, hw, hacc, hk4]
        simp -dsimp [hk4, t2, t3, hi3, hi2, n32, n23]
        exact fin hq
      · have hq : programS ms (k + 1) acc t = programS ms k (acc ++ [(defS ms acc.length t).1]) (defS ms acc.length t).2 := by simp [programS, hw, hk4]
        simp -dsimp [hk4]
        refine pb (h := h) (t := t) (v := v) (acc := acc) hlt (by rw [hon.nest]; exact hn) (by omega) (by simp [t0]) (by simp [t2]) (by simp [t3]) hr hi2 hi3 ho hf d3 n2r n3r nr3 n23 ?_
        intro tm2 H2 v2 w0 w2 w3 wr wi2 wi3 wo wf
        exact Again.same k (by omega) (step hw hq _ t0 t2 t3 tm2 H2 v2 w0 w2 w3 wr wi2 wi3 wo wf)
  · have hq : programS ms (k + 1) acc t = (acc, t) := by simp [programS, hw]
    simp -dsimp [c62, t0, t2, t3, hr, hi3, hi2, rdCells, hw, n32, n23]
    exact fin hq
end Go.Proofs.YtghidedifiolbaaGreat

/- Parse and read. -/
namespace Go.Proofs.YtghidedifiolbaaGreat
open Go.AM
variable {h : Hp} {K : AV → Hp → Prop}

theorem wide_ok (hK : K (.agg [.int .i64 32768, .int .i64 32768, .int .i64 32768, .int .i64 32768]) h) : ACalls Tryz.prog 30 [] h K := by
  refine calls_of mixed Tryz.func30 comp30 (Nat.le_of_ble_eq_true rfl) ?_
  simp -dsimp [c30]
  intro id hd
  simp -dsimp
  exact Gives.sub (h' := h) (Sub.drop hd) hK

theorem parse_ok {b : Bytes} {t : AV} (ht : t = .fz (bytesAV b) ∨ (b = [] ∧ t = .nl)) (hK : K (.tup [.agg [rowsAV ((parseS b).1.map Df.cells)], .agg [.int .i64 (parseS b).2.1, .int .i64 (parseS b).2.2]]) h) :
    ACalls Tryz.prog 29 [t, .agg [.int .i64 32768, .int .i64 32768, .int .i64 32768, .int .i64 32768]] h K := by
  refine calls_of mixed Tryz.func29 comp29 (Nat.le_of_ble_eq_true rfl) ?_
  have hlen : ∀ h', aLen .sl t h' = some (.int .i64 b.length) := by
    rcases ht with rfl | ⟨rfl, rfl⟩ <;> intro h' <;> simp
  simp -dsimp [c29]
  intro i3 d3
  simp -dsimp
  intro i4 d4
  simp at d4
  obtain ⟨n43, n34, d4⟩ := d4
  simp -dsimp
  intro i5 d5
  simp at d5
  obtain ⟨n54, n45, n53, n35, d5⟩ := d5
  by_cases hb : 32768 < b.length
  · have hb' : (32768 : Int) < b.length := by omega
    have hp : parseS b = ([], 22, 32768) := by simp only [parseS, if_pos hb]
    rw [hp] at hK
    simp -dsimp [n43, n34, n54, n45, n53, n35, hlen, hb', Stable, AIns.wants, QStep]
    refine Gives.sub (h' := h) (by repeat first | exact Sub.refl _ | refine Sub.put ?_ | refine Sub.dropr ?_ (by simp [*])) ?_
    exact hK
  · have hb' : ¬ (32768 : Int) < b.length := by omega
    simp -dsimp [n43, n34, n54, n45, n53, n35, hlen, hb']
    refine marks_ok ht (by omega) ?_
    cases hm : marksS b (b.length + 1) 0 with
    | inr q =>
      have hp : parseS b = ([], 20, (q : Int)) := by simp only [parseS, if_neg hb, hm]
      rw [hp] at hK
      simp -dsimp [marksAV, n43, n34, n54, n45, n53, n35]
      refine Gives.sub (h' := h) (by repeat first | exact Sub.refl _ | refine Sub.put ?_ | refine Sub.dropr ?_ (by simp [*])) ?_
      exact hK
    | inl ms =>
      have hg := marks_good (by omega) hm
      simp -dsimp [marksAV, n43, n34, n54, n45, n53, n35]
      intro i6 d6
      simp at d6
      obtain ⟨n63, n36, n65, n56, n64, n46, _, _, d6⟩ := d6
      simp -dsimp
      have hpos := hg.pos
      refine program_ok hg (s := ⟨0, 0, 0, 0⟩) hpos (by decide) (by simp [rdCells]) ?_
      generalize hP : programS ms (ms.length + 1) [] ⟨0, 0, 0, 0⟩ = P at *
      simp -dsimp
      intro i9 d9
      simp at d9
      obtain ⟨n96, n69, _, _, rest⟩ := d9
      have n95 : ¬ i9 = i5 := by rintro rfl; simp at rest
      have n94 : ¬ i9 = i4 := by rintro rfl; simp [n45] at rest
      have d9' : h i9 = .dead := by
        repeat (obtain ⟨_, rest⟩ := rest)
        exact rest
      have n59 : ¬ i5 = i9 := fun x => n95 x.symm
      have n49 : ¬ i4 = i9 := fun x => n94 x.symm
      by_cases hw : P.2.why = 0
      · have hp : parseS b = (P.1, 0, 0) := by simp [parseS, hb, hm, hP, hw]
        rw [hp] at hK
        simp -dsimp [n69, n96, rdCells, hw, n43, n34, n54, n45, n53, n35, n63, n36, n65, n56, n64, n46, n95, n59, n94, n49]
        refine Gives.sub (h' := h) ?_ hK
        repeat first | exact Sub.refl _ | refine Sub.dropr ?_ (by assumption)
      · have hp : parseS b = ([], P.2.why, P.2.wh) := by simp [parseS, hb, hm, hP, hw]
        rw [hp] at hK
        simp -dsimp [n69, n96, rdCells, hw, n43, n34, n54, n45, n53, n35, n63, n36, n65, n56, n64, n46, n95, n59, n94, n49, Stable, AIns.wants, QStep]
        refine Gives.sub (h' := h) ?_ hK
        repeat first | exact Sub.refl _ | refine Sub.dropr ?_ (by assumption)

end Go.Proofs.YtghidedifiolbaaGreat

/- The program's points and tuples. -/
namespace Go.Proofs.YtghidedifiolbaaGreat
open Go.AM
variable {h : Hp} {K : AV → Hp → Prop}

theorem hat (h : Hp) (i : Nat) (o : AObj) : hset h i o i = o := by simp
def topP (t : Int) : Int × Int := if topS t < 0 then (0, 3) else (topS t, 0)
theorem ptop_ok {t : Int} (hK : K (.tup [.int .i64 (topP t).1, .int .i64 (topP t).2]) h) : ACalls Tryz.prog 67 [.int .i64 t] h K := by
  refine calls_of mixed Tryz.func67 comp67 (Nat.le_of_ble_eq_true rfl) ?_
  by_cases t1 : t = 1
  · subst t1
    simp -dsimp [c67]
    exact Gives.same (by simpa [topP, topS] using hK)
  by_cases t2 : t = 2
  · subst t2
    simp -dsimp [c67]
    exact Gives.same (by simpa [topP, topS] using hK)
  by_cases t3 : t = 3
  · subst t3
    simp -dsimp [c67]
    exact Gives.same (by simpa [topP, topS] using hK)
  · simp -dsimp [c67, t1, t2, t3]
    exact Gives.same (by simpa [topP, topS, t1, t2, t3] using hK)
def chkP (t p : Int) : Int := if topS t < 0 then 3 else if isPt t p then 0 else 2
theorem pchk_ok {t p : Int} (hK : K (.int .i64 (chkP t p)) h) : ACalls Tryz.prog 36 [.int .i64 t, .int .i64 p] h K := by
  refine calls_of mixed Tryz.func36 comp36 (Nat.le_of_ble_eq_true rfl) ?_
  simp -dsimp [c36]
  refine ptop_ok ?_
  simp only [chkP] at hK
  by_cases ht : topS t < 0
  · simp only [ht, if_true] at hK
    simp -dsimp [topP, ht]
    exact Gives.same hK
  · simp only [ht, if_false] at hK
    by_cases h0 : p < 0
    · have : isPt t p = false := by simp [isPt]; omega
      rw [this] at hK
      simp -dsimp [topP, ht, h0]
      exact Gives.same hK
    · by_cases h1 : topS t < p
      · have : isPt t p = false := by simp [isPt]; omega
        rw [this] at hK
        simp -dsimp [topP, ht, h0, h1]
        exact Gives.same hK
      · have : isPt t p = true := by simp [isPt]; omega
        rw [this] at hK
        simp -dsimp [topP, ht, h0, h1]
        exact Gives.same hK
theorem pcons_ok {a b : Int} (ha : 0 ≤ a ∧ a ≤ 1) (hb : 0 ≤ b ∧ b ≤ 3) (hK : K (.tup [.int .i64 (consP a b), .int .i64 0]) h) : ACalls Tryz.prog 103 [.int .i64 a, .int .i64 b] h K := by
  have c1 : chkP 1 a = 0 := by simp [chkP, topS, isPt]; omega
  have c2 : chkP 3 b = 0 := by simp [chkP, topS, isPt]; omega
  have hw : IntKind.i64.wrap (2 + a) = 2 + a := by rw [wrap_i64] <;> omega
  refine calls_of mixed Tryz.func103 comp103 (Nat.le_of_ble_eq_true rfl) ?_
  simp -dsimp [c103]
  refine pchk_ok ?_
  rw [c1]
  simp -dsimp
  refine pchk_ok ?_
  rw [c2]
  simp -dsimp [hw]
  have e : (if 1 < (if 2 + a < b then 2 + a else b) then (if 2 + a < b then 2 + a else b) else 1) = consP a b := by
    simp only [consP]; split <;> split <;> omega
  rw [e]
  exact Gives.same hK
def brRow (w : Bool × Int × Int) : List AV := [.bool w.1, .int .i64 w.2.1, .int .i64 w.2.2]
theorem pcases_ok {q : Int} (hq : 0 ≤ q ∧ q ≤ 3) (hK : K (.tup [rowsAV ((casesS q).map brRow), .int .i64 0]) h) : ACalls Tryz.prog 102 [.int .i64 q] h K := by
  have c1 : chkP 3 q = 0 := by simp [chkP, topS, isPt]; omega
  refine calls_of mixed Tryz.func102 comp102 (Nat.le_of_ble_eq_true rfl) ?_
  simp -dsimp [c102]
  refine pchk_ok ?_
  rw [c1]
  have h4 : q = 0 ∨ q = 1 ∨ q = 2 ∨ q = 3 := by omega
  rcases h4 with rfl | rfl | rfl | rfl
  · simp -dsimp
    exact Gives.same (by simpa [casesS, rowsAV] using hK)
  · simp -dsimp
    intro i1 d1
    simp -dsimp
    exact Gives.frz (h' := h) ((Keeps.refl h).new d1).sub (Frz.pair (Frz.rows (xs := [[.bool false, .int .i64 1, .int .i64 1]]) (hat _ _ _) d1) (.same _)) (by simpa [casesS, rowsAV, brRow] using hK)
  · simp -dsimp
    intro i1 d1
    simp -dsimp
    exact Gives.frz (h' := h) ((Keeps.refl h).new d1).sub (Frz.pair (Frz.rows (xs := [[.bool false, .int .i64 0, .int .i64 3], [.bool false, .int .i64 1, .int .i64 2]]) (hat _ _ _) d1) (.same _)) (by simpa [casesS, rowsAV, brRow] using hK)
  · simp -dsimp
    intro i1 d1
    simp -dsimp
    exact Gives.frz (h' := h) ((Keeps.refl h).new d1).sub (Frz.pair (Frz.rows (xs := [[.bool true, .int .i64 0, .int .i64 0], [.bool false, .int .i64 1, .int .i64 3]]) (hat _ _ _) d1) (.same _)) (by simpa [casesS, rowsAV, brRow] using hK)
def sizP (t : Int) : Int × Int := ((topP t).1 + 1, (topP t).2)
theorem tsize_ok {t : Int} (hK : K (.tup [.int .i64 (sizP t).1, .int .i64 (sizP t).2]) h) : ACalls Tryz.prog 83 [.int .i64 t] h K := by
  have hr : 0 ≤ (topP t).1 ∧ (topP t).1 ≤ 3 := by
    have := topS_le t
    simp only [topP]; split <;> simp <;> omega
  have hw : IntKind.i64.wrap ((topP t).1 + 1) = (topP t).1 + 1 := by rw [wrap_i64] <;> omega
  refine calls_of mixed Tryz.func83 comp83 (Nat.le_of_ble_eq_true rfl) ?_
  simp -dsimp [c83]
  refine ptop_ok ?_
  simp -dsimp [hw]
  exact Gives.same hK
theorem sizP_ok {t : Int} (ht : ¬ topS t < 0) : sizP t = ((sizT t : Int), 0) := by
  simp only [sizP, topP, ht, if_false, sizT]
  congr 1; omega
theorem sizP_bad {t : Int} (ht : topS t < 0) : sizP t = (1, 3) := by simp [sizP, topP, ht]

/-! ### How many tuples; a tuple's number -/
theorem badT_snoc (l : List Int) (t : Int) : badT (l ++ [t]) = (badT l || decide (topS t < 0)) := by simp [badT]
theorem badT_at {l : List Int} {i : Nat} {t : Int} (h : l[i]? = some t) (ht : topS t < 0) : badT l = true := by
  simp only [badT, List.any_eq_true, decide_eq_true_eq]
  exact ⟨t, List.mem_of_getElem? h, ht⟩
theorem intRows_get {l : List Int} {i : Nat} (h : i < l.length) : (intRows l)[i]? = some [.int .i64 l[i]] := by simp [intRows, h]
theorem tcnt_ok {e : Nat} {l : List Int} {v : AV} (hl : l.length ≤ 9223372036854775807) (hv : LsV e 1 h v (intRows l)) (hK : K (.tup [.int .i64 (cntS l).1, .int .i64 (cntS l).2]) h) : ACalls Tryz.prog 82 [v] h K := by
  have hlen := hv.len
  rw [intRows_length] at hlen
  refine calls_of mixed Tryz.func82 comp82 (Nat.le_of_ble_eq_true rfl) ?_
  simp -dsimp [c82, hlen]
  refine ALoop.start (fun n tm h' => ∃ i : Nat, i + n = l.length ∧ tm 9 = v ∧ tm 10 = .int .i64 l.length ∧ tm 11 = .int .i64 i ∧ tm 4 = .int .i64 ((min (prodS (l.take i)) 4097 : Nat) : Int) ∧ badT (l.take i) = false ∧ h' = h) l.length
    ⟨0, by simp, by simp, by simp, by simp, by simp [prodS], by simp [badT], rfl⟩ ?_
  rintro n tm h' ⟨i, hi, t9, t10, t11, t4, hb, rfl⟩
  by_cases hlt : i < l.length
  · have hw1 : IntKind.i64.wrap ((i : Int) + 1) = ((i + 1 : Nat) : Int) := by rw [wrap_i64] <;> omega
    obtain ⟨q, q1, _, q3, _⟩ := hv.get (intRows_get hlt) rfl
    have q4 := q3 _ rfl
    have htk := take_snoc l hlt
    have hli : l[i]? = some l[i] := List.getElem?_eq_getElem hlt
    generalize l[i] = t at *
    simp -dsimp [t9, t10, t11, hlt, q1, q4]
    refine tsize_ok ?_
    by_cases ht : topS t < 0
    · rw [sizP_bad ht]
      simp -dsimp
      exact Gives.same (by simpa [cntS, badT_at hli ht] using hK)
    · rw [sizP_ok ht]
      have hs := sizT_pos ht
      have hmul : ((min (prodS (l.take i)) 4097 : Nat) : Int) * (sizT t : Int) = ((min (prodS (l.take i)) 4097 * sizT t : Nat) : Int) := by simp
      have hle : min (prodS (l.take i)) 4097 * sizT t ≤ 4097 * 4 := Nat.mul_le_mul (Nat.min_le_right _ _) hs.2
      have hw2 : IntKind.i64.wrap (((min (prodS (l.take i)) 4097 : Nat) : Int) * (sizT t : Int)) = ((min (prodS (l.take i)) 4097 * sizT t : Nat) : Int) := by rw [hmul, wrap_i64] <;> omega
      have hst := cap_step (prodS (l.take i)) (sizT t) (by omega)
      have hpr : prodS (l.take (i + 1)) = prodS (l.take i) * sizT t := by rw [htk, prodS_snoc]
      have hmin : (if (4097 : Int) < ((min (prodS (l.take i)) 4097 * sizT t : Nat) : Int) then (4097 : Int) else ((min (prodS (l.take i)) 4097 * sizT t : Nat) : Int)) = ((min (prodS (l.take (i + 1))) 4097 : Nat) : Int) := by
        rw [hpr, ← hst]
        split <;> omega
      simp -dsimp [t4, t11, hw1, hw2, -Int.natCast_mul]
      refine Again.same (n - 1) (by omega) ⟨i + 1, by omega, by simp [t9], by simp [t10], by simp, ?_, ?_, rfl⟩
      · simp [hmin, -Int.natCast_mul]
      · rw [htk, badT_snoc, hb]; simpa using ht
  · have htk : l.take i = l := List.take_of_length_le (by omega)
    rw [htk] at t4 hb
    by_cases hp : 4096 < prodS l
    · have h1 : (4096 : Int) < ((min (prodS l) 4097 : Nat) : Int) := by omega
      simp -dsimp [t10, t11, hlt, t4, h1]
      exact Gives.same (by simpa [cntS, hb, hp] using hK)
    · have h1 : ¬ (4096 : Int) < ((min (prodS l) 4097 : Nat) : Int) := by omega
      have h2 : min (prodS l) 4097 = prodS l := by omega
      simp -dsimp [t10, t11, hlt, t4, h1]
      rw [h2]
      exact Gives.same (by simpa [cntS, hb, hp] using hK)
end Go.Proofs.YtghidedifiolbaaGreat

/- The program's rows: words, right rows, a cell, how many cells hold a value. -/
namespace Go.Proofs.YtghidedifiolbaaGreat
open Go.AM
variable {h : Hp} {K : AV → Hp → Prop}

theorem pop_ok {x : Nat} (hx : x < 2 ^ 64) (hK : K (.int .i64 (popN x)) h) : ACalls Tryz.prog 129 [.int .u64 x] h K := by
  have m0 : msk 0x55 8 = 6148914691236517205 := by decide
  have m1 : msk 0x33 8 = 3689348814741910323 := by decide
  have m2 : msk 0x0f 8 = 1085102592571150095 := by decide
  have hpop : popN x = (let y := F3 8 (F2 8 (F1 8 x)); let y := y + y / 256; let y := y + y / 65536; let y := y + y / 4294967296; y % 128) := rfl
  simp only [F1, F2, F3, m0, m1, m2] at hpop
  obtain ⟨a, ha⟩ : ∃ a, a = x / 2 := ⟨_, rfl⟩
  obtain ⟨b, hb⟩ : ∃ b, b = a &&& 6148914691236517205 := ⟨_, rfl⟩
  obtain ⟨c, hc⟩ : ∃ c, c = x &&& 6148914691236517205 := ⟨_, rfl⟩
  obtain ⟨d, hd⟩ : ∃ d, d = b + c := ⟨_, rfl⟩
  obtain ⟨e, he⟩ : ∃ e, e = d / 4 := ⟨_, rfl⟩
  obtain ⟨f, hf⟩ : ∃ f, f = e &&& 3689348814741910323 := ⟨_, rfl⟩
  obtain ⟨g, hg⟩ : ∃ g, g = d &&& 3689348814741910323 := ⟨_, rfl⟩
  obtain ⟨i, hi⟩ : ∃ i, i = f + g := ⟨_, rfl⟩
  obtain ⟨j, hj⟩ : ∃ j, j = i / 16 := ⟨_, rfl⟩
  obtain ⟨k, hk⟩ : ∃ k, k = j + i := ⟨_, rfl⟩
  obtain ⟨l, hl⟩ : ∃ l, l = k &&& 1085102592571150095 := ⟨_, rfl⟩
  obtain ⟨m, hm⟩ : ∃ m, m = l / 256 := ⟨_, rfl⟩
  obtain ⟨n, hn⟩ : ∃ n, n = l + m := ⟨_, rfl⟩
  obtain ⟨o, ho⟩ : ∃ o, o = n / 65536 := ⟨_, rfl⟩
  obtain ⟨p, hp⟩ : ∃ p, p = n + o := ⟨_, rfl⟩
  obtain ⟨q, hq⟩ : ∃ q, q = p / 4294967296 := ⟨_, rfl⟩
  obtain ⟨r, hr⟩ : ∃ r, r = p + q := ⟨_, rfl⟩
  rw [← ha, ← hb, ← hc, ← hd, ← he, ← hf, ← hg, ← hi, ← hj, ← hk, ← hl, ← hm, ← hn, ← ho, ← hp, ← hq, ← hr] at hpop
  have bb : b ≤ 6148914691236517205 := hb ▸ Nat.and_le_right
  have bc : c ≤ 6148914691236517205 := hc ▸ Nat.and_le_right
  have bf : f ≤ 3689348814741910323 := hf ▸ Nat.and_le_right
  have bg : g ≤ 3689348814741910323 := hg ▸ Nat.and_le_right
  have bl : l ≤ 1085102592571150095 := hl ▸ Nat.and_le_right
  have s1 : abin .shr (.int .u64 (x : Int)) (.int .u64 1) = some (.int .u64 (a : Int)) := by rw [ha]; exact u64_shr 1 .u64 (by decide)
  have s2 : abin .and (.int .u64 (a : Int)) (.int .u64 6148914691236517205) = some (.int .u64 (b : Int)) := by rw [hb]; exact u64_and (by omega) (by decide)
  have s3 : abin .and (.int .u64 (x : Int)) (.int .u64 6148914691236517205) = some (.int .u64 (c : Int)) := by rw [hc]; exact u64_and (by omega) (by decide)
  have s4 : IntKind.u64.wrap ((b : Int) + (c : Int)) = (d : Int) := by rw [wrap_u64 (by omega) (by omega)]; omega
  have s5 : abin .shr (.int .u64 (d : Int)) (.int .u64 2) = some (.int .u64 (e : Int)) := by rw [he]; exact u64_shr 2 .u64 (by decide)
  have s6 : abin .and (.int .u64 (e : Int)) (.int .u64 3689348814741910323) = some (.int .u64 (f : Int)) := by rw [hf]; exact u64_and (by omega) (by decide)
  have s7 : abin .and (.int .u64 (d : Int)) (.int .u64 3689348814741910323) = some (.int .u64 (g : Int)) := by rw [hg]; exact u64_and (by omega) (by decide)
  have s8 : IntKind.u64.wrap ((f : Int) + (g : Int)) = (i : Int) := by rw [wrap_u64 (by omega) (by omega)]; omega
  have s9 : abin .shr (.int .u64 (i : Int)) (.int .u64 4) = some (.int .u64 (j : Int)) := by rw [hj]; exact u64_shr 4 .u64 (by decide)
  have s10 : IntKind.u64.wrap ((j : Int) + (i : Int)) = (k : Int) := by rw [wrap_u64 (by omega) (by omega)]; omega
  have s11 : abin .and (.int .u64 (k : Int)) (.int .u64 1085102592571150095) = some (.int .u64 (l : Int)) := by rw [hl]; exact u64_and (by omega) (by decide)
  have s12 : abin .shr (.int .u64 (l : Int)) (.int .u64 8) = some (.int .u64 (m : Int)) := by rw [hm]; exact u64_shr 8 .u64 (by decide)
  have s13 : IntKind.u64.wrap ((l : Int) + (m : Int)) = (n : Int) := by rw [wrap_u64 (by omega) (by omega)]; omega
  have s14 : abin .shr (.int .u64 (n : Int)) (.int .u64 16) = some (.int .u64 (o : Int)) := by rw [ho]; exact u64_shr 16 .u64 (by decide)
  have s15 : IntKind.u64.wrap ((n : Int) + (o : Int)) = (p : Int) := by rw [wrap_u64 (by omega) (by omega)]; omega
  have s16 : abin .shr (.int .u64 (p : Int)) (.int .u64 32) = some (.int .u64 (q : Int)) := by rw [hq]; exact u64_shr 32 .u64 (by decide)
  have s17 : IntKind.u64.wrap ((p : Int) + (q : Int)) = (r : Int) := by rw [wrap_u64 (by omega) (by omega)]; omega
  have s18 : IntKind.i64.wrap (r : Int) = (r : Int) := by rw [wrap_i64] <;> omega
  have s19 : abin .and (.int .i64 (r : Int)) (.int .i64 127) = some (.int .i64 (popN x : Int)) := by rw [hpop]; exact i64_and127 (by omega)
  clear ha hb hc hd he hf hg hi hj hk hl hm hn ho hp hq hr hpop
  refine calls_of mixed Tryz.func129 comp129 (Nat.le_of_ble_eq_true rfl) ?_
  simp -dsimp [c129, s1, s2, s3, s4, s5, s6, s7, s8, s9, s10, s11, s12, s13, s14, s15, s16, s17, s18, s19]
  exact Gives.same hK
theorem rwords_ok {n : Int} (h0 : 0 ≤ n) (h1 : n ≤ 4096) (hK : K (.int .i64 (wordsN n : Nat)) h) : ACalls Tryz.prog 112 [.int .i64 n] h K := by
  have hw : IntKind.i64.wrap (n + 31) = n + 31 := by rw [wrap_i64] <;> omega
  have hd : (n + 31).tdiv 32 = ((wordsN n : Nat) : Int) := by
    rw [Int.tdiv_eq_ediv_of_nonneg (by omega), wordsN]; omega
  have hw2 : IntKind.i64.wrap ((wordsN n : Nat) : Int) = ((wordsN n : Nat) : Int) := by
    have : wordsN n ≤ 200 := by simp only [wordsN]; omega
    rw [wrap_i64] <;> omega
  refine calls_of mixed Tryz.func112 comp112 (Nat.le_of_ble_eq_true rfl) ?_
  simp -dsimp [c112, hw, hd, hw2]
  exact Gives.same hK
theorem bitsAV_get {l : List Nat} {i : Nat} (h : i < l.length) : (bitsAV l)[i]? = some [.int .u64 (l[i] : Nat)] := by simp [bitsAV, h]
theorem rowOK_lens {n : Int} {bits : List Nat} (hd : ¬ (0 ≤ n ∧ n ≤ 4096 ∧ bits.length = wordsN n)) : rowOK n bits = false := by
  simp only [rowOK, hd, decide_false, Bool.false_and]
theorem rowOK_full {n : Int} {bits : List Nat} (h0 : 0 ≤ n) (h1 : n ≤ 4096) (hl : bits.length = wordsN n) (hp : n % 32 = 0) : rowOK n bits = true := by
  simp only [rowOK, Bool.and_eq_true, decide_eq_true_eq, List.all_eq_true]
  refine ⟨⟨h0, h1, hl⟩, fun i hi => .inl ?_⟩
  simp only [List.mem_range, hl, wordsN] at hi
  omega
theorem rowOK_part {n : Int} {bits : List Nat} {x : Nat} (hw : x < 2 ^ 64) (h0 : 0 ≤ n) (h1 : n ≤ 4096) (hl : bits.length = wordsN n) (hp : 0 < n % 32) (hx : bits[bits.length - 1]? = some x) : rowOK n bits = decide (x / 2 ^ (2 * (n % 32).toNat) = 0) := by
  have hz := word_zero (part := (n % 32).toNat) hw (by omega)
  have hwn : (wordsN n : Int) = (n + 31) / 32 := by simp only [wordsN]; omega
  rw [Bool.eq_iff_iff, decide_eq_true_eq, hz]
  simp only [rowOK, Bool.and_eq_true, decide_eq_true_eq, List.all_eq_true, List.mem_range]
  constructor
  · rintro ⟨_, ha⟩ j j1 j2
    have := ha (32 * (bits.length - 1) + j) (by omega)
    rcases this with h | h
    · omega
    · have e1 : (32 * (bits.length - 1) + j) / 32 = bits.length - 1 := by omega
      have e2 : (32 * (bits.length - 1) + j) % 32 = j := by omega
      simpa [cellB, e1, e2, List.getD, hx] using h
  · intro ha
    refine ⟨⟨h0, h1, hl⟩, fun i hi => ?_⟩
    by_cases hin : (i : Int) < n
    · exact .inl hin
    · right
      have e1 : i / 32 = bits.length - 1 := by omega
      have := ha (i % 32) (by omega) (by omega)
      simpa [cellB, e1, List.getD, hx] using this
theorem rchk_ok {eb : Nat} {n : Int} {bits : List Nat} {v : AV} (hl : bits.length ≤ 9223372036854775807) (hb : W64 bits) (hv : LsV eb 1 h v (bitsAV bits)) (hK : K (.int .i64 (if rowOK n bits then 0 else 3)) h) : ACalls Tryz.prog 87 [.agg [.int .i64 n, v]] h K := by
  have hlen := hv.len
  rw [bitsAV_length] at hlen
  refine calls_of mixed Tryz.func87 comp87 (Nat.le_of_ble_eq_true rfl) ?_
  simp -dsimp [c87]
  intro i1 d1
  have k1 : Keeps h (hset h i1 (.cells [.int .i64 n, v])) := (Keeps.refl h).new d1
  by_cases h0 : n < 0
  · rw [rowOK_lens (by omega)] at hK
    simp -dsimp [h0]
    exact Gives.sub k1.sub hK
  by_cases h1 : 4096 < n
  · rw [rowOK_lens (by omega)] at hK
    simp -dsimp [h0, h1]
    exact Gives.sub k1.sub hK
  simp -dsimp [h0, h1, hlen]
  refine rwords_ok (by omega) (by omega) ?_
  have hv1 := hv.keep (h1 := hset h i1 (.cells [.int .i64 n, v])) (fun id sz xs hh => at_new hh (by simp) d1)
  by_cases h2 : bits.length = wordsN n
  · have h2' : ((bits.length : Int) = ((wordsN n : Nat) : Int)) := by omega
    have hm : n.tmod 32 = n % 32 := Int.tmod_eq_emod_of_nonneg (by omega)
    by_cases hp : n % 32 = 0
    · rw [rowOK_full (by omega) (by omega) h2 hp] at hK
      simp -dsimp [Stable, AIns.wants, QStep, hlen, h2', hm, hp, h0, h1]
      exact Gives.sub k1.sub hK
    · have hpos : 0 < n % 32 := by omega
      have hwl : 1 ≤ bits.length := by rw [h2]; simp only [wordsN]; omega
      have hlt : bits.length - 1 < bits.length := by omega
      obtain ⟨q, q1, _, q3, _⟩ := hv1.get (bitsAV_get hlt) rfl
      have q4 := q3 _ rfl
      have hx : bits[bits.length - 1]? = some bits[bits.length - 1] := List.getElem?_eq_getElem hlt
      have hxw := hb _ (List.getElem_mem hlt)
      generalize bits[bits.length - 1] = x at *
      rw [rowOK_part hxw (by omega) (by omega) h2 hpos hx] at hK
      have hsub : IntKind.i64.wrap ((bits.length : Int) - 1) = ((bits.length - 1 : Nat) : Int) := by rw [wrap_i64] <;> omega
      have hsub2 : IntKind.i64.wrap (((wordsN n : Nat) : Int) - 1) = ((bits.length - 1 : Nat) : Int) := by rw [← h2']; exact hsub
      have hmul : IntKind.i64.wrap (2 * (n % 32)) = ((2 * (n % 32).toNat : Nat) : Int) := by rw [wrap_i64] <;> omega
      have hsh : abin .shr (.int .u64 (x : Int)) (.int .i64 ((2 * (n % 32).toNat : Nat) : Int)) = some (.int .u64 ((x / 2 ^ (2 * (n % 32).toNat) : Nat) : Int)) := u64_shr _ .i64 (by omega)
      generalize x / 2 ^ (2 * (n % 32).toNat) = z at *
      generalize 2 * (n % 32).toNat = sh at *
      by_cases hz : z = 0
      · subst hz
        simp -dsimp [Stable, AIns.wants, QStep, hlen, h2', hm, hpos, hsub, hsub2, hmul, hsh, q1, q4, h0, h1]
        exact Gives.sub k1.sub (by simpa using hK)
      · have hz' : ¬ (z : Int) = 0 := by omega
        simp -dsimp [Stable, AIns.wants, QStep, hlen, h2', hm, hpos, hsub, hsub2, hmul, hsh, q1, q4, hz', hz, h0, h1]
        exact Gives.sub k1.sub (by simpa [hz] using hK)
  · have h2' : ¬ ((bits.length : Int) = ((wordsN n : Nat) : Int)) := by omega
    rw [rowOK_lens (by omega)] at hK
    simp -dsimp [Stable, AIns.wants, QStep, hlen, h2', h2, h0, h1]
    exact Gives.sub k1.sub hK
end Go.Proofs.YtghidedifiolbaaGreat
