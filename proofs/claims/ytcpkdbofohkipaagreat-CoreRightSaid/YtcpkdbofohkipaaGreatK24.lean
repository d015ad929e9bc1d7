/- The grammar: one parameter. -/
import Derived.Test.YtcpkdbofohkipaaGreatK23
import Derived.Test.YtcpkdbofohkipaaGreatK07
import Derived.Test.YtcpkdbofohkipaaGreatK09
set_option linter.unusedVariables false
set_option linter.unusedSimpArgs false
namespace Go.Proofs.YtcpkdbofohkipaaGreat
open Go.AM
variable {ms : List Mk}

def dB2 : ACode := match c80.code with | .seq _ (.seq _ (.seq _ (.seq _ (.seq _ (.seq (.block _ (.loop (.seq _ (.block _ (.seq _ z))))) _))))) => z | _ => .skip
def dB3 : ACode := match dB2 with | .seq _ z => z | _ => .skip

theorem db3_ok (hg : Good ms) {rid i4 i6 : Nat} {h H : Hp} {tm : Tm} {s : St} {Q : AExit → Tm → Hp → Prop} {acc : List Pm} {v a0 : AV} {l z4 : List AV} (hl3 : l.length = 9) (ha : s.at_ < ms.length) (hacc : acc.length ≤ 50000)
    (t0 : tm 0 = .ptr rid 0) (t6 : tm 6 = .ptr i6 0) (hr : H rid = .cells (rdCells ms s)) (hi6 : H i6 = .cells (a0 :: v :: l)) (hi4 : H i4 = .cells z4) (d6 : h i6 = .dead) (n4r : ¬ i4 = rid) (n6r : ¬ i6 = rid) (n46 : ¬ i4 = i6)
    (ho : Own h H 73 3 v (acc.map Pm.cells)) (hf : Fr h H rid)
    (hQ : ∀ tm' H' v', tm' 0 = .ptr rid 0 → tm' 4 = tm 4 → tm' 6 = .ptr i6 0 → H' rid = .cells (rdCells ms (typS ms (nameS ms s).2).2) → H' i6 = .cells (a0 :: v' :: l) → H' i4 = .cells z4 →
      Own h H' 73 3 v' ((acc ++ [Pm.mk (nameS ms s).1.text (typS ms (nameS ms s).2).1 (nameS ms s).1.pos]).map Pm.cells) → Fr h H' rid → Q .normal tm' H') :
    AW Tryz.prog dB3 Q tm H := by
  have q2 := name_on hg ha
  have nr6 : ¬ rid = i6 := fun x => n6r x.symm
  simp -dsimp [dB3, dB2, c80, t0]
  refine name_ok (s := s) hg hr ha ?_
  simp -dsimp
  intro i7 d7
  simp at d7
  obtain ⟨n7r, nr7, d7⟩ := d7
  have n74 : ¬ i7 = i4 := by rintro rfl; rw [d7] at hi4; cases hi4
  have n76 : ¬ i7 = i6 := by rintro rfl; rw [d7] at hi6; cases hi6
  have n47 : ¬ i4 = i7 := fun x => n74 x.symm
  have n67 : ¬ i6 = i7 := fun x => n76 x.symm
  simp -dsimp [t0]
  refine typ_ok (s := (nameS ms s).2) hg (by simp [nr7]) q2.lt ?_
  simp -dsimp [t6, n6r, n67, n7r, n76, hi6]
  intro i8 d8
  simp at d8
  have n87 : ¬ i8 = i7 := by rintro rfl; simp [n7r] at d8
  have n8r : ¬ i8 = rid := by rintro rfl; simp at d8
  have d8' : H i8 = .dead := by
    repeat (obtain ⟨_, d8⟩ := d8)
    exact d8
  have n84 : ¬ i8 = i4 := by rintro rfl; rw [d8'] at hi4; cases hi4
  have n86 : ¬ i8 = i6 := by rintro rfl; rw [d8'] at hi6; cases hi6
  have n48 : ¬ i4 = i8 := fun x => n84 x.symm
  have n68 : ¬ i6 = i8 := fun x => n86 x.symm
  have nr8 : ¬ rid = i8 := fun x => n8r x.symm
  simp -dsimp
  refine Own.app (h := h) (rid := rid) (rows := acc.map Pm.cells) (x := rdCells ms (typS ms (nameS ms s).2).2) ?_ ?_ ?_ (by simp) (by simp; omega) (by simp; omega) (fun v' h2 ho2 hf2 hkeep => ?_)
  · repeat first | exact ho | refine Own.set ?_ (by intro a b c; simp [hr, n7r, n87, n8r, nr7, d7, d8'])
  · have := hf.dead hr d7
    have := hf.dead hr d8'
    repeat first | exact hf | refine Fr.own ?_ | refine Fr.set ?_ (by assumption)
  · simp [nr7, nr8]
  have e6 : h2 i6 = .cells (a0 :: v :: l) := hkeep i6 _ (by simp [n6r, n67, n68, hi6])
  have er : h2 rid = .cells (rdCells ms (typS ms (nameS ms s).2).2) := hkeep rid _ (by simp [nr7, nr8])
  have e4 : h2 i4 = .cells z4 := hkeep i4 _ (by simp [n4r, n47, n48, hi4])
  simp -dsimp [t6, e6, ho2.flat]
  exact hQ _ _ v' (by simp [t0]) (by simp) (by simp [t6]) (by simp [nr6, er]) (by simp) (by simp [n46, e4]) (by simpa [Pm.cells] using ho2.setc e6) (hf2.set d6)

theorem db2_ok (hg : Good ms) {rid i4 i6 : Nat} {h H : Hp} {tm : Tm} {s : St} {Q : AExit → Tm → Hp → Prop} {acc : List Pm} {v a0 : AV} {l z4 : List AV} (hl3 : l.length = 9) (ha : s.at_ < ms.length) (hacc : acc.length ≤ 50000)
    (t0 : tm 0 = .ptr rid 0) (t6 : tm 6 = .ptr i6 0) (hr : H rid = .cells (rdCells ms s)) (hi6 : H i6 = .cells (a0 :: v :: l)) (hi4 : H i4 = .cells z4) (d6 : h i6 = .dead) (n4r : ¬ i4 = rid) (n6r : ¬ i6 = rid) (n46 : ¬ i4 = i6)
    (ho : Own h H 73 3 v (acc.map Pm.cells)) (hf : Fr h H rid)
    (hQ : ∀ tm' H' v', tm' 0 = .ptr rid 0 → tm' 4 = tm 4 → tm' 6 = .ptr i6 0 → H' rid = .cells (rdCells ms (typS ms (nameS ms (parS ms acc.length s)).2).2) → H' i6 = .cells (a0 :: v' :: l) → H' i4 = .cells z4 →
      Own h H' 73 3 v' ((acc ++ [Pm.mk (nameS ms (parS ms acc.length s)).1.text (typS ms (nameS ms (parS ms acc.length s)).2).1 (nameS ms (parS ms acc.length s)).1.pos]).map Pm.cells) → Fr h H' rid → Q .normal tm' H') :
    AW Tryz.prog dB2 Q tm H := by
  have hsplit : dB2 = .seq (match dB2 with | .seq a _ => a | _ => .skip) dB3 := rfl
  rw [hsplit]
  have nr6 : ¬ rid = i6 := fun x => n6r x.symm
  have tail : ∀ (tm' : Tm) (H' : Hp), tm' 0 = .ptr rid 0 → tm' 4 = tm 4 → tm' 6 = .ptr i6 0 → H' = hset H rid (.cells (rdCells ms (parS ms acc.length s))) → AW Tryz.prog dB3 Q tm' H' := by
    rintro tm' H' u0 u4 u6 rfl
    refine db3_ok hg (s := parS ms acc.length s) (acc := acc) (v := v) (a0 := a0) (z4 := z4) hl3 (parS_on ha).lt hacc u0 u6 (by simp) (by simp [n6r, hi6]) (by simp [n4r, hi4]) d6 n4r n6r n46 (ho.setc hr) hf.own ?_
    intro tm2 H2 v2 w0 w4 w6
    exact hQ tm2 H2 v2 w0 (w4.trans u4) w6
  have hself : parS ms acc.length s = s → hset H rid (.cells (rdCells ms (parS ms acc.length s))) = H := fun x => by rw [x]; exact hset_self hr
  generalize dB3 = T at *
  by_cases hw : s.why = 0
  · by_cases hk0 : (nx ms s).kind = 0
    · by_cases hc : 32768 ≤ acc.length
      · have hp : parS ms acc.length s = failS ms s 22 := by simp [parS, hw, hk0, hc]
        have hc' : (32768 : Int) ≤ acc.length := by omega
        simp -dsimp [dB2, c80, t0, hr, rdCells, hw]
        refine next_ok (s := s) hr ha ?_
        simp -dsimp [t0, t6, hi6, hk0, ho.len, hr, rdCells, hc']
        refine fail_ok (s := s) hr ha ?_
        simp -dsimp
        exact tail _ _ (by simp [t0]) (by simp) (by simp [t6]) (by rw [hp])
      · have hp : parS ms acc.length s = s := by simp [parS, hc]
        have hc' : ¬ (32768 : Int) ≤ acc.length := by omega
        simp -dsimp [dB2, c80, t0, hr, rdCells, hw]
        refine next_ok (s := s) hr ha ?_
        simp -dsimp [t0, t6, hi6, hk0, ho.len, hr, rdCells, hc']
        exact tail _ _ (by simp [t0]) (by simp) (by simp [t6]) (hself hp).symm
    · have hp : parS ms acc.length s = s := by simp [parS, hk0]
      simp -dsimp [dB2, c80, t0, hr, rdCells, hw]
      refine next_ok (s := s) hr ha ?_
      simp -dsimp [hk0]
      exact tail _ _ (by simp [t0]) (by simp) (by simp [t6]) (hself hp).symm
  · have hp : parS ms acc.length s = s := by simp [parS, hw]
    simp -dsimp [dB2, c80, t0, hr, rdCells, hw]
    exact tail _ _ (by simp [t0]) (by simp) (by simp [t6]) (hself hp).symm
end Go.Proofs.YtcpkdbofohkipaaGreat

/- The grammar: definitions, whole. -/
namespace Go.Proofs.YtcpkdbofohkipaaGreat
open Go.AM
variable {ms : List Mk}

def dR1 : ACode := match c80.code with | .seq _ (.seq _ x) => x | _ => .skip

theorem def_r1 (hg : Good ms) {rid i4 n : Nat} {h H : Hp} {K : AV → Hp → Prop} {tm : Tm} {s : St} (ha : s.at_ < ms.length) (hn : 0 ≤ s.nest ∧ s.nest ≤ 32768)
    (t0 : tm 0 = .ptr rid 0) (t4 : tm 4 = .ptr i4 0) (hr : H rid = .cells (rdCells ms (df1 ms n s))) (hi4 : H i4 = .cells ([.str [], .nl, .int .i64 0] ++ (ex0.cells ++ [.int .i64 0]))) (d4 : h i4 = .dead) (hf : Fr h H rid) (n4r : ¬ i4 = rid)
    (hK : K (.agg (defS ms n s).1.cells) (hset h rid (.cells (rdCells ms (defS ms n s).2)))) :
    AW Tryz.prog dR1 (fun e tm h' => match e with | .exit _ => False | _ => Gives K (aLda 11 (tm 4) h') h') tm H := by
  have hl := hg.le
  have nr4 : ¬ rid = i4 := fun x => n4r x.symm
  have q1 := df1_on (ms := ms) (n := n) ha
  have q2 := name_on hg q1.lt
  have hsplit : dR1 = .seq (match dR1 with | .seq a _ => a | _ => .skip) (.seq (match dR1 with | .seq _ (.seq a _) => a | _ => .skip) (.seq (match dR1 with | .seq _ (.seq _ (.seq a _)) => a | _ => .skip) (.seq (.block 0 (.loop (.seq (match dR1 with | .seq _ (.seq _ (.seq _ (.seq (.block _ (.loop (.seq a _))) _))) => a | _ => .skip) (.block 1 (.seq (match dR1 with | .seq _ (.seq _ (.seq _ (.seq (.block _ (.loop (.seq _ (.block _ (.seq a _))))) _))) => a | _ => .skip) dB2))))) dT))) := rfl
  rw [hsplit]
  have tail := @def_t ms hg rid i4
  have mid := @db2_ok ms hg rid i4
  generalize dT = T at *
  generalize dB2 = B at *
  simp -dsimp [dR1, c80, t0]
  refine name_ok (s := df1 ms n s) hg hr q1.lt ?_
  simp -dsimp
  intro i5 d5
  simp at d5
  obtain ⟨n5r, nr5, d5⟩ := d5
  simp -dsimp
  intro i6 d6
  simp at d6
  obtain ⟨n65, n56, n6r, nr6, d6⟩ := d6
  have n54 : ¬ i5 = i4 := by rintro rfl; rw [d5] at hi4; cases hi4
  have n64 : ¬ i6 = i4 := by rintro rfl; rw [d6] at hi4; cases hi4
  have n46 : ¬ i4 = i6 := fun x => n64 x.symm
  have n45 : ¬ i4 = i5 := fun x => n54 x.symm
  simp -dsimp [t0, n65, n56]
  refine want_ok (s := (nameS ms (df1 ms n s)).2) hg (by simp [nr5, nr6]) q2.lt ?_
  simp -dsimp
  have q3 := want_on hg (t := [40]) q2.lt
  generalize hs0 : wantS ms (nameS ms (df1 ms n s)).2 [40] = s0 at *
  have q13 := (q1.trans q2).trans q3
  have hn0 : 0 ≤ s0.nest ∧ s0.nest ≤ 32768 := by rw [q13.nest]; exact hn
  have hdf2 : df2 ms n s = paramsS ms (ms.length + 1) [] s0 := by simp only [df2, hs0]
  generalize hR : paramsS ms (ms.length + 1) [] s0 = R at *
  have d5h := hf.dead hr d5
  have d6h := hf.dead hr d6
  refine ALoop.start (fun k tm h' => ∃ (acc : List Pm) (t : St) (v : AV), tm 0 = .ptr rid 0 ∧ tm 4 = .ptr i4 0 ∧ tm 6 = .ptr i6 0 ∧ h' rid = .cells (rdCells ms t) ∧ h' i4 = .cells ([.str [], .nl, .int .i64 0] ++ (ex0.cells ++ [.int .i64 0])) ∧
    h' i6 = .cells ([.str (nameS ms (df1 ms n s)).1.text, v, .int .i64 0] ++ (ex0.cells ++ [.int .i64 (nameS ms (df1 ms n s)).1.pos])) ∧ Own h h' 73 3 v (acc.map Pm.cells) ∧ Fr h h' rid ∧ On ms s0 t ∧
    paramsS ms k acc t = R ∧ (t.why = 0 → acc.length ≤ t.at_) ∧ acc.length ≤ t.at_ + 1 ∧ 1 ≤ k ∧ (t.why = 0 → ms.length + 1 ≤ t.at_ + k)) (ms.length + 1)
    ⟨[], s0, .nl, by simp [t0], by simp [t4], by simp, by simp, by simp [n4r, n46, n45, hi4], by simp [n6r, n65]; rfl, Own.nil, ((((hf.own).set d5h).set d6h).own), On.refl q3.lt, hR, by simp, by simp, by omega, by omega⟩ ?_
  rintro k tm h' ⟨acc, t, v, t0, t4, t6, hr, hi4, hi6, ho, hf, hon, hRR, hac, hac1, hk1, hfu⟩
  obtain ⟨k, rfl⟩ : ∃ q, k = q + 1 := ⟨k - 1, by omega⟩
  have fin : paramsS ms (k + 1) acc t = (acc, t) → ∀ tm' : Tm, tm' 0 = .ptr rid 0 → tm' 4 = .ptr i4 0 → tm' 6 = .ptr i6 0 →
      AW Tryz.prog T (fun e tm h' => match e with | .exit _ => False | _ => Gives K (aLda 11 (tm 4) h') h') tm' h' := by
    intro hq tm' u0 u4 u6
    rw [hq] at hRR
    refine tail (h := h) (t := t) (ps := acc) (v := v) hon.lt (by rw [hon.nest]; exact hn0) u0 u4 u6 hr hi4 hi6 ho d4 d6h hf n4r n6r n46 ?_
    have e3 : df3 ms n s = wantS ms (wantS ms t [41]) [58] := by simp only [df3, hdf2, ← hRR]
    simpa only [defS, df4, e3, hdf2, ← hRR] using hK
  by_cases hw : t.why = 0
  · by_cases hcl : isB ms t [41] = true
    · have hq : paramsS ms (k + 1) acc t = (acc, t) := by simp [paramsS, hcl]
      simp -dsimp [dR1, c80, t0, hr, rdCells, hw]
      refine is_ok (s := t) hr hon.lt ?_
      simp -dsimp [hcl]
      exact fin hq _ (by simp [t0]) (by simp [t4]) (by simp [t6])
    · have hq : paramsS ms (k + 1) acc t = paramsS ms k (acc ++ [parP ms acc t]) (parT ms acc t) := by simp [paramsS, hcl, hw]
      rw [hq] at hRR
      simp -dsimp [dR1, c80, t0, hr, rdCells, hw]
      refine is_ok (s := t) hr hon.lt ?_
      simp -dsimp [dR1, c80, hcl, t0, t6, hi6, ho.len]
      have hal := hac hw
      have hlt := hon.lt
      have step : ∀ (s1 : St) (tm' : Tm) (H' : Hp), s1 = (if acc = [] then t else wantS ms t [44]) → On ms t s1 → tm' 0 = .ptr rid 0 → tm' 4 = .ptr i4 0 → tm' 6 = .ptr i6 0 → H' rid = .cells (rdCells ms s1) →
          H' i6 = .cells ([.str (nameS ms (df1 ms n s)).1.text, v, .int .i64 0] ++ (ex0.cells ++ [.int .i64 (nameS ms (df1 ms n s)).1.pos])) → H' i4 = .cells ([.str [], .nl, .int .i64 0] ++ (ex0.cells ++ [.int .i64 0])) → Own h H' 73 3 v (acc.map Pm.cells) → Fr h H' rid →
          ∀ Q : AExit → Tm → Hp → Prop, (∀ tm2 H2 v2, tm2 0 = .ptr rid 0 → tm2 4 = .ptr i4 0 → tm2 6 = .ptr i6 0 → H2 rid = .cells (rdCells ms (parT ms acc t)) → H2 i6 = .cells ([.str (nameS ms (df1 ms n s)).1.text, v2, .int .i64 0] ++ (ex0.cells ++ [.int .i64 (nameS ms (df1 ms n s)).1.pos])) → H2 i4 = .cells ([.str [], .nl, .int .i64 0] ++ (ex0.cells ++ [.int .i64 0])) → Own h H2 73 3 v2 ((acc ++ [parP ms acc t]).map Pm.cells) → Fr h H2 rid → Q .normal tm2 H2) →
          AW Tryz.prog B Q tm' H' := by
        rintro s1 tm' H' hs1 hon1 u0 u4 u6 hr1 hi61 hi41 ho1 hf1 Q hQ
        refine mid (h := h) (s := s1) (acc := acc) (v := v) (a0 := AV.str (nameS ms (df1 ms n s)).1.text) (l := AV.int IntKind.i64 0 :: (ex0.cells ++ [AV.int IntKind.i64 (nameS ms (df1 ms n s)).1.pos])) (z4 := [AV.str [], AV.nl, AV.int IntKind.i64 0] ++ (ex0.cells ++ [AV.int IntKind.i64 0])) (by simp) hon1.lt (by omega) u0 u6 hr1 hi61 hi41 d6h n4r n6r n46 ho1 hf1 ?_
        intro tm2 H2 v2 w0 w4 w6 wr wi6 wi4 wo wf
        refine hQ tm2 H2 v2 w0 (w4.trans u4) w6 ?_ wi6 wi4 ?_ wf
        · rw [wr, hs1]; rfl
        · rw [hs1] at wo; exact wo
      have hpt := parT_on hg (acc := acc) hlt
      have hgo := parT_go hg (acc := acc) hlt
      have hple := hpt.le
      by_cases hacc : acc = []
      · simp -dsimp [t0, hacc]
        refine step t _ _ (by simp [hacc]) (On.refl hlt) (by simp [t0]) (by simp [t4]) (by simp [t6]) hr hi6 hi4 ho hf _ ?_
        intro tm2 H2 v2 w0 w4 w6 wr wi6 wi4 wo wf
        exact Again.same k (by omega) ⟨acc ++ [parP ms acc t], parT ms acc t, v2, w0, w4, w6, wr, wi4, wi6, wo, wf, hon.trans hpt, hRR, by simp; omega, by simp; omega, by omega, by omega⟩
      · have hpos : 0 < acc.length := List.length_pos_iff.2 hacc
        simp -dsimp [t0, hacc, hpos]
        refine want_ok (s := t) hg hr hlt ?_
        simp -dsimp
        refine step (wantS ms t [44]) _ _ (by simp [hacc]) (want_on hg hlt) (by simp [t0]) (by simp [t4]) (by simp [t6]) (by simp) (by simp [n6r, hi6]) (by simp [n4r, hi4]) (ho.setc hr) hf.own _ ?_
        intro tm2 H2 v2 w0 w4 w6 wr wi6 wi4 wo wf
        exact Again.same k (by omega) ⟨acc ++ [parP ms acc t], parT ms acc t, v2, w0, w4, w6, wr, wi4, wi6, wo, wf, hon.trans hpt, hRR, by simp; omega, by simp; omega, by omega, by omega⟩
  · have hq : paramsS ms (k + 1) acc t = (acc, t) := by simp [paramsS, hw]
    simp -dsimp [dR1, c80, t0, hr, rdCells, hw]
    exact fin hq _ (by simp [t0]) (by simp [t4]) (by simp [t6])

theorem def_ok (hg : Good ms) {rid n : Nat} {h : Hp} {K : AV → Hp → Prop} {s : St} (ha : s.at_ < ms.length) (hn : 0 ≤ s.nest ∧ s.nest ≤ 32768) (hh : h rid = .cells (rdCells ms s))
    (hK : K (.agg (defS ms n s).1.cells) (hset h rid (.cells (rdCells ms (defS ms n s).2)))) : ACalls Tryz.prog 80 [.ptr rid 0, .int .i64 n] h K := by
  refine calls_of mixed Tryz.func80 comp80 (Nat.le_of_ble_eq_true rfl) ?_
  have hres : ∀ (tm : Tm) (h' : Hp), resOf c80.res tm h' = aLda 11 (tm 4) h' := by intro tm h'; simp [c80]
  simp only [hres]
  have hsplit : c80.code = .seq (match c80.code with | .seq a _ => a | _ => .skip) (.seq (match c80.code with | .seq _ (.seq a _) => a | _ => .skip) dR1) := rfl
  rw [hsplit]
  have tail := @def_r1 ms hg rid
  generalize dR1 = T at *
  simp -dsimp [c80]
  intro i4 d4
  obtain ⟨nr4, n4r⟩ := rd_ne hh d4
  simp -dsimp
  refine next_ok (s := s) (by simp [nr4, hh]) ha ?_
  by_cases hk0 : (nx ms s).kind = 0
  · by_cases hc : 32768 ≤ n
    · have hc' : (32768 : Int) ≤ n := by omega
      have hdf : df1 ms n s = failS ms s 22 := by simp [df1, hk0, hc]
      simp -dsimp [hk0, nr4, hh, rdCells, hc']
      refine fail_ok (s := s) (by simp [nr4, hh]) ha ?_
      simp -dsimp
      exact tail (n := n) (s := s) (h := h) ha hn (by simp) (by simp) (by simp [hdf]) (by simp [n4r]; rfl) d4 ((Fr.refl.set d4).own) n4r hK
    · have hc' : ¬ (32768 : Int) ≤ n := by omega
      have hdf : df1 ms n s = s := by simp [df1, hc]
      simp -dsimp [hk0, nr4, hh, rdCells, hc']
      exact tail (n := n) (s := s) (h := h) ha hn (by simp) (by simp) (by simp [hdf, nr4, hh]) (by simp; rfl) d4 (Fr.refl.set d4) n4r hK
  · have hdf : df1 ms n s = s := by simp [df1, hk0]
    simp -dsimp [hk0]
    exact tail (n := n) (s := s) (h := h) ha hn (by simp) (by simp) (by simp [hdf, nr4, hh]) (by simp; rfl) d4 (Fr.refl.set d4) n4r hK
end Go.Proofs.YtcpkdbofohkipaaGreat

/- The grammar: programs. -/
namespace Go.Proofs.YtcpkdbofohkipaaGreat
open Go.AM
variable {ms : List Mk}

def pB : ACode := match c41.code with | .seq _ (.seq _ (.seq (.block _ (.loop (.seq _ (.block _ x)))) _)) => x | _ => .skip

theorem pbody_ok (hg : Good ms) {rid i2 i3 : Nat} {h h' : Hp} {tm' : Tm} {t : St} {v : AV} {acc : List Df} {Q : AExit → Tm → Hp → Prop} (hlt : t.at_ < ms.length) (hn : 0 ≤ t.nest ∧ t.nest ≤ 32768) (hal : acc.length ≤ 50000)
    (u0 : tm' 0 = .ptr rid 0) (u2 : tm' 2 = .ptr i2 0) (u3 : tm' 3 = .ptr i3 0) (hr : h' rid = .cells (rdCells ms t)) (hi2 : h' i2 = .cells [.nl]) (hi3 : h' i3 = .cells [v]) (ho : Own h h' 71 11 v (acc.map Df.cells)) (hf : Fr h h' rid)
    (d3 : h i3 = .dead) (n2r : ¬ i2 = rid) (n3r : ¬ i3 = rid) (nr3 : ¬ rid = i3) (n23 : ¬ i2 = i3)
    (hQ : ∀ tm2 H2 v2, tm2 0 = .ptr rid 0 → tm2 2 = .ptr i2 0 → tm2 3 = .ptr i3 0 → H2 rid = .cells (rdCells ms (defS ms acc.length t).2) → H2 i2 = .cells [.nl] → H2 i3 = .cells [v2] → Own h H2 71 11 v2 ((acc ++ [(defS ms acc.length t).1]).map Df.cells) → Fr h H2 rid → Q .normal tm2 H2) :
    AW Tryz.prog pB Q tm' h' := by
  simp -dsimp [pB, c41, u0, u3, hi3, ho.len]
  refine def_ok hg (n := acc.length) (s := t) hlt hn hr ?_
  simp -dsimp
  intro i4 d4
  simp at d4
  obtain ⟨n4r, nr4, d4⟩ := d4
  have n42 : ¬ i4 = i2 := by rintro rfl; rw [d4] at hi2; cases hi2
  have n43 : ¬ i4 = i3 := by rintro rfl; rw [d4] at hi3; cases hi3
  have n24 : ¬ i2 = i4 := fun x => n42 x.symm
  have n34 : ¬ i3 = i4 := fun x => n43 x.symm
  have tk : (defS ms acc.length t).1.cells.take 11 = (defS ms acc.length t).1.cells := List.take_of_length_le (by simp)
  have dk : (defS ms acc.length t).1.cells.drop 11 = [] := List.drop_eq_nil_of_le (by simp)
  simp -dsimp [u3, n34, n3r, hi3, tk, dk]
  intro i5 d5
  simp at d5
  have n54 : ¬ i5 = i4 := by rintro rfl; simp at d5
  have n5r : ¬ i5 = rid := by rintro rfl; simp at d5
  have d5' : h' i5 = .dead := by
    repeat (obtain ⟨_, d5⟩ := d5)
    exact d5
  have n52 : ¬ i5 = i2 := by rintro rfl; rw [d5'] at hi2; cases hi2
  have n53 : ¬ i5 = i3 := by rintro rfl; rw [d5'] at hi3; cases hi3
  have n25 : ¬ i2 = i5 := fun x => n52 x.symm
  have n35 : ¬ i3 = i5 := fun x => n53 x.symm
  have nr5 : ¬ rid = i5 := fun x => n5r x.symm
  simp -dsimp
  refine Own.app (h := h) (rid := rid) (rows := acc.map Df.cells) (x := rdCells ms (defS ms acc.length t).2) ?_ ?_ ?_ (by simp) (by simp; omega) (by simp; omega) (fun v' h2 ho2 hf2 hkeep => ?_)
  · repeat first | exact ho | refine Own.set ?_ (by intro a b c; simp [hr, n4r, n54, n5r, nr4, d4, d5'])
  · have := hf.dead hr d4
    have := hf.dead hr d5'
    repeat first | exact hf | refine Fr.own ?_ | refine Fr.set ?_ (by assumption)
  · simp [nr4, nr5]
  have e3 : h2 i3 = .cells [v] := hkeep i3 _ (by simp [n3r, n34, n35, hi3])
  have er : h2 rid = .cells (rdCells ms (defS ms acc.length t).2) := hkeep rid _ (by simp [nr4, nr5])
  have e2 : h2 i2 = .cells [.nl] := hkeep i2 _ (by simp [n2r, n24, n25, hi2])
  simp -dsimp [u3, e3, ho2.flat]
  exact hQ _ _ v' (by simp [u0]) (by simp [u2]) (by simp [u3]) (by simp [nr3, er]) (by simp [n23, e2]) (by simp) (by simpa using ho2.setc e3) (hf2.set d3)

theorem program_ok (hg : Good ms) {rid : Nat} {h : Hp} {K : AV → Hp → Prop} {s : St} (ha : s.at_ < ms.length) (hn : 0 ≤ s.nest ∧ s.nest ≤ 32768) (hh : h rid = .cells (rdCells ms s))
    (hK : K (.agg [rowsAV ((programS ms (ms.length + 1) [] s).1.map Df.cells)]) (hset h rid (.cells (rdCells ms (programS ms (ms.length + 1) [] s).2)))) : ACalls Tryz.prog 41 [.ptr rid 0] h K := by
  refine calls_of mixed Tryz.func41 comp41 (Nat.le_of_ble_eq_true rfl) ?_
  have hl := hg.le
  have hsplit : c41.code = .seq (match c41.code with | .seq a _ => a | _ => .skip) (.seq (match c41.code with | .seq _ (.seq a _) => a | _ => .skip) (.seq (.block 0 (.loop (.seq (match c41.code with | .seq _ (.seq _ (.seq (.block _ (.loop (.seq a _))) _)) => a | _ => .skip) (.block 1 pB)))) (match c41.code with | .seq _ (.seq _ (.seq _ a)) => a | _ => .skip))) := rfl
  rw [hsplit]
  have pb := @pbody_ok ms hg rid
  generalize pB = B at *
  simp -dsimp [c41]
  intro i2 d2
  obtain ⟨nr2, n2r⟩ := rd_ne hh d2
  simp -dsimp
  intro i3 d3
  simp at d3
  obtain ⟨n32, n23, d3⟩ := d3
  obtain ⟨nr3, n3r⟩ := rd_ne hh d3
  simp -dsimp
  generalize hR : programS ms (ms.length + 1) [] s = R at *
  refine ALoop.start (fun k tm h' => ∃ (acc : List Df) (t : St) (v : AV), tm 0 = .ptr rid 0 ∧ tm 2 = .ptr i2 0 ∧ tm 3 = .ptr i3 0 ∧ h' rid = .cells (rdCells ms t) ∧ h' i2 = .cells [.nl] ∧ h' i3 = .cells [v] ∧ Own h h' 71 11 v (acc.map Df.cells) ∧ Fr h h' rid ∧ On ms s t ∧
    programS ms k acc t = R ∧ (t.why = 0 → acc.length ≤ t.at_) ∧ acc.length ≤ t.at_ + 1 ∧ 1 ≤ k ∧ (t.why = 0 → ms.length + 1 ≤ t.at_ + k)) (ms.length + 1)
    ⟨[], s, .nl, by simp, by simp, by simp, by simp [nr2, nr3, hh], by simp [n23], by simp, Own.nil, (Fr.refl.set d2).set d3, On.refl ha, hR, by simp, by simp, by omega, by omega⟩ ?_
  rintro k tm h' ⟨acc, t, v, t0, t2, t3, hr, hi2, hi3, ho, hf, hon, hRR, hac, hac1, hk1, hfu⟩
  obtain ⟨k, rfl⟩ : ∃ q, k = q + 1 := ⟨k - 1, by omega⟩
  have hlt := hon.lt
  have fin : programS ms (k + 1) acc t = (acc, t) → Gives K (some (.agg [v])) (hset h' i2 (.cells [v])) := by
    intro hq
    rw [hq] at hRR
    subst hRR
    refine Gives.frz (h' := hset h rid (.cells (rdCells ms t))) ((hf.set d2).sub (by simp [nr2, hr])) (Frz.cell (a := []) (b := []) (Own.frz (h := h) (rid := rid) (e := 71) (sz := 11) (x := rdCells ms t) (rows := acc.map Df.cells) (ho.setc hi2) (by simp [nr2, hr]))) hK
  have step : t.why = 0 → programS ms (k + 1) acc t = programS ms k (acc ++ [(defS ms acc.length t).1]) (defS ms acc.length t).2 → ∀ tm' : Tm, tm' 0 = .ptr rid 0 → tm' 2 = .ptr i2 0 → tm' 3 = .ptr i3 0 → ∀ tm2 H2 v2, tm2 0 = .ptr rid 0 → tm2 2 = .ptr i2 0 → tm2 3 = .ptr i3 0 → H2 rid = .cells (rdCells ms (defS ms acc.length t).2) → H2 i2 = .cells [.nl] → H2 i3 = .cells [v2] → Own h H2 71 11 v2 ((acc ++ [(defS ms acc.length t).1]).map Df.cells) → Fr h H2 rid →
      (fun (k : Nat) (tm : Tm) (h' : Hp) => ∃ (acc : List Df) (t : St) (v : AV), tm 0 = .ptr rid 0 ∧ tm 2 = .ptr i2 0 ∧ tm 3 = .ptr i3 0 ∧ h' rid = .cells (rdCells ms t) ∧ h' i2 = .cells [.nl] ∧ h' i3 = .cells [v] ∧ Own h h' 71 11 v (acc.map Df.cells) ∧ Fr h h' rid ∧ On ms s t ∧
    programS ms k acc t = R ∧ (t.why = 0 → acc.length ≤ t.at_) ∧ acc.length ≤ t.at_ + 1 ∧ 1 ≤ k ∧ (t.why = 0 → ms.length + 1 ≤ t.at_ + k)) k tm2 H2 := by
    intro hw hq tm' u0 u2 u3 tm2 H2 v2 w0 w2 w3 wr wi2 wi3 wo wf
    have hal := hac hw
    have hdo := def_on hg (n := acc.length) hlt
    have hdg := def_go hg (n := acc.length) hlt
    have hdl := hdo.le
    rw [hq] at hRR
    exact ⟨acc ++ [(defS ms acc.length t).1], (defS ms acc.length t).2, v2, w0, w2, w3, wr, wi2, wi3, wo, wf, hon.trans hdo, hRR, by simp; omega, by simp; omega, by omega, by omega⟩
  by_cases hw : t.why = 0
  · have hal := hac hw
    by_cases hacc : acc = []
    · have hq : programS ms (k + 1) acc t = programS ms k (acc ++ [(defS ms acc.length t).1]) (defS ms acc.length t).2 := by simp [programS, hw, hacc]
      simp -dsimp [c41, t0, t2, t3, hr, hi3, hi2, rdCells, hw, n32, n23, ho.len, hacc]
      refine pb (h := h) (t := t) (v := v) (acc := acc) hlt (by rw [hon.nest]; exact hn) (by omega) (by simp [t0]) (by simp [t2]) (by simp [t3]) hr hi2 hi3 ho hf d3 n2r n3r nr3 n23 ?_
      intro tm2 H2 v2 w0 w2 w3 wr wi2 wi3 wo wf
      exact Again.same k (by omega) (step hw hq _ t0 t2 t3 tm2 H2 v2 w0 w2 w3 wr wi2 wi3 wo wf)
    · have hpos : ¬ acc.length = 0 := fun x => hacc (List.length_eq_zero_iff.1 x)
      simp -dsimp [c41, t0, t2, t3, hr, hi3, hi2, rdCells, hw, n32, n23, ho.len, hacc, hpos]
      refine next_ok (s := t) hr hlt ?_
      by_cases hk4 : (nx ms t).kind = 4
      · have hq : programS ms (k + 1) acc t = (acc, t) := by simp [programS, hw, hacc, hk4]
        simp -dsimp [hk4, t2, t3, hi3, hi2, n32, n23]
        exact fin hq
      · have hq : programS ms (k + 1) acc t = programS ms k (acc ++ [(defS ms acc.length t).1]) (defS ms acc.length t).2 := by simp [programS, hw, hk4]
        simp -dsimp [hk4]
        refine pb (h := h) (t := t) (v := v) (acc := acc) hlt (by rw [hon.nest]; exact hn) (by omega) (by simp [t0]) (by simp [t2]) (by simp [t3]) hr hi2 hi3 ho hf d3 n2r n3r nr3 n23 ?_
        intro tm2 H2 v2 w0 w2 w3 wr wi2 wi3 wo wf
        exact Again.same k (by omega) (step hw hq _ t0 t2 t3 tm2 H2 v2 w0 w2 w3 wr wi2 wi3 wo wf)
  · have hq : programS ms (k + 1) acc t = (acc, t) := by simp [programS, hw]
    simp -dsimp [c41, t0, t2, t3, hr, hi3, hi2, rdCells, hw, n32, n23]
    exact fin hq
end Go.Proofs.YtcpkdbofohkipaaGreat

/- Parse and read. -/
namespace Go.Proofs.YtcpkdbofohkipaaGreat
open Go.AM
variable {h : Hp} {K : AV → Hp → Prop}

theorem wide_ok (hK : K (.agg [.int .i64 32768, .int .i64 32768, .int .i64 32768, .int .i64 32768]) h) : ACalls Tryz.prog 24 [] h K := by
  refine calls_of mixed Tryz.func24 comp24 (Nat.le_of_ble_eq_true rfl) ?_
  simp -dsimp [c24]
  intro id hd
  simp -dsimp
  exact Gives.sub (h' := h) (Sub.drop hd) hK

theorem parse_ok {b : Bytes} {t : AV} (ht : t = .fz (bytesAV b) ∨ (b = [] ∧ t = .nl)) (hK : K (.tup [.agg [rowsAV ((parseS b).1.map Df.cells)], .agg [.int .i64 (parseS b).2.1, .int .i64 (parseS b).2.2]]) h) :
    ACalls Tryz.prog 23 [t, .agg [.int .i64 32768, .int .i64 32768, .int .i64 32768, .int .i64 32768]] h K := by
  refine calls_of mixed Tryz.func23 comp23 (Nat.le_of_ble_eq_true rfl) ?_
  have hlen : ∀ h', aLen .sl t h' = some (.int .i64 b.length) := by
    rcases ht with rfl | ⟨rfl, rfl⟩ <;> intro h' <;> simp
  simp -dsimp [c23]
  intro i3 d3
  simp -dsimp
  intro i4 d4
  simp at d4
  obtain ⟨n43, n34, d4⟩ := d4
  simp -dsimp
  intro i5 d5
  simp at d5
  obtain ⟨n54, n45, n53, n35, d5⟩ := d5
  by_cases hb : 32768 < b.length
  · have hb' : (32768 : Int) < b.length := by omega
    have hp : parseS b = ([], 22, 32768) := by simp only [parseS, if_pos hb]
    rw [hp] at hK
    simp -dsimp [n43, n34, n54, n45, n53, n35, hlen, hb', Stable, AIns.wants, QStep]
    refine Gives.sub (h' := h) (by repeat first | exact Sub.refl _ | refine Sub.put ?_ | refine Sub.dropr ?_ (by simp [*])) ?_
    exact hK
  · have hb' : ¬ (32768 : Int) < b.length := by omega
    simp -dsimp [n43, n34, n54, n45, n53, n35, hlen, hb']
    refine marks_ok ht (by omega) ?_
    cases hm : marksS b (b.length + 1) 0 with
    | inr q =>
      have hp : parseS b = ([], 20, (q : Int)) := by simp only [parseS, if_neg hb, hm]
      rw [hp] at hK
      simp -dsimp [marksAV, n43, n34, n54, n45, n53, n35]
      refine Gives.sub (h' := h) (by repeat first | exact Sub.refl _ | refine Sub.put ?_ | refine Sub.dropr ?_ (by simp [*])) ?_
      exact hK
    | inl ms =>
      have hg := marks_good (by omega) hm
      simp -dsimp [marksAV, n43, n34, n54, n45, n53, n35]
      intro i6 d6
      simp at d6
      obtain ⟨n63, n36, n65, n56, n64, n46, _, _, d6⟩ := d6
      simp -dsimp
      have hpos := hg.pos
      refine program_ok hg (s := ⟨0, 0, 0, 0⟩) hpos (by decide) (by simp [rdCells]) ?_
      generalize hP : programS ms (ms.length + 1) [] ⟨0, 0, 0, 0⟩ = P at *
      simp -dsimp
      intro i9 d9
      simp at d9
      obtain ⟨n96, n69, _, _, rest⟩ := d9
      have n95 : ¬ i9 = i5 := by rintro rfl; simp at rest
      have n94 : ¬ i9 = i4 := by rintro rfl; simp [n45] at rest
      have d9' : h i9 = .dead := by
        repeat (obtain ⟨_, rest⟩ := rest)
        exact rest
      have n59 : ¬ i5 = i9 := fun x => n95 x.symm
      have n49 : ¬ i4 = i9 := fun x => n94 x.symm
      by_cases hw : P.2.why = 0
      · have hp : parseS b = (P.1, 0, 0) := by simp [parseS, hb, hm, hP, hw]
        rw [hp] at hK
        simp -dsimp [n69, n96, rdCells, hw, n43, n34, n54, n45, n53, n35, n63, n36, n65, n56, n64, n46, n95, n59, n94, n49]
        refine Gives.sub (h' := h) ?_ hK
        repeat first | exact Sub.refl _ | refine Sub.dropr ?_ (by assumption)
      · have hp : parseS b = ([], P.2.why, P.2.wh) := by simp [parseS, hb, hm, hP, hw]
        rw [hp] at hK
        simp -dsimp [n69, n96, rdCells, hw, n43, n34, n54, n45, n53, n35, n63, n36, n65, n56, n64, n46, n95, n59, n94, n49, Stable, AIns.wants, QStep]
        refine Gives.sub (h' := h) ?_ hK
        repeat first | exact Sub.refl _ | refine Sub.dropr ?_ (by assumption)

theorem read_ok {b : Bytes} {t : AV} (ht : t = .fz (bytesAV b) ∨ (b = [] ∧ t = .nl)) (hK : K (.tup [.agg [rowsAV ((readS b).1.map Df.cells)], .bool (readS b).2]) h) : ACalls Tryz.prog 9 [t] h K := by
  refine calls_of mixed Tryz.func9 comp9 (Nat.le_of_ble_eq_true rfl) ?_
  simp -dsimp [c9]
  intro i2 d2
  simp -dsimp
  refine wide_ok ?_
  simp -dsimp
  refine parse_ok ht ?_
  simp -dsimp
  intro i4 d4
  simp at d4
  obtain ⟨n42, n24, d4⟩ := d4
  simp -dsimp
  intro i5 d5
  simp at d5
  obtain ⟨n54, n45, n52, n25, d5⟩ := d5
  simp -dsimp [n42, n24, n54, n45, n52, n25, Stable, AIns.wants, QStep]
  refine Gives.sub (h' := h) ?_ hK
  repeat first | exact Sub.refl _ | refine Sub.dropr ?_ (by assumption)
end Go.Proofs.YtcpkdbofohkipaaGreat

/- The document's answer for names: Has. -/
namespace Go.Proofs.YtcpkdbofohkipaaGreat
open Go.AM
variable {h : Hp} {K : AV → Hp → Prop}

theorem has_ok {l : List Bytes} {v : AV} {s : Bytes} (hl : l.length ≤ 1000000) (hv : IsStrs h v l) (hK : K (.bool (decide (s ∈ l))) h) : ACalls Tryz.prog 70 [v, .str s] h K := by
  refine calls_of mixed Tryz.func70 comp70 (Nat.le_of_ble_eq_true rfl) ?_
  simp -dsimp [c70]
  have hlen := hv.len
  refine ALoop.start (fun n tm h' => ∃ i : Nat, i + n = l.length ∧ tm 0 = v ∧ tm 1 = .str s ∧ tm 5 = .int .i64 i ∧ (∀ j (hj : j < l.length), j < i → l[j] ≠ s) ∧ h' = h) l.length ⟨0, by simp⟩ ?_
  rintro n tm h' ⟨i, hi, t0, t1, t5, hno, rfl⟩
  have hw1 : IntKind.i64.wrap ((i : Int) + 1) = ((i + 1 : Nat) : Int) := by rw [wrap_i64] <;> omega
  by_cases hlt : i < l.length
  · have next : ¬ l[i] = s → ∀ j (hj : j < l.length), j < i + 1 → l[j] ≠ s := by
      intro he j hj hji
      rcases Nat.lt_or_ge j i with h | h
      · exact hno j hj h
      · have : j = i := by omega
        subst this; exact he
    have hmem : l[i] = s → s ∈ l := fun he => he ▸ List.getElem_mem hlt
    have hfz : v = .fz (strRows l) ∨ ∃ id e, v = .sl id 0 l.length ∧ h' id = .arr e 1 (strRows l) := by
      rcases hv with e | e | e
      · left
        rw [e]
        cases l with
        | nil => simp at hlt
        | cons a l => rfl
      · exact .inl e
      · exact .inr e
    have hget : (strRows l)[i]? = some [.str l[i]] := by simp [strRows, hlt]
    rcases hfz with rfl | ⟨id, e, rfl, ha⟩
    · by_cases he : l[i] = s
      · simp -dsimp [t0, t1, t5, hlt, strRows, he]
        exact Gives.same (by simpa [hmem he] using hK)
      · simp -dsimp [t0, t1, t5, hlt, strRows, he, hw1]
        exact Again.same (n - 1) (by omega) ⟨i + 1, by omega, by simp [t0, strRows], by simp [t1], by simp, next he, rfl⟩
    · by_cases he : l[i] = s
      · simp -dsimp [t0, t1, t5, hlt, ha, strRows, he]
        exact Gives.same (by simpa [hmem he] using hK)
      · simp -dsimp [t0, t1, t5, hlt, ha, strRows, he, hw1]
        exact Again.same (n - 1) (by omega) ⟨i + 1, by omega, by simp [t0], by simp [t1], by simp, next he, rfl⟩
  · have : ¬ s ∈ l := by
      intro hm
      obtain ⟨j, hj, e⟩ := List.getElem_of_mem hm
      exact hno j hj (by omega) e
    simp -dsimp [t0, t1, t5, hlen, hlt]
    exact Gives.same (by simpa [this] using hK)

theorem bound_ok {e : Ex} {i : Int} (hK : K (rowsAV (strRows (boundS e i))) h) : ACalls Tryz.prog 123 [.agg e.cells, .int .i64 i] h K := by
  refine calls_of mixed Tryz.func123 comp123 (Nat.le_of_ble_eq_true rfl) ?_
  obtain ⟨op, name, tail, ty, re, im, args, pos⟩ := e
  simp -dsimp [c123, Ex.cells]
  intro i2 d2
  simp only [boundS, Ex.op, Ex.name, Ex.tail] at hK
  by_cases h21 : op = 21
  · simp -dsimp [h21]
    intro i3 d3
    simp at d3
    simp -dsimp
    refine Gives.frz (h' := h) (((Sub.refl h).dropr d2).dropr d3.2.2) (Frz.rows (e := 9) (sz := 1) (xs := [[.str name]]) (by simp) d3.2.2) ?_
    simpa [h21, strRows, rowsAV] using hK
  by_cases h22 : op = 22 ∧ i = 1
  · obtain ⟨a1, a2⟩ := h22
    simp -dsimp [a1, a2]
    intro i3 d3
    simp at d3
    simp -dsimp
    refine Gives.frz (h' := h) (((Sub.refl h).dropr d2).dropr d3.2.2) (Frz.rows (e := 9) (sz := 1) (xs := [[.str name]]) (by simp) d3.2.2) ?_
    simpa [a1, a2, strRows, rowsAV] using hK
  have hnn : ¬ (op = 21 ∨ op = 22 ∧ i = 1) := fun x => x.elim h21 h22
  simp only [hnn, if_false] at hK
  have none_case : ¬ (op = 20 ∧ i = 2) → K .nl h := by intro hc; simp only [hc, if_false] at hK; exact hK
  by_cases o22 : op = 22
  · have i1 : ¬ i = 1 := fun x => h22 ⟨o22, x⟩
    simp -dsimp [o22, i1]
    exact Gives.sub (h' := h) (Sub.drop d2) (none_case (by omega))
  by_cases o20 : op = 20
  · by_cases i2' : i = 2
    · simp only [o20, i2', and_self, if_true] at hK
      simp -dsimp [o20, i2']
      intro i3 d3
      simp at d3
      simp -dsimp
      refine Gives.frz (h' := h) (((Sub.refl h).dropr d2).dropr d3.2.2) (Frz.rows (e := 9) (sz := 1) (xs := [[.str name], [.str tail]]) (by simp) d3.2.2) ?_
      simpa [strRows, rowsAV] using hK
    · simp -dsimp [o20, i2']
      exact Gives.sub (h' := h) (Sub.drop d2) (none_case (by omega))
  · simp -dsimp [h21, o22, o20]
    exact Gives.sub (h' := h) (Sub.drop d2) (none_case (by omega))
end Go.Proofs.YtcpkdbofohkipaaGreat

/- The document's answer for names: with, heads. -/
namespace Go.Proofs.YtcpkdbofohkipaaGreat
open Go.AM
variable {h : Hp} {K : AV → Hp → Prop}

theorem with_ok {l m : List Bytes} {v w : AV} (hl : l.length ≤ 1000000) (hm : m.length ≤ 1000000) (hv : elemsOf h 1 v = some (strRows l)) (hw : w = rowsAV (strRows m)) (hK : K (rowsAV (strRows (l ++ m))) h) : ACalls Tryz.prog 122 [v, w] h K := by
  refine calls_of mixed Tryz.func122 comp122 (Nat.le_of_ble_eq_true rfl) ?_
  simp -dsimp [c122, hv]
  refine Own.app0 (h := h) (rows := []) (.inl ⟨rfl, rfl⟩) (fun _ => .inr rfl) (by simp; omega) (by simp; omega) fun v1 h1 ho1 hf1 => ?_
  have hew : ∀ h', elemsOf h' 1 w = some (strRows m) := by
    intro h'
    rw [hw]
    cases m with
    | nil => rfl
    | cons a m => simp [strRows, rowsAV]
  simp -dsimp [hew]
  refine Own.app0 (h := h) ho1 hf1 (by simp; omega) (by simp; omega) fun v2 h2 ho2 hf2 => ?_
  simp -dsimp
  refine ho2.out hf2 ?_
  simpa [strRows] using hK

theorem heads_ok {l : List Df} {nm : Bytes} (hl : l.length ≤ 1000000) (hK : K (.int .i64 (headsS nm l 0)) h) : ACalls Tryz.prog 99 [progAV l, .str nm] h K := by
  refine calls_of mixed Tryz.func99 comp99 (Nat.le_of_ble_eq_true rfl) ?_
  simp -dsimp [c99, progAV]
  intro i2 d2
  simp -dsimp
  refine ALoop.start (fun n tm h' => ∃ i : Nat, i + n = l.length ∧ tm 1 = .str nm ∧ tm 2 = .ptr i2 0 ∧ tm 5 = .int .i64 i ∧ headsS nm (l.drop i) i = headsS nm l 0 ∧ h' = hset h i2 (.cells [rowsAV (l.map Df.cells)])) l.length ⟨0, by simp⟩ ?_
  rintro n tm h' ⟨i, hi, t1, t2, t5, hq, rfl⟩
  have hw1 : IntKind.i64.wrap ((i : Int) + 1) = ((i + 1 : Nat) : Int) := by rw [wrap_i64] <;> omega
  cases l with
  | nil =>
    simp at hi
    obtain ⟨rfl, rfl⟩ := hi
    simp -dsimp [t1, t2, t5, rowsAV]
    exact Gives.sub (h' := h) (Sub.drop d2) (by simpa [headsS] using hK)
  | cons f0 l0 =>
    have hrow : rowsAV ((f0 :: l0).map Df.cells) = .fz ((f0 :: l0).map Df.cells) := rfl
    rw [hrow]
    generalize hL : f0 :: l0 = l at *
    by_cases hlt : i < l.length
    · rw [List.drop_eq_getElem_cons hlt] at hq
      simp only [headsS] at hq
      have hc0 : (l[i]).cells[0] = .str (l[i]).name := rfl
      by_cases he : (l[i]).name = nm
      · rw [if_pos he] at hq
        simp -dsimp [t1, t2, t5, hlt, hc0, he]
        exact Gives.sub (h' := h) (Sub.drop d2) (by rw [hq]; exact hK)
      · rw [if_neg he] at hq
        simp -dsimp [t1, t2, t5, hlt, hc0, he, hw1]
        exact Again.same (n - 1) (by omega) ⟨i + 1, by omega, by simp [t1], by simp [t2], by simp, hq, rfl⟩
    · have hnil : l.drop i = [] := List.drop_eq_nil_of_le (by omega)
      rw [hnil] at hq
      simp -dsimp [t1, t2, t5, hlt]
      exact Gives.sub (h' := h) (Sub.drop d2) (by rw [← hq] at hK; exact hK)
end Go.Proofs.YtcpkdbofohkipaaGreat

/- The document's answer for names: what is seen. -/
namespace Go.Proofs.YtcpkdbofohkipaaGreat
open Go.AM

def snL : ACode := match c100.code with | .seq _ (.seq _ (.seq _ x)) => x | _ => .skip

theorem seen_loop {n0 : Nat} (rec : ∀ (e : Ex) (names : List Bytes) (v : AV) (h : Hp) (K : AV → Hp → Prop), e.size ≤ n0 → names.length + 2 * e.size ≤ 200000 → IsStrs h v names → K (rowsAV ((seenS names e).map seenRow)) h → ACalls Tryz.prog 100 [.agg e.cells, v] h K)
    {e : Ex} {names : List Bytes} {v vo : AV} {h h' : Hp} {K : AV → Hp → Prop} {tm : Tm} {i2 : Nat} (hsz : e.size ≤ n0 + 1) (hnm : names.length + 2 * e.size ≤ 200000) (hv : IsStrs h v names)
    (t1 : tm 1 = v) (t2 : tm 2 = .ptr i2 0) (t5 : tm 5 = vo) (ho : Own h h' 194 8 vo ((Ex.use names e).map seenRow)) (hf : Keeps h h') (hi2 : h' i2 = .cells e.cells) (d2 : h i2 = .dead)
    (hK : K (rowsAV ((seenS names e).map seenRow)) h) :
    AW Tryz.prog snL (fun e tm h' => match e with | .exit _ => False | _ => Gives K (some (tm 4)) h') tm h' := by
  have hargs : e.cells[5]? = some (rowsAV (e.args.map Ex.cells)) := by cases e; simp [Ex.cells, Ex.rows_map, Ex.args]
  have hsa := e.size_args
  have hla := Ex.sizeL_len e.args
  have h7 : e.cells.length = 7 := by simp
  simp -dsimp [snL, c100, t1, t2, t5]
  refine ALoop.start (fun n tm h' => ∃ i : Nat, i + n = e.args.length ∧ tm 1 = v ∧ tm 2 = .ptr i2 0 ∧ tm 6 = .int .i64 i ∧ h' i2 = .cells e.cells ∧ Keeps h h' ∧ Own h h' 194 8 (tm 5) ((Ex.use names e ++ seenL names e 0 (e.args.take i)).map seenRow)) e.args.length ⟨0, by simp, by simp [t1], by simp [t2], by simp, hi2, hf, by simpa [seenL, t5] using ho⟩ ?_
  rintro n tm h' ⟨i, hi, t1, t2, t6, hi2, hf, ho⟩
  have hw1 : IntKind.i64.wrap ((i : Int) + 1) = ((i + 1 : Nat) : Int) := by rw [wrap_i64] <;> omega
  by_cases hlt : i < e.args.length
  · have hmem : e.args[i].size ≤ Ex.sizeL e.args := Ex.size_mem (List.getElem_mem hlt)
    have hbl := boundS_length e (i : Int)
    have hul := use_length names e
    have htake : e.args.take (i + 1) = e.args.take i ++ [e.args[i]] := by simp
    have hsl := seenL_length names e 0 (e.args.take (i + 1))
    have htl : Ex.sizeL (e.args.take (i + 1)) ≤ Ex.sizeL e.args := by
      have := Ex.sizeL_append (e.args.take (i + 1)) (e.args.drop (i + 1))
      rw [List.take_append_drop] at this; omega
    have hsn := seenL_snoc names e (e.args.take i) 0 e.args[i]
    rw [← htake] at hsn
    have hmin : min i e.args.length = i := by omega
    simp only [List.length_take, hmin, Nat.zero_add] at hsn
    simp -dsimp [t1, t2, t6, hi2, h7, hargs, hlt]
    refine bound_ok ?_
    simp -dsimp [t1]
    have hvs : IsStrs h' v names := hv.keep hf
    refine with_ok (by omega) (by omega) hvs.elems rfl ?_
    simp -dsimp [t2, t6, hi2, h7, hargs, hlt]
    refine rec _ _ _ _ _ (by omega) (by simp only [List.length_append]; omega) (IsStrs.rows _) ?_
    have hlen := congrArg List.length hsn
    simp only [List.length_append] at hlen
    simp -dsimp
    refine ho.push hf (by simp only [List.length_map, List.length_append]; omega) (by decide) fun v' h2 ho2 hf2 hc2 => ?_
    simp -dsimp [t6, hw1]
    refine Again.same (n - 1) (by omega) ⟨i + 1, by omega, by simp [t1], by simp [t2], by simp, hc2 _ _ hi2, hf2, ?_⟩
    rw [hsn]
    simpa using ho2
  · have htk : e.args.take i = e.args := List.take_of_length_le (by omega)
    rw [htk] at ho
    simp -dsimp [t1, t2, t6, hi2, h7, hargs, hlt]
    refine ho.out hf ?_
    rw [← seenS_eq]
    exact hK
theorem seen_ok : ∀ (n : Nat) (e : Ex) (names : List Bytes) (v : AV) (h : Hp) (K : AV → Hp → Prop), e.size ≤ n → names.length + 2 * e.size ≤ 200000 → IsStrs h v names → K (rowsAV ((seenS names e).map seenRow)) h → ACalls Tryz.prog 100 [.agg e.cells, v] h K := by
  intro n
  induction n with
  | zero => intro e names v h K hn; have := e.size_pos; omega
  | succ n ih =>
    intro e names v h K hn hnm hv hK
    refine calls_of mixed Tryz.func100 comp100 (Nat.le_of_ble_eq_true rfl) ?_
    have h7 : e.cells.length = 7 := by simp
    have h0 : e.cells[0]? = some (.int .i64 e.op) := by cases e; rfl
    have h1 : e.cells[1]? = some (.str e.name) := by cases e; rfl
    have hsplit : c100.code = .seq (match c100.code with | .seq a _ => a | _ => .skip) (.seq (match c100.code with | .seq _ (.seq a _) => a | _ => .skip) (.seq (match c100.code with | .seq _ (.seq _ (.seq a _)) => a | _ => .skip) snL)) := rfl
    rw [hsplit]
    have tail := @seen_loop n ih e names v
    generalize snL = T at *
    simp -dsimp [c100]
    intro i2 d2
    simp -dsimp [h0]
    by_cases o6 : e.op = 6
    · simp -dsimp [o6, h1]
      refine has_ok (by omega) (hv.keep ((Keeps.refl h).new d2)) ?_
      simp -dsimp [Stable, AIns.wants, QStep, o6]
      intro i3 d3
      have e3 := d3
      simp at d3
      simp -dsimp
      intro i4 d4
      have e4 := d4
      simp [d3] at d4
      simp -dsimp
      refine tail (h := h) (i2 := i2) (by omega) hnm hv (by simp) (by simp) rfl ?_ ((((Keeps.refl h).new d2).new e3).new e4) (by simp [d3, d4]) d2 hK
      exact .inr ⟨i4, by simp [Ex.use, o6, seenRow], by simp [d4], by simp [Ex.use, o6, seenRow], by simp [Ex.use, o6, seenRow]⟩
    · by_cases o7 : e.op = 7
      · simp -dsimp [o7, o6]
        intro i3 d3
        have e3 := d3
        simp at d3
        simp -dsimp
        intro i4 d4
        have e4 := d4
        simp [d3] at d4
        simp -dsimp
        refine tail (h := h) (i2 := i2) (by omega) hnm hv (by simp) (by simp) rfl ?_ ((((Keeps.refl h).new d2).new e3).new e4) (by simp [d3, d4]) d2 hK
        exact .inr ⟨i4, by simp [Ex.use, o7, o6, seenRow], by simp [d4], by simp [Ex.use, o7, o6, seenRow], by simp [Ex.use, o7, o6, seenRow]⟩
      · simp -dsimp [o7, o6]
        refine tail (h := h) (i2 := i2) (by omega) hnm hv (by simp) (by simp) rfl ?_ ((Keeps.refl h).new d2) (by simp) d2 hK
        exact .inl ⟨by simp [Ex.use, o6, o7], by simp⟩
end Go.Proofs.YtcpkdbofohkipaaGreat
