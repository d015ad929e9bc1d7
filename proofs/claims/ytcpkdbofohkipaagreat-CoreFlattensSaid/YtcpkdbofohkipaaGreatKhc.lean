/- The grammar: variables and calls. -/
import Derived.Test.YtcpkdbofohkipaaGreatKh
set_option linter.unusedVariables false
set_option linter.unusedSimpArgs false
namespace Go.Proofs.YtcpkdbofohkipaaGreat
open Go.AM
variable {h : Hp} {rid : Nat} {ms : List Mk} {s : St} {K : AV → Hp → Prop} {k : Nat} {e : St → Ex × St}

set_option maxHeartbeats 1000000 in
theorem named_ok (hg : Good ms) (he : Reads ms k e) (hc : Ctr Tryz.prog 117 ms k e) {m : Mk} (ha : s.at_ < ms.length) (hk : ms.length ≤ s.at_ + (k + 1)) (hn : 0 ≤ s.nest ∧ s.nest ≤ 32768) (hh : h rid = .cells (rdCells ms s))
    (hK : K (.agg (namedS ms e m s).1.cells) (hset h rid (.cells (rdCells ms (namedS ms e m s).2)))) : ACalls Tryz.prog 147 [.ptr rid 0, .agg m.cells] h K := by
  refine calls_of mixed Tryz.func147 comp147 (Nat.le_of_ble_eq_true rfl) ?_
  have hl := hg.le
  simp -dsimp [c147]
  intro i3 d3
  simp -dsimp
  intro i4 d4
  simp at d4
  obtain ⟨n43, n34, d4⟩ := d4
  obtain ⟨r3, q3⟩ := rd_ne hh d3
  obtain ⟨r4, q4⟩ := rd_ne hh d4
  simp -dsimp
  refine take_ok (s := s) hg (by simp [r3, r4, hh]) ha ?_
  by_cases hb : isB ms s [40] = true
  · have ha1 := isB_on hg ha hb
    simp -dsimp [hb, takeS, n43, n34, r3, q3, r4, q4]
    intro i5 d5
    simp at d5
    obtain ⟨r5, q5, n54, n45, n53, n35, d5⟩ := d5
    simp -dsimp [n43, n34, r3, q3, r4, q4, r5, q5, n54, n45, n53, n35]
    generalize hs0 : adv s = s0 at *
    have hb0 : s0.at_ = s.at_ + 1 := by rw [← hs0]; rfl
    have hw0 : s0.why = 0 := by rw [← hs0]; exact (isB_kind hb).1
    generalize hR : argsS ms e (ms.length + 1) [] s0 = R at *
    have hname : namedS ms e m s = (.mk 7 m.text [] 0 0 0 R.1 m.pos, wantS ms R.2 [41]) := by simp only [namedS, if_pos hb, hs0, hR]
    rw [hname] at hK
    have hmon : On ms s0 R.2 := by rw [← hR]; exact args_on hg he _ _ _ ha1.lt (by omega)
    refine ALoop.start (fun n tm h' => ∃ (acc : List Ex) (t : St) (v : AV), tm 0 = .ptr rid 0 ∧ tm 4 = .ptr i4 0 ∧ tm 5 = .ptr i5 0 ∧ h' rid = .cells (rdCells ms t) ∧ h' i4 = .cells ex0.cells ∧
      h' i5 = .cells [.int .i64 7, .str m.text, .str [], .int .i64 0, .cplx 0 0, v, .int .i64 m.pos] ∧ Own h h' 69 7 v (acc.map Ex.cells) ∧ Fr h h' rid ∧ On ms s0 t ∧
      argsS ms e n acc t = R ∧ (t.why = 0 → acc.length ≤ t.at_) ∧ acc.length ≤ t.at_ + 1 ∧ 1 ≤ n ∧ (t.why = 0 → ms.length + 1 ≤ t.at_ + n)) (ms.length + 1)
      ⟨[], s0, .nl, by simp, by simp, by simp, by simp [r3, r4, r5, q5, takeS, hb, hs0], by simp [n45, q4, r4, n54]; rfl, by simp, Own.nil,
        ((((Fr.refl.set d3).set d4).own).set d5), On.refl ha1.lt, hR, by simp, by simp, by omega, by omega⟩ ?_
    rintro n tm h' ⟨acc, t, v, t0, t4, t5, hr, hi4, hi5, ho, hf, hon, hRR, hac, hac1, hn1, hfu⟩
    obtain ⟨n, rfl⟩ : ∃ q, n = q + 1 := ⟨n - 1, by omega⟩
    have hn0 : 0 ≤ s0.nest ∧ s0.nest ≤ 32768 := by rw [← hs0]; exact hn
    by_cases hw : t.why = 0
    · by_cases hcl : isB ms t [41] = true
      · have hq : argsS ms e (n + 1) acc t = (acc, t) := by simp [argsS, hcl]
        rw [hq] at hRR
        subst hRR
        simp -dsimp [t0, hr, hw, rdCells, hcl]
        refine is_ok (s := t) hr hon.lt ?_
        simp -dsimp [t0, hcl]
        refine want_ok (s := t) hg hr hon.lt ?_
        simp -dsimp [t4, t5, hi4, hi5, q4, q5, r5, n45, n54]
        have hx : ((hset (hset h' rid (.cells (rdCells ms (wantS ms t [41])))) i4 (.cells [.int .i64 7, .str m.text, .str [], .int .i64 0, .cplx 0 0, v, .int .i64 m.pos])) : Hp) rid = .cells (rdCells ms (wantS ms t [41])) := by simp [r4]
        refine Gives.frz (h' := hset h rid (.cells (rdCells ms (wantS ms t [41])))) ((hf.own.set d4).sub hx) (Frz.cell (a := [.int .i64 7, .str m.text, .str [], .int .i64 0, .cplx 0 0]) (b := [.int .i64 m.pos]) (((ho.setc hr).setc (j := i4) (cs := ex0.cells) (by simp [q4, hi4])).frz (rid := rid) (x := rdCells ms (wantS ms t [41])) (by simp [r4]))) ?_
        simpa [Ex.cells, Ex.rows_map] using hK
      · have hq : argsS ms e (n + 1) acc t = argsS ms e n (acc ++ [(e (if acc = [] then t else wantS ms t [44])).1]) (e (if acc = [] then t else wantS ms t [44])).2 := by simp [argsS, hcl, hw]
        rw [hq] at hRR
        simp -dsimp [t0, hr, rdCells, hw]
        refine is_ok (s := t) hr hon.lt ?_
        simp -dsimp [t0, t5, hi5, hcl, ho.len]
        by_cases hacc : acc = []
        · have hs1 : On ms t t := On.refl hon.lt
          rw [if_pos hacc] at hRR
          simp -dsimp [t0, hacc]
          have hk1 := (he t hs1.lt (by have := hs1.le; have := hon.le; omega))
          refine hc (s := t) hs1.lt (by have := hs1.le; have := hon.le; omega) (by rw [hs1.nest, hon.nest]; exact hn0) hr ?_
          simp -dsimp
          intro i6 d6
          simp at d6
          obtain ⟨n6r, nr6, d6⟩ := d6
          have n65 : ¬ i6 = i5 := by rintro rfl; rw [d6] at hi5; cases hi5
          have n64 : ¬ i6 = i4 := by rintro rfl; rw [d6] at hi4; cases hi4
          have n56 : ¬ i5 = i6 := fun x => n65 x.symm
          simp -dsimp [t5, hi5, q5, r5, n6r, nr6, n65, n56]
          intro i7 d7
          simp at d7
          obtain ⟨n76, n67, n7r, nr7, d7⟩ : ¬ i7 = i6 ∧ ¬ i6 = i7 ∧ ¬ i7 = rid ∧ ¬ rid = i7 ∧ h' i7 = .dead := by
            simp_all
          have n75 : ¬ i7 = i5 := by rintro rfl; rw [d7] at hi5; cases hi5
          have n74 : ¬ i7 = i4 := by rintro rfl; rw [d7] at hi4; cases hi4
          have n57 : ¬ i5 = i7 := fun x => n75 x.symm
          have n47 : ¬ i4 = i7 := fun x => n74 x.symm
          have n46 : ¬ i4 = i6 := fun x => n64 x.symm
          simp -dsimp [t5, hi5, q5, r5, n6r, nr6, n65, n56, n75, n57]
          have hgo : (e t).2.why = 0 → t.at_ < (e t).2.at_ := fun x => hk1.2 hw x
          have hal := hac hw
          have hlt := hon.lt
          have hle1 := (hs1.trans hk1.1).le
          refine Own.app (h := h) (rid := rid) (x := rdCells ms (e t).2) (by first | exact ((ho.setc hr).setd (by simp [n6r, d6])).setd (by simp [n76, n7r, d7]) | exact (((ho.setc hr).setc (j := rid) (cs := rdCells ms t) (by simp)).setd (by simp [n6r, d6])).setd (by simp [n76, n7r, d7])) (by first | exact ((hf.own).set (hf.dead hr d6)).set (hf.dead hr d7) | exact ((hf.own.own).set (hf.dead hr d6)).set (hf.dead hr d7)) (by simp [nr6, nr7]) (by simp) (by simp; omega) (by simp; omega) (fun v' h2 ho2 hf2 hkeep => ?_)
          have e5 : h2 i5 = .cells [.int .i64 7, .str m.text, .str [], .int .i64 0, .cplx 0 0, v, .int .i64 m.pos] := hkeep i5 _ (by simp [r5, n56, n57, hi5])
          have er : h2 rid = .cells (rdCells ms (e t).2) := hkeep rid _ (by simp [nr6, nr7])
          have e4 : h2 i4 = .cells ex0.cells := hkeep i4 _ (by simp [q4, n46, n47, hi4])
          simp -dsimp [t5, e5, ho2.flat]
          exact Again.same n (by omega) ⟨acc ++ [(e t).1], (e t).2, v', by simp [t0], by simp [t4], by simp [t5], by simp [q5, er], by simp [n45, e4], by simp, by simpa using ho2.setc e5, hf2.set d5, (hon.trans hs1).trans hk1.1, hRR, by simp; omega, by simp; omega, by omega, by omega⟩
        · have hs1 : On ms t (wantS ms t [44]) := want_on hg hon.lt
          rw [if_neg hacc] at hRR
          have hpos : 0 < acc.length := List.length_pos_iff.2 hacc
          simp -dsimp [t0, hacc, hpos]
          refine want_ok (s := t) hg hr hon.lt ?_
          simp -dsimp [t0]
          have hk1 := (he (wantS ms t [44]) hs1.lt (by have := hs1.le; have := hon.le; omega))
          refine hc (s := (wantS ms t [44])) hs1.lt (by have := hs1.le; have := hon.le; omega) (by rw [hs1.nest, hon.nest]; exact hn0) (by simp [hr]) ?_
          simp -dsimp
          intro i6 d6
          simp at d6
          obtain ⟨n6r, nr6, d6⟩ := d6
          have n65 : ¬ i6 = i5 := by rintro rfl; rw [d6] at hi5; cases hi5
          have n64 : ¬ i6 = i4 := by rintro rfl; rw [d6] at hi4; cases hi4
          have n56 : ¬ i5 = i6 := fun x => n65 x.symm
          simp -dsimp [t5, hi5, q5, r5, n6r, nr6, n65, n56]
          intro i7 d7
          simp at d7
          obtain ⟨n76, n67, n7r, nr7, d7⟩ : ¬ i7 = i6 ∧ ¬ i6 = i7 ∧ ¬ i7 = rid ∧ ¬ rid = i7 ∧ h' i7 = .dead := by
            simp_all
          have n75 : ¬ i7 = i5 := by rintro rfl; rw [d7] at hi5; cases hi5
          have n74 : ¬ i7 = i4 := by rintro rfl; rw [d7] at hi4; cases hi4
          have n57 : ¬ i5 = i7 := fun x => n75 x.symm
          have n47 : ¬ i4 = i7 := fun x => n74 x.symm
          have n46 : ¬ i4 = i6 := fun x => n64 x.symm
          simp -dsimp [t5, hi5, q5, r5, n6r, nr6, n65, n56, n75, n57]
          have hgo : (e (wantS ms t [44])).2.why = 0 → t.at_ < (e (wantS ms t [44])).2.at_ := fun x => Nat.lt_of_lt_of_le (want_go (Decidable.byContradiction fun y => hk1.1.why y x)) hk1.1.le
          have hal := hac hw
          have hlt := hon.lt
          have hle1 := (hs1.trans hk1.1).le
          refine Own.app (h := h) (rid := rid) (x := rdCells ms (e (wantS ms t [44])).2) (by first | exact ((ho.setc hr).setd (by simp [n6r, d6])).setd (by simp [n76, n7r, d7]) | exact (((ho.setc hr).setc (j := rid) (cs := rdCells ms (wantS ms t [44])) (by simp)).setd (by simp [n6r, d6])).setd (by simp [n76, n7r, d7])) (by first | exact ((hf.own).set (hf.dead hr d6)).set (hf.dead hr d7) | exact ((hf.own.own).set (hf.dead hr d6)).set (hf.dead hr d7)) (by simp [nr6, nr7]) (by simp) (by simp; omega) (by simp; omega) (fun v' h2 ho2 hf2 hkeep => ?_)
          have e5 : h2 i5 = .cells [.int .i64 7, .str m.text, .str [], .int .i64 0, .cplx 0 0, v, .int .i64 m.pos] := hkeep i5 _ (by simp [r5, n56, n57, hi5])
          have er : h2 rid = .cells (rdCells ms (e (wantS ms t [44])).2) := hkeep rid _ (by simp [nr6, nr7])
          have e4 : h2 i4 = .cells ex0.cells := hkeep i4 _ (by simp [q4, n46, n47, hi4])
          simp -dsimp [t5, e5, ho2.flat]
          exact Again.same n (by omega) ⟨acc ++ [(e (wantS ms t [44])).1], (e (wantS ms t [44])).2, v', by simp [t0], by simp [t4], by simp [t5], by simp [q5, er], by simp [n45, e4], by simp, by simpa using ho2.setc e5, hf2.set d5, (hon.trans hs1).trans hk1.1, hRR, by simp; omega, by simp; omega, by omega, by omega⟩
    · have hq : argsS ms e (n + 1) acc t = (acc, t) := by simp [argsS, hw]
      rw [hq] at hRR
      subst hRR
      simp -dsimp [t0, hr, hw, rdCells]
      refine want_ok (s := t) hg hr hon.lt ?_
      simp -dsimp [t4, t5, hi4, hi5, q4, q5, r5, n45, n54]
      have hx : ((hset (hset h' rid (.cells (rdCells ms (wantS ms t [41])))) i4 (.cells [.int .i64 7, .str m.text, .str [], .int .i64 0, .cplx 0 0, v, .int .i64 m.pos])) : Hp) rid = .cells (rdCells ms (wantS ms t [41])) := by simp [r4]
      refine Gives.frz (h' := hset h rid (.cells (rdCells ms (wantS ms t [41])))) ((hf.own.set d4).sub hx) (Frz.cell (a := [.int .i64 7, .str m.text, .str [], .int .i64 0, .cplx 0 0]) (b := [.int .i64 m.pos]) (((ho.setc hr).setc (j := i4) (cs := ex0.cells) (by simp [q4, hi4])).frz (rid := rid) (x := rdCells ms (wantS ms t [41])) (by simp [r4]))) ?_
      simpa [Ex.cells, Ex.rows_map] using hK
  · simp -dsimp [hb, takeS, n43, n34, r3, q3, r4, q4]
    rw [show namedS ms e m s = (.mk 6 m.text [] 0 0 0 [] m.pos, s) by simp [namedS, hb]] at hK
    refine Gives.sub (by repeat first | exact Sub.refl _ | refine Sub.put ?_ | refine Sub.dropr ?_ (by simp [*])) hK
end Go.Proofs.YtcpkdbofohkipaaGreat
