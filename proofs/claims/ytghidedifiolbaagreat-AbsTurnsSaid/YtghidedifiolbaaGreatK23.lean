/- The grammar: terms and sums. -/
import Derived.Test.YtghidedifiolbaaGreatK22
import Derived.Test.YtghidedifiolbaaGreatK08
set_option linter.unusedVariables false
set_option linter.unusedSimpArgs false
namespace Go.Proofs.YtghidedifiolbaaGreat
open Go.AM
variable {ms : List Mk} {k : Nat} {e : St → Ex × St}

theorem term_ok (hg : Good ms) (he : Reads ms k e) (hc : Ctr Tryz.prog 125 ms k e) : Ctr Tryz.prog 146 ms (k + 1) (termS ms e) := by
  intro rid s h K ha hk hn hh hK
  have hcs : Ctr Tryz.prog 147 ms (k + 1) (unitS ms e) := unit_ok hg he hc
  have hsub : Reads ms (k + 1) (unitS ms e) := unit_on hg he
  refine calls_of mixed Tryz.func146 comp146 (Nat.le_of_ble_eq_true rfl) ?_
  have hl := hg.le
  simp -dsimp [c146]
  intro i2 d2
  obtain ⟨nr2, n2r⟩ := rd_ne hh d2
  simp -dsimp
  have hs1 := (hsub s ha hk).1
  refine hcs (s := s) ha hk hn (by simp [nr2, hh]) ?_
  simp -dsimp
  intro i3 d3
  simp at d3
  obtain ⟨n3r, nr3, n32, n23, d3⟩ := d3
  simp -dsimp
  have hdef : termS ms e s = chainS ms (unitS ms e) [42] [47] 10 11 (ms.length + 1) ((unitS ms e) s).1 ((unitS ms e) s).2 := rfl
  rw [hdef] at hK
  generalize hR : chainS ms (unitS ms e) [42] [47] 10 11 (ms.length + 1) ((unitS ms e) s).1 ((unitS ms e) s).2 = R at *
  refine ALoop.start (fun n tm h' => ∃ (a : Ex) (t : St), tm 0 = .ptr rid 0 ∧ tm 2 = .ptr i2 0 ∧ tm 3 = .ptr i3 0 ∧ h' rid = .cells (rdCells ms t) ∧ h' i2 = .cells ex0.cells ∧ h' i3 = .cells a.cells ∧ Fr h h' rid ∧ On ms s t ∧
    chainS ms (unitS ms e) [42] [47] 10 11 n a t = R ∧ ms.length + 1 ≤ t.at_ + n) (ms.length + 1)
    ⟨_, ((unitS ms e) s).2, by simp, by simp, by simp, by simp [nr3], by simp [n2r, n23]; rfl, by simp, ((Fr.refl.set d2).own).set d3, hs1, hR, by omega⟩ ?_
  rintro n tm h' ⟨a, t, t0, t2, t3, hr, hi2, hi3, hf, hon, hRR, hfu⟩
  obtain ⟨n, rfl⟩ : ∃ q, n = q + 1 := ⟨n - 1, by have := hon.lt; omega⟩
  have hlt := hon.lt
  simp -dsimp [t0]
  refine is_ok (s := t) hr hon.lt ?_
  by_cases hq : isB ms t [42] = true
  · simp only [chainS, hq, true_or, if_true] at hRR
    simp -dsimp [t0, hq]
    have hga := isB_on hg hon.lt hq
    refine next_ok (s := t) hr hon.lt ?_
    simp -dsimp [t0]
    intro i4 d4
    have n42 : ¬ i4 = i2 := by rintro rfl; rw [d4] at hi2; cases hi2
    have n43 : ¬ i4 = i3 := by rintro rfl; rw [d4] at hi3; cases hi3
    have n4r : ¬ i4 = rid := by rintro rfl; rw [d4] at hr; cases hr
    have nr4 : ¬ rid = i4 := fun x => n4r x.symm
    have n24 : ¬ i2 = i4 := fun x => n42 x.symm
    have n34 : ¬ i3 = i4 := fun x => n43 x.symm
    have hwp : IntKind.i64.wrap ((t.at_ : Int) + 1) = ((t.at_ + 1 : Nat) : Int) := by have := hon.lt; rw [wrap_i64] <;> omega
    simp -dsimp [-Int.natCast_add, t0, nr4, n4r, hr, rdCells, hwp]
    have hle1 := hon.le
    have hsb := hsub (adv t) hga.lt (by rw [adv_at]; omega)
    refine hcs (s := adv t) hga.lt (by rw [adv_at]; omega) (by show 0 ≤ t.nest ∧ t.nest ≤ 32768; rw [hon.nest]; exact hn) (by simp [rdCells, adv]) ?_
    simp -dsimp
    intro i5 d5
    simp at d5
    obtain ⟨n5r, nr5, _, _, n54, n45, d5⟩ : ¬ i5 = rid ∧ ¬ rid = i5 ∧ True ∧ True ∧ ¬ i5 = i4 ∧ ¬ i4 = i5 ∧ h' i5 = .dead := by simp_all
    have n52 : ¬ i5 = i2 := by rintro rfl; rw [d5] at hi2; cases hi2
    have n53 : ¬ i5 = i3 := by rintro rfl; rw [d5] at hi3; cases hi3
    have n25 : ¬ i2 = i5 := fun x => n52 x.symm
    have n35 : ¬ i3 = i5 := fun x => n53 x.symm
    have hnext : chainS ms (unitS ms e) [42] [47] 10 11 n (two (if (nx ms t).text = [47] then 11 else 10) a ((unitS ms e) (adv t)).1 (nx ms t)) ((unitS ms e) (adv t)).2 = R := hRR
    by_cases ho : (nx ms t).text = [47]
    · rw [if_pos ho] at hnext
      simp -dsimp [n4r, nr4, n54, n45, n5r, nr5, n24, n42, ho, n34, n43, n53, n35, n3r, nr3, hi3, t3]
      refine two_ok ?_
      simp -dsimp [n4r, nr4, n54, n45, n5r, nr5, n24, n42, n34, n43, n53, n35, n3r, nr3, hi3, t3]
      exact Again.same n (by omega) ⟨_, ((unitS ms e) (adv t)).2, by simp [t0], by simp [t2], by simp [t3], by simp [nr5, nr3], by simp [n23, n25, n2r, n24, hi2], by simp, (((hf.set (hf.dead hr d4)).own).set (hf.dead hr d5)).set d3, (hon.trans hga).trans hsb.1, hnext, by have := hsb.1.le; rw [adv_at] at this; omega⟩
    · rw [if_neg ho] at hnext
      simp -dsimp [n4r, nr4, n54, n45, n5r, nr5, n24, n42, ho, n34, n43, n53, n35, n3r, nr3, hi3, t3]
      refine two_ok ?_
      simp -dsimp [n4r, nr4, n54, n45, n5r, nr5, n24, n42, n34, n43, n53, n35, n3r, nr3, hi3, t3]
      exact Again.same n (by omega) ⟨_, ((unitS ms e) (adv t)).2, by simp [t0], by simp [t2], by simp [t3], by simp [nr5, nr3], by simp [n23, n25, n2r, n24, hi2], by simp, (((hf.set (hf.dead hr d4)).own).set (hf.dead hr d5)).set d3, (hon.trans hga).trans hsb.1, hnext, by have := hsb.1.le; rw [adv_at] at this; omega⟩
  · simp -dsimp [t0, hq]
    refine is_ok (s := t) hr hon.lt ?_
    have hq1 := hq
    by_cases hq : isB ms t [47] = true
    · simp only [chainS, hq, or_true, if_true] at hRR
      simp -dsimp [t0, hq]
      have hga := isB_on hg hon.lt hq
      refine next_ok (s := t) hr hon.lt ?_
      simp -dsimp [t0]
      intro i4 d4
      have n42 : ¬ i4 = i2 := by rintro rfl; rw [d4] at hi2; cases hi2
      have n43 : ¬ i4 = i3 := by rintro rfl; rw [d4] at hi3; cases hi3
      have n4r : ¬ i4 = rid := by rintro rfl; rw [d4] at hr; cases hr
      have nr4 : ¬ rid = i4 := fun x => n4r x.symm
      have n24 : ¬ i2 = i4 := fun x => n42 x.symm
      have n34 : ¬ i3 = i4 := fun x => n43 x.symm
      have hwp : IntKind.i64.wrap ((t.at_ : Int) + 1) = ((t.at_ + 1 : Nat) : Int) := by have := hon.lt; rw [wrap_i64] <;> omega
      simp -dsimp [-Int.natCast_add, t0, nr4, n4r, hr, rdCells, hwp]
      have hle1 := hon.le
      have hsb := hsub (adv t) hga.lt (by rw [adv_at]; omega)
      refine hcs (s := adv t) hga.lt (by rw [adv_at]; omega) (by show 0 ≤ t.nest ∧ t.nest ≤ 32768; rw [hon.nest]; exact hn) (by simp [rdCells, adv]) ?_
      simp -dsimp
      intro i5 d5
      simp at d5
      obtain ⟨n5r, nr5, _, _, n54, n45, d5⟩ : ¬ i5 = rid ∧ ¬ rid = i5 ∧ True ∧ True ∧ ¬ i5 = i4 ∧ ¬ i4 = i5 ∧ h' i5 = .dead := by simp_all
      have n52 : ¬ i5 = i2 := by rintro rfl; rw [d5] at hi2; cases hi2
      have n53 : ¬ i5 = i3 := by rintro rfl; rw [d5] at hi3; cases hi3
      have n25 : ¬ i2 = i5 := fun x => n52 x.symm
      have n35 : ¬ i3 = i5 := fun x => n53 x.symm
      have hnext : chainS ms (unitS ms e) [42] [47] 10 11 n (two (if (nx ms t).text = [47] then 11 else 10) a ((unitS ms e) (adv t)).1 (nx ms t)) ((unitS ms e) (adv t)).2 = R := hRR
      by_cases ho : (nx ms t).text = [47]
      · rw [if_pos ho] at hnext
        simp -dsimp [n4r, nr4, n54, n45, n5r, nr5, n24, n42, ho, n34, n43, n53, n35, n3r, nr3, hi3, t3]
        refine two_ok ?_
        simp -dsimp [n4r, nr4, n54, n45, n5r, nr5, n24, n42, n34, n43, n53, n35, n3r, nr3, hi3, t3]
        exact Again.same n (by omega) ⟨_, ((unitS ms e) (adv t)).2, by simp [t0], by simp [t2], by simp [t3], by simp [nr5, nr3], by simp [n23, n25, n2r, n24, hi2], by simp, (((hf.set (hf.dead hr d4)).own).set (hf.dead hr d5)).set d3, (hon.trans hga).trans hsb.1, hnext, by have := hsb.1.le; rw [adv_at] at this; omega⟩
      · rw [if_neg ho] at hnext
        simp -dsimp [n4r, nr4, n54, n45, n5r, nr5, n24, n42, ho, n34, n43, n53, n35, n3r, nr3, hi3, t3]
        refine two_ok ?_
        simp -dsimp [n4r, nr4, n54, n45, n5r, nr5, n24, n42, n34, n43, n53, n35, n3r, nr3, hi3, t3]
        exact Again.same n (by omega) ⟨_, ((unitS ms e) (adv t)).2, by simp [t0], by simp [t2], by simp [t3], by simp [nr5, nr3], by simp [n23, n25, n2r, n24, hi2], by simp, (((hf.set (hf.dead hr d4)).own).set (hf.dead hr d5)).set d3, (hon.trans hga).trans hsb.1, hnext, by have := hsb.1.le; rw [adv_at] at this; omega⟩
    · simp only [chainS, hq1, hq, or_self] at hRR
      simp -dsimp [hq, t2, t3, hi2, hi3, n23]
      have : R = (a, t) := by simpa using hRR.symm
      subst this
      exact Gives.sub ((hf.set d2).sub (by simp [nr2, hr])) hK

theorem sum_ok (hg : Good ms) (he : Reads ms k e) (hc : Ctr Tryz.prog 125 ms k e) : Ctr Tryz.prog 145 ms (k + 1) (sumS ms e) := by
  intro rid s h K ha hk hn hh hK
  have hcs : Ctr Tryz.prog 146 ms (k + 1) (termS ms e) := term_ok hg he hc
  have hsub : Reads ms (k + 1) (termS ms e) := term_on hg he
  refine calls_of mixed Tryz.func145 comp145 (Nat.le_of_ble_eq_true rfl) ?_
  have hl := hg.le
  simp -dsimp [c145]
  intro i2 d2
  obtain ⟨nr2, n2r⟩ := rd_ne hh d2
  simp -dsimp
  have hs1 := (hsub s ha hk).1
  refine hcs (s := s) ha hk hn (by simp [nr2, hh]) ?_
  simp -dsimp
  intro i3 d3
  simp at d3
  obtain ⟨n3r, nr3, n32, n23, d3⟩ := d3
  simp -dsimp
  have hdef : sumS ms e s = chainS ms (termS ms e) [43] [45] 8 9 (ms.length + 1) ((termS ms e) s).1 ((termS ms e) s).2 := rfl
  rw [hdef] at hK
  generalize hR : chainS ms (termS ms e) [43] [45] 8 9 (ms.length + 1) ((termS ms e) s).1 ((termS ms e) s).2 = R at *
  refine ALoop.start (fun n tm h' => ∃ (a : Ex) (t : St), tm 0 = .ptr rid 0 ∧ tm 2 = .ptr i2 0 ∧ tm 3 = .ptr i3 0 ∧ h' rid = .cells (rdCells ms t) ∧ h' i2 = .cells ex0.cells ∧ h' i3 = .cells a.cells ∧ Fr h h' rid ∧ On ms s t ∧
    chainS ms (termS ms e) [43] [45] 8 9 n a t = R ∧ ms.length + 1 ≤ t.at_ + n) (ms.length + 1)
    ⟨_, ((termS ms e) s).2, by simp, by simp, by simp, by simp [nr3], by simp [n2r, n23]; rfl, by simp, ((Fr.refl.set d2).own).set d3, hs1, hR, by omega⟩ ?_
  rintro n tm h' ⟨a, t, t0, t2, t3, hr, hi2, hi3, hf, hon, hRR, hfu⟩
  obtain ⟨n, rfl⟩ : ∃ q, n = q + 1 := ⟨n - 1, by have := hon.lt; omega⟩
  have hlt := hon.lt
  simp -dsimp [t0]
  refine is_ok (s := t) hr hon.lt ?_
  by_cases hq : isB ms t [43] = true
  · simp only [chainS, hq, true_or, if_true] at hRR
    simp -dsimp [t0, hq]
    have hga := isB_on hg hon.lt hq
    refine next_ok (s := t) hr hon.lt ?_
    simp -dsimp [t0]
    intro i4 d4
    have n42 : ¬ i4 = i2 := by rintro rfl; rw [d4] at hi2; cases hi2
    have n43 : ¬ i4 = i3 := by rintro rfl; rw [d4] at hi3; cases hi3
    have n4r : ¬ i4 = rid := by rintro rfl; rw [d4] at hr; cases hr
    have nr4 : ¬ rid = i4 := fun x => n4r x.symm
    have n24 : ¬ i2 = i4 := fun x => n42 x.symm
    have n34 : ¬ i3 = i4 := fun x => n43 x.symm
    have hwp : IntKind.i64.wrap ((t.at_ : Int) + 1) = ((t.at_ + 1 : Nat) : Int) := by have := hon.lt; rw [wrap_i64] <;> omega
    simp -dsimp [-Int.natCast_add, t0, nr4, n4r, hr, rdCells, hwp]
    have hle1 := hon.le
    have hsb := hsub (adv t) hga.lt (by rw [adv_at]; omega)
    refine hcs (s := adv t) hga.lt (by rw [adv_at]; omega) (by show 0 ≤ t.nest ∧ t.nest ≤ 32768; rw [hon.nest]; exact hn) (by simp [rdCells, adv]) ?_
    simp -dsimp
    intro i5 d5
    simp at d5
    obtain ⟨n5r, nr5, _, _, n54, n45, d5⟩ : ¬ i5 = rid ∧ ¬ rid = i5 ∧ True ∧ True ∧ ¬ i5 = i4 ∧ ¬ i4 = i5 ∧ h' i5 = .dead := by simp_all
    have n52 : ¬ i5 = i2 := by rintro rfl; rw [d5] at hi2; cases hi2
    have n53 : ¬ i5 = i3 := by rintro rfl; rw [d5] at hi3; cases hi3
    have n25 : ¬ i2 = i5 := fun x => n52 x.symm
    have n35 : ¬ i3 = i5 := fun x => n53 x.symm
    have hnext : chainS ms (termS ms e) [43] [45] 8 9 n (two (if (nx ms t).text = [45] then 9 else 8) a ((termS ms e) (adv t)).1 (nx ms t)) ((termS ms e) (adv t)).2 = R := hRR
    by_cases ho : (nx ms t).text = [45]
    · rw [if_pos ho] at hnext
      simp -dsimp [n4r, nr4, n54, n45, n5r, nr5, n24, n42, ho, n34, n43, n53, n35, n3r, nr3, hi3, t3]
      refine two_ok ?_
      simp -dsimp [n4r, nr4, n54, n45, n5r, nr5, n24, n42, n34, n43, n53, n35, n3r, nr3, hi3, t3]
      exact Again.same n (by omega) ⟨_, ((termS ms e) (adv t)).2, by simp [t0], by simp [t2], by simp [t3], by simp [nr5, nr3], by simp [n23, n25, n2r, n24, hi2], by simp, (((hf.set (hf.dead hr d4)).own).set (hf.dead hr d5)).set d3, (hon.trans hga).trans hsb.1, hnext, by have := hsb.1.le; rw [adv_at] at this; omega⟩
    · rw [if_neg ho] at hnext
      simp -dsimp [n4r, nr4, n54, n45, n5r, nr5, n24, n42, ho, n34, n43, n53, n35, n3r, nr3, hi3, t3]
      refine two_ok ?_
      simp -dsimp [n4r, nr4, n54, n45, n5r, nr5, n24, n42, n34, n43, n53, n35, n3r, nr3, hi3, t3]
      exact Again.same n (by omega) ⟨_, ((termS ms e) (adv t)).2, by simp [t0], by simp [t2], by simp [t3], by simp [nr5, nr3], by simp [n23, n25, n2r, n24, hi2], by simp, (((hf.set (hf.dead hr d4)).own).set (hf.dead hr d5)).set d3, (hon.trans hga).trans hsb.1, hnext, by have := hsb.1.le; rw [adv_at] at this; omega⟩
  · simp -dsimp [t0, hq]
    refine is_ok (s := t) hr hon.lt ?_
    have hq1 := hq
    by_cases hq : isB ms t [45] = true
    · simp only [chainS, hq, or_true, if_true] at hRR
      simp -dsimp [t0, hq]
      have hga := isB_on hg hon.lt hq
      refine next_ok (s := t) hr hon.lt ?_
      simp -dsimp [t0]
      intro i4 d4
      have n42 : ¬ i4 = i2 := by rintro rfl; rw [d4] at hi2; cases hi2
      have n43 : ¬ i4 = i3 := by rintro rfl; rw [d4] at hi3; cases hi3
      have n4r : ¬ i4 = rid := by rintro rfl; rw [d4] at hr; cases hr
      have nr4 : ¬ rid = i4 := fun x => n4r x.symm
      have n24 : ¬ i2 = i4 := fun x => n42 x.symm
      have n34 : ¬ i3 = i4 := fun x => n43 x.symm
      have hwp : IntKind.i64.wrap ((t.at_ : Int) + 1) = ((t.at_ + 1 : Nat) : Int) := by have := hon.lt; rw [wrap_i64] <;> omega
      simp -dsimp [-Int.natCast_add, t0, nr4, n4r, hr, rdCells, hwp]
      have hle1 := hon.le
      have hsb := hsub (adv t) hga.lt (by rw [adv_at]; omega)
      refine hcs (s := adv t) hga.lt (by rw [adv_at]; omega) (by show 0 ≤ t.nest ∧ t.nest ≤ 32768; rw [hon.nest]; exact hn) (by simp [rdCells, adv]) ?_
      simp -dsimp
      intro i5 d5
      simp at d5
      obtain ⟨n5r, nr5, _, _, n54, n45, d5⟩ : ¬ i5 = rid ∧ ¬ rid = i5 ∧ True ∧ True ∧ ¬ i5 = i4 ∧ ¬ i4 = i5 ∧ h' i5 = .dead := by simp_all
      have n52 : ¬ i5 = i2 := by rintro rfl; rw [d5] at hi2; cases hi2
      have n53 : ¬ i5 = i3 := by rintro rfl; rw [d5] at hi3; cases hi3
      have n25 : ¬ i2 = i5 := fun x => n52 x.symm
      have n35 : ¬ i3 = i5 := fun x => n53 x.symm
      have hnext : chainS ms (termS ms e) [43] [45] 8 9 n (two (if (nx ms t).text = [45] then 9 else 8) a ((termS ms e) (adv t)).1 (nx ms t)) ((termS ms e) (adv t)).2 = R := hRR
      by_cases ho : (nx ms t).text = [45]
      · rw [if_pos ho] at hnext
        simp -dsimp [n4r, nr4, n54, n45, n5r, nr5, n24, n42, ho, n34, n43, n53, n35, n3r, nr3, hi3, t3]
        refine two_ok ?_
        simp -dsimp [n4r, nr4, n54, n45, n5r, nr5, n24, n42, n34, n43, n53, n35, n3r, nr3, hi3, t3]
        exact Again.same n (by omega) ⟨_, ((termS ms e) (adv t)).2, by simp [t0], by simp [t2], by simp [t3], by simp [nr5, nr3], by simp [n23, n25, n2r, n24, hi2], by simp, (((hf.set (hf.dead hr d4)).own).set (hf.dead hr d5)).set d3, (hon.trans hga).trans hsb.1, hnext, by have := hsb.1.le; rw [adv_at] at this; omega⟩
      · rw [if_neg ho] at hnext
        simp -dsimp [n4r, nr4, n54, n45, n5r, nr5, n24, n42, ho, n34, n43, n53, n35, n3r, nr3, hi3, t3]
        refine two_ok ?_
        simp -dsimp [n4r, nr4, n54, n45, n5r, nr5, n24, n42, n34, n43, n53, n35, n3r, nr3, hi3, t3]
        exact Again.same n (by omega) ⟨_, ((termS ms e) (adv t)).2, by simp [t0], by simp [t2], by simp [t3], by simp [nr5, nr3], by simp [n23, n25, n2r, n24, hi2], by simp, (((hf.set (hf.dead hr d4)).own).set (hf.dead hr d5)).set d3, (hon.trans hga).trans hsb.1, hnext, by have := hsb.1.le; rw [adv_at] at this; omega⟩
    · simp only [chainS, hq1, hq, or_self] at hRR
      simp -dsimp [hq, t2, t3, hi2, hi3, n23]
      have : R = (a, t) := by simpa using hRR.symm
      subst this
      exact Gives.sub ((hf.set d2).sub (by simp [nr2, hr])) hK

end Go.Proofs.YtghidedifiolbaaGreat

/- The grammar: comparisons, conses. -/
namespace Go.Proofs.YtghidedifiolbaaGreat
open Go.AM
variable {ms : List Mk} {k : Nat} {e : St → Ex × St}

theorem comp_ok (hg : Good ms) (he : Reads ms k e) (hc : Ctr Tryz.prog 125 ms k e) : Ctr Tryz.prog 143 ms (k + 1) (compS ms e) := by
  intro rid s h K ha hk hn hh hK
  have hcs : Ctr Tryz.prog 145 ms (k + 1) (sumS ms e) := sum_ok hg he hc
  have hsub := sum_on hg he
  refine calls_of mixed Tryz.func143 comp143 (Nat.le_of_ble_eq_true rfl) ?_
  have hl := hg.le
  simp -dsimp [c143]
  intro i2 d2
  obtain ⟨nr2, n2r⟩ := rd_ne hh d2
  simp -dsimp
  have hs1 := (hsub s ha hk).1
  refine hcs (s := s) ha hk hn (by simp [nr2, hh]) ?_
  simp -dsimp
  intro i3 d3
  simp at d3
  obtain ⟨n3r, nr3, n32, n23, d3⟩ := d3
  simp -dsimp
  have hle1 := hs1.le
  have hlt1 := hs1.lt
  have hnest := hs1.nest
  generalize ht : sumS ms e s = T at *
  obtain ⟨a, t⟩ := T
  simp only at hs1 hle1 hlt1 hnest
  refine next_ok (s := t) (by simp [nr3]) hlt1 ?_
  simp -dsimp
  intro i4 d4
  simp at d4
  obtain ⟨n43, n34, n4r, nr4, n42, n24, d4⟩ := d4
  simp -dsimp
  refine is_ok (s := t) (by simp [nr3, nr4]) hlt1 ?_
  by_cases b1 : isB ms t [61, 61] = true
  · have b2 : isB ms t [60] = false := by
      have := (isB_kind b1).2.2
      simp [isB, this]
    have hga := isB_on hg hlt1 b1
    have hcomp : compS ms e s = (two 12 a (sumS ms e (adv t)).1 (nx ms t), (sumS ms e (adv t)).2) := by simp [compS, ht, b1, b2]
    rw [hcomp] at hK
    simp -dsimp [b2]
    refine take_ok (s := t) hg (by simp [nr3, nr4]) hlt1 ?_
    simp -dsimp [b1]
    have hsb := (hsub (adv t) hga.lt (by rw [adv_at]; omega)).1
    refine hcs (s := adv t) hga.lt (by rw [adv_at]; omega) (by show 0 ≤ t.nest ∧ t.nest ≤ 32768; rw [hnest]; exact hn) (by simp [takeS, b1]) ?_
    simp -dsimp
    intro i5 d5
    simp at d5
    obtain ⟨n5r, nr5, n54, n45, n53, n35, _, _, n52, n25, d5⟩ := d5
    simp -dsimp [n3r, nr3, n32, n23, n43, n34, n4r, nr4, n42, n24, n5r, nr5, n54, n45, n53, n35, n52, n25]
    refine two_ok ?_
    simp -dsimp [n2r, n23, n24, n25]
    exact Gives.sub (Fr.sub (rid := rid) (by repeat first | exact Fr.refl | refine Fr.own ?_ | refine Fr.set ?_ (by assumption)) (by simp [nr2, nr5])) hK
  · by_cases b2 : isB ms t [60] = true
    · have hga := isB_on hg hlt1 b2
      have hcomp : compS ms e s = (two 13 a (sumS ms e (adv t)).1 (nx ms t), (sumS ms e (adv t)).2) := by simp [compS, ht, b1, b2]
      rw [hcomp] at hK
      simp -dsimp [b2]
      refine take_ok (s := t) hg (by simp [nr3, nr4]) hlt1 ?_
      simp -dsimp [b1]
      refine take_ok (s := t) hg (by simp [takeS, b1]) hlt1 ?_
      simp -dsimp [b2]
      have hsb := (hsub (adv t) hga.lt (by rw [adv_at]; omega)).1
      refine hcs (s := adv t) hga.lt (by rw [adv_at]; omega) (by show 0 ≤ t.nest ∧ t.nest ≤ 32768; rw [hnest]; exact hn) (by simp [takeS, b2]) ?_
      simp -dsimp
      intro i5 d5
      simp at d5
      obtain ⟨n5r, nr5, n54, n45, n53, n35, _, _, n52, n25, d5⟩ := d5
      simp -dsimp [n3r, nr3, n32, n23, n43, n34, n4r, nr4, n42, n24, n5r, nr5, n54, n45, n53, n35, n52, n25]
      refine two_ok ?_
      simp -dsimp [n2r, n23, n24, n25]
      exact Gives.sub (Fr.sub (rid := rid) (by repeat first | exact Fr.refl | refine Fr.own ?_ | refine Fr.set ?_ (by assumption)) (by simp [nr2, nr5])) hK
    · have hcomp : compS ms e s = (a, t) := by simp [compS, ht, b1, b2]
      rw [hcomp] at hK
      simp -dsimp [b2]
      refine take_ok (s := t) hg (by simp [nr3, nr4]) hlt1 ?_
      simp -dsimp [b1]
      refine take_ok (s := t) hg (by simp [takeS, b1]) hlt1 ?_
      simp -dsimp [b2, n3r, nr3, n32, n23, n43, n34, n4r, nr4, n42, n24, n2r]
      exact Gives.sub (Fr.sub (rid := rid) (by repeat first | exact Fr.refl | refine Fr.own ?_ | refine Fr.set ?_ (by assumption)) (by simp [nr2, takeS, b2])) hK

theorem cons_ok (hg : Good ms) (he : Reads ms k e) (hc : Ctr Tryz.prog 125 ms k e) : ∀ (n : Nat) {rid : Nat} {s : St} {h : Hp} {K : AV → Hp → Prop}, s.at_ < ms.length → ms.length ≤ s.at_ + (k + 1) → ms.length < s.at_ + n → (0 ≤ s.nest ∧ s.nest ≤ 32768) → h rid = .cells (rdCells ms s) →
    K (.agg (consS ms e n s).1.cells) (hset h rid (.cells (rdCells ms (consS ms e n s).2))) → ACalls Tryz.prog 138 [.ptr rid 0] h K
  | 0, rid, s, h, K, ha, _, hn, _, _, _ => by omega
  | n + 1, rid, s, h, K, ha, hk, hfu, hn, hh, hK => by
    have hcs : Ctr Tryz.prog 143 ms (k + 1) (compS ms e) := comp_ok hg he hc
    have hsub := comp_on hg he
    refine calls_of mixed Tryz.func138 comp138 (Nat.le_of_ble_eq_true rfl) ?_
    have hl := hg.le
    simp -dsimp [c138]
    intro i2 d2
    obtain ⟨nr2, n2r⟩ := rd_ne hh d2
    simp -dsimp
    have hs1 := (hsub s ha hk).1
    refine hcs (s := s) ha hk hn (by simp [nr2, hh]) ?_
    simp -dsimp
    intro i3 d3
    simp at d3
    obtain ⟨n3r, nr3, n32, n23, d3⟩ := d3
    simp -dsimp
    have hle1 := hs1.le
    have hlt1 := hs1.lt
    have hnest := hs1.nest
    generalize ht : compS ms e s = T at *
    obtain ⟨a, t⟩ := T
    simp only at hs1 hle1 hlt1 hnest
    refine next_ok (s := t) (by simp [nr3]) hlt1 ?_
    simp -dsimp
    intro i4 d4
    simp at d4
    obtain ⟨n43, n34, n4r, nr4, n42, n24, d4⟩ := d4
    simp -dsimp
    refine take_ok (s := t) hg (by simp [nr3, nr4]) hlt1 ?_
    by_cases b1 : isB ms t [58] = true
    · have hga := isB_on hg hlt1 b1
      have hcons : consS ms e (n + 1) s = (two 18 a (consS ms e n (adv t)).1 (nx ms t), (consS ms e n (adv t)).2) := by simp [consS, ht, b1]
      rw [hcons] at hK
      simp -dsimp [b1]
      have hsb := (cons_on hg he n (adv t) hga.lt (by rw [adv_at]; omega) (by rw [adv_at]; omega)).1
      refine cons_ok hg he hc n (s := adv t) hga.lt (by rw [adv_at]; omega) (by rw [adv_at]; omega) (by show 0 ≤ t.nest ∧ t.nest ≤ 32768; rw [hnest]; exact hn) (by simp [takeS, b1]) ?_
      simp -dsimp
      intro i5 d5
      simp at d5
      obtain ⟨n5r, nr5, n54, n45, n53, n35, _, _, n52, n25, d5⟩ := d5
      simp -dsimp [n3r, nr3, n32, n23, n43, n34, n4r, nr4, n42, n24, n5r, nr5, n54, n45, n53, n35, n52, n25]
      refine two_ok ?_
      simp -dsimp [n2r, n23, n24, n25]
      exact Gives.sub (Fr.sub (rid := rid) (by repeat first | exact Fr.refl | refine Fr.own ?_ | refine Fr.set ?_ (by assumption)) (by simp [nr2, nr5])) hK
    · have hcons : consS ms e (n + 1) s = (a, t) := by simp [consS, ht, b1]
      rw [hcons] at hK
      simp -dsimp [b1, n3r, nr3, n32, n23, n43, n34, n4r, nr4, n42, n24, n2r]
      exact Gives.sub (Fr.sub (rid := rid) (by repeat first | exact Fr.refl | refine Fr.own ?_ | refine Fr.set ?_ (by assumption)) (by simp [nr2, takeS, b1])) hK
end Go.Proofs.YtghidedifiolbaaGreat

/- The grammar: parts and branches. -/
namespace Go.Proofs.YtghidedifiolbaaGreat
open Go.AM
variable {ms : List Mk} {k : Nat} {e : St → Ex × St}

theorem parts_ok (hg : Good ms) (he : Reads ms k e) (hc : Ctr Tryz.prog 125 ms k e) {rid wid we : Nat} {s : St} {h : Hp} {K : AV → Hp → Prop} {l : List Bytes} (hl10 : l.length ≤ 10) (ha : s.at_ < ms.length) (hk : ms.length ≤ s.at_ + k) (hn : 0 ≤ s.nest ∧ s.nest ≤ 32768) (hh : h rid = .cells (rdCells ms s))
    (hw : h wid = .arr we 1 (l.map fun w => [.str w])) (hK : K (rowsAV (Ex.rows (partsS ms e s l).1)) (hset h rid (.cells (rdCells ms (partsS ms e s l).2)))) : ACalls Tryz.prog 139 [.ptr rid 0, .sl wid 0 l.length] h K := by
  refine calls_of mixed Tryz.func139 comp139 (Nat.le_of_ble_eq_true rfl) ?_
  have hl := hg.le
  simp -dsimp [c139]
  have hwr : ¬ wid = rid := by rintro rfl; rw [hh] at hw; cases hw
  generalize hR : partsS ms e s l = R at *
  refine ALoop.start (fun n tm h' => ∃ (i : Nat) (acc : List Ex) (t : St), i + n = l.length ∧ acc.length = i ∧ tm 0 = .ptr rid 0 ∧ tm 1 = .sl wid 0 l.length ∧ tm 6 = .int .i64 i ∧ h' rid = .cells (rdCells ms t) ∧ Own h h' 44 7 (tm 5) (acc.map Ex.cells) ∧ Fr h h' rid ∧ On ms s t ∧
    acc ++ (partsS ms e t (l.drop i)).1 = R.1 ∧ (partsS ms e t (l.drop i)).2 = R.2) l.length ⟨0, [], s, by simp, rfl, by simp, by simp, by simp, hh, by simpa using Own.nil, Fr.refl, On.refl ha, by simp [hR], by simp [hR]⟩ ?_
  rintro n tm h' ⟨i, acc, t, hi, hacl, t0, t1, t6, hr, ho, hf, hon, hR1, hR2⟩
  have hwid : h' wid = .arr we 1 (l.map fun w => [.str w]) := by
    rcases hf wid hwr with x | x
    · rw [x] at hw; cases hw
    · rw [x]; exact hw
  have hw1 : IntKind.i64.wrap ((i : Int) + 1) = ((i + 1 : Nat) : Int) := by rw [wrap_i64] <;> omega
  by_cases hlt : i < l.length
  · have hdr : l.drop i = l[i] :: l.drop (i + 1) := List.drop_eq_getElem_cons hlt
    rw [hdr] at hR1 hR2
    simp only [partsS] at hR1 hR2
    by_cases hem : l[i] = []
    · have hs1 : On ms t t := On.refl hon.lt
      rw [if_pos hem] at hR1 hR2
      simp -dsimp [t0, t1, t6, hwid, hlt, hem]
      have hk1 := (he t hs1.lt (by have := hs1.le; have := hon.le; omega)).1
      refine hc (s := t) hs1.lt (by have := hs1.le; have := hon.le; omega) (by rw [hs1.nest, hon.nest]; exact hn) hr ?_
      simp -dsimp
      intro i7 d7
      simp at d7
      obtain ⟨n7r, nr7, d7⟩ := d7
      simp -dsimp [t0, n7r, nr7]
      intro i8 d8
      simp at d8
      obtain ⟨n87, n78, n8r, nr8, d8⟩ : ¬ i8 = i7 ∧ ¬ i7 = i8 ∧ ¬ i8 = rid ∧ ¬ rid = i8 ∧ h' i8 = .dead := by simp_all
      simp -dsimp
      refine Own.app (h := h) (rid := rid) (x := rdCells ms (e t).2) (by first | exact ((ho.setc hr).setd (by simp [n7r, d7])).setd (by simp [n87, n8r, d8]) | exact (((ho.setc hr).setc (j := rid) (cs := rdCells ms t) (by simp)).setd (by simp [n7r, d7])).setd (by simp [n87, n8r, d8])) (by first | exact ((hf.own).set (hf.dead hr d7)).set (hf.dead hr d8) | exact ((hf.own.own).set (hf.dead hr d7)).set (hf.dead hr d8)) (by simp [nr7, nr8]) (by simp) (by simp; omega) (by simp; omega) (fun v' h2 ho2 hf2 hkeep => ?_)
      have er : h2 rid = .cells (rdCells ms (e t).2) := hkeep rid _ (by simp [nr7, nr8])
      simp -dsimp [t6, hw1]
      exact Again.same (n - 1) (by omega) ⟨i + 1, acc ++ [(e t).1], (e t).2, by omega, by simp [hacl], by simp [t0], by simp [t1], by simp, er, by simpa using ho2, hf2, (hon.trans hs1).trans hk1, by simpa using hR1, hR2⟩
    · have hs1 : On ms t (wantS ms t l[i]) := want_on hg hon.lt
      rw [if_neg hem] at hR1 hR2
      simp -dsimp [t0, t1, t6, hwid, hlt, hem]
      refine want_ok (s := t) hg hr hon.lt ?_
      simp -dsimp [t0]
      have hk1 := (he (wantS ms t l[i]) hs1.lt (by have := hs1.le; have := hon.le; omega)).1
      refine hc (s := (wantS ms t l[i])) hs1.lt (by have := hs1.le; have := hon.le; omega) (by rw [hs1.nest, hon.nest]; exact hn) (by simp) ?_
      simp -dsimp
      intro i7 d7
      simp at d7
      obtain ⟨n7r, nr7, d7⟩ := d7
      simp -dsimp [t0, n7r, nr7]
      intro i8 d8
      simp at d8
      obtain ⟨n87, n78, n8r, nr8, d8⟩ : ¬ i8 = i7 ∧ ¬ i7 = i8 ∧ ¬ i8 = rid ∧ ¬ rid = i8 ∧ h' i8 = .dead := by simp_all
      simp -dsimp
      refine Own.app (h := h) (rid := rid) (x := rdCells ms (e (wantS ms t l[i])).2) (by first | exact ((ho.setc hr).setd (by simp [n7r, d7])).setd (by simp [n87, n8r, d8]) | exact (((ho.setc hr).setc (j := rid) (cs := rdCells ms (wantS ms t l[i])) (by simp)).setd (by simp [n7r, d7])).setd (by simp [n87, n8r, d8])) (by first | exact ((hf.own).set (hf.dead hr d7)).set (hf.dead hr d8) | exact ((hf.own.own).set (hf.dead hr d7)).set (hf.dead hr d8)) (by simp [nr7, nr8]) (by simp) (by simp; omega) (by simp; omega) (fun v' h2 ho2 hf2 hkeep => ?_)
      have er : h2 rid = .cells (rdCells ms (e (wantS ms t l[i])).2) := hkeep rid _ (by simp [nr7, nr8])
      simp -dsimp [t6, hw1]
      exact Again.same (n - 1) (by omega) ⟨i + 1, acc ++ [(e (wantS ms t l[i])).1], (e (wantS ms t l[i])).2, by omega, by simp [hacl], by simp [t0], by simp [t1], by simp, er, by simpa using ho2, hf2, (hon.trans hs1).trans hk1, by simpa using hR1, hR2⟩
  · have hnil : l.drop i = [] := List.drop_eq_nil_of_le (by omega)
    rw [hnil] at hR1 hR2
    simp only [partsS, List.append_nil] at hR1 hR2
    simp -dsimp [t0, t1, t6, hlt]
    refine Gives.frz (h' := hset h rid (.cells (rdCells ms R.2))) (hf.sub (by rw [hr, hR2])) (ho.frz (rid := rid) hr) ?_
    rw [Ex.rows_map, ← hR1] at hK
    exact hK

theorem branches_ok (hg : Good ms) (he : Reads ms k e) (hc : Ctr Tryz.prog 125 ms k e) {rid i5 : Nat} {s : St} {h : Hp} {pos : Int} {K : AV → Hp → Prop} (ha : s.at_ < ms.length) (hk : ms.length ≤ s.at_ + k) (hn : 0 ≤ s.nest ∧ s.nest ≤ 32768) (hh : h rid = .cells (rdCells ms s))
    (hi5 : h i5 = .cells [.int .i64 0, .str [], .str [], .int .i64 0, .cplx 0 0, .nl, .int .i64 pos]) (h5r : ¬ i5 = rid)
    (hK : ∀ id, h id = .dead → K (.tup []) (hset (hset (hset h rid (.cells (rdCells ms (branchesS ms e s pos).2))) id (.arr 44 7 [(e s).1.cells, (e (br1 ms e s)).1.cells, (e (br4 ms e s)).1.cells])) i5
      (.cells [.int .i64 20, .str (nameS ms (br2 ms e s)).1.text, .str (nameS ms (br3 ms e s)).1.text, .int .i64 0, .cplx 0 0, .sl id 0 3, .int .i64 pos]))) : ACalls Tryz.prog 140 [.ptr rid 0, .ptr i5 0] h K := by
  refine calls_of mixed Tryz.func140 comp140 (Nat.le_of_ble_eq_true rfl) ?_
  have hl := hg.le
  have hr5 : ¬ rid = i5 := fun x => h5r x.symm
  have q1 := br1_on hg he ha hk
  have q2 := br2_on hg he ha hk
  have q3 := br3_on hg he ha hk
  have q4 := br4_on hg he ha hk
  have p0 := (he s ha hk).1
  have l1 := q1.le
  have l2 := q2.le
  have l3 := q3.le
  have l4 := q4.le
  simp -dsimp [c140, hi5]
  refine hc (s := s) ha hk hn (by simp [hr5, hh]) ?_
  simp -dsimp
  intro a4 d4
  simp at d4
  obtain ⟨n4r, nr4, n45, n54, d4⟩ := d4
  have o1 := want_on hg (t := [111, 102]) p0.lt
  have o2 := want_on hg (t := [110, 105, 108]) o1.lt
  have o3 := want_on hg (t := [45, 62]) o2.lt
  have e1 : wantS ms (wantS ms (wantS ms (e s).2 [111, 102]) [110, 105, 108]) [45, 62] = br1 ms e s := rfl
  simp -dsimp [nr4]
  refine want_ok (s := (e s).2) hg (by simp [nr4]) p0.lt ?_
  simp -dsimp
  refine want_ok (s := wantS ms (e s).2 [111, 102]) hg (by simp) o1.lt ?_
  simp -dsimp
  refine want_ok (s := wantS ms (wantS ms (e s).2 [111, 102]) [110, 105, 108]) hg (by simp) o2.lt ?_
  simp -dsimp
  rw [e1]
  have p1 := (he _ q1.lt (by omega)).1
  refine hc (s := br1 ms e s) q1.lt (by omega) (by rw [q1.nest]; exact hn) (by simp) ?_
  simp -dsimp
  intro a5 d5
  simp at d5
  obtain ⟨m5r, mr5, m54, m45, _, _, m55, m55', d5⟩ := d5
  have e2 : wantS ms (e (br1 ms e s)).2 [124] = br2 ms e s := rfl
  simp -dsimp [mr5]
  refine want_ok (s := (e (br1 ms e s)).2) hg (by simp [mr5]) p1.lt ?_
  simp -dsimp
  rw [e2]
  refine name_ok (s := br2 ms e s) hg (by simp) q2.lt ?_
  simp -dsimp
  intro a6 d6
  simp at d6
  obtain ⟨m6r, mr6, m6a5, ma56, _, _, m6a4, ma46, _, _, m65, m56, d6⟩ := d6
  have q2n := name_on hg q2.lt
  have e3 : wantS ms (nameS ms (br2 ms e s)).2 [58] = br3 ms e s := rfl
  simp -dsimp [mr6]
  refine want_ok (s := (nameS ms (br2 ms e s)).2) hg (by simp [mr6]) q2n.lt ?_
  simp -dsimp
  rw [e3]
  refine name_ok (s := br3 ms e s) hg (by simp) q3.lt ?_
  simp -dsimp
  intro a7 d7
  simp at d7
  obtain ⟨m7r, mr7, m76, m67, _, _, m7a5, ma57, _, _, m7a4, ma47, _, _, m75, m57, d7⟩ := d7
  have q3n := name_on hg q3.lt
  have e4 : wantS ms (nameS ms (br3 ms e s)).2 [45, 62] = br4 ms e s := rfl
  simp -dsimp [mr7]
  refine want_ok (s := (nameS ms (br3 ms e s)).2) hg (by simp [mr7]) q3n.lt ?_
  simp -dsimp
  rw [e4]
  refine hc (s := br4 ms e s) q4.lt (by omega) (by rw [q4.nest]; exact hn) (by simp) ?_
  simp -dsimp
  intro a8 d8
  simp at d8
  obtain ⟨m8r, mr8, m87, m78, _, _, m86, m68, _, _, m8a5, ma58, _, _, m8a4, ma48, _, _, m85, m58, d8⟩ := d8
  simp -dsimp [h5r, hr5, n4r, nr4, n45, n54, m5r, mr5, m54, m45, m55, m55', m6r, mr6, m6a5, ma56, m6a4, ma46, m65, m56, m7r, mr7, m76, m67, m7a5, ma57, m7a4, ma47, m75, m57, m8r, mr8, m87, m78, m86, m68, m8a5, ma58, m8a4, ma48, m85, m58]
  intro a9 d9
  simp at d9
  obtain ⟨m95, m59, m98, m89, m9r, mr9, rest⟩ := d9
  repeat (obtain ⟨_, rest⟩ := rest)
  simp -dsimp [m95, m59]
  refine Gives.sub (Fr.sub3 ?_ ?_ ?_ ?_) (hK a9 rest)
  · repeat first | exact Fr.kill | refine Fr.own ?_ | refine Fr.set ?_ (by simp [n45, m55, m65, m75, m85, m95, d4, d5, d6, d7, d8, rest])
  · simp [hr5, mr8, mr9]; rfl
  · simp [m95]
  · simp [m59]
end Go.Proofs.YtghidedifiolbaaGreat

/- The grammar: expressions. -/
namespace Go.Proofs.YtghidedifiolbaaGreat
open Go.AM
variable {ms : List Mk} {k : Nat} {e : St → Ex × St}

def eT3 : ACode := match c125.code with | .seq _ (.seq _ (.seq _ (.seq _ (.seq _ (.seq _ (.seq _ (.seq _ (.seq _ (.seq _ x))))))))) => x | _ => .skip
def eT2 : ACode := match c125.code with | .seq _ (.seq _ (.seq _ (.seq _ (.seq _ (.seq _ (.seq _ (.seq _ x))))))) => x | _ => .skip
def eT1 : ACode := match c125.code with | .seq _ (.seq _ (.seq _ x)) => x | _ => .skip

/-- What is done last. -/
theorem expr_t3 {rid i2 i5 : Nat} {h H : Hp} {K : AV → Hp → Prop} {tm : Tm} {t : St} {b : Bool} {cs : List AV} {x : Ex} (t0 : tm 0 = .ptr rid 0) (t2 : tm 2 = .ptr i2 0) (t4 : tm 4 = .bool b) (t5 : tm 5 = .ptr i5 0)
    (hr : H rid = .cells (rdCells ms t)) (hi2 : H i2 = .cells ex0.cells) (hi5 : H i5 = .cells cs) (hcs : cs.length = 7) (d2 : h i2 = .dead) (hf : Fr h H rid) (n2r : ¬ i2 = rid) (n5r : ¬ i5 = rid) (hn : -1 ≤ t.nest ∧ t.nest ≤ 40000)
    (hz : ∀ H2 X, (∀ j a b c, H j = .arr a b c → H2 j = .arr a b c) → Frz H2 (hset h rid X) (.agg cs) (.agg x.cells))
    (hK : K (.agg x.cells) (hset h rid (.cells (rdCells ms (if b = true then higher t else t))))) :
    AW Tryz.prog eT3 (fun e tm h' => match e with | .exit _ => False | _ => Gives K (aLda 7 (tm 2) h') h') tm H := by
  have htk : cs.take 7 = cs := List.take_of_length_le (by omega)
  have hdk : cs.drop 7 = [] := List.drop_eq_nil_of_le (by omega)
  have hnr : ¬ rid = i2 := fun x => n2r x.symm
  have hw : IntKind.i64.wrap (t.nest - 1) = t.nest - 1 := by rw [wrap_i64] <;> omega
  have hex : ex0.cells.drop 7 = [] := rfl
  cases b
  · simp -dsimp [eT3, c125, t0, t2, t4, t5, hi5, hi2, hcs, htk, hdk]
    refine Gives.frz (h' := hset h rid (.cells (rdCells ms t))) ((hf.set d2).sub (by simp [hnr, hr])) (hz _ _ ?_) hK
    intro j a b c hj
    have : ¬ j = i2 := by rintro rfl; rw [hi2] at hj; cases hj
    simp [this, hj]
  · simp -dsimp [eT3, c125, t0, t2, t4, t5, hi5, hi2, hcs, htk, hdk, hr, rdCells, hw, n2r, n5r]
    refine Gives.frz (h' := hset h rid (.cells (rdCells ms (higher t)))) ((hf.own.set d2).sub (by simp [hnr, rdCells, higher])) (hz _ _ ?_) hK
    intro j a b c hj
    have n1 : ¬ j = i2 := by rintro rfl; rw [hi2] at hj; cases hj
    have n2 : ¬ j = rid := by rintro rfl; rw [hr] at hj; cases hj
    simp [n1, n2, hj]

/-- An expression by its first word. -/
theorem expr_t2 (hg : Good ms) (he : Reads ms k e) (hc : Ctr Tryz.prog 125 ms k e) {rid i2 i3 : Nat} {h H : Hp} {K : AV → Hp → Prop} {tm : Tm} {t : St} {m : Mk} {b : Bool} (ha : t.at_ < ms.length) (hk : ms.length ≤ t.at_ + k) (hn : 0 ≤ t.nest ∧ t.nest ≤ 32768)
    (t0 : tm 0 = .ptr rid 0) (t2 : tm 2 = .ptr i2 0) (t3 : tm 3 = .ptr i3 0) (t4 : tm 4 = .bool b)
    (hr : H rid = .cells (rdCells ms t)) (hi2 : H i2 = .cells ex0.cells) (hi3 : H i3 = .cells m.cells) (d2 : h i2 = .dead) (hf : Fr h H rid) (n2r : ¬ i2 = rid) (n3r : ¬ i3 = rid) (n23 : ¬ i2 = i3)
    (hK : K (.agg (headS ms e t m).1.cells) (hset h rid (.cells (rdCells ms (if b = true then higher (headS ms e t m).2 else (headS ms e t m).2))))) :
    AW Tryz.prog eT2 (fun e tm h' => match e with | .exit _ => False | _ => Gives K (aLda 7 (tm 2) h') h') tm H := by
  have hsplit : eT2 = .seq (match eT2 with | .seq a _ => a | _ => .skip) (.seq (match eT2 with | .seq _ (.seq a _) => a | _ => .skip) eT3) := rfl
  rw [hsplit]
  have tail := @expr_t3 ms rid i2
  generalize eT3 = T at *
  simp -dsimp [eT2, c125, t0, t2, t3, hi3]
  intro i5 d5
  have n52 : ¬ i5 = i2 := by rintro rfl; rw [d5] at hi2; cases hi2
  have n53 : ¬ i5 = i3 := by rintro rfl; rw [d5] at hi3; cases hi3
  have n5r : ¬ i5 = rid := by rintro rfl; rw [d5] at hr; cases hr
  have nr5 : ¬ rid = i5 := fun x => n5r x.symm
  have n25 : ¬ i2 = i5 := fun x => n52 x.symm
  have n35 : ¬ i3 = i5 := fun x => n53 x.symm
  have dh5 : h i5 = .dead := hf.dead hr d5
  have hho := head_on hg he (m := m) ha hk
  have hnest : 0 ≤ (headS ms e t m).2.nest ∧ (headS ms e t m).2.nest ≤ 32768 := by rw [hho.nest]; exact hn
  simp -dsimp [n35, n53, hi3, t3]
  by_cases m1 : m.text = [105, 102]
  · have hh : headS ms e t m = (.mk 19 [] [] 0 0 0 (partsS ms e t [[], [116, 104, 101, 110], [101, 108, 115, 101]]).1 m.pos, (partsS ms e t [[], [116, 104, 101, 110], [101, 108, 115, 101]]).2) := by simp only [headS, if_pos m1]
    rw [hh] at hK hnest
    simp -dsimp [m1, t0]
    intro i6 d6
    simp at d6
    obtain ⟨n65, n56, d6⟩ := d6
    have n6r : ¬ i6 = rid := by rintro rfl; rw [d6] at hr; cases hr
    have nr6 : ¬ rid = i6 := fun x => n6r x.symm
    have n62 : ¬ i6 = i2 := by rintro rfl; rw [d6] at hi2; cases hi2
    have n26 : ¬ i2 = i6 := fun x => n62 x.symm
    simp -dsimp [t0]
    refine parts_ok hg he hc (we := 9) (l := [[], [116, 104, 101, 110], [101, 108, 115, 101]]) (by simp) ha hk hn (by simp [nr5, nr6, hr]) (by simp) ?_
    simp -dsimp [n56, n5r]
    refine tail (h := h) (b := b) (x := .mk 19 [] [] 0 0 0 (partsS ms e t [[], [116, 104, 101, 110], [101, 108, 115, 101]]).1 m.pos) (t := (partsS ms e t [[], [116, 104, 101, 110], [101, 108, 115, 101]]).2)
      (by simp [t0]) (by simp [t2]) (by simp [t4]) (by simp) (by simp [nr5]) (by simp [n25, n2r, n26, hi2]) (by simp; rfl) (by simp) d2 ((((hf.set dh5).set (hf.dead hr d6)).own).set dh5) n2r n5r (by simp only at hnest; omega) (fun _ _ _ => .same _) hK
  · by_cases m2 : m.text = [99, 97, 115, 101]
    · have hh : headS ms e t m = branchesS ms e t m.pos := by simp only [headS, if_neg m1, if_pos m2]
      rw [hh] at hK hnest
      simp -dsimp [m2, t0]
      refine branches_ok hg he hc (pos := m.pos) ha hk hn (by simp [nr5, hr]) (by simp) n5r ?_
      intro i7 d7
      simp at d7
      obtain ⟨n75, n57, d7⟩ := d7
      have n7r : ¬ i7 = rid := by rintro rfl; rw [d7] at hr; cases hr
      have nr7 : ¬ rid = i7 := fun x => n7r x.symm
      have n72 : ¬ i7 = i2 := by rintro rfl; rw [d7] at hi2; cases hi2
      have n27 : ¬ i2 = i7 := fun x => n72 x.symm
      have dh7 := hf.dead hr d7
      simp -dsimp
      refine tail (h := h) (b := b) (x := (branchesS ms e t m.pos).1) (t := (branchesS ms e t m.pos).2)
        (by simp [t0]) (by simp [t2]) (by simp [t4]) (by simp) (by simp [nr5, nr7]) (by simp [n25, n2r, n27, hi2]) (by simp; rfl) (by simp) d2 ((((hf.set dh5).own).set dh7).set dh5) n2r n5r (by omega) ?_ hK
      intro H2 X hH
      exact Frz.cell (a := [.int .i64 20, .str _, .str _, .int .i64 0, .cplx 0 0]) (b := [.int .i64 m.pos]) (Frz.rows (id := i7) (e := 44) (sz := 7) (xs := [(e t).1.cells, (e (br1 ms e t)).1.cells, (e (br4 ms e t)).1.cells]) (hH _ _ _ _ (by simp [n75])) (by simp [n7r, dh7]))
    · have hh : headS ms e t m = letS ms e t m := by simp only [headS, if_neg m1, if_neg m2]
      rw [hh] at hK hnest
      have q1 := name_on hg ha
      have q2 := typ_on hg q1.lt
      have q3 := q1.trans q2
      have l3 := q3.le
      by_cases m3 : m.text = [115, 116, 114, 105, 99, 116]
      · simp -dsimp [m1, m2, m3, t0, n35, n53, hi3, t3]
        refine name_ok (s := t) hg (by simp [nr5, hr]) ha ?_
        simp -dsimp [n5r]
        intro i6 d6
        simp at d6
        obtain ⟨n6r, nr6, n65, n56, d6'⟩ := d6
        have n62 : ¬ i6 = i2 := by rintro rfl; rw [d6'] at hi2; cases hi2
        have n26 : ¬ i2 = i6 := fun x => n62 x.symm
        simp -dsimp [n65, n56, n5r, nr5, t0]
        refine typ_ok (s := (nameS ms t).2) hg (by simp [nr5, nr6]) q1.lt ?_
        simp -dsimp [n65, n56, n5r, nr5, t0]
        intro i7 d7
        simp at d7
        have n75 : ¬ i7 = i5 := by rintro rfl; simp at d7
        have n76 : ¬ i7 = i6 := by rintro rfl; simp at d7
        have n7r : ¬ i7 = rid := by rintro rfl; simp at d7
        have d7' : H i7 = .dead := by
          repeat (obtain ⟨_, d7⟩ := d7)
          exact d7
        have n57 : ¬ i5 = i7 := fun x => n75 x.symm
        have nr7 : ¬ rid = i7 := fun x => n7r x.symm
        have n72 : ¬ i7 = i2 := by rintro rfl; rw [d7'] at hi2; cases hi2
        have n27 : ¬ i2 = i7 := fun x => n72 x.symm
        simp -dsimp [t0]
        refine parts_ok hg he hc (we := 9) (l := [[61], [105, 110]]) (by simp) q3.lt (by omega) (by rw [q3.nest]; exact hn) (by simp [nr5, nr7]) (by simp) ?_
        simp -dsimp [n57, n5r]
        have hle : letS ms e t m = (.mk 22 (nameS ms t).1.text [] (typS ms (nameS ms t).2).1 0 0 (partsS ms e (typS ms (nameS ms t).2).2 [[61], [105, 110]]).1 m.pos, (partsS ms e (typS ms (nameS ms t).2).2 [[61], [105, 110]]).2) := by simp [letS, m3]
        rw [hle] at hK hnest
        refine tail (h := h) (b := b) (x := .mk 22 (nameS ms t).1.text [] (typS ms (nameS ms t).2).1 0 0 (partsS ms e (typS ms (nameS ms t).2).2 [[61], [105, 110]]).1 m.pos) (t := (partsS ms e (typS ms (nameS ms t).2).2 [[61], [105, 110]]).2)
          (by simp [t0]) (by simp [t2]) (by simp [t4]) (by simp) (by simp [nr5]) (by simp [n25, n2r, n26, n27, hi2]) (by simp; rfl) (by simp) d2 ?_ n2r n5r (by simp only at hnest; omega) (fun _ _ _ => .same _) hK
        have dh6 := hf.dead hr d6'
        have dh7 := hf.dead hr d7'
        repeat first | exact hf | refine Fr.own ?_ | refine Fr.set ?_ (by assumption)
      · simp -dsimp [m1, m2, m3, t0, n35, n53, hi3, t3]
        refine name_ok (s := t) hg (by simp [nr5, hr]) ha ?_
        simp -dsimp [n5r]
        intro i6 d6
        simp at d6
        obtain ⟨n6r, nr6, n65, n56, d6'⟩ := d6
        have n62 : ¬ i6 = i2 := by rintro rfl; rw [d6'] at hi2; cases hi2
        have n26 : ¬ i2 = i6 := fun x => n62 x.symm
        simp -dsimp [n65, n56, n5r, nr5, t0]
        refine typ_ok (s := (nameS ms t).2) hg (by simp [nr5, nr6]) q1.lt ?_
        simp -dsimp [n65, n56, n5r, nr5, t0]
        intro i7 d7
        simp at d7
        have n75 : ¬ i7 = i5 := by rintro rfl; simp at d7
        have n76 : ¬ i7 = i6 := by rintro rfl; simp at d7
        have n7r : ¬ i7 = rid := by rintro rfl; simp at d7
        have d7' : H i7 = .dead := by
          repeat (obtain ⟨_, d7⟩ := d7)
          exact d7
        have n57 : ¬ i5 = i7 := fun x => n75 x.symm
        have nr7 : ¬ rid = i7 := fun x => n7r x.symm
        have n72 : ¬ i7 = i2 := by rintro rfl; rw [d7'] at hi2; cases hi2
        have n27 : ¬ i2 = i7 := fun x => n72 x.symm
        simp -dsimp [t0]
        refine parts_ok hg he hc (we := 9) (l := [[61], [105, 110]]) (by simp) q3.lt (by omega) (by rw [q3.nest]; exact hn) (by simp [nr5, nr7]) (by simp) ?_
        simp -dsimp [n57, n5r]
        have hle : letS ms e t m = (.mk 21 (nameS ms t).1.text [] (typS ms (nameS ms t).2).1 0 0 (partsS ms e (typS ms (nameS ms t).2).2 [[61], [105, 110]]).1 m.pos, (partsS ms e (typS ms (nameS ms t).2).2 [[61], [105, 110]]).2) := by simp [letS, m3]
        rw [hle] at hK hnest
        refine tail (h := h) (b := b) (x := .mk 21 (nameS ms t).1.text [] (typS ms (nameS ms t).2).1 0 0 (partsS ms e (typS ms (nameS ms t).2).2 [[61], [105, 110]]).1 m.pos) (t := (partsS ms e (typS ms (nameS ms t).2).2 [[61], [105, 110]]).2)
          (by simp [t0]) (by simp [t2]) (by simp [t4]) (by simp) (by simp [nr5]) (by simp [n25, n2r, n26, n27, hi2]) (by simp; rfl) (by simp) d2 ?_ n2r n5r (by simp only at hnest; omega) (fun _ _ _ => .same _) hK
        have dh6 := hf.dead hr d6'
        have dh7 := hf.dead hr d7'
        repeat first | exact hf | refine Fr.own ?_ | refine Fr.set ?_ (by assumption)
end Go.Proofs.YtghidedifiolbaaGreat

/- The grammar: expressions, whole. -/
namespace Go.Proofs.YtghidedifiolbaaGreat
open Go.AM
variable {ms : List Mk} {k : Nat} {e : St → Ex × St}

theorem expr_ok (hg : Good ms) (he : Reads ms k e) (hc : Ctr Tryz.prog 125 ms k e) : Ctr Tryz.prog 125 ms (k + 1) (exprS ms e) := by
  intro rid s h K ha hk hn hh hK
  refine calls_of mixed Tryz.func125 comp125 (Nat.le_of_ble_eq_true rfl) ?_
  have hl := hg.le
  have hres : c125.res = [.many 7 2] := rfl
  rw [hres]
  have tail1 : ∀ (tm : Tm) (i2 i3 : Nat), h i2 = .dead → h i3 = .dead → ¬ i2 = i3 → tm 0 = .ptr rid 0 → tm 2 = .ptr i2 0 → tm 3 = .ptr i3 0 → tm 4 = .bool (bindsB ms s) →
      AW Tryz.prog eT1 (fun e tm h' => match e with | .exit _ => False | _ => Gives K (aLda 7 (tm 2) h') h') tm (hset (hset h i2 (.cells ex0.cells)) i3 (.cells (nx ms s).cells)) := by
    intro tm i2 i3 d2 d3 n23 t0 t2 t3 t4
    have n32 : ¬ i3 = i2 := fun x => n23 x.symm
    obtain ⟨nr2, n2r⟩ := rd_ne hh d2
    obtain ⟨nr3, n3r⟩ := rd_ne hh d3
    have hsplit : eT1 = .seq (match eT1 with | .seq a _ => a | _ => .skip) (.seq (match eT1 with | .seq _ (.seq a _) => a | _ => .skip) (.seq (match eT1 with | .seq _ (.seq _ (.seq a _)) => a | _ => .skip) (.seq (match eT1 with | .seq _ (.seq _ (.seq _ (.seq a _))) => a | _ => .skip) (.seq (match eT1 with | .seq _ (.seq _ (.seq _ (.seq _ (.seq a _)))) => a | _ => .skip) eT2)))) := rfl
    rw [hsplit]
    have tail := @expr_t2 ms k e hg he (@hc)
    generalize eT2 = T at *
    by_cases hw : s.why = 0
    case neg =>
      have hb : bindsB ms s = false := by
        cases hb : bindsB ms s
        · rfl
        · exact absurd (binds_kind hb).1 hw
      rw [show exprS ms e s = (ex0, s) by simp [exprS, hw], hset_self hh] at hK
      simp -dsimp [eT1, c125, t0, t2, t4, hb, hh, nr2, nr3, n23, n32, rdCells, hw]
      refine Gives.sub (by repeat first | exact Sub.refl _ | refine Sub.put ?_ | refine Sub.dropr ?_ (by simp [*])) hK
    cases hb : bindsB ms s
    · by_cases hif : isB ms s [105, 102] = true
      · have hga := isB_on hg ha hif
        have hex : exprS ms e s = headS ms e (adv s) (nx ms s) := by simp only [exprS]; rw [if_neg (by simp [hw]), if_neg (by simp [hb]), if_pos hif]
        rw [hex] at hK
        have hwp : IntKind.i64.wrap ((s.at_ : Int) + 1) = ((s.at_ + 1 : Nat) : Int) := by rw [wrap_i64] <;> omega
        simp -dsimp [eT1, c125, t0, t2, t4, hb, hh, nr2, nr3, n23, n32, rdCells, hw]
        refine is_ok (s := s) (by simp [nr2, nr3, hh]) ha ?_
        simp -dsimp [-Int.natCast_add, hif, t0, t4, hb, hh, nr2, nr3, rdCells, hw, hwp]
        refine tail (h := h) (t := adv s) (m := nx ms s) (b := false) hga.lt (by rw [adv_at]; omega) hn (by simp [t0]) (by simp [t2]) (by simp [t3]) (by simp [t4, hb]) (by simp [rdCells, adv, hw]) (by simp [n2r, n23]) (by simp [n3r]) d2 (((Fr.refl.set d2).set d3).own) n2r n3r n23 (by simpa using hK)
      · have hex : exprS ms e s = consS ms e (ms.length + 1) s := by simp only [exprS]; rw [if_neg (by simp [hw]), if_neg (by simp [hb]), if_neg hif]
        rw [hex] at hK
        simp -dsimp [eT1, c125, t0, t2, t4, hb, hh, nr2, nr3, n23, n32, rdCells, hw]
        refine is_ok (s := s) (by simp [nr2, nr3, hh]) ha ?_
        simp -dsimp [hif, t0, t2]
        refine cons_ok hg he hc (ms.length + 1) (s := s) ha hk (by omega) hn (by simp [nr2, nr3, hh]) ?_
        simp -dsimp [n2r, n23, t2]
        refine Gives.sub (by repeat first | exact Sub.refl _ | refine Sub.put ?_ | refine Sub.dropr ?_ (by simp [*])) hK
    · have hbk := binds_kind hb
      by_cases hne : 32768 ≤ s.nest
      · have hex : exprS ms e s = (ex0, failS ms s 23) := by simp only [exprS]; rw [if_neg (by simp [hw]), if_pos hb, if_pos hne]
        rw [hex] at hK
        simp -dsimp [eT1, c125, t0, t2, t4, hb, hh, nr2, nr3, n23, n32, rdCells, hne]
        refine fail_ok (s := s) (by simp [nr2, nr3, hh]) ha ?_
        simp -dsimp [t0, t2, rdCells, failS, hw, n2r, n23, nr2]
        refine Gives.sub (h' := hset h rid (.cells (rdCells ms (failS ms s 23)))) (by simp only [failS, hw, if_true, rdCells]; repeat first | exact Sub.refl _ | refine Sub.put ?_ | refine Sub.dropr ?_ (by simp [*])) hK
      · have hex : exprS ms e s = ((headS ms e (adv (deeper s)) (nx ms s)).1, higher (headS ms e (adv (deeper s)) (nx ms s)).2) := by simp only [exprS]; rw [if_neg (by simp [hw]), if_pos hb, if_neg hne]
        rw [hex] at hK
        have hga := adv_on hg ha hbk.2
        have hwp : IntKind.i64.wrap ((s.at_ : Int) + 1) = ((s.at_ + 1 : Nat) : Int) := by rw [wrap_i64] <;> omega
        have hwn : IntKind.i64.wrap (s.nest + 1) = s.nest + 1 := by rw [wrap_i64] <;> omega
        simp -dsimp [-Int.natCast_add, eT1, c125, t0, t2, t4, hb, hh, nr2, nr3, n23, n32, rdCells, hne, hw, hwp, hwn]
        refine tail (h := h) (t := adv (deeper s)) (m := nx ms s) (b := true) hga.lt (by show ms.length ≤ s.at_ + 1 + k; omega) (by show 0 ≤ s.nest + 1 ∧ s.nest + 1 ≤ 32768; omega) (by simp [t0]) (by simp [t2]) (by simp [t3]) (by simp [t4, hb]) (by simp [rdCells, adv, deeper, hw]) (by simp [n2r, n23]) (by simp [n3r]) d2 (((Fr.refl.set d2).set d3).own) n2r n3r n23 (by simpa using hK)
  have hsplit : c125.code = .seq (match c125.code with | .seq a _ => a | _ => .skip) (.seq (match c125.code with | .seq _ (.seq a _) => a | _ => .skip) (.seq (match c125.code with | .seq _ (.seq _ (.seq a _)) => a | _ => .skip) eT1)) := rfl
  rw [hsplit]
  generalize eT1 = T at *
  simp -dsimp [c125]
  intro i2 d2
  obtain ⟨nr2, n2r⟩ := rd_ne hh d2
  simp -dsimp
  refine next_ok (s := s) (by simp [nr2, hh]) ha ?_
  simp -dsimp
  intro i3 d3
  simp at d3
  obtain ⟨n32, n23, d3⟩ := d3
  obtain ⟨nr3, n3r⟩ := rd_ne hh d3
  simp -dsimp
  refine is_ok (s := s) (by simp [nr2, nr3, hh]) ha ?_
  cases b1 : isB ms s [108, 101, 116]
  · simp -dsimp
    refine is_ok (s := s) (by simp [nr2, nr3, hh]) ha ?_
    cases b2 : isB ms s [115, 116, 114, 105, 99, 116]
    · simp -dsimp
      refine is_ok (s := s) (by simp [nr2, nr3, hh]) ha ?_
      cases b3 : isB ms s [99, 97, 115, 101]
      · simp -dsimp
        exact tail1 _ _ _ d2 d3 n23 (by simp) (by simp) (by simp) (by simp [bindsB, b1, b2, b3])
      · simp -dsimp
        exact tail1 _ _ _ d2 d3 n23 (by simp) (by simp) (by simp) (by simp [bindsB, b1, b2, b3])
    · simp -dsimp
      exact tail1 _ _ _ d2 d3 n23 (by simp) (by simp) (by simp) (by simp [bindsB, b1, b2])
  · simp -dsimp
    exact tail1 _ _ _ d2 d3 n23 (by simp) (by simp) (by simp) (by simp [bindsB, b1])

theorem reads_ok (hg : Good ms) : ∀ k, Ctr Tryz.prog 125 ms k (pExpr ms k)
  | 0 => fun ha hk _ _ _ => by omega
  | k + 1 => expr_ok hg (pExpr_on hg k) (reads_ok hg k)
end Go.Proofs.YtghidedifiolbaaGreat

/- The grammar: definitions. -/
namespace Go.Proofs.YtghidedifiolbaaGreat
open Go.AM
variable {ms : List Mk}

def dT : ACode := match c92.code with | .seq _ (.seq _ (.seq _ (.seq _ (.seq _ (.seq _ x))))) => x | _ => .skip

/-- What stands behind the parameters. -/
theorem def_t (hg : Good ms) {rid i4 i6 : Nat} {h H : Hp} {K : AV → Hp → Prop} {tm : Tm} {t : St} {v : AV} {ps : List Pm} {nm : Bytes} {pos : Int} (ha : t.at_ < ms.length) (hn : 0 ≤ t.nest ∧ t.nest ≤ 32768)
    (t0 : tm 0 = .ptr rid 0) (t4 : tm 4 = .ptr i4 0) (t6 : tm 6 = .ptr i6 0)
    (hr : H rid = .cells (rdCells ms t)) (hi4 : H i4 = .cells ([.str [], .nl, .int .i64 0] ++ (ex0.cells ++ [.int .i64 0]))) (hi6 : H i6 = .cells ([.str nm, v, .int .i64 0] ++ (ex0.cells ++ [.int .i64 pos])))
    (ho : Own h H 48 3 v (ps.map Pm.cells)) (d4 : h i4 = .dead) (d6 : h i6 = .dead) (hf : Fr h H rid) (n4r : ¬ i4 = rid) (n6r : ¬ i6 = rid) (n46 : ¬ i4 = i6)
    (hK : K (.agg (Df.cells ⟨nm, ps, (typS ms (wantS ms (wantS ms t [41]) [58])).1, (pExpr ms ms.length (wantS ms (typS ms (wantS ms (wantS ms t [41]) [58])).2 [61])).1, pos⟩))
      (hset h rid (.cells (rdCells ms (wantS ms (pExpr ms ms.length (wantS ms (typS ms (wantS ms (wantS ms t [41]) [58])).2 [61])).2 [59]))))) :
    AW Tryz.prog dT (fun e tm h' => match e with | .exit _ => False | _ => Gives K (aLda 11 (tm 4) h') h') tm H := by
  have nr4 : ¬ rid = i4 := fun x => n4r x.symm
  have nr6 : ¬ rid = i6 := fun x => n6r x.symm
  have n64 : ¬ i6 = i4 := fun x => n46 x.symm
  have o1 := want_on hg (t := [41]) ha
  have o2 := want_on hg (t := [58]) o1.lt
  have o3 := typ_on hg o2.lt
  have o4 := want_on hg (t := [61]) o3.lt
  have o14 := ((o1.trans o2).trans o3).trans o4
  have o5 := (pExpr_on hg ms.length _ o4.lt (by omega)).1
  simp -dsimp [dT, c92, t0]
  refine want_ok (s := t) hg hr ha ?_
  simp -dsimp [t0]
  refine want_ok (s := wantS ms t [41]) hg (by simp) o1.lt ?_
  simp -dsimp [t0]
  refine typ_ok (s := wantS ms (wantS ms t [41]) [58]) hg (by simp) o2.lt ?_
  simp -dsimp [t0, t6, n6r, nr6, hi6, ex0, Ex.cells, Ex.rows, rowsAV]
  refine want_ok (s := (typS ms (wantS ms (wantS ms t [41]) [58])).2) hg (by simp [nr6]) o3.lt ?_
  simp -dsimp [t0]
  refine reads_ok hg ms.length (s := wantS ms (typS ms (wantS ms (wantS ms t [41]) [58])).2 [61]) o4.lt (by omega) (by rw [o14.nest]; exact hn) (by simp) ?_
  generalize hE : pExpr ms ms.length (wantS ms (typS ms (wantS ms (wantS ms t [41]) [58])).2 [61]) = E at *
  simp -dsimp [t0, t6, n6r, nr6]
  refine want_ok (s := E.2) hg (by simp [nr6]) o5.lt ?_
  have tk8 : (E.1.cells ++ [AV.int IntKind.i64 pos]).take 8 = E.1.cells ++ [AV.int IntKind.i64 pos] := List.take_of_length_le (by simp)
  simp -dsimp [tk8, t4, t6, n6r, nr6, n4r, n46, hi4, ex0, Ex.cells, Ex.rows, rowsAV]
  refine Gives.frz (h' := hset h rid (.cells (rdCells ms (wantS ms E.2 [59])))) (Fr.sub ?_ (by simp [nr4])) (Frz.cell (a := [.str nm]) (b := .int .i64 (typS ms (wantS ms (wantS ms t [41]) [58])).1 :: (E.1.cells ++ [.int .i64 pos])) (Own.frz (h := h) (rid := rid) (e := 48) (sz := 3) (x := rdCells ms (wantS ms E.2 [59])) (rows := ps.map Pm.cells) ?_ ?_)) hK
  · repeat first | exact hf | refine Fr.own ?_ | refine Fr.set ?_ (by assumption)
  · repeat first | exact ho | refine Own.set ?_ (by intro a b c; simp [hr, hi4, hi6, n6r, nr6, n4r, n46, nr4, n64])
  · simp [nr4]
end Go.Proofs.YtghidedifiolbaaGreat
