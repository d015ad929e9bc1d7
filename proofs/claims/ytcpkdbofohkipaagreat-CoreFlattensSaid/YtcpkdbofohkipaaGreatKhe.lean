/- The grammar: terms and sums. -/
import Derived.Test.YtcpkdbofohkipaaGreatKhd
import Derived.Test.YtcpkdbofohkipaaGreatKc
set_option linter.unusedVariables false
set_option linter.unusedSimpArgs false
namespace Go.Proofs.YtcpkdbofohkipaaGreat
open Go.AM
variable {ms : List Mk} {k : Nat} {e : St → Ex × St}

theorem term_ok (hg : Good ms) (he : Reads ms k e) (hc : Ctr Tryz.prog 117 ms k e) : Ctr Tryz.prog 140 ms (k + 1) (termS ms e) := by
  intro rid s h K ha hk hn hh hK
  have hcs : Ctr Tryz.prog 143 ms (k + 1) (unitS ms e) := unit_ok hg he hc
  have hsub : Reads ms (k + 1) (unitS ms e) := unit_on hg he
  refine calls_of mixed Tryz.func140 comp140 (Nat.le_of_ble_eq_true rfl) ?_
  have hl := hg.le
  simp -dsimp [c140]
  intro i2 d2
  obtain ⟨nr2, n2r⟩ := rd_ne hh d2
  simp -dsimp
  have hs1 := (hsub s ha hk).1
  refine hcs (s := s) ha hk hn (by simp [nr2, hh]) ?_
  simp -dsimp
  intro i3 d3
  simp at d3
  obtain ⟨n3r, nr3, n32, n23, d3⟩ := d3
  simp -dsimp
  have hdef : termS ms e s = chainS ms (unitS ms e) [42] [47] 10 11 (ms.length + 1) ((unitS ms e) s).1 ((unitS ms e) s).2 := rfl
  rw [hdef] at hK
  generalize hR : chainS ms (unitS ms e) [42] [47] 10 11 (ms.length + 1) ((unitS ms e) s).1 ((unitS ms e) s).2 = R at *
  refine ALoop.start (fun n tm h' => ∃ (a : Ex) (t : St), tm 0 = .ptr rid 0 ∧ tm 2 = .ptr i2 0 ∧ tm 3 = .ptr i3 0 ∧ h' rid = .cells (rdCells ms t) ∧ h' i2 = .cells ex0.cells ∧ h' i3 = .cells a.cells ∧ Fr h h' rid ∧ On ms s t ∧
    chainS ms (unitS ms e) [42] [47] 10 11 n a t = R ∧ ms.length + 1 ≤ t.at_ + n) (ms.length + 1)
    ⟨_, ((unitS ms e) s).2, by simp, by simp, by simp, by simp [nr3], by simp [n2r, n23]; rfl, by simp, ((Fr.refl.set d2).own).set d3, hs1, hR, by omega⟩ ?_
  rintro n tm h' ⟨a, t, t0, t2, t3, hr, hi2, hi3, hf, hon, hRR, hfu⟩
  obtain ⟨n, rfl⟩ : ∃ q, n = q + 1 := ⟨n - 1, by have := hon.lt; omega⟩
  have hlt := hon.lt
  simp -dsimp [t0]
  refine is_ok (s := t) hr hon.lt ?_
  by_cases hq : isB ms t [42] = true
  · simp only [chainS, hq, true_or, if_true] at hRR
    simp -dsimp [t0, hq]
    have hga := isB_on hg hon.lt hq
    refine next_ok (s := t) hr hon.lt ?_
    simp -dsimp [t0]
    intro i4 d4
    have n42 : ¬ i4 = i2 := by rintro rfl; rw [d4] at hi2; cases hi2
    have n43 : ¬ i4 = i3 := by rintro rfl; rw [d4] at hi3; cases hi3
    have n4r : ¬ i4 = rid := by rintro rfl; rw [d4] at hr; cases hr
    have nr4 : ¬ rid = i4 := fun x => n4r x.symm
    have n24 : ¬ i2 = i4 := fun x => n42 x.symm
    have n34 : ¬ i3 = i4 := fun x => n43 x.symm
    have hwp : IntKind.i64.wrap ((t.at_ : Int) + 1) = ((t.at_ + 1 : Nat) : Int) := by have := hon.lt; rw [wrap_i64] <;> omega
    simp -dsimp [-Int.natCast_add, t0, nr4, n4r, hr, rdCells, hwp]
    have hle1 := hon.le
    have hsb := hsub (adv t) hga.lt (by rw [adv_at]; omega)
    refine hcs (s := adv t) hga.lt (by rw [adv_at]; omega) (by show 0 ≤ t.nest ∧ t.nest ≤ 32768; rw [hon.nest]; exact hn) (by simp [rdCells, adv]) ?_
    simp -dsimp
    intro i5 d5
    simp at d5
    obtain ⟨n5r, nr5, _, _, n54, n45, d5⟩ : ¬ i5 = rid ∧ ¬ rid = i5 ∧ True ∧ True ∧ ¬ i5 = i4 ∧ ¬ i4 = i5 ∧ h' i5 = .dead := by simp_all
    have n52 : ¬ i5 = i2 := by rintro rfl; rw [d5] at hi2; cases hi2
    have n53 : ¬ i5 = i3 := by rintro rfl; rw [d5] at hi3; cases hi3
    have n25 : ¬ i2 = i5 := fun x => n52 x.symm
    have n35 : ¬ i3 = i5 := fun x => n53 x.symm
    have hnext : chainS ms (unitS ms e) [42] [47] 10 11 n (two (if (nx ms t).text = [47] then 11 else 10) a ((unitS ms e) (adv t)).1 (nx ms t)) ((unitS ms e) (adv t)).2 = R := hRR
    by_cases ho : (nx ms t).text = [47]
    · rw [if_pos ho] at hnext
      simp -dsimp [n4r, nr4, n54, n45, n5r, nr5, n24, n42, ho, n34, n43, n53, n35, n3r, nr3, hi3, t3]
      refine two_ok ?_
      simp -dsimp [n4r, nr4, n54, n45, n5r, nr5, n24, n42, n34, n43, n53, n35, n3r, nr3, hi3, t3]
      exact Again.same n (by omega) ⟨_, ((unitS ms e) (adv t)).2, by simp [t0], by simp [t2], by simp [t3], by simp [nr5, nr3], by simp [n23, n25, n2r, n24, hi2], by simp, (((hf.set (hf.dead hr d4)).own).set (hf.dead hr d5)).set d3, (hon.trans hga).trans hsb.1, hnext, by have := hsb.1.le; rw [adv_at] at this; omega⟩
    · rw [if_neg ho] at hnext
      simp -dsimp [n4r, nr4, n54, n45, n5r, nr5, n24, n42, ho, n34, n43, n53, n35, n3r, nr3, hi3, t3]
      refine two_ok ?_
      simp -dsimp [n4r, nr4, n54, n45, n5r, nr5, n24, n42, n34, n43, n53, n35, n3r, nr3, hi3, t3]
      exact Again.same n (by omega) ⟨_, ((unitS ms e) (adv t)).2, by simp [t0], by simp [t2], by simp [t3], by simp [nr5, nr3], by simp [n23, n25, n2r, n24, hi2], by simp, (((hf.set (hf.dead hr d4)).own).set (hf.dead hr d5)).set d3, (hon.trans hga).trans hsb.1, hnext, by have := hsb.1.le; rw [adv_at] at this; omega⟩
  · simp -dsimp [t0, hq]
    refine is_ok (s := t) hr hon.lt ?_
    have hq1 := hq
    by_cases hq : isB ms t [47] = true
    · simp only [chainS, hq, or_true, if_true] at hRR
      simp -dsimp [t0, hq]
      have hga := isB_on hg hon.lt hq
      refine next_ok (s := t) hr hon.lt ?_
      simp -dsimp [t0]
      intro i4 d4
      have n42 : ¬ i4 = i2 := by rintro rfl; rw [d4] at hi2; cases hi2
      have n43 : ¬ i4 = i3 := by rintro rfl; rw [d4] at hi3; cases hi3
      have n4r : ¬ i4 = rid := by rintro rfl; rw [d4] at hr; cases hr
      have nr4 : ¬ rid = i4 := fun x => n4r x.symm
      have n24 : ¬ i2 = i4 := fun x => n42 x.symm
      have n34 : ¬ i3 = i4 := fun x => n43 x.symm
      have hwp : IntKind.i64.wrap ((t.at_ : Int) + 1) = ((t.at_ + 1 : Nat) : Int) := by have := hon.lt; rw [wrap_i64] <;> omega
      simp -dsimp [-Int.natCast_add, t0, nr4, n4r, hr, rdCells, hwp]
      have hle1 := hon.le
      have hsb := hsub (adv t) hga.lt (by rw [adv_at]; omega)
      refine hcs (s := adv t) hga.lt (by rw [adv_at]; omega) (by show 0 ≤ t.nest ∧ t.nest ≤ 32768; rw [hon.nest]; exact hn) (by simp [rdCells, adv]) ?_
      simp -dsimp
      intro i5 d5
      simp at d5
      obtain ⟨n5r, nr5, _, _, n54, n45, d5⟩ : ¬ i5 = rid ∧ ¬ rid = i5 ∧ True ∧ True ∧ ¬ i5 = i4 ∧ ¬ i4 = i5 ∧ h' i5 = .dead := by simp_all
      have n52 : ¬ i5 = i2 := by rintro rfl; rw [d5] at hi2; cases hi2
      have n53 : ¬ i5 = i3 := by rintro rfl; rw [d5] at hi3; cases hi3
      have n25 : ¬ i2 = i5 := fun x => n52 x.symm
      have n35 : ¬ i3 = i5 := fun x => n53 x.symm
      have hnext : chainS ms (unitS ms e) [42] [47] 10 11 n (two (if (nx ms t).text = [47] then 11 else 10) a ((unitS ms e) (adv t)).1 (nx ms t)) ((unitS ms e) (adv t)).2 = R := hRR
      by_cases ho : (nx ms t).text = [47]
      · rw [if_pos ho] at hnext
        simp -dsimp [n4r, nr4, n54, n45, n5r, nr5, n24, n42, ho, n34, n43, n53, n35, n3r, nr3, hi3, t3]
        refine two_ok ?_
        simp -dsimp [n4r, nr4, n54, n45, n5r, nr5, n24, n42, n34, n43, n53, n35, n3r, nr3, hi3, t3]
        exact Again.same n (by omega) ⟨_, ((unitS ms e) (adv t)).2, by simp [t0], by simp [t2], by simp [t3], by simp [nr5, nr3], by simp [n23, n25, n2r, n24, hi2], by simp, (((hf.set (hf.dead hr d4)).own).set (hf.dead hr d5)).set d3, (hon.trans hga).trans hsb.1, hnext, by have := hsb.1.le; rw [adv_at] at this; omega⟩
      · rw [if_neg ho] at hnext
        simp -dsimp [n4r, nr4, n54, n45, n5r, nr5, n24, n42, ho, n34, n43, n53, n35, n3r, nr3, hi3, t3]
        refine two_ok ?_
        simp -dsimp [n4r, nr4, n54, n45, n5r, nr5, n24, n42, n34, n43, n53, n35, n3r, nr3, hi3, t3]
        exact Again.same n (by omega) ⟨_, ((unitS ms e) (adv t)).2, by simp [t0], by simp [t2], by simp [t3], by simp [nr5, nr3], by simp [n23, n25, n2r, n24, hi2], by simp, (((hf.set (hf.dead hr d4)).own).set (hf.dead hr d5)).set d3, (hon.trans hga).trans hsb.1, hnext, by have := hsb.1.le; rw [adv_at] at this; omega⟩
    · simp only [chainS, hq1, hq, or_self] at hRR
      simp -dsimp [hq, t2, t3, hi2, hi3, n23]
      have : R = (a, t) := by simpa using hRR.symm
      subst this
      exact Gives.sub ((hf.set d2).sub (by simp [nr2, hr])) hK

theorem sum_ok (hg : Good ms) (he : Reads ms k e) (hc : Ctr Tryz.prog 117 ms k e) : Ctr Tryz.prog 137 ms (k + 1) (sumS ms e) := by
  intro rid s h K ha hk hn hh hK
  have hcs : Ctr Tryz.prog 140 ms (k + 1) (termS ms e) := term_ok hg he hc
  have hsub : Reads ms (k + 1) (termS ms e) := term_on hg he
  refine calls_of mixed Tryz.func137 comp137 (Nat.le_of_ble_eq_true rfl) ?_
  have hl := hg.le
  simp -dsimp [c137]
  intro i2 d2
  obtain ⟨nr2, n2r⟩ := rd_ne hh d2
  simp -dsimp
  have hs1 := (hsub s ha hk).1
  refine hcs (s := s) ha hk hn (by simp [nr2, hh]) ?_
  simp -dsimp
  intro i3 d3
  simp at d3
  obtain ⟨n3r, nr3, n32, n23, d3⟩ := d3
  simp -dsimp
  have hdef : sumS ms e s = chainS ms (termS ms e) [43] [45] 8 9 (ms.length + 1) ((termS ms e) s).1 ((termS ms e) s).2 := rfl
  rw [hdef] at hK
  generalize hR : chainS ms (termS ms e) [43] [45] 8 9 (ms.length + 1) ((termS ms e) s).1 ((termS ms e) s).2 = R at *
  refine ALoop.start (fun n tm h' => ∃ (a : Ex) (t : St), tm 0 = .ptr rid 0 ∧ tm 2 = .ptr i2 0 ∧ tm 3 = .ptr i3 0 ∧ h' rid = .cells (rdCells ms t) ∧ h' i2 = .cells ex0.cells ∧ h' i3 = .cells a.cells ∧ Fr h h' rid ∧ On ms s t ∧
    chainS ms (termS ms e) [43] [45] 8 9 n a t = R ∧ ms.length + 1 ≤ t.at_ + n) (ms.length + 1)
    ⟨_, ((termS ms e) s).2, by simp, by simp, by simp, by simp [nr3], by simp [n2r, n23]; rfl, by simp, ((Fr.refl.set d2).own).set d3, hs1, hR, by omega⟩ ?_
  rintro n tm h' ⟨a, t, t0, t2, t3, hr, hi2, hi3, hf, hon, hRR, hfu⟩
  obtain ⟨n, rfl⟩ : ∃ q, n = q + 1 := ⟨n - 1, by have := hon.lt; omega⟩
  have hlt := hon.lt
  simp -dsimp [t0]
  refine is_ok (s := t) hr hon.lt ?_
  by_cases hq : isB ms t [43] = true
  · simp only [chainS, hq, true_or, if_true] at hRR
    simp -dsimp [t0, hq]
    have hga := isB_on hg hon.lt hq
    refine next_ok (s := t) hr hon.lt ?_
    simp -dsimp [t0]
    intro i4 d4
    have n42 : ¬ i4 = i2 := by rintro rfl; rw [d4] at hi2; cases hi2
    have n43 : ¬ i4 = i3 := by rintro rfl; rw [d4] at hi3; cases hi3
    have n4r : ¬ i4 = rid := by rintro rfl; rw [d4] at hr; cases hr
    have nr4 : ¬ rid = i4 := fun x => n4r x.symm
    have n24 : ¬ i2 = i4 := fun x => n42 x.symm
    have n34 : ¬ i3 = i4 := fun x => n43 x.symm
    have hwp : IntKind.i64.wrap ((t.at_ : Int) + 1) = ((t.at_ + 1 : Nat) : Int) := by have := hon.lt; rw [wrap_i64] <;> omega
    simp -dsimp [-Int.natCast_add, t0, nr4, n4r, hr, rdCells, hwp]
    have hle1 := hon.le
    have hsb := hsub (adv t) hga.lt (by rw [adv_at]; omega)
    refine hcs (s := adv t) hga.lt (by rw [adv_at]; omega) (by show 0 ≤ t.nest ∧ t.nest ≤ 32768; rw [hon.nest]; exact hn) (by simp [rdCells, adv]) ?_
    simp -dsimp
    intro i5 d5
    simp at d5
    obtain ⟨n5r, nr5, _, _, n54, n45, d5⟩ : ¬ i5 = rid ∧ ¬ rid = i5 ∧ True ∧ True ∧ ¬ i5 = i4 ∧ ¬ i4 = i5 ∧ h' i5 = .dead := by simp_all
    have n52 : ¬ i5 = i2 := by rintro rfl; rw [d5] at hi2; cases hi2
    have n53 : ¬ i5 = i3 := by rintro rfl; rw [d5] at hi3; cases hi3
    have n25 : ¬ i2 = i5 := fun x => n52 x.symm
    have n35 : ¬ i3 = i5 := fun x => n53 x.symm
    have hnext : chainS ms (termS ms e) [43] [45] 8 9 n (two (if (nx ms t).text = [45] then 9 else 8) a ((termS ms e) (adv t)).1 (nx ms t)) ((termS ms e) (adv t)).2 = R := hRR
    by_cases ho : (nx ms t).text = [45]
    · rw [if_pos ho] at hnext
      simp -dsimp [n4r, nr4, n54, n45, n5r, nr5, n24, n42, ho, n34, n43, n53, n35, n3r, nr3, hi3, t3]
      refine two_ok ?_
      simp -dsimp [n4r, nr4, n54, n45, n5r, nr5, n24, n42, n34, n43, n53, n35, n3r, nr3, hi3, t3]
      exact Again.same n (by omega) ⟨_, ((termS ms e) (adv t)).2, by simp [t0], by simp [t2], by simp [t3], by simp [nr5, nr3], by simp [n23, n25, n2r, n24, hi2], by simp, (((hf.set (hf.dead hr d4)).own).set (hf.dead hr d5)).set d3, (hon.trans hga).trans hsb.1, hnext, by have := hsb.1.le; rw [adv_at] at this; omega⟩
    · rw [if_neg ho] at hnext
      simp -dsimp [n4r, nr4, n54, n45, n5r, nr5, n24, n42, ho, n34, n43, n53, n35, n3r, nr3, hi3, t3]
      refine two_ok ?_
      simp -dsimp [n4r, nr4, n54, n45, n5r, nr5, n24, n42, n34, n43, n53, n35, n3r, nr3, hi3, t3]
      exact Again.same n (by omega) ⟨_, ((termS ms e) (adv t)).2, by simp [t0], by simp [t2], by simp [t3], by simp [nr5, nr3], by simp [n23, n25, n2r, n24, hi2], by simp, (((hf.set (hf.dead hr d4)).own).set (hf.dead hr d5)).set d3, (hon.trans hga).trans hsb.1, hnext, by have := hsb.1.le; rw [adv_at] at this; omega⟩
  · simp -dsimp [t0, hq]
    refine is_ok (s := t) hr hon.lt ?_
    have hq1 := hq
    by_cases hq : isB ms t [45] = true
    · simp only [chainS, hq, or_true, if_true] at hRR
      simp -dsimp [t0, hq]
      have hga := isB_on hg hon.lt hq
      refine next_ok (s := t) hr hon.lt ?_
      simp -dsimp [t0]
      intro i4 d4
      have n42 : ¬ i4 = i2 := by rintro rfl; rw [d4] at hi2; cases hi2
      have n43 : ¬ i4 = i3 := by rintro rfl; rw [d4] at hi3; cases hi3
      have n4r : ¬ i4 = rid := by rintro rfl; rw [d4] at hr; cases hr
      have nr4 : ¬ rid = i4 := fun x => n4r x.symm
      have n24 : ¬ i2 = i4 := fun x => n42 x.symm
      have n34 : ¬ i3 = i4 := fun x => n43 x.symm
      have hwp : IntKind.i64.wrap ((t.at_ : Int) + 1) = ((t.at_ + 1 : Nat) : Int) := by have := hon.lt; rw [wrap_i64] <;> omega
      simp -dsimp [-Int.natCast_add, t0, nr4, n4r, hr, rdCells, hwp]
      have hle1 := hon.le
      have hsb := hsub (adv t) hga.lt (by rw [adv_at]; omega)
      refine hcs (s := adv t) hga.lt (by rw [adv_at]; omega) (by show 0 ≤ t.nest ∧ t.nest ≤ 32768; rw [hon.nest]; exact hn) (by simp [rdCells, adv]) ?_
      simp -dsimp
      intro i5 d5
      simp at d5
      obtain ⟨n5r, nr5, _, _, n54, n45, d5⟩ : ¬ i5 = rid ∧ ¬ rid = i5 ∧ True ∧ True ∧ ¬ i5 = i4 ∧ ¬ i4 = i5 ∧ h' i5 = .dead := by simp_all
      have n52 : ¬ i5 = i2 := by rintro rfl; rw [d5] at hi2; cases hi2
      have n53 : ¬ i5 = i3 := by rintro rfl; rw [d5] at hi3; cases hi3
      have n25 : ¬ i2 = i5 := fun x => n52 x.symm
      have n35 : ¬ i3 = i5 := fun x => n53 x.symm
      have hnext : chainS ms (termS ms e) [43] [45] 8 9 n (two (if (nx ms t).text = [45] then 9 else 8) a ((termS ms e) (adv t)).1 (nx ms t)) ((termS ms e) (adv t)).2 = R := hRR
      by_cases ho : (nx ms t).text = [45]
      · rw [if_pos ho] at hnext
        simp -dsimp [n4r, nr4, n54, n45, n5r, nr5, n24, n42, ho, n34, n43, n53, n35, n3r, nr3, hi3, t3]
        refine two_ok ?_
        simp -dsimp [n4r, nr4, n54, n45, n5r, nr5, n24, n42, n34, n43, n53, n35, n3r, nr3, hi3, t3]
        exact Again.same n (by omega) ⟨_, ((termS ms e) (adv t)).2, by simp [t0], by simp [t2], by simp [t3], by simp [nr5, nr3], by simp [n23, n25, n2r, n24, hi2], by simp, (((hf.set (hf.dead hr d4)).own).set (hf.dead hr d5)).set d3, (hon.trans hga).trans hsb.1, hnext, by have := hsb.1.le; rw [adv_at] at this; omega⟩
      · rw [if_neg ho] at hnext
        simp -dsimp [n4r, nr4, n54, n45, n5r, nr5, n24, n42, ho, n34, n43, n53, n35, n3r, nr3, hi3, t3]
        refine two_ok ?_
        simp -dsimp [n4r, nr4, n54, n45, n5r, nr5, n24, n42, n34, n43, n53, n35, n3r, nr3, hi3, t3]
        exact Again.same n (by omega) ⟨_, ((termS ms e) (adv t)).2, by simp [t0], by simp [t2], by simp [t3], by simp [nr5, nr3], by simp [n23, n25, n2r, n24, hi2], by simp, (((hf.set (hf.dead hr d4)).own).set (hf.dead hr d5)).set d3, (hon.trans hga).trans hsb.1, hnext, by have := hsb.1.le; rw [adv_at] at this; omega⟩
    · simp only [chainS, hq1, hq, or_self] at hRR
      simp -dsimp [hq, t2, t3, hi2, hi3, n23]
      have : R = (a, t) := by simpa using hRR.symm
      subst this
      exact Gives.sub ((hf.set d2).sub (by simp [nr2, hr])) hK

end Go.Proofs.YtcpkdbofohkipaaGreat

/- The grammar: comparisons, conses. -/
namespace Go.Proofs.YtcpkdbofohkipaaGreat
open Go.AM
variable {ms : List Mk} {k : Nat} {e : St → Ex × St}

theorem comp_ok (hg : Good ms) (he : Reads ms k e) (hc : Ctr Tryz.prog 117 ms k e) : Ctr Tryz.prog 134 ms (k + 1) (compS ms e) := by
  intro rid s h K ha hk hn hh hK
  have hcs : Ctr Tryz.prog 137 ms (k + 1) (sumS ms e) := sum_ok hg he hc
  have hsub := sum_on hg he
  refine calls_of mixed Tryz.func134 comp134 (Nat.le_of_ble_eq_true rfl) ?_
  have hl := hg.le
  simp -dsimp [c134]
  intro i2 d2
  obtain ⟨nr2, n2r⟩ := rd_ne hh d2
  simp -dsimp
  have hs1 := (hsub s ha hk).1
  refine hcs (s := s) ha hk hn (by simp [nr2, hh]) ?_
  simp -dsimp
  intro i3 d3
  simp at d3
  obtain ⟨n3r, nr3, n32, n23, d3⟩ := d3
  simp -dsimp
  have hle1 := hs1.le
  have hlt1 := hs1.lt
  have hnest := hs1.nest
  generalize ht : sumS ms e s = T at *
  obtain ⟨a, t⟩ := T
  simp only at hs1 hle1 hlt1 hnest
  refine next_ok (s := t) (by simp [nr3]) hlt1 ?_
  simp -dsimp
  intro i4 d4
  simp at d4
  obtain ⟨n43, n34, n4r, nr4, n42, n24, d4⟩ := d4
  simp -dsimp
  refine is_ok (s := t) (by simp [nr3, nr4]) hlt1 ?_
  by_cases b1 : isB ms t [61, 61] = true
  · have b2 : isB ms t [60] = false := by
      have := (isB_kind b1).2.2
      simp [isB, this]
    have hga := isB_on hg hlt1 b1
    have hcomp : compS ms e s = (two 12 a (sumS ms e (adv t)).1 (nx ms t), (sumS ms e (adv t)).2) := by simp [compS, ht, b1, b2]
    rw [hcomp] at hK
    simp -dsimp [b2]
    refine take_ok (s := t) hg (by simp [nr3, nr4]) hlt1 ?_
    simp -dsimp [b1]
    have hsb := (hsub (adv t) hga.lt (by rw [adv_at]; omega)).1
    refine hcs (s := adv t) hga.lt (by rw [adv_at]; omega) (by show 0 ≤ t.nest ∧ t.nest ≤ 32768; rw [hnest]; exact hn) (by simp [takeS, b1]) ?_
    simp -dsimp
    intro i5 d5
    simp at d5
    obtain ⟨n5r, nr5, n54, n45, n53, n35, _, _, n52, n25, d5⟩ := d5
    simp -dsimp [n3r, nr3, n32, n23, n43, n34, n4r, nr4, n42, n24, n5r, nr5, n54, n45, n53, n35, n52, n25]
    refine two_ok ?_
    simp -dsimp [n2r, n23, n24, n25]
    exact Gives.sub (Fr.sub (rid := rid) (by repeat first | exact Fr.refl | refine Fr.own ?_ | refine Fr.set ?_ (by assumption)) (by simp [nr2, nr5])) hK
  · by_cases b2 : isB ms t [60] = true
    · have hga := isB_on hg hlt1 b2
      have hcomp : compS ms e s = (two 13 a (sumS ms e (adv t)).1 (nx ms t), (sumS ms e (adv t)).2) := by simp [compS, ht, b1, b2]
      rw [hcomp] at hK
      simp -dsimp [b2]
      refine take_ok (s := t) hg (by simp [nr3, nr4]) hlt1 ?_
      simp -dsimp [b1]
      refine take_ok (s := t) hg (by simp [takeS, b1]) hlt1 ?_
      simp -dsimp [b2]
      have hsb := (hsub (adv t) hga.lt (by rw [adv_at]; omega)).1
      refine hcs (s := adv t) hga.lt (by rw [adv_at]; omega) (by show 0 ≤ t.nest ∧ t.nest ≤ 32768; rw [hnest]; exact hn) (by simp [takeS, b2]) ?_
      simp -dsimp
      intro i5 d5
      simp at d5
      obtain ⟨n5r, nr5, n54, n45, n53, n35, _, _, n52, n25, d5⟩ := d5
      simp -dsimp [n3r, nr3, n32, n23, n43, n34, n4r, nr4, n42, n24, n5r, nr5, n54, n45, n53, n35, n52, n25]
      refine two_ok ?_
      simp -dsimp [n2r, n23, n24, n25]
      exact Gives.sub (Fr.sub (rid := rid) (by repeat first | exact Fr.refl | refine Fr.own ?_ | refine Fr.set ?_ (by assumption)) (by simp [nr2, nr5])) hK
    · have hcomp : compS ms e s = (a, t) := by simp [compS, ht, b1, b2]
      rw [hcomp] at hK
      simp -dsimp [b2]
      refine take_ok (s := t) hg (by simp [nr3, nr4]) hlt1 ?_
      simp -dsimp [b1]
      refine take_ok (s := t) hg (by simp [takeS, b1]) hlt1 ?_
      simp -dsimp [b2, n3r, nr3, n32, n23, n43, n34, n4r, nr4, n42, n24, n2r]
      exact Gives.sub (Fr.sub (rid := rid) (by repeat first | exact Fr.refl | refine Fr.own ?_ | refine Fr.set ?_ (by assumption)) (by simp [nr2, takeS, b2])) hK

theorem cons_ok (hg : Good ms) (he : Reads ms k e) (hc : Ctr Tryz.prog 117 ms k e) : ∀ (n : Nat) {rid : Nat} {s : St} {h : Hp} {K : AV → Hp → Prop}, s.at_ < ms.length → ms.length ≤ s.at_ + (k + 1) → ms.length < s.at_ + n → (0 ≤ s.nest ∧ s.nest ≤ 32768) → h rid = .cells (rdCells ms s) →
    K (.agg (consS ms e n s).1.cells) (hset h rid (.cells (rdCells ms (consS ms e n s).2))) → ACalls Tryz.prog 130 [.ptr rid 0] h K
  | 0, rid, s, h, K, ha, _, hn, _, _, _ => by omega
  | n + 1, rid, s, h, K, ha, hk, hfu, hn, hh, hK => by
    have hcs : Ctr Tryz.prog 134 ms (k + 1) (compS ms e) := comp_ok hg he hc
    have hsub := comp_on hg he
    refine calls_of mixed Tryz.func130 comp130 (Nat.le_of_ble_eq_true rfl) ?_
    have hl := hg.le
    simp -dsimp [c130]
    intro i2 d2
    obtain ⟨nr2, n2r⟩ := rd_ne hh d2
    simp -dsimp
    have hs1 := (hsub s ha hk).1
    refine hcs (s := s) ha hk hn (by simp [nr2, hh]) ?_
    simp -dsimp
    intro i3 d3
    simp at d3
    obtain ⟨n3r, nr3, n32, n23, d3⟩ := d3
    simp -dsimp
    have hle1 := hs1.le
    have hlt1 := hs1.lt
    have hnest := hs1.nest
    generalize ht : compS ms e s = T at *
    obtain ⟨a, t⟩ := T
    simp only at hs1 hle1 hlt1 hnest
    refine next_ok (s := t) (by simp [nr3]) hlt1 ?_
    simp -dsimp
    intro i4 d4
    simp at d4
    obtain ⟨n43, n34, n4r, nr4, n42, n24, d4⟩ := d4
    simp -dsimp
    refine take_ok (s := t) hg (by simp [nr3, nr4]) hlt1 ?_
    by_cases b1 : isB ms t [58] = true
    · have hga := isB_on hg hlt1 b1
      have hcons : consS ms e (n + 1) s = (two 18 a (consS ms e n (adv t)).1 (nx ms t), (consS ms e n (adv t)).2) := by simp [consS, ht, b1]
      rw [hcons] at hK
      simp -dsimp [b1]
      have hsb := (cons_on hg he n (adv t) hga.lt (by rw [adv_at]; omega) (by rw [adv_at]; omega)).1
      refine cons_ok hg he hc n (s := adv t) hga.lt (by rw [adv_at]; omega) (by rw [adv_at]; omega) (by show 0 ≤ t.nest ∧ t.nest ≤ 32768; rw [hnest]; exact hn) (by simp [takeS, b1]) ?_
      simp -dsimp
      intro i5 d5
      simp at d5
      obtain ⟨n5r, nr5, n54, n45, n53, n35, _, _, n52, n25, d5⟩ := d5
      simp -dsimp [n3r, nr3, n32, n23, n43, n34, n4r, nr4, n42, n24, n5r, nr5, n54, n45, n53, n35, n52, n25]
      refine two_ok ?_
      simp -dsimp [n2r, n23, n24, n25]
      exact Gives.sub (Fr.sub (rid := rid) (by repeat first | exact Fr.refl | refine Fr.own ?_ | refine Fr.set ?_ (by assumption)) (by simp [nr2, nr5])) hK
    · have hcons : consS ms e (n + 1) s = (a, t) := by simp [consS, ht, b1]
      rw [hcons] at hK
      simp -dsimp [b1, n3r, nr3, n32, n23, n43, n34, n4r, nr4, n42, n24, n2r]
      exact Gives.sub (Fr.sub (rid := rid) (by repeat first | exact Fr.refl | refine Fr.own ?_ | refine Fr.set ?_ (by assumption)) (by simp [nr2, takeS, b1])) hK
end Go.Proofs.YtcpkdbofohkipaaGreat

/- The grammar: parts and branches. -/
namespace Go.Proofs.YtcpkdbofohkipaaGreat
open Go.AM
variable {ms : List Mk} {k : Nat} {e : St → Ex × St}

theorem parts_ok (hg : Good ms) (he : Reads ms k e) (hc : Ctr Tryz.prog 117 ms k e) {rid wid we : Nat} {s : St} {h : Hp} {K : AV → Hp → Prop} {l : List Bytes} (hl10 : l.length ≤ 10) (ha : s.at_ < ms.length) (hk : ms.length ≤ s.at_ + k) (hn : 0 ≤ s.nest ∧ s.nest ≤ 32768) (hh : h rid = .cells (rdCells ms s))
    (hw : h wid = .arr we 1 (l.map fun w => [.str w])) (hK : K (rowsAV (Ex.rows (partsS ms e s l).1)) (hset h rid (.cells (rdCells ms (partsS ms e s l).2)))) : ACalls Tryz.prog 131 [.ptr rid 0, .sl wid 0 l.length] h K := by
  refine calls_of mixed Tryz.func131 comp131 (Nat.le_of_ble_eq_true rfl) ?_
  have hl := hg.le
  simp -dsimp [c131]
  have hwr : ¬ wid = rid := by rintro rfl; rw [hh] at hw; cases hw
  generalize hR : partsS ms e s l = R at *
  refine ALoop.start (fun n tm h' => ∃ (i : Nat) (acc : List Ex) (t : St), i + n = l.length ∧ acc.length = i ∧ tm 0 = .ptr rid 0 ∧ tm 1 = .sl wid 0 l.length ∧ tm 6 = .int .i64 i ∧ h' rid = .cells (rdCells ms t) ∧ Own h h' 69 7 (tm 5) (acc.map Ex.cells) ∧ Fr h h' rid ∧ On ms s t ∧
    acc ++ (partsS ms e t (l.drop i)).1 = R.1 ∧ (partsS ms e t (l.drop i)).2 = R.2) l.length ⟨0, [], s, by simp, rfl, by simp, by simp, by simp, hh, by simpa using Own.nil, Fr.refl, On.refl ha, by simp [hR], by simp [hR]⟩ ?_
  rintro n tm h' ⟨i, acc, t, hi, hacl, t0, t1, t6, hr, ho, hf, hon, hR1, hR2⟩
  have hwid : h' wid = .arr we 1 (l.map fun w => [.str w]) := by
    rcases hf wid hwr with x | x
    · rw [x] at hw; cases hw
    · rw [x]; exact hw
  have hw1 : IntKind.i64.wrap ((i : Int) + 1) = ((i + 1 : Nat) : Int) := by rw [wrap_i64] <;> omega
  by_cases hlt : i < l.length
  · have hdr : l.drop i = l[i] :: l.drop (i + 1) := List.drop_eq_getElem_cons hlt
    rw [hdr] at hR1 hR2
    simp only [partsS] at hR1 hR2
    by_cases hem : l[i] = []
    · have hs1 : On ms t t := On.refl hon.lt
      rw [if_pos hem] at hR1 hR2
      simp -dsimp [t0, t1, t6, hwid, hlt, hem]
      have hk1 := (he t hs1.lt (by have := hs1.le; have := hon.le; omega)).1
      refine hc (s := t) hs1.lt (by have := hs1.le; have := hon.le; omega) (by rw [hs1.nest, hon.nest]; exact hn) hr ?_
      simp -dsimp
      intro i7 d7
      simp at d7
      obtain ⟨n7r, nr7, d7⟩ := d7
      simp -dsimp [t0, n7r, nr7]
      intro i8 d8
      simp at d8
      obtain ⟨n87, n78, n8r, nr8, d8⟩ : ¬ i8 = i7 ∧ ¬ i7 = i8 ∧ ¬ i8 = rid ∧ ¬ rid = i8 ∧ h' i8 = .dead := by simp_all
      simp -dsimp
      refine Own.app (h := h) (rid := rid) (x := rdCells ms (e t).2) (by first | exact ((ho.setc hr).setd (by simp [n7r, d7])).setd (by simp [n87, n8r, d8]) | exact (((ho.setc hr).setc (j := rid) (cs := rdCells ms t) (by simp)).setd (by simp [n7r, d7])).setd (by simp [n87, n8r, d8])) (by first | exact ((hf.own).set (hf.dead hr d7)).set (hf.dead hr d8) | exact ((hf.own.own).set (hf.dead hr d7)).set (hf.dead hr d8)) (by simp [nr7, nr8]) (by simp) (by simp; omega) (by simp; omega) (fun v' h2 ho2 hf2 hkeep => ?_)
      have er : h2 rid = .cells (rdCells ms (e t).2) := hkeep rid _ (by simp [nr7, nr8])
      simp -dsimp [t6, hw1]
      exact Again.same (n - 1) (by omega) ⟨i + 1, acc ++ [(e t).1], (e t).2, by omega, by simp [hacl], by simp [t0], by simp [t1], by simp, er, by simpa using ho2, hf2, (hon.trans hs1).trans hk1, by simpa using hR1, hR2⟩
    · have hs1 : On ms t (wantS ms t l[i]) := want_on hg hon.lt
      rw [if_neg hem] at hR1 hR2
      simp -dsimp [t0, t1, t6, hwid, hlt, hem]
      refine want_ok (s := t) hg hr hon.lt ?_
      simp -dsimp [t0]
      have hk1 := (he (wantS ms t l[i]) hs1.lt (by have := hs1.le; have := hon.le; omega)).1
      refine hc (s := (wantS ms t l[i])) hs1.lt (by have := hs1.le; have := hon.le; omega) (by rw [hs1.nest, hon.nest]; exact hn) (by simp) ?_
      simp -dsimp
      intro i7 d7
      simp at d7
      obtain ⟨n7r, nr7, d7⟩ := d7
      simp -dsimp [t0, n7r, nr7]
      intro i8 d8
      simp at d8
      obtain ⟨n87, n78, n8r, nr8, d8⟩ : ¬ i8 = i7 ∧ ¬ i7 = i8 ∧ ¬ i8 = rid ∧ ¬ rid = i8 ∧ h' i8 = .dead := by simp_all
      simp -dsimp
      refine Own.app (h := h) (rid := rid) (x := rdCells ms (e (wantS ms t l[i])).2) (by first | exact ((ho.setc hr).setd (by simp [n7r, d7])).setd (by simp [n87, n8r, d8]) | exact (((ho.setc hr).setc (j := rid) (cs := rdCells ms (wantS ms t l[i])) (by simp)).setd (by simp [n7r, d7])).setd (by simp [n87, n8r, d8])) (by first | exact ((hf.own).set (hf.dead hr d7)).set (hf.dead hr d8) | exact ((hf.own.own).set (hf.dead hr d7)).set (hf.dead hr d8)) (by simp [nr7, nr8]) (by simp) (by simp; omega) (by simp; omega) (fun v' h2 ho2 hf2 hkeep => ?_)
      have er : h2 rid = .cells (rdCells ms (e (wantS ms t l[i])).2) := hkeep rid _ (by simp [nr7, nr8])
      simp -dsimp [t6, hw1]
      exact Again.same (n - 1) (by omega) ⟨i + 1, acc ++ [(e (wantS ms t l[i])).1], (e (wantS ms t l[i])).2, by omega, by simp [hacl], by simp [t0], by simp [t1], by simp, er, by simpa using ho2, hf2, (hon.trans hs1).trans hk1, by simpa using hR1, hR2⟩
  · have hnil : l.drop i = [] := List.drop_eq_nil_of_le (by omega)
    rw [hnil] at hR1 hR2
    simp only [partsS, List.append_nil] at hR1 hR2
    simp -dsimp [t0, t1, t6, hlt]
    refine Gives.frz (h' := hset h rid (.cells (rdCells ms R.2))) (hf.sub (by rw [hr, hR2])) (ho.frz (rid := rid) hr) ?_
    rw [Ex.rows_map, ← hR1] at hK
    exact hK

theorem branches_ok (hg : Good ms) (he : Reads ms k e) (hc : Ctr Tryz.prog 117 ms k e) {rid i5 : Nat} {s : St} {h : Hp} {pos : Int} {K : AV → Hp → Prop} (ha : s.at_ < ms.length) (hk : ms.length ≤ s.at_ + k) (hn : 0 ≤ s.nest ∧ s.nest ≤ 32768) (hh : h rid = .cells (rdCells ms s))
    (hi5 : h i5 = .cells [.int .i64 0, .str [], .str [], .int .i64 0, .cplx 0 0, .nl, .int .i64 pos]) (h5r : ¬ i5 = rid)
    (hK : ∀ id, h id = .dead → K (.tup []) (hset (hset (hset h rid (.cells (rdCells ms (branchesS ms e s pos).2))) id (.arr 69 7 [(e s).1.cells, (e (br1 ms e s)).1.cells, (e (br4 ms e s)).1.cells])) i5
      (.cells [.int .i64 20, .str (nameS ms (br2 ms e s)).1.text, .str (nameS ms (br3 ms e s)).1.text, .int .i64 0, .cplx 0 0, .sl id 0 3, .int .i64 pos]))) : ACalls Tryz.prog 132 [.ptr rid 0, .ptr i5 0] h K := by
  refine calls_of mixed Tryz.func132 comp132 (Nat.le_of_ble_eq_true rfl) ?_
  have hl := hg.le
  have hr5 : ¬ rid = i5 := fun x => h5r x.symm
  have q1 := br1_on hg he ha hk
  have q2 := br2_on hg he ha hk
  have q3 := br3_on hg he ha hk
  have q4 := br4_on hg he ha hk
  have p0 := (he s ha hk).1
  have l1 := q1.le
  have l2 := q2.le
  have l3 := q3.le
  have l4 := q4.le
  simp -dsimp [c132, hi5]
  refine hc (s := s) ha hk hn (by simp [hr5, hh]) ?_
  simp -dsimp
  intro a4 d4
  simp at d4
  obtain ⟨n4r, nr4, n45, n54, d4⟩ := d4
  have o1 := want_on hg (t := [111, 102]) p0.lt
  have o2 := want_on hg (t := [110, 105, 108]) o1.lt
  have o3 := want_on hg (t := [45, 62]) o2.lt
  have e1 : wantS ms (wantS ms (wantS ms (e s).2 [111, 102]) [110, 105, 108]) [45, 62] = br1 ms e s := rfl
  simp -dsimp [nr4]
  refine want_ok (s := (e s).2) hg (by simp [nr4]) p0.lt ?_
  simp -dsimp
  refine want_ok (s := wantS ms (e s).2 [111, 102]) hg (by simp) o1.lt ?_
  simp -dsimp
  refine want_ok (s := wantS ms (wantS ms (e s).2 [111, 102]) [110, 105, 108]) hg (by simp) o2.lt ?_
  simp -dsimp
  rw [e1]
  have p1 := (he _ q1.lt (by omega)).1
  refine hc (s := br1 ms e s) q1.lt (by omega) (by rw [q1.nest]; exact hn) (by simp) ?_
  simp -dsimp
  intro a5 d5
  simp at d5
  obtain ⟨m5r, mr5, m54, m45, _, _, m55, m55', d5⟩ := d5
  have e2 : wantS ms (e (br1 ms e s)).2 [124] = br2 ms e s := rfl
  simp -dsimp [mr5]
  refine want_ok (s := (e (br1 ms e s)).2) hg (by simp [mr5]) p1.lt ?_
  simp -dsimp
  rw [e2]
  refine name_ok (s := br2 ms e s) hg (by simp) q2.lt ?_
  simp -dsimp
  intro a6 d6
  simp at d6
  obtain ⟨m6r, mr6, m6a5, ma56, _, _, m6a4, ma46, _, _, m65, m56, d6⟩ := d6
  have q2n := name_on hg q2.lt
  have e3 : wantS ms (nameS ms (br2 ms e s)).2 [58] = br3 ms e s := rfl
  simp -dsimp [mr6]
  refine want_ok (s := (nameS ms (br2 ms e s)).2) hg (by simp [mr6]) q2n.lt ?_
  simp -dsimp
  rw [e3]
  refine name_ok (s := br3 ms e s) hg (by simp) q3.lt ?_
  simp -dsimp
  intro a7 d7
  simp at d7
  obtain ⟨m7r, mr7, m76, m67, _, _, m7a5, ma57, _, _, m7a4, ma47, _, _, m75, m57, d7⟩ := d7
  have q3n := name_on hg q3.lt
  have e4 : wantS ms (nameS ms (br3 ms e s)).2 [45, 62] = br4 ms e s := rfl
  simp -dsimp [mr7]
  refine want_ok (s := (nameS ms (br3 ms e s)).2) hg (by simp [mr7]) q3n.lt ?_
  simp -dsimp
  rw [e4]
  refine hc (s := br4 ms e s) q4.lt (by omega) (by rw [q4.nest]; exact hn) (by simp) ?_
  simp -dsimp
  intro a8 d8
  simp at d8
  obtain ⟨m8r, mr8, m87, m78, _, _, m86, m68, _, _, m8a5, ma58, _, _, m8a4, ma48, _, _, m85, m58, d8⟩ := d8
  simp -dsimp [h5r, hr5, n4r, nr4, n45, n54, m5r, mr5, m54, m45, m55, m55', m6r, mr6, m6a5, ma56, m6a4, ma46, m65, m56, m7r, mr7, m76, m67, m7a5, ma57, m7a4, ma47, m75, m57, m8r, mr8, m87, m78, m86, m68, m8a5, ma58, m8a4, ma48, m85, m58]
  intro a9 d9
  simp at d9
  obtain ⟨m95, m59, m98, m89, m9r, mr9, rest⟩ := d9
  repeat (obtain ⟨_, rest⟩ := rest)
  simp -dsimp [m95, m59]
  refine Gives.sub (Fr.sub3 ?_ ?_ ?_ ?_) (hK a9 rest)
  · repeat first | exact Fr.kill | refine Fr.own ?_ | refine Fr.set ?_ (by simp [n45, m55, m65, m75, m85, m95, d4, d5, d6, d7, d8, rest])
  · simp [hr5, mr8, mr9]; rfl
  · simp [m95]
  · simp [m59]
end Go.Proofs.YtcpkdbofohkipaaGreat

/- The grammar: expressions. -/
namespace Go.Proofs.YtcpkdbofohkipaaGreat
open Go.AM
variable {ms : List Mk} {k : Nat} {e : St → Ex × St}

def eT3 : ACode := match c117.code with | .seq _ (.seq _ (.seq _ (.seq _ (.seq _ (.seq _ (.seq _ (.seq _ (.seq _ (.seq _ x))))))))) => x | _ => .skip
def eT2 : ACode := match c117.code with | .seq _ (.seq _ (.seq _ (.seq _ (.seq _ (.seq _ (.seq _ (.seq _ x))))))) => x | _ => .skip
def eT1 : ACode := match c117.code with | .seq _ (.seq _ (.seq _ x)) => x | _ => .skip

/-- What is done last. -/
theorem expr_t3 {rid i2 i5 : Nat} {h H : Hp} {K : AV → Hp → Prop} {tm : Tm} {t : St} {b : Bool} {cs : List AV} {x : Ex} (t0 : tm 0 = .ptr rid 0) (t2 : tm 2 = .ptr i2 0) (t4 : tm 4 = .bool b) (t5 : tm 5 = .ptr i5 0)
    (hr : H rid = .cells (rdCells ms t)) (hi2 : H i2 = .cells ex0.cells) (hi5 : H i5 = .cells cs) (hcs : cs.length = 7) (d2 : h i2 = .dead) (hf : Fr h H rid) (n2r : ¬ i2 = rid) (n5r : ¬ i5 = rid) (hn : -1 ≤ t.nest ∧ t.nest ≤ 40000)
    (hz : ∀ H2 X, (∀ j a b c, H j = .arr a b c → H2 j = .arr a b c) → Frz H2 (hset h rid X) (.agg cs) (.agg x.cells))
    (hK : K (.agg x.cells) (hset h rid (.cells (rdCells ms (if b = true then higher t else t))))) :
    AW Tryz.prog eT3 (fun e tm h' => match e with | .exit _ => False | _ => Gives K (aLda 7 (tm 2) h') h') tm H := by
  have htk : cs.take 7 = cs := List.take_of_length_le (by omega)
  have hdk : cs.drop 7 = [] := List.drop_eq_nil_of_le (by omega)
  have hnr : ¬ rid = i2 := fun x => n2r x.symm
  have hw : IntKind.i64.wrap (t.nest - 1) = t.nest - 1 := by rw [wrap_i64] <;> omega
  have hex : ex0.cells.drop 7 = [] := rfl
  cases b
  · simp -dsimp [eT3, c117, t0, t2, t4, t5, hi5, hi2, hcs, htk, hdk]
    refine Gives.frz (h' := hset h rid (.cells (rdCells ms t))) ((hf.set d2).sub (by simp [hnr, hr])) (hz _ _ ?_) hK
    intro j a b c hj
    have : ¬ j = i2 := by rintro rfl; rw [hi2] at hj; cases hj
    simp [this, hj]
  · simp -dsimp [eT3, c117, t0, t2, t4, t5, hi5, hi2, hcs, htk, hdk, hr, rdCells, hw, n2r, n5r]
    refine Gives.frz (h' := hset h rid (.cells (rdCells ms (higher t)))) ((hf.own.set d2).sub (by simp [hnr, rdCells, higher])) (hz _ _ ?_) hK
    intro j a b c hj
    have n1 : ¬ j = i2 := by rintro rfl; rw [hi2] at hj; cases hj
    have n2 : ¬ j = rid := by rintro rfl; rw [hr] at hj; cases hj
    simp [n1, n2, hj]

/-- An expression by its first word. -/
theorem expr_t2 (hg : Good ms) (he : Reads ms k e) (hc : Ctr Tryz.prog 117 ms k e) {rid i2 i3 : Nat} {h H : Hp} {K : AV → Hp → Prop} {tm : Tm} {t : St} {m : Mk} {b : Bool} (ha : t.at_ < ms.length) (hk : ms.length ≤ t.at_ + k) (hn : 0 ≤ t.nest ∧ t.nest ≤ 32768)
    (t0 : tm 0 = .ptr rid 0) (t2 : tm 2 = .ptr i2 0) (t3 : tm 3 = .ptr i3 0) (t4 : tm 4 = .bool b)
    (hr : H rid = .cells (rdCells ms t)) (hi2 : H i2 = .cells ex0.cells) (hi3 : H i3 = .cells m.cells) (d2 : h i2 = .dead) (hf : Fr h H rid) (n2r : ¬ i2 = rid) (n3r : ¬ i3 = rid) (n23 : ¬ i2 = i3)
    (hK : K (.agg (headS ms e t m).1.cells) (hset h rid (.cells (rdCells ms (if b = true then higher (headS ms e t m).2 else (headS ms e t m).2))))) :
    AW Tryz.prog eT2 (fun e tm h' => match e with | .exit _ => False | _ => Gives K (aLda 7 (tm 2) h') h') tm H := by
  have hsplit : eT2 = .seq (match eT2 with | .seq a _ => a | _ => .skip) (.seq (match eT2 with | .seq _ (.seq a _) => a | _ => .skip) eT3) := rfl
  rw [hsplit]
  have tail := @expr_t3 ms rid i2
  generalize eT3 = T at *
  simp -dsimp [eT2, c117, t0, t2, t3, hi3]
  intro i5 d5
  have n52 : ¬ i5 = i2 := by rintro rfl; rw [d5] at hi2; cases hi2
  have n53 : ¬ i5 = i3 := by rintro rfl; rw [d5] at hi3; cases hi3
  have n5r : ¬ i5 = rid := by rintro rfl; rw [d5] at hr; cases hr
  have nr5 : ¬ rid = i5 := fun x => n5r x.symm
  have n25 : ¬ i2 = i5 := fun x => n52 x.symm
  have n35 : ¬ i3 = i5 := fun x => n53 x.symm
  have dh5 : h i5 = .dead := hf.dead hr d5
  have hho := head_on hg he (m := m) ha hk
  have hnest : 0 ≤ (headS ms e t m).2.nest ∧ (headS ms e t m).2.nest ≤ 32768 := by rw [hho.nest]; exact hn
  simp -dsimp [n35, n53, hi3, t3]
  by_cases m1 : m.text = [105, 102]
  · have hh : headS ms e t m = (.mk 19 [] [] 0 0 0 (partsS ms e t [[], [116, 104, 101, 110], [101, 108, 115, 101]]).1 m.pos, (partsS ms e t [[], [116, 104, 101, 110], [101, 108, 115, 101]]).2) := by simp only [headS, if_pos m1]
    rw [hh] at hK hnest
    simp -dsimp [m1, t0]
    intro i6 d6
    simp at d6
    obtain ⟨n65, n56, d6⟩ := d6
    have n6r : ¬ i6 = rid := by rintro rfl; rw [d6] at hr; cases hr
    have nr6 : ¬ rid = i6 := fun x => n6r x.symm
    have n62 : ¬ i6 = i2 := by rintro rfl; rw [d6] at hi2; cases hi2
    have n26 : ¬ i2 = i6 := fun x => n62 x.symm
    simp -dsimp [t0]
    refine parts_ok hg he hc (we := 9) (l := [[], [116, 104, 101, 110], [101, 108, 115, 101]]) (by simp) ha hk hn (by simp [nr5, nr6, hr]) (by simp) ?_
    simp -dsimp [n56, n5r]
    refine tail (h := h) (b := b) (x := .mk 19 [] [] 0 0 0 (partsS ms e t [[], [116, 104, 101, 110], [101, 108, 115, 101]]).1 m.pos) (t := (partsS ms e t [[], [116, 104, 101, 110], [101, 108, 115, 101]]).2)
      (by simp [t0]) (by simp [t2]) (by simp [t4]) (by simp) (by simp [nr5]) (by simp [n25, n2r, n26, hi2]) (by simp; rfl) (by simp) d2 ((((hf.set dh5).set (hf.dead hr d6)).own).set dh5) n2r n5r (by simp only at hnest; omega) (fun _ _ _ => .same _) hK
  · by_cases m2 : m.text = [99, 97, 115, 101]
    · have hh : headS ms e t m = branchesS ms e t m.pos := by simp only [headS, if_neg m1, if_pos m2]
      rw [hh] at hK hnest
      simp -dsimp [m2, t0]
      refine branches_ok hg he hc (pos := m.pos) ha hk hn (by simp [nr5, hr]) (by simp) n5r ?_
      intro i7 d7
      simp at d7
      obtain ⟨n75, n57, d7⟩ := d7
      have n7r : ¬ i7 = rid := by rintro rfl; rw [d7] at hr; cases hr
      have nr7 : ¬ rid = i7 := fun x => n7r x.symm
      have n72 : ¬ i7 = i2 := by rintro rfl; rw [d7] at hi2; cases hi2
      have n27 : ¬ i2 = i7 := fun x => n72 x.symm
      have dh7 := hf.dead hr d7
      simp -dsimp
      refine tail (h := h) (b := b) (x := (branchesS ms e t m.pos).1) (t := (branchesS ms e t m.pos).2)
        (by simp [t0]) (by simp [t2]) (by simp [t4]) (by simp) (by simp [nr5, nr7]) (by simp [n25, n2r, n27, hi2]) (by simp; rfl) (by simp) d2 ((((hf.set dh5).own).set dh7).set dh5) n2r n5r (by omega) ?_ hK
      intro H2 X hH
      exact Frz.cell (a := [.int .i64 20, .str _, .str _, .int .i64 0, .cplx 0 0]) (b := [.int .i64 m.pos]) (Frz.rows (id := i7) (e := 69) (sz := 7) (xs := [(e t).1.cells, (e (br1 ms e t)).1.cells, (e (br4 ms e t)).1.cells]) (hH _ _ _ _ (by simp [n75])) (by simp [n7r, dh7]))
    · have hh : headS ms e t m = letS ms e t m := by simp only [headS, if_neg m1, if_neg m2]
      rw [hh] at hK hnest
      have q1 := name_on hg ha
      have q2 := typ_on hg q1.lt
      have q3 := q1.trans q2
      have l3 := q3.le
      by_cases m3 : m.text = [115, 116, 114, 105, 99, 116]
      · simp -dsimp [m1, m2, m3, t0, n35, n53, hi3, t3]
        refine name_ok (s := t) hg (by simp [nr5, hr]) ha ?_
        simp -dsimp [n5r]
        intro i6 d6
        simp at d6
        obtain ⟨n6r, nr6, n65, n56, d6'⟩ := d6
        have n62 : ¬ i6 = i2 := by rintro rfl; rw [d6'] at hi2; cases hi2
        have n26 : ¬ i2 = i6 := fun x => n62 x.symm
        simp -dsimp [n65, n56, n5r, nr5, t0]
        refine typ_ok (s := (nameS ms t).2) hg (by simp [nr5, nr6]) q1.lt ?_
        simp -dsimp [n65, n56, n5r, nr5, t0]
        intro i7 d7
        simp at d7
        have n75 : ¬ i7 = i5 := by rintro rfl; simp at d7
        have n76 : ¬ i7 = i6 := by rintro rfl; simp at d7
        have n7r : ¬ i7 = rid := by rintro rfl; simp at d7
        have d7' : H i7 = .dead := by
          repeat (obtain ⟨_, d7⟩ := d7)
          exact d7
        have n57 : ¬ i5 = i7 := fun x => n75 x.symm
        have nr7 : ¬ rid = i7 := fun x => n7r x.symm
        have n72 : ¬ i7 = i2 := by rintro rfl; rw [d7'] at hi2; cases hi2
        have n27 : ¬ i2 = i7 := fun x => n72 x.symm
        simp -dsimp [t0]
        refine parts_ok hg he hc (we := 9) (l := [[61], [105, 110]]) (by simp) q3.lt (by omega) (by rw [q3.nest]; exact hn) (by simp [nr5, nr7]) (by simp) ?_
        simp -dsimp [n57, n5r]
        have hle : letS ms e t m = (.mk 22 (nameS ms t).1.text [] (typS ms (nameS ms t).2).1 0 0 (partsS ms e (typS ms (nameS ms t).2).2 [[61], [105, 110]]).1 m.pos, (partsS ms e (typS ms (nameS ms t).2).2 [[61], [105, 110]]).2) := by simp [letS, m3]
        rw [hle] at hK hnest
        refine tail (h := h) (b := b) (x := .mk 22 (nameS ms t).1.text [] (typS ms (nameS ms t).2).1 0 0 (partsS ms e (typS ms (nameS ms t).2).2 [[61], [105, 110]]).1 m.pos) (t := (partsS ms e (typS ms (nameS ms t).2).2 [[61], [105, 110]]).2)
          (by simp [t0]) (by simp [t2]) (by simp [t4]) (by simp) (by simp [nr5]) (by simp [n25, n2r, n26, n27, hi2]) (by simp; rfl) (by simp) d2 ?_ n2r n5r (by simp only at hnest; omega) (fun _ _ _ => .same _) hK
        have dh6 := hf.dead hr d6'
        have dh7 := hf.dead hr d7'
        repeat first | exact hf | refine Fr.own ?_ | refine Fr.set ?_ (by assumption)
      · simp -dsimp [m1, m2, m3, t0, n35, n53, hi3, t3]
        refine name_ok (s := t) hg (by simp [nr5, hr]) ha ?_
        simp -dsimp [n5r]
        intro i6 d6
        simp at d6
        obtain ⟨n6r, nr6, n65, n56, d6'⟩ := d6
        have n62 : ¬ i6 = i2 := by rintro rfl; rw [d6'] at hi2; cases hi2
        have n26 : ¬ i2 = i6 := fun x => n62 x.symm
        simp -dsimp [n65, n56, n5r, nr5, t0]
        refine typ_ok (s := (nameS ms t).2) hg (by simp [nr5, nr6]) q1.lt ?_
        simp -dsimp [n65, n56, n5r, nr5, t0]
        intro i7 d7
        simp at d7
        have n75 : ¬ i7 = i5 := by rintro rfl; simp at d7
        have n76 : ¬ i7 = i6 := by rintro rfl; simp at d7
        have n7r : ¬ i7 = rid := by rintro rfl; simp at d7
        have d7' : H i7 = .dead := by
          repeat (obtain ⟨_, d7⟩ := d7)
          exact d7
        have n57 : ¬ i5 = i7 := fun x => n75 x.symm
        have nr7 : ¬ rid = i7 := fun x => n7r x.symm
        have n72 : ¬ i7 = i2 := by rintro rfl; rw [d7'] at hi2; cases hi2
        have n27 : ¬ i2 = i7 := fun x => n72 x.symm
        simp -dsimp [t0]
        refine parts_ok hg he hc (we := 9) (l := [[61], [105, 110]]) (by simp) q3.lt (by omega) (by rw [q3.nest]; exact hn) (by simp [nr5, nr7]) (by simp) ?_
        simp -dsimp [n57, n5r]
        have hle : letS ms e t m = (.mk 21 (nameS ms t).1.text [] (typS ms (nameS ms t).2).1 0 0 (partsS ms e (typS ms (nameS ms t).2).2 [[61], [105, 110]]).1 m.pos, (partsS ms e (typS ms (nameS ms t).2).2 [[61], [105, 110]]).2) := by simp [letS, m3]
        rw [hle] at hK hnest
        refine tail (h := h) (b := b) (x := .mk 21 (nameS ms t).1.text [] (typS ms (nameS ms t).2).1 0 0 (partsS ms e (typS ms (nameS ms t).2).2 [[61], [105, 110]]).1 m.pos) (t := (partsS ms e (typS ms (nameS ms t).2).2 [[61], [105, 110]]).2)
          (by simp [t0]) (by simp [t2]) (by simp [t4]) (by simp) (by simp [nr5]) (by simp [n25, n2r, n26, n27, hi2]) (by simp; rfl) (by simp) d2 ?_ n2r n5r (by simp only at hnest; omega) (fun _ _ _ => .same _) hK
        have dh6 := hf.dead hr d6'
        have dh7 := hf.dead hr d7'
        repeat first | exact hf | refine Fr.own ?_ | refine Fr.set ?_ (by assumption)
end Go.Proofs.YtcpkdbofohkipaaGreat

/- The grammar: expressions, whole. -/
namespace Go.Proofs.YtcpkdbofohkipaaGreat
open Go.AM
variable {ms : List Mk} {k : Nat} {e : St → Ex × St}

theorem expr_ok (hg : Good ms) (he : Reads ms k e) (hc : Ctr Tryz.prog 117 ms k e) : Ctr Tryz.prog 117 ms (k + 1) (exprS ms e) := by
  intro rid s h K ha hk hn hh hK
  refine calls_of mixed Tryz.func117 comp117 (Nat.le_of_ble_eq_true rfl) ?_
  have hl := hg.le
  have hres : c117.res = [.many 7 2] := rfl
  rw [hres]
  have tail1 : ∀ (tm : Tm) (i2 i3 : Nat), h i2 = .dead → h i3 = .dead → ¬ i2 = i3 → tm 0 = .ptr rid 0 → tm 2 = .ptr i2 0 → tm 3 = .ptr i3 0 → tm 4 = .bool (bindsB ms s) →
      AW Tryz.prog eT1 (fun e tm h' => match e with | .exit _ => False | _ => Gives K (aLda 7 (tm 2) h') h') tm (hset (hset h i2 (.cells ex0.cells)) i3 (.cells (nx ms s).cells)) := by
    intro tm i2 i3 d2 d3 n23 t0 t2 t3 t4
    have n32 : ¬ i3 = i2 := fun x => n23 x.symm
    obtain ⟨nr2, n2r⟩ := rd_ne hh d2
    obtain ⟨nr3, n3r⟩ := rd_ne hh d3
    have hsplit : eT1 = .seq (match eT1 with | .seq a _ => a | _ => .skip) (.seq (match eT1 with | .seq _ (.seq a _) => a | _ => .skip) (.seq (match eT1 with | .seq _ (.seq _ (.seq a _)) => a | _ => .skip) (.seq (match eT1 with | .seq _ (.seq _ (.seq _ (.seq a _))) => a | _ => .skip) (.seq (match eT1 with | .seq _ (.seq _ (.seq _ (.seq _ (.seq a _)))) => a | _ => .skip) eT2)))) := rfl
    rw [hsplit]
    have tail := @expr_t2 ms k e hg he (@hc)
    generalize eT2 = T at *
    by_cases hw : s.why = 0
    case neg =>
      have hb : bindsB ms s = false := by
        cases hb : bindsB ms s
        · rfl
        · exact absurd (binds_kind hb).1 hw
      rw [show exprS ms e s = (ex0, s) by simp [exprS, hw], hset_self hh] at hK
      simp -dsimp [eT1, c117, t0, t2, t4, hb, hh, nr2, nr3, n23, n32, rdCells, hw]
      refine Gives.sub (by repeat first | exact Sub.refl _ | refine Sub.put ?_ | refine Sub.dropr ?_ (by simp [*])) hK
    cases hb : bindsB ms s
    · by_cases hif : isB ms s [105, 102] = true
      · have hga := isB_on hg ha hif
        have hex : exprS ms e s = headS ms e (adv s) (nx ms s) := by simp only [exprS]; rw [if_neg (by simp [hw]), if_neg (by simp [hb]), if_pos hif]
        rw [hex] at hK
        have hwp : IntKind.i64.wrap ((s.at_ : Int) + 1) = ((s.at_ + 1 : Nat) : Int) := by rw [wrap_i64] <;> omega
        simp -dsimp [eT1, c117, t0, t2, t4, hb, hh, nr2, nr3, n23, n32, rdCells, hw]
        refine is_ok (s := s) (by simp [nr2, nr3, hh]) ha ?_
        simp -dsimp [-Int.natCast_add, hif, t0, t4, hb, hh, nr2, nr3, rdCells, hw, hwp]
        refine tail (h := h) (t := adv s) (m := nx ms s) (b := false) hga.lt (by rw [adv_at]; omega) hn (by simp [t0]) (by simp [t2]) (by simp [t3]) (by simp [t4, hb]) (by simp [rdCells, adv, hw]) (by simp [n2r, n23]) (by simp [n3r]) d2 (((Fr.refl.set d2).set d3).own) n2r n3r n23 (by simpa using hK)
      · have hex : exprS ms e s = consS ms e (ms.length + 1) s := by simp only [exprS]; rw [if_neg (by simp [hw]), if_neg (by simp [hb]), if_neg hif]
        rw [hex] at hK
        simp -dsimp [eT1, c117, t0, t2, t4, hb, hh, nr2, nr3, n23, n32, rdCells, hw]
        refine is_ok (s := s) (by simp [nr2, nr3, hh]) ha ?_
        simp -dsimp [hif, t0, t2]
        refine cons_ok hg he hc (ms.length + 1) (s := s) ha hk (by omega) hn (by simp [nr2, nr3, hh]) ?_
        simp -dsimp [n2r, n23, t2]
        refine Gives.sub (by repeat first | exact Sub.refl _ | refine Sub.put ?_ | refine Sub.dropr ?_ (by simp [*])) hK
    · have hbk := binds_kind hb
      by_cases hne : 32768 ≤ s.nest
      · have hex : exprS ms e s = (ex0, failS ms s 23) := by simp only [exprS]; rw [if_neg (by simp [hw]), if_pos hb, if_pos hne]
        rw [hex] at hK
        simp -dsimp [eT1, c117, t0, t2, t4, hb, hh, nr2, nr3, n23, n32, rdCells, hne]
        refine fail_ok (s := s) (by simp [nr2, nr3, hh]) ha ?_
        simp -dsimp [t0, t2, rdCells, failS, hw, n2r, n23, nr2]
        refine Gives.sub (h' := hset h rid (.cells (rdCells ms (failS ms s 23)))) (by simp only [failS, hw, if_true, rdCells]; repeat first | exact Sub.refl _ | refine Sub.put ?_ | refine Sub.dropr ?_ (by simp [*])) hK
      · have hex : exprS ms e s = ((headS ms e (adv (deeper s)) (nx ms s)).1, higher (headS ms e (adv (deeper s)) (nx ms s)).2) := by simp only [exprS]; rw [if_neg (by simp [hw]), if_pos hb, if_neg hne]
        rw [hex] at hK
        have hga := adv_on hg ha hbk.2
        have hwp : IntKind.i64.wrap ((s.at_ : Int) + 1) = ((s.at_ + 1 : Nat) : Int) := by rw [wrap_i64] <;> omega
        have hwn : IntKind.i64.wrap (s.nest + 1) = s.nest + 1 := by rw [wrap_i64] <;> omega
        simp -dsimp [-Int.natCast_add, eT1, c117, t0, t2, t4, hb, hh, nr2, nr3, n23, n32, rdCells, hne, hw, hwp, hwn]
        refine tail (h := h) (t := adv (deeper s)) (m := nx ms s) (b := true) hga.lt (by show ms.length ≤ s.at_ + 1 + k; omega) (by show 0 ≤ s.nest + 1 ∧ s.nest + 1 ≤ 32768; omega) (by simp [t0]) (by simp [t2]) (by simp [t3]) (by simp [t4, hb]) (by simp [rdCells, adv, deeper, hw]) (by simp [n2r, n23]) (by simp [n3r]) d2 (((Fr.refl.set d2).set d3).own) n2r n3r n23 (by simpa using hK)
  have hsplit : c117.code = .seq (match c117.code with | .seq a _ => a | _ => .skip) (.seq (match c117.code with | .seq _ (.seq a _) => a | _ => .skip) (.seq (match c117.code with | .seq _ (.seq _ (.seq a _)) => a | _ => .skip) eT1)) := rfl
  rw [hsplit]
  generalize eT1 = T at *
  simp -dsimp [c117]
  intro i2 d2
  obtain ⟨nr2, n2r⟩ := rd_ne hh d2
  simp -dsimp
  refine next_ok (s := s) (by simp [nr2, hh]) ha ?_
  simp -dsimp
  intro i3 d3
  simp at d3
  obtain ⟨n32, n23, d3⟩ := d3
  obtain ⟨nr3, n3r⟩ := rd_ne hh d3
  simp -dsimp
  refine is_ok (s := s) (by simp [nr2, nr3, hh]) ha ?_
  cases b1 : isB ms s [108, 101, 116]
  · simp -dsimp
    refine is_ok (s := s) (by simp [nr2, nr3, hh]) ha ?_
    cases b2 : isB ms s [115, 116, 114, 105, 99, 116]
    · simp -dsimp
      refine is_ok (s := s) (by simp [nr2, nr3, hh]) ha ?_
      cases b3 : isB ms s [99, 97, 115, 101]
      · simp -dsimp
        exact tail1 _ _ _ d2 d3 n23 (by simp) (by simp) (by simp) (by simp [bindsB, b1, b2, b3])
      · simp -dsimp
        exact tail1 _ _ _ d2 d3 n23 (by simp) (by simp) (by simp) (by simp [bindsB, b1, b2, b3])
    · simp -dsimp
      exact tail1 _ _ _ d2 d3 n23 (by simp) (by simp) (by simp) (by simp [bindsB, b1, b2])
  · simp -dsimp
    exact tail1 _ _ _ d2 d3 n23 (by simp) (by simp) (by simp) (by simp [bindsB, b1])

theorem reads_ok (hg : Good ms) : ∀ k, Ctr Tryz.prog 117 ms k (pExpr ms k)
  | 0 => fun ha hk _ _ _ => by omega
  | k + 1 => expr_ok hg (pExpr_on hg k) (reads_ok hg k)
end Go.Proofs.YtcpkdbofohkipaaGreat

/- The grammar: definitions. -/
namespace Go.Proofs.YtcpkdbofohkipaaGreat
open Go.AM
variable {ms : List Mk}

def dT : ACode := match c80.code with | .seq _ (.seq _ (.seq _ (.seq _ (.seq _ (.seq _ x))))) => x | _ => .skip

/-- What stands behind the parameters. -/
theorem def_t (hg : Good ms) {rid i4 i6 : Nat} {h H : Hp} {K : AV → Hp → Prop} {tm : Tm} {t : St} {v : AV} {ps : List Pm} {nm : Bytes} {pos : Int} (ha : t.at_ < ms.length) (hn : 0 ≤ t.nest ∧ t.nest ≤ 32768)
    (t0 : tm 0 = .ptr rid 0) (t4 : tm 4 = .ptr i4 0) (t6 : tm 6 = .ptr i6 0)
    (hr : H rid = .cells (rdCells ms t)) (hi4 : H i4 = .cells ([.str [], .nl, .int .i64 0] ++ (ex0.cells ++ [.int .i64 0]))) (hi6 : H i6 = .cells ([.str nm, v, .int .i64 0] ++ (ex0.cells ++ [.int .i64 pos])))
    (ho : Own h H 73 3 v (ps.map Pm.cells)) (d4 : h i4 = .dead) (d6 : h i6 = .dead) (hf : Fr h H rid) (n4r : ¬ i4 = rid) (n6r : ¬ i6 = rid) (n46 : ¬ i4 = i6)
    (hK : K (.agg (Df.cells ⟨nm, ps, (typS ms (wantS ms (wantS ms t [41]) [58])).1, (pExpr ms ms.length (wantS ms (typS ms (wantS ms (wantS ms t [41]) [58])).2 [61])).1, pos⟩))
      (hset h rid (.cells (rdCells ms (wantS ms (pExpr ms ms.length (wantS ms (typS ms (wantS ms (wantS ms t [41]) [58])).2 [61])).2 [59]))))) :
    AW Tryz.prog dT (fun e tm h' => match e with | .exit _ => False | _ => Gives K (aLda 11 (tm 4) h') h') tm H := by
  have nr4 : ¬ rid = i4 := fun x => n4r x.symm
  have nr6 : ¬ rid = i6 := fun x => n6r x.symm
  have n64 : ¬ i6 = i4 := fun x => n46 x.symm
  have o1 := want_on hg (t := [41]) ha
  have o2 := want_on hg (t := [58]) o1.lt
  have o3 := typ_on hg o2.lt
  have o4 := want_on hg (t := [61]) o3.lt
  have o14 := ((o1.trans o2).trans o3).trans o4
  have o5 := (pExpr_on hg ms.length _ o4.lt (by omega)).1
  simp -dsimp [dT, c80, t0]
  refine want_ok (s := t) hg hr ha ?_
  simp -dsimp [t0]
  refine want_ok (s := wantS ms t [41]) hg (by simp) o1.lt ?_
  simp -dsimp [t0]
  refine typ_ok (s := wantS ms (wantS ms t [41]) [58]) hg (by simp) o2.lt ?_
  simp -dsimp [t0, t6, n6r, nr6, hi6, ex0, Ex.cells, Ex.rows, rowsAV]
  refine want_ok (s := (typS ms (wantS ms (wantS ms t [41]) [58])).2) hg (by simp [nr6]) o3.lt ?_
  simp -dsimp [t0]
  refine reads_ok hg ms.length (s := wantS ms (typS ms (wantS ms (wantS ms t [41]) [58])).2 [61]) o4.lt (by omega) (by rw [o14.nest]; exact hn) (by simp) ?_
  generalize hE : pExpr ms ms.length (wantS ms (typS ms (wantS ms (wantS ms t [41]) [58])).2 [61]) = E at *
  simp -dsimp [t0, t6, n6r, nr6]
  refine want_ok (s := E.2) hg (by simp [nr6]) o5.lt ?_
  have tk8 : (E.1.cells ++ [AV.int IntKind.i64 pos]).take 8 = E.1.cells ++ [AV.int IntKind.i64 pos] := List.take_of_length_le (by simp)
  simp -dsimp [tk8, t4, t6, n6r, nr6, n4r, n46, hi4, ex0, Ex.cells, Ex.rows, rowsAV]
  refine Gives.frz (h' := hset h rid (.cells (rdCells ms (wantS ms E.2 [59])))) (Fr.sub ?_ (by simp [nr4])) (Frz.cell (a := [.str nm]) (b := .int .i64 (typS ms (wantS ms (wantS ms t [41]) [58])).1 :: (E.1.cells ++ [.int .i64 pos])) (Own.frz (h := h) (rid := rid) (e := 73) (sz := 3) (x := rdCells ms (wantS ms E.2 [59])) (rows := ps.map Pm.cells) ?_ ?_)) hK
  · repeat first | exact hf | refine Fr.own ?_ | refine Fr.set ?_ (by assumption)
  · repeat first | exact ho | refine Own.set ?_ (by intro a b c; simp [hr, hi4, hi6, n6r, nr6, n4r, n46, nr4, n64])
  · simp [nr4]
end Go.Proofs.YtcpkdbofohkipaaGreat

/- The grammar: one parameter. -/
namespace Go.Proofs.YtcpkdbofohkipaaGreat
open Go.AM
variable {ms : List Mk}

def dB2 : ACode := match c80.code with | .seq _ (.seq _ (.seq _ (.seq _ (.seq _ (.seq (.block _ (.loop (.seq _ (.block _ (.seq _ z))))) _))))) => z | _ => .skip
def dB3 : ACode := match dB2 with | .seq _ z => z | _ => .skip

theorem db3_ok (hg : Good ms) {rid i4 i6 : Nat} {h H : Hp} {tm : Tm} {s : St} {Q : AExit → Tm → Hp → Prop} {acc : List Pm} {v a0 : AV} {l z4 : List AV} (hl3 : l.length = 9) (ha : s.at_ < ms.length) (hacc : acc.length ≤ 50000)
    (t0 : tm 0 = .ptr rid 0) (t6 : tm 6 = .ptr i6 0) (hr : H rid = .cells (rdCells ms s)) (hi6 : H i6 = .cells (a0 :: v :: l)) (hi4 : H i4 = .cells z4) (d6 : h i6 = .dead) (n4r : ¬ i4 = rid) (n6r : ¬ i6 = rid) (n46 : ¬ i4 = i6)
    (ho : Own h H 73 3 v (acc.map Pm.cells)) (hf : Fr h H rid)
    (hQ : ∀ tm' H' v', tm' 0 = .ptr rid 0 → tm' 4 = tm 4 → tm' 6 = .ptr i6 0 → H' rid = .cells (rdCells ms (typS ms (nameS ms s).2).2) → H' i6 = .cells (a0 :: v' :: l) → H' i4 = .cells z4 →
      Own h H' 73 3 v' ((acc ++ [Pm.mk (nameS ms s).1.text (typS ms (nameS ms s).2).1 (nameS ms s).1.pos]).map Pm.cells) → Fr h H' rid → Q .normal tm' H') :
    AW Tryz.prog dB3 Q tm H := by
  have q2 := name_on hg ha
  have nr6 : ¬ rid = i6 := fun x => n6r x.symm
  simp -dsimp [dB3, dB2, c80, t0]
  refine name_ok (s := s) hg hr ha ?_
  simp -dsimp
  intro i7 d7
  simp at d7
  obtain ⟨n7r, nr7, d7⟩ := d7
  have n74 : ¬ i7 = i4 := by rintro rfl; rw [d7] at hi4; cases hi4
  have n76 : ¬ i7 = i6 := by rintro rfl; rw [d7] at hi6; cases hi6
  have n47 : ¬ i4 = i7 := fun x => n74 x.symm
  have n67 : ¬ i6 = i7 := fun x => n76 x.symm
  simp -dsimp [t0]
  refine typ_ok (s := (nameS ms s).2) hg (by simp [nr7]) q2.lt ?_
  simp -dsimp [t6, n6r, n67, n7r, n76, hi6]
  intro i8 d8
  simp at d8
  have n87 : ¬ i8 = i7 := by rintro rfl; simp [n7r] at d8
  have n8r : ¬ i8 = rid := by rintro rfl; simp at d8
  have d8' : H i8 = .dead := by
    repeat (obtain ⟨_, d8⟩ := d8)
    exact d8
  have n84 : ¬ i8 = i4 := by rintro rfl; rw [d8'] at hi4; cases hi4
  have n86 : ¬ i8 = i6 := by rintro rfl; rw [d8'] at hi6; cases hi6
  have n48 : ¬ i4 = i8 := fun x => n84 x.symm
  have n68 : ¬ i6 = i8 := fun x => n86 x.symm
  have nr8 : ¬ rid = i8 := fun x => n8r x.symm
  simp -dsimp
  refine Own.app (h := h) (rid := rid) (rows := acc.map Pm.cells) (x := rdCells ms (typS ms (nameS ms s).2).2) ?_ ?_ ?_ (by simp) (by simp; omega) (by simp; omega) (fun v' h2 ho2 hf2 hkeep => ?_)
  · repeat first | exact ho | refine Own.set ?_ (by intro a b c; simp [hr, n7r, n87, n8r, nr7, d7, d8'])
  · have := hf.dead hr d7
    have := hf.dead hr d8'
    repeat first | exact hf | refine Fr.own ?_ | refine Fr.set ?_ (by assumption)
  · simp [nr7, nr8]
  have e6 : h2 i6 = .cells (a0 :: v :: l) := hkeep i6 _ (by simp [n6r, n67, n68, hi6])
  have er : h2 rid = .cells (rdCells ms (typS ms (nameS ms s).2).2) := hkeep rid _ (by simp [nr7, nr8])
  have e4 : h2 i4 = .cells z4 := hkeep i4 _ (by simp [n4r, n47, n48, hi4])
  simp -dsimp [t6, e6, ho2.flat]
  exact hQ _ _ v' (by simp [t0]) (by simp) (by simp [t6]) (by simp [nr6, er]) (by simp) (by simp [n46, e4]) (by simpa [Pm.cells] using ho2.setc e6) (hf2.set d6)

theorem db2_ok (hg : Good ms) {rid i4 i6 : Nat} {h H : Hp} {tm : Tm} {s : St} {Q : AExit → Tm → Hp → Prop} {acc : List Pm} {v a0 : AV} {l z4 : List AV} (hl3 : l.length = 9) (ha : s.at_ < ms.length) (hacc : acc.length ≤ 50000)
    (t0 : tm 0 = .ptr rid 0) (t6 : tm 6 = .ptr i6 0) (hr : H rid = .cells (rdCells ms s)) (hi6 : H i6 = .cells (a0 :: v :: l)) (hi4 : H i4 = .cells z4) (d6 : h i6 = .dead) (n4r : ¬ i4 = rid) (n6r : ¬ i6 = rid) (n46 : ¬ i4 = i6)
    (ho : Own h H 73 3 v (acc.map Pm.cells)) (hf : Fr h H rid)
    (hQ : ∀ tm' H' v', tm' 0 = .ptr rid 0 → tm' 4 = tm 4 → tm' 6 = .ptr i6 0 → H' rid = .cells (rdCells ms (typS ms (nameS ms (parS ms acc.length s)).2).2) → H' i6 = .cells (a0 :: v' :: l) → H' i4 = .cells z4 →
      Own h H' 73 3 v' ((acc ++ [Pm.mk (nameS ms (parS ms acc.length s)).1.text (typS ms (nameS ms (parS ms acc.length s)).2).1 (nameS ms (parS ms acc.length s)).1.pos]).map Pm.cells) → Fr h H' rid → Q .normal tm' H') :
    AW Tryz.prog dB2 Q tm H := by
  have hsplit : dB2 = .seq (match dB2 with | .seq a _ => a | _ => .skip) dB3 := rfl
  rw [hsplit]
  have nr6 : ¬ rid = i6 := fun x => n6r x.symm
  have tail : ∀ (tm' : Tm) (H' : Hp), tm' 0 = .ptr rid 0 → tm' 4 = tm 4 → tm' 6 = .ptr i6 0 → H' = hset H rid (.cells (rdCells ms (parS ms acc.length s))) → AW Tryz.prog dB3 Q tm' H' := by
    rintro tm' H' u0 u4 u6 rfl
    refine db3_ok hg (s := parS ms acc.length s) (acc := acc) (v := v) (a0 := a0) (z4 := z4) hl3 (parS_on ha).lt hacc u0 u6 (by simp) (by simp [n6r, hi6]) (by simp [n4r, hi4]) d6 n4r n6r n46 (ho.setc hr) hf.own ?_
    intro tm2 H2 v2 w0 w4 w6
    exact hQ tm2 H2 v2 w0 (w4.trans u4) w6
  have hself : parS ms acc.length s = s → hset H rid (.cells (rdCells ms (parS ms acc.length s))) = H := fun x => by rw [x]; exact hset_self hr
  generalize dB3 = T at *
  by_cases hw : s.why = 0
  · by_cases hk0 : (nx ms s).kind = 0
    · by_cases hc : 32768 ≤ acc.length
      · have hp : parS ms acc.length s = failS ms s 22 := by simp [parS, hw, hk0, hc]
        have hc' : (32768 : Int) ≤ acc.length := by omega
        simp -dsimp [dB2, c80, t0, hr, rdCells, hw]
        refine next_ok (s := s) hr ha ?_
        simp -dsimp [t0, t6, hi6, hk0, ho.len, hr, rdCells, hc']
        refine fail_ok (s := s) hr ha ?_
        simp -dsimp
        exact tail _ _ (by simp [t0]) (by simp) (by simp [t6]) (by rw [hp])
      · have hp : parS ms acc.length s = s := by simp [parS, hc]
        have hc' : ¬ (32768 : Int) ≤ acc.length := by omega
        simp -dsimp [dB2, c80, t0, hr, rdCells, hw]
        refine next_ok (s := s) hr ha ?_
        simp -dsimp [t0, t6, hi6, hk0, ho.len, hr, rdCells, hc']
        exact tail _ _ (by simp [t0]) (by simp) (by simp [t6]) (hself hp).symm
    · have hp : parS ms acc.length s = s := by simp [parS, hk0]
      simp -dsimp [dB2, c80, t0, hr, rdCells, hw]
      refine next_ok (s := s) hr ha ?_
      simp -dsimp [hk0]
      exact tail _ _ (by simp [t0]) (by simp) (by simp [t6]) (hself hp).symm
  · have hp : parS ms acc.length s = s := by simp [parS, hw]
    simp -dsimp [dB2, c80, t0, hr, rdCells, hw]
    exact tail _ _ (by simp [t0]) (by simp) (by simp [t6]) (hself hp).symm
end Go.Proofs.YtcpkdbofohkipaaGreat

/- The grammar: definitions, whole. -/
namespace Go.Proofs.YtcpkdbofohkipaaGreat
open Go.AM
variable {ms : List Mk}

def dR1 : ACode := match c80.code with | .seq _ (.seq _ x) => x | _ => .skip

theorem def_r1 (hg : Good ms) {rid i4 n : Nat} {h H : Hp} {K : AV → Hp → Prop} {tm : Tm} {s : St} (ha : s.at_ < ms.length) (hn : 0 ≤ s.nest ∧ s.nest ≤ 32768)
    (t0 : tm 0 = .ptr rid 0) (t4 : tm 4 = .ptr i4 0) (hr : H rid = .cells (rdCells ms (df1 ms n s))) (hi4 : H i4 = .cells ([.str [], .nl, .int .i64 0] ++ (ex0.cells ++ [.int .i64 0]))) (d4 : h i4 = .dead) (hf : Fr h H rid) (n4r : ¬ i4 = rid)
    (hK : K (.agg (defS ms n s).1.cells) (hset h rid (.cells (rdCells ms (defS ms n s).2)))) :
    AW Tryz.prog dR1 (fun e tm h' => match e with | .exit _ => False | _ => Gives K (aLda 11 (tm 4) h') h') tm H := by
  have hl := hg.le
  have nr4 : ¬ rid = i4 := fun x => n4r x.symm
  have q1 := df1_on (ms := ms) (n := n) ha
  have q2 := name_on hg q1.lt
  have hsplit : dR1 = .seq (match dR1 with | .seq a _ => a | _ => .skip) (.seq (match dR1 with | .seq _ (.seq a _) => a | _ => .skip) (.seq (match dR1 with | .seq _ (.seq _ (.seq a _)) => a | _ => .skip) (.seq (.block 0 (.loop (.seq (match dR1 with | .seq _ (.seq _ (.seq _ (.seq (.block _ (.loop (.seq a _))) _))) => a | _ => .skip) (.block 1 (.seq (match dR1 with | .seq _ (.seq _ (.seq _ (.seq (.block _ (.loop (.seq _ (.block _ (.seq a _))))) _))) => a | _ => .skip) dB2))))) dT))) := rfl
  rw [hsplit]
  have tail := @def_t ms hg rid i4
  have mid := @db2_ok ms hg rid i4
  generalize dT = T at *
  generalize dB2 = B at *
  simp -dsimp [dR1, c80, t0]
  refine name_ok (s := df1 ms n s) hg hr q1.lt ?_
  simp -dsimp
  intro i5 d5
  simp at d5
  obtain ⟨n5r, nr5, d5⟩ := d5
  simp -dsimp
  intro i6 d6
  simp at d6
  obtain ⟨n65, n56, n6r, nr6, d6⟩ := d6
  have n54 : ¬ i5 = i4 := by rintro rfl; rw [d5] at hi4; cases hi4
  have n64 : ¬ i6 = i4 := by rintro rfl; rw [d6] at hi4; cases hi4
  have n46 : ¬ i4 = i6 := fun x => n64 x.symm
  have n45 : ¬ i4 = i5 := fun x => n54 x.symm
  simp -dsimp [t0, n65, n56]
  refine want_ok (s := (nameS ms (df1 ms n s)).2) hg (by simp [nr5, nr6]) q2.lt ?_
  simp -dsimp
  have q3 := want_on hg (t := [40]) q2.lt
  generalize hs0 : wantS ms (nameS ms (df1 ms n s)).2 [40] = s0 at *
  have q13 := (q1.trans q2).trans q3
  have hn0 : 0 ≤ s0.nest ∧ s0.nest ≤ 32768 := by rw [q13.nest]; exact hn
  have hdf2 : df2 ms n s = paramsS ms (ms.length + 1) [] s0 := by simp only [df2, hs0]
  generalize hR : paramsS ms (ms.length + 1) [] s0 = R at *
  have d5h := hf.dead hr d5
  have d6h := hf.dead hr d6
  refine ALoop.start (fun k tm h' => ∃ (acc : List Pm) (t : St) (v : AV), tm 0 = .ptr rid 0 ∧ tm 4 = .ptr i4 0 ∧ tm 6 = .ptr i6 0 ∧ h' rid = .cells (rdCells ms t) ∧ h' i4 = .cells ([.str [], .nl, .int .i64 0] ++ (ex0.cells ++ [.int .i64 0])) ∧
    h' i6 = .cells ([.str (nameS ms (df1 ms n s)).1.text, v, .int .i64 0] ++ (ex0.cells ++ [.int .i64 (nameS ms (df1 ms n s)).1.pos])) ∧ Own h h' 73 3 v (acc.map Pm.cells) ∧ Fr h h' rid ∧ On ms s0 t ∧
    paramsS ms k acc t = R ∧ (t.why = 0 → acc.length ≤ t.at_) ∧ acc.length ≤ t.at_ + 1 ∧ 1 ≤ k ∧ (t.why = 0 → ms.length + 1 ≤ t.at_ + k)) (ms.length + 1)
    ⟨[], s0, .nl, by simp [t0], by simp [t4], by simp, by simp, by simp [n4r, n46, n45, hi4], by simp [n6r, n65]; rfl, Own.nil, ((((hf.own).set d5h).set d6h).own), On.refl q3.lt, hR, by simp, by simp, by omega, by omega⟩ ?_
  rintro k tm h' ⟨acc, t, v, t0, t4, t6, hr, hi4, hi6, ho, hf, hon, hRR, hac, hac1, hk1, hfu⟩
  obtain ⟨k, rfl⟩ : ∃ q, k = q + 1 := ⟨k - 1, by omega⟩
  have fin : paramsS ms (k + 1) acc t = (acc, t) → ∀ tm' : Tm, tm' 0 = .ptr rid 0 → tm' 4 = .ptr i4 0 → tm' 6 = .ptr i6 0 →
      AW Tryz.prog T (fun e tm h' => match e with | .exit _ => False | _ => Gives K (aLda 11 (tm 4) h') h') tm' h' := by
    intro hq tm' u0 u4 u6
    rw [hq] at hRR
    refine tail (h := h) (t := t) (ps := acc) (v := v) hon.lt (by rw [hon.nest]; exact hn0) u0 u4 u6 hr hi4 hi6 ho d4 d6h hf n4r n6r n46 ?_
    have e3 : df3 ms n s = wantS ms (wantS ms t [41]) [58] := by simp only [df3, hdf2, ← hRR]
    simpa only [defS, df4, e3, hdf2, ← hRR] using hK
  by_cases hw : t.why = 0
  · by_cases hcl : isB ms t [41] = true
    · have hq : paramsS ms (k + 1) acc t = (acc, t) := by simp [paramsS, hcl]
      simp -dsimp [dR1, c80, t0, hr, rdCells, hw]
      refine is_ok (s := t) hr hon.lt ?_
      simp -dsimp [hcl]
      exact fin hq _ (by simp [t0]) (by simp [t4]) (by simp [t6])
    · have hq : paramsS ms (k + 1) acc t = paramsS ms k (acc ++ [parP ms acc t]) (parT ms acc t) := by simp [paramsS, hcl, hw]
      rw [hq] at hRR
      simp -dsimp [dR1, c80, t0, hr, rdCells, hw]
      refine is_ok (s := t) hr hon.lt ?_
      simp -dsimp [dR1, c80, hcl, t0, t6, hi6, ho.len]
      have hal := hac hw
      have hlt := hon.lt
      have step : ∀ (s1 : St) (tm' : Tm) (H' : Hp), s1 = (if acc = [] then t else wantS ms t [44]) → On ms t s1 → tm' 0 = .ptr rid 0 → tm' 4 = .ptr i4 0 → tm' 6 = .ptr i6 0 → H' rid = .cells (rdCells ms s1) →
          H' i6 = .cells ([.str (nameS ms (df1 ms n s)).1.text, v, .int .i64 0] ++ (ex0.cells ++ [.int .i64 (nameS ms (df1 ms n s)).1.pos])) → H' i4 = .cells ([.str [], .nl, .int .i64 0] ++ (ex0.cells ++ [.int .i64 0])) → Own h H' 73 3 v (acc.map Pm.cells) → Fr h H' rid →
          ∀ Q : AExit → Tm → Hp → Prop, (∀ tm2 H2 v2, tm2 0 = .ptr rid 0 → tm2 4 = .ptr i4 0 → tm2 6 = .ptr i6 0 → H2 rid = .cells (rdCells ms (parT ms acc t)) → H2 i6 = .cells ([.str (nameS ms (df1 ms n s)).1.text, v2, .int .i64 0] ++ (ex0.cells ++ [.int .i64 (nameS ms (df1 ms n s)).1.pos])) → H2 i4 = .cells ([.str [], .nl, .int .i64 0] ++ (ex0.cells ++ [.int .i64 0])) → Own h H2 73 3 v2 ((acc ++ [parP ms acc t]).map Pm.cells) → Fr h H2 rid → Q .normal tm2 H2) →
          AW Tryz.prog B Q tm' H' := by
        rintro s1 tm' H' hs1 hon1 u0 u4 u6 hr1 hi61 hi41 ho1 hf1 Q hQ
        refine mid (h := h) (s := s1) (acc := acc) (v := v) (a0 := AV.str (nameS ms (df1 ms n s)).1.text) (l := AV.int IntKind.i64 0 :: (ex0.cells ++ [AV.int IntKind.i64 (nameS ms (df1 ms n s)).1.pos])) (z4 := [AV.str [], AV.nl, AV.int IntKind.i64 0] ++ (ex0.cells ++ [AV.int IntKind.i64 0])) (by simp) hon1.lt (by omega) u0 u6 hr1 hi61 hi41 d6h n4r n6r n46 ho1 hf1 ?_
        intro tm2 H2 v2 w0 w4 w6 wr wi6 wi4 wo wf
        refine hQ tm2 H2 v2 w0 (w4.trans u4) w6 ?_ wi6 wi4 ?_ wf
        · rw [wr, hs1]; rfl
        · rw [hs1] at wo; exact wo
      have hpt := parT_on hg (acc := acc) hlt
      have hgo := parT_go hg (acc := acc) hlt
      have hple := hpt.le
      by_cases hacc : acc = []
      · simp -dsimp [t0, hacc]
        refine step t _ _ (by simp [hacc]) (On.refl hlt) (by simp [t0]) (by simp [t4]) (by simp [t6]) hr hi6 hi4 ho hf _ ?_
        intro tm2 H2 v2 w0 w4 w6 wr wi6 wi4 wo wf
        exact Again.same k (by omega) ⟨acc ++ [parP ms acc t], parT ms acc t, v2, w0, w4, w6, wr, wi4, wi6, wo, wf, hon.trans hpt, hRR, by simp; omega, by simp; omega, by omega, by omega⟩
      · have hpos : 0 < acc.length := List.length_pos_iff.2 hacc
        simp -dsimp [t0, hacc, hpos]
        refine want_ok (s := t) hg hr hlt ?_
        simp -dsimp
        refine step (wantS ms t [44]) _ _ (by simp [hacc]) (want_on hg hlt) (by simp [t0]) (by simp [t4]) (by simp [t6]) (by simp) (by simp [n6r, hi6]) (by simp [n4r, hi4]) (ho.setc hr) hf.own _ ?_
        intro tm2 H2 v2 w0 w4 w6 wr wi6 wi4 wo wf
        exact Again.same k (by omega) ⟨acc ++ [parP ms acc t], parT ms acc t, v2, w0, w4, w6, wr, wi4, wi6, wo, wf, hon.trans hpt, hRR, by simp; omega, by simp; omega, by omega, by omega⟩
  · have hq : paramsS ms (k + 1) acc t = (acc, t) := by simp [paramsS, hw]
    simp -dsimp [dR1, c80, t0, hr, rdCells, hw]
    exact fin hq _ (by simp [t0]) (by simp [t4]) (by simp [t6])

theorem def_ok (hg : Good ms) {rid n : Nat} {h : Hp} {K : AV → Hp → Prop} {s : St} (ha : s.at_ < ms.length) (hn : 0 ≤ s.nest ∧ s.nest ≤ 32768) (hh : h rid = .cells (rdCells ms s))
    (hK : K (.agg (defS ms n s).1.cells) (hset h rid (.cells (rdCells ms (defS ms n s).2)))) : ACalls Tryz.prog 80 [.ptr rid 0, .int .i64 n] h K := by
  refine calls_of mixed Tryz.func80 comp80 (Nat.le_of_ble_eq_true rfl) ?_
  have hres : ∀ (tm : Tm) (h' : Hp), resOf c80.res tm h' = aLda 11 (tm 4) h' := by intro tm h'; simp [c80]
  simp only [hres]
  have hsplit : c80.code = .seq (match c80.code with | .seq a _ => a | _ => .skip) (.seq (match c80.code with | .seq _ (.seq a _) => a | _ => .skip) dR1) := rfl
  rw [hsplit]
  have tail := @def_r1 ms hg rid
  generalize dR1 = T at *
  simp -dsimp [c80]
  intro i4 d4
  obtain ⟨nr4, n4r⟩ := rd_ne hh d4
  simp -dsimp
  refine next_ok (s := s) (by simp [nr4, hh]) ha ?_
  by_cases hk0 : (nx ms s).kind = 0
  · by_cases hc : 32768 ≤ n
    · have hc' : (32768 : Int) ≤ n := by omega
      have hdf : df1 ms n s = failS ms s 22 := by simp [df1, hk0, hc]
      simp -dsimp [hk0, nr4, hh, rdCells, hc']
      refine fail_ok (s := s) (by simp [nr4, hh]) ha ?_
      simp -dsimp
      exact tail (n := n) (s := s) (h := h) ha hn (by simp) (by simp) (by simp [hdf]) (by simp [n4r]; rfl) d4 ((Fr.refl.set d4).own) n4r hK
    · have hc' : ¬ (32768 : Int) ≤ n := by omega
      have hdf : df1 ms n s = s := by simp [df1, hc]
      simp -dsimp [hk0, nr4, hh, rdCells, hc']
      exact tail (n := n) (s := s) (h := h) ha hn (by simp) (by simp) (by simp [hdf, nr4, hh]) (by simp; rfl) d4 (Fr.refl.set d4) n4r hK
  · have hdf : df1 ms n s = s := by simp [df1, hk0]
    simp -dsimp [hk0]
    exact tail (n := n) (s := s) (h := h) ha hn (by simp) (by simp) (by simp [hdf, nr4, hh]) (by simp; rfl) d4 (Fr.refl.set d4) n4r hK
end Go.Proofs.YtcpkdbofohkipaaGreat

/- The grammar: programs. -/
namespace Go.Proofs.YtcpkdbofohkipaaGreat
open Go.AM
variable {ms : List Mk}

def pB : ACode := match c41.code with | .seq _ (.seq _ (.seq (.block _ (.loop (.seq _ (.block _ x)))) _)) => x | _ => .skip

theorem pbody_ok (hg : Good ms) {rid i2 i3 : Nat} {h h' : Hp} {tm' : Tm} {t : St} {v : AV} {acc : List Df} {Q : AExit → Tm → Hp → Prop} (hlt : t.at_ < ms.length) (hn : 0 ≤ t.nest ∧ t.nest ≤ 32768) (hal : acc.length ≤ 50000)
    (u0 : tm' 0 = .ptr rid 0) (u2 : tm' 2 = .ptr i2 0) (u3 : tm' 3 = .ptr i3 0) (hr : h' rid = .cells (rdCells ms t)) (hi2 : h' i2 = .cells [.nl]) (hi3 : h' i3 = .cells [v]) (ho : Own h h' 71 11 v (acc.map Df.cells)) (hf : Fr h h' rid)
    (d3 : h i3 = .dead) (n2r : ¬ i2 = rid) (n3r : ¬ i3 = rid) (nr3 : ¬ rid = i3) (n23 : ¬ i2 = i3)
    (hQ : ∀ tm2 H2 v2, tm2 0 = .ptr rid 0 → tm2 2 = .ptr i2 0 → tm2 3 = .ptr i3 0 → H2 rid = .cells (rdCells ms (defS ms acc.length t).2) → H2 i2 = .cells [.nl] → H2 i3 = .cells [v2] → Own h H2 71 11 v2 ((acc ++ [(defS ms acc.length t).1]).map Df.cells) → Fr h H2 rid → Q .normal tm2 H2) :
    AW Tryz.prog pB Q tm' h' := by
  simp -dsimp [pB, c41, u0, u3, hi3, ho.len]
  refine def_ok hg (n := acc.length) (s := t) hlt hn hr ?_
  simp -dsimp
  intro i4 d4
  simp at d4
  obtain ⟨n4r, nr4, d4⟩ := d4
  have n42 : ¬ i4 = i2 := by rintro rfl; rw [d4] at hi2; cases hi2
  have n43 : ¬ i4 = i3 := by rintro rfl; rw [d4] at hi3; cases hi3
  have n24 : ¬ i2 = i4 := fun x => n42 x.symm
  have n34 : ¬ i3 = i4 := fun x => n43 x.symm
  have tk : (defS ms acc.length t).1.cells.take 11 = (defS ms acc.length t).1.cells := List.take_of_length_le (by simp)
  have dk : (defS ms acc.length t).1.cells.drop 11 = [] := List.drop_eq_nil_of_le (by simp)
  simp -dsimp [u3, n34, n3r, hi3, tk, dk]
  intro i5 d5
  simp at d5
  have n54 : ¬ i5 = i4 := by rintro rfl; simp at d5
  have n5r : ¬ i5 = rid := by rintro rfl; simp at d5
  have d5' : h' i5 = .dead := by
    repeat (obtain ⟨_, d5⟩ := d5)
    exact d5
  have n52 : ¬ i5 = i2 := by rintro rfl; rw [d5'] at hi2; cases hi2
  have n53 : ¬ i5 = i3 := by rintro rfl; rw [d5'] at hi3; cases hi3
  have n25 : ¬ i2 = i5 := fun x => n52 x.symm
  have n35 : ¬ i3 = i5 := fun x => n53 x.symm
  have nr5 : ¬ rid = i5 := fun x => n5r x.symm
  simp -dsimp
  refine Own.app (h := h) (rid := rid) (rows := acc.map Df.cells) (x := rdCells ms (defS ms acc.length t).2) ?_ ?_ ?_ (by simp) (by simp; omega) (by simp; omega) (fun v' h2 ho2 hf2 hkeep => ?_)
  · repeat first | exact ho | refine Own.set ?_ (by intro a b c; simp [hr, n4r, n54, n5r, nr4, d4, d5'])
  · have := hf.dead hr d4
    have := hf.dead hr d5'
    repeat first | exact hf | refine Fr.own ?_ | refine Fr.set ?_ (by assumption)
  · simp [nr4, nr5]
  have e3 : h2 i3 = .cells [v] := hkeep i3 _ (by simp [n3r, n34, n35, hi3])
  have er : h2 rid = .cells (rdCells ms (defS ms acc.length t).2) := hkeep rid _ (by simp [nr4, nr5])
  have e2 : h2 i2 = .cells [.nl] := hkeep i2 _ (by simp [n2r, n24, n25, hi2])
  simp -dsimp [u3, e3, ho2.flat]
  exact hQ _ _ v' (by simp [u0]) (by simp [u2]) (by simp [u3]) (by simp [nr3, er]) (by simp [n23, e2]) (by simp) (by simpa using ho2.setc e3) (hf2.set d3)

theorem program_ok (hg : Good ms) {rid : Nat} {h : Hp} {K : AV → Hp → Prop} {s : St} (ha : s.at_ < ms.length) (hn : 0 ≤ s.nest ∧ s.nest ≤ 32768) (hh : h rid = .cells (rdCells ms s))
    (hK : K (.agg [rowsAV ((programS ms (ms.length + 1) [] s).1.map Df.cells)]) (hset h rid (.cells (rdCells ms (programS ms (ms.length + 1) [] s).2)))) : ACalls Tryz.prog 41 [.ptr rid 0] h K := by
  refine calls_of mixed Tryz.func41 comp41 (Nat.le_of_ble_eq_true rfl) ?_
  have hl := hg.le
  have hsplit : c41.code = .seq (match c41.code with | .seq a _ => a | _ => .skip) (.seq (match c41.code with | .seq _ (.seq a _) => a | _ => .skip) (.seq (.block 0 (.loop (.seq (match c41.code with | .seq _ (.seq _ (.seq (.block _ (.loop (.seq a _))) _)) => a | _ => .skip) (.block 1 pB)))) (match c41.code with | .seq _ (.seq _ (.seq _ a)) => a | _ => .skip))) := rfl
  rw [hsplit]
  have pb := @pbody_ok ms hg rid
  generalize pB = B at *
  simp -dsimp [c41]
  intro i2 d2
  obtain ⟨nr2, n2r⟩ := rd_ne hh d2
  simp -dsimp
  intro i3 d3
  simp at d3
  obtain ⟨n32, n23, d3⟩ := d3
  obtain ⟨nr3, n3r⟩ := rd_ne hh d3
  simp -dsimp
  generalize hR : programS ms (ms.length + 1) [] s = R at *
  refine ALoop.start (fun k tm h' => ∃ (acc : List Df) (t : St) (v : AV), tm 0 = .ptr rid 0 ∧ tm 2 = .ptr i2 0 ∧ tm 3 = .ptr i3 0 ∧ h' rid = .cells (rdCells ms t) ∧ h' i2 = .cells [.nl] ∧ h' i3 = .cells [v] ∧ Own h h' 71 11 v (acc.map Df.cells) ∧ Fr h h' rid ∧ On ms s t ∧
    programS ms k acc t = R ∧ (t.why = 0 → acc.length ≤ t.at_) ∧ acc.length ≤ t.at_ + 1 ∧ 1 ≤ k ∧ (t.why = 0 → ms.length + 1 ≤ t.at_ + k)) (ms.length + 1)
    ⟨[], s, .nl, by simp, by simp, by simp, by simp [nr2, nr3, hh], by simp [n23], by simp, Own.nil, (Fr.refl.set d2).set d3, On.refl ha, hR, by simp, by simp, by omega, by omega⟩ ?_
  rintro k tm h' ⟨acc, t, v, t0, t2, t3, hr, hi2, hi3, ho, hf, hon, hRR, hac, hac1, hk1, hfu⟩
  obtain ⟨k, rfl⟩ : ∃ q, k = q + 1 := ⟨k - 1, by omega⟩
  have hlt := hon.lt
  have fin : programS ms (k + 1) acc t = (acc, t) → Gives K (some (.agg [v])) (hset h' i2 (.cells [v])) := by
    intro hq
    rw [hq] at hRR
    subst hRR
    refine Gives.frz (h' := hset h rid (.cells (rdCells ms t))) ((hf.set d2).sub (by simp [nr2, hr])) (Frz.cell (a := []) (b := []) (Own.frz (h := h) (rid := rid) (e := 71) (sz := 11) (x := rdCells ms t) (rows := acc.map Df.cells) (ho.setc hi2) (by simp [nr2, hr]))) hK
  have step : t.why = 0 → programS ms (k + 1) acc t = programS ms k (acc ++ [(defS ms acc.length t).1]) (defS ms acc.length t).2 → ∀ tm' : Tm, tm' 0 = .ptr rid 0 → tm' 2 = .ptr i2 0 → tm' 3 = .ptr i3 0 → ∀ tm2 H2 v2, tm2 0 = .ptr rid 0 → tm2 2 = .ptr i2 0 → tm2 3 = .ptr i3 0 → H2 rid = .cells (rdCells ms (defS ms acc.length t).2) → H2 i2 = .cells [.nl] → H2 i3 = .cells [v2] → Own h H2 71 11 v2 ((acc ++ [(defS ms acc.length t).1]).map Df.cells) → Fr h H2 rid →
      (fun (k : Nat) (tm : Tm) (h' : Hp) => ∃ (acc : List Df) (t : St) (v : AV), tm 0 = .ptr rid 0 ∧ tm 2 = .ptr i2 0 ∧ tm 3 = .ptr i3 0 ∧ h' rid = .cells (rdCells ms t) ∧ h' i2 = .cells [.nl] ∧ h' i3 = .cells [v] ∧ Own h h' 71 11 v (acc.map Df.cells) ∧ Fr h h' rid ∧ On ms s t ∧
    programS ms k acc t = R ∧ (t.why = 0 → acc.length ≤ t.at_) ∧ acc.length ≤ t.at_ + 1 ∧ 1 ≤ k ∧ (t.why = 0 → ms.length + 1 ≤ t.at_ + k)) k tm2 H2 := by
    intro hw hq tm' u0 u2 u3 tm2 H2 v2 w0 w2 w3 wr wi2 wi3 wo wf
    have hal := hac hw
    have hdo := def_on hg (n := acc.length) hlt
    have hdg := def_go hg (n := acc.length) hlt
    have hdl := hdo.le
    rw [hq] at hRR
    exact ⟨acc ++ [(defS ms acc.length t).1], (defS ms acc.length t).2, v2, w0, w2, w3, wr, wi2, wi3, wo, wf, hon.trans hdo, hRR, by simp; omega, by simp; omega, by omega, by omega⟩
  by_cases hw : t.why = 0
  · have hal := hac hw
    by_cases hacc : acc = []
    · have hq : programS ms (k + 1) acc t = programS ms k (acc ++ [(defS ms acc.length t).1]) (defS ms acc.length t).2 := by simp [programS, hw, hacc]
      simp -dsimp [c41, t0, t2, t3, hr, hi3, hi2, rdCells, hw, n32, n23, ho.len, hacc]
      refine pb (h := h) (t := t) (v := v) (acc := acc) hlt (by rw [hon.nest]; exact hn) (by omega) (by simp [t0]) (by simp [t2]) (by simp [t3]) hr hi2 hi3 ho hf d3 n2r n3r nr3 n23 ?_
      intro tm2 H2 v2 w0 w2 w3 wr wi2 wi3 wo wf
      exact Again.same k (by omega) (step hw hq _ t0 t2 t3 tm2 H2 v2 w0 w2 w3 wr wi2 wi3 wo wf)
    · have hpos : ¬ acc.length = 0 := fun x => hacc (List.length_eq_zero_iff.1 x)
      simp -dsimp [c41, t0, t2, t3, hr, hi3, hi2, rdCells, hw, n32, n23, ho.len, hacc, hpos]
      refine next_ok (s := t) hr hlt ?_
      by_cases hk4 : (nx ms t).kind = 4
      · have hq : programS ms (k + 1) acc t = (acc, t) := by simp [programS, hw, hacc, hk4]
        simp -dsimp [hk4, t2, t3, hi3, hi2, n32, n23]
        exact fin hq
      · have hq : programS ms (k + 1) acc t = programS ms k (acc ++ [(defS ms acc.length t).1]) (defS ms acc.length t).2 := by simp [programS, hw, hk4]
        simp -dsimp [hk4]
        refine pb (h := h) (t := t) (v := v) (acc := acc) hlt (by rw [hon.nest]; exact hn) (by omega) (by simp [t0]) (by simp [t2]) (by simp [t3]) hr hi2 hi3 ho hf d3 n2r n3r nr3 n23 ?_
        intro tm2 H2 v2 w0 w2 w3 wr wi2 wi3 wo wf
        exact Again.same k (by omega) (step hw hq _ t0 t2 t3 tm2 H2 v2 w0 w2 w3 wr wi2 wi3 wo wf)
  · have hq : programS ms (k + 1) acc t = (acc, t) := by simp [programS, hw]
    simp -dsimp [c41, t0, t2, t3, hr, hi3, hi2, rdCells, hw, n32, n23]
    exact fin hq
end Go.Proofs.YtcpkdbofohkipaaGreat

/- Parse and read. -/
namespace Go.Proofs.YtcpkdbofohkipaaGreat
open Go.AM
variable {h : Hp} {K : AV → Hp → Prop}

theorem wide_ok (hK : K (.agg [.int .i64 32768, .int .i64 32768, .int .i64 32768, .int .i64 32768]) h) : ACalls Tryz.prog 24 [] h K := by
  refine calls_of mixed Tryz.func24 comp24 (Nat.le_of_ble_eq_true rfl) ?_
  simp -dsimp [c24]
  intro id hd
  simp -dsimp
  exact Gives.sub (h' := h) (Sub.drop hd) hK

theorem parse_ok {b : Bytes} {t : AV} (ht : t = .fz (bytesAV b) ∨ (b = [] ∧ t = .nl)) (hK : K (.tup [.agg [rowsAV ((parseS b).1.map Df.cells)], .agg [.int .i64 (parseS b).2.1, .int .i64 (parseS b).2.2]]) h) :
    ACalls Tryz.prog 23 [t, .agg [.int .i64 32768, .int .i64 32768, .int .i64 32768, .int .i64 32768]] h K := by
  refine calls_of mixed Tryz.func23 comp23 (Nat.le_of_ble_eq_true rfl) ?_
  have hlen : ∀ h', aLen .sl t h' = some (.int .i64 b.length) := by
    rcases ht with rfl | ⟨rfl, rfl⟩ <;> intro h' <;> simp
  simp -dsimp [c23]
  intro i3 d3
  simp -dsimp
  intro i4 d4
  simp at d4
  obtain ⟨n43, n34, d4⟩ := d4
  simp -dsimp
  intro i5 d5
  simp at d5
  obtain ⟨n54, n45, n53, n35, d5⟩ := d5
  by_cases hb : 32768 < b.length
  · have hb' : (32768 : Int) < b.length := by omega
    have hp : parseS b = ([], 22, 32768) := by simp only [parseS, if_pos hb]
    rw [hp] at hK
    simp -dsimp [n43, n34, n54, n45, n53, n35, hlen, hb', Stable, AIns.wants, QStep]
    refine Gives.sub (h' := h) (by repeat first | exact Sub.refl _ | refine Sub.put ?_ | refine Sub.dropr ?_ (by simp [*])) ?_
    exact hK
  · have hb' : ¬ (32768 : Int) < b.length := by omega
    simp -dsimp [n43, n34, n54, n45, n53, n35, hlen, hb']
    refine marks_ok ht (by omega) ?_
    cases hm : marksS b (b.length + 1) 0 with
    | inr q =>
      have hp : parseS b = ([], 20, (q : Int)) := by simp only [parseS, if_neg hb, hm]
      rw [hp] at hK
      simp -dsimp [marksAV, n43, n34, n54, n45, n53, n35]
      refine Gives.sub (h' := h) (by repeat first | exact Sub.refl _ | refine Sub.put ?_ | refine Sub.dropr ?_ (by simp [*])) ?_
      exact hK
    | inl ms =>
      have hg := marks_good (by omega) hm
      simp -dsimp [marksAV, n43, n34, n54, n45, n53, n35]
      intro i6 d6
      simp at d6
      obtain ⟨n63, n36, n65, n56, n64, n46, _, _, d6⟩ := d6
      simp -dsimp
      have hpos := hg.pos
      refine program_ok hg (s := ⟨0, 0, 0, 0⟩) hpos (by decide) (by simp [rdCells]) ?_
      generalize hP : programS ms (ms.length + 1) [] ⟨0, 0, 0, 0⟩ = P at *
      simp -dsimp
      intro i9 d9
      simp at d9
      obtain ⟨n96, n69, _, _, rest⟩ := d9
      have n95 : ¬ i9 = i5 := by rintro rfl; simp at rest
      have n94 : ¬ i9 = i4 := by rintro rfl; simp [n45] at rest
      have d9' : h i9 = .dead := by
        repeat (obtain ⟨_, rest⟩ := rest)
        exact rest
      have n59 : ¬ i5 = i9 := fun x => n95 x.symm
      have n49 : ¬ i4 = i9 := fun x => n94 x.symm
      by_cases hw : P.2.why = 0
      · have hp : parseS b = (P.1, 0, 0) := by simp [parseS, hb, hm, hP, hw]
        rw [hp] at hK
        simp -dsimp [n69, n96, rdCells, hw, n43, n34, n54, n45, n53, n35, n63, n36, n65, n56, n64, n46, n95, n59, n94, n49]
        refine Gives.sub (h' := h) ?_ hK
        repeat first | exact Sub.refl _ | refine Sub.dropr ?_ (by assumption)
      · have hp : parseS b = ([], P.2.why, P.2.wh) := by simp [parseS, hb, hm, hP, hw]
        rw [hp] at hK
        simp -dsimp [n69, n96, rdCells, hw, n43, n34, n54, n45, n53, n35, n63, n36, n65, n56, n64, n46, n95, n59, n94, n49, Stable, AIns.wants, QStep]
        refine Gives.sub (h' := h) ?_ hK
        repeat first | exact Sub.refl _ | refine Sub.dropr ?_ (by assumption)

theorem read_ok {b : Bytes} {t : AV} (ht : t = .fz (bytesAV b) ∨ (b = [] ∧ t = .nl)) (hK : K (.tup [.agg [rowsAV ((readS b).1.map Df.cells)], .bool (readS b).2]) h) : ACalls Tryz.prog 9 [t] h K := by
  refine calls_of mixed Tryz.func9 comp9 (Nat.le_of_ble_eq_true rfl) ?_
  simp -dsimp [c9]
  intro i2 d2
  simp -dsimp
  refine wide_ok ?_
  simp -dsimp
  refine parse_ok ht ?_
  simp -dsimp
  intro i4 d4
  simp at d4
  obtain ⟨n42, n24, d4⟩ := d4
  simp -dsimp
  intro i5 d5
  simp at d5
  obtain ⟨n54, n45, n52, n25, d5⟩ := d5
  simp -dsimp [n42, n24, n54, n45, n52, n25, Stable, AIns.wants, QStep]
  refine Gives.sub (h' := h) ?_ hK
  repeat first | exact Sub.refl _ | refine Sub.dropr ?_ (by assumption)
end Go.Proofs.YtcpkdbofohkipaaGreat
