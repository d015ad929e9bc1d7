/- The grammar: units. -/
import Derived.Test.YtcpkdbofohkipaaGreatKhc
set_option linter.unusedVariables false
set_option linter.unusedSimpArgs false
namespace Go.Proofs.YtcpkdbofohkipaaGreat
open Go.AM
variable {ms : List Mk} {k : Nat} {e : St → Ex × St}

theorem unit_ok (hg : Good ms) (he : Reads ms k e) (hc : Ctr Tryz.prog 117 ms k e) : Ctr Tryz.prog 143 ms (k + 1) (unitS ms e) := by
  intro rid s h K ha hk hn hh hK
  refine calls_of mixed Tryz.func143 comp143 (Nat.le_of_ble_eq_true rfl) ?_
  have hl := hg.le
  have hwp : IntKind.i64.wrap ((s.at_ : Int) + 1) = ((s.at_ + 1 : Nat) : Int) := by rw [wrap_i64] <;> omega
  simp -dsimp [c143]
  intro i2 d2
  obtain ⟨r2, q2⟩ := rd_ne hh d2
  simp -dsimp
  refine next_ok (s := s) (by simp [r2, hh]) ha ?_
  simp -dsimp
  intro i3 d3
  simp at d3
  obtain ⟨n32, n23, d3⟩ := d3
  obtain ⟨r3, q3⟩ := rd_ne hh d3
  have subs : ∀ X Y Z W : AObj, Sub (hset h rid X) (hset (hset (hset (hset h i2 Y) i3 Z) rid X) i2 W) := by
    intro X Y Z W
    repeat first | exact Sub.refl _ | refine Sub.put ?_ | refine Sub.dropr ?_ (by simp [*])
  by_cases hw : s.why = 0
  case neg =>
    rw [show unitS ms e s = (ex0, s) by simp [unitS, hw], hset_self hh] at hK
    simp -dsimp [r2, q2, r3, q3, n32, n23, hh, rdCells, hw]
    refine Gives.sub (by repeat first | exact Sub.refl _ | refine Sub.put ?_ | refine Sub.dropr ?_ (by simp [*])) hK
  by_cases k2 : (nx ms s).kind = 2
  · rw [show unitS ms e s = (.mk 1 [] [] 0 (nx ms s).re (nx ms s).im [] (nx ms s).pos, adv s) by simp [unitS, hw, k2]] at hK
    simp -dsimp [-Int.natCast_add, r2, q2, r3, q3, n32, n23, hh, rdCells, hw, k2, hwp]
    refine Gives.sub (subs _ _ _ _) ?_
    simpa [rdCells, adv, hw, Ex.cells, Ex.rows, rowsAV] using hK
  have k2' : ¬ (nx ms s).kind = 2 := k2
  by_cases k0 : (nx ms s).kind = 0
  · rw [show unitS ms e s = namedS ms e (nx ms s) (adv s) by simp [unitS, hw, k0]] at hK
    have ha1 := adv_on hg ha (by rw [k0]; decide)
    simp -dsimp [-Int.natCast_add, r2, q2, r3, q3, n32, n23, hh, rdCells, hw, k0, hwp]
    refine named_ok hg he hc (s := adv s) ha1.lt (by simp [adv]; omega) hn (by simp [rdCells, adv, hw]) ?_
    simp -dsimp [q2, n23, r2]
    refine Gives.sub (by repeat first | exact Sub.refl _ | refine Sub.put ?_ | refine Sub.dropr ?_ (by simp [*])) hK
  simp -dsimp [r2, q2, r3, q3, n32, n23, hh, rdCells, hw, k2, k0]
  refine take_ok (s := s) hg (by simp [r2, r3, hh]) ha ?_
  by_cases hb : isB ms s [40] = true
  · rw [show unitS ms e s = ((e (adv s)).1, wantS ms (e (adv s)).2 [41]) by simp [unitS, hw, k2, k0, hb]] at hK
    have ha1 := isB_on hg ha hb
    have he1 := (he (adv s) ha1.lt (by simp [adv]; omega)).1
    simp -dsimp [hb]
    refine hc (s := adv s) ha1.lt (by simp [adv]; omega) hn (by simp [takeS, hb]) ?_
    simp -dsimp
    intro i4 d4
    simp at d4
    obtain ⟨n4r, nr4, n43, n34, n42, n24, d4⟩ := d4
    simp -dsimp [nr4]
    refine want_ok (s := (e (adv s)).2) hg (by simp [nr4]) he1.lt ?_
    simp -dsimp [q2, n23, r2, n4r, nr4, n43, n34, n42, n24]
    refine Gives.sub (Fr.sub (rid := rid) (by repeat first | exact Fr.refl | refine Fr.own ?_ | refine Fr.set ?_ (by assumption)) (by simp [r2])) hK
  have htk : takeS ms s [40] = s := by simp [takeS, hb]
  by_cases hwd : (nx ms s).kind ≠ 1 ∨ wordS (nx ms s).text = 0
  · rw [show unitS ms e s = (ex0, failS ms s 21) by simp only [unitS, hw, k2, k0, hb]; simp [hwd]] at hK
    rw [htk]
    by_cases k1 : (nx ms s).kind = 1
    · have hwd0 : wordS (nx ms s).text = 0 := by rcases hwd with x | x; exact absurd k1 x; exact x
      simp -dsimp [hb, r2, q2, r3, q3, n32, n23, k1]
      refine word_ok ?_
      simp -dsimp [hwd0]
      refine fail_ok (s := s) (by simp) ha ?_
      simp -dsimp [q2, n23, r2]
      refine Gives.sub (by repeat first | exact Sub.refl _ | refine Sub.put ?_ | refine Sub.dropr ?_ (by simp [*])) hK
    · simp -dsimp [hb, r2, q2, r3, q3, n32, n23, k1]
      refine fail_ok (s := s) (by simp) ha ?_
      simp -dsimp [q2, n23, r2]
      refine Gives.sub (by repeat first | exact Sub.refl _ | refine Sub.put ?_ | refine Sub.dropr ?_ (by simp [*])) hK
  · have k1 : (nx ms s).kind = 1 := Decidable.byContradiction fun x => hwd (.inl x)
    have w0 : ¬ wordS (nx ms s).text = 0 := fun x => hwd (.inr x)
    have ha1 := adv_on hg ha (by rw [k1]; decide)
    have hun : unitS ms e s = (if wordS (nx ms s).text = 5 then (.mk (wordS (nx ms s).text) [] [] (typS ms (adv s)).1 0 0 [] (nx ms s).pos, (typS ms (adv s)).2)
      else if oneArg (wordS (nx ms s).text) = true then
        (.mk (wordS (nx ms s).text) [] [] 0 0 0 [(e (wantS ms (adv s) [40])).1] (nx ms s).pos, wantS ms (e (wantS ms (adv s) [40])).2 [41])
      else (.mk (wordS (nx ms s).text) [] [] 0 0 0 [] (nx ms s).pos, adv s)) := by
      simp only [unitS]; rw [if_neg (by simp [hw]), if_neg k2, if_neg k0, if_neg hb, if_neg hwd]
    rw [hun] at hK
    rw [htk]
    simp -dsimp [hb, r2, q2, r3, q3, n32, n23, k1]
    refine word_ok ?_
    simp -dsimp [-Int.natCast_add, w0, rdCells, hwp, r2, q2, r3, q3, n32, n23]
    refine QCall.intro _ (word_ok ⟨rfl, rfl⟩) ?_
    simp -dsimp [Stable, AIns.wants, r2, q2, r3, q3, n32, n23]
    intro i5 d5
    simp at d5
    obtain ⟨n5r, nr5, n53, n35, n52, n25, d5⟩ := d5
    refine ⟨?_, ?_⟩
    · simp -dsimp [Stable, AIns.wants, QStep, r2, q2, r3, q3, n32, n23, n35, n53, nr5, n5r]
      exact word_ok ⟨rfl, rfl⟩
    simp -dsimp [r2, q2, r3, q3, n32, n23, n35, n53, nr5, n5r, n52, n25]
    generalize hop : wordS (nx ms s).text = op at *
    by_cases o5 : op = 5
    · rw [if_pos o5] at hK
      simp -dsimp [o5, r2, q2, r3, q3, n32, n23, n35, n53, nr5, n5r, n52, n25]
      refine typ_ok (s := adv s) hg (by simp [nr5, rdCells, adv]) ha1.lt ?_
      simp -dsimp [r2, q2, r3, q3, n32, n23, n35, n53, nr5, n5r, n52, n25]
      refine Gives.sub (h' := hset h rid (.cells (rdCells ms (typS ms (adv s)).2))) (Fr.sub (rid := rid) (by repeat first | exact Fr.refl | refine Fr.own ?_ | refine Fr.set ?_ (by assumption)) (by simp [r2, nr5])) ?_
      simpa [Ex.cells, Ex.rows, rowsAV, o5] using hK
    · rw [if_neg o5] at hK
      have he1 := want_on hg (t := [40]) ha1.lt
      have he2 := (he _ he1.lt (by have := he1.le; rw [adv_at] at this; omega)).1
      have arm : oneArg op = true → K (.agg (Ex.cells (.mk op [] [] 0 0 0 [(e (wantS ms (adv s) [40])).1] (nx ms s).pos))) (hset h rid (.cells (rdCells ms (wantS ms (e (wantS ms (adv s) [40])).2 [41])))) := by
        intro ho; rw [if_pos ho] at hK; exact hK
      by_cases o14 : op = 14
      · have hK' := arm (by simp [oneArg, o14])
        simp -dsimp [o5, o14]
        refine want_ok (s := adv s) hg (by simp [nr5, rdCells, adv]) ha1.lt ?_
        simp -dsimp
        refine hc (s := wantS ms (adv s) [40]) he1.lt (by have := he1.le; rw [adv_at] at this; omega) (by rw [he1.nest]; exact hn) (by simp) ?_
        simp -dsimp
        intro i6 d6
        simp at d6
        obtain ⟨n6r, nr6, n65, n56, _, _, n63, n36, n62, n26, d6⟩ := d6
        simp -dsimp [n6r, nr6, r2, q2, r3, q3, nr5, n5r]
        refine want_ok (s := (e (wantS ms (adv s) [40])).2) hg (by simp [nr6]) he2.lt ?_
        simp -dsimp [n6r, nr6, r2, q2, r3, q3, nr5, n5r]
        intro i7 d7
        simp at d7
        obtain ⟨n7r, nr7, n76, n67, _, _, n75, n57, _, _, n73, n37, n72, n27, d7⟩ := d7
        simp -dsimp [n6r, nr6, n65, n56, n62, n26, n63, n36, n7r, nr7, n76, n67, n75, n57, n73, n37, n72, n27, r2, q2, r3, q3, n32, n23, n35, n53, nr5, n5r, n52, n25]
        refine Gives.frz (h' := hset h rid (.cells (rdCells ms (wantS ms (e (wantS ms (adv s) [40])).2 [41])))) (Fr.sub (rid := rid) (by repeat first | exact Fr.refl | refine Fr.own ?_ | refine Fr.set ?_ (by assumption)) (by simp [r2, nr5, nr6, nr7]))
          (Frz.cell (a := [.int .i64 14, .str [], .str [], .int .i64 0, .cplx 0 0]) (b := [.int .i64 (nx ms s).pos]) (Frz.rows (id := i7) (e := 69) (sz := 7) (xs := [(e (wantS ms (adv s) [40])).1.cells]) ?_ ?_)) ?_
        · simp [n7r, n75, n72, n76]
        · simp [n7r, d7]
        simpa [Ex.cells, Ex.rows, rowsAV, o14] using hK'
      by_cases o15 : op = 15
      · have hK' := arm (by simp [oneArg, o15])
        simp -dsimp [o5, o14, o15]
        refine want_ok (s := adv s) hg (by simp [nr5, rdCells, adv]) ha1.lt ?_
        simp -dsimp
        refine hc (s := wantS ms (adv s) [40]) he1.lt (by have := he1.le; rw [adv_at] at this; omega) (by rw [he1.nest]; exact hn) (by simp) ?_
        simp -dsimp
        intro i6 d6
        simp at d6
        obtain ⟨n6r, nr6, n65, n56, _, _, n63, n36, n62, n26, d6⟩ := d6
        simp -dsimp [n6r, nr6, r2, q2, r3, q3, nr5, n5r]
        refine want_ok (s := (e (wantS ms (adv s) [40])).2) hg (by simp [nr6]) he2.lt ?_
        simp -dsimp [n6r, nr6, r2, q2, r3, q3, nr5, n5r]
        intro i7 d7
        simp at d7
        obtain ⟨n7r, nr7, n76, n67, _, _, n75, n57, _, _, n73, n37, n72, n27, d7⟩ := d7
        simp -dsimp [n6r, nr6, n65, n56, n62, n26, n63, n36, n7r, nr7, n76, n67, n75, n57, n73, n37, n72, n27, r2, q2, r3, q3, n32, n23, n35, n53, nr5, n5r, n52, n25]
        refine Gives.frz (h' := hset h rid (.cells (rdCells ms (wantS ms (e (wantS ms (adv s) [40])).2 [41])))) (Fr.sub (rid := rid) (by repeat first | exact Fr.refl | refine Fr.own ?_ | refine Fr.set ?_ (by assumption)) (by simp [r2, nr5, nr6, nr7]))
          (Frz.cell (a := [.int .i64 15, .str [], .str [], .int .i64 0, .cplx 0 0]) (b := [.int .i64 (nx ms s).pos]) (Frz.rows (id := i7) (e := 69) (sz := 7) (xs := [(e (wantS ms (adv s) [40])).1.cells]) ?_ ?_)) ?_
        · simp [n7r, n75, n72, n76]
        · simp [n7r, d7]
        simpa [Ex.cells, Ex.rows, rowsAV, o15] using hK'
      by_cases o16 : op = 16
      · have hK' := arm (by simp [oneArg, o16])
        simp -dsimp [o5, o14, o15, o16]
        refine want_ok (s := adv s) hg (by simp [nr5, rdCells, adv]) ha1.lt ?_
        simp -dsimp
        refine hc (s := wantS ms (adv s) [40]) he1.lt (by have := he1.le; rw [adv_at] at this; omega) (by rw [he1.nest]; exact hn) (by simp) ?_
        simp -dsimp
        intro i6 d6
        simp at d6
        obtain ⟨n6r, nr6, n65, n56, _, _, n63, n36, n62, n26, d6⟩ := d6
        simp -dsimp [n6r, nr6, r2, q2, r3, q3, nr5, n5r]
        refine want_ok (s := (e (wantS ms (adv s) [40])).2) hg (by simp [nr6]) he2.lt ?_
        simp -dsimp [n6r, nr6, r2, q2, r3, q3, nr5, n5r]
        intro i7 d7
        simp at d7
        obtain ⟨n7r, nr7, n76, n67, _, _, n75, n57, _, _, n73, n37, n72, n27, d7⟩ := d7
        simp -dsimp [n6r, nr6, n65, n56, n62, n26, n63, n36, n7r, nr7, n76, n67, n75, n57, n73, n37, n72, n27, r2, q2, r3, q3, n32, n23, n35, n53, nr5, n5r, n52, n25]
        refine Gives.frz (h' := hset h rid (.cells (rdCells ms (wantS ms (e (wantS ms (adv s) [40])).2 [41])))) (Fr.sub (rid := rid) (by repeat first | exact Fr.refl | refine Fr.own ?_ | refine Fr.set ?_ (by assumption)) (by simp [r2, nr5, nr6, nr7]))
          (Frz.cell (a := [.int .i64 16, .str [], .str [], .int .i64 0, .cplx 0 0]) (b := [.int .i64 (nx ms s).pos]) (Frz.rows (id := i7) (e := 69) (sz := 7) (xs := [(e (wantS ms (adv s) [40])).1.cells]) ?_ ?_)) ?_
        · simp [n7r, n75, n72, n76]
        · simp [n7r, d7]
        simpa [Ex.cells, Ex.rows, rowsAV, o16] using hK'
      by_cases o17 : op = 17
      · have hK' := arm (by simp [oneArg, o17])
        simp -dsimp [o5, o14, o15, o16, o17]
        refine want_ok (s := adv s) hg (by simp [nr5, rdCells, adv]) ha1.lt ?_
        simp -dsimp
        refine hc (s := wantS ms (adv s) [40]) he1.lt (by have := he1.le; rw [adv_at] at this; omega) (by rw [he1.nest]; exact hn) (by simp) ?_
        simp -dsimp
        intro i6 d6
        simp at d6
        obtain ⟨n6r, nr6, n65, n56, _, _, n63, n36, n62, n26, d6⟩ := d6
        simp -dsimp [n6r, nr6, r2, q2, r3, q3, nr5, n5r]
        refine want_ok (s := (e (wantS ms (adv s) [40])).2) hg (by simp [nr6]) he2.lt ?_
        simp -dsimp [n6r, nr6, r2, q2, r3, q3, nr5, n5r]
        intro i7 d7
        simp at d7
        obtain ⟨n7r, nr7, n76, n67, _, _, n75, n57, _, _, n73, n37, n72, n27, d7⟩ := d7
        simp -dsimp [n6r, nr6, n65, n56, n62, n26, n63, n36, n7r, nr7, n76, n67, n75, n57, n73, n37, n72, n27, r2, q2, r3, q3, n32, n23, n35, n53, nr5, n5r, n52, n25]
        refine Gives.frz (h' := hset h rid (.cells (rdCells ms (wantS ms (e (wantS ms (adv s) [40])).2 [41])))) (Fr.sub (rid := rid) (by repeat first | exact Fr.refl | refine Fr.own ?_ | refine Fr.set ?_ (by assumption)) (by simp [r2, nr5, nr6, nr7]))
          (Frz.cell (a := [.int .i64 17, .str [], .str [], .int .i64 0, .cplx 0 0]) (b := [.int .i64 (nx ms s).pos]) (Frz.rows (id := i7) (e := 69) (sz := 7) (xs := [(e (wantS ms (adv s) [40])).1.cells]) ?_ ?_)) ?_
        · simp [n7r, n75, n72, n76]
        · simp [n7r, d7]
        simpa [Ex.cells, Ex.rows, rowsAV, o17] using hK'
      simp -dsimp [o5, o14, o15, o16, o17]
      rw [if_neg (by simp [oneArg, o14, o15, o16, o17])] at hK
      simp -dsimp [r2, q2, r3, q3, n32, n23, n35, n53, nr5, n5r, n52, n25]
      refine Gives.sub (h' := hset h rid (.cells (rdCells ms (adv s)))) (Fr.sub (rid := rid) (by repeat first | exact Fr.refl | refine Fr.own ?_ | refine Fr.set ?_ (by assumption)) (by simp [r2, nr5, rdCells, adv])) ?_
      simpa [Ex.cells, Ex.rows, rowsAV] using hK

end Go.Proofs.YtcpkdbofohkipaaGreat
