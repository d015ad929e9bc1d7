/- The reader's first rules: next, fail, is, take, want, name, typ. -/
import Derived.Test.YtcpkdbofohkipaaGreatKc
import Derived.Test.YtcpkdbofohkipaaGreatKm
set_option linter.unusedVariables false
set_option linter.unusedSimpArgs false
namespace Go.Proofs.YtcpkdbofohkipaaGreat
open Go.AM
variable {h : Hp} {rid : Nat} {ms : List Mk} {s : St} {K : AV → Hp → Prop}

theorem next_ok (hh : h rid = .cells (rdCells ms s)) (ha : s.at_ < ms.length) (hK : K (.agg (nx ms s).cells) h) : ACalls Tryz.prog 79 [.ptr rid 0] h K := by
  refine calls_of mixed Tryz.func79 comp79 (Nat.le_of_ble_eq_true rfl) ?_
  simp -dsimp [c79]
  intro id hd
  obtain ⟨hne, hne1⟩ := rd_ne hh hd
  simp -dsimp [hne, hh, rdCells, nx_some ha]
  exact Gives.sub (Sub.drop hd) hK

theorem fail_ok {w : Int} (hh : h rid = .cells (rdCells ms s)) (ha : s.at_ < ms.length) (hK : K (.tup []) (hset h rid (.cells (rdCells ms (failS ms s w))))) : ACalls Tryz.prog 112 [.ptr rid 0, .int .i64 w] h K := by
  refine calls_of mixed Tryz.func112 comp112 (Nat.le_of_ble_eq_true rfl) ?_
  by_cases hw : s.why = 0
  · simp [c112, hh, rdCells, hw]
    refine next_ok (s := { s with why := w }) (by simp [rdCells]) ha ?_
    simp -dsimp [Mk.cells, rdCells]
    refine Gives.same ?_
    simpa [failS, hw, rdCells, nx] using hK
  · simp [c112, hh, rdCells, hw]
    refine Gives.same ?_
    rw [show failS ms s w = s by simp [failS, hw], hset_self hh] at hK
    exact hK

theorem is_ok {t : Bytes} (hh : h rid = .cells (rdCells ms s)) (ha : s.at_ < ms.length) (hK : K (.bool (isB ms s t)) h) : ACalls Tryz.prog 115 [.ptr rid 0, .str t] h K := by
  refine calls_of mixed Tryz.func115 comp115 (Nat.le_of_ble_eq_true rfl) ?_
  simp -dsimp [c115]
  refine next_ok hh ha ?_
  simp -dsimp
  intro id hd
  obtain ⟨hne, hne1⟩ := rd_ne hh hd
  simp -dsimp [hne, hh, rdCells, Mk.cells]
  by_cases h1 : s.why = 0
  · by_cases h2 : (nx ms s).kind = 1
    · simp -dsimp [h1, h2, isB] at hK ⊢
      exact Gives.sub (Sub.drop hd) hK
    · by_cases h3 : (nx ms s).kind = 3
      · simp -dsimp [h1, h2, h3, isB] at hK ⊢
        exact Gives.sub (Sub.drop hd) hK
      · simp -dsimp [h1, h2, h3, isB] at hK ⊢
        exact Gives.sub (Sub.drop hd) hK
  · simp -dsimp [h1, isB] at hK ⊢
    exact Gives.sub (Sub.drop hd) hK

theorem take_ok {t : Bytes} (hg : Good ms) (hh : h rid = .cells (rdCells ms s)) (ha : s.at_ < ms.length) (hK : K (.bool (isB ms s t)) (hset h rid (.cells (rdCells ms (takeS ms s t))))) : ACalls Tryz.prog 129 [.ptr rid 0, .str t] h K := by
  refine calls_of mixed Tryz.func129 comp129 (Nat.le_of_ble_eq_true rfl) ?_
  simp -dsimp [c129]
  refine is_ok hh ha ?_
  have hl := hg.le
  have hw : IntKind.i64.wrap (↑s.at_ + 1) = ↑s.at_ + 1 := wrap_i64 (by omega) (by omega)
  by_cases hb : isB ms s t = true
  · simp [hb, hh, rdCells, hw]
    refine Gives.same ?_
    simpa [takeS, hb, adv, rdCells] using hK
  · simp [hb]
    refine Gives.same ?_
    rw [show takeS ms s t = s by simp [takeS, hb], hset_self hh] at hK
    simpa [hb] using hK

theorem want_ok {t : Bytes} (hg : Good ms) (hh : h rid = .cells (rdCells ms s)) (ha : s.at_ < ms.length) (hK : K (.tup []) (hset h rid (.cells (rdCells ms (wantS ms s t))))) : ACalls Tryz.prog 114 [.ptr rid 0, .str t] h K := by
  refine calls_of mixed Tryz.func114 comp114 (Nat.le_of_ble_eq_true rfl) ?_
  simp -dsimp [c114]
  refine take_ok hg hh ha ?_
  by_cases hb : isB ms s t = true
  · simp [hb]
    refine Gives.same ?_
    simpa [takeS, wantS, hb] using hK
  · simp [hb, takeS]
    refine fail_ok (s := s) (by simp) ha ?_
    simp -dsimp
    refine Gives.same ?_
    simpa [wantS, hb] using hK

theorem name_ok (hg : Good ms) (hh : h rid = .cells (rdCells ms s)) (ha : s.at_ < ms.length) (hK : K (.agg (nameS ms s).1.cells) (hset h rid (.cells (rdCells ms (nameS ms s).2)))) : ACalls Tryz.prog 113 [.ptr rid 0] h K := by
  refine calls_of mixed Tryz.func113 comp113 (Nat.le_of_ble_eq_true rfl) ?_
  simp -dsimp [c113]
  intro id hd
  obtain ⟨hne, hne1⟩ := rd_ne hh hd
  simp -dsimp
  refine next_ok (s := s) (by simp [hne, hh]) ha ?_
  simp -dsimp
  intro id2 hd2
  simp at hd2
  obtain ⟨hne2, hne3⟩ := rd_ne hh hd2.2.2
  have hl := hg.le
  have hw : IntKind.i64.wrap (↑s.at_ + 1) = ↑s.at_ + 1 := wrap_i64 (by omega) (by omega)
  have n12 := hd2.1
  have n21 := hd2.2.1
  by_cases h1 : s.why = 0
  · by_cases h2 : (nx ms s).kind = 0
    · simp -dsimp [hne, hne2, hh, rdCells, Mk.cells, h1, h2, n12, n21, hw, hne3, hne1]
      rw [show nameS ms s = (nx ms s, adv s) by simp [nameS, h1, h2]] at hK
      simp only [adv, rdCells, Mk.cells, h1, h2] at hK
      refine Gives.sub (by repeat first | exact Sub.refl _ | refine Sub.put ?_ | refine Sub.dropr ?_ (by simp [*])) hK
    · simp -dsimp [hne, hne2, hh, rdCells, Mk.cells, h1, h2, n12, n21]
      rw [show nameS ms s = (mk0, failS ms s 21) by simp [nameS, h1, h2]] at hK
      refine fail_ok (s := s) (by simp [hne, hne2, hh]) ha ?_
      simp -dsimp [hne, hne1, n12, n21]
      refine Gives.sub (by repeat first | exact Sub.refl _ | refine Sub.put ?_ | refine Sub.dropr ?_ (by simp [*])) hK
  · simp -dsimp [hne, hne2, hh, rdCells, Mk.cells, h1, n12, n21]
    rw [show nameS ms s = (mk0, failS ms s 21) by simp [nameS, h1]] at hK
    refine fail_ok (s := s) (by simp [hne, hne2, hh]) ha ?_
    simp -dsimp [hne, hne1, n12, n21]
    refine Gives.sub (by repeat first | exact Sub.refl _ | refine Sub.put ?_ | refine Sub.dropr ?_ (by simp [*])) hK

theorem typ_ok (hg : Good ms) (hh : h rid = .cells (rdCells ms s)) (ha : s.at_ < ms.length) (hK : K (.int .i64 (typS ms s).1) (hset h rid (.cells (rdCells ms (typS ms s).2)))) : ACalls Tryz.prog 116 [.ptr rid 0] h K := by
  refine calls_of mixed Tryz.func116 comp116 (Nat.le_of_ble_eq_true rfl) ?_
  simp -dsimp [c116]
  intro id hd
  obtain ⟨hne, hne1⟩ := rd_ne hh hd
  simp -dsimp
  refine ALoop.start (fun n tm h' => ∃ i : Nat, i + n = 4 ∧ tm 0 = .ptr rid 0 ∧ tm 3 = .sl id 0 3 ∧ tm 4 = .int .i64 i ∧ h' = hset h id (.arr 9 1 [[.str [78]], [.str [66]], [.str [76]]]) ∧
    (i ≤ 3) ∧ (1 ≤ i → isB ms s [78] = false) ∧ (2 ≤ i → isB ms s [66] = false) ∧ (3 ≤ i → isB ms s [76] = false)) 4 ⟨0, by simp⟩ ?_
  rintro n tm h' ⟨i, hi, t0, t3, t4, rfl, hi3, h1, h2, h3⟩
  rcases (show i = 0 ∨ i = 1 ∨ i = 2 ∨ i = 3 by omega) with rfl | rfl | rfl | rfl
  · simp -dsimp [t0, t3, t4]
    refine take_ok (s := s) hg (by simp [hne, hh]) ha ?_
    by_cases hb : isB ms s [78] = true
    · simp -dsimp [hb, t0, t3, t4]
      rw [show typS ms s = (1, adv s) by simp [typS, hb]] at hK
      simp only [takeS, hb, if_true]
      exact Gives.sub (by repeat first | exact Sub.refl _ | refine Sub.put ?_ | refine Sub.dropr ?_ (by simp [*])) hK
    · simp -dsimp [hb, t0, t3, t4, takeS]
      exact Again.same (m := 3) (by omega) ⟨1, by simp [*, hset_self]⟩
  · simp -dsimp [t0, t3, t4]
    refine take_ok (s := s) hg (by simp [hne, hh]) ha ?_
    have hb0 := h1 (by omega)
    by_cases hb : isB ms s [66] = true
    · simp -dsimp [hb, t0, t3, t4]
      rw [show typS ms s = (2, adv s) by simp [typS, hb, hb0]] at hK
      simp only [takeS, hb, if_true]
      exact Gives.sub (by repeat first | exact Sub.refl _ | refine Sub.put ?_ | refine Sub.dropr ?_ (by simp [*])) hK
    · simp -dsimp [hb, t0, t3, t4, takeS]
      exact Again.same (m := 2) (by omega) ⟨2, by simp [*, hset_self]⟩
  · simp -dsimp [t0, t3, t4]
    refine take_ok (s := s) hg (by simp [hne, hh]) ha ?_
    have hb0 := h1 (by omega)
    have hb1 := h2 (by omega)
    by_cases hb : isB ms s [76] = true
    · simp -dsimp [hb, t0, t3, t4]
      rw [show typS ms s = (3, adv s) by simp [typS, hb, hb0, hb1]] at hK
      simp only [takeS, hb, if_true]
      exact Gives.sub (by repeat first | exact Sub.refl _ | refine Sub.put ?_ | refine Sub.dropr ?_ (by simp [*])) hK
    · simp -dsimp [hb, t0, t3, t4, takeS]
      exact Again.same (m := 1) (by omega) ⟨3, by simp [*, hset_self]⟩
  · simp -dsimp [t0, t3, t4]
    have hb0 := h1 (by omega)
    have hb1 := h2 (by omega)
    have hb2 := h3 (by omega)
    refine fail_ok (s := s) (by simp [hne, hh]) ha ?_
    simp -dsimp
    rw [show typS ms s = (0, failS ms s 21) by simp [typS, hb0, hb1, hb2]] at hK
    exact Gives.sub (by repeat first | exact Sub.refl _ | refine Sub.put ?_ | refine Sub.dropr ?_ (by simp [*])) hK

end Go.Proofs.YtcpkdbofohkipaaGreat

/- The marks' first functions: bytes, runs, signs. -/
namespace Go.Proofs.YtcpkdbofohkipaaGreat
open Go.AM
variable {h : Hp} {K : AV → Hp → Prop}

theorem digit_ok {c : UInt8} (hK : K (.bool (digitB c)) h) : ACalls Tryz.prog 107 [.int .u8 c.toNat] h K := by
  refine calls_of mixed Tryz.func107 comp107 (Nat.le_of_ble_eq_true rfl) ?_
  by_cases h1 : (48 : Int) ≤ c.toNat <;> by_cases h2 : (c.toNat : Int) ≤ 57 <;> simp -dsimp [c107, h1, h2] <;>
    exact Gives.same (by simpa [digitB, h1, h2] using hK)

theorem letter_ok {c : UInt8} (hK : K (.bool (letterB c)) h) : ACalls Tryz.prog 125 [.int .u8 c.toNat] h K := by
  refine calls_of mixed Tryz.func125 comp125 (Nat.le_of_ble_eq_true rfl) ?_
  by_cases h1 : (65 : Int) ≤ c.toNat <;> by_cases h2 : (c.toNat : Int) ≤ 90 <;> by_cases h3 : (97 : Int) ≤ c.toNat <;> by_cases h4 : (c.toNat : Int) ≤ 122 <;> simp -dsimp [c125, h1, h2, h3, h4] <;>
    exact Gives.same (by simpa [letterB, h1, h2, h3, h4] using hK)

theorem blank_ok {c : UInt8} (hK : K (.bool (blankB c)) h) : ACalls Tryz.prog 77 [.int .u8 c.toNat] h K := by
  refine calls_of mixed Tryz.func77 comp77 (Nat.le_of_ble_eq_true rfl) ?_
  by_cases h1 : (c.toNat : Int) = 9
  · simp -dsimp [c77, h1]
    exact Gives.same (by simpa [blankB, h1] using hK)
  by_cases h2 : (c.toNat : Int) = 10
  · simp -dsimp [c77, h2]
    exact Gives.same (by simpa [blankB, h2] using hK)
  by_cases h3 : (c.toNat : Int) = 13
  · simp -dsimp [c77, h3]
    exact Gives.same (by simpa [blankB, h3] using hK)
  by_cases h4 : (c.toNat : Int) = 32
  · simp -dsimp [c77, h4]
    exact Gives.same (by simpa [blankB, h4] using hK)
  simp -dsimp [c77, h1, h2, h3, h4]
  exact Gives.same (by simpa [blankB, h1, h2, h3, h4] using hK)

theorem run_ok {b : Bytes} {p : Nat} (hb : b.length ≤ 40000) (hp : p ≤ b.length) (hK : K (.int .i64 (wRun b p)) h) : ACalls Tryz.prog 106 [.fz (bytesAV b), .int .i64 p] h K := by
  refine calls_of mixed Tryz.func106 comp106 (Nat.le_of_ble_eq_true rfl) ?_
  simp -dsimp [c106]
  have hle := wRun_le b hp
  refine ALoop.start (fun n tm h' => ∃ i : Nat, i + n = wRun b p ∧ tm 0 = .fz (bytesAV b) ∧ tm 1 = .int .i64 p ∧ tm 5 = .int .i64 i ∧ h' = h) (wRun b p) ⟨0, by simp⟩ ?_
  rintro n tm h' ⟨i, hi, t0, t1, t5, rfl⟩
  have hw : IntKind.i64.wrap (↑p + ↑i) = ((p + i : Nat) : Int) := by rw [wrap_i64] <;> omega
  have hw1 : IntKind.i64.wrap (↑i + 1) = ((i + 1 : Nat) : Int) := by rw [wrap_i64] <;> omega
  by_cases hl : p + i < b.length
  · have hl' : (p : Int) + i < b.length := by omega
    simp -dsimp [-Int.natCast_add, t0, t1, t5, hw, hl, bytesAV_at hl]
    refine letter_ok ?_
    have hcase : wordB (byteAt b (p + i)) = true → i < wRun b p := by
      intro hwb
      rcases Nat.lt_or_ge i (wRun b p) with h | h
      · exact h
      · have : i = wRun b p := by omega
        subst this
        have := wRun_out hl
        rw [this] at hwb
        cases hwb
    have hcase2 : wordB (byteAt b (p + i)) = false → i = wRun b p := by
      intro hwb
      rcases Nat.lt_or_ge i (wRun b p) with h | h
      · have := (wRun_in h).2
        rw [this] at hwb
        cases hwb
      · omega
    cases hlt : letterB (byteAt b (p + i))
    · simp -dsimp [-Int.natCast_add, t0, t1, t5, hw, hl, bytesAV_at hl]
      refine digit_ok ?_
      cases hdg : digitB (byteAt b (p + i))
      · by_cases h95 : ((byteAt b (p + i)).toNat : Int) = 95
        · have := hcase (by simp [wordB, hlt, hdg, h95])
          simp -dsimp [-Int.natCast_add, t0, t1, t5, hw, hw1, hl, bytesAV_at hl, h95]
          exact Again.same (m := n - 1) (by omega) ⟨i + 1, by omega, by simp [*]⟩
        · have := hcase2 (by simp [wordB, hlt, hdg, h95])
          simp -dsimp [-Int.natCast_add, t0, t1, t5, hw, hl, bytesAV_at hl, h95]
          exact Gives.same (by rw [this]; exact hK)
      · have := hcase (by simp [wordB, hdg])
        simp -dsimp [-Int.natCast_add, t0, t1, t5, hw, hw1, hl]
        exact Again.same (m := n - 1) (by omega) ⟨i + 1, by omega, by simp [*]⟩
    · have := hcase (by simp [wordB, hlt])
      simp -dsimp [-Int.natCast_add, t0, t1, t5, hw, hw1, hl]
      exact Again.same (m := n - 1) (by omega) ⟨i + 1, by omega, by simp [*]⟩
  · have : i = wRun b p := by omega
    simp -dsimp [-Int.natCast_add, t0, t1, t5, hw, hl]
    exact Gives.same (by rw [this]; exact hK)
end Go.Proofs.YtcpkdbofohkipaaGreat

/- The numbers of the document's answer. -/
namespace Go.Proofs.YtcpkdbofohkipaaGreat
open Go.AM
variable {h : Hp} {K : AV → Hp → Prop}

theorem in_ok {re im : Int} (hK : K (.tup [.agg [.int .i64 (inS re im).1.1, .int .i64 (inS re im).1.2], .int .i64 (inS re im).2]) h) : ACalls Tryz.prog 127 [.agg [.int .i64 re, .int .i64 im]] h K := by
  refine calls_of mixed Tryz.func127 comp127 (Nat.le_of_ble_eq_true rfl) ?_
  simp -dsimp [c127]
  intro id hd
  simp -dsimp
  intro id2 hd2
  simp at hd2
  obtain ⟨n1, n2, hd2⟩ := hd2
  by_cases h1 : re < -16777216
  · simp -dsimp [h1, n1, n2]
    refine Gives.sub (h' := h) (by repeat first | exact Sub.refl _ | refine Sub.put ?_ | refine Sub.dropr ?_ (by simp [*])) ?_
    simpa [inS, h1] using hK
  by_cases h2 : 16777216 < re
  · simp -dsimp [h1, h2, n1, n2]
    refine Gives.sub (h' := h) (by repeat first | exact Sub.refl _ | refine Sub.put ?_ | refine Sub.dropr ?_ (by simp [*])) ?_
    simpa [inS, h1, h2] using hK
  by_cases h3 : im < -16777216
  · simp -dsimp [h1, h2, h3, n1, n2]
    refine Gives.sub (h' := h) (by repeat first | exact Sub.refl _ | refine Sub.put ?_ | refine Sub.dropr ?_ (by simp [*])) ?_
    simpa [inS, h1, h2, h3] using hK
  by_cases h4 : 16777216 < im
  · simp -dsimp [h1, h2, h3, h4, n1, n2]
    refine Gives.sub (h' := h) (by repeat first | exact Sub.refl _ | refine Sub.put ?_ | refine Sub.dropr ?_ (by simp [*])) ?_
    simpa [inS, h1, h2, h3, h4] using hK
  simp -dsimp [h1, h2, h3, h4, n1, n2]
  refine Gives.sub (h' := h) (by repeat first | exact Sub.refl _ | refine Sub.put ?_ | refine Sub.dropr ?_ (by simp [*])) ?_
  simpa [inS, h1, h2, h3, h4] using hK

theorem digits_nat : ∀ (k n : Nat), k ≤ 20 → 0 < k → n < 10 ^ k → n ≤ 1000000000 → ∀ {h : Hp} {K : AV → Hp → Prop}, K (.str (digS k n)) h → ACalls Tryz.prog 105 [.int .i64 n] h K
  | 0, n, _, h0, _, _, _, _, _ => by omega
  | k + 1, n, hk, _, hlt, hn, h, K, hK => by
    refine calls_of mixed Tryz.func105 comp105 (Nat.le_of_ble_eq_true rfl) ?_
    have hm : (n : Int).tmod 10 = ((n % 10 : Nat) : Int) := by rw [Int.tmod_eq_emod_of_nonneg (by omega)]; omega
    have hd : (n : Int).tdiv 10 = ((n / 10 : Nat) : Int) := by rw [Int.tdiv_eq_ediv_of_nonneg (by omega)]; omega
    have hw : IntKind.i64.wrap (48 + ((n % 10 : Nat) : Int)) = ((48 + n % 10 : Nat) : Int) := by rw [wrap_i64] <;> omega
    have hw2 : IntKind.u8.wrap ((48 + n % 10 : Nat) : Int) = ((48 + n % 10 : Nat) : Int) := by simp [IntKind.wrap, IntKind.bits, IntKind.signed]; omega
    have hw3 : IntKind.i64.wrap ((n / 10 : Nat) : Int) = ((n / 10 : Nat) : Int) := by rw [wrap_i64] <;> omega
    have hnn : ¬ (n : Int) < 0 := by omega
    have hln := digS_len k (n / 10)
    have hl2 : (digS k (n / 10)).length + 1 ≤ 4611686018427387904 := by omega
    simp -dsimp [c105, -Int.natCast_add, -Int.natCast_emod, -Int.natCast_ediv, hm, hd, hw, hw2, hw3, hnn]
    intro id hdd
    by_cases h10 : 10 ≤ n
    · have h10' : (10 : Int) ≤ n := by omega
      simp -dsimp [-Int.natCast_add, -Int.natCast_emod, -Int.natCast_ediv, hm, hd, hw, hw2, hw3, h10']
      have hk0 : 0 < k := by
        rcases Nat.eq_zero_or_pos k with e | e
        · subst e; simp at hlt; omega
        · exact e
      refine digits_nat k (n / 10) (by omega) hk0 (by rw [Nat.pow_succ] at hlt; omega) (by omega) ?_
      simp -dsimp [-Int.natCast_add, -Int.natCast_emod, -Int.natCast_ediv, hl2]
      refine Gives.sub (h' := h) (Sub.drop hdd) ?_
      simpa [digS, h10] using hK
    · have h10' : ¬ (10 : Int) ≤ n := by omega
      simp -dsimp [-Int.natCast_add, -Int.natCast_emod, -Int.natCast_ediv, hm, hd, hw, hw2, hw3, h10']
      refine Gives.sub (h' := h) (Sub.drop hdd) ?_
      simpa [digS, h10] using hK

theorem digits_ok {n : Int} (h1 : -100000000 ≤ n) (h2 : n ≤ 100000000) (hK : K (.str (digI n)) h) : ACalls Tryz.prog 105 [.int .i64 n] h K := by
  by_cases hn : n < 0
  · refine calls_of mixed Tryz.func105 comp105 (Nat.le_of_ble_eq_true rfl) ?_
    have hw : IntKind.i64.wrap (0 - n) = ((n.natAbs : Nat) : Int) := by rw [wrap_i64] <;> omega
    simp -dsimp [c105, hn, -Int.zero_sub, hw]
    refine digits_nat 10 n.natAbs (by omega) (by omega) (by omega) (by omega) ?_
    have hl := digS_len 10 n.natAbs
    have hl2 : 1 + (digS 10 n.natAbs).length ≤ 4611686018427387904 := by omega
    simp -dsimp [hl2]
    exact Gives.same (by simpa [digI, hn] using hK)
  · have e : n = ((n.natAbs : Nat) : Int) := by omega
    rw [e]
    refine digits_nat 10 n.natAbs (by omega) (by omega) (by omega) (by omega) ?_
    simpa [digI, hn] using hK

theorem text_ok {re im : Int} (h1 : -100000000 ≤ re) (h2 : re ≤ 100000000) (h3 : -100000000 ≤ im) (h4 : im ≤ 100000000) (hK : K (.str (textS re im)) h) : ACalls Tryz.prog 74 [.agg [.int .i64 re, .int .i64 im]] h K := by
  refine calls_of mixed Tryz.func74 comp74 (Nat.le_of_ble_eq_true rfl) ?_
  simp -dsimp [c74]
  intro id hd
  have l1 := digI_len re
  have l2 := digI_len im
  have a1 : (digI im).length + 1 ≤ 4611686018427387904 := by omega
  have a2 : (digI re).length + 1 ≤ 4611686018427387904 := by omega
  have a3 : (digI re).length + (digI im).length ≤ 4611686018427387904 := by omega
  have a4 : (digI re).length + (digI im).length + 1 ≤ 4611686018427387904 := by omega
  have a5 : (digI re).length + 1 + (digI im).length ≤ 4611686018427387904 := by omega
  have a6 : (digI re).length + 1 + (digI im).length + 1 ≤ 4611686018427387904 := by omega
  have a7 : (digI re).length + ((digI im).length + 1) ≤ 4611686018427387903 := by omega
  have a8 : (digI re).length + ((digI im).length + 1) ≤ 4611686018427387904 := by omega
  by_cases e1 : im = 0
  · simp -dsimp [e1]
    refine digits_ok h1 h2 ?_
    simp -dsimp
    refine Gives.sub (h' := h) (Sub.drop hd) ?_
    simpa [textS, e1] using hK
  by_cases e2 : re = 0
  · simp -dsimp [e1, e2]
    refine digits_ok h3 h4 ?_
    simp -dsimp [a1]
    refine Gives.sub (h' := h) (Sub.drop hd) ?_
    simpa [textS, e1, e2] using hK
  by_cases e3 : 0 < im
  · simp -dsimp [e1, e2, e3]
    refine digits_ok h1 h2 ?_
    simp -dsimp [Stable, AIns.wants, QStep, a2]
    refine digits_ok h3 h4 ?_
    simp -dsimp [a2, a5, a6, a7, a8]
    refine Gives.sub (h' := h) (Sub.drop hd) ?_
    simpa [textS, e1, e2, e3] using hK
  · simp -dsimp [e1, e2, e3]
    refine digits_ok h1 h2 ?_
    simp -dsimp [Stable, AIns.wants, QStep]
    refine digits_ok h3 h4 ?_
    simp -dsimp [a3, a4, a7, a8]
    refine Gives.sub (h' := h) (Sub.drop hd) ?_
    simpa [textS, e1, e2, e3] using hK
end Go.Proofs.YtcpkdbofohkipaaGreat

/- Reading numbers; signs and words. -/
namespace Go.Proofs.YtcpkdbofohkipaaGreat
open Go.AM
variable {h : Hp} {K : AV → Hp → Prop}

theorem whole_ok {s : Bytes} (hs : s.length ≤ 40000) (hK : K (.tup [.int .i64 (wholeS s).1, .int .i64 (wholeS s).2]) h) : ACalls Tryz.prog 126 [.str s] h K := by
  refine calls_of mixed Tryz.func126 comp126 (Nat.le_of_ble_eq_true rfl) ?_
  have hle := digRun_le s
  have loop : ∀ (tm : Tm), tm 0 = .str s → tm 4 = .int .i64 (negAt s) → AW Tryz.prog (match c126.code with | .seq _ (.seq _ (.seq _ x)) => x | _ => .skip) (fun e tm h' => match e with | .exit _ => False | _ => Gives K (resOf c126.res tm h') h') tm h := by
    intro tm0 u0 u4
    simp -dsimp [c126, u0, u4]
    refine ALoop.start (fun n tm h' => ∃ i : Nat, i + n = (digRun s).length ∧ tm 0 = .str s ∧ tm 4 = .int .i64 (negAt s) ∧ tm 5 = .int .i64 (((digRun s).take i).foldl numFold 0) ∧ tm 6 = .int .i64 ((negAt s + i : Nat) : Int) ∧ h' = h) (digRun s).length ⟨0, by simp [u0, u4]⟩ ?_
    rintro n tm h' ⟨i, hi, t0, t4, t5, t6, rfl⟩
    have hw1 : IntKind.i64.wrap (((negAt s + i : Nat) : Int) + 1) = ((negAt s + (i + 1) : Nat) : Int) := by rw [wrap_i64] <;> omega
    have hf := fold_in ((digRun s).take i) (fun c hc => digRun_digits s c (List.mem_of_mem_take hc)) 0 (by omega) (by omega)
    rcases Nat.lt_or_ge i (digRun s).length with hlt | hge
    · obtain ⟨g1, g2, g3⟩ := digRun_in hlt
      have g4 := g2
      simp [digitB] at g4
      have hfold : ((digRun s).take (i + 1)).foldl numFold 0 = numFold (((digRun s).take i).foldl numFold 0) (byteAt s (negAt s + i)) := by
        rw [List.take_add_one, g3]; simp
      generalize hF : ((digRun s).take i).foldl numFold 0 = F at *
      generalize hC : byteAt s (negAt s + i) = c at *
      have w1 : IntKind.i64.wrap (10 * F) = 10 * F := by rw [wrap_i64] <;> omega
      have w2 : IntKind.u8.wrap ((c.toNat : Int) - 48) = (c.toNat : Int) - 48 := by simp [IntKind.wrap, IntKind.bits, IntKind.signed]; omega
      have w3 : IntKind.i64.wrap ((c.toNat : Int) - 48) = (c.toNat : Int) - 48 := by rw [wrap_i64] <;> omega
      have w4 : IntKind.i64.wrap (10 * F + ((c.toNat : Int) - 48)) = 10 * F + ((c.toNat : Int) - 48) := by rw [wrap_i64] <;> omega
      have g5 : (48 : Int) ≤ c.toNat := by omega
      have g6 : (c.toNat : Int) ≤ 57 := by omega
      simp -dsimp [-Int.natCast_add, t0, t4, t5, t6, g1, hC, g5, g6, w1, w2, w3, w4, hw1]
      refine Again.same (m := n - 1) (by omega) ⟨i + 1, by omega, by simp [t0], by simp [t4], ?_, by simp [-Int.natCast_add], rfl⟩
      simp [hfold, numFold]
    · have he : i = (digRun s).length := by omega
      subst he
      rw [List.take_length] at t5 hf
      by_cases z : (digRun s).length = 0
      · have hK' : K (.tup [.int .i64 0, .int .i64 0]) h' := by simpa [wholeS, z] using hK
        by_cases hlen : negAt s + (digRun s).length < s.length
        · have hd := digRun_out hlen
          simp [digitB] at hd
          by_cases c1 : (48 : Int) ≤ (byteAt s (negAt s + (digRun s).length)).toNat
          · have c2 : ¬ ((byteAt s (negAt s + (digRun s).length)).toNat : Int) ≤ 57 := by omega
            rw [z] at t6 hlen c1 c2
            simp only [Nat.add_zero] at t6 hlen c1 c2
            simp -dsimp [-Int.natCast_add, t0, t4, t5, t6, hlen, c1, c2]
            exact Gives.same hK'
          · rw [z] at t6 hlen c1
            simp only [Nat.add_zero] at t6 hlen c1
            simp -dsimp [-Int.natCast_add, t0, t4, t5, t6, hlen, c1]
            exact Gives.same hK'
        · rw [z] at t6 hlen
          simp only [Nat.add_zero] at t6 hlen
          simp -dsimp [-Int.natCast_add, t0, t4, t5, t6, hlen]
          exact Gives.same hK'
      · have zz : ¬ ((negAt s + (digRun s).length : Nat) : Int) = (negAt s : Int) := by omega
        have zn : ¬ digRun s = [] := by intro e; rw [e] at z; simp at z
        generalize hF : (digRun s).foldl numFold 0 = F at *
        have w5 : IntKind.i64.wrap (0 - F) = 0 - F := by rw [wrap_i64] <;> omega
        have hK' : K (.tup [.int .i64 (if negAt s = 1 then 0 - F else F), .int .i64 ((negAt s + (digRun s).length : Nat) : Int)]) h' := by
          simp only [wholeS, if_neg z, hF] at hK; exact hK
        have n1 : (negAt s : Int) = 1 ↔ negAt s = 1 := by omega
        by_cases hlen : negAt s + (digRun s).length < s.length
        · have hd := digRun_out hlen
          simp [digitB] at hd
          by_cases c1 : (48 : Int) ≤ (byteAt s (negAt s + (digRun s).length)).toNat
          · have c2 : ¬ ((byteAt s (negAt s + (digRun s).length)).toNat : Int) ≤ 57 := by omega
            rcases Decidable.em (negAt s = 1) with ng | ng
            · simp -dsimp [-Int.natCast_add, -Int.zero_sub, t0, t4, t5, t6, hlen, c1, c2, zz, n1, z, zn, eq_true ng, w5]
              exact Gives.same (by simpa [-Int.natCast_add, ng] using hK')
            · simp -dsimp [-Int.natCast_add, -Int.zero_sub, t0, t4, t5, t6, hlen, c1, c2, zz, n1, z, zn, ng, w5]
              exact Gives.same (by simpa [-Int.natCast_add, ng] using hK')
          · rcases Decidable.em (negAt s = 1) with ng | ng
            · simp -dsimp [-Int.natCast_add, -Int.zero_sub, t0, t4, t5, t6, hlen, c1, zz, n1, z, zn, eq_true ng, w5]
              exact Gives.same (by simpa [-Int.natCast_add, ng] using hK')
            · simp -dsimp [-Int.natCast_add, -Int.zero_sub, t0, t4, t5, t6, hlen, c1, zz, n1, z, zn, ng, w5]
              exact Gives.same (by simpa [-Int.natCast_add, ng] using hK')
        · rcases Decidable.em (negAt s = 1) with ng | ng
          · simp -dsimp [-Int.natCast_add, -Int.zero_sub, t0, t4, t5, t6, hlen, zz, n1, z, zn, eq_true ng, w5]
            exact Gives.same (by simpa [-Int.natCast_add, ng] using hK')
          · simp -dsimp [-Int.natCast_add, -Int.zero_sub, t0, t4, t5, t6, hlen, zz, n1, z, zn, ng, w5]
            exact Gives.same (by simpa [-Int.natCast_add, ng] using hK')
  by_cases c0 : 0 < s.length
  · have hne : ¬ s = [] := by intro e; rw [e] at c0; simp at c0
    by_cases c1 : ((byteAt s 0).toNat : Int) = 45
    · have hn : negAt s = 1 := by simp only [negAt]; rw [if_pos ⟨c0, c1⟩]
      simp -dsimp [c126, c0, c1, hne]
      exact loop _ (by simp) (by simp [hn])
    · have hn : negAt s = 0 := by simp [negAt, c1]
      simp -dsimp [c126, c0, c1, hne]
      exact loop _ (by simp) (by simp [hn])
  · have hn : negAt s = 0 := by simp [negAt, c0]
    have hne : s = [] := by simpa using c0
    simp -dsimp [c126, c0, hne]
    exact loop _ (by simp [hne]) (by simp [hn])
end Go.Proofs.YtcpkdbofohkipaaGreat

/- Reading numbers: the whole; signs and words. -/
namespace Go.Proofs.YtcpkdbofohkipaaGreat
open Go.AM
variable {h : Hp} {K : AV → Hp → Prop}

theorem z_ok {re im : Int} (hK : K (.cplx (FloatKind.f64.nearest re) (FloatKind.f64.nearest im)) h) : ACalls Tryz.prog 109 [.agg [.int .i64 re, .int .i64 im]] h K := by
  refine calls_of mixed Tryz.func109 comp109 (Nat.le_of_ble_eq_true rfl) ?_
  simp -dsimp [c109]
  intro id hd
  simp -dsimp
  exact Gives.sub (h' := h) (Sub.drop hd) hK

theorem sign_ok {b : Bytes} {p : Nat} (hb : b.length ≤ 40000) (hp : p < b.length) (hK : K (.int .i64 (signN b p)) h) : ACalls Tryz.prog 111 [.fz (bytesAV b), .int .i64 p] h K := by
  refine calls_of mixed Tryz.func111 comp111 (Nat.le_of_ble_eq_true rfl) ?_
  have hw : IntKind.i64.wrap ((p : Int) + 1) = ((p + 1 : Nat) : Int) := by rw [wrap_i64] <;> omega
  have tail : ¬ (p + 1 < b.length ∧ (((byteAt b p).toNat = 45 ∧ (byteAt b (p + 1)).toNat = 62) ∨ ((byteAt b p).toNat = 61 ∧ (byteAt b (p + 1)).toNat = 61))) →
      ∀ tm : Tm, tm 0 = .fz (bytesAV b) → tm 1 = .int .i64 p → AW Tryz.prog (match c111.code with | .seq _ (.seq _ x) => x | _ => .skip) (fun e tm h' => match e with | .exit _ => False | _ => Gives K (resOf c111.res tm h') h') tm h := by
    intro hno tm t0 t1
    have hs : signN b p = if oneSign (byteAt b p) then 1 else 0 := by simp only [signN, if_neg hno]
    rw [hs] at hK
    generalize hC : byteAt b p = c at *
    have hyes : oneSign c = true → K (.int .i64 1) h := by intro e; simpa [e] using hK
    have hnot : oneSign c = false → K (.int .i64 0) h := by intro e; simpa [e] using hK
    clear hK hs hno
    simp only [oneSign] at hyes hnot
    simp -dsimp [-Int.natCast_add, c111, t0, t1, hp, hC]
    by_cases e1 : (c.toNat : Int) = 40
    · simp -dsimp [e1]; exact Gives.same (hyes (by simp; omega))
    by_cases e2 : (c.toNat : Int) = 41
    · simp -dsimp [e2]; exact Gives.same (hyes (by simp; omega))
    by_cases e3 : (c.toNat : Int) = 44
    · simp -dsimp [e3]; exact Gives.same (hyes (by simp; omega))
    by_cases e4 : (c.toNat : Int) = 58
    · simp -dsimp [e4]; exact Gives.same (hyes (by simp; omega))
    by_cases e5 : (c.toNat : Int) = 59
    · simp -dsimp [e5]; exact Gives.same (hyes (by simp; omega))
    by_cases e6 : (c.toNat : Int) = 61
    · simp -dsimp [e6]; exact Gives.same (hyes (by simp; omega))
    by_cases e7 : (c.toNat : Int) = 43
    · simp -dsimp [e7]; exact Gives.same (hyes (by simp; omega))
    by_cases e8 : (c.toNat : Int) = 45
    · simp -dsimp [e8]; exact Gives.same (hyes (by simp; omega))
    by_cases e9 : (c.toNat : Int) = 42
    · simp -dsimp [e9]; exact Gives.same (hyes (by simp; omega))
    by_cases e10 : (c.toNat : Int) = 47
    · simp -dsimp [e10]; exact Gives.same (hyes (by simp; omega))
    by_cases e11 : (c.toNat : Int) = 60
    · simp -dsimp [e11]; exact Gives.same (hyes (by simp; omega))
    by_cases e12 : (c.toNat : Int) = 124
    · simp -dsimp [e12]; exact Gives.same (hyes (by simp; omega))
    simp -dsimp [e1, e2, e3, e4, e5, e6, e7, e8, e9, e10, e11, e12]
    exact Gives.same (hnot (by simp; omega))
  have hsplit : c111 = ⟨57, .seq (match c111.code with | .seq a _ => a | _ => .skip) (.seq (match c111.code with | .seq _ (.seq b _) => b | _ => .skip) (match c111.code with | .seq _ (.seq _ x) => x | _ => .skip)), [.t 4]⟩ := rfl
  have hres : c111.res = [.t 4] := rfl
  rw [hres] at tail
  rw [hsplit]
  generalize (match c111.code with | .seq _ (.seq _ x) => x | _ => .skip) = T at *
  by_cases hl : p + 1 < b.length
  · by_cases a1 : ((byteAt b p).toNat : Int) = 45
    · by_cases a2 : ((byteAt b (p + 1)).toNat : Int) = 62
      · simp -dsimp [-Int.natCast_add, c111, hw, hp, hl, a1, a2]
        refine Gives.same ?_
        have : signN b p = 2 := by simp only [signN]; rw [if_pos ⟨hl, .inl ⟨by omega, by omega⟩⟩]
        rw [this] at hK; exact hK
      · simp -dsimp [-Int.natCast_add, c111, hw, hp, hl, a1, a2]
        exact tail (by omega) _ (by simp) (by simp)
    · by_cases a3 : ((byteAt b p).toNat : Int) = 61
      · by_cases a4 : ((byteAt b (p + 1)).toNat : Int) = 61
        · simp -dsimp [-Int.natCast_add, c111, hw, hp, hl, a1, a3, a4]
          refine Gives.same ?_
          have : signN b p = 2 := by simp only [signN]; rw [if_pos ⟨hl, .inr ⟨by omega, by omega⟩⟩]
          rw [this] at hK; exact hK
        · simp -dsimp [-Int.natCast_add, c111, hw, hp, hl, a1, a3, a4]
          exact tail (by omega) _ (by simp) (by simp)
      · simp -dsimp [-Int.natCast_add, c111, hw, hp, hl, a1, a3]
        exact tail (by omega) _ (by simp) (by simp)
  · simp -dsimp [-Int.natCast_add, c111, hw, hp, hl]
    exact tail (by omega) _ (by simp) (by simp)
end Go.Proofs.YtcpkdbofohkipaaGreat

/- Reading numbers: the whole; words; one mark. -/
namespace Go.Proofs.YtcpkdbofohkipaaGreat
open Go.AM
variable {h : Hp} {K : AV → Hp → Prop}

theorem words_ok (hK : K (.fz (wordsS.map fun w => [.str w])) h) : ACalls Tryz.prog 128 [] h K := by
  refine calls_of mixed Tryz.func128 comp128 (Nat.le_of_ble_eq_true rfl) ?_
  simp -dsimp [c128]
  intro id hd
  simp -dsimp
  exact Gives.frz (Sub.drop hd) (Frz.rows (e := 9) (sz := 1) (xs := wordsS.map fun w => [.str w]) (by rw [hset_at, if_pos rfl]; rfl) hd) hK

theorem reserved_ok {s : Bytes} (hK : K (.bool (decide (s ∈ wordsS))) h) : ACalls Tryz.prog 110 [.str s] h K := by
  refine calls_of mixed Tryz.func110 comp110 (Nat.le_of_ble_eq_true rfl) ?_
  simp -dsimp [c110]
  refine words_ok ?_
  have hlen : wordsS.length = 19 := rfl
  generalize wordsS = W at *
  simp -dsimp
  refine ALoop.start (fun n tm h' => ∃ i : Nat, i + n = W.length ∧ tm 0 = .str s ∧ tm 3 = .fz (W.map fun w => [.str w]) ∧ tm 4 = .int .i64 i ∧ (∀ j (hj : j < W.length), j < i → W[j] ≠ s) ∧ h' = h) W.length ⟨0, by simp⟩ ?_
  rintro n tm h' ⟨i, hi, t0, t3, t4, hno, rfl⟩
  have hw1 : IntKind.i64.wrap ((i : Int) + 1) = ((i + 1 : Nat) : Int) := by rw [wrap_i64] <;> omega
  by_cases hl : i < W.length
  · by_cases he : W[i] = s
    · simp -dsimp [t0, t3, t4, hl, he]
      refine Gives.same ?_
      have : s ∈ W := he ▸ List.getElem_mem hl
      simpa [this] using hK
    · simp -dsimp [t0, t3, t4, hl, he, hw1]
      refine Again.same (m := n - 1) (by omega) ⟨i + 1, by omega, by simp [t0], by simp [t3], by simp, ?_, rfl⟩
      intro j hj hji
      rcases Nat.lt_or_ge j i with h | h
      · exact hno j hj h
      · have : j = i := by omega
        subst this; exact he
  · simp -dsimp [t0, t3, t4, hl]
    refine Gives.same ?_
    have : ¬ s ∈ W := by
      intro hm
      obtain ⟨j, hj, e⟩ := List.getElem_of_mem hm
      exact hno j hj (by omega) e
    simpa [this] using hK

theorem num_ok {s : Bytes} (hs : s.length ≤ 40000) (hK : K (.tup [.agg [.int .i64 (numS s).1.1, .int .i64 (numS s).1.2], .int .i64 (numS s).2]) h) : ACalls Tryz.prog 108 [.str s] h K := by
  refine calls_of mixed Tryz.func108 comp108 (Nat.le_of_ble_eq_true rfl) ?_
  have hwi := wholeS_in s
  have hni := numS1_in s
  have tail : (wholeS s).2 ≠ 0 → ∀ (n1 n2 : Int), numS1 s = (n1, n2) → ∀ tm : Tm, ∀ id id2, h id = .dead → h id2 = .dead → id2 ≠ id → tm 0 = .str s → tm 2 = .ptr id 0 → tm 6 = .ptr id2 0 →
      AW Tryz.prog (match c108.code with | .seq _ (.seq _ (.seq _ (.seq _ (.seq _ (.seq _ x))))) => x | _ => .skip) (fun e tm h' => match e with | .exit _ => False | _ => Gives K (resOf c108.res tm h') h') tm (hset (hset h id (.cells [.int .i64 0, .int .i64 0])) id2 (.cells [.int .i64 n1, .int .i64 n2])) := by
    rintro z n1 n2 hn tm id id2 hd hd2 hne t0 t2 t6
    rw [hn] at hni
    have hne' : ¬ id = id2 := fun e => hne e.symm
    simp -dsimp [c108, t0, t2, t6]
    refine in_ok ?_
    simp -dsimp
    intro id3 hd3
    simp at hd3
    obtain ⟨n31, n13, n32, n23, hd3⟩ : ¬ id3 = id2 ∧ ¬ id2 = id3 ∧ ¬ id3 = id ∧ ¬ id = id3 ∧ h id3 = .dead := by
      obtain ⟨a1, a2, a3, a4, a5⟩ := hd3; exact ⟨a1, a2, a3, a4, a5⟩
    by_cases he : (inS n1 n2).2 = 0
    · simp -dsimp [he, hne, hne', n31, n13, n32, n23, t0, t2, t6]
      refine text_ok (by omega) (by omega) (by omega) (by omega) ?_
      by_cases ht : textS n1 n2 = s
      · simp -dsimp [ht, hne, hne', n31, n13, n32, n23, t0, t2, t6]
        refine Gives.sub (h' := h) (by repeat first | exact Sub.refl _ | refine Sub.put ?_ | refine Sub.dropr ?_ (by simp [*])) ?_
        have : numS s = ((n1, n2), 0) := by simp [numS, z, hn, he, ht]
        rw [this] at hK; exact hK
      · simp -dsimp [ht, hne, hne', n31, n13, n32, n23, t0, t2, t6]
        refine Gives.sub (h' := h) (by repeat first | exact Sub.refl _ | refine Sub.put ?_ | refine Sub.dropr ?_ (by simp [*])) ?_
        have : numS s = ((0, 0), 10) := by simp [numS, z, hn, he, ht]
        rw [this] at hK; exact hK
    · simp -dsimp [he, hne, hne', n31, n13, n32, n23, t0, t2, t6]
      refine Gives.sub (h' := h) (by repeat first | exact Sub.refl _ | refine Sub.put ?_ | refine Sub.dropr ?_ (by simp [*])) ?_
      have : numS s = ((0, 0), 10) := by simp [numS, z, hn, he]
      rw [this] at hK; exact hK
  have hsplit : c108 = ⟨58, .seq (match c108.code with | .seq a _ => a | _ => .skip) (.seq (match c108.code with | .seq _ (.seq a _) => a | _ => .skip) (.seq (match c108.code with | .seq _ (.seq _ (.seq a _)) => a | _ => .skip) (.seq (match c108.code with | .seq _ (.seq _ (.seq _ (.seq a _))) => a | _ => .skip) (.seq (match c108.code with | .seq _ (.seq _ (.seq _ (.seq _ (.seq a _)))) => a | _ => .skip) (.seq (match c108.code with | .seq _ (.seq _ (.seq _ (.seq _ (.seq _ (.seq a _))))) => a | _ => .skip) (match c108.code with | .seq _ (.seq _ (.seq _ (.seq _ (.seq _ (.seq _ x))))) => x | _ => .skip)))))), [.many 2 2, .t 3]⟩ := rfl
  have hres : c108.res = [.many 2 2, .t 3] := rfl
  have hq : ∀ (tm : Tm) (h' : Hp), resOf [.many 2 2, .t 3] tm h' = ((aLda 2 (tm 2) h').bind fun x => some (.tup [x, tm 3])) := by intro tm h'; simp
  rw [hres] at tail
  simp only [hq] at tail
  rw [hsplit]
  generalize (match c108.code with | .seq _ (.seq _ (.seq _ (.seq _ (.seq _ (.seq _ x))))) => x | _ => .skip) = T at *
  simp -dsimp [c108]
  intro id hd
  simp -dsimp
  refine whole_ok hs ?_
  by_cases z : (wholeS s).2 = 0
  · simp -dsimp [z]
    refine Gives.sub (h' := h) (by repeat first | exact Sub.refl _ | refine Sub.put ?_ | refine Sub.dropr ?_ (by simp [*])) ?_
    simpa [numS, z] using hK
  · have htk : (s.drop (wholeS s).2).take (s.length - (wholeS s).2) = s.drop (wholeS s).2 := List.take_of_length_le (by simp)
    simp -dsimp [z]
    intro id2 hd2
    simp at hd2
    obtain ⟨n1, n2, hd2⟩ := hd2
    by_cases e1 : s.drop (wholeS s).2 = [105]
    · have hn : numS1 s = (0, (wholeS s).1) := by simp [numS1, e1]
      rw [e1] at htk
      simp -dsimp [z, n1, n2, htk, e1, hwi]
      exact tail z _ _ hn _ _ _ hd hd2 n1 (by simp) (by simp) (by simp)
    · by_cases e2 : s.drop (wholeS s).2 = []
      · have hn : numS1 s = ((wholeS s).1, 0) := by simp only [numS1, if_neg e1, if_pos e2]
        have e3 : s.length ≤ (wholeS s).2 := by simpa using e2
        rw [e2] at htk
        simp -dsimp [z, n1, n2, htk, e1, e2, e3, hwi]
        exact tail z _ _ hn _ _ _ hd hd2 n1 (by simp) (by simp) (by simp)
      · have hn : numS1 s = ((wholeS s).1, (wholeS (restS (s.drop (wholeS s).2))).1) := by simp only [numS1, if_neg e1, if_neg e2]
        have hpos : 0 < (s.drop (wholeS s).2).length := List.length_pos_iff.2 e2
        have hlr : (s.drop (wholeS s).2).length ≤ 40000 := by simp; omega
        generalize hR : s.drop (wholeS s).2 = R at *
        have e3 : ¬ s.length ≤ (wholeS s).2 := by
          intro h; rw [List.drop_eq_nil_of_le h] at hR; exact e2 hR.symm
        have ht1 : R.tail.take (R.length - 1) = R.tail := List.take_of_length_le (by simp)
        have hpos1 : 1 ≤ R.length := hpos
        by_cases e4 : ((byteAt R 0).toNat : Int) = 43
        · have hr : restS R = R.tail := by simp only [restS]; rw [if_pos (by omega)]; simp
          simp -dsimp [z, n1, n2, hR, htk, e1, e2, e3, hwi, hpos, hpos1, e4, ht1]
          refine whole_ok (by simp; omega) ?_
          rw [hr] at hn
          simp -dsimp [n1, n2]
          exact tail z _ _ hn _ _ _ hd hd2 n1 (by simp) (by simp) (by simp)
        · have hr : restS R = R := by simp only [restS]; rw [if_neg (by omega)]
          simp -dsimp [z, n1, n2, hR, htk, e1, e2, e3, hwi, hpos, e4]
          refine whole_ok hlr ?_
          rw [hr] at hn
          simp -dsimp [n1, n2]
          exact tail z _ _ hn _ _ _ hd hd2 n1 (by simp) (by simp) (by simp)
end Go.Proofs.YtcpkdbofohkipaaGreat

/- One mark. -/
namespace Go.Proofs.YtcpkdbofohkipaaGreat
open Go.AM
variable {h : Hp} {K : AV → Hp → Prop}

theorem one_ok {b : Bytes} {p : Nat} (hb : b.length ≤ 40000) (hp : p < b.length) (hK : K (.tup [.agg (oneS b p).1.cells, .bool (oneS b p).2]) h) : ACalls Tryz.prog 78 [.fz (bytesAV b), .int .i64 p] h K := by
  refine calls_of mixed Tryz.func78 comp78 (Nat.le_of_ble_eq_true rfl) ?_
  simp -dsimp [c78]
  intro id hd
  simp -dsimp
  refine run_ok hb (Nat.le_of_lt hp) ?_
  have hr := wRun_le b (Nat.le_of_lt hp)
  have hw : IntKind.i64.wrap ((p : Int) + (wRun b p : Nat)) = ((p + wRun b p : Nat) : Int) := by rw [wrap_i64] <;> omega
  have e1 : p ≤ p + wRun b p := by omega
  have e2 : p + wRun b p - p = wRun b p := by omega
  simp -dsimp [-Int.natCast_add, hw, hr, e1, e2, bytesAV_take, bytesAV_drop]
  intro id2 hd2
  simp at hd2
  obtain ⟨n1, n2, hd2⟩ := hd2
  have hl : ((b.drop p).take (wRun b p)).length ≤ 40000 := by simp; omega
  by_cases h0 : 0 < wRun b p
  · simp -dsimp [h0, n1, n2, hp]
    refine digit_ok ?_
    cases hdg : digitB (byteAt b p)
    · by_cases h95 : ((byteAt b p).toNat : Int) = 95
      · simp -dsimp [h0, n1, n2, hp, h95]
        have : oneS b p = (⟨0, (b.drop p).take (wRun b p), 0, 0, p⟩, false) := by simp only [oneS]; rw [if_neg (by simp [hdg]), if_pos ⟨h0, h95⟩]
        rw [this] at hK
        refine Gives.sub (h' := h) (by repeat first | exact Sub.refl _ | refine Sub.put ?_ | refine Sub.dropr ?_ (by simp [*])) ?_
        simpa [Mk.cells] using hK
      · simp -dsimp [h0, n1, n2, hp, h95]
        refine reserved_ok ?_
        have : oneS b p = (⟨if (b.drop p).take (wRun b p) ∈ wordsS then 1 else 0, (b.drop p).take (wRun b p), 0, 0, p⟩, true) := by simp only [oneS]; rw [if_neg (by simp [hdg]), if_neg (by simp [h95]), if_pos h0]
        rw [this] at hK
        by_cases hm : (b.drop p).take (wRun b p) ∈ wordsS
        · simp -dsimp [n1, n2, hm]
          refine Gives.sub (h' := h) (by repeat first | exact Sub.refl _ | refine Sub.put ?_ | refine Sub.dropr ?_ (by simp [*])) ?_
          simpa [Mk.cells, hm] using hK
        · simp -dsimp [n1, n2, hm]
          refine Gives.sub (h' := h) (by repeat first | exact Sub.refl _ | refine Sub.put ?_ | refine Sub.dropr ?_ (by simp [*])) ?_
          simpa [Mk.cells, hm] using hK
    · simp -dsimp [h0, n1, n2]
      refine num_ok hl ?_
      simp -dsimp [n1, n2]
      intro id3 hd3
      simp at hd3
      obtain ⟨m1, m2, m3, m4, hd3⟩ := hd3
      simp -dsimp [n1, n2, m1, m2, m3, m4]
      refine z_ok ?_
      simp -dsimp [n1, n2, m1, m2, m3, m4]
      have : oneS b p = (⟨2, (b.drop p).take (wRun b p), FloatKind.f64.nearest (numS ((b.drop p).take (wRun b p))).1.1, FloatKind.f64.nearest (numS ((b.drop p).take (wRun b p))).1.2, p⟩, decide ((numS ((b.drop p).take (wRun b p))).2 = 0)) := by simp only [oneS]; rw [if_pos ⟨h0, hdg⟩]
      rw [this] at hK
      refine Gives.sub (h' := h) (by repeat first | exact Sub.refl _ | refine Sub.put ?_ | refine Sub.dropr ?_ (by simp [*])) ?_
      simpa [Mk.cells] using hK
  · have hz : wRun b p = 0 := by omega
    simp -dsimp [h0, n1, n2, hp]
    refine sign_ok hb hp ?_
    have hr2 := signN_le hp
    have hw2 : IntKind.i64.wrap ((p : Int) + (signN b p : Nat)) = ((p + signN b p : Nat) : Int) := by rw [wrap_i64] <;> omega
    have f1 : p ≤ p + signN b p := by omega
    have f2 : p + signN b p - p = signN b p := by omega
    simp -dsimp [-Int.natCast_add, n1, n2, hw2, hr2, f1, f2, bytesAV_take, bytesAV_drop]
    have : oneS b p = (⟨3, (b.drop p).take (signN b p), 0, 0, p⟩, decide (0 < signN b p)) := by
      simp only [oneS]; rw [if_neg (fun x => h0 x.1), if_neg (fun x => h0 x.1), if_neg h0]
    rw [this] at hK
    refine Gives.sub (h' := h) (by repeat first | exact Sub.refl _ | refine Sub.put ?_ | refine Sub.dropr ?_ (by simp [*])) ?_
    simpa [Mk.cells] using hK
end Go.Proofs.YtcpkdbofohkipaaGreat

/- All marks. -/
namespace Go.Proofs.YtcpkdbofohkipaaGreat
open Go.AM
variable {h : Hp} {K : AV → Hp → Prop}

theorem marks_ok {b : Bytes} {t : AV} (ht : t = .fz (bytesAV b) ∨ (b = [] ∧ t = .nl)) (hb : b.length ≤ 32768) (hK : K (marksAV (marksS b (b.length + 1) 0)) h) : ACalls Tryz.prog 40 [t] h K := by
  refine calls_of mixed Tryz.func40 comp40 (Nat.le_of_ble_eq_true rfl) ?_
  have hlen : ∀ h', aLen .sl t h' = some (.int .i64 b.length) := by
    rcases ht with rfl | ⟨rfl, rfl⟩ <;> intro h' <;> simp
  generalize hRR : marksS b (b.length + 1) 0 = R at hK
  simp -dsimp [c40]
  refine ALoop.start (fun n tm h' => ∃ (p : Nat) (acc : List Mk), tm 0 = t ∧ tm 5 = .int .i64 p ∧ SlAt h h' 174 4 (tm 4) (acc.map Mk.cells) ∧ p ≤ b.length ∧ acc.length ≤ p ∧ b.length + 1 ≤ n + p ∧ joinM acc (marksS b n p) = R) (b.length + 1)
    ⟨0, [], by simp, by simp, by simpa using SlAt.nil _ _ _, by simp, by simp, by simp, by rw [joinM_nil]; exact hRR⟩ ?_
  rintro n tm h' ⟨p, acc, t0, t5, hs, hpb, hacc, hn, hR⟩
  obtain ⟨n, rfl⟩ : ∃ m, n = m + 1 := ⟨n - 1, by omega⟩
  by_cases hp : p < b.length
  · have htf : t = .fz (bytesAV b) := by
      rcases ht with e | ⟨e, _⟩
      · exact e
      · rw [e] at hp; simp at hp
    subst htf
    have hw1 : IntKind.i64.wrap ((p : Int) + 1) = ((p + 1 : Nat) : Int) := by rw [wrap_i64] <;> omega
    simp only [marksS, if_pos hp] at hR
    simp -dsimp [t0, t5, hp]
    refine blank_ok ?_
    by_cases hbl : blankB (byteAt b p) = true
    · rw [if_pos hbl] at hR
      simp -dsimp [hbl, hw1, t5]
      exact Again.same (m := n) (by omega) ⟨p + 1, acc, by simp [t0], by simp, by simpa using hs, by omega, by omega, by omega, hR⟩
    · rw [if_neg hbl] at hR
      by_cases h35 : ((byteAt b p).toNat : Int) = 35
      · rw [if_pos h35] at hR
        simp -dsimp [hbl, t0, t5, hp, h35]
        have hsk := skipN_le b hpb
        have hpos := skipN_pos hp h35
        refine ALoop.start (fun k tm2 h2 => ∃ i : Nat, i + k = skipN b p ∧ tm2 0 = .fz (bytesAV b) ∧ tm2 5 = .int .i64 ((p + i : Nat) : Int) ∧ SlAt h h2 174 4 (tm2 4) (acc.map Mk.cells)) (skipN b p) ⟨0, by simp, by simp [t0], by simp [t5], by simpa using hs⟩ ?_
        rintro k tm2 h2 ⟨i, hi, u0, u5, hs2⟩
        have hw2 : IntKind.i64.wrap (((p + i : Nat) : Int) + 1) = ((p + (i + 1) : Nat) : Int) := by rw [wrap_i64] <;> omega
        rcases Nat.lt_or_ge i (skipN b p) with hlt | hge
        · obtain ⟨g1, g2⟩ := skipN_in hlt
          simp [notNl] at g2
          simp -dsimp [-Int.natCast_add, u0, u5, g1, g2, hw2]
          exact Again.same (m := k - 1) (by omega) ⟨i + 1, by omega, by simp [u0], by simp [-Int.natCast_add], by simpa using hs2⟩
        · have he : i = skipN b p := by omega
          subst he
          by_cases hl : p + skipN b p < b.length
          · have g2 := skipN_out hl
            simp [notNl] at g2
            simp -dsimp [-Int.natCast_add, u0, u5, hl, g2]
            exact Again.same (m := n) (by omega) ⟨p + skipN b p, acc, by simp [u0], by simp [-Int.natCast_add, u5], by simpa using hs2, by omega, by omega, by omega, hR⟩
          · simp -dsimp [-Int.natCast_add, u0, u5, hl]
            exact Again.same (m := n) (by omega) ⟨p + skipN b p, acc, by simp [u0], by simp [-Int.natCast_add, u5], by simpa using hs2, by omega, by omega, by omega, hR⟩
      · rw [if_neg h35] at hR
        simp -dsimp [hbl, t0, t5, hp, h35]
        refine one_ok (by omega) hp ?_
        simp -dsimp
        intro id hd
        by_cases hok : (oneS b p).2 = true
        · rw [if_pos hok, joinM_pre] at hR
          obtain ⟨g1, g2⟩ := oneS_len hp hok
          simp -dsimp [hok]
          intro id2 hd2
          simp at hd2
          obtain ⟨n1, n2, hd2⟩ := hd2
          simp -dsimp [n1, n2]
          have hsub : Sub h' (hset (hset h' id (.cells (oneS b p).1.cells)) id2 (.arr 174 4 [(oneS b p).1.cells])) := by repeat first | exact Sub.refl _ | refine Sub.put ?_ | refine Sub.dropr ?_ (by simp [*])
          refine hs.app hsub (by simp) (by simp; omega) (by simp; omega) fun v' h2 h2' hs' hsub' hkeep => ?_
          have h6 : h2' id = .cells (oneS b p).1.cells := hkeep id _ (by simp [n2])
          have hw3 : IntKind.i64.wrap ((p : Int) + ((oneS b p).1.text.length : Nat)) = ((p + (oneS b p).1.text.length : Nat) : Int) := by rw [wrap_i64] <;> omega
          simp -dsimp [h6, t5, Mk.cells, hw3]
          exact Again.sub n h2 (by omega) hsub' ⟨p + (oneS b p).1.text.length, acc ++ [(oneS b p).1], by simp [t0], by simp, by simpa [Mk.cells] using hs', by omega, by simp; omega, by omega, hR⟩
        · rw [if_neg hok] at hR
          simp -dsimp [hok, t5]
          refine Gives.sub (h' := h) (hs.sub.dropr (hs.sub.dead hd)) ?_
          rw [← hR] at hK
          exact hK
  · simp only [marksS, if_neg hp] at hR
    simp -dsimp [t0, t5, hlen, hp]
    intro id2 hd2
    simp -dsimp
    refine hs.app (Sub.drop hd2) (by simp) (by simp; omega) (by simp; omega) fun v' h2 h2' hs' hsub' hkeep => ?_
    simp -dsimp
    refine Gives.frz (hs'.sub.trans hsub') (Frz.pair (hs'.frz (by simp) hsub') (.same _)) ?_
    rw [← hR] at hK
    simpa [joinM, marksAV, Mk.cells] using hK
end Go.Proofs.YtcpkdbofohkipaaGreat

/- The grammar: two operands; words. -/
namespace Go.Proofs.YtcpkdbofohkipaaGreat
open Go.AM
variable {h : Hp} {rid : Nat} {ms : List Mk} {s : St} {K : AV → Hp → Prop}

theorem two_ok {op : Int} {a b : Ex} {m : Mk} (hK : K (.agg (two op a b m).cells) h) : ACalls Tryz.prog 135 [.int .i64 op, .agg a.cells, .agg b.cells, .agg m.cells] h K := by
  refine calls_of mixed Tryz.func135 comp135 (Nat.le_of_ble_eq_true rfl) ?_
  simp -dsimp [c135]
  intro i1 d1
  simp -dsimp
  intro i2 d2
  simp at d2
  obtain ⟨n12, n21, d2⟩ := d2
  simp -dsimp
  intro i3 d3
  simp at d3
  obtain ⟨n32, n23, n31, n13, d3⟩ := d3
  simp -dsimp
  intro i4 d4
  simp at d4
  obtain ⟨n43, n34, n42, n24, n41, n14, d4⟩ := d4
  simp -dsimp [n12, n21, n32, n23, n31, n13, n43, n34, n42, n24, n41, n14]
  intro i5 d5
  simp at d5
  obtain ⟨n54, n45, n53, n35, n52, n25, n51, n15, d5⟩ := d5
  simp -dsimp [n12, n21, n32, n23, n31, n13, n43, n34, n42, n24, n41, n14, n54, n45, n53, n35, n52, n25, n51, n15]
  refine Gives.frz (h' := h) (by repeat first | exact Sub.refl _ | refine Sub.put ?_ | refine Sub.dropr ?_ (by simp [*])) (Frz.cell (a := [.int .i64 op, .str [], .str [], .int .i64 0, .cplx 0 0]) (b := [.int .i64 m.pos]) (Frz.rows (xs := [a.cells, b.cells]) (by simp [*]; exact ⟨rfl, rfl⟩) d5)) ?_
  simpa [two, Ex.cells, Ex.rows, rowsAV] using hK

theorem word_ok {t : Bytes} (hK : K (.int .i64 (wordS t)) h) : ACalls Tryz.prog 148 [.str t] h K := by
  refine calls_of mixed Tryz.func148 comp148 (Nat.le_of_ble_eq_true rfl) ?_
  by_cases e1 : t = [116, 114, 117, 101]
  · simp -dsimp [c148, e1]; exact Gives.same (by simpa [wordS, e1] using hK)
  by_cases e2 : t = [102, 97, 108, 115, 101]
  · simp -dsimp [c148, e2]; exact Gives.same (by simpa [wordS, e2] using hK)
  by_cases e3 : t = [110, 105, 108]
  · simp -dsimp [c148, e3]; exact Gives.same (by simpa [wordS, e3] using hK)
  by_cases e4 : t = [102, 97, 105, 108]
  · simp -dsimp [c148, e4]; exact Gives.same (by simpa [wordS, e4] using hK)
  by_cases e5 : t = [110, 111, 116]
  · simp -dsimp [c148, e5]; exact Gives.same (by simpa [wordS, e5] using hK)
  by_cases e6 : t = [114, 101]
  · simp -dsimp [c148, e6]; exact Gives.same (by simpa [wordS, e6] using hK)
  by_cases e7 : t = [105, 109]
  · simp -dsimp [c148, e7]; exact Gives.same (by simpa [wordS, e7] using hK)
  by_cases e8 : t = [99, 111, 110, 106]
  · simp -dsimp [c148, e8]; exact Gives.same (by simpa [wordS, e8] using hK)
  simp -dsimp [c148, e1, e2, e3, e4, e5, e6, e7, e8]
  exact Gives.same (by simpa [wordS, e1, e2, e3, e4, e5, e6, e7, e8] using hK)
end Go.Proofs.YtcpkdbofohkipaaGreat
