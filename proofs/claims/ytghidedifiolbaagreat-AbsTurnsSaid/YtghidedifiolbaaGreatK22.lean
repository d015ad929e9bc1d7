/- Reading numbers: the whole; words; one mark. -/
import Derived.Test.YtghidedifiolbaaGreatK07
import Derived.Test.YtghidedifiolbaaGreatK21
set_option linter.unusedVariables false
set_option linter.unusedSimpArgs false
namespace Go.Proofs.YtghidedifiolbaaGreat
open Go.AM
variable {h : Hp} {K : AV → Hp → Prop}

theorem words_ok (hK : K (.fz (wordsS.map fun w => [.str w])) h) : ACalls Tryz.prog 136 [] h K := by
  refine calls_of mixed Tryz.func136 comp136 (Nat.le_of_ble_eq_true rfl) ?_
  simp -dsimp [c136]
  intro id hd
  simp -dsimp
  exact Gives.frz (Sub.drop hd) (Frz.rows (e := 9) (sz := 1) (xs := wordsS.map fun w => [.str w]) (by rw [hset_at, if_pos rfl]; rfl) hd) hK

theorem reserved_ok {s : Bytes} (hK : K (.bool (decide (s ∈ wordsS))) h) : ACalls Tryz.prog 118 [.str s] h K := by
  refine calls_of mixed Tryz.func118 comp118 (Nat.le_of_ble_eq_true rfl) ?_
  simp -dsimp [c118]
  refine words_ok ?_
  have hlen : wordsS.length = 19 := rfl
  generalize wordsS = W at *
  simp -dsimp
  refine ALoop.start (fun n tm h' => ∃ i : Nat, i + n = W.length ∧ tm 0 = .str s ∧ tm 3 = .fz (W.map fun w => [.str w]) ∧ tm 4 = .int .i64 i ∧ (∀ j (hj : j < W.length), j < i → W[j] ≠ s) ∧ h' = h) W.length ⟨0, by simp⟩ ?_
  rintro n tm h' ⟨i, hi, t0, t3, t4, hno, rfl⟩
  have hw1 : IntKind.i64.wrap ((i : Int) + 1) = ((i + 1 : Nat) : Int) := by rw [wrap_i64] <;> omega
  by_cases hl : i < W.length
  · by_cases he : W[i] = s
    · simp -dsimp [t0, t3, t4, hl, he]
      refine Gives.same ?_
      have : s ∈ W := he ▸ List.getElem_mem hl
      simpa [this] using hK
    · simp -dsimp [t0, t3, t4, hl, he, hw1]
      refine Again.same (m := n - 1) (by omega) ⟨i + 1, by omega, by simp [t0], by simp [t3], by simp, ?_, rfl⟩
      intro j hj hji
      rcases Nat.lt_or_ge j i with h | h
      · exact hno j hj h
      · have : j = i := by omega
        subst this; exact he
  · simp -dsimp [t0, t3, t4, hl]
    refine Gives.same ?_
    have : ¬ s ∈ W := by
      intro hm
      obtain ⟨j, hj, e⟩ := List.getElem_of_mem hm
      exact hno j hj (by omega) e
    simpa [this] using hK

theorem num_ok {s : Bytes} (hs : s.length ≤ 40000) (hK : K (.tup [.agg [.int .i64 (numS s).1.1, .int .i64 (numS s).1.2], .int .i64 (numS s).2]) h) : ACalls Tryz.prog 116 [.str s] h K := by
  refine calls_of mixed Tryz.func116 comp116 (Nat.le_of_ble_eq_true rfl) ?_
  have hwi := wholeS_in s
  have hni := numS1_in s
  have tail : (wholeS s).2 ≠ 0 → ∀ (n1 n2 : Int), numS1 s = (n1, n2) → ∀ tm : Tm, ∀ id id2, h id = .dead → h id2 = .dead → id2 ≠ id → tm 0 = .str s → tm 2 = .ptr id 0 → tm 6 = .ptr id2 0 →
      AW Tryz.prog (match c116.code with | .seq _ (.seq _ (.seq _ (.seq _ (.seq _ (.seq _ x))))) => x | _ => .skip) (fun e tm h' => match e with | .exit _ => False | _ => Gives K (resOf c116.res tm h') h') tm (hset (hset h id (.cells [.int .i64 0, .int .i64 0])) id2 (.cells [.int .i64 n1, .int .i64 n2])) := by
    rintro z n1 n2 hn tm id id2 hd hd2 hne t0 t2 t6
    rw [hn] at hni
    have hne' : ¬ id = id2 := fun e => hne e.symm
    simp -dsimp [c116, t0, t2, t6]
    refine in_ok ?_
    simp -dsimp
    intro id3 hd3
    simp at hd3
    obtain ⟨n31, n13, n32, n23, hd3⟩ : ¬ id3 = id2 ∧ ¬ id2 = id3 ∧ ¬ id3 = id ∧ ¬ id = id3 ∧ h id3 = .dead := by
      obtain ⟨a1, a2, a3, a4, a5⟩ := hd3; exact ⟨a1, a2, a3, a4, a5⟩
    by_cases he : (inS n1 n2).2 = 0
    · simp -dsimp [he, hne, hne', n31, n13, n32, n23, t0, t2, t6]
      refine text_ok (by omega) (by omega) (by omega) (by omega) ?_
      by_cases ht : textS n1 n2 = s
      · simp -dsimp [ht, hne, hne', n31, n13, n32, n23, t0, t2, t6]
        refine Gives.sub (h' := h) (by repeat first | exact Sub.refl _ | refine Sub.put ?_ | refine Sub.dropr ?_ (by simp [*])) ?_
        have : numS s = ((n1, n2), 0) := by simp [numS, z, hn, he, ht]
        rw [this] at hK; exact hK
      · simp -dsimp [ht, hne, hne', n31, n13, n32, n23, t0, t2, t6]
        refine Gives.sub (h' := h) (by repeat first | exact Sub.refl _ | refine Sub.put ?_ | refine Sub.dropr ?_ (by simp [*])) ?_
        have : numS s = ((0, 0), 10) := by simp [numS, z, hn, he, ht]
        rw [this] at hK; exact hK
    · simp -dsimp [he, hne, hne', n31, n13, n32, n23, t0, t2, t6]
      refine Gives.sub (h' := h) (by repeat first | exact Sub.refl _ | refine Sub.put ?_ | refine Sub.dropr ?_ (by simp [*])) ?_
      have : numS s = ((0, 0), 10) := by simp [numS, z, hn, he]
      rw [this] at hK; exact hK
  have hsplit : c116 = ⟨58, .seq (match c116.code with | .seq a _ => a | _ => .skip) (.seq (match c116.code with | .seq _ (.seq a _) => a | _ => .skip) (.seq (match c116.code with | .seq _ (.seq _ (.seq a _)) => a | _ => .skip) (.seq (match c116.code with | .seq _ (.seq _ (.seq _ (.seq a _))) => a | _ => .skip) (.seq (match c116.code with | .seq _ (.seq _ (.seq _ (.seq _ (.seq a _)))) => a | _ => .skip) (.seq (match c116.code with | .seq _ (.seq _ (.seq _ (.seq _ (.seq _ (.seq a _))))) => a | _ => .skip) (match c116.code with | .seq _ (.seq _ (.seq _ (.seq _ (.seq _ (.seq _ x))))) => x | _ => .skip)))))), [.many 2 2, .t 3]⟩ := rfl
  have hres : c116.res = [.many 2 2, .t 3] := rfl
  have hq : ∀ (tm : Tm) (h' : Hp), resOf [.many 2 2, .t 3] tm h' = ((aLda 2 (tm 2) h').bind fun x => some (.tup [x, tm 3])) := by intro tm h'; simp
  rw [hres] at tail
  simp only [hq] at tail
  rw [hsplit]
  generalize (match c116.code with | .seq _ (.seq _ (.seq _ (.seq _ (.seq _ (.seq _ x))))) => x | _ => .skip) = T at *
  simp -dsimp [c116]
  intro id hd
  simp -dsimp
  refine whole_ok hs ?_
  by_cases z : (wholeS s).2 = 0
  · simp -dsimp [z]
    refine Gives.sub (h' := h) (by repeat first | exact Sub.refl _ | refine Sub.put ?_ | refine Sub.dropr ?_ (by simp [*])) ?_
    simpa [numS, z] using hK
  · have htk : (s.drop (wholeS s).2).take (s.length - (wholeS s).2) = s.drop (wholeS s).2 := List.take_of_length_le (by simp)
    simp -dsimp [z]
    intro id2 hd2
    simp at hd2
    obtain ⟨n1, n2, hd2⟩ := hd2
    by_cases e1 : s.drop (wholeS s).2 = [105]
    · have hn : numS1 s = (0, (wholeS s).1) := by simp [numS1, e1]
      rw [e1] at htk
      simp -dsimp [z, n1, n2, htk, e1, hwi]
      exact tail z _ _ hn _ _ _ hd hd2 n1 (by simp) (by simp) (by simp)
    · by_cases e2 : s.drop (wholeS s).2 = []
      · have hn : numS1 s = ((wholeS s).1, 0) := by simp only [numS1, if_neg e1, if_pos e2]
        have e3 : s.length ≤ (wholeS s).2 := by simpa using e2
        rw [e2] at htk
        simp -dsimp [z, n1, n2, htk, e1, e2, e3, hwi]
        exact tail z _ _ hn _ _ _ hd hd2 n1 (by simp) (by simp) (by simp)
      · have hn : numS1 s = ((wholeS s).1, (wholeS (restS (s.drop (wholeS s).2))).1) := by simp only [numS1, if_neg e1, if_neg e2]
        have hpos : 0 < (s.drop (wholeS s).2).length := List.length_pos_iff.2 e2
        have hlr : (s.drop (wholeS s).2).length ≤ 40000 := by simp; omega
        generalize hR : s.drop (wholeS s).2 = R at *
        have e3 : ¬ s.length ≤ (wholeS s).2 := by
          intro h; rw [List.drop_eq_nil_of_le h] at hR; exact e2 hR.symm
        have ht1 : R.tail.take (R.length - 1) = R.tail := List.take_of_length_le (by simp)
        have hpos1 : 1 ≤ R.length := hpos
        by_cases e4 : ((byteAt R 0).toNat : Int) = 43
        · have hr : restS R = R.tail := by simp only [restS]; rw [if_pos (by omega)]; simp
          simp -dsimp [z, n1, n2, hR, htk, e1, e2, e3, hwi, hpos, hpos1, e4, ht1]
          refine whole_ok (by simp; omega) ?_
          rw [hr] at hn
          simp -dsimp [n1, n2]
          exact tail z _ _ hn _ _ _ hd hd2 n1 (by simp) (by simp) (by simp)
        · have hr : restS R = R := by simp only [restS]; rw [if_neg (by omega)]
          simp -dsimp [z, n1, n2, hR, htk, e1, e2, e3, hwi, hpos, e4]
          refine whole_ok hlr ?_
          rw [hr] at hn
          simp -dsimp [n1, n2]
          exact tail z _ _ hn _ _ _ hd hd2 n1 (by simp) (by simp) (by simp)
end Go.Proofs.YtghidedifiolbaaGreat

/- One mark. -/
namespace Go.Proofs.YtghidedifiolbaaGreat
open Go.AM
variable {h : Hp} {K : AV → Hp → Prop}

theorem one_ok {b : Bytes} {p : Nat} (hb : b.length ≤ 40000) (hp : p < b.length) (hK : K (.tup [.agg (oneS b p).1.cells, .bool (oneS b p).2]) h) : ACalls Tryz.prog 90 [.fz (bytesAV b), .int .i64 p] h K := by
  refine calls_of mixed Tryz.func90 comp90 (Nat.le_of_ble_eq_true rfl) ?_
  simp -dsimp [c90]
  intro id hd
  simp -dsimp
  refine run_ok hb (Nat.le_of_lt hp) ?_
  have hr := wRun_le b (Nat.le_of_lt hp)
  have hw : IntKind.i64.wrap ((p : Int) + (wRun b p : Nat)) = ((p + wRun b p : Nat) : Int) := by rw [wrap_i64] <;> omega
  have e1 : p ≤ p + wRun b p := by omega
  have e2 : p + wRun b p - p = wRun b p := by omega
  simp -dsimp [-Int.natCast_add, hw, hr, e1, e2, bytesAV_take, bytesAV_drop]
  intro id2 hd2
  simp at hd2
  obtain ⟨n1, n2, hd2⟩ := hd2
  have hl : ((b.drop p).take (wRun b p)).length ≤ 40000 := by simp; omega
  by_cases h0 : 0 < wRun b p
  · simp -dsimp [h0, n1, n2, hp]
    refine digit_ok ?_
    cases hdg : digitB (byteAt b p)
    · by_cases h95 : ((byteAt b p).toNat : Int) = 95
      · simp -dsimp [h0, n1, n2, hp, h95]
        have : oneS b p = (⟨0, (b.drop p).take (wRun b p), 0, 0, p⟩, false) := by simp only [oneS]; rw [if_neg (by simp [hdg]), if_pos ⟨h0, h95⟩]
        rw [this] at hK
        refine Gives.sub (h' := h) (by repeat first | exact Sub.refl _ | refine Sub.put ?_ | refine Sub.dropr ?_ (by simp [*])) ?_
        simpa [Mk.cells] using hK
      · simp -dsimp [h0, n1, n2, hp, h95]
        refine reserved_ok ?_
        have : oneS b p = (⟨if (b.drop p).take (wRun b p) ∈ wordsS then 1 else 0, (b.drop p).take (wRun b p), 0, 0, p⟩, true) := by simp only [oneS]; rw [if_neg (by simp [hdg]), if_neg (by simp [h95]), if_pos h0]
        rw [this] at hK
        by_cases hm : (b.drop p).take (wRun b p) ∈ wordsS
        · simp -dsimp [n1, n2, hm]
          refine Gives.sub (h' := h) (by repeat first | exact Sub.refl _ | refine Sub.put ?_ | refine Sub.dropr ?_ (by simp [*])) ?_
          simpa [Mk.cells, hm] using hK
        · simp -dsimp [n1, n2, hm]
          refine Gives.sub (h' := h) (by repeat first | exact Sub.refl _ | refine Sub.put ?_ | refine Sub.dropr ?_ (by simp [*])) ?_
          simpa [Mk.cells, hm] using hK
    · simp -dsimp [h0, n1, n2]
      refine num_ok hl ?_
      simp -dsimp [n1, n2]
      intro id3 hd3
      simp at hd3
      obtain ⟨m1, m2, m3, m4, hd3⟩ := hd3
      simp -dsimp [n1, n2, m1, m2, m3, m4]
      refine z_ok ?_
      simp -dsimp [n1, n2, m1, m2, m3, m4]
      have : oneS b p = (⟨2, (b.drop p).take (wRun b p), FloatKind.f64.nearest (numS ((b.drop p).take (wRun b p))).1.1, FloatKind.f64.nearest (numS ((b.drop p).take (wRun b p))).1.2, p⟩, decide ((numS ((b.drop p).take (wRun b p))).2 = 0)) := by simp only [oneS]; rw [if_pos ⟨h0, hdg⟩]
      rw [this] at hK
      refine Gives.sub (h' := h) (by repeat first | exact Sub.refl _ | refine Sub.put ?_ | refine Sub.dropr ?_ (by simp [*])) ?_
      simpa [Mk.cells] using hK
  · have hz : wRun b p = 0 := by omega
    simp -dsimp [h0, n1, n2, hp]
    refine sign_ok hb hp ?_
    have hr2 := signN_le hp
    have hw2 : IntKind.i64.wrap ((p : Int) + (signN b p : Nat)) = ((p + signN b p : Nat) : Int) := by rw [wrap_i64] <;> omega
    have f1 : p ≤ p + signN b p := by omega
    have f2 : p + signN b p - p = signN b p := by omega
    simp -dsimp [-Int.natCast_add, n1, n2, hw2, hr2, f1, f2, bytesAV_take, bytesAV_drop]
    have : oneS b p = (⟨3, (b.drop p).take (signN b p), 0, 0, p⟩, decide (0 < signN b p)) := by
      simp only [oneS]; rw [if_neg (fun x => h0 x.1), if_neg (fun x => h0 x.1), if_neg h0]
    rw [this] at hK
    refine Gives.sub (h' := h) (by repeat first | exact Sub.refl _ | refine Sub.put ?_ | refine Sub.dropr ?_ (by simp [*])) ?_
    simpa [Mk.cells] using hK
end Go.Proofs.YtghidedifiolbaaGreat

/- All marks. -/
namespace Go.Proofs.YtghidedifiolbaaGreat
open Go.AM
variable {h : Hp} {K : AV → Hp → Prop}

theorem marks_ok {b : Bytes} {t : AV} (ht : t = .fz (bytesAV b) ∨ (b = [] ∧ t = .nl)) (hb : b.length ≤ 32768) (hK : K (marksAV (marksS b (b.length + 1) 0)) h) : ACalls Tryz.prog 61 [t] h K := by
  refine calls_of mixed Tryz.func61 comp61 (Nat.le_of_ble_eq_true rfl) ?_
  have hlen : ∀ h', aLen .sl t h' = some (.int .i64 b.length) := by
    rcases ht with rfl | ⟨rfl, rfl⟩ <;> intro h' <;> simp
  generalize hRR : marksS b (b.length + 1) 0 = R at hK
  simp -dsimp [c61]
  refine ALoop.start (fun n tm h' => ∃ (p : Nat) (acc : List Mk), tm 0 = t ∧ tm 5 = .int .i64 p ∧ SlAt h h' 182 4 (tm 4) (acc.map Mk.cells) ∧ p ≤ b.length ∧ acc.length ≤ p ∧ b.length + 1 ≤ n + p ∧ joinM acc (marksS b n p) = R) (b.length + 1)
    ⟨0, [], by simp, by simp, by simpa using SlAt.nil _ _ _, by simp, by simp, by simp, by rw [joinM_nil]; exact hRR⟩ ?_
  rintro n tm h' ⟨p, acc, t0, t5, hs, hpb, hacc, hn, hR⟩
  obtain ⟨n, rfl⟩ : ∃ m, n = m + 1 := ⟨n - 1, by omega⟩
  by_cases hp : p < b.length
  · have htf : t = .fz (bytesAV b) := by
      rcases ht with e | ⟨e, _⟩
      · exact e
      · rw [e] at hp; simp at hp
    subst htf
    have hw1 : IntKind.i64.wrap ((p : Int) + 1) = ((p + 1 : Nat) : Int) := by rw [wrap_i64] <;> omega
    simp only [marksS, if_pos hp] at hR
    simp -dsimp [t0, t5, hp]
    refine blank_ok ?_
    by_cases hbl : blankB (byteAt b p) = true
    · rw [if_pos hbl] at hR
      simp -dsimp [hbl, hw1, t5]
      exact Again.same (m := n) (by omega) ⟨p + 1, acc, by simp [t0], by simp, by simpa using hs, by omega, by omega, by omega, hR⟩
    · rw [if_neg hbl] at hR
      by_cases h35 : ((byteAt b p).toNat : Int) = 35
      · rw [if_pos h35] at hR
        simp -dsimp [hbl, t0, t5, hp, h35]
        have hsk := skipN_le b hpb
        have hpos := skipN_pos hp h35
        refine ALoop.start (fun k tm2 h2 => ∃ i : Nat, i + k = skipN b p ∧ tm2 0 = .fz (bytesAV b) ∧ tm2 5 = .int .i64 ((p + i : Nat) : Int) ∧ SlAt h h2 182 4 (tm2 4) (acc.map Mk.cells)) (skipN b p) ⟨0, by simp, by simp [t0], by simp [t5], by simpa using hs⟩ ?_
        rintro k tm2 h2 ⟨i, hi, u0, u5, hs2⟩
        have hw2 : IntKind.i64.wrap (((p + i : Nat) : Int) + 1) = ((p + (i + 1) : Nat) : Int) := by rw [wrap_i64] <;> omega
        rcases Nat.lt_or_ge i (skipN b p) with hlt | hge
        · obtain ⟨g1, g2⟩ := skipN_in hlt
          simp [notNl] at g2
          simp -dsimp [-Int.natCast_add, u0, u5, g1, g2, hw2]
          exact Again.same (m := k - 1) (by omega) ⟨i + 1, by omega, by simp [u0], by simp [-Int.natCast_add], by simpa using hs2⟩
        · have he : i = skipN b p := by omega
          subst he
          by_cases hl : p + skipN b p < b.length
          · have g2 := skipN_out hl
            simp [notNl] at g2
            simp -dsimp [-Int.natCast_add, u0, u5, hl, g2]
            exact Again.same (m := n) (by omega) ⟨p + skipN b p, acc, by simp [u0], by simp [-Int.natCast_add, u5], by simpa using hs2, by omega, by omega, by omega, hR⟩
          · simp -dsimp [-Int.natCast_add, u0, u5, hl]
            exact Again.same (m := n) (by omega) ⟨p + skipN b p, acc, by simp [u0], by simp [-Int.natCast_add, u5], by simpa using hs2, by omega, by omega, by omega, hR⟩
      · rw [if_neg h35] at hR
        simp -dsimp [hbl, t0, t5, hp, h35]
        refine one_ok (by omega) hp ?_
        simp -dsimp
        intro id hd
        by_cases hok : (oneS b p).2 = true
        · rw [if_pos hok, joinM_pre] at hR
          obtain ⟨g1, g2⟩ := oneS_len hp hok
          simp -dsimp [hok]
          intro id2 hd2
          simp at hd2
          obtain ⟨n1, n2, hd2⟩ := hd2
          simp -dsimp [n1, n2]
          have hsub : Sub h' (hset (hset h' id (.cells (oneS b p).1.cells)) id2 (.arr 182 4 [(oneS b p).1.cells])) := by repeat first | exact Sub.refl _ | refine Sub.put ?_ | refine Sub.dropr ?_ (by simp [*])
          refine hs.app hsub (by simp) (by simp; omega) (by simp; omega) fun v' h2 h2' hs' hsub' hkeep => ?_
          have h6 : h2' id = .cells (oneS b p).1.cells := hkeep id _ (by simp [n2])
          have hw3 : IntKind.i64.wrap ((p : Int) + ((oneS b p).1.text.length : Nat)) = ((p + (oneS b p).1.text.length : Nat) : Int) := by rw [wrap_i64] <;> omega
          simp -dsimp [h6, t5, Mk.cells, hw3]
          exact Again.sub n h2 (by omega) hsub' ⟨p + (oneS b p).1.text.length, acc ++ [(oneS b p).1], by simp [t0], by simp, by simpa [Mk.cells] using hs', by omega, by simp; omega, by omega, hR⟩
        · rw [if_neg hok] at hR
          simp -dsimp [hok, t5]
          refine Gives.sub (h' := h) (hs.sub.dropr (hs.sub.dead hd)) ?_
          rw [← hR] at hK
          exact hK
  · simp only [marksS, if_neg hp] at hR
    simp -dsimp [t0, t5, hlen, hp]
    intro id2 hd2
    simp -dsimp
    refine hs.app (Sub.drop hd2) (by simp) (by simp; omega) (by simp; omega) fun v' h2 h2' hs' hsub' hkeep => ?_
    simp -dsimp
    refine Gives.frz (hs'.sub.trans hsub') (Frz.pair (hs'.frz (by simp) hsub') (.same _)) ?_
    rw [← hR] at hK
    simpa [joinM, marksAV, Mk.cells] using hK
end Go.Proofs.YtghidedifiolbaaGreat

/- The grammar: two operands; words. -/
namespace Go.Proofs.YtghidedifiolbaaGreat
open Go.AM
variable {h : Hp} {rid : Nat} {ms : List Mk} {s : St} {K : AV → Hp → Prop}

theorem two_ok {op : Int} {a b : Ex} {m : Mk} (hK : K (.agg (two op a b m).cells) h) : ACalls Tryz.prog 144 [.int .i64 op, .agg a.cells, .agg b.cells, .agg m.cells] h K := by
  refine calls_of mixed Tryz.func144 comp144 (Nat.le_of_ble_eq_true rfl) ?_
  simp -dsimp [c144]
  intro i1 d1
  simp -dsimp
  intro i2 d2
  simp at d2
  obtain ⟨n12, n21, d2⟩ := d2
  simp -dsimp
  intro i3 d3
  simp at d3
  obtain ⟨n32, n23, n31, n13, d3⟩ := d3
  simp -dsimp
  intro i4 d4
  simp at d4
  obtain ⟨n43, n34, n42, n24, n41, n14, d4⟩ := d4
  simp -dsimp [n12, n21, n32, n23, n31, n13, n43, n34, n42, n24, n41, n14]
  intro i5 d5
  simp at d5
  obtain ⟨n54, n45, n53, n35, n52, n25, n51, n15, d5⟩ := d5
  simp -dsimp [n12, n21, n32, n23, n31, n13, n43, n34, n42, n24, n41, n14, n54, n45, n53, n35, n52, n25, n51, n15]
  refine Gives.frz (h' := h) (by repeat first | exact Sub.refl _ | refine Sub.put ?_ | refine Sub.dropr ?_ (by simp [*])) (Frz.cell (a := [.int .i64 op, .str [], .str [], .int .i64 0, .cplx 0 0]) (b := [.int .i64 m.pos]) (Frz.rows (xs := [a.cells, b.cells]) (by simp [*]; exact ⟨rfl, rfl⟩) d5)) ?_
  simpa [two, Ex.cells, Ex.rows, rowsAV] using hK

theorem word_ok {t : Bytes} (hK : K (.int .i64 (wordS t)) h) : ACalls Tryz.prog 149 [.str t] h K := by
  refine calls_of mixed Tryz.func149 comp149 (Nat.le_of_ble_eq_true rfl) ?_
  by_cases e1 : t = [116, 114, 117, 101]
  · simp -dsimp [c149, e1]; exact Gives.same (by simpa [wordS, e1] using hK)
  by_cases e2 : t = [102, 97, 108, 115, 101]
  · simp -dsimp [c149, e2]; exact Gives.same (by simpa [wordS, e2] using hK)
  by_cases e3 : t = [110, 105, 108]
  · simp -dsimp [c149, e3]; exact Gives.same (by simpa [wordS, e3] using hK)
  by_cases e4 : t = [102, 97, 105, 108]
  · simp -dsimp [c149, e4]; exact Gives.same (by simpa [wordS, e4] using hK)
  by_cases e5 : t = [110, 111, 116]
  · simp -dsimp [c149, e5]; exact Gives.same (by simpa [wordS, e5] using hK)
  by_cases e6 : t = [114, 101]
  · simp -dsimp [c149, e6]; exact Gives.same (by simpa [wordS, e6] using hK)
  by_cases e7 : t = [105, 109]
  · simp -dsimp [c149, e7]; exact Gives.same (by simpa [wordS, e7] using hK)
  by_cases e8 : t = [99, 111, 110, 106]
  · simp -dsimp [c149, e8]; exact Gives.same (by simpa [wordS, e8] using hK)
  simp -dsimp [c149, e1, e2, e3, e4, e5, e6, e7, e8]
  exact Gives.same (by simpa [wordS, e1, e2, e3, e4, e5, e6, e7, e8] using hK)
end Go.Proofs.YtghidedifiolbaaGreat

/- The grammar: variables and calls. -/
namespace Go.Proofs.YtghidedifiolbaaGreat
open Go.AM
variable {h : Hp} {rid : Nat} {ms : List Mk} {s : St} {K : AV → Hp → Prop} {k : Nat} {e : St → Ex × St}

set_option maxHeartbeats 1000000 in
theorem named_ok (hg : Good ms) (he : Reads ms k e) (hc : Ctr Tryz.prog 125 ms k e) {m : Mk} (ha : s.at_ < ms.length) (hk : ms.length ≤ s.at_ + (k + 1)) (hn : 0 ≤ s.nest ∧ s.nest ≤ 32768) (hh : h rid = .cells (rdCells ms s))
    (hK : K (.agg (namedS ms e m s).1.cells) (hset h rid (.cells (rdCells ms (namedS ms e m s).2)))) : ACalls Tryz.prog 148 [.ptr rid 0, .agg m.cells] h K := by
  refine calls_of mixed Tryz.func148 comp148 (Nat.le_of_ble_eq_true rfl) ?_
  have hl := hg.le
  simp -dsimp [c148]
  intro i3 d3
  simp -dsimp
  intro i4 d4
  simp at d4
  obtain ⟨n43, n34, d4⟩ := d4
  obtain ⟨r3, q3⟩ := rd_ne hh d3
  obtain ⟨r4, q4⟩ := rd_ne hh d4
  simp -dsimp
  refine take_ok (s := s) hg (by simp [r3, r4, hh]) ha ?_
  by_cases hb : isB ms s [40] = true
  · have ha1 := isB_on hg ha hb
    simp -dsimp [hb, takeS, n43, n34, r3, q3, r4, q4]
    intro i5 d5
    simp at d5
    obtain ⟨r5, q5, n54, n45, n53, n35, d5⟩ := d5
    simp -dsimp [n43, n34, r3, q3, r4, q4, r5, q5, n54, n45, n53, n35]
    generalize hs0 : adv s = s0 at *
    have hb0 : s0.at_ = s.at_ + 1 := by rw [← hs0]; rfl
    have hw0 : s0.why = 0 := by rw [← hs0]; exact (isB_kind hb).1
    generalize hR : argsS ms e (ms.length + 1) [] s0 = R at *
    have hname : namedS ms e m s = (.mk 7 m.text [] 0 0 0 R.1 m.pos, wantS ms R.2 [41]) := by simp only [namedS, if_pos hb, hs0, hR]
    rw [hname] at hK
    have hmon : On ms s0 R.2 := by rw [← hR]; exact args_on hg he _ _ _ ha1.lt (by omega)
    refine ALoop.start (fun n tm h' => ∃ (acc : List Ex) (t : St) (v : AV), tm 0 = .ptr rid 0 ∧ tm 4 = .ptr i4 0 ∧ tm 5 = .ptr i5 0 ∧ h' rid = .cells (rdCells ms t) ∧ h' i4 = .cells ex0.cells ∧
      h' i5 = .cells [.int .i64 7, .str m.text, .str [], .int .i64 0, .cplx 0 0, v, .int .i64 m.pos] ∧ Own h h' 44 7 v (acc.map Ex.cells) ∧ Fr h h' rid ∧ On ms s0 t ∧
      argsS ms e n acc t = R ∧ (t.why = 0 → acc.length ≤ t.at_) ∧ acc.length ≤ t.at_ + 1 ∧ 1 ≤ n ∧ (t.why = 0 → ms.length + 1 ≤ t.at_ + n)) (ms.length + 1)
      ⟨[], s0, .nl, by simp, by simp, by simp, by simp [r3, r4, r5, q5, takeS, hb, hs0], by simp [n45, q4, r4, n54]; rfl, by simp, Own.nil,
        ((((Fr.refl.set d3).set d4).own).set d5), On.refl ha1.lt, hR, by simp, by simp, by omega, by omega⟩ ?_
    rintro n tm h' ⟨acc, t, v, t0, t4, t5, hr, hi4, hi5, ho, hf, hon, hRR, hac, hac1, hn1, hfu⟩
    obtain ⟨n, rfl⟩ : ∃ q, n = q + 1 := ⟨n - 1, by omega⟩
    have hn0 : 0 ≤ s0.nest ∧ s0.nest ≤ 32768 := by rw [← hs0]; exact hn
    by_cases hw : t.why = 0
    · by_cases hcl : isB ms t [41] = true
      · have hq : argsS ms e (n + 1) acc t = (acc, t) := by simp [argsS, hcl]
        rw [hq] at hRR
        subst hRR
        simp -dsimp [t0, hr, hw, rdCells, hcl]
        refine is_ok (s := t) hr hon.lt ?_
        simp -dsimp [t0, hcl]
        refine want_ok (s := t) hg hr hon.lt ?_
        simp -dsimp [t4, t5, hi4, hi5, q4, q5, r5, n45, n54]
        have hx : ((hset (hset h' rid (.cells (rdCells ms (wantS ms t [41])))) i4 (.cells [.int .i64 7, .str m.text, .str [], .int .i64 0, .cplx 0 0, v, .int .i64 m.pos])) : Hp) rid = .cells (rdCells ms (wantS ms t [41])) := by simp [r4]
        refine Gives.frz (h' := hset h rid (.cells (rdCells ms (wantS ms t [41])))) ((hf.own.set d4).sub hx) (Frz.cell (a := [.int .i64 7, .str m.text, .str [], .int .i64 0, .cplx 0 0]) (b := [.int .i64 m.pos]) (((ho.setc hr).setc (j := i4) (cs := ex0.cells) (by simp [q4, hi4])).frz (rid := rid) (x := rdCells ms (wantS ms t [41])) (by simp [r4]))) ?_
        simpa [Ex.cells, Ex.rows_map] using hK
      · have hq : argsS ms e (n + 1) acc t = argsS ms e n (acc ++ [(e (if acc = [] then t else wantS ms t [44])).1]) (e (if acc = [] then t else wantS ms t [44])).2 := by simp [argsS, hcl, hw]
        rw [hq] at hRR
        simp -dsimp [t0, hr, rdCells, hw]
        refine is_ok (s := t) hr hon.lt ?_
        simp -dsimp [t0, t5, hi5, hcl, ho.len]
        by_cases hacc : acc = []
        · have hs1 : On ms t t := On.refl hon.lt
          rw [if_pos hacc] at hRR
          simp -dsimp [t0, hacc]
          have hk1 := (he t hs1.lt (by have := hs1.le; have := hon.le; omega))
          refine hc (s := t) hs1.lt (by have := hs1.le; have := hon.le; omega) (by rw [hs1.nest, hon.nest]; exact hn0) hr ?_
          simp -dsimp
          intro i6 d6
          simp at d6
          obtain ⟨n6r, nr6, d6⟩ := d6
          have n65 : ¬ i6 = i5 := by rintro rfl; rw [d6] at hi5; cases hi5
          have n64 : ¬ i6 = i4 := by rintro rfl; rw [d6] at hi4; cases hi4
          have n56 : ¬ i5 = i6 := fun x => n65 x.symm
          simp -dsimp [t5, hi5, q5, r5, n6r, nr6, n65, n56]
          intro i7 d7
          simp at d7
          obtain ⟨n76, n67, n7r, nr7, d7⟩ : ¬ i7 = i6 ∧ ¬ i6 = i7 ∧ ¬ i7 = rid ∧ ¬ rid = i7 ∧ h' i7 = .dead := by
            simp_all
          have n75 : ¬ i7 = i5 := by rintro rfl; rw [d7] at hi5; cases hi5
          have n74 : ¬ i7 = i4 := by rintro rfl; rw [d7] at hi4; cases hi4
          have n57 : ¬ i5 = i7 := fun x => n75 x.symm
          have n47 : ¬ i4 = i7 := fun x => n74 x.symm
          have n46 : ¬ i4 = i6 := fun x => n64 x.symm
          simp -dsimp [t5, hi5, q5, r5, n6r, nr6, n65, n56, n75, n57]
          have hgo : (e t).2.why = 0 → t.at_ < (e t).2.at_ := fun x => hk1.2 hw x
          have hal := hac hw
          have hlt := hon.lt
          have hle1 := (hs1.trans hk1.1).le
          refine Own.app (h := h) (rid := rid) (x := rdCells ms (e t).2) (by first | exact ((ho.setc hr).setd (by simp [n6r, d6])).setd (by simp [n76, n7r, d7]) | exact (((ho.setc hr).setc (j := rid) (cs := rdCells ms t) (by simp)).setd (by simp [n6r, d6])).setd (by simp [n76, n7r, d7])) (by first | exact ((hf.own).set (hf.dead hr d6)).set (hf.dead hr d7) | exact ((hf.own.own).set (hf.dead hr d6)).set (hf.dead hr d7)) (by simp [nr6, nr7]) (by simp) (by simp; omega) (by simp; omega) (fun v' h2 ho2 hf2 hkeep => ?_)
          have e5 : h2 i5 = .cells [.int .i64 7, .str m.text, .str [], .int .i64 0, .cplx 0 0, v, .int .i64 m.pos] := hkeep i5 _ (by simp [r5, n56, n57, hi5])
          have er : h2 rid = .cells (rdCells ms (e t).2) := hkeep rid _ (by simp [nr6, nr7])
          have e4 : h2 i4 = .cells ex0.cells := hkeep i4 _ (by simp [q4, n46, n47, hi4])
          simp -dsimp [t5, e5, ho2.flat]
          exact Again.same n (by omega) ⟨acc ++ [(e t).1], (e t).2, v', by simp [t0], by simp [t4], by simp [t5], by simp [q5, er], by simp [n45, e4], by simp, by simpa using ho2.setc e5, hf2.set d5, (hon.trans hs1).trans hk1.1, hRR, by simp; omega, by simp; omega, by omega, by omega⟩
        · have hs1 : On ms t (wantS ms t [44]) := want_on hg hon.lt
          rw [if_neg hacc] at hRR
          have hpos : 0 < acc.length := List.length_pos_iff.2 hacc
          simp -dsimp [t0, hacc, hpos]
          refine want_ok (s := t) hg hr hon.lt ?_
          simp -dsimp [t0]
          have hk1 := (he (wantS ms t [44]) hs1.lt (by have := hs1.le; have := hon.le; omega))
          refine hc (s := (wantS ms t [44])) hs1.lt (by have := hs1.le; have := hon.le; omega) (by rw [hs1.nest, hon.nest]; exact hn0) (by simp [hr]) ?_
          simp -dsimp
          intro i6 d6
          simp at d6
          obtain ⟨n6r, nr6, d6⟩ := d6
          have n65 : ¬ i6 = i5 := by rintro rfl; rw [d6] at hi5; cases hi5
          have n64 : ¬ i6 = i4 := by rintro rfl; rw [d6] at hi4; cases hi4
          have n56 : ¬ i5 = i6 := fun x => n65 x.symm
          simp -dsimp [t5, hi5, q5, r5, n6r, nr6, n65, n56]
          intro i7 d7
          simp at d7
          obtain ⟨n76, n67, n7r, nr7, d7⟩ : ¬ i7 = i6 ∧ ¬ i6 = i7 ∧ ¬ i7 = rid ∧ ¬ rid = i7 ∧ h' i7 = .dead := by
            simp_all
          have n75 : ¬ i7 = i5 := by rintro rfl; rw [d7] at hi5; cases hi5
          have n74 : ¬ i7 = i4 := by rintro rfl; rw [d7] at hi4; cases hi4
          have n57 : ¬ i5 = i7 := fun x => n75 x.symm
          have n47 : ¬ i4 = i7 := fun x => n74 x.symm
          have n46 : ¬ i4 = i6 := fun x => n64 x.symm
          simp -dsimp [t5, hi5, q5, r5, n6r, nr6, n65, n56, n75, n57]
          have hgo : (e (wantS ms t [44])).2.why = 0 → t.at_ < (e (wantS ms t [44])).2.at_ := fun x => Nat.lt_of_lt_of_le (want_go (Decidable.byContradiction fun y => hk1.1.why y x)) hk1.1.le
          have hal := hac hw
          have hlt := hon.lt
          have hle1 := (hs1.trans hk1.1).le
          refine Own.app (h := h) (rid := rid) (x := rdCells ms (e (wantS ms t [44])).2) (by first | exact ((ho.setc hr).setd (by simp [n6r, d6])).setd (by simp [n76, n7r, d7]) | exact (((ho.setc hr).setc (j := rid) (cs := rdCells ms (wantS ms t [44])) (by simp)).setd (by simp [n6r, d6])).setd (by simp [n76, n7r, d7])) (by first | exact ((hf.own).set (hf.dead hr d6)).set (hf.dead hr d7) | exact ((hf.own.own).set (hf.dead hr d6)).set (hf.dead hr d7)) (by simp [nr6, nr7]) (by simp) (by simp; omega) (by simp; omega) (fun v' h2 ho2 hf2 hkeep => ?_)
          have e5 : h2 i5 = .cells [.int .i64 7, .str m.text, .str [], .int .i64 0, .cplx 0 0, v, .int .i64 m.pos] := hkeep i5 _ (by simp [r5, n56, n57, hi5])
          have er : h2 rid = .cells (rdCells ms (e (wantS ms t [44])).2) := hkeep rid _ (by simp [nr6, nr7])
          have e4 : h2 i4 = .cells ex0.cells := hkeep i4 _ (by simp [q4, n46, n47, hi4])
          simp -dsimp [t5, e5, ho2.flat]
          exact Again.same n (by omega) ⟨acc ++ [(e (wantS ms t [44])).1], (e (wantS ms t [44])).2, v', by simp [t0], by simp [t4], by simp [t5], by simp [q5, er], by simp [n45, e4], by simp, by simpa using ho2.setc e5, hf2.set d5, (hon.trans hs1).trans hk1.1, hRR, by simp; omega, by simp; omega, by omega, by omega⟩
    · have hq : argsS ms e (n + 1) acc t = (acc, t) := by simp [argsS, hw]
      rw [hq] at hRR
      subst hRR
      simp -dsimp [t0, hr, hw, rdCells]
      refine want_ok (s := t) hg hr hon.lt ?_
      simp -dsimp [t4, t5, hi4, hi5, q4, q5, r5, n45, n54]
      have hx : ((hset (hset h' rid (.cells (rdCells ms (wantS ms t [41])))) i4 (.cells [.int .i64 7, .str m.text, .str [], .int .i64 0, .cplx 0 0, v, .int .i64 m.pos])) : Hp) rid = .cells (rdCells ms (wantS ms t [41])) := by simp [r4]
      refine Gives.frz (h' := hset h rid (.cells (rdCells ms (wantS ms t [41])))) ((hf.own.set d4).sub hx) (Frz.cell (a := [.int .i64 7, .str m.text, .str [], .int .i64 0, .cplx 0 0]) (b := [.int .i64 m.pos]) (((ho.setc hr).setc (j := i4) (cs := ex0.cells) (by simp [q4, hi4])).frz (rid := rid) (x := rdCells ms (wantS ms t [41])) (by simp [r4]))) ?_
      simpa [Ex.cells, Ex.rows_map] using hK
  · simp -dsimp [hb, takeS, n43, n34, r3, q3, r4, q4]
    rw [show namedS ms e m s = (.mk 6 m.text [] 0 0 0 [] m.pos, s) by simp [namedS, hb]] at hK
    refine Gives.sub (by repeat first | exact Sub.refl _ | refine Sub.put ?_ | refine Sub.dropr ?_ (by simp [*])) hK
end Go.Proofs.YtghidedifiolbaaGreat

/- The grammar: units. -/
namespace Go.Proofs.YtghidedifiolbaaGreat
open Go.AM
variable {ms : List Mk} {k : Nat} {e : St → Ex × St}

theorem unit_ok (hg : Good ms) (he : Reads ms k e) (hc : Ctr Tryz.prog 125 ms k e) : Ctr Tryz.prog 147 ms (k + 1) (unitS ms e) := by
  intro rid s h K ha hk hn hh hK
  refine calls_of mixed Tryz.func147 comp147 (Nat.le_of_ble_eq_true rfl) ?_
  have hl := hg.le
  have hwp : IntKind.i64.wrap ((s.at_ : Int) + 1) = ((s.at_ + 1 : Nat) : Int) := by rw [wrap_i64] <;> omega
  simp -dsimp [c147]
  intro i2 d2
  obtain ⟨r2, q2⟩ := rd_ne hh d2
  simp -dsimp
  refine next_ok (s := s) (by simp [r2, hh]) ha ?_
  simp -dsimp
  intro i3 d3
  simp at d3
  obtain ⟨n32, n23, d3⟩ := d3
  obtain ⟨r3, q3⟩ := rd_ne hh d3
  have subs : ∀ X Y Z W : AObj, Sub (hset h rid X) (hset (hset (hset (hset h i2 Y) i3 Z) rid X) i2 W) := by
    intro X Y Z W
    repeat first | exact Sub.refl _ | refine Sub.put ?_ | refine Sub.dropr ?_ (by simp [*])
  by_cases hw : s.why = 0
  case neg =>
    rw [show unitS ms e s = (ex0, s) by simp [unitS, hw], hset_self hh] at hK
    simp -dsimp [r2, q2, r3, q3, n32, n23, hh, rdCells, hw]
    refine Gives.sub (by repeat first | exact Sub.refl _ | refine Sub.put ?_ | refine Sub.dropr ?_ (by simp [*])) hK
  by_cases k2 : (nx ms s).kind = 2
  · rw [show unitS ms e s = (.mk 1 [] [] 0 (nx ms s).re (nx ms s).im [] (nx ms s).pos, adv s) by simp [unitS, hw, k2]] at hK
    simp -dsimp [-Int.natCast_add, r2, q2, r3, q3, n32, n23, hh, rdCells, hw, k2, hwp]
    refine Gives.sub (subs _ _ _ _) ?_
    simpa [rdCells, adv, hw, Ex.cells, Ex.rows, rowsAV] using hK
  have k2' : ¬ (nx ms s).kind = 2 := k2
  by_cases k0 : (nx ms s).kind = 0
  · rw [show unitS ms e s = namedS ms e (nx ms s) (adv s) by simp [unitS, hw, k0]] at hK
    have ha1 := adv_on hg ha (by rw [k0]; decide)
    simp -dsimp [-Int.natCast_add, r2, q2, r3, q3, n32, n23, hh, rdCells, hw, k0, hwp]
    refine named_ok hg he hc (s := adv s) ha1.lt (by simp [adv]; omega) hn (by simp [rdCells, adv, hw]) ?_
    simp -dsimp [q2, n23, r2]
    refine Gives.sub (by repeat first | exact Sub.refl _ | refine Sub.put ?_ | refine Sub.dropr ?_ (by simp [*])) hK
  simp -dsimp [r2, q2, r3, q3, n32, n23, hh, rdCells, hw, k2, k0]
  refine take_ok (s := s) hg (by simp [r2, r3, hh]) ha ?_
  by_cases hb : isB ms s [40] = true
  · rw [show unitS ms e s = ((e (adv s)).1, wantS ms (e (adv s)).2 [41]) by simp [unitS, hw, k2, k0, hb]] at hK
    have ha1 := isB_on hg ha hb
    have he1 := (he (adv s) ha1.lt (by simp [adv]; omega)).1
    simp -dsimp [hb]
    refine hc (s := adv s) ha1.lt (by simp [adv]; omega) hn (by simp [takeS, hb]) ?_
    simp -dsimp
    intro i4 d4
    simp at d4
    obtain ⟨n4r, nr4, n43, n34, n42, n24, d4⟩ := d4
    simp -dsimp [nr4]
    refine want_ok (s := (e (adv s)).2) hg (by simp [nr4]) he1.lt ?_
    simp -dsimp [q2, n23, r2, n4r, nr4, n43, n34, n42, n24]
    refine Gives.sub (Fr.sub (rid := rid) (by repeat first | exact Fr.refl | refine Fr.own ?_ | refine Fr.set ?_ (by assumption)) (by simp [r2])) hK
  have htk : takeS ms s [40] = s := by simp [takeS, hb]
  by_cases hwd : (nx ms s).kind ≠ 1 ∨ wordS (nx ms s).text = 0
  · rw [show unitS ms e s = (ex0, failS ms s 21) by simp only [unitS, hw, k2, k0, hb]; simp [hwd]] at hK
    rw [htk]
    by_cases k1 : (nx ms s).kind = 1
    · have hwd0 : wordS (nx ms s).text = 0 := by rcases hwd with x | x; exact absurd k1 x; exact x
      simp -dsimp [hb, r2, q2, r3, q3, n32, n23, k1]
      refine word_ok ?_
      simp -dsimp [hwd0]
      refine fail_ok (s := s) (by simp) ha ?_
      simp -dsimp [q2, n23, r2]
      refine Gives.sub (by repeat first | exact Sub.refl _ | refine Sub.put ?_ | refine Sub.dropr ?_ (by simp [*])) hK
    · simp -dsimp [hb, r2, q2, r3, q3, n32, n23, k1]
      refine fail_ok (s := s) (by simp) ha ?_
      simp -dsimp [q2, n23, r2]
      refine Gives.sub (by repeat first | exact Sub.refl _ | refine Sub.put ?_ | refine Sub.dropr ?_ (by simp [*])) hK
  · have k1 : (nx ms s).kind = 1 := Decidable.byContradiction fun x => hwd (.inl x)
    have w0 : ¬ wordS (nx ms s).text = 0 := fun x => hwd (.inr x)
    have ha1 := adv_on hg ha (by rw [k1]; decide)
    have hun : unitS ms e s = (if wordS (nx ms s).text = 5 then (.mk (wordS (nx ms s).text) [] [] (typS ms (adv s)).1 0 0 [] (nx ms s).pos, (typS ms (adv s)).2)
      else if oneArg (wordS (nx ms s).text) = true then
        (.mk (wordS (nx ms s).text) [] [] 0 0 0 [(e (wantS ms (adv s) [40])).1] (nx ms s).pos, wantS ms (e (wantS ms (adv s) [40])).2 [41])
      else (.mk (wordS (nx ms s).text) [] [] 0 0 0 [] (nx ms s).pos, adv s)) := by
      simp only [unitS]; rw [if_neg (by simp [hw]), if_neg k2, if_neg k0, if_neg hb, if_neg hwd]
    rw [hun] at hK
    rw [htk]
    simp -dsimp [hb, r2, q2, r3, q3, n32, n23, k1]
    refine word_ok ?_
    simp -dsimp [-Int.natCast_add, w0, rdCells, hwp, r2, q2, r3, q3, n32, n23]
    refine QCall.intro _ (word_ok ⟨rfl, rfl⟩) ?_
    simp -dsimp [Stable, AIns.wants, r2, q2, r3, q3, n32, n23]
    intro i5 d5
    simp at d5
    obtain ⟨n5r, nr5, n53, n35, n52, n25, d5⟩ := d5
    refine ⟨?_, ?_⟩
    · simp -dsimp [Stable, AIns.wants, QStep, r2, q2, r3, q3, n32, n23, n35, n53, nr5, n5r]
      exact word_ok ⟨rfl, rfl⟩
    simp -dsimp [r2, q2, r3, q3, n32, n23, n35, n53, nr5, n5r, n52, n25]
    generalize hop : wordS (nx ms s).text = op at *
    by_cases o5 : op = 5
    · rw [if_pos o5] at hK
      simp -dsimp [o5, r2, q2, r3, q3, n32, n23, n35, n53, nr5, n5r, n52, n25]
      refine typ_ok (s := adv s) hg (by simp [nr5, rdCells, adv]) ha1.lt ?_
      simp -dsimp [r2, q2, r3, q3, n32, n23, n35, n53, nr5, n5r, n52, n25]
      refine Gives.sub (h' := hset h rid (.cells (rdCells ms (typS ms (adv s)).2))) (Fr.sub (rid := rid) (by repeat first | exact Fr.refl | refine Fr.own ?_ | refine Fr.set ?_ (by assumption)) (by simp [r2, nr5])) ?_
      simpa [Ex.cells, Ex.rows, rowsAV, o5] using hK
    · rw [if_neg o5] at hK
      have he1 := want_on hg (t := [40]) ha1.lt
      have he2 := (he _ he1.lt (by have := he1.le; rw [adv_at] at this; omega)).1
      have arm : oneArg op = true → K (.agg (Ex.cells (.mk op [] [] 0 0 0 [(e (wantS ms (adv s) [40])).1] (nx ms s).pos))) (hset h rid (.cells (rdCells ms (wantS ms (e (wantS ms (adv s) [40])).2 [41])))) := by
        intro ho; rw [if_pos ho] at hK; exact hK
      by_cases o14 : op = 14
      · have hK' := arm (by simp [oneArg, o14])
        simp -dsimp [o5, o14]
        refine want_ok (s := adv s) hg (by simp [nr5, rdCells, adv]) ha1.lt ?_
        simp -dsimp
        refine hc (s := wantS ms (adv s) [40]) he1.lt (by have := he1.le; rw [adv_at] at this; omega) (by rw [he1.nest]; exact hn) (by simp) ?_
        simp -dsimp
        intro i6 d6
        simp at d6
        obtain ⟨n6r, nr6, n65, n56, _, _, n63, n36, n62, n26, d6⟩ := d6
        simp -dsimp [n6r, nr6, r2, q2, r3, q3, nr5, n5r]
        refine want_ok (s := (e (wantS ms (adv s) [40])).2) hg (by simp [nr6]) he2.lt ?_
        simp -dsimp [n6r, nr6, r2, q2, r3, q3, nr5, n5r]
        intro i7 d7
        simp at d7
        obtain ⟨n7r, nr7, n76, n67, _, _, n75, n57, _, _, n73, n37, n72, n27, d7⟩ := d7
        simp -dsimp [n6r, nr6, n65, n56, n62, n26, n63, n36, n7r, nr7, n76, n67, n75, n57, n73, n37, n72, n27, r2, q2, r3, q3, n32, n23, n35, n53, nr5, n5r, n52, n25]
        refine Gives.frz (h' := hset h rid (.cells (rdCells ms (wantS ms (e (wantS ms (adv s) [40])).2 [41])))) (Fr.sub (rid := rid) (by repeat first | exact Fr.refl | refine Fr.own ?_ | refine Fr.set ?_ (by assumption)) (by simp [r2, nr5, nr6, nr7]))
          (Frz.cell (a := [.int .i64 14, .str [], .str [], .int .i64 0, .cplx 0 0]) (b := [.int .i64 (nx ms s).pos]) (Frz.rows (id := i7) (e := 44) (sz := 7) (xs := [(e (wantS ms (adv s) [40])).1.cells]) ?_ ?_)) ?_
        · simp [n7r, n75, n72, n76]
        · simp [n7r, d7]
        simpa [Ex.cells, Ex.rows, rowsAV, o14] using hK'
      by_cases o15 : op = 15
      · have hK' := arm (by simp [oneArg, o15])
        simp -dsimp [o5, o14, o15]
        refine want_ok (s := adv s) hg (by simp [nr5, rdCells, adv]) ha1.lt ?_
        simp -dsimp
        refine hc (s := wantS ms (adv s) [40]) he1.lt (by have := he1.le; rw [adv_at] at this; omega) (by rw [he1.nest]; exact hn) (by simp) ?_
        simp -dsimp
        intro i6 d6
        simp at d6
        obtain ⟨n6r, nr6, n65, n56, _, _, n63, n36, n62, n26, d6⟩ := d6
        simp -dsimp [n6r, nr6, r2, q2, r3, q3, nr5, n5r]
        refine want_ok (s := (e (wantS ms (adv s) [40])).2) hg (by simp [nr6]) he2.lt ?_
        simp -dsimp [n6r, nr6, r2, q2, r3, q3, nr5, n5r]
        intro i7 d7
        simp at d7
        obtain ⟨n7r, nr7, n76, n67, _, _, n75, n57, _, _, n73, n37, n72, n27, d7⟩ := d7
        simp -dsimp [n6r, nr6, n65, n56, n62, n26, n63, n36, n7r, nr7, n76, n67, n75, n57, n73, n37, n72, n27, r2, q2, r3, q3, n32, n23, n35, n53, nr5, n5r, n52, n25]
        refine Gives.frz (h' := hset h rid (.cells (rdCells ms (wantS ms (e (wantS ms (adv s) [40])).2 [41])))) (Fr.sub (rid := rid) (by repeat first | exact Fr.refl | refine Fr.own ?_ | refine Fr.set ?_ (by assumption)) (by simp [r2, nr5, nr6, nr7]))
          (Frz.cell (a := [.int .i64 15, .str [], .str [], .int .i64 0, .cplx 0 0]) (b := [.int .i64 (nx ms s).pos]) (Frz.rows (id := i7) (e := 44) (sz := 7) (xs := [(e (wantS ms (adv s) [40])).1.cells]) ?_ ?_)) ?_
        · simp [n7r, n75, n72, n76]
        · simp [n7r, d7]
        simpa [Ex.cells, Ex.rows, rowsAV, o15] using hK'
      by_cases o16 : op = 16
      · have hK' := arm (by simp [oneArg, o16])
        simp -dsimp [o5, o14, o15, o16]
        refine want_ok (s := adv s) hg (by simp [nr5, rdCells, adv]) ha1.lt ?_
        simp -dsimp
        refine hc (s := wantS ms (adv s) [40]) he1.lt (by have := he1.le; rw [adv_at] at this; omega) (by rw [he1.nest]; exact hn) (by simp) ?_
        simp -dsimp
        intro i6 d6
        simp at d6
        obtain ⟨n6r, nr6, n65, n56, _, _, n63, n36, n62, n26, d6⟩ := d6
        simp -dsimp [n6r, nr6, r2, q2, r3, q3, nr5, n5r]
        refine want_ok (s := (e (wantS ms (adv s) [40])).2) hg (by simp [nr6]) he2.lt ?_
        simp -dsimp [n6r, nr6, r2, q2, r3, q3, nr5, n5r]
        intro i7 d7
        simp at d7
        obtain ⟨n7r, nr7, n76, n67, _, _, n75, n57, _, _, n73, n37, n72, n27, d7⟩ := d7
        simp -dsimp [n6r, nr6, n65, n56, n62, n26, n63, n36, n7r, nr7, n76, n67, n75, n57, n73, n37, n72, n27, r2, q2, r3, q3, n32, n23, n35, n53, nr5, n5r, n52, n25]
        refine Gives.frz (h' := hset h rid (.cells (rdCells ms (wantS ms (e (wantS ms (adv s) [40])).2 [41])))) (Fr.sub (rid := rid) (by repeat first | exact Fr.refl | refine Fr.own ?_ | refine Fr.set ?_ (by assumption)) (by simp [r2, nr5, nr6, nr7]))
          (Frz.cell (a := [.int .i64 16, .str [], .str [], .int .i64 0, .cplx 0 0]) (b := [.int .i64 (nx ms s).pos]) (Frz.rows (id := i7) (e := 44) (sz := 7) (xs := [(e (wantS ms (adv s) [40])).1.cells]) ?_ ?_)) ?_
        · simp [n7r, n75, n72, n76]
        · simp [n7r, d7]
        simpa [Ex.cells, Ex.rows, rowsAV, o16] using hK'
      by_cases o17 : op = 17
      · have hK' := arm (by simp [oneArg, o17])
        simp -dsimp [o5, o14, o15, o16, o17]
        refine want_ok (s := adv s) hg (by simp [nr5, rdCells, adv]) ha1.lt ?_
        simp -dsimp
        refine hc (s := wantS ms (adv s) [40]) he1.lt (by have := he1.le; rw [adv_at] at this; omega) (by rw [he1.nest]; exact hn) (by simp) ?_
        simp -dsimp
        intro i6 d6
        simp at d6
        obtain ⟨n6r, nr6, n65, n56, _, _, n63, n36, n62, n26, d6⟩ := d6
        simp -dsimp [n6r, nr6, r2, q2, r3, q3, nr5, n5r]
        refine want_ok (s := (e (wantS ms (adv s) [40])).2) hg (by simp [nr6]) he2.lt ?_
        simp -dsimp [n6r, nr6, r2, q2, r3, q3, nr5, n5r]
        intro i7 d7
        simp at d7
        obtain ⟨n7r, nr7, n76, n67, _, _, n75, n57, _, _, n73, n37, n72, n27, d7⟩ := d7
        simp -dsimp [n6r, nr6, n65, n56, n62, n26, n63, n36, n7r, nr7, n76, n67, n75, n57, n73, n37, n72, n27, r2, q2, r3, q3, n32, n23, n35, n53, nr5, n5r, n52, n25]
        refine Gives.frz (h' := hset h rid (.cells (rdCells ms (wantS ms (e (wantS ms (adv s) [40])).2 [41])))) (Fr.sub (rid := rid) (by repeat first | exact Fr.refl | refine Fr.own ?_ | refine Fr.set ?_ (by assumption)) (by simp [r2, nr5, nr6, nr7]))
          (Frz.cell (a := [.int .i64 17, .str [], .str [], .int .i64 0, .cplx 0 0]) (b := [.int .i64 (nx ms s).pos]) (Frz.rows (id := i7) (e := 44) (sz := 7) (xs := [(e (wantS ms (adv s) [40])).1.cells]) ?_ ?_)) ?_
        · simp [n7r, n75, n72, n76]
        · simp [n7r, d7]
        simpa [Ex.cells, Ex.rows, rowsAV, o17] using hK'
      simp -dsimp [o5, o14, o15, o16, o17]
      rw [if_neg (by simp [oneArg, o14, o15, o16, o17])] at hK
      simp -dsimp [r2, q2, r3, q3, n32, n23, n35, n53, nr5, n5r, n52, n25]
      refine Gives.sub (h' := hset h rid (.cells (rdCells ms (adv s)))) (Fr.sub (rid := rid) (by repeat first | exact Fr.refl | refine Fr.own ?_ | refine Fr.set ?_ (by assumption)) (by simp [r2, nr5, rdCells, adv])) ?_
      simpa [Ex.cells, Ex.rows, rowsAV] using hK

end Go.Proofs.YtghidedifiolbaaGreat
