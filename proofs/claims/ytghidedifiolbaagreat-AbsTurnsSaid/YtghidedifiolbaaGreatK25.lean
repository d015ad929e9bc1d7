/- The program's rows and tables: a cell, how many cells hold a value, a tuple's number, right tables. -/
import Derived.Test.YtghidedifiolbaaGreatK24
import Derived.Test.YtghidedifiolbaaGreatK08
import Derived.Test.YtghidedifiolbaaGreatK09
set_option linter.unusedVariables false
set_option linter.unusedSimpArgs false
namespace Go.Proofs.YtghidedifiolbaaGreat
open Go.AM
variable {h : Hp} {K : AV → Hp → Prop}

theorem rowOK_len {n : Int} {bits : List Nat} (hr : rowOK n bits = true) : 0 ≤ n ∧ n ≤ 4096 ∧ bits.length = wordsN n := by
  simp only [rowOK, Bool.and_eq_true, decide_eq_true_eq] at hr
  exact hr.1
theorem rget_ok {eb : Nat} {n : Int} {bits : List Nat} {v : AV} {i : Nat} (hb : W64 bits) (hv : LsV eb 1 h v (bitsAV bits)) (hr : rowOK n bits = true) (hi : (i : Int) < n) (hK : K (.tup [.int .i64 (cellB bits i : Nat), .int .i64 0]) h) : ACalls Tryz.prog 104 [.agg [.int .i64 n, v], .int .i64 i] h K := by
  obtain ⟨r0, r1, r2⟩ := rowOK_len hr
  have hwn : (wordsN n : Int) = (n + 31) / 32 := by simp only [wordsN]; omega
  have hlt : i / 32 < bits.length := by omega
  have hll : bits.length ≤ 200 := by omega
  refine calls_of mixed Tryz.func104 comp104 (Nat.le_of_ble_eq_true rfl) ?_
  simp -dsimp [c104]
  intro i1 d1
  have k1 : Keeps h (hset h i1 (.cells [.int .i64 n, v])) := (Keeps.refl h).new d1
  have hv1 := hv.keep (h1 := hset h i1 (.cells [.int .i64 n, v])) (fun id sz xs hh => at_new hh (by simp) d1)
  simp -dsimp
  refine rchk_ok (by omega) hb hv1 ?_
  rw [hr]
  obtain ⟨q, q1, _, q3, _⟩ := hv1.get (bitsAV_get hlt) rfl
  have q4 := q3 _ rfl
  have hx : bits[i / 32]? = some bits[i / 32] := List.getElem?_eq_getElem hlt
  have hxw := hb _ (List.getElem_mem hlt)
  have hcell : cellB bits i = bits[i / 32] / 4 ^ (i % 32) % 4 := by simp [cellB, List.getD, hlt]
  generalize bits[i / 32] = x at *
  have g0 : ¬ (i : Int) < 0 := by omega
  have g1 : ¬ n ≤ (i : Int) := by omega
  have hq : (i : Int).tdiv 32 = ((i / 32 : Nat) : Int) := by rw [Int.tdiv_eq_ediv_of_nonneg (by omega)]; omega
  have hm : (i : Int).tmod 32 = ((i % 32 : Nat) : Int) := by rw [Int.tmod_eq_emod_of_nonneg (by omega)]; omega
  have hw1 : IntKind.i64.wrap ((i / 32 : Nat) : Int) = ((i / 32 : Nat) : Int) := by rw [wrap_i64] <;> omega
  have hmul : IntKind.i64.wrap (2 * ((i % 32 : Nat) : Int)) = ((2 * (i % 32) : Nat) : Int) := by rw [wrap_i64] <;> omega
  have hsh : abin .shr (.int .u64 (x : Int)) (.int .i64 ((2 * (i % 32) : Nat) : Int)) = some (.int .u64 ((x / 2 ^ (2 * (i % 32)) : Nat) : Int)) := u64_shr _ .i64 (by omega)
  have e4 : x / 2 ^ (2 * (i % 32)) = x / 4 ^ (i % 32) := by rw [Nat.pow_mul]
  rw [e4] at hsh
  have hz : x / 4 ^ (i % 32) < 2 ^ 64 := Nat.lt_of_le_of_lt (Nat.div_le_self _ _) hxw
  rw [hcell] at hK
  generalize x / 4 ^ (i % 32) = z at *
  have hand : abin .and (.int .u64 (z : Int)) (.int .u64 3) = some (.int .u64 ((z % 4 : Nat) : Int)) := by rw [← u64_and3 z hz]; exact u64_and hz (by decide)
  have hcv : IntKind.i64.wrap ((z % 4 : Nat) : Int) = ((z % 4 : Nat) : Int) := by rw [wrap_i64] <;> omega
  generalize z % 4 = y at *
  generalize 2 * (i % 32) = sh at *
  generalize i % 32 = im at *
  generalize i / 32 = iq at *
  simp -dsimp [g0, g1, hq, hm, hw1, hmul, hsh, hand, hcv, q1, q4]
  exact Gives.sub k1.sub hK
theorem cntV_snoc (bits : List Nat) (x v : Nat) : cntV (bits ++ [x]) v = cntV bits v + popN (maskN x v) := by simp [cntV]
theorem rcount_ok {eb : Nat} {n : Int} {bits : List Nat} {v : AV} {u : Nat} (hu : u = 2 ∨ u = 3) (hb : W64 bits) (hv : LsV eb 1 h v (bitsAV bits)) (hr : rowOK n bits = true) (hK : K (.tup [.int .i64 (cntV bits u : Nat), .int .i64 0]) h) : ACalls Tryz.prog 95 [.agg [.int .i64 n, v], .int .i64 u] h K := by
  obtain ⟨r0, r1, r2⟩ := rowOK_len hr
  have hwn : (wordsN n : Int) = (n + 31) / 32 := by simp only [wordsN]; omega
  have hll : bits.length ≤ 200 := by omega
  have hlen := hv.len
  rw [bitsAV_length] at hlen
  refine calls_of mixed Tryz.func95 comp95 (Nat.le_of_ble_eq_true rfl) ?_
  simp -dsimp [c95]
  intro i1 d1
  have k1 : Keeps h (hset h i1 (.cells [.int .i64 n, v])) := (Keeps.refl h).new d1
  have hv1 := hv.keep (h1 := hset h i1 (.cells [.int .i64 n, v])) (fun id sz xs hh => at_new hh (by simp) d1)
  simp -dsimp
  refine rchk_ok (by omega) hb hv1 ?_
  rw [hr]
  have g0 : ¬ (u : Int) < 0 := by omega
  have g1 : ¬ 3 < (u : Int) := by omega
  have g2 : ¬ (u : Int) = 0 := by omega
  have g3 : ¬ u = 0 := by omega
  have hcv : IntKind.u64.wrap (u : Int) = (u : Int) := by rw [wrap_u64 (by omega) (by omega)]
  have hmul : IntKind.u64.wrap ((u : Int) * 6148914691236517205) = ((u * low64 : Nat) : Int) := by
    rcases hu with rfl | rfl <;> decide
  simp -dsimp [g0, g1, g2, hcv, hmul, hlen, -Int.natCast_mul]
  have hul := unlike_lt hu
  refine ALoop.start (fun m tm h' => ∃ i : Nat, i + m = bits.length ∧ tm 1 = .int .i64 u ∧ tm 7 = .int .u64 ((u * low64 : Nat) : Int) ∧ tm 27 = v ∧ tm 28 = .int .i64 bits.length ∧ tm 29 = .int .i64 i ∧ tm 8 = .int .i64 (cntV (bits.take i) u : Nat) ∧ h' = hset h i1 (.cells [.int .i64 n, v])) bits.length
    ⟨0, by simp, by simp, by simp, by simp, by simp, by simp, by simp [cntV], rfl⟩ ?_
  rintro m tm h' ⟨i, hi, t1, t7, t27, t28, t29, t8, rfl⟩
  by_cases hlt : i < bits.length
  · have hw1 : IntKind.i64.wrap ((i : Int) + 1) = ((i + 1 : Nat) : Int) := by rw [wrap_i64] <;> omega
    obtain ⟨q, q1, _, q3, _⟩ := hv1.get (bitsAV_get hlt) rfl
    have q4 := q3 _ rfl
    have hxw := hb _ (List.getElem_mem hlt)
    have htk := take_snoc bits hlt
    have hcl := cntV_le (bits.take i) u
    have htl : (bits.take i).length ≤ 200 := by simp; omega
    generalize bits[i] = x at *
    have hdl : x ^^^ (u * low64) < 2 ^ 64 := Nat.xor_lt_two_pow hxw hul
    have hxor : abin .xor (.int .u64 (x : Int)) (.int .u64 ((u * low64 : Nat) : Int)) = some (.int .u64 ((x ^^^ (u * low64) : Nat) : Int)) := u64_xor hxw hul
    have hmd : maskN x u = (2 ^ 64 - (((x ^^^ (u * low64)) ||| (x ^^^ (u * low64)) / 2) + 1)) &&& low64 := rfl
    generalize hd : x ^^^ (u * low64) = d at *
    have hshr : abin .shr (.int .u64 (d : Int)) (.int .u64 1) = some (.int .u64 ((d / 2 : Nat) : Int)) := u64_shr 1 .u64 (by decide)
    have hd2 : d / 2 < 2 ^ 64 := by omega
    generalize d / 2 = d2 at *
    have hor : abin .or (.int .u64 (d : Int)) (.int .u64 (d2 : Int)) = some (.int .u64 ((d ||| d2 : Nat) : Int)) := u64_or hdl hd2
    have hol := Nat.or_lt_two_pow hdl hd2
    generalize d ||| d2 = o at *
    have hnot : aun .xor (.int .u64 (o : Int)) = some (.int .u64 ((2 ^ 64 - (o + 1) : Nat) : Int)) := u64_not hol
    have hcl2 : 2 ^ 64 - (o + 1) < 2 ^ 64 := by omega
    generalize 2 ^ 64 - (o + 1) = z at *
    have hand : abin .and (.int .u64 (z : Int)) (.int .u64 6148914691236517205) = some (.int .u64 ((maskN x u : Nat) : Int)) := by rw [hmd]; exact u64_and hcl2 (by decide)
    have hml := mask_lt x u
    have hpl := popN_le (maskN x u)
    have hsn := cntV_snoc (bits.take i) x u
    rw [← htk] at hsn
    generalize maskN x u = mk at *
    simp -dsimp [t27, t28, t29, hlt, q1, q4, t7, hxor, hshr, hor, hand, t8, -Int.natCast_mul, -aun_xor, hnot]
    refine pop_ok hml ?_
    have hw2 : IntKind.i64.wrap ((cntV (bits.take i) u : Nat) + (popN mk : Nat) : Int) = ((cntV (bits.take (i + 1)) u : Nat) : Int) := by rw [hsn, wrap_i64] <;> omega
    simp -dsimp [t29, hw1, hw2, -Int.natCast_mul]
    exact Again.same (m - 1) (by omega) ⟨i + 1, by omega, by simp [t1], by simp [t7], by simp [t27], by simp [t28], by simp, by simp, rfl⟩
  · have htk : bits.take i = bits := List.take_of_length_le (by omega)
    rw [htk] at t8
    simp -dsimp [t28, t29, hlt, t1, g2, g3, t8]
    exact Gives.sub k1.sub hK

theorem allPt_bad {l q : List Int} {i : Nat} {t x : Int} (h1 : l[i]? = some t) (h2 : q[i]? = some x) (hb : isPt t x = false) : allPt l q = false := by
  cases h : allPt l q with
  | false => rfl
  | true => rw [allPt_get h h1 h2] at hb; cases hb
theorem hornS_take_bound {l q : List Int} (hb : badT l = false) (hp : prodS l ≤ 4096) (hl : l.length = q.length) (i : Nat) (ha : allPt (l.take i) (q.take i) = true) : 0 ≤ hornS (l.take i) (q.take i) 0 ∧ hornS (l.take i) (q.take i) 0 < 4096 := by
  have h1 := hornS_bound (l.take i) (q.take i) 0 1 (by simp [hl]) ha (badT_take hb i) (Int.le_refl 0) (by decide)
  have h2 := prodS_take hb i
  rw [Int.one_mul] at h1
  omega
theorem tnum_ok {e1 e2 : Nat} {l q : List Int} {v w : AV} (hl : l.length ≤ 9223372036854775807) (hlq : q.length ≤ 9223372036854775807) (hv : LsV e1 1 h v (intRows l)) (hw : LsV e2 1 h w (intRows q)) (hK : K (.tup [.int .i64 (numT l q).1, .int .i64 (numT l q).2]) h) : ACalls Tryz.prog 49 [v, w] h K := by
  have hlenv := hv.len
  have hlenw := hw.len
  rw [intRows_length] at hlenv hlenw
  refine calls_of mixed Tryz.func49 comp49 (Nat.le_of_ble_eq_true rfl) ?_
  simp -dsimp [c49]
  refine tcnt_ok hl hv ?_
  by_cases hc : (cntS l).2 = 0
  · obtain ⟨hb, hp, hce⟩ := cntS_ok hc
    by_cases hlen : q.length = l.length
    · have hlen' : ((q.length : Int) = (l.length : Int)) := by omega
      simp -dsimp [hc, hlenv, hlenw, hlen', hlen]
      refine ALoop.start (fun n tm h' => ∃ i : Nat, i + n = l.length ∧ tm 0 = v ∧ tm 27 = w ∧ tm 28 = .int .i64 l.length ∧ tm 29 = .int .i64 i ∧ tm 8 = .int .i64 (hornS (l.take i) (q.take i) 0) ∧ allPt (l.take i) (q.take i) = true ∧ h' = h) l.length
        ⟨0, by simp, by simp, by simp, by simp, by simp, by simp [hornS], by simp [allPt], rfl⟩ ?_
      rintro n tm h' ⟨i, hi, t0, t27, t28, t29, t8, ha, rfl⟩
      have hll : l.length ≤ 4096 := cntS_len hc
      by_cases hlt : i < l.length
      · have hw1 : IntKind.i64.wrap ((i : Int) + 1) = ((i + 1 : Nat) : Int) := by rw [wrap_i64] <;> omega
        have hltq : i < q.length := by omega
        obtain ⟨a, a1, _, a3, _⟩ := hv.get (intRows_get hlt) rfl
        obtain ⟨b, b1, _, b3, _⟩ := hw.get (intRows_get hltq) rfl
        have a4 := a3 _ rfl
        have b4 := b3 _ rfl
        have hli : l[i]? = some l[i] := List.getElem?_eq_getElem hlt
        have hqi : q[i]? = some q[i] := List.getElem?_eq_getElem hltq
        have tkl := take_snoc l hlt
        have tkq := take_snoc q hltq
        have hbnd := hornS_take_bound hb hp hlen.symm i ha
        have ht := badT_mem hb (List.getElem_mem hlt)
        generalize l[i] = t at *
        generalize q[i] = x at *
        simp -dsimp [t0, t27, t28, t29, hlt, a1, a4, b1, b4]
        refine pchk_ok ?_
        by_cases hpt : isPt t x = true
        · have hck : chkP t x = 0 := by simp [chkP, ht, hpt]
          rw [hck]
          simp -dsimp [t0, a1, a4]
          refine tsize_ok ?_
          rw [sizP_ok ht]
          have hs := sizT_pos ht
          have hse : (sizT t : Int) = topS t + 1 := by simp only [sizT]; omega
          have hsn := hornS_snoc (l.take i) (q.take i) t x 0 (by simp [hlen])
          rw [← tkl, ← tkq] at hsn
          have hap := allPt_snoc (l.take i) (q.take i) t x (by simp [hlen])
          rw [← tkl, ← tkq, ha, hpt] at hap
          have hbnd2 := hornS_take_bound hb hp hlen.symm (i + 1) hap
          generalize hornS (l.take i) (q.take i) 0 = c0 at *
          have hmm : 0 ≤ c0 * (sizT t : Int) ∧ c0 * (sizT t : Int) ≤ 4096 * 4 := by
            refine ⟨Int.mul_nonneg hbnd.1 (by omega), ?_⟩
            have h1 : c0 * (sizT t : Int) ≤ 4096 * (sizT t : Int) := Int.mul_le_mul_of_nonneg_right (by omega) (by omega)
            omega
          have hw2 : IntKind.i64.wrap (c0 * (sizT t : Int)) = c0 * (sizT t : Int) := by rw [wrap_i64] <;> omega
          have hw3 : IntKind.i64.wrap (c0 * (sizT t : Int) + x) = hornS (l.take (i + 1)) (q.take (i + 1)) 0 := by
            have e5 : c0 * (sizT t : Int) + x = hornS (l.take (i + 1)) (q.take (i + 1)) 0 := by rw [hsn, hse]
            rw [e5, wrap_i64] <;> omega
          simp -dsimp [t8, t29, hw1, hw2, hw3]
          exact Again.same (n - 1) (by omega) ⟨i + 1, by omega, by simp [t0], by simp [t27], by simp [t28], by simp, by simp, hap, rfl⟩
        · have hpt' : isPt t x = false := by simpa using hpt
          have hck : chkP t x = 2 := by simp [chkP, ht, hpt']
          have hab := allPt_bad hli hqi hpt'
          rw [hck]
          simp -dsimp
          exact Gives.same (by simpa [numT, hc, hlen, hab] using hK)
      · have hi2 : i = l.length := by omega
        have e1 : l.take i = l := List.take_of_length_le (by omega)
        have e2 : q.take i = q := List.take_of_length_le (by omega)
        rw [e1, e2] at ha t8
        simp -dsimp [t28, t29, hlt, t8]
        exact Gives.same (by simpa [numT, hc, hlen, ha] using hK)
    · have hlen' : ¬ ((q.length : Int) = (l.length : Int)) := by omega
      simp -dsimp [hc, hlenv, hlenw, hlen', hlen]
      exact Gives.same (by simpa [numT, hc, hlen] using hK)
  · simp -dsimp [hc]
    exact Gives.same (by simpa [numT, hc] using hK)

/-! ### Right tables -/
def DenT (eb : Nat) (h : Hp) (t : Tb) (row : List AV) : Prop := ∃ ep pv bv, row = [pv, .int .i64 t.ty, .int .i64 t.n, bv] ∧ LsV ep 1 h pv (intRows t.params) ∧ LsV eb 1 h bv (bitsAV t.bits) ∧ W64 t.bits ∧ t.params.length ≤ 9223372036854775807 ∧ t.bits.length ≤ 9223372036854775807
theorem pts_ok {t : Tb} (hr : rowOK t.n t.bits = true) (hw : W64 t.bits) (ht : 0 ≤ topS t.ty) : (t.pts.all fun c => decide (c ≤ topS t.ty)) = true ↔ ∀ v : Nat, sizT t.ty ≤ v → v < 4 → cntV t.bits v = 0 := by
  obtain ⟨r0, r1, r2⟩ := rowOK_len hr
  have hbey : ∀ i, i < 32 * t.bits.length → (i : Int) < t.n ∨ cellB t.bits i = 0 := by
    simp only [rowOK, Bool.and_eq_true, List.all_eq_true, List.mem_range, decide_eq_true_eq] at hr
    exact hr.2
  have hwn : (wordsN t.n : Int) = (t.n + 31) / 32 := by simp only [wordsN]; omega
  simp only [List.all_eq_true, decide_eq_true_eq, Tb.pts, List.mem_map, List.mem_range]
  have hs := sizT_pos (t := t.ty) (by omega)
  have hse : (sizT t.ty : Int) = topS t.ty + 1 := by simp only [sizT]; omega
  constructor
  · intro h1 v hv hv4
    rw [cntV_zero hw (by omega)]
    intro i hi he
    rcases hbey i hi with h2 | h2
    · have := h1 _ ⟨i, by omega, rfl⟩
      omega
    · omega
  · rintro h1 x ⟨i, hi, rfl⟩
    have hc := cellB_lt t.bits i
    refine Decidable.byContradiction fun hn => ?_
    have hv : sizT t.ty ≤ cellB t.bits i := by omega
    have h2 := h1 (cellB t.bits i) hv hc
    rw [cntV_zero hw (by omega)] at h2
    exact h2 i (by omega) rfl
theorem tbchk_ok {eb : Nat} {t : Tb} {row : List AV} (hd : DenT eb h t row) (hK : K (.int .i64 (if tbOK t then 0 else 3)) h) : ACalls Tryz.prog 66 [.agg row] h K := by
  obtain ⟨ep, pv, bv, rfl, hpv, hbv, hw, hl1, hl2⟩ := hd
  have hlp := hpv.len
  have hfl := fun (hh : Hp) => hbv.len hh
  refine calls_of mixed Tryz.func66 comp66 (Nat.le_of_ble_eq_true rfl) ?_
  simp -dsimp [c66]
  intro i1 d1
  generalize hcs : [pv, AV.int .i64 t.ty, AV.int .i64 t.n, bv] = cs at *
  have k1 : Keeps h (hset h i1 (.cells cs)) := (Keeps.refl h).new d1
  have hpv1 := hpv.keep (h1 := hset h i1 (.cells cs)) (fun id sz xs hh => at_new hh (by simp) d1)
  have hbv1 := hbv.keep (h1 := hset h i1 (.cells cs)) (fun id sz xs hh => at_new hh (by simp) d1)
  have q0 : cs[0]? = some pv := by rw [← hcs]; rfl
  have q1 : cs[1]? = some (.int .i64 t.ty) := by rw [← hcs]; rfl
  have q2 : cs[2]? = some (.int .i64 t.n) := by rw [← hcs]; rfl
  have q24 : (cs.drop 2).take 2 = [.int .i64 t.n, bv] := by rw [← hcs]; rfl
  have ql : cs.length = 4 := by rw [← hcs]; rfl
  have r0 : ∀ hh, cs[0]'hh = pv := fun hh => (List.getElem?_eq_some_iff.1 q0).2
  have r1 : ∀ hh, cs[1]'hh = .int .i64 t.ty := fun hh => (List.getElem?_eq_some_iff.1 q1).2
  have r2 : ∀ hh, cs[2]'hh = .int .i64 t.n := fun hh => (List.getElem?_eq_some_iff.1 q2).2
  simp -dsimp [q0]
  refine tcnt_ok hl1 hpv1 ?_
  simp -dsimp [q1]
  refine tsize_ok ?_
  have hbad : tbOK t = false → K (.int .i64 3) h := fun hf => by rw [hf] at hK; exact hK
  by_cases hc : (cntS t.params).2 = 0
  · by_cases ht : topS t.ty < 0
    · rw [sizP_bad ht]
      simp -dsimp [hc]
      exact Gives.sub k1.sub (hbad (by simp [tbOK]; omega))
    · rw [sizP_ok ht]
      by_cases hn : t.n = (cntS t.params).1
      · simp -dsimp [hc, q2, q24, ql, hn, r2]
        rw [← hn]
        refine rchk_ok hl2 hw hbv1 ?_
        by_cases hr : rowOK t.n t.bits = true
        · rw [hr]
          have hs := sizT_pos ht
          simp -dsimp
          refine ALoop.start (fun m tm h' => ∃ v : Nat, v + m = 4 ∧ sizT t.ty ≤ v ∧ tm 1 = .ptr i1 0 ∧ tm 7 = .int .i64 v ∧ (∀ u : Nat, sizT t.ty ≤ u → u < v → cntV t.bits u = 0) ∧ h' = hset h i1 (.cells cs)) (4 - sizT t.ty)
            ⟨sizT t.ty, by omega, Nat.le_refl _, by simp, by simp, (fun u h1 h2 => by omega), rfl⟩ ?_
          rintro m tm h' ⟨v, hm, hv, t1, t7, hu, rfl⟩
          by_cases hlt : v < 4
          · have hlt' : (v : Int) < 4 := by omega
            have hw1 : IntKind.i64.wrap ((v : Int) + 1) = ((v + 1 : Nat) : Int) := by rw [wrap_i64] <;> omega
            simp -dsimp [t1, t7, hlt', q24, ql]
            refine rcount_ok (by omega) hw hbv1 hr ?_
            by_cases hz : cntV t.bits v = 0
            · have hz' : ¬ (0 : Int) < ((cntV t.bits v : Nat) : Int) := by omega
              simp -dsimp [hz, t7, hw1]
              exact Again.same (m - 1) (by omega) ⟨v + 1, by omega, by omega, by simp [t1], by simp, (fun u h1 h2 => by
                by_cases e : u = v
                · rw [e]; exact hz
                · exact hu u h1 (by omega)), rfl⟩
            · have hz' : (0 : Int) < ((cntV t.bits v : Nat) : Int) := by omega
              have hz2 : 0 < cntV t.bits v := by omega
              simp -dsimp [hz', hz2]
              refine Gives.sub k1.sub (hbad ?_)
              have hnot : ¬ (t.pts.all fun c => decide (c ≤ topS t.ty)) = true := fun hp => hz ((pts_ok hr hw (by omega)).1 hp v hv hlt)
              have hf : (t.pts.all fun c => decide (c ≤ topS t.ty)) = false := by simpa using hnot
              simp only [tbOK, hf, Bool.and_false]
          · have hlt' : ¬ (v : Int) < 4 := by omega
            simp -dsimp [t7, hlt']
            refine Gives.sub k1.sub ?_
            have hp := (pts_ok hr hw (by omega)).2 (fun u h1 h2 => hu u h1 (by omega))
            have : tbOK t = true := by
              simp only [tbOK, hp, hr, Bool.and_true, decide_eq_true_eq]
              exact ⟨hc, hn, by omega⟩
            rw [this] at hK
            exact hK
        · have hr' : rowOK t.n t.bits = false := by simpa using hr
          rw [hr']
          simp -dsimp
          exact Gives.sub k1.sub (hbad (by simp [tbOK, hr']))
      · simp -dsimp [hc, q2, ql, hn, r2]
        exact Gives.sub k1.sub (hbad (by simp [tbOK, hn]))
  · simp -dsimp [hc]
    exact Gives.sub k1.sub (hbad (by simp [tbOK, hc]))
end Go.Proofs.YtghidedifiolbaaGreat

/- The document's answer for names: Has. -/
namespace Go.Proofs.YtghidedifiolbaaGreat
open Go.AM
variable {h : Hp} {K : AV → Hp → Prop}

theorem has_ok {l : List Bytes} {v : AV} {s : Bytes} (hl : l.length ≤ 1000000) (hv : IsStrs h v l) (hK : K (.bool (decide (s ∈ l))) h) : ACalls Tryz.prog 17 [v, .str s] h K := by
  refine calls_of mixed Tryz.func17 comp17 (Nat.le_of_ble_eq_true rfl) ?_
  simp -dsimp [c17]
  have hlen := hv.len
  refine ALoop.start (fun n tm h' => ∃ i : Nat, i + n = l.length ∧ tm 0 = v ∧ tm 1 = .str s ∧ tm 5 = .int .i64 i ∧ (∀ j (hj : j < l.length), j < i → l[j] ≠ s) ∧ h' = h) l.length ⟨0, by simp⟩ ?_
  rintro n tm h' ⟨i, hi, t0, t1, t5, hno, rfl⟩
  have hw1 : IntKind.i64.wrap ((i : Int) + 1) = ((i + 1 : Nat) : Int) := by rw [wrap_i64] <;> omega
  by_cases hlt : i < l.length
  · have next : ¬ l[i] = s → ∀ j (hj : j < l.length), j < i + 1 → l[j] ≠ s := by
      intro he j hj hji
      rcases Nat.lt_or_ge j i with h | h
      · exact hno j hj h
      · have : j = i := by omega
        subst this; exact he
    have hmem : l[i] = s → s ∈ l := fun he => he ▸ List.getElem_mem hlt
    have hfz : v = .fz (strRows l) ∨ ∃ id e, v = .sl id 0 l.length ∧ h' id = .arr e 1 (strRows l) := by
      rcases hv with e | e | e
      · left
        rw [e]
        cases l with
        | nil => simp at hlt
        | cons a l => rfl
      · exact .inl e
      · exact .inr e
    have hget : (strRows l)[i]? = some [.str l[i]] := by simp [strRows, hlt]
    rcases hfz with rfl | ⟨id, e, rfl, ha⟩
    · by_cases he : l[i] = s
      · simp -dsimp [t0, t1, t5, hlt, strRows, he]
        exact Gives.same (by simpa [hmem he] using hK)
      · simp -dsimp [t0, t1, t5, hlt, strRows, he, hw1]
        exact Again.same (n - 1) (by omega) ⟨i + 1, by omega, by simp [t0, strRows], by simp [t1], by simp, next he, rfl⟩
    · by_cases he : l[i] = s
      · simp -dsimp [t0, t1, t5, hlt, ha, strRows, he]
        exact Gives.same (by simpa [hmem he] using hK)
      · simp -dsimp [t0, t1, t5, hlt, ha, strRows, he, hw1]
        exact Again.same (n - 1) (by omega) ⟨i + 1, by omega, by simp [t0], by simp [t1], by simp, next he, rfl⟩
  · have : ¬ s ∈ l := by
      intro hm
      obtain ⟨j, hj, e⟩ := List.getElem_of_mem hm
      exact hno j hj (by omega) e
    simp -dsimp [t0, t1, t5, hlen, hlt]
    exact Gives.same (by simpa [this] using hK)

theorem bound_ok {e : Ex} {i : Int} (hK : K (rowsAV (strRows (boundS e i))) h) : ACalls Tryz.prog 131 [.agg e.cells, .int .i64 i] h K := by
  refine calls_of mixed Tryz.func131 comp131 (Nat.le_of_ble_eq_true rfl) ?_
  obtain ⟨op, name, tail, ty, re, im, args, pos⟩ := e
  simp -dsimp [c131, Ex.cells]
  intro i2 d2
  simp only [boundS, Ex.op, Ex.name, Ex.tail] at hK
  by_cases h21 : op = 21
  · simp -dsimp [h21]
    intro i3 d3
    simp at d3
    simp -dsimp
    refine Gives.frz (h' := h) (((Sub.refl h).dropr d2).dropr d3.2.2) (Frz.rows (e := 9) (sz := 1) (xs := [[.str name]]) (by simp) d3.2.2) ?_
    simpa [h21, strRows, rowsAV] using hK
  by_cases h22 : op = 22 ∧ i = 1
  · obtain ⟨a1, a2⟩ := h22
    simp -dsimp [a1, a2]
    intro i3 d3
    simp at d3
    simp -dsimp
    refine Gives.frz (h' := h) (((Sub.refl h).dropr d2).dropr d3.2.2) (Frz.rows (e := 9) (sz := 1) (xs := [[.str name]]) (by simp) d3.2.2) ?_
    simpa [a1, a2, strRows, rowsAV] using hK
  have hnn : ¬ (op = 21 ∨ op = 22 ∧ i = 1) := fun x => x.elim h21 h22
  simp only [hnn, if_false] at hK
  have none_case : ¬ (op = 20 ∧ i = 2) → K .nl h := by intro hc; simp only [hc, if_false] at hK; exact hK
  by_cases o22 : op = 22
  · have i1 : ¬ i = 1 := fun x => h22 ⟨o22, x⟩
    simp -dsimp [o22, i1]
    exact Gives.sub (h' := h) (Sub.drop d2) (none_case (by omega))
  by_cases o20 : op = 20
  · by_cases i2' : i = 2
    · simp only [o20, i2', and_self, if_true] at hK
      simp -dsimp [o20, i2']
      intro i3 d3
      simp at d3
      simp -dsimp
      refine Gives.frz (h' := h) (((Sub.refl h).dropr d2).dropr d3.2.2) (Frz.rows (e := 9) (sz := 1) (xs := [[.str name], [.str tail]]) (by simp) d3.2.2) ?_
      simpa [strRows, rowsAV] using hK
    · simp -dsimp [o20, i2']
      exact Gives.sub (h' := h) (Sub.drop d2) (none_case (by omega))
  · simp -dsimp [h21, o22, o20]
    exact Gives.sub (h' := h) (Sub.drop d2) (none_case (by omega))
end Go.Proofs.YtghidedifiolbaaGreat

/- The document's answer for names: with, heads. -/
namespace Go.Proofs.YtghidedifiolbaaGreat
open Go.AM
variable {h : Hp} {K : AV → Hp → Prop}

theorem with_ok {l m : List Bytes} {v w : AV} (hl : l.length ≤ 1000000) (hm : m.length ≤ 1000000) (hv : elemsOf h 1 v = some (strRows l)) (hw : w = rowsAV (strRows m)) (hK : K (rowsAV (strRows (l ++ m))) h) : ACalls Tryz.prog 48 [v, w] h K := by
  refine calls_of mixed Tryz.func48 comp48 (Nat.le_of_ble_eq_true rfl) ?_
  simp -dsimp [c48, hv]
  refine Own.app0 (h := h) (rows := []) (.inl ⟨rfl, rfl⟩) (fun _ => .inr rfl) (by simp; omega) (by simp; omega) fun v1 h1 ho1 hf1 => ?_
  have hew : ∀ h', elemsOf h' 1 w = some (strRows m) := by
    intro h'
    rw [hw]
    cases m with
    | nil => rfl
    | cons a m => simp [strRows, rowsAV]
  simp -dsimp [hew]
  refine Own.app0 (h := h) ho1 hf1 (by simp; omega) (by simp; omega) fun v2 h2 ho2 hf2 => ?_
  simp -dsimp
  refine ho2.out hf2 ?_
  simpa [strRows] using hK

theorem heads_ok {l : List Df} {nm : Bytes} (hl : l.length ≤ 1000000) (hK : K (.int .i64 (headsS nm l 0)) h) : ACalls Tryz.prog 108 [progAV l, .str nm] h K := by
  refine calls_of mixed Tryz.func108 comp108 (Nat.le_of_ble_eq_true rfl) ?_
  simp -dsimp [c108, progAV]
  intro i2 d2
  simp -dsimp
  refine ALoop.start (fun n tm h' => ∃ i : Nat, i + n = l.length ∧ tm 1 = .str nm ∧ tm 2 = .ptr i2 0 ∧ tm 5 = .int .i64 i ∧ headsS nm (l.drop i) i = headsS nm l 0 ∧ h' = hset h i2 (.cells [rowsAV (l.map Df.cells)])) l.length ⟨0, by simp⟩ ?_
  rintro n tm h' ⟨i, hi, t1, t2, t5, hq, rfl⟩
  have hw1 : IntKind.i64.wrap ((i : Int) + 1) = ((i + 1 : Nat) : Int) := by rw [wrap_i64] <;> omega
  cases l with
  | nil =>
    simp at hi
    obtain ⟨rfl, rfl⟩ := hi
    simp -dsimp [t1, t2, t5, rowsAV]
    exact Gives.sub (h' := h) (Sub.drop d2) (by simpa [headsS] using hK)
  | cons f0 l0 =>
    have hrow : rowsAV ((f0 :: l0).map Df.cells) = .fz ((f0 :: l0).map Df.cells) := rfl
    rw [hrow]
    generalize hL : f0 :: l0 = l at *
    by_cases hlt : i < l.length
    · rw [List.drop_eq_getElem_cons hlt] at hq
      simp only [headsS] at hq
      have hc0 : (l[i]).cells[0] = .str (l[i]).name := rfl
      by_cases he : (l[i]).name = nm
      · rw [if_pos he] at hq
        simp -dsimp [t1, t2, t5, hlt, hc0, he]
        exact Gives.sub (h' := h) (Sub.drop d2) (by rw [hq]; exact hK)
      · rw [if_neg he] at hq
        simp -dsimp [t1, t2, t5, hlt, hc0, he, hw1]
        exact Again.same (n - 1) (by omega) ⟨i + 1, by omega, by simp [t1], by simp [t2], by simp, hq, rfl⟩
    · have hnil : l.drop i = [] := List.drop_eq_nil_of_le (by omega)
      rw [hnil] at hq
      simp -dsimp [t1, t2, t5, hlt]
      exact Gives.sub (h' := h) (Sub.drop d2) (by rw [← hq] at hK; exact hK)
end Go.Proofs.YtghidedifiolbaaGreat

/- The document's answer for names: what is seen. -/
namespace Go.Proofs.YtghidedifiolbaaGreat
open Go.AM

def snL : ACode := match c109.code with | .seq _ (.seq _ (.seq _ x)) => x | _ => .skip

theorem seen_loop {n0 : Nat} (rec : ∀ (e : Ex) (names : List Bytes) (v : AV) (h : Hp) (K : AV → Hp → Prop), e.size ≤ n0 → names.length + 2 * e.size ≤ 200000 → IsStrs h v names → K (rowsAV ((seenS names e).map seenRow)) h → ACalls Tryz.prog 109 [.agg e.cells, v] h K)
    {e : Ex} {names : List Bytes} {v vo : AV} {h h' : Hp} {K : AV → Hp → Prop} {tm : Tm} {i2 : Nat} (hsz : e.size ≤ n0 + 1) (hnm : names.length + 2 * e.size ≤ 200000) (hv : IsStrs h v names)
    (t1 : tm 1 = v) (t2 : tm 2 = .ptr i2 0) (t5 : tm 5 = vo) (ho : Own h h' 203 8 vo ((Ex.use names e).map seenRow)) (hf : Keeps h h') (hi2 : h' i2 = .cells e.cells) (d2 : h i2 = .dead)
    (hK : K (rowsAV ((seenS names e).map seenRow)) h) :
    AW Tryz.prog snL (fun e tm h' => match e with | .exit _ => False | _ => Gives K (some (tm 4)) h') tm h' := by
  have hargs : e.cells[5]? = some (rowsAV (e.args.map Ex.cells)) := by cases e; simp [Ex.cells, Ex.rows_map, Ex.args]
  have hsa := e.size_args
  have hla := Ex.sizeL_len e.args
  have h7 : e.cells.length = 7 := by simp
  simp -dsimp [snL, c109, t1, t2, t5]
  refine ALoop.start (fun n tm h' => ∃ i : Nat, i + n = e.args.length ∧ tm 1 = v ∧ tm 2 = .ptr i2 0 ∧ tm 6 = .int .i64 i ∧ h' i2 = .cells e.cells ∧ Keeps h h' ∧ Own h h' 203 8 (tm 5) ((Ex.use names e ++ seenL names e 0 (e.args.take i)).map seenRow)) e.args.length ⟨0, by simp, by simp [t1], by simp [t2], by simp, hi2, hf, by simpa [seenL, t5] using ho⟩ ?_
  rintro n tm h' ⟨i, hi, t1, t2, t6, hi2, hf, ho⟩
  have hw1 : IntKind.i64.wrap ((i : Int) + 1) = ((i + 1 : Nat) : Int) := by rw [wrap_i64] <;> omega
  by_cases hlt : i < e.args.length
  · have hmem : e.args[i].size ≤ Ex.sizeL e.args := Ex.size_mem (List.getElem_mem hlt)
    have hbl := boundS_length e (i : Int)
    have hul := use_length names e
    have htake : e.args.take (i + 1) = e.args.take i ++ [e.args[i]] := by simp
    have hsl := seenL_length names e 0 (e.args.take (i + 1))
    have htl : Ex.sizeL (e.args.take (i + 1)) ≤ Ex.sizeL e.args := by
      have := Ex.sizeL_append (e.args.take (i + 1)) (e.args.drop (i + 1))
      rw [List.take_append_drop] at this; omega
    have hsn := seenL_snoc names e (e.args.take i) 0 e.args[i]
    rw [← htake] at hsn
    have hmin : min i e.args.length = i := by omega
    simp only [List.length_take, hmin, Nat.zero_add] at hsn
    simp -dsimp [t1, t2, t6, hi2, h7, hargs, hlt]
    refine bound_ok ?_
    simp -dsimp [t1]
    have hvs : IsStrs h' v names := hv.keep hf
    refine with_ok (by omega) (by omega) hvs.elems rfl ?_
    simp -dsimp [t2, t6, hi2, h7, hargs, hlt]
    refine rec _ _ _ _ _ (by omega) (by simp only [List.length_append]; omega) (IsStrs.rows _) ?_
    have hlen := congrArg List.length hsn
    simp only [List.length_append] at hlen
    simp -dsimp
    refine ho.push hf (by simp only [List.length_map, List.length_append]; omega) (by decide) fun v' h2 ho2 hf2 hc2 => ?_
    simp -dsimp [t6, hw1]
    refine Again.same (n - 1) (by omega) ⟨i + 1, by omega, by simp [t1], by simp [t2], by simp, hc2 _ _ hi2, hf2, ?_⟩
    rw [hsn]
    simpa using ho2
  · have htk : e.args.take i = e.args := List.take_of_length_le (by omega)
    rw [htk] at ho
    simp -dsimp [t1, t2, t6, hi2, h7, hargs, hlt]
    refine ho.out hf ?_
    rw [← seenS_eq]
    exact hK
theorem seen_ok : ∀ (n : Nat) (e : Ex) (names : List Bytes) (v : AV) (h : Hp) (K : AV → Hp → Prop), e.size ≤ n → names.length + 2 * e.size ≤ 200000 → IsStrs h v names → K (rowsAV ((seenS names e).map seenRow)) h → ACalls Tryz.prog 109 [.agg e.cells, v] h K := by
  intro n
  induction n with
  | zero => intro e names v h K hn; have := e.size_pos; omega
  | succ n ih =>
    intro e names v h K hn hnm hv hK
    refine calls_of mixed Tryz.func109 comp109 (Nat.le_of_ble_eq_true rfl) ?_
    have h7 : e.cells.length = 7 := by simp
    have h0 : e.cells[0]? = some (.int .i64 e.op) := by cases e; rfl
    have h1 : e.cells[1]? = some (.str e.name) := by cases e; rfl
    have hsplit : c109.code = .seq (match c109.code with | .seq a _ => a | _ => .skip) (.seq (match c109.code with | .seq _ (.seq a _) => a | _ => .skip) (.seq (match c109.code with | .seq _ (.seq _ (.seq a _)) => a | _ => .skip) snL)) := rfl
    rw [hsplit]
    have tail := @seen_loop n ih e names v
    generalize snL = T at *
    simp -dsimp [c109]
    intro i2 d2
    simp -dsimp [h0]
    by_cases o6 : e.op = 6
    · simp -dsimp [o6, h1]
      refine has_ok (by omega) (hv.keep ((Keeps.refl h).new d2)) ?_
      simp -dsimp [Stable, AIns.wants, QStep, o6]
      intro i3 d3
      have e3 := d3
      simp at d3
      simp -dsimp
      intro i4 d4
      have e4 := d4
      simp [d3] at d4
      simp -dsimp
      refine tail (h := h) (i2 := i2) (by omega) hnm hv (by simp) (by simp) rfl ?_ ((((Keeps.refl h).new d2).new e3).new e4) (by simp [d3, d4]) d2 hK
      exact .inr ⟨i4, by simp [Ex.use, o6, seenRow], by simp [d4], by simp [Ex.use, o6, seenRow], by simp [Ex.use, o6, seenRow]⟩
    · by_cases o7 : e.op = 7
      · simp -dsimp [o7, o6]
        intro i3 d3
        have e3 := d3
        simp at d3
        simp -dsimp
        intro i4 d4
        have e4 := d4
        simp [d3] at d4
        simp -dsimp
        refine tail (h := h) (i2 := i2) (by omega) hnm hv (by simp) (by simp) rfl ?_ ((((Keeps.refl h).new d2).new e3).new e4) (by simp [d3, d4]) d2 hK
        exact .inr ⟨i4, by simp [Ex.use, o7, o6, seenRow], by simp [d4], by simp [Ex.use, o7, o6, seenRow], by simp [Ex.use, o7, o6, seenRow]⟩
      · simp -dsimp [o7, o6]
        refine tail (h := h) (i2 := i2) (by omega) hnm hv (by simp) (by simp) rfl ?_ ((Keeps.refl h).new d2) (by simp) d2 hK
        exact .inl ⟨by simp [Ex.use, o6, o7], by simp⟩
end Go.Proofs.YtghidedifiolbaaGreat

/- The document's answer for names: all faults, the least one. -/
namespace Go.Proofs.YtghidedifiolbaaGreat
open Go.AM

theorem faults_ok {p : List Df} {h : Hp} {K : AV → Hp → Prop} (hp : sizeP p ≤ 40000) (hK : K (rowsAV ((faultsS p).map fltRow)) h) : ACalls Tryz.prog 78 [progAV p] h K := by
  refine calls_of mixed Tryz.func78 comp78 (Nat.le_of_ble_eq_true rfl) ?_
  have hlen := sizeP_len p
  simp -dsimp [c78, progAV]
  intro i1 d1
  simp -dsimp
  refine ALoop.start (fun n tm h' => ∃ i : Nat, i + n = p.length ∧ tm 1 = .ptr i1 0 ∧ tm 4 = .int .i64 i ∧ h' i1 = .cells [rowsAV (p.map Df.cells)] ∧ Keeps h h' ∧ Own h h' 60 2 (tm 3) ((faultsL p 0 (p.take i)).map fltRow)) p.length ⟨0, by simp, by simp, by simp, by simp, (Keeps.refl h).new d1, .inl ⟨by simp [faultsL], by simp⟩⟩ ?_
  rintro n tm h' ⟨i, hi, t1, t4, hi1, hf, ho⟩
  have hw1 : IntKind.i64.wrap ((i : Int) + 1) = ((i + 1 : Nat) : Int) := by rw [wrap_i64] <;> omega
  by_cases hlt : i < p.length
  · have hsf : p[i].size ≤ sizeP p := sizeP_mem (List.getElem_mem hlt)
    have hls := faultsL_length p (p.take i) 0
    have hst := sizeP_take p i
    have hsz : p[i].size = 1 + p[i].params.length + p[i].body.size := rfl
    have hsn := faultsL_snoc p (p.take i) 0 p[i]
    rw [← take_snoc p hlt] at hsn
    have hmin : min i p.length = i := by omega
    simp only [List.length_take, hmin, Nat.zero_add] at hsn
    generalize hG : faultsL p 0 (p.take i) = G at *
    generalize hfe : p[i] = f at *
    have hget : p[i]? = some f := by rw [List.getElem?_eq_getElem hlt, hfe]
    simp -dsimp [t1, t4, hi1, hlt, hfe]
    intro i5 d5
    have c1 := cells_new (o' := .cells f.cells) hi1 d5
    have n15 := cells_ne hi1 d5
    simp -dsimp [t1, t4, hi1, n15]
    refine heads_ok (l := p) (by omega) ?_
    simp -dsimp [t4]
    refine ThenB.cut (fun tm h' => tm 1 = .ptr i1 0 ∧ tm 4 = .int .i64 i ∧ tm 5 = .ptr i5 0 ∧ h' i1 = .cells [rowsAV (p.map Df.cells)] ∧ h' i5 = .cells f.cells ∧ Keeps h h' ∧ Own h h' 60 2 (tm 3) ((G ++ (if headsS f.name p 0 < i then [(30, f.pos)] else [])).map fltRow)) ?_ ?_ ?_
    · intro hb
      have hb' := of_decide_eq_true hb
      simp -dsimp
      intro i6 d6
      have e6 := d6
      simp at d6
      simp -dsimp
      refine Own.pushE (h := h) ((ho.new d5).new e6) ((hf.new d5).new e6) (by simp; omega) (by decide) fun v' h2 ho2 hf2 hk2 => ?_
      simp -dsimp [t1, t4]
      refine ⟨hk2.cells (cells_new c1 e6), hk2.cells (cells_new (by simp) e6), hf2, ?_⟩
      simpa [hb', fltRow] using ho2
    · intro hb
      have hb' : ¬ headsS f.name p 0 < i := of_decide_eq_false hb
      simp -dsimp [t1, t4]
      exact ⟨c1, hf.new d5, by simpa [hb'] using ho.new d5⟩
    clear hi1 hf ho t1 t4 c1 d5
    rintro tm h' ⟨t1, t4, t5, hi1, hi5, hf, ho⟩
    generalize hD : (if headsS f.name p 0 < (i : Int) then [((30 : Int), f.pos)] else []) = D at *
    have hDl : D.length ≤ 1 := by rw [← hD]; split <;> simp
    simp -dsimp
    refine ALoop.start (fun n tm h' => ∃ k : Nat, k + n = f.params.length ∧ tm 1 = .ptr i1 0 ∧ tm 4 = .int .i64 i ∧ tm 5 = .ptr i5 0 ∧ tm 7 = .int .i64 k ∧ h' i1 = .cells [rowsAV (p.map Df.cells)] ∧ h' i5 = .cells f.cells ∧ Keeps h h' ∧
      Own h h' 60 2 (tm 3) ((G ++ D ++ parF [] (f.params.take k)).map fltRow) ∧ Own h h' 9 1 (tm 6) (strRows (pnames (f.params.take k)))) f.params.length
      ⟨0, by simp, by simp [t1], by simp [t4], by simp [t5], by simp, hi1, hi5, hf, by simpa [parF] using ho, .inl ⟨by simp [strRows, pnames], by simp⟩⟩ ?_
    clear hi1 hf ho t1 t4 t5 hi5
    rintro n' tm h' ⟨k, hk, t1, t4, t5, t7, hi1, hi5, hf, ho, ho6⟩
    have hw2 : IntKind.i64.wrap ((k : Int) + 1) = ((k + 1 : Nat) : Int) := by rw [wrap_i64] <;> omega
    by_cases hkl : k < f.params.length
    · have hps := parF_snoc (f.params.take k) [] f.params[k]
      rw [← take_snoc f.params hkl] at hps
      have hpl := parF_length (f.params.take k) []
      have hpn : pnames (f.params.take (k + 1)) = pnames (f.params.take k) ++ [f.params[k].name] := by rw [take_snoc f.params hkl]; simp only [pnames, List.map_append]; rfl
      have hpnl : (pnames (f.params.take k)).length = k := by simp [pnames]; omega
      have hmk : min k f.params.length = k := by omega
      simp only [List.length_take, hmk] at hpl
      rw [List.nil_append] at hps
      generalize hx : f.params[k] = x at *
      have hgx : f.params[k]? = some x := by rw [List.getElem?_eq_getElem hkl, hx]
      generalize hPF : parF [] (f.params.take k) = PF at *
      generalize hN : pnames (f.params.take k) = N at *
      simp -dsimp [t5, t7, hi5, hkl, hx]
      refine has_ok (by omega) ho6.isStrs ?_
      simp -dsimp
      refine ThenB.cut (fun tm h' => tm 1 = .ptr i1 0 ∧ tm 4 = .int .i64 i ∧ tm 5 = .ptr i5 0 ∧ tm 7 = .int .i64 k ∧ h' i1 = .cells [rowsAV (p.map Df.cells)] ∧ h' i5 = .cells f.cells ∧ Keeps h h' ∧
        Own h h' 60 2 (tm 3) ((G ++ D ++ (PF ++ (if x.name ∈ N then [(30, x.pos)] else []))).map fltRow) ∧ Own h h' 9 1 (tm 6) (strRows N)) ?_ ?_ ?_
      · intro hb
        have hb' : x.name ∈ N := of_decide_eq_true hb
        simp -dsimp [t5, t7, hi5, hkl, hx]
        intro i8 d8
        simp -dsimp
        refine Own.pushE (h := h) (ho.new d8) (hf.new d8) (by simp; omega) (by decide) fun v' h2 ho2 hf2 hk2 => ?_
        simp -dsimp [t1, t4, t5, t7]
        exact ⟨hk2.cells (cells_new hi1 d8), hk2.cells (cells_new hi5 d8), hf2, by simpa [hb', fltRow] using ho2, hk2.own (ho6.new d8) (by decide)⟩
      · intro hb
        have hb' : ¬ x.name ∈ N := of_decide_eq_false hb
        simp -dsimp [t1, t4, t5, t7]
        exact ⟨hi1, hi5, hf, by simpa [hb'] using ho, ho6⟩
      clear hi1 hf ho t1 t4 t5 hi5 t7 ho6
      rintro tm h' ⟨t1, t4, t5, t7, hi1, hi5, hf, ho, ho6⟩
      simp -dsimp [t5, t7, hi5, hkl, hx]
      intro i8 d8
      simp -dsimp
      refine Own.pushE (h := h) (ho6.new d8) (hf.new d8) (by simp; omega) (by decide) fun v' h2 ho2 hf2 hk2 => ?_
      simp -dsimp [t7, hw2]
      refine Again.same (n' - 1) (by omega) ⟨k + 1, by omega, by simp [t1], by simp [t4], by simp [t5], by simp, hk2.cells (cells_new hi1 d8), hk2.cells (cells_new hi5 d8), hf2, ?_, ?_⟩
      · rw [hps]; simpa using hk2.own (ho.new d8) (by decide)
      · rw [hpn]; simpa [strRows] using ho2
    · have htk : f.params.take k = f.params := List.take_of_length_le (by omega)
      rw [htk] at ho ho6
      have hpl := parF_length f.params []
      have hpnl : (pnames f.params).length = f.params.length := by simp [pnames]
      simp -dsimp [t5, t7, hi5, hkl]
      refine seen_ok _ _ _ _ _ _ (Nat.le_refl _) (by omega) ho6.isStrs ?_
      have hFF : faultF p i f = D ++ parF [] f.params ++ usesF p (seenS (pnames f.params) f.body) := by rw [← hD]; rfl
      have hsl := seenS_length (pnames f.params) f.body
      generalize hS : seenS (pnames f.params) f.body = S at *
      generalize hPF : parF [] f.params = PF at *
      simp -dsimp
      clear ho6
      refine ALoop.start (fun n tm h' => ∃ k : Nat, k + n = S.length ∧ tm 1 = .ptr i1 0 ∧ tm 4 = .int .i64 i ∧ tm 8 = rowsAV (S.map seenRow) ∧ tm 9 = .int .i64 k ∧ h' i1 = .cells [rowsAV (p.map Df.cells)] ∧ Keeps h h' ∧
        Own h h' 60 2 (tm 3) ((G ++ D ++ PF ++ usesF p (S.take k)).map fltRow)) S.length
        ⟨0, by simp, by simp [t1], by simp [t4], by simp, by simp, hi1, hf, by simpa [usesF] using ho⟩ ?_
      clear hi1 hf ho t1 t4 t5 hi5 t7
      rintro n'' tm h' ⟨k, hk, t1, t4, t8, t9, hi1, hf, ho⟩
      have hw3 : IntKind.i64.wrap ((k : Int) + 1) = ((k + 1 : Nat) : Int) := by rw [wrap_i64] <;> omega
      by_cases hkl : k < S.length
      · have hus := usesF_snoc p (S.take k) S[k]
        rw [← take_snoc S hkl] at hus
        have hul := usesF_length p (S.take k)
        have hmk : min k S.length = k := by omega
        simp only [List.length_take, hmk] at hul
        generalize hx : S[k] = x at *
        have hgx : S[k]? = some x := by rw [List.getElem?_eq_getElem hkl, hx]
        generalize hU : usesF p (S.take k) = U at *
        obtain ⟨x, b⟩ := x
        simp -dsimp [t8, t9, hkl, hx]
        intro i10 d10
        have e1 := cells_new (o' := .cells x.cells) hi1 d10
        have n15 := cells_ne hi1 d10
        simp -dsimp [t8, t9, hkl, hx, seenRow, n15]
        have hdrop : x.cells.drop 7 = [] := by simp
        refine ThenB.cut (fun tm h' => tm 1 = .ptr i1 0 ∧ tm 4 = .int .i64 i ∧ tm 8 = rowsAV (S.map seenRow) ∧ tm 9 = .int .i64 k ∧ tm 10 = .ptr i10 0 ∧ h' i1 = .cells [rowsAV (p.map Df.cells)] ∧ h' i10 = .cells x.cells ∧ Keeps h h' ∧
          Own h h' 60 2 (tm 3) ((G ++ D ++ PF ++ (U ++ (if b = true then [(31, x.pos)] else []))).map fltRow)) ?_ ?_ ?_
        · intro hb
          simp -dsimp
          intro i8 d8
          simp -dsimp
          refine Own.pushE (h := h) ((ho.new d10).new d8) ((hf.new d10).new d8) (by simp; omega) (by decide) fun v' h2 ho2 hf2 hk2 => ?_
          simp -dsimp [t1, t4, t8, t9]
          exact ⟨hk2.cells (cells_new e1 d8), hk2.cells (cells_new (by simp) d8), hf2, by simpa [hb, fltRow] using ho2⟩
        · intro hb
          simp -dsimp [t1, t4, t8, t9]
          exact ⟨e1, hf.new d10, by simpa [hb] using ho.new d10⟩
        clear hi1 hf ho t1 t4 t8 t9 e1 d10
        rintro tm h' ⟨t1, t4, t8, t9, t10, hi1, hi10, hf, ho⟩
        have hue : useF p (x, b) = (if b = true then [(31, x.pos)] else []) ++
          (if x.op ≠ 7 then [] else if headsS x.name p 0 < 0 then [(32, x.pos)] else if (p.getD (headsS x.name p 0).toNat ⟨[], [], 0, ex0, 0⟩).params.length ≠ x.args.length then [(33, x.pos)] else []) := rfl
        generalize hB : (if b = true then [((31 : Int), x.pos)] else []) = B at *
        have hBl : B.length ≤ 1 := by rw [← hB]; split <;> simp
        have done : ∀ (tm : Tm) (h' : Hp) (l : List Flt), useF p (x, b) = B ++ l → tm 1 = .ptr i1 0 → tm 4 = .int .i64 i → tm 8 = rowsAV (S.map seenRow) → tm 9 = .int .i64 ((k + 1 : Nat) : Int) → h' i1 = .cells [rowsAV (p.map Df.cells)] → Keeps h h' →
            Own h h' 60 2 (tm 3) ((G ++ D ++ PF ++ (U ++ B) ++ l).map fltRow) → ∃ k : Nat, k + (n'' - 1) = S.length ∧ tm 1 = .ptr i1 0 ∧ tm 4 = .int .i64 i ∧ tm 8 = rowsAV (S.map seenRow) ∧ tm 9 = .int .i64 k ∧ h' i1 = .cells [rowsAV (p.map Df.cells)] ∧ Keeps h h' ∧
            Own h h' 60 2 (tm 3) ((G ++ D ++ PF ++ usesF p (S.take k)).map fltRow) := fun tm h' l hl a1 a2 a3 a4 a5 a6 a7 => ⟨k + 1, by omega, a1, a2, a3, a4, a5, a6, by rw [hus, hl]; simpa using a7⟩
        by_cases o7 : x.op = 7
        · simp -dsimp [t1, t10, hi1, hi10, o7]
          refine heads_ok (l := p) (by omega) ?_
          simp -dsimp
          by_cases hneg : headsS x.name p 0 < 0
          · simp only [o7, ne_eq, not_true_eq_false, if_false, if_pos hneg] at hue
            refine ThenB_split ?_ ?_
            · intro _
              simp -dsimp [t10, hi10]
              intro i8 d8
              simp -dsimp
              refine Own.pushE (h := h) (ho.new d8) (hf.new d8) (by simp; omega) (by decide) fun v' h2 ho2 hf2 hk2 => ?_
              simp -dsimp [t9, hw3]
              exact Again.same (n'' - 1) (by omega) (done _ _ _ hue (by simp [t1]) (by simp [t4]) (by simp [t8]) (by simp) (hk2.cells (cells_new hi1 d8)) hf2 (by simpa [fltRow] using ho2))
            · intro hb; simp [hneg] at hb
          · obtain ⟨m, hm, em, _⟩ := headsS_at hneg
            have hgm : p[m]? = some p[m] := List.getElem?_eq_getElem hm
            have hm0 : ¬ ((m : Int) < 0) := by omega
            simp only [o7, ne_eq, not_true_eq_false, if_false, em, if_neg hm0, Int.toNat_natCast, List.getD, hgm, Option.getD_some] at hue
            generalize hg : p[m] = g at *
            refine ThenB_split ?_ ?_
            · intro hb; simp [hneg] at hb
            · intro _
              simp -dsimp [t1, t10, hi1, hi10, em, hgm]
              by_cases hne : g.params.length = x.args.length
              · simp only [hne, not_true_eq_false, if_false] at hue
                refine ThenB_split ?_ ?_
                · intro hb; simp [hne] at hb
                · intro _
                  simp -dsimp [t9, hw3]
                  exact Again.same (n'' - 1) (by omega) (done _ _ _ hue (by simp [t1]) (by simp [t4]) (by simp [t8]) (by simp) hi1 hf (by simpa using ho))
              · simp only [hne, not_false_eq_true, if_true] at hue
                refine ThenB_split ?_ ?_
                · intro _
                  simp -dsimp [t10, hi10]
                  intro i8 d8
                  simp -dsimp
                  refine Own.pushE (h := h) (ho.new d8) (hf.new d8) (by simp; omega) (by decide) fun v' h2 ho2 hf2 hk2 => ?_
                  simp -dsimp [t9, hw3]
                  exact Again.same (n'' - 1) (by omega) (done _ _ _ hue (by simp [t1]) (by simp [t4]) (by simp [t8]) (by simp) (hk2.cells (cells_new hi1 d8)) hf2 (by simpa [fltRow] using ho2))
                · intro hb
                  have hb2 : (g.params.length : Int) = x.args.length := by simpa using hb
                  exact absurd (by omega) hne
        · simp only [o7, ne_eq, not_false_eq_true, if_true] at hue
          simp -dsimp [t1, t10, hi1, hi10, o7, t9, hw3]
          exact Again.same (n'' - 1) (by omega) (done _ _ _ hue (by simp [t1]) (by simp [t4]) (by simp [t8]) (by simp) hi1 hf (by simpa using ho))
      · have htk : S.take k = S := List.take_of_length_le (by omega)
        rw [htk] at ho
        simp -dsimp [t8, t9, hkl, t4, hw1]
        refine Again.same (n - 1) (by omega) ⟨i + 1, by omega, by simp [t1], by simp, hi1, hf, ?_⟩
        rw [hsn, hFF]
        simpa using ho
  · have htk : p.take i = p := List.take_of_length_le (by omega)
    rw [htk] at ho
    simp -dsimp [t1, t4, hi1, hlt]
    exact ho.out hf hK

theorem check06_ok {p : List Df} {h : Hp} {K : AV → Hp → Prop} (hp : sizeP p ≤ 40000) (hK : K (.agg (fltRow (check06 p))) h) : ACalls Tryz.prog 44 [progAV p] h K := by
  refine calls_of mixed Tryz.func44 comp44 (Nat.le_of_ble_eq_true rfl) ?_
  simp -dsimp [c44, progAV]
  intro i1 d1
  simp -dsimp
  intro i2 d2
  have n12 : ¬ i1 = i2 := hset_ne d2
  simp -dsimp [n12]
  refine faults_ok (p := p) hp ?_
  have hl := faultsL_length p p 0
  have hq : check06 p = least (0, 0) (faultsS p) := rfl
  have hl' : (faultsS p).length ≤ 80000 := Nat.le_trans hl (by omega)
  generalize faultsS p = L at *
  simp -dsimp
  intro i4 d4
  have n24 : ¬ i2 = i4 := hset_ne d4
  simp -dsimp
  refine ALoop.start (fun n tm h' => ∃ k : Nat, k + n = L.length ∧ tm 2 = .ptr i2 0 ∧ tm 3 = rowsAV (L.map fltRow) ∧ tm 4 = .ptr i4 0 ∧ tm 5 = .int .i64 k ∧ h' i2 = .cells [.int .i64 0, .int .i64 0] ∧ h' i4 = .cells (fltRow (least (0, 0) (L.take k))) ∧ Keeps h h') L.length
    ⟨0, by simp, by simp, by simp, by simp, by simp, by simp [n24], by simp [least, fltRow], (((Keeps.refl h).new d1).new d2).new d4⟩ ?_
  rintro n tm h' ⟨k, hk, t2, t3, t4, t5, hi2, hi4, hf⟩
  have hw : IntKind.i64.wrap ((k : Int) + 1) = ((k + 1 : Nat) : Int) := by rw [wrap_i64] <;> omega
  have n24 : ¬ i2 = i4 := n24
  have n42 : ¬ i4 = i2 := fun x => n24 x.symm
  have d2' : h i2 = .dead := ((Keeps.refl h).new d1).dead d2
  have d4' : h i4 = .dead := (((Keeps.refl h).new d1).new d2).dead d4
  by_cases hkl : k < L.length
  · have hls : least (0, 0) (L.take (k + 1)) = if (least (0, 0) (L.take k)).1 = 0 ∨ L[k].2 < (least (0, 0) (L.take k)).2 then L[k] else least (0, 0) (L.take k) := by
      rw [take_snoc L hkl]; simp only [least, List.foldl_append, List.foldl_cons, List.foldl_nil]; rfl
    generalize hx : L[k] = x at *
    generalize hz : least (0, 0) (L.take k) = z at *
    have again : ∀ (tm : Tm) (h' : Hp), tm 2 = .ptr i2 0 → tm 3 = rowsAV (L.map fltRow) → tm 4 = .ptr i4 0 → tm 5 = .int .i64 ((k + 1 : Nat) : Int) → h' i2 = .cells [.int .i64 0, .int .i64 0] → h' i4 = .cells (fltRow (if z.1 = 0 ∨ x.2 < z.2 then x else z)) → Keeps h h' →
       ∃ k : Nat, k + (n - 1) = L.length ∧ tm 2 = .ptr i2 0 ∧ tm 3 = rowsAV (L.map fltRow) ∧ tm 4 = .ptr i4 0 ∧ tm 5 = .int .i64 k ∧ h' i2 = .cells [.int .i64 0, .int .i64 0] ∧ h' i4 = .cells (fltRow (least (0, 0) (L.take k))) ∧ Keeps h h' :=
      fun tm h' a1 a2 a3 a4 a5 a6 a7 => ⟨k + 1, by omega, a1, a2, a3, a4, a5, by rw [hls]; exact a6, a7⟩
    by_cases hz0 : z.1 = 0
    · simp -dsimp [t2, t3, t4, t5, hi4, hkl, hx, fltRow, hz0, hw]
      exact Again.same (n - 1) (by omega) (again _ _ (by simp [t2]) (by simp [t3, fltRow]) (by simp [t4]) (by simp) (by simp [n24, hi2]) (by simp [hz0, fltRow]) (hf.set d4'))
    · by_cases hlt : x.2 < z.2
      · simp -dsimp [t2, t3, t4, t5, hi4, hkl, hx, fltRow, hz0, hlt, hw]
        exact Again.same (n - 1) (by omega) (again _ _ (by simp [t2]) (by simp [t3, fltRow]) (by simp [t4]) (by simp) (by simp [n24, hi2]) (by simp [hlt, fltRow]) (hf.set d4'))
      · simp -dsimp [t2, t3, t4, t5, hi4, hkl, hx, fltRow, hz0, hlt, hw]
        exact Again.same (n - 1) (by omega) (again _ _ (by simp [t2]) (by simp [t3, fltRow]) (by simp [t4]) (by simp) hi2 (by simp [hz0, hlt, hi4]) hf)
  · have htk : L.take k = L := List.take_of_length_le (by omega)
    rw [htk] at hi4
    simp -dsimp [t2, t3, t4, t5, hi4, hi2, hkl, fltRow]
    rw [hq] at hK
    exact Gives.sub (hf.set d2').sub hK
end Go.Proofs.YtghidedifiolbaaGreat
