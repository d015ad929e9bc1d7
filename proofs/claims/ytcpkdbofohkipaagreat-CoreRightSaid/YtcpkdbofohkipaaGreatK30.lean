/- The program's check of flat programs: one function, all of them. -/
import Derived.Test.YtcpkdbofohkipaaGreatK29
import Derived.Test.YtcpkdbofohkipaaGreatK28
import Derived.Test.YtcpkdbofohkipaaGreatK10
set_option linter.unusedVariables false
set_option linter.unusedSimpArgs false
namespace Go.Proofs.YtcpkdbofohkipaaGreat
open Go.AM

theorem lsV_elems {e sz : Nat} {h : Hp} {v : AV} {rows : List (List AV)} (a : LsV e sz h v rows) (hl : ∀ r ∈ rows, r.length = sz) : elemsOf h sz v = some rows := by
  have hfz : elemsOf h sz (.fz rows) = some rows := elemsOf_fz sz rows hl
  rcases a with rfl | rfl | ⟨id, xs, rfl, ha⟩
  · cases rows with
    | nil => rfl
    | cons r rs => exact hfz
  · exact hfz
  · rw [elemsOf_sl sz id 0 _ e _ ha (by simp)]
    simp
theorem keeps_changed' {h h1 h2 : Hp} (k : Keeps h h1) (hc : ∀ j, Free h .nl j ∨ h2 j = h1 j) : Keeps h h2 := fun j => by
  rcases k j with x | x
  · exact .inl x
  · rcases hc j with (y | y) | y
    · exact .inl y
    · exact absurd y not_nl
    · exact .inr (y.trans x)
theorem mks_ok {Q : Program} {Kk : AV → Hp → Prop} {tm : Tm} {h : Hp} {e sz b : Nat} {z : List AV} {x : AX} {k : IntKind} {n : Int} (hx : x.ev tm = .int k n) (h0 : 0 ≤ n) (h1 : n ≤ 4611686018427387904) (h2 : b * n.toNat ≤ 140737488355328)
    (hk : ∀ id, h id = .dead → Kk (.sl id 0 n.toNat) (hset h id (.arr e sz (List.replicate n.toNat z)))) : AStep Q (.mks e sz b z x x) Kk tm h := by
  simp only [AStep, hx]
  exact ⟨h0, Int.le_refl _, h1, h2, hk⟩
/-- A flat function in memory. -/
def DenS (h : Hp) (s : Sup) (row : List AV) : Prop := ∃ pv cs, row = [.str s.name, pv, .int .i64 s.ty, .int .i64 s.slots] ++ cs ∧ LsV 51 1 h pv (intRows s.params) ∧ DenC 111 61 h s.code cs
theorem function_ok {ps : List Nat} {vs : AV} {h : Hp} {K : AV → Hp → Prop} {s : Sup} {row : List AV} (hps : ps.length ≤ 1000000) (co : CoreAt h vs ps) (hd : DenS h s row) (hn : s.code.nums) (hb : bindsC s.code ≤ 1000000) (hpl : s.params.length ≤ 900000) (hsb : s.slots ≤ 9223372036854775807) (hK : K (.bool (funcC ps s)) h) :
    ACalls Tryz.prog 30 [.agg [vs], .agg row] h K := by
  obtain ⟨pv, cs, hrow, hpv, hdc⟩ := hd
  have hcl := hdc.len
  have hrl : row.length = 15 := by rw [hrow]; simp [hcl]
  have q1 : row[1]? = some pv := by rw [hrow]; rfl
  have q2 : row[2]? = some (.int .i64 s.ty) := by rw [hrow]; rfl
  have q3 : row[3]? = some (.int .i64 s.slots) := by rw [hrow]; rfl
  have q4 : (row.drop 4).take 11 = cs := by rw [hrow]; show cs.take 11 = cs; exact List.take_of_length_le (by omega)
  have hvf := co.flat
  have hpe := lsV_elems hpv (by intro r hr; simp only [intRows, List.mem_map] at hr; obtain ⟨_, _, rfl⟩ := hr; rfl)
  have hplen := hpv.len
  rw [intRows_length] at hplen
  refine calls_of mixed Tryz.func30 comp30 (Nat.le_of_ble_eq_true rfl) ?_
  simp -dsimp [c30, hvf]
  intro i2 d2
  simp -dsimp
  intro i3 d3
  have n23 := hset_ne d3
  have n32 : ¬ i3 = i2 := fun x => n23 x.symm
  have k3 : Keeps h (hset (hset h i2 (.cells [vs])) i3 (.cells row)) := ((Keeps.refl h).new d2).new d3
  simp -dsimp [q1, q2]
  intro i11 d11
  have n311 := cells_ne (hset_same (hset h i2 (.cells [vs])) i3 (.cells row)) d11
  have k11 := k3.new (o := .arr 51 1 [[.int .i64 s.ty]]) d11
  have zl : h i11 = .dead := k3.dead d11
  have hk11 : ∀ (id e sz : Nat) (xs : List (List AV)), h id = .arr e sz xs → hset (hset (hset h i2 (.cells [vs])) i3 (.cells row)) i11 (.arr 51 1 [[.int .i64 s.ty]]) id = .arr e sz xs := fun id e sz xs hh => k11.at hh (by simp)
  have hpe11 := lsV_elems (hpv.keep (fun id sz xs hh => hk11 id _ sz xs hh)) (by intro r hr; simp only [intRows, List.mem_map] at hr; obtain ⟨_, _, rfl⟩ := hr; rfl)
  have g2 : hset (hset (hset h i2 (.cells [vs])) i3 (.cells row)) i11 (.arr 51 1 [[.int .i64 s.ty]]) i2 = .cells [vs] := cells_new (by simp [n23]) d11
  have g3 : hset (hset (hset h i2 (.cells [vs])) i3 (.cells row)) i11 (.arr 51 1 [[.int .i64 s.ty]]) i3 = .cells row := cells_new (by simp) d11
  have o11 : OwnF h .nl (hset (hset (hset h i2 (.cells [vs])) i3 (.cells row)) i11 (.arr 51 1 [[.int .i64 s.ty]])) 51 1 (.sl i11 0 1) [[.int .i64 s.ty]] := .inr ⟨i11, by simp, .inl zl, rfl, by simp⟩
  simp -dsimp [-AApp_sls, n311, q1, hpe11]
  generalize hset (hset (hset h i2 (.cells [vs])) i3 (.cells row)) i11 (.arr 51 1 [[.int .i64 s.ty]]) = H at *
  refine o11.push (fun j hj => .inl (k11.dead hj)) (by simp; omega) (by decide) fun r' h4 o4 ke kb _ => ?_
  have g24 := ke.cells g2
  have g34 := ke.cells g3
  have k4 := keeps_changed' k11 kb
  replace o4 : OwnF h .nl h4 51 1 r' (intRows (s.ty :: s.params)) := o4
  have hol := o4.len
  have hil : (intRows (s.ty :: s.params)).length = (s.ty :: s.params).length := intRows_length _
  rw [hil] at hol
  generalize hts : s.ty :: s.params = ts at *
  have htl : ts.length = s.params.length + 1 := by rw [← hts]; simp
  simp -dsimp [hol]
  refine ALoop.start (fun m tm h' => ∃ i : Nat, i + m = ts.length ∧ tm 2 = .ptr i2 0 ∧ tm 3 = .ptr i3 0 ∧ tm 14 = r' ∧ tm 15 = .int .i64 ts.length ∧ tm 16 = .int .i64 i ∧ (∀ t ∈ ts.take i, typeOK t = true) ∧ h' = h4) ts.length ⟨0, by simp, by simp, by simp, by simp, by simp, by simp, by simp, rfl⟩ ?_
  rintro m tm h' ⟨i, hi, t2, t3, t14, t15, t16, hall, rfl⟩
  have hw1 : IntKind.i64.wrap ((i : Int) + 1) = ((i + 1 : Nat) : Int) := by rw [wrap_i64] <;> omega
  by_cases hlt : i < ts.length
  · rcases o4 with ⟨x, _⟩ | ⟨ido, hno, hdo, rfl, hao⟩
    · have := congrArg List.length x
      rw [hil] at this; simp at this; rw [this] at hlt; simp at hlt
    have hsn := take_snoc ts hlt
    have hxm := List.getElem_mem hlt
    generalize hx : ts[i] = x at *
    have nok : typeOK x = false → funcC ps s = false := fun hno => by
      rw [← hts] at hxm
      simp only [funcC]
      rcases List.mem_cons.1 hxm with e | e
      · rw [← e, hno]; rfl
      · have : s.params.all typeOK = false := by
          rw [List.all_eq_false]
          exact ⟨x, e, by rw [hno]; simp⟩
        rw [this]; simp
    by_cases hx1 : x < 1
    · have hno : typeOK x = false := by simp [typeOK]; omega
      rw [nok hno] at hK
      simp -dsimp [t14, t15, t16, hlt, hil, hao, intRows, hx, hx1]
      exact Gives.sub k4.sub hK
    by_cases hx3 : 3 < x
    · have hno : typeOK x = false := by simp [typeOK]; omega
      rw [nok hno] at hK
      simp -dsimp [t14, t15, t16, hlt, hil, hao, intRows, hx, hx1, hx3]
      exact Gives.sub k4.sub hK
    · have hok : typeOK x = true := by simp [typeOK]; omega
      simp -dsimp [t14, t15, t16, hlt, hil, hao, intRows, hx, hx1, hx3, hw1]
      refine Again.same (m - 1) (by omega) ⟨i + 1, by omega, by simp [t2], by simp [t3], by simp [t14, hil, intRows], by simp [t15], by simp, fun t ht => ?_, rfl⟩
      rw [hsn, List.mem_append] at ht
      rcases ht with ht | ht
      · exact hall t ht
      · rw [List.mem_singleton] at ht; rw [ht]; exact hok
  · have htk : ts.take i = ts := List.take_of_length_le (by omega)
    rw [htk] at hall
    have hty : typeOK s.ty = true := hall _ (by rw [← hts]; simp)
    have hpa : s.params.all typeOK = true := List.all_eq_true.2 fun t ht => hall t (by rw [← hts]; simp [ht])
    simp only [funcC, hty, hpa, Bool.true_and] at hK
    have hk4 : ∀ (id e sz : Nat) (xs : List (List AV)), h id = .arr e sz xs → h' id = .arr e sz xs := fun id e sz xs hh => k4.at hh (by simp)
    have hdc4 : DenC 111 61 h' s.code cs := hdc.keep fun id e sz xs _ hh => hk4 id e sz xs hh
    have co4 : CoreAt h' vs ps := co.keep fun id sz xs hh => hk4 id _ sz xs hh
    by_cases hs1 : s.slots < s.params.length
    · have hno : ¬ s.slots = s.params.length + bindsC s.code := by omega
      simp only [hno, decide_false, Bool.false_and] at hK
      simp -dsimp [t2, t3, t14, t15, t16, hlt, g34, q1, q3, hplen, hs1, Stable, AIns.wants, QStep]
      exact Gives.sub k4.sub hK
    have hw2 : IntKind.i64.wrap (s.slots - (s.params.length : Nat)) = s.slots - (s.params.length : Nat) := by
      rw [wrap_i64] <;> omega
    have r1 : row[1]'(by omega) = pv := by
      rw [List.getElem?_eq_getElem (by omega)] at q1; exact Option.some.inj q1
    have r3 : row[3]'(by omega) = .int .i64 s.slots := by
      rw [List.getElem?_eq_getElem (by omega)] at q3; exact Option.some.inj q3
    simp -dsimp [t2, t3, t14, t15, t16, hlt, g34, r1, r3, q4, hplen, hs1, hw2, hrl, Stable, AIns.wants, QStep]
    refine binds_ok s.code hn (by omega) _ _ _ hdc4 ?_
    by_cases hs2 : s.slots - (s.params.length : Nat) = (bindsC s.code : Nat)
    · have hse : s.slots = s.params.length + bindsC s.code := by omega
      simp only [hse, decide_true, Bool.true_and] at hK
      simp -dsimp [t2, t3, g34, g24, r1, r3, q4, hplen, hs1, hs2, hw2, hrl, Stable, AIns.wants, QStep]
      refine mks_ok (k := .i64) (n := s.slots) (by simp [r3]) (by omega) (by omega) (by omega) ?_
      intro sid ds
      have g2s := cells_new (o' := .arr 3 1 (List.replicate s.slots.toNat [.int .i64 0])) g24 ds
      have g3s := cells_new (o' := .arr 3 1 (List.replicate s.slots.toNat [.int .i64 0])) g34 ds
      have n2s := cells_ne g24 ds
      have n3s := cells_ne g34 ds
      simp -dsimp [n2s, n3s, g24, g34, q1, hvf]
      intro kid dk
      obtain ⟨N, hN⟩ : ∃ N, N = bindsC s.code := ⟨_, rfl⟩
      have hsn : s.slots.toNat = s.params.length + N := by omega
      have g2k := cells_new (o' := .cells [vs, .int .i64 s.params.length, .sl sid 0 s.slots.toNat]) g2s dk
      have g3k := cells_new (o' := .cells [vs, .int .i64 s.params.length, .sl sid 0 s.slots.toNat]) g3s dk
      have nsk : ¬ sid = kid := by rintro rfl; simp at dk
      have nks : ¬ kid = sid := fun x => nsk x.symm
      have ks := (k4.new (o := .arr 3 1 (List.replicate s.slots.toNat [.int .i64 0])) ds).new (o := .cells [vs, .int .i64 s.params.length, .sl sid 0 s.slots.toNat]) dk
      have gsk : hset (hset h' sid (.arr 3 1 (List.replicate s.slots.toNat [.int .i64 0]))) kid (.cells [vs, .int .i64 s.params.length, .sl sid 0 s.slots.toNat]) sid = .arr 3 1 (List.replicate s.slots.toNat [.int .i64 0]) := at_new (by simp) (by simp) dk
      have gkk := hset_same (hset h' sid (.arr 3 1 (List.replicate s.slots.toNat [.int .i64 0]))) kid (.cells [vs, .int .i64 s.params.length, .sl sid 0 s.slots.toNat])
      have zsid : h sid = .dead := k4.dead ds
      have n3k := cells_ne g3s dk
      simp -dsimp [Stable, AIns.wants, QStep, t3, n3k, n3s, g34, q1, hplen]
      generalize hset (hset h' sid (.arr 3 1 (List.replicate s.slots.toNat [.int .i64 0]))) kid (.cells [vs, .int .i64 s.params.length, .sl sid 0 s.slots.toNat]) = H at *
      refine ALoop.start (fun m tm h' => ∃ i : Nat, i + m = s.params.length ∧ tm 3 = .ptr i3 0 ∧ tm 7 = .ptr kid 0 ∧ tm 56 = .int .i64 s.params.length ∧ tm 57 = .int .i64 i ∧ h' = hset H sid (.arr 3 1 (intRows (List.replicate i 1 ++ List.replicate (s.params.length + N - i) 0)))) s.params.length
        ⟨0, by simp, by simp [t3], by simp, by simp, by simp, by rw [hset_self]; rw [gsk, hsn]; simp [intRows]⟩ ?_
      rintro m tm h' ⟨j, hj, b3, b7, b56, b57, rfl⟩
      have hw3 : IntKind.i64.wrap ((j : Int) + 1) = ((j + 1 : Nat) : Int) := by rw [wrap_i64] <;> omega
      by_cases hlj : j < s.params.length
      · have hset1 : (intRows (List.replicate j 1 ++ List.replicate (s.params.length + N - j) 0)).set j [.int .i64 1] = intRows (List.replicate (j + 1) 1 ++ List.replicate (s.params.length + N - (j + 1)) 0) := by
          have e1 : s.params.length + N - j = (s.params.length + N - (j + 1)) + 1 := by omega
          rw [e1, List.replicate_succ]
          simp only [intRows, List.map_append, List.map_cons, List.map_replicate]
          rw [List.set_append_right _ _ (by simp)]
          simp only [List.length_replicate, Nat.sub_self, List.set_cons_zero]
          rw [List.replicate_succ', List.append_assoc]
          rfl
        have hlen5 : (intRows (List.replicate j 1 ++ List.replicate (s.params.length + N - j) 0)).length = s.params.length + N := by simp [intRows]; omega
        have hjl : j < s.slots.toNat := by omega
        have hjl2 : (j : Int) < s.slots := by omega
        have hmx : max s.slots 0 = s.slots := by omega
        have hget5 : ∃ row5, (intRows (List.replicate j 1 ++ List.replicate (s.params.length + N - j) 0))[j]? = some row5 ∧ row5.length = 1 := by
          refine ⟨_, List.getElem?_eq_getElem (by omega), ?_⟩
          simp [intRows]
        obtain ⟨row5, hr5, hr6⟩ := hget5
        obtain ⟨x5, rfl⟩ : ∃ x5, row5 = [x5] := by
          match row5, hr6 with
          | [a], _ => exact ⟨a, rfl⟩
        generalize intRows (List.replicate j 1 ++ List.replicate (s.params.length + N - j) 0) = R5 at *
        simp -dsimp [b7, b56, b57, hlj, nks, gkk, hjl, hjl2, hmx, hr5, hw3]
        exact Again.same (m - 1) (by omega) ⟨j + 1, by omega, by simp [b3], by simp [b7], by simp [b56], by simp, by rw [← hset1]⟩
      · have hjp : j = s.params.length := by omega
        subst hjp
        have hsl0 : List.replicate s.params.length (1 : Int) ++ List.replicate (s.params.length + N - s.params.length) 0 = s.params.map (fun _ => 1) ++ List.replicate N 0 := by
          rw [show s.params.length + N - s.params.length = N by omega]
          congr 1
          clear hK hn hb hpl hsb hpv hdc hplen hsn
          induction s.params with
          | nil => rfl
          | cons a l ih => simp [List.replicate_succ, ih]
        rw [hsl0]
        rw [← hN] at hK
        have hfin : ∀ (o : AObj) (id e sz : Nat) (xs : List (List AV)), h id = .arr e sz xs → hset H sid o id = .arr e sz xs := fun o id e sz xs hh => by
          have : ¬ id = sid := by rintro rfl; rw [zsid] at hh; cases hh
          rw [hset_at, if_neg this]
          exact ks.at hh (by simp)
        have hks : Kk ps s.params.length kid sid vs (hset H sid (.arr 3 1 (intRows (s.params.map (fun _ => 1) ++ List.replicate N 0)))) (s.params.map (fun _ => 1) ++ List.replicate N 0) := by
          exact ⟨by simp [nks, gkk, hsn], by simp, co.keep fun id sz xs hh => hfin _ id _ sz xs hh⟩
        have hden : DenC 111 61 (hset H sid (.arr 3 1 (intRows (s.params.map (fun _ => 1) ++ List.replicate N 0)))) s.code cs := hdc.keep fun id e sz xs _ hh => hfin _ id e sz xs hh
        have n3s' : ¬ i3 = sid := n3s
        simp -dsimp [b3, b7, b56, b57, hlj, n3s', g3k, q4, hrl]
        refine right_ok hps s.code hn _ _ _ _ hks hden (fun sl' hs' => ?_) (fun hno sl' hl' => ?_)
        · rw [hs'] at hK
          simp -dsimp
          exact Gives.sub (ks.set zsid).sub (by simpa using hK)
        · rw [hno] at hK
          simp -dsimp
          exact Gives.sub (ks.set zsid).sub (by simpa using hK)
    · have hno : ¬ s.slots = s.params.length + bindsC s.code := by omega
      simp only [hno, decide_false, Bool.false_and] at hK
      simp -dsimp [t2, t3, g34, r1, r3, q4, hplen, hs1, hs2, hw2, hrl, Stable, AIns.wants, QStep]
      exact Gives.sub k4.sub hK
end Go.Proofs.YtcpkdbofohkipaaGreat

/- The program's check of flat programs: all functions. -/
namespace Go.Proofs.YtcpkdbofohkipaaGreat
open Go.AM

/-- A flat program in memory. -/
structure DenP (h : Hp) (l : List Sup) (vs : AV) (rows : List (List AV)) : Prop where
  ls : LsV 63 15 h vs rows
  len : rows.length = l.length
  at_ : ∀ (i : Nat) (s : Sup) (row : List AV), l[i]? = some s → rows[i]? = some row → DenS h s row
theorem DenS.len {h : Hp} {s : Sup} {row : List AV} (d : DenS h s row) : row.length = 15 := by
  obtain ⟨pv, cs, hrow, _, hdc⟩ := d
  rw [hrow]; simp [hdc.len]
theorem DenS.keep {h h1 : Hp} {s : Sup} {row : List AV} (d : DenS h s row) (hk : ∀ id e sz xs, h id = .arr e sz xs → h1 id = .arr e sz xs) : DenS h1 s row := by
  obtain ⟨pv, cs, hrow, hpv, hdc⟩ := d
  exact ⟨pv, cs, hrow, hpv.keep fun id sz xs hh => hk id _ sz xs hh, hdc.keep fun id e sz xs _ hh => hk id e sz xs hh⟩
theorem DenP.keep {h h1 : Hp} {l : List Sup} {vs : AV} {rows : List (List AV)} (d : DenP h l vs rows) (hk : ∀ id e sz xs, h id = .arr e sz xs → h1 id = .arr e sz xs) : DenP h1 l vs rows :=
  ⟨d.ls.keep fun id sz xs hh => hk id _ sz xs hh, d.len, fun i s row h1 h2 => (d.at_ i s row h1 h2).keep hk⟩
theorem DenP.core {h : Hp} {l : List Sup} {vs : AV} {rows : List (List AV)} (d : DenP h l vs rows) : CoreAt h vs (l.map fun s => s.params.length) := by
  refine ⟨rows, d.ls, by simp [d.len], fun i row hi => ?_⟩
  have hlt : i < l.length := by rw [← d.len]; exact (List.getElem?_eq_some_iff.1 hi).1
  have hd := d.at_ i _ row (List.getElem?_eq_getElem hlt) hi
  refine ⟨hd.len, ?_⟩
  obtain ⟨pv, cs, hrow, hpv, _⟩ := hd
  refine ⟨pv, by rw [hrow]; rfl, fun hh => ?_⟩
  rw [hpv.len, intRows_length]
  simp [hlt]
structure SupOK (s : Sup) : Prop where
  nums : s.code.nums
  binds : bindsC s.code ≤ 1000000
  len : s.params.length ≤ 900000
  slots : s.slots ≤ 9223372036854775807
theorem check_ok {l : List Sup} {vs : AV} {rows : List (List AV)} {h : Hp} {K : AV → Hp → Prop} (hl : l.length ≤ 1000000) (d : DenP h l vs rows) (hs : ∀ s ∈ l, SupOK s) (hK : K (.int .i64 (coreC l)) h) : ACalls Tryz.prog 13 [.agg [vs]] h K := by
  have hlen := d.ls.len
  rw [d.len] at hlen
  have hvf := d.core.flat
  refine calls_of mixed Tryz.func13 comp13 (Nat.le_of_ble_eq_true rfl) ?_
  simp -dsimp [c13, hvf]
  intro i1 d1
  have g1 := hset_same h i1 (.cells [vs])
  simp -dsimp
  intro mid dm
  have n1m := cells_ne g1 dm
  have km : Keeps h (hset (hset h i1 (.cells [vs])) mid (.map [])) := ((Keeps.refl h).new d1).new dm
  simp -dsimp [n1m, hlen]
  refine ALoop.start (fun m tm h' => ∃ (i : Nat) (mp : Mp), i + m = l.length ∧ tm 1 = .ptr i1 0 ∧ tm 3 = .mp mid ∧ tm 8 = vs ∧ tm 9 = .int .i64 l.length ∧ tm 10 = .int .i64 i ∧ h' i1 = .cells [vs] ∧ h' mid = .map (mapAV mp) ∧ NmOK mp ((l.take i).map Sup.name) ∧
    checkC (l.map fun s => s.params.length) ((l.take i).map Sup.name) (l.drop i) = checkC (l.map fun s => s.params.length) [] l ∧ Keeps h h') l.length
    ⟨0, [], by simp, by simp, by simp, by simp, by simp, by simp, by simp [n1m], by simp [mapAV], NmOK.nil, by simp, km⟩ ?_
  rintro m tm h' ⟨i, mp, hi, t1, t3, t8, t9, t10, g1, gm, hnm, hchk, kf⟩
  have hw1 : IntKind.i64.wrap ((i : Int) + 1) = ((i + 1 : Nat) : Int) := by rw [wrap_i64] <;> omega
  have zm : h mid = .dead := by
    have := ((Keeps.refl h).new (o := .cells [vs]) d1).dead dm
    exact this
  have n1m' : ¬ i1 = mid := by rintro rfl; rw [g1] at gm; cases gm
  by_cases hlt : i < l.length
  · have hmem := List.getElem_mem hlt
    have hso := hs _ hmem
    have hdp := d.keep (h1 := h') fun id e sz xs hh => kf.at hh (by simp)
    have hrlt : i < rows.length := by rw [d.len]; exact hlt
    have hrow := List.getElem?_eq_getElem hrlt
    have hds := hdp.at_ i _ _ (List.getElem?_eq_getElem hlt) hrow
    obtain ⟨pp, p1, p2, _, _⟩ := hdp.ls.get hrow hds.len
    have htk := take_snoc l hlt
    rw [List.drop_eq_getElem_cons hlt] at hchk
    generalize hr : rows[i] = row at *
    generalize hx : l[i] = s at *
    have hrl := hds.len
    have hrt : row.take 15 = row := List.take_of_length_le (by omega)
    have hrd : row.drop 15 = [] := List.drop_eq_nil_of_le (by omega)
    have q0 : row[0]? = some (.str s.name) := by obtain ⟨pv, cs, e, _⟩ := hds; rw [e]; rfl
    simp -dsimp [t8, t9, t10, hlt, p1, p2]
    intro i5 d5
    have n15 := cells_ne g1 d5
    have nm5 := map_ne gm d5
    have n5m : ¬ i5 = mid := fun x => nm5 x.symm
    have hgm := hnm.le s.name
    have htl : ((l.take i).map Sup.name).length ≤ 1000000 := by simp; omega
    have hw2 : IntKind.i64.wrap (getM mp s.name + 1) = getM mp s.name + 1 := by rw [wrap_i64] <;> omega
    have hz := hnm.zero s.name
    have hne : ¬ l = [] := by intro e; rw [e] at hlt; simp at hlt
    have hbad : checkC (l.map fun s => s.params.length) [] l = false → K (.int .i64 3) h := fun hb => by
      simpa [coreC, hne, hb] using hK
    have hgp : getM (putM s.name (getM mp s.name + 1) mp) s.name = getM mp s.name + 1 := by rw [getM_putM, if_pos rfl]
    have k5 : ∀ o o', Keeps h (hset (hset h' i5 o) mid o') := fun o o' => (kf.new d5).set zm
    have r0 : row[0]'(by omega) = .str s.name := by
      rw [List.getElem?_eq_getElem (by omega)] at q0; exact Option.some.inj q0
    simp -dsimp [t3, hrl, hrt, hrd, r0, nm5, n5m, gm, hw2, hgp]
    by_cases hin : s.name ∈ (l.take i).map Sup.name
    · have hg1 : 1 < getM mp s.name + 1 := by
        have : ¬ getM mp s.name = 0 := fun x => (hz.1 x) hin
        omega
      have hcf : checkC (l.map fun s => s.params.length) [] l = false := by
        rw [← hchk, checkC]
        simp only [hin, not_true, decide_false, Bool.false_and]
      simp -dsimp [hg1]
      exact Gives.sub (k5 _ _).sub (hbad hcf)
    · have hg1 : ¬ 1 < getM mp s.name + 1 := by
        have := hz.2 hin
        omega
      have hk5 : ∀ o o' (id e sz : Nat) (xs : List (List AV)), h id = .arr e sz xs → hset (hset h' i5 o) mid o' id = .arr e sz xs := fun o o' id e sz xs hh => (k5 o o').at hh (by simp)
      simp -dsimp [hg1, t1, n1m', n15, g1, n5m, hrl, hrt]
      refine function_ok (by simpa using hl) ((d.core).keep fun id sz xs hh => hk5 _ _ id _ sz xs hh) ((d.at_ i s row (by rw [List.getElem?_eq_getElem hlt, hx]) (by rw [List.getElem?_eq_getElem hrlt, hr])).keep fun id e sz xs hh => hk5 _ _ id e sz xs hh) hso.nums hso.binds hso.len hso.slots ?_
      rw [checkC] at hchk
      simp only [hin, not_false_eq_true, decide_true, Bool.true_and] at hchk
      by_cases hfc : funcC (l.map fun s => s.params.length) s = true
      · rw [hfc, Bool.true_and] at hchk
        rw [hfc]
        simp -dsimp [hg1, t10, hw1]
        refine Again.same (m - 1) (by omega) ⟨i + 1, putM s.name (getM mp s.name + 1) mp, by omega, by simp [t1], by simp [t3], by simp [t8], by simp [t9], by simp, by simp [n1m', n15, g1], by simp, ?_, ?_, k5 _ _⟩
        · rw [htk, List.map_append]; exact hnm.inc s.name
        · rw [htk, List.map_append]; exact hchk
      · have hfc' : funcC (l.map fun s => s.params.length) s = false := by simpa using hfc
        rw [hfc', Bool.false_and] at hchk
        rw [hfc']
        simp -dsimp [hg1]
        exact Gives.sub (k5 _ _).sub (hbad hchk.symm)
  · have hdn : l.drop i = [] := List.drop_eq_nil_of_le (by omega)
    rw [hdn, checkC] at hchk
    by_cases hne : l = []
    · have hK' : K (.int .i64 3) h := by simpa [coreC, hne] using hK
      have hl0 : l.length = 0 := by rw [hne]; rfl
      have hi0 : ¬ ((i : Int) < 0) := by omega
      simp -dsimp [t1, t8, t9, t10, hlt, g1, hlen, hl0, hi0]
      exact Gives.sub kf.sub hK'
    · have hK' : K (.int .i64 0) h := by simpa [coreC, hne, ← hchk] using hK
      have hl0 : ¬ l.length = 0 := fun x => hne (List.length_eq_zero_iff.1 x)
      simp -dsimp [t1, t8, t9, t10, hlt, g1, hlen, hl0]
      exact Gives.sub kf.sub hK'
end Go.Proofs.YtcpkdbofohkipaaGreat

/- The document's flattening: names, slots, literals, numbers. -/
namespace Go.Proofs.YtcpkdbofohkipaaGreat
open Go.AM
section
variable {p : List Df} {fid : Nat} {h h1 : Hp} {names : Nms} {n : Int} {K : AV → Hp → Prop}

@[simp] theorem nmRows_all (l : Nms) : ((nmRows l).all fun x => x.length == 2) = true := by simp [nmRows, nmRow]
@[simp] theorem nmRows_get (l : Nms) (i : Nat) (h : i < (nmRows l).length) : (nmRows l)[i] = nmRow (l[i]'(by simpa using h)) := by simp [nmRows]
end
end Go.Proofs.YtcpkdbofohkipaaGreat

/- The document's flattening: several parts. -/
namespace Go.Proofs.YtcpkdbofohkipaaGreat
open Go.AM
section
variable {p : List Df} {fid : Nat} {h h1 : Hp} {names : Nms} {n : Int} {K : AV → Hp → Prop}

end
end Go.Proofs.YtcpkdbofohkipaaGreat
