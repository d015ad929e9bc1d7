/- The program's check of flat programs: how many slots are bound. -/
import Derived.Test.YtcpkdbofohkipaaGreatKChC
set_option linter.unusedVariables false
set_option linter.unusedSimpArgs false
namespace Go.Proofs.YtcpkdbofohkipaaGreat
open Go.AM

theorem keyEq_int (a b : Int) : keyEq true (.int .i64 a) (.int .i64 b) = some (decide (a = b)) := by
  simp only [keyEq]
  by_cases h : a = b <;> simp [h]
def bdT : ACode := match c59.code with | .seq _ (.seq _ x) => x | _ => .skip
/-- What is promised of 'binds'. -/
def BC (c : Cd) : Prop := ∀ (cs : List AV) (h : Hp) (K : AV → Hp → Prop), DenC 111 61 h c cs → K (.int .i64 (bindsC c : Nat)) h → ACalls Tryz.prog 59 [.agg cs] h K
theorem bindsL_snoc : ∀ (l : List Cd) (a : Cd), bindsL (l ++ [a]) = bindsL l + bindsC a
  | [], a => by simp [bindsL]
  | b :: l, a => by simp only [List.cons_append, bindsL, bindsL_snoc l a]; omega
theorem bindsL_take {l : List Cd} {i : Nat} (h : i < l.length) : bindsL (l.take (i + 1)) = bindsL (l.take i) + bindsC l[i] ∧ bindsL (l.take (i + 1)) ≤ bindsL l := by
  constructor
  · rw [take_snoc l h, bindsL_snoc]
  · have : ∀ (a b : List Cd), bindsL (a ++ b) = bindsL a + bindsL b := by
      intro a b
      induction a with
      | nil => simp [bindsL]
      | cons x a ih => simp only [List.cons_append, bindsL, ih]; omega
    have h2 := this (l.take (i + 1)) (l.drop (i + 1))
    rw [List.take_append_drop] at h2
    omega
theorem binds_step {cd : Cd} (hb : bindsC cd ≤ 1000000000) (hal : cd.args.length ≤ 1000000) (hrec : ∀ a ∈ cd.args, BC a) : BC cd := by
  intro cs h K hd hK
  have hd0 := hd
  obtain ⟨op, slot, slot2, func, prim, lit, atoms, args⟩ := cd
  obtain ⟨va, vb, rows, hcs, ha, hbv, hr⟩ := hd
  have hrec' : ∀ a ∈ args, BC a := hrec
  replace hal : args.length ≤ 1000000 := hal
  have hcl : cs.length = 11 := hd0.len
  have q0 : cs[0]? = some (.int .i64 op) := by rw [hcs]; rfl
  have q10 : cs[10]? = some vb := by rw [hcs]; rfl
  have hrl := hr.length
  have hlb := hbv.len
  rw [hrl] at hlb
  replace hK : K (.int .i64 (((if op = 8 ∨ op = 9 then 1 else if op = 7 then 2 else 0) + bindsL args : Nat) : Int)) h := by rw [bindsC] at hK; exact hK
  replace hb : (if op = 8 ∨ op = 9 then 1 else if op = 7 then 2 else 0) + bindsL args ≤ 1000000000 := by rw [bindsC] at hb; exact hb
  generalize hB : (if op = 8 ∨ op = 9 then 1 else if op = 7 then 2 else 0 : Nat) = B at *
  have hf : ((if op = 8 then (1 : Int) else if op = 9 then 1 else if op = 7 then 2 else 0)) = (B : Int) := by
    rw [← hB]
    by_cases o8 : op = 8
    · simp [o8]
    by_cases o9 : op = 9
    · simp [o9]
    by_cases o7 : op = 7
    · simp [o7]
    · simp [o7, o8, o9]
  have hrest : ∀ (tm : Tm) (H : Hp) (i1 : Nat), tm 1 = .ptr i1 0 → tm 3 = .int .i64 (B : Int) → H i1 = .cells cs → Keeps h H → AW Tryz.prog bdT (fun e tm h' => match e with | .exit _ => False | _ => Gives K (some (tm 2)) h') tm H := by
    intro tm H i1 t1 t3 g1 kf
    have hb1 : LsV 61 11 H vb rows := hbv.keep fun id sz xs hh => kf.at hh (by simp)
    have hr1 : DenL 111 61 H args rows := hr.keep fun id e sz xs _ hh => kf.at hh (by simp)
    simp -dsimp [bdT, c59, t1, g1, q10, hlb]
    refine ALoop.start (fun m tm h' => ∃ i : Nat, i + m = args.length ∧ tm 1 = .ptr i1 0 ∧ tm 3 = .int .i64 ((B + bindsL (args.take i) : Nat) : Int) ∧ tm 12 = vb ∧ tm 13 = .int .i64 args.length ∧ tm 14 = .int .i64 i ∧ LsV 61 11 h' vb rows ∧ DenL 111 61 h' args rows ∧ Keeps h h') args.length
      ⟨0, by simp, by simp [t1], by simp [t3, bindsL], by simp, by simp, by simp, hb1, hr1, kf⟩ ?_
    clear t1 t3 g1 kf hb1 hr1
    rintro m tm h' ⟨i, hi, t1, t3, t12, t13, t14, hb', hr', kf⟩
    have hw1 : IntKind.i64.wrap ((i : Int) + 1) = ((i + 1 : Nat) : Int) := by rw [wrap_i64] <;> omega
    by_cases hlt : i < args.length
    · have hxa : args[i] ∈ args := List.getElem_mem hlt
      obtain ⟨r, hr1, hr2⟩ := hr'.get (List.getElem?_eq_getElem hlt)
      obtain ⟨pp, p1, p2, _, _⟩ := hb'.get hr1 hr2.len
      obtain ⟨hbt1, hbt2⟩ := bindsL_take hlt
      have hrl2 : r.length = 11 := hr2.len
      have hrt : r.take 11 = r := List.take_of_length_le (by omega)
      have hrd : r.drop 11 = [] := List.drop_eq_nil_of_le (by omega)
      generalize hx : args[i] = x at *
      generalize hT : bindsL (args.take i) = T at *
      have hw2 : IntKind.i64.wrap (((B + T : Nat) : Int) + (bindsC x : Nat)) = ((B + (T + bindsC x) : Nat) : Int) := by rw [wrap_i64] <;> omega
      simp -dsimp [t12, t13, t14, hlt, p1, p2]
      intro i5 d5
      have hk5 : ∀ (id e sz : Nat) (xs : List (List AV)), h' id = .arr e sz xs → hset h' i5 (.cells r) id = .arr e sz xs := fun id e sz xs hh => at_new hh (by simp) d5
      have hb5 := hb'.keep (h1 := hset h' i5 (.cells r)) (fun id sz xs hh => hk5 id _ sz xs hh)
      have hr5 : DenL 111 61 (hset h' i5 (.cells r)) args rows := hr'.keep (fun id e sz xs _ hh => hk5 id e sz xs hh)
      have hd5 : DenC 111 61 (hset h' i5 (.cells r)) x r := hr2.keep (fun id e sz xs _ hh => hk5 id e sz xs hh)
      have k5 := kf.new (o := .cells r) d5
      simp -dsimp [hrl2, hrt, hrd]
      refine hrec' x hxa r _ _ hd5 ?_
      simp -dsimp [-Int.natCast_add, t3, t14, hw1, hw2]
      exact Again.same (m - 1) (by omega) ⟨i + 1, by omega, by simp [t1], by simp [hbt1], by simp [t12], by simp [t13], by simp, hb5, hr5, k5⟩
    · have htk : args.take i = args := List.take_of_length_le (by omega)
      rw [htk] at t3
      simp -dsimp [t3, t12, t13, t14, hlt]
      exact Gives.sub kf.sub hK
  refine calls_of mixed Tryz.func59 comp59 (Nat.le_of_ble_eq_true rfl) ?_
  have hsplit2 : c59.code = .seq (match c59.code with | .seq a _ => a | _ => .skip) (.seq (match c59.code with | .seq _ (.seq b _) => b | _ => .skip) bdT) := rfl
  rw [hsplit2]
  generalize bdT = T at *
  simp -dsimp [c59]
  intro i1 d1
  have g1 := hset_same h i1 (.cells cs)
  simp -dsimp
  intro mid dm
  have n1m := cells_ne g1 dm
  have km : Keeps h (hset (hset h i1 (.cells cs)) mid (.map [])) := ((Keeps.refl h).new d1).new dm
  have ks : ∀ o, Keeps h (hset (hset h i1 (.cells cs)) mid o) := fun o => ((Keeps.refl h).new d1).new dm
  simp -dsimp [putK, findK, keyEq_int, n1m, q0]
  by_cases o8 : op = 8
  · simp -dsimp [o8]
    exact hrest _ _ i1 (by simp) (by rw [← hf]; simp [o8]) (by simp [n1m]) (ks _)
  by_cases o9 : op = 9
  · simp -dsimp [o8, o9]
    exact hrest _ _ i1 (by simp) (by rw [← hf]; simp [o9]) (by simp [n1m]) (ks _)
  by_cases o7 : op = 7
  · simp -dsimp [o7, o8, o9]
    exact hrest _ _ i1 (by simp) (by rw [← hf]; simp [o7]) (by simp [n1m]) (ks _)
  · simp -dsimp [o7, o8, o9]
    exact hrest _ _ i1 (by simp) (by rw [← hf]; simp [o7, o8, o9]) (by simp [n1m]) (ks _)
mutual
theorem binds_ok : ∀ (c : Cd), c.nums → bindsC c ≤ 1000000000 → BC c
  | .mk op slot slot2 func prim lit atoms args, hn, hb => binds_step hb hn.2.2.2.1 (bindss_ok args hn.2.2.2.2 (by rw [bindsC] at hb; omega))
theorem bindss_ok : ∀ (l : List Cd), Cd.numsL l → bindsL l ≤ 1000000000 → ∀ a ∈ l, BC a
  | [], _, _, a, h => by cases h
  | c :: l, hn, hb, a, h => by
    rcases List.mem_cons.1 h with e | h
    · rw [e]; exact binds_ok c hn.1 (by simp only [bindsL] at hb; omega)
    · exact bindss_ok l hn.2 (by simp only [bindsL] at hb; omega) a h
end
end Go.Proofs.YtcpkdbofohkipaaGreat

/- The program's check of flat programs: one function, all of them. -/
namespace Go.Proofs.YtcpkdbofohkipaaGreat
open Go.AM

theorem lsV_elems {e sz : Nat} {h : Hp} {v : AV} {rows : List (List AV)} (a : LsV e sz h v rows) (hl : ∀ r ∈ rows, r.length = sz) : elemsOf h sz v = some rows := by
  have hfz : elemsOf h sz (.fz rows) = some rows := elemsOf_fz sz rows hl
  rcases a with rfl | rfl | ⟨id, xs, rfl, ha⟩
  · cases rows with
    | nil => rfl
    | cons r rs => exact hfz
  · exact hfz
  · rw [elemsOf_sl sz id 0 _ e _ ha (by simp)]
    simp
theorem keeps_changed' {h h1 h2 : Hp} (k : Keeps h h1) (hc : ∀ j, Free h .nl j ∨ h2 j = h1 j) : Keeps h h2 := fun j => by
  rcases k j with x | x
  · exact .inl x
  · rcases hc j with (y | y) | y
    · exact .inl y
    · exact absurd y not_nl
    · exact .inr (y.trans x)
theorem mks_ok {Q : Program} {Kk : AV → Hp → Prop} {tm : Tm} {h : Hp} {e sz b : Nat} {z : List AV} {x : AX} {k : IntKind} {n : Int} (hx : x.ev tm = .int k n) (h0 : 0 ≤ n) (h1 : n ≤ 4611686018427387904) (h2 : b * n.toNat ≤ 140737488355328)
    (hk : ∀ id, h id = .dead → Kk (.sl id 0 n.toNat) (hset h id (.arr e sz (List.replicate n.toNat z)))) : AStep Q (.mks e sz b z x x) Kk tm h := by
  simp only [AStep, hx]
  exact ⟨h0, Int.le_refl _, h1, h2, hk⟩
/-- A flat function in memory. -/
def DenS (h : Hp) (s : Sup) (row : List AV) : Prop := ∃ pv cs, row = [.str s.name, pv, .int .i64 s.ty, .int .i64 s.slots] ++ cs ∧ LsV 51 1 h pv (intRows s.params) ∧ DenC 111 61 h s.code cs
theorem function_ok {ps : List Nat} {vs : AV} {h : Hp} {K : AV → Hp → Prop} {s : Sup} {row : List AV} (hps : ps.length ≤ 1000000) (co : CoreAt h vs ps) (hd : DenS h s row) (hn : s.code.nums) (hb : bindsC s.code ≤ 1000000) (hpl : s.params.length ≤ 900000) (hsb : s.slots ≤ 9223372036854775807) (hK : K (.bool (funcC ps s)) h) :
    ACalls Tryz.prog 30 [.agg [vs], .agg row] h K := by
  obtain ⟨pv, cs, hrow, hpv, hdc⟩ := hd
  have hcl := hdc.len
  have hrl : row.length = 15 := by rw [hrow]; simp [hcl]
  have q1 : row[1]? = some pv := by rw [hrow]; rfl
  have q2 : row[2]? = some (.int .i64 s.ty) := by rw [hrow]; rfl
  have q3 : row[3]? = some (.int .i64 s.slots) := by rw [hrow]; rfl
  have q4 : (row.drop 4).take 11 = cs := by rw [hrow]; show cs.take 11 = cs; exact List.take_of_length_le (by omega)
  have hvf := co.flat
  have hpe := lsV_elems hpv (by intro r hr; simp only [intRows, List.mem_map] at hr; obtain ⟨_, _, rfl⟩ := hr; rfl)
  have hplen := hpv.len
  rw [intRows_length] at hplen
  refine calls_of mixed Tryz.func30 comp30 (Nat.le_of_ble_eq_true rfl) ?_
  simp -dsimp [c30, hvf]
  intro i2 d2
  simp -dsimp
  intro i3 d3
  have n23 := hset_ne d3
  have n32 : ¬ i3 = i2 := fun x => n23 x.symm
  have k3 : Keeps h (hset (hset h i2 (.cells [vs])) i3 (.cells row)) := ((Keeps.refl h).new d2).new d3
  simp -dsimp [q1, q2]
  intro i11 d11
  have n311 := cells_ne (hset_same (hset h i2 (.cells [vs])) i3 (.cells row)) d11
  have k11 := k3.new (o := .arr 51 1 [[.int .i64 s.ty]]) d11
  have zl : h i11 = .dead := k3.dead d11
  have hk11 : ∀ (id e sz : Nat) (xs : List (List AV)), h id = .arr e sz xs → hset (hset (hset h i2 (.cells [vs])) i3 (.cells row)) i11 (.arr 51 1 [[.int .i64 s.ty]]) id = .arr e sz xs := fun id e sz xs hh => k11.at hh (by simp)
  have hpe11 := lsV_elems (hpv.keep (fun id sz xs hh => hk11 id _ sz xs hh)) (by intro r hr; simp only [intRows, List.mem_map] at hr; obtain ⟨_, _, rfl⟩ := hr; rfl)
  have g2 : hset (hset (hset h i2 (.cells [vs])) i3 (.cells row)) i11 (.arr 51 1 [[.int .i64 s.ty]]) i2 = .cells [vs] := cells_new (by simp [n23]) d11
  have g3 : hset (hset (hset h i2 (.cells [vs])) i3 (.cells row)) i11 (.arr 51 1 [[.int .i64 s.ty]]) i3 = .cells row := cells_new (by simp) d11
  have o11 : OwnF h .nl (hset (hset (hset h i2 (.cells [vs])) i3 (.cells row)) i11 (.arr 51 1 [[.int .i64 s.ty]])) 51 1 (.sl i11 0 1) [[.int .i64 s.ty]] := .inr ⟨i11, by simp, .inl zl, rfl, by simp⟩
  simp -dsimp [-AApp_sls, n311, q1, hpe11]
  generalize hset (hset (hset h i2 (.cells [vs])) i3 (.cells row)) i11 (.arr 51 1 [[.int .i64 s.ty]]) = H at *
  refine o11.push (fun j hj => .inl (k11.dead hj)) (by simp; omega) (by decide) fun r' h4 o4 ke kb _ => ?_
  have g24 := ke.cells g2
  have g34 := ke.cells g3
  have k4 := keeps_changed' k11 kb
  replace o4 : OwnF h .nl h4 51 1 r' (intRows (s.ty :: s.params)) := o4
  have hol := o4.len
  have hil : (intRows (s.ty :: s.params)).length = (s.ty :: s.params).length := intRows_length _
  rw [hil] at hol
  generalize hts : s.ty :: s.params = ts at *
  have htl : ts.length = s.params.length + 1 := by rw [← hts]; simp
  simp -dsimp [hol]
  refine ALoop.start (fun m tm h' => ∃ i : Nat, i + m = ts.length ∧ tm 2 = .ptr i2 0 ∧ tm 3 = .ptr i3 0 ∧ tm 14 = r' ∧ tm 15 = .int .i64 ts.length ∧ tm 16 = .int .i64 i ∧ (∀ t ∈ ts.take i, typeOK t = true) ∧ h' = h4) ts.length ⟨0, by simp, by simp, by simp, by simp, by simp, by simp, by simp, rfl⟩ ?_
  rintro m tm h' ⟨i, hi, t2, t3, t14, t15, t16, hall, rfl⟩
  have hw1 : IntKind.i64.wrap ((i : Int) + 1) = ((i + 1 : Nat) : Int) := by rw [wrap_i64] <;> omega
  by_cases hlt : i < ts.length
  · rcases o4 with ⟨x, _⟩ | ⟨ido, hno, hdo, rfl, hao⟩
    · have := congrArg List.length x
      rw [hil] at this; simp at this; rw [this] at hlt; simp at hlt
    have hsn := take_snoc ts hlt
    have hxm := List.getElem_mem hlt
    generalize hx : ts[i] = x at *
    have nok : typeOK x = false → funcC ps s = false := fun hno => by
      rw [← hts] at hxm
      simp only [funcC]
      rcases List.mem_cons.1 hxm with e | e
      · rw [← e, hno]; rfl
      · have : s.params.all typeOK = false := by
          rw [List.all_eq_false]
          exact ⟨x, e, by rw [hno]; simp⟩
        rw [this]; simp
    by_cases hx1 : x < 1
    · have hno : typeOK x = false := by simp [typeOK]; omega
      rw [nok hno] at hK
      simp -dsimp [t14, t15, t16, hlt, hil, hao, intRows, hx, hx1]
      exact Gives.sub k4.sub hK
    by_cases hx3 : 3 < x
    · have hno : typeOK x = false := by simp [typeOK]; omega
      rw [nok hno] at hK
      simp -dsimp [t14, t15, t16, hlt, hil, hao, intRows, hx, hx1, hx3]
      exact Gives.sub k4.sub hK
    · have hok : typeOK x = true := by simp [typeOK]; omega
      simp -dsimp [t14, t15, t16, hlt, hil, hao, intRows, hx, hx1, hx3, hw1]
      refine Again.same (m - 1) (by omega) ⟨i + 1, by omega, by simp [t2], by simp [t3], by simp [t14, hil, intRows], by simp [t15], by simp, fun t ht => ?_, rfl⟩
      rw [hsn, List.mem_append] at ht
      rcases ht with ht | ht
      · exact hall t ht
      · rw [List.mem_singleton] at ht; rw [ht]; exact hok
  · have htk : ts.take i = ts := List.take_of_length_le (by omega)
    rw [htk] at hall
    have hty : typeOK s.ty = true := hall _ (by rw [← hts]; simp)
    have hpa : s.params.all typeOK = true := List.all_eq_true.2 fun t ht => hall t (by rw [← hts]; simp [ht])
    simp only [funcC, hty, hpa, Bool.true_and] at hK
    have hk4 : ∀ (id e sz : Nat) (xs : List (List AV)), h id = .arr e sz xs → h' id = .arr e sz xs := fun id e sz xs hh => k4.at hh (by simp)
    have hdc4 : DenC 111 61 h' s.code cs := hdc.keep fun id e sz xs _ hh => hk4 id e sz xs hh
    have co4 : CoreAt h' vs ps := co.keep fun id sz xs hh => hk4 id _ sz xs hh
    by_cases hs1 : s.slots < s.params.length
    · have hno : ¬ s.slots = s.params.length + bindsC s.code := by omega
      simp only [hno, decide_false, Bool.false_and] at hK
      simp -dsimp [t2, t3, t14, t15, t16, hlt, g34, q1, q3, hplen, hs1, Stable, AIns.wants, QStep]
      exact Gives.sub k4.sub hK
    have hw2 : IntKind.i64.wrap (s.slots - (s.params.length : Nat)) = s.slots - (s.params.length : Nat) := by
      rw [wrap_i64] <;> omega
    have r1 : row[1]'(by omega) = pv := by
      rw [List.getElem?_eq_getElem (by omega)] at q1; exact Option.some.inj q1
    have r3 : row[3]'(by omega) = .int .i64 s.slots := by
      rw [List.getElem?_eq_getElem (by omega)] at q3; exact Option.some.inj q3
    simp -dsimp [t2, t3, t14, t15, t16, hlt, g34, r1, r3, q4, hplen, hs1, hw2, hrl, Stable, AIns.wants, QStep]
    refine binds_ok s.code hn (by omega) _ _ _ hdc4 ?_
    by_cases hs2 : s.slots - (s.params.length : Nat) = (bindsC s.code : Nat)
    · have hse : s.slots = s.params.length + bindsC s.code := by omega
      simp only [hse, decide_true, Bool.true_and] at hK
      simp -dsimp [t2, t3, g34, g24, r1, r3, q4, hplen, hs1, hs2, hw2, hrl, Stable, AIns.wants, QStep]
      refine mks_ok (k := .i64) (n := s.slots) (by simp [r3]) (by omega) (by omega) (by omega) ?_
      intro sid ds
      have g2s := cells_new (o' := .arr 3 1 (List.replicate s.slots.toNat [.int .i64 0])) g24 ds
      have g3s := cells_new (o' := .arr 3 1 (List.replicate s.slots.toNat [.int .i64 0])) g34 ds
      have n2s := cells_ne g24 ds
      have n3s := cells_ne g34 ds
      simp -dsimp [n2s, n3s, g24, g34, q1, hvf]
      intro kid dk
      obtain ⟨N, hN⟩ : ∃ N, N = bindsC s.code := ⟨_, rfl⟩
      have hsn : s.slots.toNat = s.params.length + N := by omega
      have g2k := cells_new (o' := .cells [vs, .int .i64 s.params.length, .sl sid 0 s.slots.toNat]) g2s dk
      have g3k := cells_new (o' := .cells [vs, .int .i64 s.params.length, .sl sid 0 s.slots.toNat]) g3s dk
      have nsk : ¬ sid = kid := by rintro rfl; simp at dk
      have nks : ¬ kid = sid := fun x => nsk x.symm
      have ks := (k4.new (o := .arr 3 1 (List.replicate s.slots.toNat [.int .i64 0])) ds).new (o := .cells [vs, .int .i64 s.params.length, .sl sid 0 s.slots.toNat]) dk
      have gsk : hset (hset h' sid (.arr 3 1 (List.replicate s.slots.toNat [.int .i64 0]))) kid (.cells [vs, .int .i64 s.params.length, .sl sid 0 s.slots.toNat]) sid = .arr 3 1 (List.replicate s.slots.toNat [.int .i64 0]) := at_new (by simp) (by simp) dk
      have gkk := hset_same (hset h' sid (.arr 3 1 (List.replicate s.slots.toNat [.int .i64 0]))) kid (.cells [vs, .int .i64 s.params.length, .sl sid 0 s.slots.toNat])
      have zsid : h sid = .dead := k4.dead ds
      have n3k := cells_ne g3s dk
      simp -dsimp [Stable, AIns.wants, QStep, t3, n3k, n3s, g34, q1, hplen]
      generalize hset (hset h' sid (.arr 3 1 (List.replicate s.slots.toNat [.int .i64 0]))) kid (.cells [vs, .int .i64 s.params.length, .sl sid 0 s.slots.toNat]) = H at *
      refine ALoop.start (fun m tm h' => ∃ i : Nat, i + m = s.params.length ∧ tm 3 = .ptr i3 0 ∧ tm 7 = .ptr kid 0 ∧ tm 56 = .int .i64 s.params.length ∧ tm 57 = .int .i64 i ∧ h' = hset H sid (.arr 3 1 (intRows (List.replicate i 1 ++ List.replicate (s.params.length + N - i) 0)))) s.params.length
        ⟨0, by simp, by simp [t3], by simp, by simp, by simp, by rw [hset_self]; rw [gsk, hsn]; simp [intRows]⟩ ?_
      rintro m tm h' ⟨j, hj, b3, b7, b56, b57, rfl⟩
      have hw3 : IntKind.i64.wrap ((j : Int) + 1) = ((j + 1 : Nat) : Int) := by rw [wrap_i64] <;> omega
      by_cases hlj : j < s.params.length
      · have hset1 : (intRows (List.replicate j 1 ++ List.replicate (s.params.length + N - j) 0)).set j [.int .i64 1] = intRows (List.replicate (j + 1) 1 ++ List.replicate (s.params.length + N - (j + 1)) 0) := by
          have e1 : s.params.length + N - j = (s.params.length + N - (j + 1)) + 1 := by omega
          rw [e1, List.replicate_succ]
          simp only [intRows, List.map_append, List.map_cons, List.map_replicate]
          rw [List.set_append_right _ _ (by simp)]
          simp only [List.length_replicate, Nat.sub_self, List.set_cons_zero]
          rw [List.replicate_succ', List.append_assoc]
          rfl
        have hlen5 : (intRows (List.replicate j 1 ++ List.replicate (s.params.length + N - j) 0)).length = s.params.length + N := by simp [intRows]; omega
        have hjl : j < s.slots.toNat := by omega
        have hjl2 : (j : Int) < s.slots := by omega
        have hmx : max s.slots 0 = s.slots := by omega
        have hget5 : ∃ row5, (intRows (List.replicate j 1 ++ List.replicate (s.params.length + N - j) 0))[j]? = some row5 ∧ row5.length = 1 := by
          refine ⟨_, List.getElem?_eq_getElem (by omega), ?_⟩
          simp [intRows]
        obtain ⟨row5, hr5, hr6⟩ := hget5
        obtain ⟨x5, rfl⟩ : ∃ x5, row5 = [x5] := by
          match row5, hr6 with
          | [a], _ => exact ⟨a, rfl⟩
        generalize intRows (List.replicate j 1 ++ List.replicate (s.params.length + N - j) 0) = R5 at *
        simp -dsimp [b7, b56, b57, hlj, nks, gkk, hjl, hjl2, hmx, hr5, hw3]
        exact Again.same (m - 1) (by omega) ⟨j + 1, by omega, by simp [b3], by simp [b7], by simp [b56], by simp, by rw [← hset1]⟩
      · have hjp : j = s.params.length := by omega
        subst hjp
        have hsl0 : List.replicate s.params.length (1 : Int) ++ List.replicate (s.params.length + N - s.params.length) 0 = s.params.map (fun _ => 1) ++ List.replicate N 0 := by
          rw [show s.params.length + N - s.params.length = N by omega]
          congr 1
          clear hK hn hb hpl hsb hpv hdc hplen hsn
          induction s.params with
          | nil => rfl
          | cons a l ih => simp [List.replicate_succ, ih]
        rw [hsl0]
        rw [← hN] at hK
        have hfin : ∀ (o : AObj) (id e sz : Nat) (xs : List (List AV)), h id = .arr e sz xs → hset H sid o id = .arr e sz xs := fun o id e sz xs hh => by
          have : ¬ id = sid := by rintro rfl; rw [zsid] at hh; cases hh
          rw [hset_at, if_neg this]
          exact ks.at hh (by simp)
        have hks : Kk ps s.params.length kid sid vs (hset H sid (.arr 3 1 (intRows (s.params.map (fun _ => 1) ++ List.replicate N 0)))) (s.params.map (fun _ => 1) ++ List.replicate N 0) := by
          exact ⟨by simp [nks, gkk, hsn], by simp, co.keep fun id sz xs hh => hfin _ id _ sz xs hh⟩
        have hden : DenC 111 61 (hset H sid (.arr 3 1 (intRows (s.params.map (fun _ => 1) ++ List.replicate N 0)))) s.code cs := hdc.keep fun id e sz xs _ hh => hfin _ id e sz xs hh
        have n3s' : ¬ i3 = sid := n3s
        simp -dsimp [b3, b7, b56, b57, hlj, n3s', g3k, q4, hrl]
        refine right_ok hps s.code hn _ _ _ _ hks hden (fun sl' hs' => ?_) (fun hno sl' hl' => ?_)
        · rw [hs'] at hK
          simp -dsimp
          exact Gives.sub (ks.set zsid).sub (by simpa using hK)
        · rw [hno] at hK
          simp -dsimp
          exact Gives.sub (ks.set zsid).sub (by simpa using hK)
    · have hno : ¬ s.slots = s.params.length + bindsC s.code := by omega
      simp only [hno, decide_false, Bool.false_and] at hK
      simp -dsimp [t2, t3, g34, r1, r3, q4, hplen, hs1, hs2, hw2, hrl, Stable, AIns.wants, QStep]
      exact Gives.sub k4.sub hK
end Go.Proofs.YtcpkdbofohkipaaGreat
