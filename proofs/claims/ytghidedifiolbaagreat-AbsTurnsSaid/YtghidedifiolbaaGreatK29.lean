/- The program's Expr; the type of an expression by the document. -/
import Derived.Test.YtghidedifiolbaaGreatK28
import Derived.Test.YtghidedifiolbaaGreatK26
import Derived.Test.YtghidedifiolbaaGreatK12
import Derived.Test.YtghidedifiolbaaGreatK24
set_option linter.unusedVariables false
set_option linter.unusedSimpArgs false
namespace Go.Proofs.YtghidedifiolbaaGreat
open Go.AM

/-- The type of an expression within names. -/
def ofS (p : List Df) (env : List Pm) (e : Ex) : Int × Int :=
  if wrongS p env 1 e = [] then (1, 0) else if wrongS p env 2 e = [] then (2, 0) else if wrongS p env 3 e = [] then (3, 0) else (0, 34)
theorem prog_nil (p : List Df) (env : List Pm) (t : Int) (e : Ex) : progS p env t e = [] ↔ wrongS p env t e = [] := by
  have := prog_perm p e env t
  constructor
  · intro h; rw [h] at this; exact this.symm.eq_nil
  · intro h; rw [h] at this; exact this.eq_nil
theorem tofS_eq (p : List Df) (env : List Pm) (e : Ex) : tofS p env e 3 0 = ofS p env e := by
  simp only [tofS, prog_nil, ofS]
  simp
theorem ofS_wrong {p : List Df} {env : List Pm} {e : Ex} (h : (ofS p env e).2 = 0) : tyOK (ofS p env e).1 ∧ wrongS p env (ofS p env e).1 e = [] := by
  simp only [ofS] at h ⊢
  split
  · rename_i h1; exact ⟨.inl rfl, h1⟩
  · rename_i h1
    rw [if_neg h1] at h
    split
    · rename_i h2; exact ⟨.inr (.inl rfl), h2⟩
    · rename_i h2
      rw [if_neg h2] at h
      split
      · rename_i h3; exact ⟨.inr (.inr rfl), h3⟩
      · rename_i h3; rw [if_neg h3] at h; cases h
end Go.Proofs.YtghidedifiolbaaGreat

/- The program's Expr. -/
namespace Go.Proofs.YtghidedifiolbaaGreat
open Go.AM

structure Bd where
  name : Bytes
  ty : Int
  pt : Int
def Bd.cells (b : Bd) : List AV := [.str b.name, .int .i64 b.ty, .int .i64 b.pt]
def envB (bs : List Bd) : List Pm := bs.map fun b => ⟨b.name, b.ty, 0⟩
def nmB (bs : List Bd) : Nms := bs.map fun b => (b.name, b.pt)
def goodB (bs : List Bd) : Bool := bs.all fun b => decide (chkP b.ty b.pt = 0)
theorem chkP_zero {t q : Int} : chkP t q = 0 ↔ 0 ≤ q ∧ q ≤ topS t := by
  simp only [chkP]
  constructor
  · intro h
    split at h
    · cases h
    · split at h
      · rename_i h2; simpa [isPt] using h2
      · cases h
  · rintro ⟨h0, h1⟩
    rw [if_neg (by omega), if_pos (by simp [isPt]; omega)]
theorem envPt_B : ∀ {bs : List Bd}, goodB bs = true → EnvPt (envB bs) (nmB bs)
  | [], _ => trivial
  | b :: bs, h => by
    simp only [goodB, List.all_cons, Bool.and_eq_true, decide_eq_true_eq] at h
    exact ⟨rfl, chkP_zero.1 h.1, envPt_B (bs := bs) h.2⟩
/-- What Expr gives. -/
def exprS (p : List Df) (ts : List Tb) (bs : List Bd) (e : Ex) : Int × Int :=
  if seeS p ts = false then (0, 3) else if goodB bs = false then (0, 3) else if (ofS p (envB bs) e).2 ≠ 0 then (0, 3) else if 6 < nestS e then (0, 23) else (ptS p (ts.map Tb.pts) e (nmB bs), 0)
theorem ChR.keepc {h h1 : Hp} (hk : ∀ j cs, h j = .cells cs → h1 j = .cells cs) : ∀ {l : Nms} {v : AV}, ChR h v l → ChR h1 v l
  | [], v, c => c
  | x :: l, v, ⟨id, out, e, hh, c⟩ => ⟨id, out, e, hk _ _ hh, ChR.keepc hk c⟩
theorem pexpr_ok {p : List Df} {ts : List Tb} {bs : List Bd} {e : Ex} {eb : Nat} {tv bv : AV} {rows : List (List AV)} {hi : Int} {h : Hp} {K : AV → Hp → Prop} (hf : FineP p) (htl : ts.length ≤ 9223372036854775807) (hd : DenTs h tv ts rows)
    (hbv : LsV eb 3 h bv (bs.map Bd.cells)) (hbl : bs.length + 2 * e.size ≤ 200000) (hes : e.size ≤ 90000) (hef : e.fine hi) (hcalls : (check07 p).1 = 0 → callsOK p e) (hpp : ∀ f ∈ p, ∀ x ∈ f.params, tyOK x.ty)
    (hK : K (.tup [.int .i64 (exprS p ts bs e).1, .int .i64 (exprS p ts bs e).2]) h) : ACalls Tryz.prog 11 [progAV p, tv, bv, .agg e.cells] h K := by
  have hlp := sizeP_len p
  have hsz := hf.size
  refine calls_of mixed Tryz.func11 comp11 (Nat.le_of_ble_eq_true rfl) ?_
  simp -dsimp [c11, progAV]
  intro i4 d4
  have k4 : Keeps h (hset h i4 (.cells [rowsAV (p.map Df.cells)])) := (Keeps.refl h).new d4
  have g4 := hat h i4 (.cells [rowsAV (p.map Df.cells)])
  simp -dsimp
  intro i7 d7
  have n47 := cells_ne g4 d7
  have k7 := k4.new (o := .cells e.cells) d7
  have g47 : hset (hset h i4 (.cells [rowsAV (p.map Df.cells)])) i7 (.cells e.cells) i4 = .cells [rowsAV (p.map Df.cells)] := cells_new g4 d7
  have g77 := hat (hset h i4 (.cells [rowsAV (p.map Df.cells)])) i7 (.cells e.cells)
  simp -dsimp [n47]
  refine see_ok hf htl (hd.keep k7) (fun hs => ?_) (fun hs sid mid fm h1 sg k71 => ?_)
  · simp -dsimp
    exact Gives.sub k7.sub (by simpa [exprS, hs] using hK)
  · refine Gives.same ?_
    have k1 := k7.trans k71
    have g41 := k71.at g47 (by simp)
    have g71 := k71.at g77 (by simp)
    have hbv1 := hbv.keep (h1 := h1) (fun id sz xs hh => k1.at hh (by simp))
    have hlen := hbv1.len
    rw [List.length_map] at hlen
    have hc7 : (check07 p).1 = 0 := by simp only [seeS, Bool.and_eq_true, decide_eq_true_eq] at hs; exact hs.1
    have hco := hcalls hc7
    simp -dsimp [hlen]
    refine ALoop.start (fun m tm h' => ∃ i : Nat, i + m = bs.length ∧ tm 4 = .ptr i4 0 ∧ tm 7 = .ptr i7 0 ∧ tm 10 = .ptr sid 0 ∧ tm 28 = bv ∧ tm 29 = .int .i64 bs.length ∧ tm 30 = .int .i64 i ∧ ChN h' (tm 12) (nmB (bs.take i)) ∧ Own h1 h' 48 3 (tm 13) ((envB (bs.take i)).map Pm.cells) ∧ goodB (bs.take i) = true ∧ Keeps h1 h') bs.length
      ⟨0, by simp, by simp, by simp, by simp, by simp, by simp, by simp, by simp [ChN, nmB, ChR], .inl ⟨by simp [envB], by simp⟩, by simp [goodB], Keeps.refl h1⟩ ?_
    rintro m tm h' ⟨i, him, t4, t7, t10, t28, t29, t30, ch, own, hgood, k⟩
    have kh := k1.trans k
    by_cases hlt : i < bs.length
    · have hw1 : IntKind.i64.wrap ((i : Int) + 1) = ((i + 1 : Nat) : Int) := by rw [wrap_i64] <;> omega
      have htk := take_snoc bs hlt
      have hbi : (bs.map Bd.cells)[i]? = some bs[i].cells := by simp [hlt]
      have hbi0 : bs[i]? = some bs[i] := List.getElem?_eq_getElem hlt
      have hbv2 := hbv1.keep (h1 := h') (fun id sz xs hh => k.at hh (by simp))
      generalize bs[i] = b at *
      obtain ⟨x, x1, x2, _, _⟩ := hbv2.get hbi rfl
      simp -dsimp [t28, t29, t30, hlt, x1, x2]
      intro i15 d15
      have b3 : b.cells.take 3 = b.cells := rfl
      have bd : b.cells.drop 3 = [] := rfl
      have bl : b.cells.length = 3 := rfl
      have bq0 : b.cells[0]? = some (.str b.name) := rfl
      have bq1 : b.cells[1]? = some (.int .i64 b.ty) := rfl
      have bq2 : b.cells[2]? = some (.int .i64 b.pt) := rfl
      have bg0 : ∀ hh, b.cells[0]'hh = .str b.name := fun _ => rfl
      have bg1 : ∀ hh, b.cells[1]'hh = .int .i64 b.ty := fun _ => rfl
      have bg2 : ∀ hh, b.cells[2]'hh = .int .i64 b.pt := fun _ => rfl
      have k15 := k.new (o := .cells b.cells) d15
      simp -dsimp [b3, bd, bl, bq0, bq1, bq2, bg0, bg1, bg2]
      refine pchk_ok ?_
      by_cases hck : chkP b.ty b.pt = 0
      · obtain ⟨hvf, hvc⟩ := ChR.flat (show ChR h' (tm 12) (nmB (bs.take i)).reverse from ch)
        simp -dsimp [hck, b3, bd, bl, bq0, bq1, bq2, bg0, bg1, bg2, hvf, hvc]
        intro i46 d46
        have g15 := hat h' i15 (.cells b.cells)
        have n1546 := cells_ne g15 d46
        have k46 := k15.new (o := .cells [.str b.name, .int .i64 b.pt, tm 12]) d46
        have ch46 := (ch.keep (((Keeps.refl h').new (o := .cells b.cells) d15).new (o := .cells [.str b.name, .int .i64 b.pt, tm 12]) d46)).bind (nm := b.name) (q := b.pt) (id := i46) (by simp)
        simp -dsimp [n1546, bq0, bq1, bg0, bg1, bl]
        intro i53 d53
        simp -dsimp [-AApp_sls]
        have own3 := ((own.new (o := .cells b.cells) d15).new (o := .cells [.str b.name, .int .i64 b.pt, tm 12]) d46).new (o := .arr 48 3 [[.str b.name, .int .i64 b.ty, .int .i64 0]]) d53
        refine own3.pushE (k46.new d53) (by simp [envB]; omega) (by decide) fun v' h2 ho2 hf2 hk2 => ?_
        simp -dsimp [t30, hw1]
        refine Again.same (m - 1) (by omega) ⟨i + 1, by omega, by simp [t4], by simp [t7], by simp [t10], by simp [t28], by simp [t29], by simp, ?_, ?_, ?_, hf2⟩
        · have : nmB (bs.take (i + 1)) = bindN (nmB (bs.take i)) b.name b.pt := by rw [htk]; simp [nmB, bindN]
          rw [this]
          have h53 := ch46.keep ((Keeps.refl _).new (o := .arr 48 3 [[.str b.name, .int .i64 b.ty, .int .i64 0]]) d53)
          show ChN h2 (.ptr i46 0) _
          exact ChR.keepc (fun j cs hj => hk2.cells hj) h53
        · have : (envB (bs.take (i + 1))).map Pm.cells = (envB (bs.take i)).map Pm.cells ++ [[.str b.name, .int .i64 b.ty, .int .i64 0]] := by rw [htk]; simp [envB, Pm.cells]
          rw [this]
          simpa using ho2
        · rw [htk]; simp only [goodB, List.all_append, List.all_cons, List.all_nil, Bool.and_true, Bool.and_eq_true, decide_eq_true_eq] at hgood ⊢
          exact ⟨hgood, hck⟩
      · simp -dsimp [hck]
        refine Gives.sub (k1.trans k15).sub ?_
        have : goodB bs = false := by
          simp only [goodB, List.all_eq_false]
          exact ⟨b, List.mem_of_getElem? hbi0, by simp [hck]⟩
        simpa [exprS, hs, this] using hK
    · have htk : bs.take i = bs := List.take_of_length_le (by omega)
      rw [htk] at ch own hgood
      generalize hcv : tm 12 = cv at *
      generalize hev : tm 13 = ev at *
      obtain ⟨h2, hsub, hfrz, hdr⟩ := own.drop
      have k12 : Keeps h1 h2 := fun j => by
        rcases hdr j with x | ⟨x, _⟩
        · rcases k j with y | y
          · exact .inl y
          · exact .inr (x.trans y)
        · exact .inl x
      have kc2 : ∀ j cs, h' j = .cells cs → h2 j = .cells cs := fun j cs hj => by
        rcases hdr j with x | ⟨_, _, _, x⟩
        · rw [x]; exact hj
        · rw [hj] at x; cases x
      have g42 := k12.at g41 (by simp)
      have g72 := k12.at g71 (by simp)
      have hgoodf : ¬ goodB bs = false := by rw [hgood]; decide
      have kh2 := k1.trans k12
      simp -dsimp [t29, t30, hlt, t4, t7, k.at g41 (by simp), k.at g71 (by simp), hev]
      refine ACalls.frz (args' := [progAV p, pmRows (envB bs), .agg e.cells]) hsub ⟨.same _, hfrz, .same _, trivial⟩ ?_
      refine tof_ok (by omega) hpp (by simp [envB]; omega) hef hco ?_
      rw [tofS_eq]
      by_cases ho : (ofS p (envB bs) e).2 = 0
      · simp -dsimp [ho, t7, g72]
        refine shallow_ok (by omega) ?_
        by_cases hn : 6 < nestS e
        · simp -dsimp [hn]
          exact Gives.sub kh2.sub (by simpa [exprS, hs, hgood, ho, hn] using hK)
        · obtain ⟨hty, hwr⟩ := ofS_wrong ho
          simp -dsimp [hn, t7, t10, g72, hcv]
          refine point_ok hpp e.size e (envB bs) (nmB bs) _ hi cv h2 _ (Nat.le_refl _) (by omega) hef hco hty hwr (envPt_B hgood) (sg.keep k12) (ChR.keepc kc2 ch) ?_
          simp -dsimp
          exact Gives.sub kh2.sub (by simpa [exprS, hs, hgood, ho, hn] using hK)
      · simp -dsimp [ho]
        exact Gives.sub kh2.sub (by simpa [exprS, hs, hgood, ho] using hK)
end Go.Proofs.YtghidedifiolbaaGreat

/- The document's points, tuples and packed rows. -/
namespace Go.Proofs.YtghidedifiolbaaGreat
open Go.AM
variable {h : Hp} {K : AV → Hp → Prop}

theorem rtop_ok {t : Int} (hK : K (.int .i64 (topS t)) h) : ACalls Tryz.prog 33 [.int .i64 t] h K := by
  refine calls_of mixed Tryz.func33 comp33 (Nat.le_of_ble_eq_true rfl) ?_
  by_cases t1 : t = 1
  · subst t1
    simp -dsimp [c33]
    exact Gives.same hK
  by_cases t2 : t = 2
  · subst t2
    simp -dsimp [c33]
    exact Gives.same hK
  by_cases t3 : t = 3
  · subst t3
    simp -dsimp [c33]
    exact Gives.same hK
  · simp -dsimp [c33, t1, t2, t3]
    exact Gives.same (by simpa [topS, t1, t2, t3] using hK)
theorem rcnt_ok {e : Nat} {l : List Int} {v : AV} (hl : l.length ≤ 9223372036854775807) (hv : LsV e 1 h v (intRows l)) (hK : K (.tup [.int .i64 (cntS l).1, .int .i64 (cntS l).2]) h) : ACalls Tryz.prog 31 [v] h K := by
  have hlen := hv.len
  rw [intRows_length] at hlen
  refine calls_of mixed Tryz.func31 comp31 (Nat.le_of_ble_eq_true rfl) ?_
  simp -dsimp [c31, hlen]
  refine ALoop.start (fun n tm h' => ∃ i : Nat, i + n = l.length ∧ tm 0 = v ∧ tm 4 = .int .i64 i ∧ badT (l.take i) = false ∧ h' = h) l.length
    ⟨0, by simp, by simp, by simp, by simp [badT], rfl⟩ ?_
  rintro n tm h' ⟨i, hi, t0, t4, hb, rfl⟩
  by_cases hlt : i < l.length
  · have hw1 : IntKind.i64.wrap ((i : Int) + 1) = ((i + 1 : Nat) : Int) := by rw [wrap_i64] <;> omega
    obtain ⟨q, q1, _, q3, _⟩ := hv.get (intRows_get hlt) rfl
    have q4 := q3 _ rfl
    have htk := take_snoc l hlt
    have hli : l[i]? = some l[i] := List.getElem?_eq_getElem hlt
    generalize l[i] = t at *
    simp -dsimp [t0, t4, hlen, hlt, q1, q4]
    refine rtop_ok ?_
    by_cases ht : topS t < 0
    · simp -dsimp [ht]
      exact Gives.same (by simpa [cntS, badT_at hli ht] using hK)
    · simp -dsimp [ht, t4, hw1]
      exact Again.same (n - 1) (by omega) ⟨i + 1, by omega, by simp [t0], by simp, by rw [htk, badT_snoc, hb]; simpa using ht, rfl⟩
  · have hbad : badT l = false := by rwa [List.take_of_length_le (by omega)] at hb
    simp -dsimp [t0, t4, hlen, hlt]
    refine ALoop.start (fun n tm h'' => ∃ i : Nat, i + n = l.length ∧ tm 0 = v ∧ tm 6 = .int .i64 i ∧ tm 5 = .int .i64 (prodS (l.take i) : Nat) ∧ prodS (l.take i) ≤ 4096 ∧ h'' = h') l.length
      ⟨0, by simp, by simp [t0], by simp, by simp [prodS], by simp [prodS], rfl⟩ ?_
    rintro n tm h'' ⟨i, hi, t0, t6, t5, hp, rfl⟩
    by_cases hlt : i < l.length
    · have hw1 : IntKind.i64.wrap ((i : Int) + 1) = ((i + 1 : Nat) : Int) := by rw [wrap_i64] <;> omega
      obtain ⟨q, q1, _, q3, _⟩ := hv.get (intRows_get hlt) rfl
      have q4 := q3 _ rfl
      have htk := take_snoc l hlt
      have ht := badT_mem hbad (List.getElem_mem hlt)
      generalize l[i] = t at *
      have hs := sizT_pos ht
      have hse : topS t + 1 = (sizT t : Int) := by simp only [sizT]; omega
      have hpr : prodS (l.take (i + 1)) = prodS (l.take i) * sizT t := by rw [htk, prodS_snoc]
      have hle : prodS (l.take i) * sizT t ≤ 4096 * 4 := Nat.mul_le_mul hp hs.2
      have hmul : ((prodS (l.take i) : Nat) : Int) * (sizT t : Int) = ((prodS (l.take (i + 1)) : Nat) : Int) := by rw [hpr]; simp
      have hw0 : IntKind.i64.wrap (topS t + 1) = (sizT t : Int) := by rw [hse, wrap_i64] <;> omega
      have hw2 : IntKind.i64.wrap (((prodS (l.take i) : Nat) : Int) * (sizT t : Int)) = ((prodS (l.take (i + 1)) : Nat) : Int) := by rw [hmul, wrap_i64] <;> omega
      have hmono := prodS_take hbad (i + 1)
      generalize hpn : prodS (l.take (i + 1)) = pn at *
      simp -dsimp [t0, t6, hlen, hlt, q1, q4, t5]
      refine rtop_ok ?_
      by_cases hg : 4096 < pn
      · have hg' : (4096 : Int) < (pn : Int) := by omega
        simp -dsimp [t5, hw0, hw2, hg', hg]
        exact Gives.same (by simpa [cntS, hbad, show 4096 < prodS l by omega] using hK)
      · have hg' : ¬ (4096 : Int) < (pn : Int) := by omega
        simp -dsimp [t5, hw0, hw2, hg', hg, t6, hw1]
        exact Again.same (n - 1) (by omega) ⟨i + 1, by omega, by simp [t0], by simp, by simp [hpn], by rw [hpn]; omega, rfl⟩
    · have htk : l.take i = l := List.take_of_length_le (by omega)
      rw [htk] at t5 hp
      simp -dsimp [t0, t6, hlen, hlt, t5]
      exact Gives.same (by simpa [cntS, hbad, show ¬ 4096 < prodS l by omega] using hK)
theorem types_ok {f : Df} (hl : f.params.length ≤ 100000) (hK : K (rowsAV (intRows (tysF f))) h) : ACalls Tryz.prog 32 [.agg f.cells] h K := by
  have fl11 : f.cells.length = 11 := by simp
  refine calls_of mixed Tryz.func32 comp32 (Nat.le_of_ble_eq_true rfl) ?_
  simp -dsimp [c32]
  intro i1 d1
  have k1 : Keeps h (hset h i1 (.cells f.cells)) := (Keeps.refl h).new d1
  have g1 := hat h i1 (.cells f.cells)
  simp -dsimp
  refine ALoop.start (fun m tm h' => ∃ i : Nat, i + m = f.params.length ∧ tm 1 = .ptr i1 0 ∧ tm 4 = .int .i64 i ∧ h' i1 = .cells f.cells ∧ Own h h' 25 1 (tm 3) (intRows ((f.params.take i).map Pm.ty)) ∧ Keeps h h') f.params.length
    ⟨0, by simp, by simp, by simp, g1, .inl ⟨by simp [intRows], by simp⟩, k1⟩ ?_
  rintro m tm h' ⟨i, hi, t1, t4, g1', own, k⟩
  by_cases hlt : i < f.params.length
  · have hw1 : IntKind.i64.wrap ((i : Int) + 1) = ((i + 1 : Nat) : Int) := by rw [wrap_i64] <;> omega
    have htk := take_snoc f.params hlt
    generalize hx : f.params[i] = x at *
    simp -dsimp [t1, t4, g1', hlt, hx]
    intro i19 d19
    simp -dsimp [-AApp_sls]
    refine (own.new d19).pushE (k.new d19) (by simp [intRows]; omega) (by decide) fun v' h2 ho2 hf2 hk2 => ?_
    simp -dsimp [t4, hw1]
    refine Again.same (m - 1) (by omega) ⟨i + 1, by omega, by simp [t1], by simp, hk2.cells (cells_new g1' d19), ?_, hf2⟩
    rw [htk]
    simpa [intRows] using ho2
  · have htk : f.params.take i = f.params := List.take_of_length_le (by omega)
    rw [htk] at own
    simp -dsimp [t1, t4, g1', hlt]
    exact own.out k (by simpa [tysF] using hK)
theorem copied_ok {e : Nat} {l : List Int} {v : AV} (hl : l.length ≤ 100000) (hv : LsV e 1 h v (intRows l)) (hK : K (rowsAV (intRows l)) h) : ACalls Tryz.prog 63 [v] h K := by
  have hel : elemsOf h 1 v = some (intRows l) := by
    have hall : ((intRows l).all fun x => x.length == 1) = true := by simp [intRows]
    rcases hv with rfl | rfl | ⟨id, xs, rfl, ha⟩
    · rw [elemsOf_rows, if_pos hall]
    · rw [elemsOf_fzs, if_pos hall]
    · simp [ha]
  refine calls_of mixed Tryz.func63 comp63 (Nat.le_of_ble_eq_true rfl) ?_
  simp -dsimp [c63, hel]
  refine Own.pushE (h := h) (rows := []) (.inl ⟨rfl, rfl⟩) (Keeps.refl h) (by simp [intRows]; omega) (by decide) fun v' h2 ho2 hf2 _ => ?_
  simp -dsimp
  exact ho2.out hf2 (by simpa using hK)
/-- A row that is being packed. -/
def PkSt (h : Hp) (i2 i3 : Nat) (v : AV) (n i : Nat) (bs : List Nat) (tm' : Tm) (h2 : Hp) : Prop :=
  ∃ bv', tm' 0 = v ∧ tm' 2 = .ptr i2 0 ∧ tm' 3 = .ptr i3 0 ∧ tm' 4 = .int .i64 i ∧ h2 i2 = .cells [.int .i64 0, .nl] ∧ h2 i3 = .cells [.int .i64 n, bv'] ∧ Own h h2 85 1 bv' (bitsAV bs) ∧ Keeps h h2
theorem pack_ok {e : Nat} {c : List Nat} {v : AV} (hl : c.length ≤ 100000) (hc : ∀ x ∈ c, x < 4) (hv : LsV e 1 h v (intRows (c.map fun (x : Nat) => (x : Int)))) (hK : K (.agg [.int .i64 c.length, rowsAV (bitsAV (packB c))]) h) : ACalls Tryz.prog 64 [v] h K := by
  have hlen := hv.len
  rw [intRows_length, List.length_map] at hlen
  refine calls_of mixed Tryz.func64 comp64 (Nat.le_of_ble_eq_true rfl) ?_
  simp -dsimp [c64]
  intro i2 d2
  have k2 : Keeps h (hset h i2 (.cells [.int .i64 0, .nl])) := (Keeps.refl h).new d2
  have g2 := hat h i2 (.cells [.int .i64 0, .nl])
  simp -dsimp [hlen]
  intro i3 d3
  have n23 := cells_ne g2 d3
  have n32 : ¬ i3 = i2 := fun x => n23 x.symm
  have k3 := k2.new (o := .cells [.int .i64 c.length, .nl]) d3
  have z3 : h i3 = .dead := k2.dead d3
  have z2 : h i2 = .dead := d2
  have g23 : hset (hset h i2 (.cells [.int .i64 0, .nl])) i3 (.cells [.int .i64 c.length, .nl]) i2 = .cells [.int .i64 0, .nl] := by simp [n23]
  have g33 := hat (hset h i2 (.cells [.int .i64 0, .nl])) i3 (.cells [.int .i64 c.length, .nl])
  simp -dsimp
  refine ALoop.start (fun m tm h' => ∃ (i : Nat) (bv : AV), i + m = c.length ∧ tm 0 = v ∧ tm 2 = .ptr i2 0 ∧ tm 3 = .ptr i3 0 ∧ tm 4 = .int .i64 i ∧ h' i2 = .cells [.int .i64 0, .nl] ∧ h' i3 = .cells [.int .i64 c.length, bv] ∧ Own h h' 85 1 bv (bitsAV (packN c i)) ∧ Keeps h h') c.length
    ⟨0, .nl, by simp, by simp, by simp, by simp, by simp, g23, g33, .inl ⟨by simp [packN, bitsAV], rfl⟩, k3⟩ ?_
  rintro m tm h' ⟨i, bv, hi, t0, t2, t3, t4, g2', g3', own, k⟩
  have n23' : ¬ i2 = i3 := n23
  by_cases hlt : i < c.length
  · have hw1 : IntKind.i64.wrap ((i : Int) + 1) = ((i + 1 : Nat) : Int) := by rw [wrap_i64] <;> omega
    have hm : (i : Int).tmod 32 = ((i % 32 : Nat) : Int) := by rw [Int.tmod_eq_emod_of_nonneg (by omega)]; omega
    have hq : (i : Int).tdiv 32 = ((i / 32 : Nat) : Int) := by rw [Int.tdiv_eq_ediv_of_nonneg (by omega)]; omega
    have hw2 : IntKind.i64.wrap ((i / 32 : Nat) : Int) = ((i / 32 : Nat) : Int) := by rw [wrap_i64] <;> omega
    have hmul : IntKind.i64.wrap (2 * ((i % 32 : Nat) : Int)) = ((2 * (i % 32) : Nat) : Int) := by rw [wrap_i64] <;> omega
    have hcu : IntKind.u64.wrap ((2 * (i % 32) : Nat) : Int) = ((2 * (i % 32) : Nat) : Int) := wrap_u64 (by omega) (by omega)
    have hpk := packed c hc i (by omega)
    have hpl := hpk.len
    have hxl : i < (c.map fun (x : Nat) => (x : Int)).length := by simpa using hlt
    have hcx : c.getD i 0 < 4 := by
      have : c.getD i 0 = c[i] := by simp [List.getD, hlt]
      rw [this]; exact hc _ (List.getElem_mem _)
    have hci : (c.map fun (x : Nat) => (x : Int))[i] = ((c.getD i 0 : Nat) : Int) := by simp [List.getD, hlt]
    obtain ⟨bs, hbs⟩ : ∃ bs, bs = (if i % 32 = 0 then packN c i ++ [0] else packN c i) := ⟨_, rfl⟩
    have hnext : packN c (i + 1) = bs.set (i / 32) (bs.getD (i / 32) 0 + c.getD i 0 * 4 ^ (i % 32)) := by rw [packN, ← hbs]
    have hbl : i / 32 < bs.length := by rw [hbs]; split <;> simp [hpl] <;> omega
    have hbl2 : bs.length ≤ 100001 := by rw [hbs]; split <;> simp [hpl] <;> omega
    have hbw : ∀ w, bs[i / 32]? = some w → w < 4 ^ (i % 32) := fun w hw => by
      rw [hbs] at hw
      split at hw
      · rename_i h0
        rw [List.getElem?_append_right (by rw [hpl]; omega)] at hw
        have e0 : i / 32 - (packN c i).length = 0 := by rw [hpl]; omega
        rw [e0] at hw; simp at hw; subst hw
        exact Nat.pow_pos (by decide)
      · have := hpk.top (i / 32) w hw
        rw [if_neg (by omega)] at this
        rwa [show i - 32 * (i / 32) = i % 32 by omega] at this
    generalize him : i % 32 = im at *
    generalize hiq : i / 32 = iq at *
    simp -dsimp [t0, t4, hlen, hlt, hm]
    refine ThenB.cut (PkSt h i2 i3 v c.length i bs) (fun hb => ?_) (fun hb => ?_) ?_
    · have hz : im = 0 := by simpa using hb
      rw [if_pos hz] at hbs
      simp -dsimp [t3, g3']
      intro i19 d19
      have n319 := cells_ne g3' d19
      simp -dsimp [-AApp_sls, n319, g3']
      refine (own.new d19).pushE (k.new d19) (by simp [hpl]; omega) (by decide) fun v' h2 ho2 hf2 hk2 => ?_
      have g3a : h2 i3 = .cells [.int .i64 c.length, bv] := hk2.cells (cells_new g3' d19)
      have g2a : h2 i2 = .cells [.int .i64 0, .nl] := hk2.cells (cells_new g2' d19)
      obtain ⟨vf, vc⟩ : v'.flat = true ∧ v'.cells = [v'] := by
        rcases ho2 with ⟨_, rfl⟩ | ⟨id, _, _, rfl, _⟩ <;> exact ⟨rfl, rfl⟩
      simp -dsimp [t3, g3a, vf, vc]
      refine ⟨v', by simp [t0], by simp [t2], by simp [t3], by simp [t4], by simp [n23', g2a], by simp, ?_, hf2.set z3⟩
      have : bitsAV bs = bitsAV (packN c i) ++ [[.int .u64 0]] := by rw [hbs]; simp [bitsAV]
      rw [this]
      rcases ho2 with ⟨h1, h2'⟩ | ⟨id, hn, hd, hv', ha⟩
      · exact absurd h1 (by simp)
      · have : ¬ id = i3 := by rintro rfl; rw [ha] at g3a; cases g3a
        exact .inr ⟨id, hn, hd, hv', by simp [this, ha]⟩
    · have hz : ¬ im = 0 := by simpa using hb
      rw [if_neg hz] at hbs
      simp -dsimp
      exact ⟨bv, t0, t2, t3, t4, g2', g3', by rw [hbs]; exact own, k⟩
    · rintro tm' h2 ⟨bv', u0, u2, u3, u4, f2, f3, own', k'⟩
      rcases own' with ⟨e1, _⟩ | ⟨id, hne, hdd, rfl, ha⟩
      · have : bs.length = 0 := by have := congrArg List.length e1; simpa using this
        omega
      · have n3i : ¬ i3 = id := by rintro rfl; rw [ha] at f3; cases f3
        have n2i : ¬ i2 = id := by rintro rfl; rw [ha] at f2; cases f2
        obtain ⟨w, hw⟩ : ∃ w, bs[iq]? = some w := ⟨_, List.getElem?_eq_getElem hbl⟩
        have hrow : (bitsAV bs)[iq]? = some [.int .u64 (w : Nat)] := by simp [bitsAV, hw]
        have hwt := hbw w hw
        have hpw : (4 : Nat) ^ im ≤ 4 ^ 31 := Nat.pow_le_pow_right (by decide) (by omega)
        have e4 : (2 : Nat) ^ (2 * im) = 4 ^ im := by rw [Nat.pow_mul]
        have hxm : c.getD i 0 * 2 ^ (2 * im) ≤ 3 * 4 ^ 31 := by rw [e4]; exact Nat.mul_le_mul (by omega) hpw
        have hshl : abin .shl (.int .u64 ((c.getD i 0 : Nat) : Int)) (.int .u64 ((2 * im : Nat) : Int)) = some (.int .u64 ((c.getD i 0 * 2 ^ (2 * im) : Nat) : Int)) := u64_shl _ .u64 (by omega) (by omega)
        have hcx2 : IntKind.u64.wrap ((c.getD i 0 : Nat) : Int) = ((c.getD i 0 : Nat) : Int) := wrap_u64 (by omega) (by omega)
        have hor : abin .or (.int .u64 (w : Int)) (.int .u64 ((c.getD i 0 * 2 ^ (2 * im) : Nat) : Int)) = some (.int .u64 ((w + c.getD i 0 * 4 ^ im : Nat) : Int)) := by
          rw [e4, ← or_add hwt, ← e4]
          exact u64_or (by omega) (by omega)
        have hgd : bs.getD iq 0 = w := by simp [List.getD, hw]
        rw [hgd] at hnext
        have hv' := hv.keep (h1 := h2) (fun id sz xs hh => k'.at hh (by simp))
        obtain ⟨y, y1, _, y3, _⟩ := hv'.get (intRows_get hxl) rfl
        have y4 := y3 _ rfl
        rw [hci] at y4
        have hbits2 : bitsAV (packN c (i + 1)) = (bitsAV bs).set iq [.int .u64 ((w + c.getD i 0 * 4 ^ im : Nat) : Int)] := by rw [hnext]; simp [bitsAV, List.map_set]
        generalize c.getD i 0 = x at *
        generalize hxe : x * 2 ^ (2 * im) = xe at *
        generalize hwe : w + x * 4 ^ im = we at *
        generalize hsh : 2 * im = sh at *
        have hiql : (iq : Int) < ((bitsAV bs).length : Int) := by simp; omega
        have hiql2 : iq < (bitsAV bs).length := by simpa using hbl
        have hrow' : ∀ hh, (bitsAV bs)[iq]'hh = [.int .u64 (w : Nat)] := fun hh => (List.getElem?_eq_some_iff.1 hrow).2
        simp -dsimp [hrow', u0, u2, u3, u4, f3, hq, hw2, hm, hmul, hcu, ha, hrow, y1, y4, hcx2, hshl, hor, hiql, hiql2, n3i, hbl, Stable, AIns.wants, QStep]
        rw [hw1]
        refine Again.same (m - 1) (by omega) ⟨i + 1, .sl id 0 (bitsAV bs).length, by omega, by simp [u0], by simp [u2], by simp [u3], by simp, by simp [n2i, f2], by simp [n3i, f3], ?_, k'.set hdd⟩
        refine .inr ⟨id, ?_, hdd, ?_, ?_⟩
        · rw [hbits2]; simpa using hne
        · rw [hbits2]; simp
        · rw [hbits2]; simp
  · have hi2 : i = c.length := by omega
    subst hi2
    obtain ⟨vf, vc⟩ : bv.flat = true ∧ bv.cells = [bv] := by
      rcases own with ⟨_, rfl⟩ | ⟨id, _, _, rfl, _⟩ <;> exact ⟨rfl, rfl⟩
    simp -dsimp [t0, t4, hlen, hlt, t2, t3, g3', g2', n23', vf, vc]
    have hfz : ∀ H : Hp, (∀ id e sz xs, h' id = .arr e sz xs → H id = .arr e sz xs) → Frz H h bv (rowsAV (bitsAV (packB c))) := fun H hH => by
      rcases own with ⟨e1, rfl⟩ | ⟨id, hne, hdd, rfl, ha⟩
      · rw [packB, e1]; exact .same _
      · rw [packB, show rowsAV (bitsAV (packN c c.length)) = .fz (bitsAV (packN c c.length)) by
          cases hz : bitsAV (packN c c.length) with
          | nil => exact absurd hz hne
          | cons a l => rfl]
        exact Frz.rows (hH _ _ _ _ ha) hdd
    refine Gives.frz (h' := h) (k.set z2).sub (Frz.cell (a := [.int .i64 c.length]) (b := []) (hfz _ (fun id e sz xs hh => ?_))) hK
    have : ¬ id = i2 := by rintro rfl; rw [g2'] at hh; cases hh
    simp [this, hh]
theorem of_ok {ep ec : Nat} {params : List Int} {ty : Int} {c : List Nat} {pv cv : AV} (hpl : params.length ≤ 100000) (hl : c.length ≤ 100000) (hc : ∀ x ∈ c, x < 4) (hp : LsV ep 1 h pv (intRows params)) (hv : LsV ec 1 h cv (intRows (c.map fun (x : Nat) => (x : Int))))
    (hK : K (.agg [rowsAV (intRows params), .int .i64 ty, .int .i64 c.length, rowsAV (bitsAV (packB c))]) h) : ACalls Tryz.prog 34 [pv, .int .i64 ty, cv] h K := by
  refine calls_of mixed Tryz.func34 comp34 (Nat.le_of_ble_eq_true rfl) ?_
  simp -dsimp [c34]
  intro i6 d6
  have k6 : Keeps h (hset h i6 (.cells [.nl, .int .i64 0, .int .i64 0, .nl])) := (Keeps.refl h).new d6
  have hp6 := hp.keep (h1 := hset h i6 (.cells [.nl, .int .i64 0, .int .i64 0, .nl])) (fun id sz xs hh => k6.at hh (by simp))
  have hv6 := hv.keep (h1 := hset h i6 (.cells [.nl, .int .i64 0, .int .i64 0, .nl])) (fun id sz xs hh => k6.at hh (by simp))
  simp -dsimp
  refine copied_ok hpl hp6 ?_
  simp -dsimp
  refine pack_ok hl hc hv6 ?_
  simp -dsimp
  exact Gives.sub ((Keeps.refl h).new d6).sub hK
end Go.Proofs.YtghidedifiolbaaGreat

/- The statements' reading of a text; tables out of bytes. -/
namespace Go.Proofs.YtghidedifiolbaaGreat
open Go.AM
variable {h : Hp} {K : AV → Hp → Prop}

theorem read17_ok {b : Bytes} {t : AV} (ht : t = .fz (bytesAV b) ∨ (b = [] ∧ t = .nl)) (hK : K (.tup [progAV (readS b).1, .bool (read17 b)]) h) : ACalls Tryz.prog 9 [t] h K := by
  have hlen : ∀ h', aLen .sl t h' = some (.int .i64 b.length) := by
    rcases ht with rfl | ⟨rfl, rfl⟩ <;> intro h' <;> simp
  refine calls_of mixed Tryz.func9 comp9 (Nat.le_of_ble_eq_true rfl) ?_
  simp -dsimp [c9]
  intro i2 d2
  have k2 : Keeps h (hset h i2 (.cells [.nl])) := (Keeps.refl h).new d2
  have g2 := hat h i2 (.cells [.nl])
  simp -dsimp
  refine wide_ok ?_
  simp -dsimp
  refine parse_ok ht ?_
  have hr1 : (parseS b).1 = (readS b).1 := rfl
  have hr2 : (readS b).2 = decide ((parseS b).2.1 = 0) := rfl
  rw [hr1]
  have hfine := readS_fine (b := b)
  generalize hp : (readS b).1 = p at *
  generalize hwhy : (parseS b).2.1 = why at *
  simp -dsimp
  intro i4 d4
  have n24 := cells_ne g2 d4
  simp -dsimp
  intro i5 d5
  have g4 := hat (hset h i2 (.cells [.nl])) i4 (.cells [.nl])
  have n45 := cells_ne g4 d5
  have n25 := cells_ne (cells_new g2 d4) d5
  have z4 : h i4 = .dead := k2.dead d4
  have z5 : h i5 = .dead := (k2.new (o := .cells [.nl]) d4).dead d5
  have n42 : ¬ i4 = i2 := fun x => n24 x.symm
  have n54 : ¬ i5 = i4 := fun x => n45 x.symm
  have n52 : ¬ i5 = i2 := fun x => n25 x.symm
  simp -dsimp [n24, n45, n25, n42, n54, n52]
  by_cases hw : why = 0
  · by_cases hl : 40 < p.length
    · have hl' : (40 : Int) < (p.length : Int) := by omega
      simp -dsimp [n24, n45, n25, n42, n54, n52, hw, hl', hl, hlen]
      refine Gives.sub (h' := h) (Keeps.sub (by repeat first | exact Keeps.refl _ | refine Keeps.set ?_ (by assumption))) ?_
      have : read17 b = false := by simp [read17, hp, show ¬ p.length ≤ 40 by omega]
      simpa [this, progAV] using hK
    · have hl' : ¬ (40 : Int) < (p.length : Int) := by omega
      by_cases hb : 8192 < b.length
      · have hb' : (8192 : Int) < (b.length : Int) := by omega
        simp -dsimp [n24, n45, n25, n42, n54, n52, hw, hl', hb', hl, hb, hlen]
        refine Gives.sub (h' := h) (Keeps.sub (by repeat first | exact Keeps.refl _ | refine Keeps.set ?_ (by assumption))) ?_
        have : read17 b = false := by simp [read17, hp, show ¬ b.length ≤ 8192 by omega]
        simpa [this, progAV] using hK
      · have hb' : ¬ (8192 : Int) < (b.length : Int) := by omega
        simp -dsimp [n24, n45, n25, n42, n54, n52, hw, hl', hb', hl, hb, hlen]
        have hok : (readS b).2 = true := by rw [hr2]; simp [hw]
        have hf := hfine hok
        have hsz := hf.size
        refine ALoop.start (fun m tm h' => ∃ i : Nat, i + m = p.length ∧ tm 2 = .ptr i2 0 ∧ tm 4 = .ptr i4 0 ∧ tm 6 = .int .i64 i ∧ h' i2 = .cells [.nl] ∧ h' i4 = .cells [rowsAV (p.map Df.cells)] ∧ (p.take i).all smallF = true ∧ Keeps h h') p.length
          ⟨0, by simp, by simp, by simp, by simp, by simp [n24, n25], by simp [n45], by simp, by repeat first | exact Keeps.refl _ | refine Keeps.set ?_ (by assumption)⟩ ?_
        rintro m tm h' ⟨i, hi, t2, t4, t6, g2', g4', hsm, k⟩
        by_cases hlt : i < p.length
        · have hw1 : IntKind.i64.wrap ((i : Int) + 1) = ((i + 1 : Nat) : Int) := by rw [wrap_i64] <;> omega
          have htk := take_snoc p hlt
          have hsf : p[i].size ≤ sizeP p := sizeP_mem (List.getElem_mem hlt)
          have hsz2 : p[i].size = 1 + p[i].params.length + p[i].body.size := rfl
          have hpm := List.getElem_mem hlt
          generalize hx : p[i] = f at *
          simp -dsimp [t2, t4, t6, g4', hlt, hx]
          refine types_ok (by omega) ?_
          simp -dsimp
          refine rcnt_ok (l := tysF f) (e := 0) (by simp [tysF]; omega) (.inl rfl) ?_
          by_cases hs : (cntS (tysF f)).2 = 0
          · by_cases hn : 256 < (cntS (tysF f)).1
            · simp -dsimp [hs, hn, t2, t4, g4', g2']
              refine Gives.sub (h' := h) (k.set d2).sub ?_
              have : p.all smallF = false := by simp only [List.all_eq_false]; exact ⟨f, hpm, by simp [smallF, hs]; omega⟩
              simpa [read17, hp, this, progAV] using hK
            · simp -dsimp [hs, hn, t6, hw1]
              refine Again.same (m - 1) (by omega) ⟨i + 1, by omega, by simp [t2], by simp [t4], by simp, g2', g4', ?_, k⟩
              rw [htk]
              simp only [List.all_append, hsm, List.all_cons, List.all_nil, Bool.and_true, Bool.true_and]
              simp [smallF, hs]; omega
          · simp -dsimp [hs, t2, t4, g4', g2']
            refine Gives.sub (h' := h) (k.set d2).sub ?_
            have : p.all smallF = false := by simp only [List.all_eq_false]; exact ⟨f, hpm, by simp [smallF, hs]⟩
            simpa [read17, hp, this, progAV] using hK
        · have htk : p.take i = p := List.take_of_length_le (by omega)
          rw [htk] at hsm
          simp -dsimp [t2, t4, t6, g4', hlt, g2']
          refine Gives.sub (h' := h) (k.set d2).sub ?_
          have : read17 b = true := by simp [read17, hp, hok, hsm]; omega
          simpa [this, progAV] using hK
  · simp -dsimp [n24, n45, n25, n42, n54, n52, hw, hlen]
    refine Gives.sub (h' := h) (Keeps.sub (by repeat first | exact Keeps.refl _ | refine Keeps.set ?_ (by assumption))) ?_
    have : read17 b = false := by simp [read17, hr2, hw]
    simpa [this, progAV] using hK
theorem mkc_ok {Q : Program} {Kk : AV → Hp → Prop} {tm : Tm} {h : Hp} {e sz b : Nat} {z : List AV} {x : AX} {k : IntKind} {n : Int} (hx : x.ev tm = .int k n) (h0 : 0 ≤ n) (h1 : n ≤ 4611686018427387904) (h2 : b * n.toNat ≤ 140737488355328)
    (hk : ∀ id, h id = .dead → Kk (.sl id 0 n.toNat) (hset h id (.arr e sz (List.replicate n.toNat z)))) : AStep Q (.mks e sz b z x x) Kk tm h := by
  simp only [AStep, hx]
  exact ⟨h0, Int.le_refl _, h1, h2, hk⟩
/-- The tables out of bytes, in own memory. -/
theorem tables_ok {p : List Df} {s : Bytes} {es : Nat} {sv : AV} (hpl : p.length ≤ 40) (hs : ∀ f ∈ p, smallF f = true) (ht : ∀ f ∈ p, tyOK f.ty) (hsz : ∀ f ∈ p, f.params.length ≤ 40000) (hsl : s.length ≤ 9223372036854775807) (hsv : LsV es 1 h sv (bytesAV s))
    (hK : ∀ (tv : AV) (rows : List (List AV)) (h' : Hp), LsAt 30 4 h' tv rows → (∀ hh : Hp, DenTs hh (rowsAV rows) (tabsS s p) rows) → Keeps h h' → K tv h') : ACalls Tryz.prog 10 [progAV p, sv] h K := by
  have hlen := hsv.len
  rw [bytesAV_length] at hlen
  refine calls_of mixed Tryz.func10 comp10 (Nat.le_of_ble_eq_true rfl) ?_
  simp -dsimp [c10, progAV]
  intro i2 d2
  have k2 : Keeps h (hset h i2 (.cells [rowsAV (p.map Df.cells)])) := (Keeps.refl h).new d2
  have g2 := hat h i2 (.cells [rowsAV (p.map Df.cells)])
  simp -dsimp
  let rowT : Tb → List AV := fun t => [rowsAV (intRows t.params), .int .i64 t.ty, .int .i64 t.n, rowsAV (bitsAV t.bits)]
  have hrow : ∀ t : Tb, (rowT t).length = 4 := fun _ => rfl
  refine ALoop.start (fun m tm h' => ∃ i : Nat, i + m = p.length ∧ tm 1 = sv ∧ tm 2 = .ptr i2 0 ∧ tm 6 = .int .i64 (kS s (p.take i) : Nat) ∧ tm 7 = .int .i64 i ∧ kS s (p.take i) ≤ 256 * i ∧ h' i2 = .cells [rowsAV (p.map Df.cells)] ∧ Own h h' 30 4 (tm 5) (((tabsS s p).take i).map rowT) ∧ Keeps h h') p.length
    ⟨0, by simp, by simp, by simp, by simp [kS], by simp, by simp [kS], g2, .inl ⟨by simp, by simp⟩, k2⟩ ?_
  rintro m tm h' ⟨i, hi, t1, t2, t6, t7, hkb, g2', own, k⟩
  by_cases hlt : i < p.length
  · have hw1 : IntKind.i64.wrap ((i : Int) + 1) = ((i + 1 : Nat) : Int) := by rw [wrap_i64] <;> omega
    have htk := take_snoc p hlt
    have hpm := List.getElem_mem hlt
    have htt := tabsS_take (s := s) hlt
    have hks := kS_snoc s (p.take i) p[i]
    rw [← htk] at hks
    generalize hx : p[i] = f at *
    obtain ⟨c1, c2, c3⟩ := smallF_ok (hs f hpm)
    have hty := topS_ok (ht f hpm)
    have hfl := hsz f hpm
    generalize hN : prodS (tysF f) = n at *
    generalize hk0 : kS s (p.take i) = k0 at *
    simp -dsimp [t2, t7, g2', hlt, hx]
    refine types_ok (by omega) ?_
    simp -dsimp
    refine rcnt_ok (l := tysF f) (e := 0) (by simp [tysF]; omega) (.inl rfl) ?_
    simp -dsimp [c3, t2, t7, t1, t6]
    refine mkc_ok (k := .i64) (n := n) (by simp) (by omega) (by omega) (by omega) ?_
    intro ic dc
    simp -dsimp [-List.reduceReplicate]
    generalize hov : tm 5 = ov at *
    generalize hT : topS f.ty = top at *
    have n2c := cells_ne g2' dc
    have nc2 : ¬ ic = i2 := fun x => n2c x.symm
    refine ALoop.start (fun m2 tm' h'' => ∃ j : Nat, j + m2 = n ∧ tm' 1 = sv ∧ tm' 2 = .ptr i2 0 ∧ tm' 5 = ov ∧ tm' 6 = .int .i64 ((if s = [] then k0 else k0 + j : Nat)) ∧ tm' 7 = .int .i64 i ∧ tm' 8 = rowsAV (intRows (tysF f)) ∧ tm' 9 = .int .i64 n ∧ tm' 11 = .sl ic 0 n ∧ tm' 12 = .int .i64 j ∧
        h'' = hset h' ic (.arr 3 1 (intRows ((cellsS s top k0 j ++ List.replicate (n - j) 0).map fun (x : Nat) => (x : Int))))) n
      ⟨0, by simp, by simp [t1], by simp [t2], by simp [hov], by simp [t6], by simp [t7], by simp, by simp, by simp, by simp, by simp [cellsS, intRows]⟩ ?_
    rintro m2 tm' h'' ⟨j, hj, u1, u2, u5, u6, u7, u8, u9, u11, u12, rfl⟩
    have gi2 := cells_new (o' := .arr 3 1 (intRows ((cellsS s top k0 j ++ List.replicate (n - j) 0).map fun (x : Nat) => (x : Int)))) g2' dc
    by_cases hjs : j < n ∧ s ≠ []
    · obtain ⟨hjn, hse⟩ := hjs
      have hsl0 : 0 < s.length := by cases s with | nil => exact absurd rfl hse | cons a l => simp
      have hw2 : IntKind.i64.wrap ((j : Int) + 1) = ((j + 1 : Nat) : Int) := by rw [wrap_i64] <;> omega
      have hw3 : IntKind.i64.wrap (((k0 + j : Nat) : Int) + 1) = ((k0 + (j + 1) : Nat) : Int) := by rw [wrap_i64] <;> omega
      have hw4 : IntKind.i64.wrap (top + 1) = top + 1 := by rw [wrap_i64] <;> omega
      have hrem : ((k0 + j : Nat) : Int).tmod (s.length : Nat) = (((k0 + j) % s.length : Nat) : Int) := by rw [Int.tmod_eq_emod_of_nonneg (by omega)]; omega
      have hrl : (k0 + j) % s.length < s.length := Nat.mod_lt _ hsl0
      have hsl1 : ¬ (s.length : Int) = 0 := by omega
      have hsl2 : (0 : Int) < (s.length : Int) := by omega
      have hsv2 := hsv.keep (h1 := hset h' ic (.arr 3 1 (intRows ((cellsS s top k0 j ++ List.replicate (n - j) 0).map fun (x : Nat) => (x : Int))))) (fun id sz xs hh => (k.new dc).at hh (by simp))
      obtain ⟨y, y1, _, y3, _⟩ := hsv2.get (i := (k0 + j) % s.length) (bytesAV_at hrl) rfl
      have y4 := y3 _ rfl
      have hcell : ((byteAt s ((k0 + j) % s.length)).toNat : Int).tmod (top + 1) = ((cellX s top (k0 + j) : Nat) : Int) := by
        rw [Int.tmod_eq_emod_of_nonneg (by omega)]
        simp only [cellX, if_neg hse]
        rw [show s.getD ((k0 + j) % s.length) 0 = byteAt s ((k0 + j) % s.length) from rfl]
        rw [Int.natCast_emod]
        congr 1
        omega
      have htop1 : ¬ top + 1 = 0 := by omega
      have hstep := cellsS_step (s := s) (top := top) (k := k0) hjn
      have hXl : (cellsS s top k0 j ++ List.replicate (n - j) 0).length = n := by simp [cellsS]; omega
      generalize hX : cellsS s top k0 j ++ List.replicate (n - j) 0 = X at *
      generalize cellX s top (k0 + j) = cx at *
      generalize (k0 + j) % s.length = km at *
      generalize byteAt s km = bt at *
      have hrw : (intRows (X.map fun (x : Nat) => (x : Int)))[j]? = some [.int .i64 (X.getD j 0 : Nat)] := by simp [intRows, List.getD, hXl, hjn]
      have hrw2 : ∀ hh, (intRows (X.map fun (x : Nat) => (x : Int)))[j]'hh = [.int .i64 (X.getD j 0 : Nat)] := fun hh => (List.getElem?_eq_some_iff.1 hrw).2
      have hcv : IntKind.i64.wrap (bt.toNat : Int) = (bt.toNat : Int) := by have := bt.toNat_lt; rw [wrap_i64] <;> omega
      simp -dsimp [u1, u2, u5, u6, u7, u8, u9, u11, u12, hse, hjn, hlen, hsl0, hsl1, hsl2, hrem, y1, y4, n2c, nc2, g2', hlt, hx, hcv, -Int.natCast_add, Stable, AIns.wants, QStep]
      refine rtop_ok ?_
      simp -dsimp [u1, u2, u5, u6, u7, u8, u9, u11, u12, hse, hjn, hlen, hsl0, hsl1, hsl2, hrem, y1, y4, n2c, nc2, g2', hlt, hx, hcv, hT, hw4, htop1, hcell, hrw, hrw2, hXl, hw2, hw3, -Int.natCast_add, Stable, AIns.wants, QStep]
      refine Again.same (m2 - 1) (by omega) ⟨j + 1, by omega, by simp [u1], by simp [u2], by simp [u5], by simp [hse], by simp [u7], by simp [u8], by simp [u9], by simp [u11], by simp, ?_⟩
      rw [← hstep]
      rw [intRows_set, List.map_set]
    · have hend : cellsS s top k0 j ++ List.replicate (n - j) 0 = cellsS s top k0 n := by
        by_cases hse : s = []
        · rw [cellsS_nil hse, cellsS_nil hse, List.replicate_append_replicate]
          congr 1; omega
        · have : j = n := Nat.le_antisymm (by omega) (Nat.le_of_not_lt fun x => hjs ⟨x, hse⟩)
          subst this; simp
      rw [hend] at gi2 ⊢
      have hks' : kS s (p.take (i + 1)) = if s = [] then k0 else k0 + j := by
        rw [hks]
        by_cases hse : s = []
        · rw [if_pos hse, if_pos hse, ← hk0]; simp [kS, hse]
        · rw [if_neg hse, if_neg hse]
          have : j = n := Nat.le_antisymm (by omega) (Nat.le_of_not_lt fun x => hjs ⟨x, hse⟩)
          rw [this]
      have hc4 : ∀ x ∈ cellsS s top k0 n, x < 4 := cellsS_lt hty
      have hcl := cellsS_length s top k0 n
      have htb : tabS s (p.take i) f = tbOf (tysF f) f.ty (cellsS s top k0 n) := by simp only [tabS, hT, hk0, hN]
      generalize cellsS s top k0 n = X at *
      have kc := k.new (o := .arr 3 1 (intRows (X.map fun (x : Nat) => (x : Int)))) dc
      have ownc := own.new (o := .arr 3 1 (intRows (X.map fun (x : Nat) => (x : Int)))) dc
      have hcs : ¬ j < n ∨ (j < n ∧ s = []) := by
        by_cases x : j < n
        · exact .inr ⟨x, Decidable.byContradiction fun y => hjs ⟨x, y⟩⟩
        · exact .inl x
      rcases hcs with hjn | ⟨hjn, hse⟩ <;> (first | simp -dsimp [u1, u2, u5, u6, u7, u8, u9, u11, u12, hjn, hse, hlen, gi2, hlt, hx, g2', n2c, nc2] | simp -dsimp [u1, u2, u5, u6, u7, u8, u9, u11, u12, hjn, hlen, gi2, hlt, hx, g2', n2c, nc2]) <;>
      (refine of_ok (ep := 0) (ec := 3) (params := tysF f) (c := X) (by simp [tysF]; omega) (by omega) hc4 (.inl rfl) (.inr (.inr ⟨ic, [], by simp [hcl], by simp⟩)) ?_
       simp -dsimp
       intro i75 d75
       simp -dsimp [-AApp_sls]
       refine (ownc.new d75).pushE (kc.new d75) (by simp [tabsS_length]; omega) (by decide) fun v' h2 ho2 hf2 hk2 => ?_
       simp -dsimp [t7, u7, hw1]
       refine Again.same (m - 1) (by omega) ⟨i + 1, by omega, by simp [u1], by simp [u2], ?_, by simp, ?_, hk2.cells (cells_new (cells_new g2' dc) d75), ?_, hf2⟩
       · simp [u6, hks']
       · rw [hks]; split <;> omega
       · rw [htt, htb]; simpa [rowT, tbOf, hcl, hN] using ho2)
  · have htk : (tabsS s p).take i = tabsS s p := List.take_of_length_le (by rw [tabsS_length]; omega)
    rw [htk] at own
    simp -dsimp [t2, t7, g2', hlt]
    refine Gives.same (hK _ _ _ own.ls (fun hh => ?_) k)
    refine ⟨.inl rfl, by simp, fun i t row h1 h2 => ?_⟩
    rw [List.getElem?_map, h1] at h2
    cases h2
    have hi := (List.getElem?_eq_some_iff.1 h1).1
    rw [tabsS_length] at hi
    have hpi := List.getElem?_eq_getElem hi
    have hpm := List.getElem_mem hi
    rw [tabsS_get hpi] at h1
    cases h1
    obtain ⟨c1, c2, c3⟩ := smallF_ok (hs _ hpm)
    obtain ⟨q1, q2, _⟩ := packB_ok (cellsS_lt (s := s) (topS_ok (ht _ hpm)) (k := kS s (p.take i)) (n := prodS (tysF p[i])))
    rw [cellsS_length] at q1
    have := hsz _ hpm
    refine ⟨0, _, _, rfl, .inl rfl, .inl rfl, q2, by simp [tabS, tbOf, tysF]; omega, ?_⟩
    show (packB _).length ≤ _
    rw [q1]
    omega
end Go.Proofs.YtghidedifiolbaaGreat

/- A body's point at a tuple. -/
namespace Go.Proofs.YtghidedifiolbaaGreat
open Go.AM

/-- What Body gives. -/
def bodyS (p : List Df) (ts : List Tb) (i : Int) (q : List Int) : Int × Int :=
  if seeS p ts = false then (0, 3) else if i < 0 ∨ (p.length : Int) ≤ i then (0, 2) else
    if (numT (tysF (p.getD i.toNat df0)) q).2 ≠ 0 then (0, (numT (tysF (p.getD i.toNat df0)) q).2) else
      if 6 < nestS (p.getD i.toNat df0).body then (0, 23) else (ptS p (ts.map Tb.pts) (p.getD i.toNat df0).body (nmF (p.getD i.toNat df0).params q), 0)
section
variable {p : List Df} {ts : List Tb} {fm : Mp} {sid mid : Nat} {tv : AV} {rows : List (List AV)} {h : Hp} {K : AV → Hp → Prop}
theorem sbody_ok (hpp : ∀ f ∈ p, ∀ x ∈ f.params, tyOK x.ty) (s : Sg p ts fm sid mid tv rows h) {i : Nat} {f : Df} {q : List Int} {eq : Nat} {qv : AV} {hi : Int} (hpi : p[i]? = some f) (hff : f.fine hi) (hfs : f.size ≤ 40000) (hca : callsOK p f.body) (hwr : wrongS p f.params f.ty f.body = []) (hql : q.length = f.params.length) (hal : allPt (tysF f) q = true)
    (hq : LsV eq 1 h qv (intRows q)) (hK : K (.int .i64 (ptS p (ts.map Tb.pts) f.body (nmF f.params q))) h) : ACalls Tryz.prog 50 [.ptr sid 0, .int .i64 i, qv] h K := by
  have hlt := (List.getElem?_eq_some_iff.1 hpi).1
  have hx := (List.getElem?_eq_some_iff.1 hpi).2
  have hfz : f.size = 1 + f.params.length + f.body.size := rfl
  refine calls_of mixed Tryz.func50 comp50 (Nat.le_of_ble_eq_true rfl) ?_
  have o1 := s.obj
  simp -dsimp [c50, o1, hlt, hx]
  refine ALoop.start (fun m tm h' => ∃ k : Nat, k + m = f.params.length ∧ tm 0 = .ptr sid 0 ∧ tm 1 = .int .i64 i ∧ tm 2 = qv ∧ tm 18 = rowsAV (f.params.map Pm.cells) ∧ tm 19 = .int .i64 f.params.length ∧ tm 20 = .int .i64 k ∧ ChN h' (tm 7) (nmF (f.params.take k) (q.take k)) ∧ Keeps h h') f.params.length
    ⟨0, by simp, by simp, by simp, by simp, by simp, by simp, by simp, by simp [ChN, nmF, ChR], Keeps.refl h⟩ ?_
  rintro m tm h' ⟨k, hk, t0, t1, t2, t18, t19, t20, ch, kh⟩
  have s' := s.keep kh
  have o1' := s'.obj
  by_cases hkl : k < f.params.length
  · have hw1 : IntKind.i64.wrap ((k : Int) + 1) = ((k + 1 : Nat) : Int) := by rw [wrap_i64] <;> omega
    have hxk := List.getElem?_eq_getElem hkl
    have hqk : q[k]? = some (q[k]'(by omega)) := List.getElem?_eq_getElem (by omega)
    have hsn := nmF_snoc hxk hqk
    have hq' := hq.keep (h1 := h') (fun id sz xs hh => kh.at hh (by simp))
    generalize hx1 : f.params[k] = x at *
    generalize q[k]'(by omega) = y at *
    have hqr : (intRows q)[k]? = some [.int .i64 y] := by simp [intRows, hqk]
    simp -dsimp [t18, t19, t20, hkl, hx1]
    intro i9 d9
    obtain ⟨hvf, hvc⟩ := ChR.flat (show ChR h' (tm 7) (nmF (f.params.take k) (q.take k)).reverse from ch)
    have k9 : Keeps h' (hset h' i9 (.cells x.cells)) := (Keeps.refl h').new d9
    have hq9 := hq'.keep (h1 := hset h' i9 (.cells x.cells)) (fun id sz xs hh => k9.at hh (by simp))
    obtain ⟨y', y1, _, y3, _⟩ := hq9.get hqr rfl
    have y4 := y3 _ rfl
    simp -dsimp [t2, y1, y4, hvf, hvc, Stable, AIns.wants, QStep]
    intro i33 d33
    have ch9 := (ch.keep (k9.new (o := .cells [.str x.name, .int .i64 y, tm 7]) d33)).bind (nm := x.name) (q := y) (id := i33) (by simp)
    simp -dsimp [t20, hw1]
    refine Again.same (m - 1) (by omega) ⟨k + 1, by omega, by simp [t0], by simp [t1], by simp [t2], by simp [t18], by simp [t19], by simp, ?_, (kh.new d9).new d33⟩
    rw [hsn]
    simpa using ch9
  · have htk : f.params.take k = f.params := List.take_of_length_le (by omega)
    have htq : q.take k = q := List.take_of_length_le (by omega)
    rw [htk, htq] at ch
    simp -dsimp [t0, t1, t18, t19, t20, hkl, o1', hlt, hx]
    refine point_ok hpp f.body.size f.body f.params _ f.ty hi _ _ _ (Nat.le_refl _) (by omega) hff.body hca hff.ty hwr (envPt_F hql hal) s' ch ?_
    simp -dsimp
    exact Gives.sub kh.sub hK
theorem abody_ok (hf : FineP p) (htl : ts.length ≤ 9223372036854775807) (hd : DenTs h tv ts rows) {i : Int} {q : List Int} {eq : Nat} {qv : AV} (hql : q.length ≤ 9223372036854775807) (hq : LsV eq 1 h qv (intRows q)) (hpp : ∀ f ∈ p, ∀ x ∈ f.params, tyOK x.ty)
    (hK : K (.tup [.int .i64 (bodyS p ts i q).1, .int .i64 (bodyS p ts i q).2]) h) : ACalls Tryz.prog 19 [progAV p, tv, .int .i64 i, qv] h K := by
  have hlp := sizeP_len p
  have hsz := hf.size
  refine calls_of mixed Tryz.func19 comp19 (Nat.le_of_ble_eq_true rfl) ?_
  simp -dsimp [c19, progAV]
  intro i4 d4
  have k4 : Keeps h (hset h i4 (.cells [rowsAV (p.map Df.cells)])) := (Keeps.refl h).new d4
  have g4 := hat h i4 (.cells [rowsAV (p.map Df.cells)])
  simp -dsimp
  refine see_ok hf htl (hd.keep k4) (fun hs => ?_) (fun hs sid mid fm h1 sg k41 => ?_)
  · simp -dsimp
    exact Gives.sub k4.sub (by simpa [bodyS, hs] using hK)
  · refine Gives.same ?_
    have k1 := k4.trans k41
    have g41 := k41.at g4 (by simp)
    have hc7 : (check07 p).1 = 0 := by simp only [seeS, Bool.and_eq_true, decide_eq_true_eq] at hs; exact hs.1
    simp -dsimp [g41]
    by_cases h0 : i < 0
    · simp -dsimp [h0]
      exact Gives.sub k1.sub (by simpa [bodyS, hs, h0] using hK)
    · obtain ⟨n, rfl⟩ : ∃ n : Nat, i = n := ⟨i.toNat, by omega⟩
      by_cases hn : n < p.length
      · have hn' : ¬ (p.length : Int) ≤ (n : Int) := by omega
        have hpi := List.getElem?_eq_getElem hn
        have hpm := List.getElem_mem hn
        have hfit := fitL_iff.1 sg.fit
        have hnt : n < ts.length := by rw [hfit.1]; exact hn
        have hti := List.getElem?_eq_getElem hnt
        have hrl : n < rows.length := by rw [hd.len]; exact hnt
        have hri := List.getElem?_eq_getElem hrl
        have hden := sg.den.at_ n _ _ hti hri
        have hfo := hfit.2 n _ _ hpi hti
        obtain ⟨hi, hff⟩ := fineP_mem hf.fine hpm
        have hsf : p[n].size ≤ sizeP p := sizeP_mem hpm
        have hca := check06_calls (check07_06 hc7) _ hpm
        have hwr := check07_wrong hc7 _ hpm
        have hgd : p.getD n df0 = p[n] := by simp [List.getD, hn]
        generalize hx : p[n] = f at *
        generalize ts[n] = t at *
        generalize rows[n] = row at *
        obtain ⟨ep, pv, bv, hrow, hpv, hbv, _, hpl, _⟩ := hden
        simp only [fitOK, Bool.and_eq_true, decide_eq_true_eq] at hfo
        have htp : t.params = tysF f := hfo.2.2
        rw [htp] at hpv hpl
        have hrl4 : row.length = 4 := by rw [hrow]; rfl
        obtain ⟨y, y1, y2, y3, y4⟩ := sg.den.ls.get hri hrl4
        have y5 := y3 pv (by rw [hrow]; rfl)
        obtain ⟨z, z1, z2⟩ := y4 0 (by decide)
        have z3 := z2 pv (by rw [hrow]; rfl)
        have hq1 := hq.keep (h1 := h1) (fun id sz xs hh => k1.at hh (by simp))
        simp -dsimp [g41, h0, hn, hn', y1, z1, z3]
        refine tnum_ok hpl hql hpv hq1 ?_
        by_cases hnu : (numT (tysF f) q).2 = 0
        · obtain ⟨_, n2, n3, _⟩ := numT_ok hnu
          simp -dsimp [hnu, g41, hn, hx]
          refine shallow_ok (by have : f.size = 1 + f.params.length + f.body.size := rfl; omega) ?_
          by_cases hne : 6 < nestS f.body
          · simp -dsimp [hne]
            exact Gives.sub k1.sub (by simpa [bodyS, hs, hn, show ¬ p.length ≤ n by omega, show ¬ (n : Int) < 0 by omega, hnu, hne, hx] using hK)
          · simp -dsimp [hne]
            refine sbody_ok hpp sg hpi hff (by omega) hca hwr (by rw [n2]; simp [tysF]) n3 hq1 ?_
            simp -dsimp
            exact Gives.sub k1.sub (by simpa [bodyS, hs, hn, show ¬ p.length ≤ n by omega, show ¬ (n : Int) < 0 by omega, hnu, hne, hx] using hK)
        · simp -dsimp [hnu]
          exact Gives.sub k1.sub (by simpa [bodyS, hs, hn, show ¬ p.length ≤ n by omega, show ¬ (n : Int) < 0 by omega, hnu, hx] using hK)
      · have hn' : (p.length : Int) ≤ (n : Int) := by omega
        simp -dsimp [g41, hn', h0]
        exact Gives.sub k1.sub (by simpa [bodyS, hs, hn', h0] using hK)
end
end Go.Proofs.YtghidedifiolbaaGreat
