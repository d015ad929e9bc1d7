/- What a program with its tables is in memory; the point of a cons, a call, an operation by its parts'. -/
import Derived.Test.YtghidedifiolbaaGreatK27
import Derived.Test.YtghidedifiolbaaGreatK11
set_option linter.unusedVariables false
set_option linter.unusedSimpArgs false
namespace Go.Proofs.YtghidedifiolbaaGreat
open Go.AM

/-- Reading a list, now and later. -/
theorem lsV_getk {e sz : Nat} {h : Hp} {v : AV} {rows : List (List AV)} (a : LsV e sz h v rows) {i : Nat} {row : List AV} (hi : rows[i]? = some row) (hl : row.length = sz) :
    ∃ p, ∀ hh : Hp, (∀ id sz xs, h id = .arr e sz xs → hh id = .arr e sz xs) → aIa sz v (.int .i64 (i : Int)) hh = some p ∧ aLda sz p hh = some (.agg row) := by
  have hlt : i < rows.length := (List.getElem?_eq_some_iff.1 hi).1
  have htk : row.take sz = row := List.take_of_length_le (by omega)
  have hfz : ∃ p, ∀ hh : Hp, (∀ id sz xs, h id = .arr e sz xs → hh id = .arr e sz xs) → aIa sz (.fz rows) (.int .i64 (i : Int)) hh = some p ∧ aLda sz p hh = some (.agg row) :=
    ⟨.fp row, fun hh _ => ⟨aIa_fzn sz .i64 i rows row hi hl, by simp [hl, htk]⟩⟩
  rcases a with rfl | rfl | ⟨id, xs, rfl, ha⟩
  · cases rows with
    | nil => simp at hlt
    | cons r rs => exact hfz
  · exact hfz
  · have hr : (rows ++ xs)[i]? = some row := by rw [List.getElem?_append_left hlt]; exact hi
    exact ⟨.pe id (0 + (i : Int).toNat) 0, fun hh hk => ⟨aIa_sl sz .i64 i id 0 _ e _ (hk _ _ _ ha) (by omega) (by omega), by simp [hk _ _ _ ha, hr, htk]⟩⟩
/-- Tables in memory. -/
structure DenTs (h : Hp) (tv : AV) (ts : List Tb) (rows : List (List AV)) : Prop where
  ls : LsV 30 4 h tv rows
  len : rows.length = ts.length
  at_ : ∀ (i : Nat) (t : Tb) (row : List AV), ts[i]? = some t → rows[i]? = some row → DenT 85 h t row
theorem DenT.keep {eb : Nat} {h h1 : Hp} {t : Tb} {row : List AV} (d : DenT eb h t row) (k : Keeps h h1) : DenT eb h1 t row := by
  obtain ⟨ep, pv, bv, e, h1', h2, h3⟩ := d
  exact ⟨ep, pv, bv, e, h1'.keep (fun id sz xs hh => k.at hh (by simp)), h2.keep (fun id sz xs hh => k.at hh (by simp)), h3⟩
theorem DenTs.keep {h h1 : Hp} {tv : AV} {ts : List Tb} {rows : List (List AV)} (d : DenTs h tv ts rows) (k : Keeps h h1) : DenTs h1 tv ts rows :=
  ⟨d.ls.keep (fun id sz xs hh => k.at hh (by simp)), d.len, fun i t row h1 h2 => (d.at_ i t row h1 h2).keep k⟩
/-- A program with tables that fit. -/
structure Sg (p : List Df) (ts : List Tb) (fm : Mp) (sid mid : Nat) (tv : AV) (rows : List (List AV)) (h : Hp) : Prop where
  obj : h sid = .cells [rowsAV (p.map Df.cells), .mp mid, tv]
  mp : h mid = .map (mapAV fm)
  fm : FmT p fm
  den : DenTs h tv ts rows
  fit : fitL p ts = true
section
variable {p : List Df} {ts : List Tb} {fm : Mp} {sid mid : Nat} {tv : AV} {rows : List (List AV)} {h h1 : Hp} {K : AV → Hp → Prop}
theorem Sg.keep (s : Sg p ts fm sid mid tv rows h) (k : Keeps h h1) : Sg p ts fm sid mid tv rows h1 :=
  ⟨k.at s.obj (by simp), k.at s.mp (by simp), s.fm, s.den.keep k, s.fit⟩
/-- What the parts' points must be. -/
def JoinOK (p : List Df) (e : Ex) (l : List Int) : Prop :=
  (e.op = 18 → ∃ a b, l = [a, b] ∧ (0 ≤ a ∧ a ≤ 1) ∧ 0 ≤ b ∧ b ≤ 3) ∧ (e.op = 7 → ∃ f, headD e.name p = some f ∧ (numT (tysF f) l).2 = 0)
theorem join_ok {e : Ex} {l : List Int} {ep : Nat} {v : AV} (hl : l.length ≤ 1000000) (s : Sg p ts fm sid mid tv rows h) (hv : LsV ep 1 h v (intRows l)) (hj : JoinOK p e l) (hK : K (.int .i64 (joinS p (ts.map Tb.pts) e.op e.name l)) h) :
    ACalls Tryz.prog 74 [.ptr sid 0, .agg e.cells, v] h K := by
  have hlen := hv.len
  rw [intRows_length] at hlen
  refine calls_of mixed Tryz.func74 comp74 (Nat.le_of_ble_eq_true rfl) ?_
  simp -dsimp [c74]
  intro i4 d4
  have k4 : Keeps h (hset h i4 (.cells e.cells)) := (Keeps.refl h).new d4
  have g4 := hat h i4 (.cells e.cells)
  have hv4 := hv.keep (h1 := hset h i4 (.cells e.cells)) (fun id sz xs hh => k4.at hh (by simp))
  have s4 := s.keep k4
  simp -dsimp
  by_cases o18 : e.op = 18
  · obtain ⟨a, b, rfl, ha, hb⟩ := hj.1 o18
    obtain ⟨x, x1, _, x3, _⟩ := hv4.get (i := 0) (row := [.int .i64 a]) (by simp [intRows]) rfl
    obtain ⟨y, y1, _, y3, _⟩ := hv4.get (i := 1) (row := [.int .i64 b]) (by simp [intRows]) rfl
    have x4 := x3 _ rfl
    have y4 := y3 _ rfl
    simp only [Int.natCast_zero, Int.natCast_one] at x1 y1
    simp -dsimp [Stable, AIns.wants, QStep, g4, o18, x1, x4, y1, y4]
    refine pcons_ok ha hb ?_
    simp -dsimp [Stable, AIns.wants, QStep]
    exact Gives.sub k4.sub (by simpa [joinS, o18] using hK)
  · by_cases o7 : e.op = 7
    · obtain ⟨f, hf, hn⟩ := hj.2 o7
      rcases headsD e.name p 0 with ⟨_, x⟩ | ⟨i, hi, e1, e2⟩
      · rw [x] at hf; cases hf
      · rw [e2] at hf; cases hf
        rw [Nat.zero_add] at e1
        have hgm : getM fm e.name = (i : Int) := by rw [s.fm e.name (by rw [e1]; omega), e1]
        obtain ⟨hfl, hfa⟩ := fitL_iff.1 s.fit
        have hit : i < ts.length := by omega
        have hti := List.getElem?_eq_getElem hit
        have hfit := hfa i _ _ (List.getElem?_eq_getElem hi) hti
        have hrl : i < rows.length := by rw [s.den.len]; exact hit
        have hri := List.getElem?_eq_getElem hrl
        have hden := s4.den.at_ i _ _ hti hri
        obtain ⟨ep', pv, bv, hrow, hpv, hbv, hw, hb1, hb2⟩ := hden
        have hrl4 : rows[i].length = 4 := by rw [hrow]; rfl
        obtain ⟨x, hx12⟩ := lsV_getk s.den.ls hri hrl4
        obtain ⟨x1, x2⟩ := hx12 (hset h i4 (.cells e.cells)) (fun id sz xs hh => k4.at hh (by simp))
        have hTi : (ts.map Tb.pts).getD i [] = ts[i].pts := by simp [List.getD, hit]
        generalize hR : rows[i] = row at *
        generalize ts[i] = t at *
        simp only [fitOK, tbOK, Bool.and_eq_true, decide_eq_true_eq] at hfit
        obtain ⟨⟨⟨⟨h1, h2, h3⟩, hrow2⟩, h5⟩, h6, h7⟩ := hfit
        obtain ⟨n1, n2, n3, n4, n5, n6⟩ := numT_ok hn
        obtain ⟨_, cp, ce⟩ := cntS_ok n1
        have hpe : t.params = tysF p[i] := h7
        have htn : t.n = prodS (tysF p[i]) := by rw [h2, hpe, ce]
        have hdr : (row.drop 2).take 2 = [.int .i64 t.n, bv] := by rw [hrow]; rfl
        have hq0 : row[0]? = some pv := by rw [hrow]; rfl
        have hg0 : ∀ hh, row[0]'hh = pv := fun hh => (List.getElem?_eq_some_iff.1 hq0).2
        have ns4 := cells_ne s.obj d4
        have nm4 := map_ne s.mp d4
        simp -dsimp [Stable, AIns.wants, QStep, g4, o7, o18, s.obj, s.mp, ns4, nm4, hgm, x1, x2]
        intro i9 d9
        have n49 := cells_ne g4 d9
        have k9 : Keeps (hset h i4 (.cells e.cells)) (hset (hset h i4 (.cells e.cells)) i9 (.cells row)) := (Keeps.refl _).new d9
        have hpv9 := hpv.keep (h1 := hset (hset h i4 (.cells e.cells)) i9 (.cells row)) (fun id sz xs hh => k9.at hh (by simp))
        have hbv9 := hbv.keep (h1 := hset (hset h i4 (.cells e.cells)) i9 (.cells row)) (fun id sz xs hh => k9.at hh (by simp))
        have hv9 := hv4.keep (h1 := hset (hset h i4 (.cells e.cells)) i9 (.cells row)) (fun id sz xs hh => k9.at hh (by simp))
        have hcs : row.take 4 = row := List.take_of_length_le (by omega)
        have hcd : row.drop 4 = [] := List.drop_eq_nil_of_le (by omega)
        have k9' : ∀ o, Keeps h (hset (hset h i4 (.cells e.cells)) i9 o) := fun o => k4.new d9
        have xk := fun o => hx12 (hset (hset h i4 (.cells e.cells)) i9 o) (fun id sz xs hh => (k9' o).at hh (by simp))
        have ns9 := cells_ne s4.obj d9
        have nm9 := map_ne s4.mp d9
        simp -dsimp [Stable, AIns.wants, QStep, hrl4, hcs, hcd, hq0, hg0, hdr, xk, ns9, nm9, n49, ns4, nm4, s.obj, s.mp, hgm]
        refine tnum_ok hb1 (by omega) hpv9 hv9 ?_
        rw [hpe, n4]
        have hnn : (numT (tysF p[i]) l).2 = 0 := hn
        simp -dsimp [hnn, hdr, hrl4]
        obtain ⟨j, hj⟩ : ∃ j : Nat, hornS (tysF p[i]) l 0 = j := ⟨(hornS (tysF p[i]) l 0).toNat, by omega⟩
        rw [hj] at n5 n6 ⊢
        refine rget_ok hw hbv9 hrow2 (by omega) ?_
        simp -dsimp
        refine Gives.sub (k9' _).sub ?_
        have hval : joinS p (ts.map Tb.pts) e.op e.name l = ((cellB t.bits j : Nat) : Int) := by
          have hjl : j < t.n.toNat := by omega
          simp only [joinS, o18, o7, if_true, if_false, callP, e1, e2, Option.getD_some, n4, hj, Int.toNat_natCast, hTi]
          simp [Tb.pts, List.getD, hjl]
        rw [hval] at hK
        exact hK
    · simp -dsimp [g4, o7, o18, hlen]
      refine ALoop.start (fun m tm h' => ∃ i : Nat, i + m = l.length ∧ tm 62 = v ∧ tm 63 = .int .i64 l.length ∧ tm 64 = .int .i64 i ∧ tm 14 = .int .i64 (minS (l.take i)) ∧ h' = hset h i4 (.cells e.cells)) l.length ⟨0, by simp, by simp, by simp, by simp, by simp [minS], rfl⟩ ?_
      rintro m tm h' ⟨i, hi, t62, t63, t64, t14, rfl⟩
      by_cases hlt : i < l.length
      · have hw1 : IntKind.i64.wrap ((i : Int) + 1) = ((i + 1 : Nat) : Int) := by rw [wrap_i64] <;> omega
        obtain ⟨x, x1, _, x3, _⟩ := hv4.get (intRows_get hlt) rfl
        have x4 := x3 _ rfl
        have htk := take_snoc l hlt
        have hmin : (if l[i] < minS (l.take i) then l[i] else minS (l.take i)) = minS (l.take (i + 1)) := by
          have mm : ∀ a b : Int, (if b < a then b else a) = min a b := fun a b => by split <;> omega
          rw [htk, mm]; simp only [minS, List.foldl_append, List.foldl_cons, List.foldl_nil]
        generalize l[i] = y at *
        simp -dsimp [t62, t63, t64, hlt, x1, x4, t14, hw1, hmin]
        exact Again.same (m - 1) (by omega) ⟨i + 1, by omega, by simp [t62], by simp [t63], by simp, by simp, rfl⟩
      · have htk : l.take i = l := List.take_of_length_le (by omega)
        rw [htk] at t14
        simp -dsimp [t63, t64, hlt, t14]
        exact Gives.sub k4.sub (by simpa [joinS, o18, o7] using hK)
end
end Go.Proofs.YtghidedifiolbaaGreat

/- The program's point of an expression. -/
namespace Go.Proofs.YtghidedifiolbaaGreat
open Go.AM
section
variable {p : List Df} {ts : List Tb} {fm : Mp} {sid mid : Nat} {tv : AV} {rows : List (List AV)}

/-- What is promised of 'point', up to a size. -/
def PtOK (p : List Df) (ts : List Tb) (fm : Mp) (sid mid : Nat) (tv : AV) (rows : List (List AV)) (n : Nat) : Prop :=
  ∀ (e : Ex) (env : List Pm) (nm : Nms) (t hi : Int) (v : AV) (h : Hp) (K : AV → Hp → Prop), e.size ≤ n → e.size ≤ 1000000 → e.fine hi → callsOK p e → tyOK t → wrongS p env t e = [] → EnvPt env nm → Sg p ts fm sid mid tv rows h → ChN h v nm →
    K (.int .i64 (ptS p (ts.map Tb.pts) e nm)) h → ACalls Tryz.prog 39 [.ptr sid 0, .agg e.cells, v] h K
theorem max_eq (a b : Int) : (if a < b then b else a) = max a b := by split <;> omega
theorem brRow_len (w : Bool × Int × Int) : (brRow w).length = 3 := rfl
theorem cases_ok {n : Nat} (hpt : PtOK p ts fm sid mid tv rows n) (hpp : ∀ f ∈ p, ∀ x ∈ f.params, tyOK x.ty) {e : Ex} {env : List Pm} {nm : Nms} {t hi : Int} {v : AV} {h : Hp} {K : AV → Hp → Prop} (hn : e.size ≤ n + 1) (hs : e.size ≤ 1000000) (hf : e.fine hi) (hc : callsOK p e) (ht : tyOK t) (hw : wrongS p env t e = []) (he : EnvPt env nm)
    (s : Sg p ts fm sid mid tv rows h) (cn : ChN h v nm) (o20 : e.op = 20) (hK : K (.int .i64 (ptS p (ts.map Tb.pts) e nm)) h) : ACalls Tryz.prog 73 [.ptr sid 0, .agg e.cells, v] h K := by
  have har : arOK e.op e.args.length := by cases e; exact hf.1
  obtain ⟨hvf, hvc⟩ := ChR.flat (show ChR h v nm.reverse from cn)
  obtain ⟨a, b, d, hargs⟩ := ex_args3 (l := e.args) (by simp [arOK, o20] at har; exact har)
  have hT := fit_tab s.fit
  have hfa : Ex.fineL hi e.args := by cases e; exact hf.2.2.2.2
  have hca := (callsOK_eq.1 hc).2
  have hsz : e.size = 1 + Ex.sizeL e.args := by cases e; rfl
  rw [hargs] at hfa hca hsz
  have hsz2 : Ex.sizeL [a, b, d] = a.size + (b.size + (d.size + 0)) := rfl
  have hw0 := wrong_at hw (k := 0) (a := a) (by rw [hargs]; rfl)
  have hw1 := wrong_at hw (k := 1) (a := b) (by rw [hargs]; rfl)
  have hw2 := wrong_at hw (k := 2) (a := d) (by rw [hargs]; rfl)
  have w0 : wantedS p e 0 t = 3 := by simp [wantedS, o20]
  have w1 : wantedS p e 1 t = t := by simp [wantedS, o20]
  have w2 : wantedS p e 2 t = t := by simp [wantedS, o20]
  have e0 : withinS env e 0 = env := by simp [withinS, o20]
  have e1 : withinS env e 1 = env := by simp [withinS, o20]
  have e2 : withinS env e 2 = env ++ [⟨e.name, 1, 0⟩] ++ [⟨e.tail, 3, 0⟩] := by simp [withinS, o20]
  rw [w0, e0] at hw0
  rw [w1, e1] at hw1
  rw [w2, e2] at hw2
  have hval : ptS p (ts.map Tb.pts) e nm = (casesS (ptS p (ts.map Tb.pts) a nm)).foldl (fun m w => max m (if w.1 then ptS p (ts.map Tb.pts) b nm else ptS p (ts.map Tb.pts) d (bindN (bindN nm e.name w.2.1) e.tail w.2.2))) 0 := by
    rw [ptS_eq]
    simp only [o20, hargs, caseP]
    simp
  have ha3 := ptS_range hT hpp a.size a env nm 3 hi (Nat.le_refl _) hfa.1 hca.1 (.inr (.inr rfl)) hw0 he
  rw [hval] at hK
  generalize hq : ptS p (ts.map Tb.pts) a nm = q at *
  have hq3 : 0 ≤ q ∧ q ≤ 3 := by simpa [topS] using ha3
  have qa0 : e.args.map Ex.cells = [a.cells, b.cells, d.cells] := by rw [hargs]; rfl
  refine calls_of mixed Tryz.func73 comp73 (Nat.le_of_ble_eq_true rfl) ?_
  simp -dsimp [c73]
  intro i4 d4
  have k4 : Keeps h (hset h i4 (.cells e.cells)) := (Keeps.refl h).new d4
  have s4 := s.keep k4
  have c4 := cn.keep k4
  have g4 := hat h i4 (.cells e.cells)
  simp -dsimp [qa0, rowsAV_cons]
  generalize hset h i4 (.cells e.cells) = H at *
  refine hpt a env nm 3 hi v H _ (by omega) (by omega) hfa.1 hca.1 (.inr (.inr rfl)) hw0 he s4 c4 ?_
  rw [hq]
  simp -dsimp
  refine pcases_ok hq3 ?_
  simp -dsimp
  refine ALoop.start (fun m tm h' => ∃ i : Nat, i + m = (casesS q).length ∧ tm 0 = .ptr sid 0 ∧ tm 2 = v ∧ tm 4 = .ptr i4 0 ∧ tm 24 = rowsAV ((casesS q).map brRow) ∧ tm 25 = .int .i64 (casesS q).length ∧ tm 26 = .int .i64 i ∧
      tm 7 = .int .i64 (((casesS q).take i).foldl (fun m w => max m (if w.1 then ptS p (ts.map Tb.pts) b nm else ptS p (ts.map Tb.pts) d (bindN (bindN nm e.name w.2.1) e.tail w.2.2))) 0) ∧ h' i4 = .cells e.cells ∧ Keeps h h') (casesS q).length
    ⟨0, by simp, by simp, by simp, by simp, by simp, by simp, by simp, by simp, g4, k4⟩ ?_
  rintro m tm h' ⟨i, hi', t0, t2, t4, t24, t25, t26, t7, g4', k⟩
  by_cases hlt : i < (casesS q).length
  · have hw1' : IntKind.i64.wrap ((i : Int) + 1) = ((i + 1 : Nat) : Int) := by
      have : (casesS q).length ≤ 2 := by
        have h4 : q = 0 ∨ q = 1 ∨ q = 2 ∨ q = 3 := by omega
        rcases h4 with rfl | rfl | rfl | rfl <;> simp [casesS]
      rw [wrap_i64] <;> omega
    have hmem := List.getElem_mem hlt
    have hcm := casesS_mem hmem
    have htk := take_snoc (casesS q) hlt
    have hfold : ((casesS q).take (i + 1)).foldl (fun m w => max m (if w.1 then ptS p (ts.map Tb.pts) b nm else ptS p (ts.map Tb.pts) d (bindN (bindN nm e.name w.2.1) e.tail w.2.2))) 0 =
        max (((casesS q).take i).foldl (fun m w => max m (if w.1 then ptS p (ts.map Tb.pts) b nm else ptS p (ts.map Tb.pts) d (bindN (bindN nm e.name w.2.1) e.tail w.2.2))) 0) (if (casesS q)[i].1 then ptS p (ts.map Tb.pts) b nm else ptS p (ts.map Tb.pts) d (bindN (bindN nm e.name (casesS q)[i].2.1) e.tail (casesS q)[i].2.2)) := by
      rw [htk, List.foldl_append]; rfl
    generalize hx : (casesS q)[i] = w at *
    generalize (((casesS q).take i).foldl (fun m w => max m (if w.1 then ptS p (ts.map Tb.pts) b nm else ptS p (ts.map Tb.pts) d (bindN (bindN nm e.name w.2.1) e.tail w.2.2))) 0) = acc at *
    simp -dsimp [t24, t25, t26, hlt, hx, brRow_len]
    intro i11 d11
    have n411 := cells_ne g4' d11
    have b3 : (brRow w).take 3 = brRow w := rfl
    have bd : (brRow w).drop 3 = [] := rfl
    have bq0 : (brRow w)[0]? = some (.bool w.1) := rfl
    have bq1 : (brRow w)[1]? = some (.int .i64 w.2.1) := rfl
    have bq2 : (brRow w)[2]? = some (.int .i64 w.2.2) := rfl
    have bg0 : ∀ hh, (brRow w)[0]'hh = .bool w.1 := fun _ => rfl
    have bg1 : ∀ hh, (brRow w)[1]'hh = .int .i64 w.2.1 := fun _ => rfl
    have bg2 : ∀ hh, (brRow w)[2]'hh = .int .i64 w.2.2 := fun _ => rfl
    have k11 := k.new (o := .cells (brRow w)) d11
    have s11 := s.keep k11
    have c11 := cn.keep k11
    cases hb : w.1 with
    | true =>
      rw [hb] at hfold
      simp only [if_true] at hfold
      simp -dsimp [b3, bd, bq0, bg0, brRow_len, hb, t0, t2, t4, n411, g4', qa0, rowsAV_cons]
      refine hpt b env nm t hi v _ _ (by omega) (by omega) hfa.2.1 hca.2.1 ht hw1 he s11 c11 ?_
      simp -dsimp [t7, max_eq, t26, hw1', ← hfold]
      exact Again.same (m - 1) (by omega) ⟨i + 1, by omega, by simp [t0], by simp [t2], by simp [t4], by simp [t24], by simp [t25], by simp, by simp, cells_new g4' d11, k11⟩
    | false =>
      rw [hb] at hfold
      simp only [Bool.false_eq_true, if_false] at hfold
      obtain ⟨r1, r2⟩ := hcm hb
      simp -dsimp [b3, bd, bq0, bq1, bg0, bg1, brRow_len, hb, t0, t2, t4, n411, g4', qa0, rowsAV_cons, hvf, hvc]
      intro i12 d12
      have g411 : hset h' i11 (.cells (brRow w)) i4 = .cells e.cells := cells_new g4' d11
      have n412 := cells_ne g411 d12
      have n1112 := cells_ne (hat h' i11 (.cells (brRow w))) d12
      have k12 := k11.new (o := .cells [.str e.name, .int .i64 w.2.1, v]) d12
      have s12 := s.keep k12
      have c12 : ChN (hset (hset h' i11 (.cells (brRow w))) i12 (.cells [.str e.name, .int .i64 w.2.1, v])) (.ptr i12 0) (bindN nm e.name w.2.1) := (cn.keep k12).bind (by simp)
      simp -dsimp [Stable, AIns.wants, QStep, n411, n412, n1112, g4', qa0, rowsAV_cons, bq2, bg2, b3, bd, brRow_len, t0, t2, t4]
      intro i60 d60
      have k60 := k12.new (o := .cells [.str e.tail, .int .i64 w.2.2, .ptr i12 0]) d60
      have s60 := s.keep k60
      have c60 := (c12.keep ((Keeps.refl _).new (o := .cells [.str e.tail, .int .i64 w.2.2, .ptr i12 0]) d60)).bind (nm := e.tail) (q := w.2.2) (id := i60) (by simp)
      have g4z : hset (hset (hset h' i11 (.cells (brRow w))) i12 (.cells [.str e.name, .int .i64 w.2.1, v])) i60 (.cells [.str e.tail, .int .i64 w.2.2, .ptr i12 0]) i4 = .cells e.cells := cells_new (cells_new g411 d12) d60
      have n460 : ¬ i4 = i60 := cells_ne (cells_new g411 d12) d60
      have n1160 : ¬ i11 = i60 := cells_ne (cells_new (hat h' i11 (.cells (brRow w))) d12) d60
      simp -dsimp [Stable, AIns.wants, QStep, n411, n412, n1112, n460, n1160, g4', qa0, rowsAV_cons, bq2, bg2, b3, bd, brRow_len, t0, t2, t4]
      refine hpt d (env ++ [⟨e.name, 1, 0⟩] ++ [⟨e.tail, 3, 0⟩]) (bindN (bindN nm e.name w.2.1) e.tail w.2.2) t hi _ _ _ (by omega) (by omega) hfa.2.2.1 hca.2.2.1 ht hw2 ((he.snoc rfl r1.1 (by simpa [topS] using r1.2)).snoc rfl r2.1 (by simpa [topS] using r2.2)) s60 c60 ?_
      simp -dsimp [t7, max_eq, t26, hw1', ← hfold]
      exact Again.same (m - 1) (by omega) ⟨i + 1, by omega, by simp [t0], by simp [t2], by simp [t4], by simp [t24], by simp [t25], by simp, by simp, g4z, k60⟩
  · have htk : (casesS q).take i = casesS q := List.take_of_length_le (by omega)
    rw [htk] at t7
    simp -dsimp [t25, t26, hlt, t7]
    exact Gives.sub k.sub hK
end
end Go.Proofs.YtghidedifiolbaaGreat

/- The program's point of an expression: all of it. -/
namespace Go.Proofs.YtghidedifiolbaaGreat
open Go.AM
section
variable {p : List Df} {ts : List Tb} {fm : Mp} {sid mid : Nat} {tv : AV} {rows : List (List AV)}
theorem point_ok (hpp : ∀ f ∈ p, ∀ x ∈ f.params, tyOK x.ty) : ∀ n, PtOK p ts fm sid mid tv rows n
  | 0 => fun e _ _ _ _ _ _ _ hn => by have := e.size_pos; omega
  | n + 1 => by
    intro e env nm t hi v h K hn hs hf hc ht hw he s cn hK
    have hpt := point_ok hpp n
    have hT := fit_tab s.fit
    have har : arOK e.op e.args.length := by cases e; exact hf.1
    have hfa : Ex.fineL hi e.args := by cases e; exact hf.2.2.2.2
    have hca := (callsOK_eq.1 hc).2
    have hsz : e.size = 1 + Ex.sizeL e.args := by cases e; rfl
    obtain ⟨hvf, hvc⟩ := ChR.flat (show ChR h v nm.reverse from cn)
    have hown := (wrong_own hw).1
    have hval := ptS_eq p (ts.map Tb.pts) e nm
    refine calls_of mixed Tryz.func39 comp39 (Nat.le_of_ble_eq_true rfl) ?_
    simp -dsimp [c39]
    intro i4 d4
    have k4 : Keeps h (hset h i4 (.cells e.cells)) := (Keeps.refl h).new d4
    have s4 := s.keep k4
    have c4 := cn.keep k4
    have g4 := hat h i4 (.cells e.cells)
    simp -dsimp
    by_cases o1 : e.op = 1
    · simp -dsimp [o1]
      exact Gives.sub k4.sub (by rw [hval] at hK; simpa [o1] using hK)
    by_cases o2 : e.op = 2
    · simp -dsimp [o1, o2]
      exact Gives.sub k4.sub (by rw [hval] at hK; simpa [o2] using hK)
    by_cases o3 : e.op = 3
    · simp -dsimp [o1, o2, o3]
      exact Gives.sub k4.sub (by rw [hval] at hK; simpa [o3] using hK)
    by_cases o4 : e.op = 4
    · simp -dsimp [o1, o2, o3, o4]
      exact Gives.sub k4.sub (by rw [hval] at hK; simpa [o4] using hK)
    by_cases o5 : e.op = 5
    · simp -dsimp [o1, o2, o3, o4, o5]
      exact Gives.sub k4.sub (by rw [hval] at hK; simpa [o5] using hK)
    have hn1 : ¬ (e.op = 1 ∨ e.op = 2 ∨ e.op = 3) := by omega
    rw [if_neg hn1, if_neg o4, if_neg o5] at hval
    by_cases o6 : e.op = 6
    · rw [if_pos o6] at hval
      have hl : (lastT e.name env).getD (-1) = t := by simpa [ownS, o6] using hown
      rcases he.last (n := e.name) with ⟨h1, h2⟩ | ⟨t', q, h1, h2, h3, h4⟩
      · rw [h1] at hl; simp at hl; rcases ht with h | h | h <;> omega
      · rw [h2] at hval
        simp only [Option.getD_some] at hval
        rw [hval] at hK
        simp -dsimp [o1, o2, o3, o4, o5, o6, g4]
        refine afind_ok c4 h2 ?_
        simp -dsimp
        exact Gives.sub k4.sub hK
    rw [if_neg o6] at hval
    by_cases o19 : e.op = 19
    · rw [if_pos o19] at hval
      obtain ⟨a, b, d, hargs⟩ := ex_args3 (l := e.args) (by simp [arOK, o19] at har; exact har)
      have qa0 : e.args.map Ex.cells = [a.cells, b.cells, d.cells] := by rw [hargs]; rfl
      have hwi : ∀ k, withinS env e k = env := fun k => withinS_none (by simp [o19])
      have w0 : wantedS p e 0 t = 2 := by simp [wantedS, o19]
      have w1 : wantedS p e 1 t = t := by simp [wantedS, o19]
      have w2 : wantedS p e 2 t = t := by simp [wantedS, o19]
      have hw0 := wrong_at hw (k := 0) (a := a) (by rw [hargs]; rfl)
      have hw1 := wrong_at hw (k := 1) (a := b) (by rw [hargs]; rfl)
      have hw2 := wrong_at hw (k := 2) (a := d) (by rw [hargs]; rfl)
      rw [w0, hwi] at hw0; rw [w1, hwi] at hw1; rw [w2, hwi] at hw2
      rw [hargs] at hfa hca hsz hval
      have hsz2 : Ex.sizeL [a, b, d] = a.size + (b.size + (d.size + 0)) := rfl
      simp only [ifP] at hval
      simp -dsimp [o1, o2, o3, o4, o5, o6, o19, g4, qa0, rowsAV_cons]
      refine hpt a env nm 2 hi v _ _ (by omega) (by omega) hfa.1 hca.1 (.inr (.inl rfl)) hw0 he s4 c4 ?_
      by_cases hz : ptS p (ts.map Tb.pts) a nm = 0
      · rw [hz] at hval ⊢
        simp -dsimp
        exact Gives.sub k4.sub (by rw [hval] at hK; simpa using hK)
      · simp -dsimp [hz, qa0, rowsAV_cons, Stable, AIns.wants, QStep]
        refine hpt b env nm t hi v _ _ (by omega) (by omega) hfa.2.1 hca.2.1 ht hw1 he s4 c4 ?_
        simp -dsimp [qa0, rowsAV_cons, Stable, AIns.wants, QStep]
        refine hpt d env nm t hi v _ _ (by omega) (by omega) hfa.2.2.1 hca.2.2.1 ht hw2 he s4 c4 ?_
        simp -dsimp [Stable, AIns.wants, QStep, max_eq]
        exact Gives.sub k4.sub (by rw [hval] at hK; simpa [hz] using hK)
    rw [if_neg o19] at hval
    by_cases o20 : e.op = 20
    · simp -dsimp [o1, o2, o3, o4, o5, o6, o19, o20, g4]
      refine cases_ok hpt hpp hn hs hf hc ht hw he s4 c4 o20 ?_
      simp -dsimp
      exact Gives.sub k4.sub hK
    rw [if_neg o20] at hval
    by_cases o21 : e.op = 21
    · rw [if_pos o21] at hval
      obtain ⟨a, b, hargs⟩ := ex_args2 (l := e.args) (by simp [arOK, o21] at har; exact har)
      have qa0 : e.args.map Ex.cells = [a.cells, b.cells] := by rw [hargs]; rfl
      have hty : tyOK e.ty := by cases e; exact hf.2.1 (.inr (.inl o21))
      have w0 : wantedS p e 0 t = e.ty := by simp [wantedS, o21]
      have w1 : wantedS p e 1 t = t := by simp [wantedS, o21]
      have hwi : ∀ k, withinS env e k = env ++ [⟨e.name, e.ty, 0⟩] := fun k => by simp [withinS, o21]
      have hw0 := wrong_at hw (k := 0) (a := a) (by rw [hargs]; rfl)
      have hw1 := wrong_at hw (k := 1) (a := b) (by rw [hargs]; rfl)
      rw [w0, hwi] at hw0; rw [w1, hwi] at hw1
      rw [hargs] at hfa hca hsz hval
      have hsz2 : Ex.sizeL [a, b] = a.size + (b.size + 0) := rfl
      simp only [letP] at hval
      have hfr : ∀ q, 0 ≤ q → q ≤ topS e.ty → 0 ≤ ptS p (ts.map Tb.pts) a (bindN nm e.name q) ∧ ptS p (ts.map Tb.pts) a (bindN nm e.name q) ≤ topS e.ty := fun q h0 h1 =>
        ptS_range hT hpp a.size a _ _ e.ty hi (Nat.le_refl _) hfa.1 hca.1 hty hw0 (he.snoc rfl h0 h1)
      have htop : 0 ≤ topS e.ty ∧ topS e.ty ≤ 3 := by have := topS_ok hty; omega
      generalize hfd : (fun q => ptS p (ts.map Tb.pts) a (bindN nm e.name q)) = f at *
      have hfe : ∀ q, ptS p (ts.map Tb.pts) a (bindN nm e.name q) = f q := fun q => by rw [← hfd]
      simp only [hfe] at hfr
      simp -dsimp [o1, o2, o3, o4, o5, o6, o19, o20, o21, g4, qa0, rowsAV_cons, hvf, hvc]
      intro i7 d7
      have n47 := cells_ne g4 d7
      have k7 := k4.new (o := .cells [.str e.name, .int .i64 0, v]) d7
      have c7 := (cn.keep k7).bind (nm := e.name) (q := 0) (id := i7) (by simp)
      have g47 : hset (hset h i4 (.cells e.cells)) i7 (.cells [.str e.name, .int .i64 0, v]) i4 = .cells e.cells := cells_new g4 d7
      have g77 := hat (hset h i4 (.cells e.cells)) i7 (.cells [.str e.name, .int .i64 0, v])
      simp -dsimp [n47, g4, qa0, rowsAV_cons]
      refine hpt a (env ++ [⟨e.name, e.ty, 0⟩]) (bindN nm e.name 0) e.ty hi _ _ _ (by omega) (by omega) hfa.1 hca.1 hty hw0 (he.snoc rfl (Int.le_refl 0) htop.1) (s.keep k7) c7 ?_
      rw [hfe]
      simp -dsimp
      refine ALoop.start (fun m tm h' => ∃ (q : Int) (j : Nat), fixI f m q = fixI f 4 0 ∧ 0 ≤ q ∧ q ≤ topS e.ty ∧ 4 ≤ q + m ∧ tm 0 = .ptr sid 0 ∧ tm 2 = v ∧ tm 4 = .ptr i4 0 ∧ tm 7 = .ptr j 0 ∧ tm 8 = .int .i64 (f q) ∧ h' i4 = .cells e.cells ∧ h' j = .cells [.str e.name, .int .i64 q, v] ∧ Keeps h h') 4
        ⟨0, i7, rfl, Int.le_refl 0, htop.1, by simp, by simp, by simp, by simp, by simp, by simp, g47, g77, k7⟩ ?_
      rintro m tm h' ⟨q, j, hfx, q0, q1, hqm, t0, t2, t4, t7, t8, g4', gj, k⟩
      have hm1 : ∃ m', m = m' + 1 := ⟨m - 1, by omega⟩
      obtain ⟨m', rfl⟩ := hm1
      rw [show fixI f (m' + 1) q = if f q ≤ q then q else fixI f m' (f q) from rfl] at hfx
      have cj := (cn.keep k).bind (nm := e.name) (q := q) (id := j) gj
      by_cases hle : f q ≤ q
      · have hgt : ¬ q < f q := by omega
        rw [if_pos hle] at hfx
        simp -dsimp [t0, t2, t4, t7, t8, gj, hgt, g4', qa0, rowsAV_cons]
        refine hpt b (env ++ [⟨e.name, e.ty, 0⟩]) (bindN nm e.name q) t hi _ _ _ (by omega) (by omega) hfa.2.1 hca.2.1 ht hw1 (he.snoc rfl q0 q1) (s.keep k) cj ?_
        simp -dsimp
        rw [← hfx] at hval
        rw [← hval]
        exact Gives.sub k.sub hK
      · have hgt : q < f q := by omega
        rw [if_neg hle] at hfx
        have hr2 := hfr q q0 q1
        simp -dsimp [t0, t2, t4, t7, t8, gj, hgt, g4', hvf, hvc]
        intro i9 d9
        have n49 := cells_ne g4' d9
        have k9 := k.new (o := .cells [.str e.name, .int .i64 (f q), v]) d9
        have c9 := (cn.keep k9).bind (nm := e.name) (q := f q) (id := i9) (by simp)
        simp -dsimp [t0, t2, t4, n49, g4', qa0, rowsAV_cons]
        refine hpt a (env ++ [⟨e.name, e.ty, 0⟩]) (bindN nm e.name (f q)) e.ty hi _ _ _ (by omega) (by omega) hfa.1 hca.1 hty hw0 (he.snoc rfl hr2.1 hr2.2) (s.keep k9) c9 ?_
        rw [hfe]
        simp -dsimp
        exact Again.same m' (by omega) ⟨f q, i9, hfx, hr2.1, hr2.2, by omega, by simp [t0], by simp [t2], by simp [t4], by simp, by simp, cells_new g4' d9, hat _ _ _, k9⟩
    rw [if_neg o21] at hval
    by_cases o22 : e.op = 22
    · rw [if_pos o22] at hval
      obtain ⟨a, b, hargs⟩ := ex_args2 (l := e.args) (by simp [arOK, o22] at har; exact har)
      have qa0 : e.args.map Ex.cells = [a.cells, b.cells] := by rw [hargs]; rfl
      have hty : tyOK e.ty := by cases e; exact hf.2.1 (.inr (.inr o22))
      have w0 : wantedS p e 0 t = e.ty := by simp [wantedS, o22]
      have w1 : wantedS p e 1 t = t := by simp [wantedS, o22]
      have e0 : withinS env e 0 = env := by simp [withinS, o22]
      have e1 : withinS env e 1 = env ++ [⟨e.name, e.ty, 0⟩] := by simp [withinS, o22]
      have hw0 := wrong_at hw (k := 0) (a := a) (by rw [hargs]; rfl)
      have hw1 := wrong_at hw (k := 1) (a := b) (by rw [hargs]; rfl)
      rw [w0, e0] at hw0; rw [w1, e1] at hw1
      rw [hargs] at hfa hca hsz hval
      have hsz2 : Ex.sizeL [a, b] = a.size + (b.size + 0) := rfl
      simp only [strP] at hval
      have hr := ptS_range hT hpp a.size a env nm e.ty hi (Nat.le_refl _) hfa.1 hca.1 hty hw0 he
      simp -dsimp [o1, o2, o3, o4, o5, o6, o19, o20, o21, o22, g4, qa0, rowsAV_cons]
      refine hpt a env nm e.ty hi v _ _ (by omega) (by omega) hfa.1 hca.1 hty hw0 he s4 c4 ?_
      generalize ptS p (ts.map Tb.pts) a nm = q at *
      by_cases hz : q = 0
      · subst hz
        simp -dsimp
        exact Gives.sub k4.sub (by rw [hval] at hK; simpa using hK)
      · have hq : 0 < q := by omega
        simp -dsimp [hq, qa0, rowsAV_cons, g4, hvf, hvc, Stable, AIns.wants, QStep]
        intro i5 d5
        have n45 := cells_ne g4 d5
        have k5 := k4.new (o := .cells [.str e.name, .int .i64 q, v]) d5
        have c5 := (cn.keep k5).bind (nm := e.name) (q := q) (id := i5) (by simp)
        simp -dsimp [qa0, rowsAV_cons, g4, n45, hvf, hvc, Stable, AIns.wants, QStep]
        refine hpt b (env ++ [⟨e.name, e.ty, 0⟩]) (bindN nm e.name q) t hi _ _ _ (by omega) (by omega) hfa.2.1 hca.2.1 ht hw1 (he.snoc rfl hr.1 hr.2) (s.keep k5) c5 ?_
        simp -dsimp [Stable, AIns.wants, QStep]
        exact Gives.sub k5.sub (by rw [hval] at hK; simpa [hz] using hK)
    rw [if_neg o22] at hval
    have hwi : ∀ k, withinS env e k = env := fun k => withinS_none ⟨o20, o21, o22⟩
    rw [allP_map] at hval
    have hwty : ∀ (k : Nat) (a : Ex), e.args[k]? = some a → tyOK (wantedS p e k t) := fun k a ha => by
      by_cases o7 : e.op = 7
      · obtain ⟨f, h1, h2⟩ := (callsOK_eq.1 hc).1 o7
        have hk := (List.getElem?_eq_some_iff.1 ha).1
        have hx : f.params[k]? = some f.params[k] := List.getElem?_eq_getElem (by omega)
        simp only [wantedS, o7, h1, hx]
        exact hpp f (headD_mem h1).1 _ (List.getElem_mem _)
      · by_cases o18 : e.op = 18
        · simp only [wantedS, o18]
          by_cases hk : k = 1
          · simp [hk]; exact .inr (.inr rfl)
          · simp [hk]; exact .inl rfl
        · by_cases o14 : e.op = 14
          · simp [wantedS, o14]; exact .inr (.inl rfl)
          · simp [wantedS, o7, o18, o14, o19, o20, o21, o22]; exact .inl rfl
    have hrng : ∀ (k : Nat) (a : Ex), e.args[k]? = some a → 0 ≤ ptS p (ts.map Tb.pts) a nm ∧ ptS p (ts.map Tb.pts) a nm ≤ topS (wantedS p e k t) := fun k a ha => by
      have hm := List.mem_of_getElem? ha
      exact ptS_range hT hpp a.size a env nm _ hi (Nat.le_refl _) (Ex.fineL_mem hfa hm) (callsL_mem hca hm) (hwty k a ha) (by have := wrong_at hw ha; rwa [hwi] at this) he
    have hjoin : JoinOK p e (e.args.map fun a => ptS p (ts.map Tb.pts) a nm) := by
      refine ⟨fun o18 => ?_, fun o7 => ?_⟩
      · obtain ⟨a, b, hargs⟩ := ex_args2 (l := e.args) (by simp [arOK, o18] at har; exact har)
        have r0 := hrng 0 a (by rw [hargs]; rfl)
        have r1 := hrng 1 b (by rw [hargs]; rfl)
        have w0 : wantedS p e 0 t = 1 := by simp [wantedS, o18]
        have w1 : wantedS p e 1 t = 3 := by simp [wantedS, o18]
        rw [w0] at r0; rw [w1] at r1
        rw [hargs]
        exact ⟨_, _, rfl, by simpa [topS] using r0, by simpa [topS] using r1⟩
      · obtain ⟨f, h1, h2⟩ := (callsOK_eq.1 hc).1 o7
        refine ⟨f, h1, (call_range (k := 0) (name := e.name) hT h1 (by simp [h2]) (allPt_of (by simp [tysF, h2]) fun k t' x k1 k2 => ?_)).1⟩
        simp only [tysF, List.getElem?_map, Option.map_eq_some_iff] at k1 k2
        obtain ⟨x', hx', rfl⟩ := k1
        obtain ⟨a, ha, rfl⟩ := k2
        have hwk : wantedS p e k t = x'.ty := by simp [wantedS, o7, h1, hx']
        have := hrng k a ha
        rwa [hwk] at this
    have hal := Ex.sizeL_len e.args
    simp -dsimp [o1, o2, o3, o4, o5, o6, o19, o20, o21, o22, g4]
    refine ALoop.start (fun m tm h' => ∃ i : Nat, i + m = e.args.length ∧ tm 0 = .ptr sid 0 ∧ tm 2 = v ∧ tm 4 = .ptr i4 0 ∧ tm 124 = rowsAV (e.args.map Ex.cells) ∧ tm 125 = .int .i64 e.args.length ∧ tm 126 = .int .i64 i ∧ h' i4 = .cells e.cells ∧
        Own h h' 49 1 (tm 10) (intRows ((e.args.take i).map fun a => ptS p (ts.map Tb.pts) a nm)) ∧ Keeps h h') e.args.length
      ⟨0, by simp, by simp, by simp, by simp, by simp, by simp, by simp, by simp, .inl ⟨by simp [intRows], by simp⟩, k4⟩ ?_
    rintro m tm h' ⟨i, hi', t0, t2, t4, t124, t125, t126, g4', own, k⟩
    by_cases hlt : i < e.args.length
    · have hw1 : IntKind.i64.wrap ((i : Int) + 1) = ((i + 1 : Nat) : Int) := by rw [wrap_i64] <;> omega
      have hai := List.getElem?_eq_getElem hlt
      have hmem := List.getElem_mem hlt
      have hsa := Ex.size_mem hmem
      have htk := take_snoc e.args hlt
      have hwa := wrong_at hw hai
      rw [hwi] at hwa
      have htya := hwty i _ hai
      generalize hx : e.args[i] = a at *
      simp -dsimp [t124, t125, t126, hlt, hx]
      intro i12 d12
      have n412 := cells_ne g4' d12
      simp -dsimp [t0, t2]
      refine hpt a env nm _ hi v _ _ (by omega) (by omega) (Ex.fineL_mem hfa hmem) (callsL_mem hca hmem) htya hwa he (s.keep (k.new d12)) (cn.keep (k.new d12)) ?_
      simp -dsimp
      intro i135 d135
      simp -dsimp [-AApp_sls]
      refine (own.new d12).new d135 |>.pushE ((k.new d12).new d135) (by simp [intRows]; omega) (by decide) fun v' h2 ho2 hf2 hk2 => ?_
      simp -dsimp [t126, hw1]
      refine Again.same (m - 1) (by omega) ⟨i + 1, by omega, by simp [t0], by simp [t2], by simp [t4], by simp [t124], by simp [t125], by simp, hk2.cells (cells_new (cells_new g4' d12) d135), ?_, hf2⟩
      rw [htk]
      simpa [intRows] using ho2
    · have htk : e.args.take i = e.args := List.take_of_length_le (by omega)
      rw [htk] at own
      generalize hpv : tm 10 = pv at *
      have hls := own.ls
      have hlv : LsV 49 1 h' pv (intRows (e.args.map fun a => ptS p (ts.map Tb.pts) a nm)) := by
        rcases hls with ⟨rfl, hz⟩ | ⟨id, xs, rfl, ha⟩
        · rw [hz]; exact .inl rfl
        · exact .inr (.inr ⟨id, xs, rfl, ha⟩)
      simp -dsimp [t125, t126, hlt, t0, t4, g4', hpv]
      refine join_ok (by simp; omega) (s.keep k) hlv hjoin ?_
      simp -dsimp
      rw [← hval]
      exact Gives.sub k.sub hK
end
end Go.Proofs.YtghidedifiolbaaGreat

/- The program's own look whether tables fit. -/
namespace Go.Proofs.YtghidedifiolbaaGreat
open Go.AM

theorem acheck_eq {p : List Df} (h : FineP p) : tcheck p = check07 p := by
  simp only [tcheck, check07, scheck_eq h]
  split
  · rfl
  · exact tell7_perm (progP_perm p p) _
theorem acheck_ok {p : List Df} {h : Hp} {K : AV → Hp → Prop} (hf : FineP p) (hK : K (.agg (fltRow (check07 p))) h) : ACalls Tryz.prog 65 [progAV p] h K :=
  tcheck_ok hf.size (fun f hm => fineP_mem hf.fine hm) (fun hc => check06_calls (by rw [← scheck_eq hf]; exact hc)) (by rw [acheck_eq hf]; exact hK)
/-- Does all fit? -/
def seeS (p : List Df) (ts : List Tb) : Bool := decide ((check07 p).1 = 0) && fitL p ts
theorem fm_full {p : List Df} {fm : Mp} (h : FmT (p.take p.length) fm) : FmT p fm := by rwa [List.take_of_length_le (Nat.le_refl _)] at h
theorem see_ok {p : List Df} {ts : List Tb} {tv : AV} {rows : List (List AV)} {h : Hp} {K : AV → Hp → Prop} (hf : FineP p) (htl : ts.length ≤ 9223372036854775807) (hd : DenTs h tv ts rows) (hK0 : seeS p ts = false → K (.tup [.nilp, .int .i64 3]) h)
    (hK1 : seeS p ts = true → ∀ (sid mid : Nat) (fm : Mp) (h' : Hp), Sg p ts fm sid mid tv rows h' → Keeps h h' → Gives K (some (.tup [.ptr sid 0, .int .i64 0])) h') : ACalls Tryz.prog 35 [progAV p, tv] h K := by
  have hlp := sizeP_len p
  have hsz := hf.size
  have hlen := hd.ls.len
  rw [hd.len] at hlen
  refine calls_of mixed Tryz.func35 comp35 (Nat.le_of_ble_eq_true rfl) ?_
  simp -dsimp [c35, progAV]
  intro i2 d2
  have k2 : Keeps h (hset h i2 (.cells [rowsAV (p.map Df.cells)])) := (Keeps.refl h).new d2
  have g2 := hat h i2 (.cells [rowsAV (p.map Df.cells)])
  simp -dsimp
  refine acheck_ok hf ?_
  by_cases hc : (check07 p).1 = 0
  · have hd06 := check06_nil (check07_06 hc)
    by_cases hl : ts.length = p.length
    · have hl' : (ts.length : Int) = (p.length : Int) := by omega
      simp -dsimp [fltRow, hc, hlen, hl, hl']
      intro mid dm
      have nm2 := cells_ne g2 dm
      simp -dsimp [nm2]
      have tvf : tv.flat = true ∧ tv.cells = [tv] := by
        rcases hd.ls with rfl | rfl | ⟨id, xs, rfl, _⟩
        · cases rows <;> exact ⟨rfl, rfl⟩
        · exact ⟨rfl, rfl⟩
        · exact ⟨rfl, rfl⟩
      simp -dsimp [tvf]
      intro sid ds
      have km := k2.new (o := .map []) dm
      have nms := map_ne (hat (hset h i2 (.cells [rowsAV (p.map Df.cells)])) mid (.map [])) ds
      have n2s := cells_ne (cells_new g2 dm) ds
      have ks := km.new (o := .cells [rowsAV (p.map Df.cells), .mp mid, tv]) ds
      have gm : hset (hset (hset h i2 (.cells [rowsAV (p.map Df.cells)])) mid (.map [])) sid (.cells [rowsAV (p.map Df.cells), .mp mid, tv]) mid = .map [] := by simp [nms]
      have gs := hat (hset (hset h i2 (.cells [rowsAV (p.map Df.cells)])) mid (.map [])) sid (.cells [rowsAV (p.map Df.cells), .mp mid, tv])
      have zm : h mid = .dead := k2.dead dm
      simp -dsimp [n2s, nm2]
      refine ALoop.start (fun m tm h' => ∃ (i : Nat) (fm : Mp), i + m = p.length ∧ tm 1 = tv ∧ tm 6 = .ptr sid 0 ∧ tm 30 = rowsAV (p.map Df.cells) ∧ tm 31 = .int .i64 p.length ∧ tm 32 = .int .i64 i ∧ h' sid = .cells [rowsAV (p.map Df.cells), .mp mid, tv] ∧ h' mid = .map (mapAV fm) ∧ FmT (p.take i) fm ∧
          (∀ (k : Nat) (f : Df) (t : Tb), k < i → p[k]? = some f → ts[k]? = some t → fitOK f t = true) ∧ Keeps h h') p.length
        ⟨0, [], by simp, by simp, by simp, by simp, by simp, by simp, gs, by simpa [mapAV] using gm, FmT.nil, (fun k f t hk => by omega), ks⟩ ?_
      rintro m tm h' ⟨i, fm, hi, t1, t6, t30, t31, t32, gs', gm', hfm, hfit, k⟩
      by_cases hlt : i < p.length
      · have hw1 : IntKind.i64.wrap ((i : Int) + 1) = ((i + 1 : Nat) : Int) := by rw [wrap_i64] <;> omega
        have hpi := List.getElem?_eq_getElem hlt
        have hput := hfm.put hpi hd06
        have hit : i < ts.length := by omega
        have hti := List.getElem?_eq_getElem hit
        have hrl : i < rows.length := by rw [hd.len]; exact hit
        have hri := List.getElem?_eq_getElem hrl
        have hden := hd.at_ i _ _ hti hri
        obtain ⟨ep, pv, bv, hrow, hpv, hbv, hw, hb1, hb2⟩ := hden
        have hrl4 : rows[i].length = 4 := by rw [hrow]; rfl
        obtain ⟨x, hx12⟩ := lsV_getk hd.ls hri hrl4
        have hfin : ∀ f t, f = p[i] → t = ts[i] → fitOK f t = false → seeS p ts = false := fun f t e1 e2 hb => by
          simp only [seeS, fitL_bad hpi hti (by rw [← e1, ← e2]; exact hb), Bool.and_false]
        generalize hR : rows[i] = row at *
        generalize hTt : ts[i] = t at *
        generalize hF : p[i] = f at *
        have hfin' := hfin f t rfl rfl
        simp -dsimp [t30, t31, t32, hlt, hF]
        intro i8 d8
        have ns8 := cells_ne gs' d8
        have nm8 := map_ne gm' d8
        have n8m : ¬ i8 = mid := fun x => nm8 x.symm
        have k8 := k.new (o := .cells f.cells) d8
        have fl11 : f.cells.length = 11 := by simp
        simp -dsimp [t6, gs', ns8, gm', nm8, n8m, Stable, AIns.wants, QStep, t1]
        have k9 : ∀ o, Keeps h (hset (hset h' i8 (.cells f.cells)) mid o) := fun o => k8.set zm
        obtain ⟨x1, x2⟩ := hx12 _ (fun id sz xs hh => (k9 (.map (mapAV (putM f.name (i : Int) fm)))).at hh (by simp))
        simp -dsimp [x1, x2]
        intro i9 d9
        have d9' : (hset (hset h' i8 (.cells f.cells)) mid (.map (mapAV (putM f.name (i : Int) fm)))) i9 = .dead := d9
        have n89 : ¬ i8 = i9 := cells_ne (cs := f.cells) (by simp [n8m]) d9'
        have nm9 : ¬ mid = i9 := map_ne (es := mapAV (putM f.name (i : Int) fm)) (by simp) d9'
        have ns9 : ¬ sid = i9 := cells_ne (cs := [rowsAV (p.map Df.cells), .mp mid, tv]) (by
          have : ¬ sid = mid := by rintro rfl; rw [gs'] at gm'; cases gm'
          simp [this, ns8, gs']) d9'
        have hcs : row.take 4 = row := List.take_of_length_le (by omega)
        have hcd : row.drop 4 = [] := List.drop_eq_nil_of_le (by omega)
        have hq0 : row[0]? = some pv := by rw [hrow]; rfl
        have hq1 : row[1]? = some (.int .i64 t.ty) := by rw [hrow]; rfl
        have hg0 : ∀ hh, row[0]'hh = pv := fun hh => (List.getElem?_eq_some_iff.1 hq0).2
        have hg1 : ∀ hh, row[1]'hh = .int .i64 t.ty := fun hh => (List.getElem?_eq_some_iff.1 hq1).2
        simp -dsimp [hrl4, hcs, hcd]
        have k10 := (k9 (.map (mapAV (putM f.name (i : Int) fm)))).new (o := .cells row) d9'
        have hdt : DenT 85 (hset (hset (hset h' i8 (.cells f.cells)) mid (.map (mapAV (putM f.name (i : Int) fm)))) i9 (.cells row)) t row := by
          refine DenT.keep ?_ k10
          exact ⟨ep, pv, bv, hrow, hpv, hbv, hw, hb1, hb2⟩
        refine tbchk_ok hdt ?_
        have hplv := hpv.len
        rw [intRows_length] at hplv
        by_cases htb : tbOK t = true
        · by_cases hty : t.ty = f.ty
          · by_cases hpl : t.params.length = f.params.length
            · have hpl' : (t.params.length : Int) = (f.params.length : Int) := by omega
              have nsm : ¬ sid = mid := by rintro rfl; rw [gs'] at gm'; cases gm'
              simp -dsimp [htb, hq1, hg1, hq0, hg0, hty, n89, hrl4, hplv, hpl, hpl', n8m]
              refine ALoop.start (fun m2 tm2 h2 => ∃ j : Nat, j + m2 = f.params.length ∧ tm2 1 = tv ∧ tm2 6 = .ptr sid 0 ∧ tm2 9 = .ptr i9 0 ∧ tm2 30 = rowsAV (p.map Df.cells) ∧ tm2 31 = .int .i64 p.length ∧ tm2 32 = .int .i64 i ∧ tm2 68 = rowsAV (f.params.map Pm.cells) ∧ tm2 69 = .int .i64 f.params.length ∧ tm2 70 = .int .i64 j ∧
                  (∀ k, k < j → t.params[k]? = (f.params[k]?).map Pm.ty) ∧ h2 sid = .cells [rowsAV (p.map Df.cells), .mp mid, tv] ∧ h2 mid = .map (mapAV (putM f.name (i : Int) fm)) ∧ h2 i9 = .cells row ∧ Keeps h h2) f.params.length
                ⟨0, by simp, by simp [t1], by simp [t6], by simp, by simp [t30], by simp [t31], by simp [t32], by simp, by simp, by simp, (fun k hk => by omega), by simp [ns9, nsm, ns8, gs'], by simp [nm9], by simp, k10⟩ ?_
              rintro m2 tm2 h2 ⟨j, hj, u1, u6, u9, u30, u31, u32, u68, u69, u70, heq, g2s, g2m, g29, k2'⟩
              by_cases hlj : j < f.params.length
              · have hw2 : IntKind.i64.wrap ((j : Int) + 1) = ((j + 1 : Nat) : Int) := by
                  have : t.params.length ≤ 4096 := by
                    simp only [tbOK, Bool.and_eq_true, decide_eq_true_eq] at htb
                    exact cntS_len htb.1.1.1
                  rw [wrap_i64] <;> omega
                have hpj : f.params[j]? = some f.params[j] := List.getElem?_eq_getElem hlj
                have hljt : j < t.params.length := by omega
                have htj : t.params[j]? = some t.params[j] := List.getElem?_eq_getElem hljt
                have hpvk := hpv.keep (h1 := h2) (fun id sz xs hh => k2'.at hh (by simp))
                generalize hpx : f.params[j] = px at *
                simp -dsimp [u68, u69, u70, hlj, hpx]
                intro i11 d11
                have n911 := cells_ne g29 d11
                have k11 := k2'.new (o := .cells px.cells) d11
                have hpv11 := hpv.keep (h1 := hset h2 i11 (.cells px.cells)) (fun id sz xs hh => k11.at hh (by simp))
                obtain ⟨y, y1, _, y3, _⟩ := hpv11.get (intRows_get hljt) rfl
                have y4 := y3 _ rfl
                generalize t.params[j] = ty1 at *
                by_cases heqt : ty1 = px.ty
                · simp -dsimp [u9, n911, g29, hq0, hg0, hrl4, y1, y4, heqt, u70, hw2, Stable, AIns.wants, QStep]
                  refine Again.same (m2 - 1) (by omega) ⟨j + 1, by omega, by simp [u1], by simp [u6], by simp [u9], by simp [u30], by simp [u31], by simp [u32], by simp [u68], by simp [u69], by simp, fun k hk => ?_, cells_new g2s d11, at_new g2m (by simp) d11, cells_new g29 d11, k11⟩
                  by_cases hkj : k = j
                  · rw [hkj, htj, hpj, heqt]; rfl
                  · exact heq k (by omega)
                · simp -dsimp [u9, n911, g29, hq0, hg0, hrl4, y1, y4, heqt, u70, Stable, AIns.wants, QStep]
                  refine Gives.sub k11.sub (hK0 (hfin' ?_))
                  simp only [fitOK, Bool.and_eq_false_iff, decide_eq_false_iff_not]
                  right; rintro ⟨_, h2p⟩
                  rw [h2p, List.getElem?_map, hpj] at htj
                  simp at htj
                  exact heqt htj.symm
              · have hpe : t.params = f.params.map Pm.ty := by
                  refine List.ext_getElem? fun k => ?_
                  rw [List.getElem?_map]
                  by_cases hk : k < j
                  · exact heq k hk
                  · rw [List.getElem?_eq_none (by omega), List.getElem?_eq_none (by omega)]; rfl
                simp -dsimp [u69, u70, hlj, u32, hw1]
                refine Again.same (m - 1) (by omega) ⟨i + 1, putM f.name (i : Int) fm, by omega, by simp [u1], by simp [u6], by simp [u30], by simp [u31], by simp, g2s, g2m, hput, fun k f' t' hk h1' h2' => ?_, k2'⟩
                by_cases hki : k = i
                · subst hki
                  rw [hpi] at h1'; rw [hti] at h2'
                  cases h1'; cases h2'
                  simp [fitOK, htb, hty, hpe]
                · exact hfit k f' t' (by omega) h1' h2'
            · have hpl' : ¬ (t.params.length : Int) = (f.params.length : Int) := by omega
              simp -dsimp [htb, hq1, hg1, hq0, hg0, hty, n89, hrl4, hplv, hpl, hpl', n8m]
              refine Gives.sub k10.sub (hK0 (hfin' ?_))
              simp only [fitOK, Bool.and_eq_false_iff, decide_eq_false_iff_not]
              right; rintro ⟨_, h2⟩; rw [h2] at hpl; simp at hpl
          · simp -dsimp [htb, hq1, hg1, hty, n89, hrl4, n8m]
            refine Gives.sub k10.sub (hK0 (hfin' ?_))
            simp only [fitOK, Bool.and_eq_false_iff, decide_eq_false_iff_not]
            right; rintro ⟨h2, _⟩; exact hty h2
        · have htb' : tbOK t = false := by simpa using htb
          simp -dsimp [htb']
          exact Gives.sub k10.sub (hK0 (hfin' (by simp [fitOK, htb'])))
      · have hi2 : i = p.length := by omega
        rw [hi2] at hfm
        simp -dsimp [t31, t32, hlt, t6]
        have hfl : fitL p ts = true := fitL_iff.2 ⟨hl, fun k' f t h1 h2 => hfit k' f t (by have := (List.getElem?_eq_some_iff.1 h1).1; omega) h1 h2⟩
        exact hK1 (by simp [seeS, hc, hfl]) sid mid fm h' ⟨gs', gm', fm_full hfm, hd.keep k, hfl⟩ k
    · have hl' : ¬ (ts.length : Int) = (p.length : Int) := by omega
      simp -dsimp [fltRow, hc, hlen, hl, hl']
      exact Gives.sub k2.sub (hK0 (by simp only [seeS, fitL_len hl, Bool.and_false]))
  · simp -dsimp [fltRow, hc]
    exact Gives.sub k2.sub (hK0 (by simp [seeS, hc]))
end Go.Proofs.YtghidedifiolbaaGreat

/- The program's types: Of. -/
namespace Go.Proofs.YtghidedifiolbaaGreat
open Go.AM

def cntRow (n : Int) : List AV := [.int .i64 n]
def cnt (n : Int) (_ : Int) : Int := IntKind.i64.wrap (n + 1)
theorem wr_of : WrOK 69 cntRow cnt := by
  intro fid f at_ h K hf hK
  refine calls_of mixed Tryz.func69 comp69 (Nat.le_of_ble_eq_true rfl) ?_
  simp -dsimp [c69, hf, cntRow]
  exact Gives.same hK

theorem cnt_fold : ∀ (l : List Int) (n : Int), 0 ≤ n → n + l.length ≤ 1000000000 → l.foldl cnt n = n + l.length
  | [], n, _, _ => by simp
  | x :: l, n, h0, h1 => by
    simp only [List.length_cons] at h1
    rw [List.foldl_cons]
    have : cnt n x = n + 1 := by simp only [cnt]; rw [wrap_i64] <;> omega
    rw [this, cnt_fold l (n + 1) (by omega) (by omega)]
    simp only [List.length_cons]; omega
mutual
theorem progS_length (p : List Df) : ∀ (e : Ex) (env : List Pm) (t : Int), (progS p env t e).length ≤ e.size
  | .mk op name tail ty re im args pos, env, t => by
    have h1 := ownW_length p env (.mk op name tail ty re im args pos) t
    have h2 := progL_length p args env (.mk op name tail ty re im args pos) t 0
    simp only [progS, List.length_append, Ex.size]
    omega
theorem progL_length (p : List Df) : ∀ (l : List Ex) (env : List Pm) (e : Ex) (t : Int) (i : Nat), (progL p env e t i l).length ≤ Ex.sizeL l
  | [], _, _, _, _ => by simp [progL]
  | a :: l, env, e, t, i => by
    have h1 := progS_length p a (withinS env e i) (wantedS p e i t)
    have h2 := progL_length p l env e t (i + 1)
    simp only [progL, List.length_append, Ex.sizeL]
    omega
end
/-- What the program's Of gives. -/
def tofS (p : List Df) (env : List Pm) (e : Ex) : Nat → Nat → Int × Int
  | 0, _ => (0, 34)
  | k + 1, i => if progS p env ((i : Int) + 1) e = [] then ((i : Int) + 1, 0) else tofS p env e k (i + 1)
theorem tof_ok {p : List Df} {env : List Pm} {e : Ex} {top : Int} {h : Hp} {K : AV → Hp → Prop} (hp : p.length ≤ 100000) (hpp : ∀ f ∈ p, ∀ x ∈ f.params, tyOK x.ty) (hnm : env.length + 2 * e.size ≤ 200000) (hf : e.fine top) (hc : callsOK p e)
    (hK : K (.tup [.int .i64 (tofS p env e 3 0).1, .int .i64 (tofS p env e 3 0).2]) h) : ACalls Tryz.prog 37 [progAV p, pmRows env, .agg e.cells] h K := by
  refine calls_of mixed Tryz.func37 comp37 (Nat.le_of_ble_eq_true rfl) ?_
  generalize hR : tofS p env e 3 0 = R at *
  simp -dsimp [c37, progAV]
  intro i3 d3
  simp -dsimp
  intro i5 d5
  simp at d5
  obtain ⟨n53, n35, d5⟩ := d5
  simp -dsimp
  intro i12 d12
  simp at d12
  obtain ⟨n125, n512, n123, n312, d12⟩ := d12
  simp -dsimp
  refine ALoop.start (fun n tm h' => ∃ i : Nat, i + n = 3 ∧ tm 1 = pmRows env ∧ tm 3 = .ptr i3 0 ∧ tm 5 = .ptr i5 0 ∧ tm 12 = .sl i12 0 3 ∧ tm 13 = .int .i64 3 ∧ tm 14 = .int .i64 i ∧
    h' i3 = .cells [rowsAV (p.map Df.cells)] ∧ h' i5 = .cells e.cells ∧ h' i12 = .arr 25 1 [[.int .i64 1], [.int .i64 2], [.int .i64 3]] ∧ Keeps h h' ∧ tofS p env e n i = R) 3
    ⟨0, by simp, by simp, by simp, by simp, by simp, by simp, by simp, by simp [n312, n35], by simp [n512], by simp, (((Keeps.refl h).set d3).set d5).set d12, hR⟩ ?_
  rintro n tm h' ⟨i, hi, t1, t3, t5, t12, t13, t14, hi3, hi5, hi12, hk, hq⟩
  have hw1 : IntKind.i64.wrap ((i : Int) + 1) = ((i + 1 : Nat) : Int) := by rw [wrap_i64] <;> omega
  cases n with
  | zero =>
    have : i = 3 := by omega
    subst this
    simp only [tofS] at hq
    rw [← hq] at hK
    simp -dsimp [t13, t14]
    exact Gives.sub hk.sub hK
  | succ n =>
    have hlt : i < 3 := by omega
    simp only [tofS] at hq
    have hty : tyOK ((i : Int) + 1) := by simp only [tyOK]; omega
    have hrow : [[AV.int .i64 1], [AV.int .i64 2], [AV.int .i64 3]][i]'(by simpa using hlt) = [.int .i64 ((i : Int) + 1)] := by
      match i, hlt with
      | 0, _ => rfl
      | 1, _ => rfl
      | 2, _ => rfl
    have hlti : (i : Int) < 3 := by omega
    simp -dsimp [t12, t13, t14, hlt, hlti, hi12, hrow]
    intro i10 d10
    have n310 := cells_ne hi3 d10
    have n510 := cells_ne hi5 d10
    have n1210 : ¬ i12 = i10 := by rintro rfl; rw [hi12] at d10; cases d10
    simp -dsimp [t3, hi3, n310]
    refine topen_ok (p := p) (by omega) ⟨rfl, rfl⟩ ?_
    intro cid mid heads ncm d6 d7 hpl
    simp at d6 d7
    obtain ⟨nc10, n10c, d6⟩ := d6
    obtain ⟨nm10, n10m, d7⟩ := d7
    have nmc : ¬ mid = cid := fun x => ncm x.symm
    have n3m := cells_ne hi3 d7
    have n5m := cells_ne hi5 d7
    have n3c := cells_ne hi3 d6
    have n5c := cells_ne hi5 d6
    have n12m : ¬ i12 = mid := by rintro rfl; rw [hi12] at d7; cases d7
    have n12c : ¬ i12 = cid := by rintro rfl; rw [hi12] at d6; cases d6
    simp -dsimp [t1, pmRows]
    refine EnvAt.app0 (ys := env) rfl (by omega) (by decide) ?_
    intro v1 h1 ce1 kq
    have q : ∀ {j : Nat} {o : AObj}, hset (hset (hset h' i10 (.cells [.int .i64 0])) mid (.map (mapAV heads))) cid (.cells [.mp mid, rowsAV (p.map Df.cells), .nl, .fn 69 [.ptr i10 0]]) j = o → o ≠ .dead → h1 j = o ∧ ¬ isId v1 j := fun {j o} hj ho => by
      rcases kq j (by simp) (by simp) with x | ⟨x, y⟩
      · exact absurd (hj.symm.trans x) ho
      · exact ⟨x.trans hj, y⟩
    have qc := q (j := cid) (o := .cells [.mp mid, rowsAV (p.map Df.cells), .nl, .fn 69 [.ptr i10 0]]) (by simp) (by simp)
    have qm := q (j := mid) (o := .map (mapAV heads)) (by simp [nmc]) (by simp)
    have qf := q (j := i10) (o := .cells [.int .i64 0]) (by simp [n10c, n10m]) (by simp)
    have q3 := q (j := i3) (o := .cells [rowsAV (p.map Df.cells)]) (by simp [n310, n3m, n3c, hi3]) (by simp)
    have q5 := q (j := i5) (o := .cells e.cells) (by simp [n510, n5m, n5c, hi5]) (by simp)
    have q12 := q (j := i12) (o := .arr 25 1 [[.int .i64 1], [.int .i64 2], [.int .i64 3]]) (by simp [n1210, n12m, n12c, hi12]) (by simp)
    have hfl := ce1.flat
    simp -dsimp [qc.1, hfl, t5, q5.1, n5c]
    have hkb : Keeps h' (hset (hset (hset h' i10 (.cells [.int .i64 0])) mid (.map (mapAV heads))) cid (.cells [.mp mid, rowsAV (p.map Df.cells), .nl, .fn 69 [.ptr i10 0]])) := (((Keeps.refl h').set d10).set d7).set d6
    have hk1 : Fr7 [cid, i10] h' .nl (hset h1 cid (.cells [.mp mid, rowsAV (p.map Df.cells), v1, .fn 69 [.ptr i10 0]])) v1 := by
      refine Fr7.mem (fun j hj _ => ?_) (by simp)
      rcases hkb j with x | x
      · exact .inl x
      · rcases kq j (by simp) (by simp) with y | ⟨y, z⟩
        · exact .inl (by rw [← x]; exact y)
        · exact .inr ⟨y.trans x, z⟩
    refine wants_ok (mid := mid) (heads := heads) (by omega) hpl hpp wr_of _ e top env ((i : Int) + 1) 0 (hset h1 cid (.cells [.mp mid, rowsAV (p.map Df.cells), v1, .fn 69 [.ptr i10 0]])) v1 _ (Nat.le_refl _) hnm hf hc hty ⟨by simp, by simp [nmc, qm.1], by simp [n10c, qf.1, cntRow], ce1.set qc.2, nc10⟩ ?_
    intro v2 h2 ck2 k2
    have hkk := hk1.trans k2
    have r : ∀ {j : Nat} {o : AObj}, h' j = o → o ≠ .dead → ¬ j = cid → ¬ j = i10 → h2 j = o := fun {j o} hj ho n1 n2 => by
      rcases hkk j (by simp [n1, n2]) (by simp) with x | ⟨x, _⟩
      · exact absurd (hj.symm.trans x) ho
      · exact x.trans hj
    have r3 := r hi3 (by simp) n3c n310
    have r5 := r hi5 (by simp) n5c n510
    have r12 := r hi12 (by simp) n12c n1210
    have hKk : Keeps h h2 := fun j => by
      rcases hk j with x | x
      · exact .inl x
      · by_cases e1 : j = cid
        · exact .inl (by rw [← x, e1]; exact d6)
        by_cases e2 : j = i10
        · exact .inl (by rw [← x, e2]; exact d10)
        rcases hkk j (by simp [e1, e2]) (by simp) with y | ⟨y, _⟩
        · exact .inl (by rw [← x]; exact y)
        · exact .inr (y.trans x)
    have hcnt := cnt_fold (progS p env ((i : Int) + 1) e) 0 (by omega) (by have := progS_length p e env ((i : Int) + 1); omega)
    have hcf := ck2.cf
    rw [hcnt, Int.zero_add] at hcf
    simp only [cntRow] at hcf
    by_cases hz : progS p env ((i : Int) + 1) e = []
    · rw [if_pos hz] at hq
      rw [← hq] at hK
      rw [hz] at hcf
      simp -dsimp [hcf]
      exact Gives.sub hKk.sub hK
    · rw [if_neg hz] at hq
      have hz' : ¬ ((progS p env ((i : Int) + 1) e).length : Int) = 0 := by
        have hz2 : ¬ (progS p env ((i : Int) + 1) e).length = 0 := fun x => hz (List.length_eq_zero_iff.1 x)
        omega
      simp -dsimp [hcf, hz, hz', t14, hw1]
      exact Again.same n (by omega) ⟨i + 1, by omega, by simp [t1, pmRows], by simp [t3], by simp [t5], by simp [t12], by simp [t13], by simp, r3, r5, r12, hKk, hq⟩
end Go.Proofs.YtghidedifiolbaaGreat
