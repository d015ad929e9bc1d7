/- The document's flattening: one expression. -/
import Derived.Test.YtcpkdbofohkipaaGreatKCgC
set_option linter.unusedVariables false
set_option linter.unusedSimpArgs false
namespace Go.Proofs.YtcpkdbofohkipaaGreat
open Go.AM
section
variable {p : List Df} {fid : Nat} {h h1 : Hp} {names : Nms} {n : Int} {K : AV → Hp → Prop}

def gcT : ACode := match c28.code with | .seq _ (.seq _ (.seq _ x)) => x | _ => .skip
theorem rf_new {H : Hp} {n' : Int} {j : Nat} {o : AObj} (hH : H fid = rfO p n') (hj : H j = .dead) : hset H j o fid = rfO p n' := at_new hH (by simp [rfO]) hj
theorem rf_cells {H : Hp} {n' : Int} {j : Nat} {cs : List AV} {o : AObj} (hH : H j = .cells cs) (hne : ¬ j = fid) : hset H fid o j = .cells cs := by simp [hne, hH]
theorem rf_ne {H : Hp} {n' : Int} {j : Nat} (hH : H fid = rfO p n') (hj : H j = .dead) : ¬ j = fid := by
  rintro rfl; rw [hH] at hj; cases hj

theorem gcode_core {k : Nat} (hpl : p.length ≤ 1000000) (hw : RCodes p fid k) {e : Ex} {hi : Int} {tm : Tm} {H : Hp} {i4 i6 : Nat} (hn : e.size ≤ k + 1) (hnm : names.length + 2 * e.size ≤ 200000) (hn0 : 0 ≤ n) (hn1 : n + 4 * e.size ≤ 400000) (hf : e.fine hi) (hc : scOK p (names.map Prod.fst) e) (hpos : NmPos names) (hl : litS e = none)
    (t0 : tm 0 = .ptr fid 0) (t2 : tm 2 = rowsAV (nmRows names)) (t4 : tm 4 = .ptr i4 0) (t6 : tm 6 = .ptr i6 0) (h4 : H i4 = .cells e.cells) (h6 : H i6 = .cells cz) (m4f : ¬ i4 = fid) (m6f : ¬ i6 = fid) (c : H fid = rfO p n) (k0 : KeepsX [fid] h H) (z6 : h i6 = .dead)
    (hK : K (.agg (codeS p names e n).1.cells) (hset h fid (rfO p (codeS p names e n).2))) :
    AW Tryz.prog gcT (fun e tm h' => match e with | .exit _ => False | _ => Gives K (aLda 11 (tm 6) h') h') tm H := by
  have hsa := e.size_args
  have hla := Ex.sizeL_len e.args
  have hfa := Ex.fine_args hf
  have har : arOK e.op e.args.length := by cases e; exact hf.1
  have hcs := scOK_eq.1 hc
  have n46 : ¬ i4 = i6 := by
    rintro rfl
    rw [h4] at h6
    have := congrArg (fun o : AObj => match o with | .cells l => l.length | _ => 0) h6
    simp [cz] at this
  have n64 : ¬ i6 = i4 := fun x => n46 x.symm
  have mf6 : ¬ fid = i6 := fun x => m6f x.symm
  -- the end
  have fin2 : ∀ (cd : Cd) (n' : Int) (H2 : Hp) (r : AV), K (.agg cd.cells) (hset h fid (rfO p n')) → H2 fid = rfO p n' → KeepsX [fid] h H2 → H2 i6 = .cells cz → OwnF h .nl H2 61 11 r (cd.args.map Cd.cells) →
      Gives K (some (.agg ([.int .i64 cd.op, .int .i64 cd.slot, .int .i64 cd.slot2, .int .i64 cd.func, .int .i64 cd.prim] ++ cd.lit.cells ++ [rowsAV (cd.atoms.map Atm.cells), r]))) (hset H2 i6 (.cells ([.int .i64 cd.op, .int .i64 cd.slot, .int .i64 cd.slot2, .int .i64 cd.func, .int .i64 cd.prim] ++ cd.lit.cells ++ [rowsAV (cd.atoms.map Atm.cells), r]))) :=
    fun cd n' H2 r hK' c2 k2 g6 o2 => by
      have c3 : hset H2 i6 (.cells ([.int .i64 cd.op, .int .i64 cd.slot, .int .i64 cd.slot2, .int .i64 cd.func, .int .i64 cd.prim] ++ cd.lit.cells ++ [rowsAV (cd.atoms.map Atm.cells), r])) fid = rfO p n' := by rw [hset_at, if_neg mf6, c2]
      refine Gives.frz ((k2.set z6).sub1 c3) ?_ hK'
      rw [Cd.cells_eq]
      have := Frz.cell (a := [.int .i64 cd.op, .int .i64 cd.slot, .int .i64 cd.slot2, .int .i64 cd.func, .int .i64 cd.prim] ++ cd.lit.cells ++ [rowsAV (cd.atoms.map Atm.cells)]) (b := []) (own_dead (o := rfO p n') (o2.setc g6 (x := .cells ([.int .i64 cd.op, .int .i64 cd.slot, .int .i64 cd.slot2, .int .i64 cd.func, .int .i64 cd.prim] ++ cd.lit.cells ++ [rowsAV (cd.atoms.map Atm.cells), r]))) c3)
      simpa using this
  have fin : ∀ (cd : Cd) (n' : Int) (H2 : Hp), K (.agg cd.cells) (hset h fid (rfO p n')) → H2 fid = rfO p n' → KeepsX [fid] h H2 → Gives K (some (.agg cd.cells)) (hset H2 i6 (.cells cd.cells)) :=
    fun cd n' H2 hK' c2 k2 => Gives.sub ((k2.set z6).sub1 (by rw [hset_at, if_neg mf6, c2])) hK'
  have fin3 : ∀ (cd : Cd) (n' : Int) (H2 : Hp), K (.agg cd.cells) (hset h fid (rfO p n')) → H2 fid = rfO p n' → KeepsX [fid] h H2 →
      Gives K (some (.agg ([.int .i64 cd.op, .int .i64 cd.slot, .int .i64 cd.slot2, .int .i64 cd.func, .int .i64 cd.prim] ++ cd.lit.cells ++ [rowsAV (cd.atoms.map Atm.cells), rowsAV (cd.args.map Cd.cells)]))) (hset H2 i6 (.cells ([.int .i64 cd.op, .int .i64 cd.slot, .int .i64 cd.slot2, .int .i64 cd.func, .int .i64 cd.prim] ++ cd.lit.cells ++ [rowsAV (cd.atoms.map Atm.cells), rowsAV (cd.args.map Cd.cells)]))) :=
    fun cd n' H2 hK' c2 k2 => by
      have := fin cd n' H2 hK' c2 k2
      rwa [Cd.cells_eq] at this
  by_cases o6 : e.op = 6
  · have ha : atomS names e = some ⟨(lastN e.name names).getD 0, vl0⟩ := by simp [atomS, o6]
    rw [codeS_some ha, if_pos (hpos.find _)] at hK
    simp -dsimp [gcT, c28, t0, t2, t4, t6, h4, h6, cz, o6]
    refine gfind_ok (names := names) (by omega) ?_
    simp -dsimp [t6, h6, cz]
    exact fin (.mk 2 ((lastN e.name names).getD 0) 0 0 0 vl0 [] []) n H hK c k0
  have ha : atomS names e = none := by simp [atomS, o6, hl]
  rw [codeS_none ha] at hK
  by_cases o5 : e.op = 5
  · simp only [o5, if_true] at hK
    simp -dsimp [gcT, c28, t0, t2, t4, t6, h4, h6, cz, o5]
    exact fin (.mk 10 0 0 0 0 vl0 [] []) n H hK c k0
  by_cases o7 : e.op = 7
  · simp only [o7, if_true, show ¬ ((7 : Int) = 5) by omega, if_false] at hK
    obtain ⟨f, hf1, hf2⟩ := hcs.2.1 o7
    simp -dsimp [gcT, c28, t0, t2, t4, t6, h4, h6, cz, o7, c, rfO]
    refine gnumber_ok hpl hf1 ?_
    simp -dsimp [Stable, AIns.wants, QStep, h4]
    refine gatoms_ok hw (hi := hi) (op := 3) (f := headsS e.name p 0) (by omega) (by omega) hn0 (by omega) hfa (scL_mem (fun i => by simp [boundS, o7]) hcs.2.2) hpos c ?_
    have q6 : ∀ o, hset H fid o i6 = .cells cz := fun o => by simp [m6f, h6]
    simp -dsimp [Stable, AIns.wants, QStep, t6, m6f, h6, cz]
    exact fin _ _ _ hK (by simp) (k0.mem (by simp))
  by_cases o18 : e.op = 18
  · simp only [o18, if_true, show ¬ ((18 : Int) = 5) by omega, show ¬ ((18 : Int) = 7) by omega, if_false] at hK
    simp -dsimp [gcT, c28, t0, t2, t4, t6, h4, h6, cz, o18]
    refine gatoms_ok hw (hi := hi) (op := 5) (f := 0) (by omega) (by omega) hn0 (by omega) hfa (scL_mem (fun i => by simp [boundS, o18]) hcs.2.2) hpos c ?_
    simp -dsimp [Stable, AIns.wants, QStep, t6, m6f, h6, cz]
    exact fin _ _ _ hK (by simp) (k0.mem (by simp))
  by_cases o19 : e.op = 19
  · simp only [o19, if_true, show ¬ ((19 : Int) = 5) by omega, show ¬ ((19 : Int) = 7) by omega, show ¬ ((19 : Int) = 18) by omega, if_false] at hK
    simp -dsimp [gcT, c28, t0, t2, t4, t6, h4, h6, cz, o19]
    refine gall_ok hw (hi := hi) (by omega) (by omega) hn0 (by omega) hfa (scL_mem (fun i => by simp [boundS, o19]) hcs.2.2) hpos c ?_
    simp -dsimp [Stable, AIns.wants, QStep, t6, m6f, h6, cz]
    exact fin3 (.mk 6 0 0 0 0 vl0 [] (allS p names e.args n).1) _ _ hK (by simp) (k0.mem (by simp))
  by_cases o20 : e.op = 20
  · have hlen3 : e.args.length = 3 := by rcases har with x | x | x | x | x <;> omega
    match hA : e.args, hlen3 with
    | [a, b, d], _ =>
      rw [hA] at hfa hsa hcs
      have hca := hcs.2.2.1
      have hcb := hcs.2.2.2.1
      have hcd := hcs.2.2.2.2.1
      simp only [boundS, o20, show ¬ ((20 : Int) = 21) by omega, show ¬ ((20 : Int) = 22) by omega, false_and, false_or, if_false, show ¬ (((0 : Nat) : Int) = 2) by omega, show ¬ (((1 : Nat) : Int) = 2) by omega, and_false, List.append_nil, Nat.zero_add, show ((0 + 1 : Nat) : Int) = 1 by omega, show ¬ ((1 : Int) = 2) by omega, show (((1 + 1 : Nat)) : Int) = 2 by omega, true_and, and_self, if_true] at hca hcb hcd
      simp only [o20, hA, if_true, show ¬ ((20 : Int) = 5) by omega, show ¬ ((20 : Int) = 7) by omega, show ¬ ((20 : Int) = 18) by omega, show ¬ ((20 : Int) = 19) by omega, if_false, caseS] at hK
      simp only [Ex.sizeL] at hsa
      have nx1 := codeS_next p a names n
      have nx2 := codeS_next p b names (codeS p names a n).2
      simp -dsimp [gcT, c28, t0, t2, t4, t6, h4, h6, cz, o20, hA, rowsAV_cons]
      refine hw a hi names n H _ (by omega) (by omega) hn0 (by omega) hfa.1 hca hpos c ?_
      generalize hcA : codeS p names a n = CA at *
      have c1 : hset H fid (rfO p CA.2) fid = rfO p CA.2 := by simp
      have k1 : KeepsX [fid] h (hset H fid (rfO p CA.2)) := k0.mem (by simp)
      have a4 := rf_cells (n' := CA.2) (o := rfO p CA.2) h4 m4f
      have a6 := rf_cells (n' := CA.2) (o := rfO p CA.2) h6 m6f
      generalize hset H fid (rfO p CA.2) = H1 at *
      simp -dsimp
      intro i9 d9
      have m9f := rf_ne c1 d9
      have n49 := cells_ne a4 d9
      have c2 := rf_new (o := .cells CA.1.cells) c1 d9
      have k2 := k1.new (o := .cells CA.1.cells) d9
      have b4 := cells_new (o' := .cells CA.1.cells) a4 d9
      have b6 := cells_new (o' := .cells CA.1.cells) a6 d9
      have b9 := hset_same H1 i9 (.cells CA.1.cells)
      simp -dsimp [t0, t2, t4, n49, a4, hA]
      generalize hset H1 i9 (.cells CA.1.cells) = H2 at *
      refine hw b hi names CA.2 H2 _ (by omega) (by omega) (by omega) (by omega) hfa.2.1 hcb hpos c2 ?_
      generalize hcB : codeS p names b CA.2 = CB at *
      have c3 : hset H2 fid (rfO p CB.2) fid = rfO p CB.2 := by simp
      have k3 : KeepsX [fid] h (hset H2 fid (rfO p CB.2)) := k2.mem (by simp)
      have e4 := rf_cells (n' := CB.2) (o := rfO p CB.2) b4 m4f
      have e6 := rf_cells (n' := CB.2) (o := rfO p CB.2) b6 m6f
      have e9 := rf_cells (n' := CB.2) (o := rfO p CB.2) b9 m9f
      generalize hset H2 fid (rfO p CB.2) = H3 at *
      simp -dsimp
      intro i10 d10
      have m10f := rf_ne c3 d10
      have c4 := rf_new (o := .cells CB.1.cells) c3 d10
      have k4 := k3.new (o := .cells CB.1.cells) d10
      have f4 := cells_new (o' := .cells CB.1.cells) e4 d10
      have f6 := cells_new (o' := .cells CB.1.cells) e6 d10
      have f9 := cells_new (o' := .cells CB.1.cells) e9 d10
      have f10 := hset_same H3 i10 (.cells CB.1.cells)
      simp -dsimp [t0]
      generalize hset H3 i10 (.cells CB.1.cells) = H4 at *
      refine gfresh_ok c4 ⟨by omega, by omega⟩ ?_
      have c5 : hset H4 fid (rfO p (CB.2 + 1)) fid = rfO p (CB.2 + 1) := by simp
      have k5 : KeepsX [fid] h (hset H4 fid (rfO p (CB.2 + 1))) := k4.mem (by simp)
      have g4 := rf_cells (n' := CB.2 + 1) (o := rfO p (CB.2 + 1)) f4 m4f
      have g6 := rf_cells (n' := CB.2 + 1) (o := rfO p (CB.2 + 1)) f6 m6f
      have g9 := rf_cells (n' := CB.2 + 1) (o := rfO p (CB.2 + 1)) f9 m9f
      have g10 := rf_cells (n' := CB.2 + 1) (o := rfO p (CB.2 + 1)) f10 m10f
      generalize hset H4 fid (rfO p (CB.2 + 1)) = H5 at *
      simp -dsimp [t0]
      refine gfresh_ok c5 ⟨by omega, by omega⟩ ?_
      have c6 : hset H5 fid (rfO p (CB.2 + 1 + 1)) fid = rfO p (CB.2 + 1 + 1) := by simp
      have k6 : KeepsX [fid] h (hset H5 fid (rfO p (CB.2 + 1 + 1))) := k5.mem (by simp)
      have p4 := rf_cells (n' := CB.2 + 1 + 1) (o := rfO p (CB.2 + 1 + 1)) g4 m4f
      have p6 := rf_cells (n' := CB.2 + 1 + 1) (o := rfO p (CB.2 + 1 + 1)) g6 m6f
      have p9 := rf_cells (n' := CB.2 + 1 + 1) (o := rfO p (CB.2 + 1 + 1)) g9 m9f
      have p10 := rf_cells (n' := CB.2 + 1 + 1) (o := rfO p (CB.2 + 1 + 1)) g10 m10f
      generalize hset H5 fid (rfO p (CB.2 + 1 + 1)) = H6 at *
      simp -dsimp [t2, t4, p4]
      refine gwith_ok (names := names) (by omega) ?_
      simp -dsimp [Stable, AIns.wants, QStep, p4]
      refine gwith_ok (names := bindN names e.name CB.2) (by simp [bindN]; omega) ?_
      simp -dsimp [Stable, AIns.wants, QStep, p4, p9, p10, t0, t4, hA]
      have hbl : (bindN (bindN names e.name CB.2) e.tail (CB.2 + 1)).length = names.length + 2 := by simp [bindN]
      refine hw d hi (bindN (bindN names e.name CB.2) e.tail (CB.2 + 1)) (CB.2 + 1 + 1) H6 _ (by omega) (by omega) (by omega) (by omega) hfa.2.2.1 (by simpa [bindN] using hcd) ((hpos.bind (by omega)).bind (by omega)) c6 ?_
      rw [show CB.2 + 2 = CB.2 + 1 + 1 by omega] at hK
      generalize hcD : codeS p (bindN (bindN names e.name CB.2) e.tail (CB.2 + 1)) d (CB.2 + 1 + 1) = CD at *
      have c7 : hset H6 fid (rfO p CD.2) fid = rfO p CD.2 := by simp
      have k7 : KeepsX [fid] h (hset H6 fid (rfO p CD.2)) := k6.mem (by simp)
      have q6 := rf_cells (n' := CD.2) (o := rfO p CD.2) p6 m6f
      have q9 := rf_cells (n' := CD.2) (o := rfO p CD.2) p9 m9f
      have q10 := rf_cells (n' := CD.2) (o := rfO p CD.2) p10 m10f
      simp -dsimp [Stable, AIns.wants, QStep, m9f, m10f, p9, p10]
      generalize hset H6 fid (rfO p CD.2) = H7 at *
      intro i86 d86
      have n686 := cells_ne q6 d86
      have n986 := cells_ne q9 d86
      have n1086 := cells_ne q10 d86
      simp -dsimp [Stable, AIns.wants, QStep, n686, n986, n1086, q6, q9, q10, t6, cz]
      refine fin2 (.mk 7 CB.2 (CB.2 + 1) 0 0 vl0 [] [CA.1, CB.1, CD.1]) CD.2 _ _ hK (rf_new c7 d86) (k7.new d86) (cells_new q6 d86) (.inr ⟨i86, by simp [Cd.args], .inl (k7.dead d86 (by
          rw [List.mem_singleton]
          exact rf_ne c7 d86)), by simp [Cd.args], by simp [Cd.args]⟩)
  by_cases o21 : e.op = 21
  · have hlen2 : e.args.length = 2 := by rcases har with x | x | x | x | x <;> omega
    simp only [o21, if_true, show ¬ ((21 : Int) = 5) by omega, show ¬ ((21 : Int) = 7) by omega, show ¬ ((21 : Int) = 18) by omega, show ¬ ((21 : Int) = 19) by omega, show ¬ ((21 : Int) = 20) by omega, if_false] at hK
    have hca : ∀ a ∈ e.args, scOK p ((bindN names e.name n).map Prod.fst) a := by
      match hA : e.args, hlen2 with
      | [a, b], _ =>
        rw [hA] at hcs
        have hca := hcs.2.2.1
        have hcb := hcs.2.2.2.1
        simp only [boundS, o21, true_or, if_true] at hca hcb
        intro x hx
        simp at hx
        rcases hx with rfl | rfl
        · simpa [bindN] using hca
        · simpa [bindN] using hcb
    simp -dsimp [gcT, c28, t0, t2, t4, t6, h4, h6, cz, o21]
    refine gfresh_ok c ⟨by omega, by omega⟩ ?_
    have c1 : hset H fid (rfO p (n + 1)) fid = rfO p (n + 1) := by simp
    have k1 : KeepsX [fid] h (hset H fid (rfO p (n + 1))) := k0.mem (by simp)
    have a4 := rf_cells (n' := n + 1) (o := rfO p (n + 1)) h4 m4f
    have a6 := rf_cells (n' := n + 1) (o := rfO p (n + 1)) h6 m6f
    simp -dsimp [t2, t4, m4f, h4]
    generalize hset H fid (rfO p (n + 1)) = H1 at *
    refine gwith_ok (names := names) (by omega) ?_
    simp -dsimp [t0, t4, a4]
    have hbl : (bindN names e.name n).length = names.length + 1 := by simp [bindN]
    refine gall_ok hw (hi := hi) (names := bindN names e.name n) (by omega) (by omega) (by omega) (by omega) hfa hca (hpos.bind hn0) c1 ?_
    simp -dsimp [t6, m6f, a6, cz]
    exact fin3 (.mk 8 n 0 0 0 vl0 [] (allS p (bindN names e.name n) e.args (n + 1)).1) _ _ hK (by simp) (k1.mem (by simp))
  by_cases o22 : e.op = 22
  · have hlen2 : e.args.length = 2 := by rcases har with x | x | x | x | x <;> omega
    match hA : e.args, hlen2 with
    | [a, b], _ =>
      rw [hA] at hfa hsa hcs
      have hca := hcs.2.2.1
      have hcb := hcs.2.2.2.1
      simp only [boundS, o22, show ¬ ((22 : Int) = 21) by omega, show ¬ ((22 : Int) = 20) by omega, false_and, false_or, if_false, show ¬ (((0 : Nat) : Int) = 1) by omega, and_false, List.append_nil, Nat.zero_add, show ((0 + 1 : Nat) : Int) = 1 by omega, true_and, and_self, if_true] at hca hcb
      simp only [o22, hA, if_true, show ¬ ((22 : Int) = 5) by omega, show ¬ ((22 : Int) = 7) by omega, show ¬ ((22 : Int) = 18) by omega, show ¬ ((22 : Int) = 19) by omega, show ¬ ((22 : Int) = 20) by omega, show ¬ ((22 : Int) = 21) by omega, if_false, strictS] at hK
      simp only [Ex.sizeL] at hsa
      have nx1 := codeS_next p a names n
      simp -dsimp [gcT, c28, t0, t2, t4, t6, h4, h6, cz, o22, hA, rowsAV_cons]
      refine hw a hi names n H _ (by omega) (by omega) hn0 (by omega) hfa.1 hca hpos c ?_
      generalize hcA : codeS p names a n = CA at *
      have c1 : hset H fid (rfO p CA.2) fid = rfO p CA.2 := by simp
      have k1 : KeepsX [fid] h (hset H fid (rfO p CA.2)) := k0.mem (by simp)
      have a4 := rf_cells (n' := CA.2) (o := rfO p CA.2) h4 m4f
      have a6 := rf_cells (n' := CA.2) (o := rfO p CA.2) h6 m6f
      generalize hset H fid (rfO p CA.2) = H1 at *
      simp -dsimp
      intro i16 d16
      have m16f := rf_ne c1 d16
      have n416 := cells_ne a4 d16
      have c2 := rf_new (o := .cells CA.1.cells) c1 d16
      have k2 := k1.new (o := .cells CA.1.cells) d16
      have b4 := cells_new (o' := .cells CA.1.cells) a4 d16
      have b6 := cells_new (o' := .cells CA.1.cells) a6 d16
      have b16 := hset_same H1 i16 (.cells CA.1.cells)
      simp -dsimp [t0]
      generalize hset H1 i16 (.cells CA.1.cells) = H2 at *
      refine gfresh_ok c2 ⟨by omega, by omega⟩ ?_
      have c3 : hset H2 fid (rfO p (CA.2 + 1)) fid = rfO p (CA.2 + 1) := by simp
      have k3 : KeepsX [fid] h (hset H2 fid (rfO p (CA.2 + 1))) := k2.mem (by simp)
      have e4 := rf_cells (n' := CA.2 + 1) (o := rfO p (CA.2 + 1)) b4 m4f
      have e6 := rf_cells (n' := CA.2 + 1) (o := rfO p (CA.2 + 1)) b6 m6f
      have e16 := rf_cells (n' := CA.2 + 1) (o := rfO p (CA.2 + 1)) b16 m16f
      simp -dsimp [t0, t2, t4, m4f, m16f, b4, b16, hA]
      generalize hset H2 fid (rfO p (CA.2 + 1)) = H3 at *
      refine gwith_ok (names := names) (by omega) ?_
      simp -dsimp [Stable, AIns.wants, QStep, t4, e4, e16, hA]
      have hbl : (bindN names e.name CA.2).length = names.length + 1 := by simp [bindN]
      refine hw b hi (bindN names e.name CA.2) (CA.2 + 1) H3 _ (by omega) (by omega) (by omega) (by omega) hfa.2.1 (by simpa [bindN] using hcb) (hpos.bind (by omega)) c3 ?_
      generalize hcB : codeS p (bindN names e.name CA.2) b (CA.2 + 1) = CB at *
      have c7 : hset H3 fid (rfO p CB.2) fid = rfO p CB.2 := by simp
      have k7 : KeepsX [fid] h (hset H3 fid (rfO p CB.2)) := k3.mem (by simp)
      have q6 := rf_cells (n' := CB.2) (o := rfO p CB.2) e6 m6f
      have q16 := rf_cells (n' := CB.2) (o := rfO p CB.2) e16 m16f
      simp -dsimp [Stable, AIns.wants, QStep, m16f, e16]
      generalize hset H3 fid (rfO p CB.2) = H7 at *
      intro i86 d86
      have n686 := cells_ne q6 d86
      have n1686 := cells_ne q16 d86
      simp -dsimp [Stable, AIns.wants, QStep, n686, n1686, q6, q16, t6, cz]
      refine fin2 (.mk 9 CA.2 0 0 0 vl0 [] [CA.1, CB.1]) CB.2 _ _ hK (rf_new c7 d86) (k7.new d86) (cells_new q6 d86) (.inr ⟨i86, by simp [Cd.args], .inl (k7.dead d86 (by
          rw [List.mem_singleton]
          exact rf_ne c7 d86)), by simp [Cd.args], by simp [Cd.args]⟩)
  · simp only [o5, o7, o18, o19, o20, o21, o22, if_false] at hK
    simp -dsimp [gcT, c28, t0, t2, t4, t6, h4, h6, cz, o5, o6, o7, o18, o19, o20, o21, o22]
    refine gall_ok hw (hi := hi) (by omega) (by omega) hn0 (by omega) hfa (scL_mem (fun i => by simp [boundS, o20, o21, o22]) hcs.2.2) hpos c ?_
    simp -dsimp [Stable, AIns.wants, QStep, t4, t6, m4f, m6f, h4, h6, cz]
    exact fin3 (.mk 4 0 0 0 e.op vl0 [] (allS p names e.args n).1) _ _ hK (by simp) (k0.mem (by simp))

theorem gcode_ok (hpl : p.length ≤ 1000000) : ∀ k : Nat, RCodes p fid k := by
  intro k
  induction k with
  | zero =>
    intro e hi names n h K hn
    have := e.size_pos
    omega
  | succ k ih =>
    intro e hi names n h K hn hnm hn0 hn1 hf hc hpos c hK
    refine calls_of mixed Tryz.func28 comp28 (Nat.le_of_ble_eq_true rfl) ?_
    have key : ∀ (tm : Tm) (H : Hp) (i4 i6 : Nat), litS e = none → tm 0 = .ptr fid 0 → tm 2 = rowsAV (nmRows names) → tm 4 = .ptr i4 0 → tm 6 = .ptr i6 0 → H i4 = .cells e.cells → H i6 = .cells cz → ¬ i4 = fid → ¬ i6 = fid → H fid = rfO p n → KeepsX [fid] h H → h i6 = .dead →
        AW Tryz.prog gcT (fun e tm h' => match e with | .exit _ => False | _ => Gives K (aLda 11 (tm 6) h') h') tm H :=
      fun tm H i4 i6 hl t0 t2 t4 t6 h4 h6 m4 m6 c' k' z6 => gcode_core hpl ih hn hnm hn0 hn1 hf hc hpos hl t0 t2 t4 t6 h4 h6 m4 m6 c' k' z6 hK
    have hsplit2 : c28.code = .seq (match c28.code with | .seq a _ => a | _ => .skip) (.seq (match c28.code with | .seq _ (.seq b _) => b | _ => .skip) (.seq (match c28.code with | .seq _ (.seq _ (.seq b _)) => b | _ => .skip) gcT)) := rfl
    rw [hsplit2]
    generalize gcT = T at *
    simp -dsimp [c28]
    intro i4 d4
    simp -dsimp
    intro i6 d6
    have n46 := hset_ne d6
    have n64 : ¬ i6 = i4 := fun x => n46 x.symm
    have d6' : h i6 = .dead := by simpa [n64] using d6
    have m4f := rf_ne c d4
    have m6f := rf_ne c d6'
    simp -dsimp [n46]
    refine glit_ok ?_
    have c6 := rf_new (o := .cells cz) (rf_new (o := .cells e.cells) c d4) d6
    have k6 := (KeepsX.refl (S := [fid]) (h := h)).new (o := .cells e.cells) d4 |>.new (o := .cells cz) d6
    have a4 : hset (hset h i4 (.cells e.cells)) i6 (.cells cz) i4 = .cells e.cells := by simp [n46]
    have a6 : hset (hset h i4 (.cells e.cells)) i6 (.cells cz) i6 = .cells cz := by simp
    simp -dsimp
    intro i7 d7
    have d7z := d7
    simp only [show ([.int .i64 0, .int .i64 0, .int .i64 0, .int .i64 0, .int .i64 0, .int .i64 0, .cplx 0 0, .bool false, .nl, .nl, .nl] : List AV) = cz from rfl] at d7z
    have n47 := cells_ne a4 d7z
    have n67 := cells_ne a6 d7z
    have n76 : ¬ i7 = i6 := fun x => n67 x.symm
    cases hl : litS e with
    | some w =>
      have o6 : ¬ e.op = 6 := fun o6 => by simp [litS, o6] at hl
      have ha : atomS names e = some ⟨-1, w⟩ := by simp [atomS, o6, hl]
      rw [codeS_some ha, if_neg (by simp : ¬ (0 : Int) ≤ -1)] at hK
      simp only [hset_self c] at hK
      have d7' : h i7 = .dead := ((Keeps.refl h).new d4 |>.new d6).dead d7
      simp -dsimp [n46, n64, n47, n67, n76]
      have fin : ∀ (cd : Cd) o o' o'', K (.agg cd.cells) h → Gives K (some (.agg cd.cells)) (hset (hset (hset (hset h i4 o) i6 o') i7 o'') i6 (.cells cd.cells)) := fun cd o o' o'' hK' =>
        Gives.sub ((((Keeps.refl h).set d4).set d6').set d7' |>.set d6').sub hK'
      exact fin (.mk 1 0 0 0 0 w [] []) _ _ _ hK
    | none =>
      simp -dsimp [n46, n64, n47, n67, n76]
      exact key _ _ i4 i6 hl (by simp) (by simp) (by simp) (by simp) (cells_new a4 d7z) (cells_new a6 d7z) m4f m6f (rf_new c6 d7z) (k6.new d7z) d6'
end
end Go.Proofs.YtcpkdbofohkipaaGreat
