/- The program's flattening: one expression that is no atom. -/
import Derived.Test.YtcpkdbofohkipaaGreatKCfA
set_option linter.unusedVariables false
set_option linter.unusedSimpArgs false
namespace Go.Proofs.YtcpkdbofohkipaaGreat
open Go.AM
section
variable {p : List Df} {cid mid : Nat} {fm : Mp} {h h1 : Hp} {v v1 : AV} {names : Nms} {n : Int} {K : AV → Hp → Prop}

theorem codeS_none {e : Ex} (ha : atomS names e = none) : codeS p names e n =
    if e.op = 5 then (.mk 10 0 0 0 0 vl0 [] [], n)
    else if e.op = 7 then letsS p names (.mk 3 0 0 (headsS e.name p 0) 0 vl0 (atomsL names e.args n).1 []) e.args (atomsL names e.args n).1 (atomsL names e.args n).2
    else if e.op = 18 then letsS p names (.mk 5 0 0 0 0 vl0 (atomsL names e.args n).1 []) e.args (atomsL names e.args n).1 (atomsL names e.args n).2
    else if e.op = 19 then (.mk 6 0 0 0 0 vl0 [] (allS p names e.args n).1, (allS p names e.args n).2)
    else if e.op = 20 then caseS p names e.name e.tail e.args n
    else if e.op = 21 then (.mk 8 n 0 0 0 vl0 [] (allS p (bindN names e.name n) e.args (n + 1)).1, (allS p (bindN names e.name n) e.args (n + 1)).2)
    else if e.op = 22 then strictS p names e.name e.args n
    else (.mk 4 0 0 0 e.op vl0 [] (allS p names e.args n).1, (allS p names e.args n).2) := by
  cases e
  rw [codeS]
  simp only [ha]
  rfl
theorem codeS_some {e : Ex} {a : Atm} (ha : atomS names e = some a) : codeS p names e n = if 0 ≤ a.slot then (.mk 2 a.slot 0 0 0 vl0 [] [], n) else (.mk 1 0 0 0 0 a.lit [] [], n) := by
  cases e
  rw [codeS]
  simp only [ha]
/-- The functions' numbers. -/
def FmOK (p : List Df) (fm : Mp) : Prop := ∀ nm f, headD nm p = some f → getM fm nm = headsS nm p 0

def cz : List AV := [.int .i64 0, .int .i64 0, .int .i64 0, .int .i64 0, .int .i64 0, .int .i64 0, .cplx 0 0, .bool false, .nl, .nl, .nl]
def cdT : ACode := match c27.code with | .seq _ (.seq _ x) => x | _ => .skip

theorem hset_same (h : Hp) (i : Nat) (o : AObj) : hset h i o i = o := by simp
theorem fl_at {h2 : Hp} {v2 : AV} {j : Nat} {cs : List AV} (k : Fr7 [cid] h1 v1 h2 v2) (c : Fl cid mid fm h1 v1 names n) (hj : h1 j = .cells cs) (hc : ¬ j = cid) : h2 j = .cells cs := k.atc hj (by simp [hc]) (c.cl.notc hj)
theorem free_trans {h v H : _} {v1 : AV} (k0 : Fr7 [cid] h v1 H v) (c : Fl cid mid fm H v names n) {j : Nat} (f : Free H v j) : Free h v1 j := by
  rcases f with x | x
  · exact k0.deadc c.nodead x
  · have hc : j ∉ [cid] := by
      intro y
      rw [List.mem_singleton] at y
      exact c.notc (y ▸ x)
    by_cases hv : isId v1 j
    · exact .inr hv
    · rcases k0 j hc hv with y | ⟨_, y⟩
      · exact .inl y
      · exact absurd x y
theorem ownF_trans {H H2 : Hp} {e sz : Nat} {r : AV} {rows : List (List AV)} (o : OwnF H v H2 e sz r rows) (k0 : Fr7 [cid] h v1 H v) (c : Fl cid mid fm H v names n) : OwnF h v1 H2 e sz r rows := by
  rcases o with x | ⟨id, hn, hd, rfl, ha⟩
  · exact .inl x
  · exact .inr ⟨id, hn, free_trans k0 c hd, rfl, ha⟩

theorem code_core {k : Nat} (hfm : FmOK p fm) (hw : Codes p cid mid fm k) {e : Ex} {hi : Int} {tm : Tm} {H : Hp} {i3 i4 : Nat} (hn : e.size ≤ k + 1) (hnm : names.length + 2 * e.size ≤ 200000) (hn0 : 0 ≤ n) (hn1 : n + 4 * e.size ≤ 400000) (hf : e.fine hi) (hc : scOK p (names.map Prod.fst) e) (ha : atomS names e = none)
    (t0 : tm 0 = .ptr cid 0) (t3 : tm 3 = .ptr i3 0) (t4 : tm 4 = .ptr i4 0) (h3 : H i3 = .cells e.cells) (h4 : H i4 = .cells cz) (m3c : ¬ i3 = cid) (m4c : ¬ i4 = cid) (c : Fl cid mid fm H v names n) (k0 : Fr7 [cid] h v1 H v) (z4 : Free h v1 i4)
    (hK : NxF cid mid fm h v1 names (codeS p names e n).2 (K (.agg (codeS p names e n).1.cells))) :
    AW Tryz.prog cdT (fun e tm h' => match e with | .exit _ => False | _ => Gives K (aLda 11 (tm 4) h') h') tm H := by
  have hsa := e.size_args
  have hla := Ex.sizeL_len e.args
  have hfa := Ex.fine_args hf
  have har : arOK e.op e.args.length := by cases e; exact hf.1
  have hcs := scOK_eq.1 hc
  rw [codeS_none ha] at hK
  have v3 := c.cl.notc h3
  have v4 := c.cl.notc h4
  have n34 : ¬ i3 = i4 := by
    rintro rfl
    rw [h3] at h4
    have := congrArg (fun o : AObj => match o with | .cells l => l.length | _ => 0) h4
    simp [cz] at this
  have n43 : ¬ i4 = i3 := fun x => n34 x.symm
  have at3 : ∀ {h2 : Hp} {v2 : AV}, Fr7 [cid] H v h2 v2 → h2 i3 = .cells e.cells := fun k => k.atc h3 (by simp [m3c]) v3
  have at4 : ∀ {h2 : Hp} {v2 : AV}, Fr7 [cid] H v h2 v2 → h2 i4 = .cells cz := fun k => k.atc h4 (by simp [m4c]) v4
  -- the end
  have fin : ∀ (cd : Cd) (n' : Int) (H2 : Hp) (v2 : AV), NxF cid mid fm h v1 names n' (K (.agg cd.cells)) → Fl cid mid fm H2 v2 names n' → Fr7 [cid] H v H2 v2 → Gives K (some (.agg cd.cells)) (hset H2 i4 (.cells cd.cells)) :=
    fun cd n' H2 v2 hK' c2 k2 => Gives.same (hK' _ _ (c2.setc (at4 k2) m4c) (fr7_at (k0.trans k2) z4))
  have fin2 : ∀ (cd : Cd) (n' : Int) (H2 : Hp) (v2 r : AV), NxF cid mid fm h v1 names n' (K (.agg cd.cells)) → Fl cid mid fm H2 v2 names n' → Fr7 [cid] H v H2 v2 → OwnF H v H2 61 11 r (cd.args.map Cd.cells) →
      Gives K (some (.agg ([.int .i64 cd.op, .int .i64 cd.slot, .int .i64 cd.slot2, .int .i64 cd.func, .int .i64 cd.prim] ++ cd.lit.cells ++ [rowsAV (cd.atoms.map Atm.cells), r]))) (hset H2 i4 (.cells ([.int .i64 cd.op, .int .i64 cd.slot, .int .i64 cd.slot2, .int .i64 cd.func, .int .i64 cd.prim] ++ cd.lit.cells ++ [rowsAV (cd.atoms.map Atm.cells), r]))) :=
    fun cd n' H2 v2 r hK' c2 k2 o2 => fgive (c2.setc (at4 k2) m4c) (fr7_at (k0.trans k2) z4) ((ownF_trans o2 k0 c).setc (at4 k2)) hK'
  have hlen := c.cl.len
  by_cases o5 : e.op = 5
  · simp only [o5, if_true] at hK
    simp -dsimp [cdT, c27, t0, t3, t4, h3, h4, cz, o5, c.cc, hlen]
    exact fin (.mk 10 0 0 0 0 vl0 [] []) n H v hK c Fr7.refl
  by_cases o7 : e.op = 7
  · simp only [o7, if_true, show ¬ ((7 : Int) = 5) by omega, if_false] at hK
    obtain ⟨f, hf1, hf2⟩ := hcs.2.1 o7
    have hnum := hfm _ _ hf1
    simp -dsimp [cdT, c27, t0, t3, t4, h3, h4, cz, o7, c.cc, hlen, c.cm, hnum]
    refine fatoms_ok hw (hi := hi) (by omega) (by omega) hn0 (by omega) hfa (scL_mem (fun i => by simp [boundS, o7]) hcs.2.2) c ?_
    intro v2 h2 c2 k2
    have q4 := at4 k2
    simp -dsimp [Stable, AIns.wants, QStep, t4, q4, cz]
    exact fin _ _ h2 v2 hK c2 k2
  by_cases o18 : e.op = 18
  · simp only [o18, if_true, show ¬ ((18 : Int) = 5) by omega, show ¬ ((18 : Int) = 7) by omega, if_false] at hK
    simp -dsimp [cdT, c27, t0, t3, t4, h3, h4, cz, o18, c.cc, hlen]
    refine fatoms_ok hw (hi := hi) (op := 5) (f := 0) (by omega) (by omega) hn0 (by omega) hfa (scL_mem (fun i => by simp [boundS, o18]) hcs.2.2) c ?_
    intro v2 h2 c2 k2
    have q4 := at4 k2
    simp -dsimp [Stable, AIns.wants, QStep, t4, q4, cz]
    exact fin _ _ h2 v2 hK c2 k2
  by_cases o19 : e.op = 19
  · simp only [o19, if_true, show ¬ ((19 : Int) = 5) by omega, show ¬ ((19 : Int) = 7) by omega, show ¬ ((19 : Int) = 18) by omega, if_false] at hK
    simp -dsimp [cdT, c27, t0, t3, t4, h3, h4, cz, o19, c.cc, hlen]
    refine fall_ok hw (hi := hi) (by omega) (by omega) hn0 (by omega) hfa (scL_mem (fun i => by simp [boundS, o19]) hcs.2.2) c ?_
    intro v2 h2 r c2 k2 o2
    have q4 := at4 k2
    have hfl := o2.flat
    simp -dsimp [Stable, AIns.wants, QStep, t4, q4, cz, hfl]
    exact fin2 (.mk 6 0 0 0 0 vl0 [] (allS p names e.args n).1) _ h2 v2 r hK c2 k2 o2
  by_cases o20 : e.op = 20
  · have hlen3 : e.args.length = 3 := by rcases har with x | x | x | x | x <;> omega
    match hA : e.args, hlen3 with
    | [a, b, d], _ =>
      rw [hA] at hfa hsa hcs
      have hca := hcs.2.2.1
      have hcb := hcs.2.2.2.1
      have hcd := hcs.2.2.2.2.1
      simp only [boundS, o20, show ¬ ((20 : Int) = 21) by omega, show ¬ ((20 : Int) = 22) by omega, false_and, false_or, if_false, show ¬ (((0 : Nat) : Int) = 2) by omega, show ¬ (((1 : Nat) : Int) = 2) by omega, and_false, List.append_nil, Nat.zero_add, show ((0 + 1 : Nat) : Int) = 1 by omega, show ¬ ((1 : Int) = 2) by omega, show (((1 + 1 : Nat)) : Int) = 2 by omega, true_and, and_self, if_true] at hca hcb hcd
      simp only [o20, hA, if_true, show ¬ ((20 : Int) = 5) by omega, show ¬ ((20 : Int) = 7) by omega, show ¬ ((20 : Int) = 18) by omega, show ¬ ((20 : Int) = 19) by omega, if_false] at hK
      simp only [Ex.sizeL] at hsa
      simp -dsimp [cdT, c27, t0, t3, t4, h3, h4, cz, o20, hA, c.cc, hlen, rowsAV_cons]
      refine fall_ok hw (l := [a, b]) (hi := hi) (by simp only [Ex.sizeL]; omega) (by simp only [Ex.sizeL]; omega) hn0 (by simp only [Ex.sizeL]; omega) ⟨hfa.1, hfa.2.1, trivial⟩ ?_ c ?_
      · intro x hx
        simp at hx
        rcases hx with rfl | rfl
        · exact hca
        · exact hcb
      intro v2 h2 r c2 k2 o2
      have hfl := o2.flat
      have nx1 := codeS_next p a names n
      have nx2 := codeS_next p b names (codeS p names a n).2
      simp only [allS, List.map_cons, List.map_nil] at c2 o2
      simp only [caseS] at hK
      simp -dsimp [hfl]
      intro i8 d8
      have c8 := fun o => c2.new (o := o) d8
      have kk8 := fun o => k2.new (o := o) d8
      have o8 := fun x => o2.new (x := x) d8
      have n38 := cells_ne (at3 k2) d8
      have n48 := cells_ne (at4 k2) d8
      have m8c : ¬ i8 = cid := fun x => cells_ne c2.cc d8 x.symm
      have z8 : Free H v i8 := k2.deadc c2.nodead d8
      simp -dsimp [t0, t3, n38, at3 k2]
      have u3 : ∀ o, hset h2 i8 o i3 = .cells e.cells := fun o => by simp [n38, at3 k2]
      have u4 : ∀ o, hset h2 i8 o i4 = .cells cz := fun o => by simp [n48, at4 k2]
      generalize hcA : codeS p names a n = CA at *
      generalize hcB : codeS p names b CA.2 = CB at *
      refine fbind_ok (c8 _) (by omega) (by omega) ?_
      intro v5 h5 c5 k5
      have w8 : h5 i8 = .cells [.int .i64 7, .int .i64 0, .int .i64 0, .int .i64 0, .int .i64 0, .int .i64 0, .cplx 0 0, .bool false, .nl, .nl, r] := fl_at k5 (c8 _) (by simp) m8c
      have w3 := fl_at k5 (c8 _) (u3 _) m3c
      have w4 := fl_at k5 (c8 _) (u4 _) m4c
      have n83 : ¬ i8 = i3 := fun x => n38 x.symm
      have n84 : ¬ i8 = i4 := fun x => n48 x.symm
      have o5' := ownF_fl (o8 _) (c8 _) k5 (by decide)
      have kk5 := (kk8 _).trans k5
      simp -dsimp [t0, t3, w8, w3, n38, n83]
      have c6 := fun o => c5.setc (o := o) w8 m8c
      have o6 := fun x => o5'.setc (x := x) w8
      have kk6 := fun o => fr7_at (o := o) kk5 z8
      have u53 : ∀ o, hset h5 i8 o i3 = .cells e.cells := fun o => by simp [n38, w3]
      have u54 : ∀ o, hset h5 i8 o i4 = .cells cz := fun o => by simp [n48, w4]
      refine fbind_ok (c6 _) (by omega) (by simp [bindN]; omega) ?_
      intro v7 h7 c7 k7
      have hbb : bindN (bindN names e.name CB.2) e.tail (CB.2 + 1) = names ++ [(e.name, CB.2), (e.tail, CB.2 + 1)] := by simp [bindN]
      rw [hbb] at c7 hK
      rw [show CB.2 + 2 = CB.2 + 1 + 1 by omega] at hK
      have x8 := fl_at k7 (c6 _) (hset_same h5 i8 _) m8c
      have x3 := fl_at k7 (c6 _) (u53 _) m3c
      have x4 := fl_at k7 (c6 _) (u54 _) m4c
      have o7' := ownF_fl (o6 _) (c6 _) k7 (by decide)
      have kk7 := (kk6 _).trans k7
      simp -dsimp [t0, t3, x8, x3, n38, n83, hA]
      have c9 := fun o => c7.setc (o := o) x8 m8c
      have o9 := fun x => o7'.setc (x := x) x8
      have kk9 := fun o => fr7_at (o := o) kk7 z8
      have u73 : ∀ o, hset h7 i8 o i3 = .cells e.cells := fun o => by simp [n38, x3]
      have u74 : ∀ o, hset h7 i8 o i4 = .cells cz := fun o => by simp [n48, x4]
      refine fwithin_ok hw (hi := hi) (by omega) (by simp; omega) (by omega) (by omega) hfa.2.2.1 (by simpa using hcd) (c9 _) ?_
      intro v10 h10 c10 k10
      have y8 := fl_at k10 (c9 _) (hset_same h7 i8 _) m8c
      have y4 := fl_at k10 (c9 _) (u74 _) m4c
      have o10 := ownF_fl (o9 _) (c9 _) k10 (by decide)
      have kk10 := (kk9 _).trans k10
      generalize hcD : codeS p (names ++ [(e.name, CB.2), (e.tail, CB.2 + 1)]) d (CB.2 + 1 + 1) = CD at *
      simp -dsimp [Stable, AIns.wants, QStep, y8]
      intro i93 d93
      have n893 := cells_ne y8 d93
      have n493 := cells_ne y4 d93
      simp -dsimp [Stable, AIns.wants, QStep, y8, n893]
      have c11 := c10.new (o := .arr 61 11 [CD.1.cells]) d93
      have k11 := kk10.new (o := .arr 61 11 [CD.1.cells]) d93
      refine (o10.new (x := .arr 61 11 [CD.1.cells]) d93).push (fun j hj => k11.deadc c11.nodead hj) (by simp) (by decide) fun r' h12 o12 ke kb _ => ?_
      have z8' := ke.cells (cells_new y8 d93)
      have z4' := ke.cells (cells_new y4 d93)
      have c12 := c11.keepE ke (by decide)
      have k12 := k11.changed kb
      have hfl2 := o12.flat
      simp -dsimp [Stable, AIns.wants, QStep, z8', hfl2, n84, n48, t4, z4', cz]
      exact fin2 (.mk 7 CB.2 (CB.2 + 1) 0 0 vl0 [] [CA.1, CB.1, CD.1]) CD.2 _ _ r' hK (c12.setc z8' m8c) (fr7_at k12 z8) (o12.setc z8')
  by_cases o21 : e.op = 21
  · have hlen2 : e.args.length = 2 := by rcases har with x | x | x | x | x <;> omega
    simp only [o21, if_true, show ¬ ((21 : Int) = 5) by omega, show ¬ ((21 : Int) = 7) by omega, show ¬ ((21 : Int) = 18) by omega, show ¬ ((21 : Int) = 19) by omega, show ¬ ((21 : Int) = 20) by omega, if_false] at hK
    have hca : ∀ a ∈ e.args, scOK p ((bindN names e.name n).map Prod.fst) a := by
      match hA : e.args, hlen2 with
      | [a, b], _ =>
        rw [hA] at hcs
        have hca := hcs.2.2.1
        have hcb := hcs.2.2.2.1
        simp only [boundS, o21, true_or, if_true] at hca hcb
        intro x hx
        simp at hx
        rcases hx with rfl | rfl
        · simpa [bindN] using hca
        · simpa [bindN] using hcb
    simp -dsimp [cdT, c27, t0, t3, t4, h3, h4, cz, o21, c.cc, hlen]
    refine fbind_ok c (by omega) (by omega) ?_
    intro v2 h2 c2 k2
    have w3 := at3 k2
    have w4 := at4 k2
    simp -dsimp [t0, t3]
    intro i9 d9
    have n39 := cells_ne w3 d9
    have n49 := cells_ne w4 d9
    have m9c : ¬ i9 = cid := fun x => cells_ne c2.cc d9 x.symm
    have z9 : Free H v i9 := k2.deadc c2.nodead d9
    have c9 := fun o => c2.new (o := o) d9
    have kk9 := fun o => k2.new (o := o) d9
    have u4 : ∀ o, hset h2 i9 o i4 = .cells cz := fun o => by simp [n49, w4]
    simp -dsimp [t0, t3, n39, w3]
    refine fall_ok hw (hi := hi) (by omega) (by simp [bindN]; omega) (by omega) (by omega) hfa hca (c9 _) ?_
    intro v5 h5 r c5 k5 o5
    have x9 := fl_at k5 (c9 _) (hset_same h2 i9 _) m9c
    have x4 := fl_at k5 (c9 _) (u4 _) m4c
    have hfl := o5.flat
    have n94 : ¬ i9 = i4 := fun x => n49 x.symm
    have kk5 := (kk9 _).trans k5
    have o5' : OwnF H v h5 61 11 r ((allS p (bindN names e.name n) e.args (n + 1)).1.map Cd.cells) := ownF_trans o5 (kk9 _) (c9 _)
    simp -dsimp [t0, t3, x9, hfl]
    generalize hR : allS p (bindN names e.name n) e.args (n + 1) = R at *
    have c6 := fun o => c5.setc (o := o) x9 m9c
    have kk6 := fun o => fr7_at (o := o) kk5 z9
    have o6 := fun x => o5'.setc (x := x) x9
    have nc9 : ¬ cid = i9 := fun x => m9c x.symm
    obtain ⟨v7, hcut, l7, hid⟩ := within_cut (ys := [(e.name, n)]) (c6 (.cells [.int .i64 8, .int .i64 n, .int .i64 0, .int .i64 0, .int .i64 0, .int .i64 0, .cplx 0 0, .bool false, .nl, .nl, r]))
    have hc7 := hcut _ (fun _ _ _ _ => rfl)
    have hf7 := l7.flat
    simp -dsimp [nc9, m9c, c5.cc, hc7, hf7, t4, x9, x4, cz, n94, n49, m4c]
    have hmc := c5.nmc
    have hm9 : ¬ mid = i9 := by rintro rfl; have := c5.cm; rw [x9] at this; cases this
    refine fin2 (.mk 8 n 0 0 0 vl0 [] R.1) R.2 _ v7 r hK ⟨by simp, by simp [hmc, hm9, c5.cm], l7.set ?_⟩ (((kk6 _).same hid).mem (by simp)) ((o6 _).setc (j := cid) (cs := [.mp mid, v5, .int .i64 R.2]) (by simp [nc9, c5.cc]))
    rw [hid]; exact c5.notc
  by_cases o22 : e.op = 22
  · have hlen2 : e.args.length = 2 := by rcases har with x | x | x | x | x <;> omega
    match hA : e.args, hlen2 with
    | [a, b], _ =>
      rw [hA] at hfa hsa hcs
      have hca := hcs.2.2.1
      have hcb := hcs.2.2.2.1
      simp only [boundS, o22, show ¬ ((22 : Int) = 21) by omega, show ¬ ((22 : Int) = 20) by omega, false_and, false_or, if_false, show ¬ (((0 : Nat) : Int) = 1) by omega, and_false, List.append_nil, Nat.zero_add, show ((0 + 1 : Nat) : Int) = 1 by omega, true_and, and_self, if_true] at hca hcb
      simp only [o22, hA, if_true, show ¬ ((22 : Int) = 5) by omega, show ¬ ((22 : Int) = 7) by omega, show ¬ ((22 : Int) = 18) by omega, show ¬ ((22 : Int) = 19) by omega, show ¬ ((22 : Int) = 20) by omega, show ¬ ((22 : Int) = 21) by omega, if_false] at hK
      simp only [Ex.sizeL] at hsa
      have nx1 := codeS_next p a names n
      simp only [strictS] at hK
      simp -dsimp [cdT, c27, t0, t3, t4, h3, h4, cz, o22, hA, c.cc, hlen, rowsAV_cons]
      refine hw a hi names n _ v _ (by omega) (by omega) hn0 (by omega) hfa.1 hca c ?_
      generalize hcA : codeS p names a n = CA at *
      intro v2 h2 c2 k2
      have w3 := at3 k2
      have w4 := at4 k2
      simp -dsimp
      intro i10 d10
      have n310 := cells_ne w3 d10
      have n410 := cells_ne w4 d10
      have m10c : ¬ i10 = cid := fun x => cells_ne c2.cc d10 x.symm
      have z10 : Free H v i10 := k2.deadc c2.nodead d10
      have c10 := fun o => c2.new (o := o) d10
      have kk10 := fun o => k2.new (o := o) d10
      have u3 : ∀ o, hset h2 i10 o i3 = .cells e.cells := fun o => by simp [n310, w3]
      have u4 : ∀ o, hset h2 i10 o i4 = .cells cz := fun o => by simp [n410, w4]
      simp -dsimp [t0, t3, n310, w3]
      refine fbind_ok (c10 _) (by omega) (by omega) ?_
      intro v5 h5 c5 k5
      have x10 := fl_at k5 (c10 _) (hset_same h2 i10 (.cells CA.1.cells)) m10c
      have x3 := fl_at k5 (c10 _) (u3 _) m3c
      have x4 := fl_at k5 (c10 _) (u4 _) m4c
      have kk5 := (kk10 _).trans k5
      simp -dsimp
      intro i11 d11
      have n311 := cells_ne x3 d11
      have n411 := cells_ne x4 d11
      have n1011 := cells_ne x10 d11
      have m11c : ¬ i11 = cid := fun x => cells_ne c5.cc d11 x.symm
      have z11 : Free H v i11 := kk5.deadc c5.nodead d11
      have c11 := fun o => c5.new (o := o) d11
      have kk11 := fun o => kk5.new (o := o) d11
      have v3 : ∀ o, hset h5 i11 o i3 = .cells e.cells := fun o => by simp [n311, x3]
      have v4 : ∀ o, hset h5 i11 o i4 = .cells cz := fun o => by simp [n411, x4]
      have v10 : ∀ o, hset h5 i11 o i10 = .cells CA.1.cells := fun o => by simp [n1011, x10]
      simp -dsimp [t0, t3, n311, n1011, x3, x10, hA]
      have hbb : bindN names e.name CA.2 = names ++ [(e.name, CA.2)] := rfl
      rw [hbb] at c11 hK
      refine fwithin_ok hw (hi := hi) (by omega) (by simp; omega) (by omega) (by omega) hfa.2.1 (by simpa using hcb) (c11 _) ?_
      intro v12 h12 c12 k12
      generalize hcB : codeS p (names ++ [(e.name, CA.2)]) b (CA.2 + 1) = CB at *
      have y11 := fl_at k12 (c11 _) (hset_same h5 i11 _) m11c
      have y10 := fl_at k12 (c11 _) (v10 _) m10c
      have y4 := fl_at k12 (c11 _) (v4 _) m4c
      have kk12 := (kk11 _).trans k12
      simp -dsimp [Stable, AIns.wants, QStep, y10]
      intro i140 d140
      have q11 := cells_ne y11 d140
      have q4 := cells_ne y4 d140
      have n114 : ¬ i11 = i4 := fun x => n411 x.symm
      simp -dsimp [Stable, AIns.wants, QStep, y11, q11, t4, n411, n114, y4, q4, cz]
      have c13 := c12.new (o := .arr 61 11 [CA.1.cells, CB.1.cells]) d140
      have k13 := kk12.new (o := .arr 61 11 [CA.1.cells, CB.1.cells]) d140
      have p11 := cells_new (o' := .arr 61 11 [CA.1.cells, CB.1.cells]) y11 d140
      have n14011 : ¬ i140 = i11 := fun x => q11 x.symm
      exact fin2 (.mk 9 CA.2 0 0 0 vl0 [] [CA.1, CB.1]) CB.2 _ v12 _ hK (c13.setc p11 m11c) (fr7_at k13 z11) (.inr ⟨i140, by simp [Cd.args], kk12.deadc c12.nodead d140, by simp [Cd.args], by simp [n14011, Cd.args]⟩)
  · simp only [o5, o7, o18, o19, o20, o21, o22, if_false] at hK
    simp -dsimp [cdT, c27, t0, t3, t4, h3, h4, cz, o5, o7, o18, o19, o20, o21, o22, c.cc, hlen]
    refine fall_ok hw (hi := hi) (by omega) (by omega) hn0 (by omega) hfa (scL_mem (fun i => by simp [boundS, o20, o21, o22]) hcs.2.2) c ?_
    intro v2 h2 r c2 k2 o2
    have q4 := at4 k2
    have q3 := at3 k2
    have hfl := o2.flat
    simp -dsimp [Stable, AIns.wants, QStep, t3, t4, q4, q3, cz, hfl]
    exact fin2 (.mk 4 0 0 0 e.op vl0 [] (allS p names e.args n).1) _ h2 v2 r hK c2 k2 o2

theorem code_ok (hfm : FmOK p fm) : ∀ k : Nat, Codes p cid mid fm k := by
  intro k
  induction k with
  | zero =>
    intro e hi names n h v K hn
    have := e.size_pos
    omega
  | succ k ih =>
    intro e hi names n h v K hn hnm hn0 hn1 hf hc c hK
    refine calls_of mixed Tryz.func27 comp27 (Nat.le_of_ble_eq_true rfl) ?_
    have hsplit : ∃ a b, c27.code = .seq a (.seq b cdT) := ⟨_, _, rfl⟩
    obtain ⟨a0, b0, hsp⟩ := hsplit
    have hcs := scOK_eq.1 hc
    have key : ∀ (tm : Tm) (H : Hp) (i3 i4 : Nat), atomS names e = none → tm 0 = .ptr cid 0 → tm 3 = .ptr i3 0 → tm 4 = .ptr i4 0 → H i3 = .cells e.cells → H i4 = .cells cz → ¬ i3 = cid → ¬ i4 = cid → Fl cid mid fm H v names n → Fr7 [cid] h v H v → Free h v i4 →
        AW Tryz.prog cdT (fun e tm h' => match e with | .exit _ => False | _ => Gives K (aLda 11 (tm 4) h') h') tm H :=
      fun tm H i3 i4 ha t0 t3 t4 h3 h4 m3 m4 c' k' z4 => code_core hfm ih hn hnm hn0 hn1 hf hc ha t0 t3 t4 h3 h4 m3 m4 c' k' z4 hK
    have hsplit2 : c27.code = .seq (match c27.code with | .seq a _ => a | _ => .skip) (.seq (match c27.code with | .seq _ (.seq b _) => b | _ => .skip) cdT) := rfl
    rw [hsplit2]
    generalize cdT = T at *
    simp -dsimp [c27]
    intro i3 d3
    simp -dsimp
    intro i4 d4
    have n34 := hset_ne d4
    have n43 : ¬ i4 = i3 := fun x => n34 x.symm
    have m3c : ¬ i3 = cid := fun x => cells_ne c.cc d3 x.symm
    have m4c : ¬ i4 = cid := fun x => cells_ne (c.new d3).cc d4 x.symm
    simp -dsimp [n34]
    refine atom_ok ((c.new d3).new d4) (by omega) hcs.1 ?_
    have k4 := (Fr7.refl.new (o := .cells e.cells) d3 : Fr7 [cid] h v _ v).new (o := .cells cz) d4
    have c4 := (c.new (o := .cells e.cells) d3).new (o := .cells cz) d4
    have z4 : Free h v i4 := (Fr7.refl.new d3 : Fr7 [cid] h v _ v).deadc (c.new d3).nodead d4
    have d4' : h i4 = .dead := by simpa [n43] using d4
    cases ha : atomS names e with
    | some a =>
      rw [codeS_some ha] at hK
      simp -dsimp
      intro i5 d5
      simp at d5
      obtain ⟨n54, n45, n53, n35, d5⟩ := d5
      simp -dsimp [n34, n43, n54, n45, n53, n35]
      have fin : ∀ (cd : Cd) o o' o'', NxF cid mid fm h v names n (K (.agg cd.cells)) → Gives K (some (.agg cd.cells)) (hset (hset (hset (hset h i3 o) i4 o') i5 o'') i4 (.cells cd.cells)) := fun cd o o' o'' hK' =>
        Gives.sub ((((Keeps.refl h).set d3).set d4').set d5 |>.set d4').sub (hK' v h c Fr7.refl)
      by_cases h0 : 0 ≤ a.slot
      · simp only [h0, if_true] at hK
        simp -dsimp [h0, n34, n43, n54, n45, n53, n35]
        exact fin _ _ _ _ hK
      · simp only [h0, if_false] at hK
        simp -dsimp [h0, n34, n43, n54, n45, n53, n35]
        exact fin _ _ _ _ hK
    | none =>
      simp -dsimp
      intro i5 d5
      have e5 := d5
      simp at d5
      obtain ⟨n54, n45, n53, n35, d5⟩ := d5
      simp -dsimp [n34, n43, n54, n45, n53, n35]
      refine key _ _ i3 i4 ha (by simp) (by simp) (by simp) (by simp [n34, n35]) (by simp [n45, cz]) m3c m4c (c4.new e5) (k4.new e5) z4
end
end Go.Proofs.YtcpkdbofohkipaaGreat
