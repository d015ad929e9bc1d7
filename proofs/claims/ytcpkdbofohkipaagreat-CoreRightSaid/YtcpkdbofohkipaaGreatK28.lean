/- The program's flattening: one expression that is no atom. -/
import Derived.Test.YtcpkdbofohkipaaGreatK27
import Derived.Test.YtcpkdbofohkipaaGreatK10
import Derived.Test.YtcpkdbofohkipaaGreatK11
set_option linter.unusedVariables false
set_option linter.unusedSimpArgs false
namespace Go.Proofs.YtcpkdbofohkipaaGreat
open Go.AM
section
variable {p : List Df} {cid mid : Nat} {fm : Mp} {h h1 : Hp} {v v1 : AV} {names : Nms} {n : Int} {K : AV → Hp → Prop}

theorem codeS_none {e : Ex} (ha : atomS names e = none) : codeS p names e n =
    if e.op = 5 then (.mk 10 0 0 0 0 vl0 [] [], n)
    else if e.op = 7 then letsS p names (.mk 3 0 0 (headsS e.name p 0) 0 vl0 (atomsL names e.args n).1 []) e.args (atomsL names e.args n).1 (atomsL names e.args n).2
    else if e.op = 18 then letsS p names (.mk 5 0 0 0 0 vl0 (atomsL names e.args n).1 []) e.args (atomsL names e.args n).1 (atomsL names e.args n).2
    else if e.op = 19 then (.mk 6 0 0 0 0 vl0 [] (allS p names e.args n).1, (allS p names e.args n).2)
    else if e.op = 20 then caseS p names e.name e.tail e.args n
    else if e.op = 21 then (.mk 8 n 0 0 0 vl0 [] (allS p (bindN names e.name n) e.args (n + 1)).1, (allS p (bindN names e.name n) e.args (n + 1)).2)
    else if e.op = 22 then strictS p names e.name e.args n
    else (.mk 4 0 0 0 e.op vl0 [] (allS p names e.args n).1, (allS p names e.args n).2) := by
  cases e
  rw [codeS]
  simp only [ha]
  rfl
theorem codeS_some {e : Ex} {a : Atm} (ha : atomS names e = some a) : codeS p names e n = if 0 ≤ a.slot then (.mk 2 a.slot 0 0 0 vl0 [] [], n) else (.mk 1 0 0 0 0 a.lit [] [], n) := by
  cases e
  rw [codeS]
  simp only [ha]
/-- The functions' numbers. -/
def FmOK (p : List Df) (fm : Mp) : Prop := ∀ nm f, headD nm p = some f → getM fm nm = headsS nm p 0

def cz : List AV := [.int .i64 0, .int .i64 0, .int .i64 0, .int .i64 0, .int .i64 0, .int .i64 0, .cplx 0 0, .bool false, .nl, .nl, .nl]
def cdT : ACode := match c27.code with | .seq _ (.seq _ x) => x | _ => .skip

theorem hset_same (h : Hp) (i : Nat) (o : AObj) : hset h i o i = o := by simp
theorem fl_at {h2 : Hp} {v2 : AV} {j : Nat} {cs : List AV} (k : Fr7 [cid] h1 v1 h2 v2) (c : Fl cid mid fm h1 v1 names n) (hj : h1 j = .cells cs) (hc : ¬ j = cid) : h2 j = .cells cs := k.atc hj (by simp [hc]) (c.cl.notc hj)
theorem free_trans {h v H : _} {v1 : AV} (k0 : Fr7 [cid] h v1 H v) (c : Fl cid mid fm H v names n) {j : Nat} (f : Free H v j) : Free h v1 j := by
  rcases f with x | x
  · exact k0.deadc c.nodead x
  · have hc : j ∉ [cid] := by
      intro y
      rw [List.mem_singleton] at y
      exact c.notc (y ▸ x)
    by_cases hv : isId v1 j
    · exact .inr hv
    · rcases k0 j hc hv with y | ⟨_, y⟩
      · exact .inl y
      · exact absurd x y
theorem ownF_trans {H H2 : Hp} {e sz : Nat} {r : AV} {rows : List (List AV)} (o : OwnF H v H2 e sz r rows) (k0 : Fr7 [cid] h v1 H v) (c : Fl cid mid fm H v names n) : OwnF h v1 H2 e sz r rows := by
  rcases o with x | ⟨id, hn, hd, rfl, ha⟩
  · exact .inl x
  · exact .inr ⟨id, hn, free_trans k0 c hd, rfl, ha⟩

theorem code_core {k : Nat} (hfm : FmOK p fm) (hw : Codes p cid mid fm k) {e : Ex} {hi : Int} {tm : Tm} {H : Hp} {i3 i4 : Nat} (hn : e.size ≤ k + 1) (hnm : names.length + 2 * e.size ≤ 200000) (hn0 : 0 ≤ n) (hn1 : n + 4 * e.size ≤ 400000) (hf : e.fine hi) (hc : scOK p (names.map Prod.fst) e) (ha : atomS names e = none)
    (t0 : tm 0 = .ptr cid 0) (t3 : tm 3 = .ptr i3 0) (t4 : tm 4 = .ptr i4 0) (h3 : H i3 = .cells e.cells) (h4 : H i4 = .cells cz) (m3c : ¬ i3 = cid) (m4c : ¬ i4 = cid) (c : Fl cid mid fm H v names n) (k0 : Fr7 [cid] h v1 H v) (z4 : Free h v1 i4)
    (hK : NxF cid mid fm h v1 names (codeS p names e n).2 (K (.agg (codeS p names e n).1.cells))) :
    AW Tryz.prog cdT (fun e tm h' => match e with | .exit _ => False | _ => Gives K (aLda 11 (tm 4) h') h') tm H := by
  have hsa := e.size_args
  have hla := Ex.sizeL_len e.args
  have hfa := Ex.fine_args hf
  have har : arOK e.op e.args.length := by cases e; exact hf.1
  have hcs := scOK_eq.1 hc
  rw [codeS_none ha] at hK
  have v3 := c.cl.notc h3
  have v4 := c.cl.notc h4
  have n34 : ¬ i3 = i4 := by
    rintro rfl
    rw [h3] at h4
    have := congrArg (fun o : AObj => match o with | .cells l => l.length | _ => 0) h4
    simp [cz] at this
  have n43 : ¬ i4 = i3 := fun x => n34 x.symm
  have at3 : ∀ {h2 : Hp} {v2 : AV}, Fr7 [cid] H v h2 v2 → h2 i3 = .cells e.cells := fun k => k.atc h3 (by simp [m3c]) v3
  have at4 : ∀ {h2 : Hp} {v2 : AV}, Fr7 [cid] H v h2 v2 → h2 i4 = .cells cz := fun k => k.atc h4 (by simp [m4c]) v4
  -- the end
  have fin : ∀ (cd : Cd) (n' : Int) (H2 : Hp) (v2 : AV), NxF cid mid fm h v1 names n' (K (.agg cd.cells)) → Fl cid mid fm H2 v2 names n' → Fr7 [cid] H v H2 v2 → Gives K (some (.agg cd.cells)) (hset H2 i4 (.cells cd.cells)) :=
    fun cd n' H2 v2 hK' c2 k2 => Gives.same (hK' _ _ (c2.setc (at4 k2) m4c) (fr7_at (k0.trans k2) z4))
  have fin2 : ∀ (cd : Cd) (n' : Int) (H2 : Hp) (v2 r : AV), NxF cid mid fm h v1 names n' (K (.agg cd.cells)) → Fl cid mid fm H2 v2 names n' → Fr7 [cid] H v H2 v2 → OwnF H v H2 61 11 r (cd.args.map Cd.cells) →
      Gives K (some (.agg ([.int .i64 cd.op, .int .i64 cd.slot, .int .i64 cd.slot2, .int .i64 cd.func, .int .i64 cd.prim] ++ cd.lit.cells ++ [rowsAV (cd.atoms.map Atm.cells), r]))) (hset H2 i4 (.cells ([.int .i64 cd.op, .int .i64 cd.slot, .int .i64 cd.slot2, .int .i64 cd.func, .int .i64 cd.prim] ++ cd.lit.cells ++ [rowsAV (cd.atoms.map Atm.cells), r]))) :=
    fun cd n' H2 v2 r hK' c2 k2 o2 => fgive (c2.setc (at4 k2) m4c) (fr7_at (k0.trans k2) z4) ((ownF_trans o2 k0 c).setc (at4 k2)) hK'
  have hlen := c.cl.len
  by_cases o5 : e.op = 5
  · simp only [o5, if_true] at hK
    simp -dsimp [cdT, c27, t0, t3, t4, h3, h4, cz, o5, c.cc, hlen]
    exact fin (.mk 10 0 0 0 0 vl0 [] []) n H v hK c Fr7.refl
  by_cases o7 : e.op = 7
  · simp only [o7, if_true, show ¬ ((7 : Int) = 5) by omega, if_false] at hK
    obtain ⟨f, hf1, hf2⟩ := hcs.2.1 o7
    have hnum := hfm _ _ hf1
    simp -dsimp [cdT, c27, t0, t3, t4, h3, h4, cz, o7, c.cc, hlen, c.cm, hnum]
    refine fatoms_ok hw (hi := hi) (by omega) (by omega) hn0 (by omega) hfa (scL_mem (fun i => by simp [boundS, o7]) hcs.2.2) c ?_
    intro v2 h2 c2 k2
    have q4 := at4 k2
    simp -dsimp [Stable, AIns.wants, QStep, t4, q4, cz]
    exact fin _ _ h2 v2 hK c2 k2
  by_cases o18 : e.op = 18
  · simp only [o18, if_true, show ¬ ((18 : Int) = 5) by omega, show ¬ ((18 : Int) = 7) by omega, if_false] at hK
    simp -dsimp [cdT, c27, t0, t3, t4, h3, h4, cz, o18, c.cc, hlen]
    refine fatoms_ok hw (hi := hi) (op := 5) (f := 0) (by omega) (by omega) hn0 (by omega) hfa (scL_mem (fun i => by simp [boundS, o18]) hcs.2.2) c ?_
    intro v2 h2 c2 k2
    have q4 := at4 k2
    simp -dsimp [Stable, AIns.wants, QStep, t4, q4, cz]
    exact fin _ _ h2 v2 hK c2 k2
  by_cases o19 : e.op = 19
  · simp only [o19, if_true, show ¬ ((19 : Int) = 5) by omega, show ¬ ((19 : Int) = 7) by omega, show ¬ ((19 : Int) = 18) by omega, if_false] at hK
    simp -dsimp [cdT, c27, t0, t3, t4, h3, h4, cz, o19, c.cc, hlen]
    refine fall_ok hw (hi := hi) (by omega) (by omega) hn0 (by omega) hfa (scL_mem (fun i => by simp [boundS, o19]) hcs.2.2) c ?_
    intro v2 h2 r c2 k2 o2
    have q4 := at4 k2
    have hfl := o2.flat
    simp -dsimp [Stable, AIns.wants, QStep, t4, q4, cz, hfl]
    exact fin2 (.mk 6 0 0 0 0 vl0 [] (allS p names e.args n).1) _ h2 v2 r hK c2 k2 o2
  by_cases o20 : e.op = 20
  · have hlen3 : e.args.length = 3 := by rcases har with x | x | x | x | x <;> omega
    match hA : e.args, hlen3 with
    | [a, b, d], _ =>
      rw [hA] at hfa hsa hcs
      have hca := hcs.2.2.1
      have hcb := hcs.2.2.2.1
      have hcd := hcs.2.2.2.2.1
      simp only [boundS, o20, show ¬ ((20 : Int) = 21) by omega, show ¬ ((20 : Int) = 22) by omega, false_and, false_or, if_false, show ¬ (((0 : Nat) : Int) = 2) by omega, show ¬ (((1 : Nat) : Int) = 2) by omega, and_false, List.append_nil, Nat.zero_add, show ((0 + 1 : Nat) : Int) = 1 by omega, show ¬ ((1 : Int) = 2) by omega, show (((1 + 1 : Nat)) : Int) = 2 by omega, true_and, and_self, if_true] at hca hcb hcd
      simp only [o20, hA, if_true, show ¬ ((20 : Int) = 5) by omega, show ¬ ((20 : Int) = 7) by omega, show ¬ ((20 : Int) = 18) by omega, show ¬ ((20 : Int) = 19) by omega, if_false] at hK
      simp only [Ex.sizeL] at hsa
      simp -dsimp [cdT, c27, t0, t3, t4, h3, h4, cz, o20, hA, c.cc, hlen, rowsAV_cons]
      refine fall_ok hw (l := [a, b]) (hi := hi) (by simp only [Ex.sizeL]; omega) (by simp only [Ex.sizeL]; omega) hn0 (by simp only [Ex.sizeL]; omega) ⟨hfa.1, hfa.2.1, trivial⟩ ?_ c ?_
      · intro x hx
        simp at hx
        rcases hx with rfl | rfl
        · exact hca
        · exact hcb
      intro v2 h2 r c2 k2 o2
      have hfl := o2.flat
      have nx1 := codeS_next p a names n
      have nx2 := codeS_next p b names (codeS p names a n).2
      simp only [allS, List.map_cons, List.map_nil] at c2 o2
      simp only [caseS] at hK
      simp -dsimp [hfl]
      intro i8 d8
      have c8 := fun o => c2.new (o := o) d8
      have kk8 := fun o => k2.new (o := o) d8
      have o8 := fun x => o2.new (x := x) d8
      have n38 := cells_ne (at3 k2) d8
      have n48 := cells_ne (at4 k2) d8
      have m8c : ¬ i8 = cid := fun x => cells_ne c2.cc d8 x.symm
      have z8 : Free H v i8 := k2.deadc c2.nodead d8
      simp -dsimp [t0, t3, n38, at3 k2]
      have u3 : ∀ o, hset h2 i8 o i3 = .cells e.cells := fun o => by simp [n38, at3 k2]
      have u4 : ∀ o, hset h2 i8 o i4 = .cells cz := fun o => by simp [n48, at4 k2]
      generalize hcA : codeS p names a n = CA at *
      generalize hcB : codeS p names b CA.2 = CB at *
      refine fbind_ok (c8 _) (by omega) (by omega) ?_
      intro v5 h5 c5 k5
      have w8 : h5 i8 = .cells [.int .i64 7, .int .i64 0, .int .i64 0, .int .i64 0, .int .i64 0, .int .i64 0, .cplx 0 0, .bool false, .nl, .nl, r] := fl_at k5 (c8 _) (by simp) m8c
      have w3 := fl_at k5 (c8 _) (u3 _) m3c
      have w4 := fl_at k5 (c8 _) (u4 _) m4c
      have n83 : ¬ i8 = i3 := fun x => n38 x.symm
      have n84 : ¬ i8 = i4 := fun x => n48 x.symm
      have o5' := ownF_fl (o8 _) (c8 _) k5 (by decide)
      have kk5 := (kk8 _).trans k5
      simp -dsimp [t0, t3, w8, w3, n38, n83]
      have c6 := fun o => c5.setc (o := o) w8 m8c
      have o6 := fun x => o5'.setc (x := x) w8
      have kk6 := fun o => fr7_at (o := o) kk5 z8
      have u53 : ∀ o, hset h5 i8 o i3 = .cells e.cells := fun o => by simp [n38, w3]
      have u54 : ∀ o, hset h5 i8 o i4 = .cells cz := fun o => by simp [n48, w4]
      refine fbind_ok (c6 _) (by omega) (by simp [bindN]; omega) ?_
      intro v7 h7 c7 k7
      have hbb : bindN (bindN names e.name CB.2) e.tail (CB.2 + 1) = names ++ [(e.name, CB.2), (e.tail, CB.2 + 1)] := by simp [bindN]
      rw [hbb] at c7 hK
      rw [show CB.2 + 2 = CB.2 + 1 + 1 by omega] at hK
      have x8 := fl_at k7 (c6 _) (hset_same h5 i8 _) m8c
      have x3 := fl_at k7 (c6 _) (u53 _) m3c
      have x4 := fl_at k7 (c6 _) (u54 _) m4c
      have o7' := ownF_fl (o6 _) (c6 _) k7 (by decide)
      have kk7 := (kk6 _).trans k7
      simp -dsimp [t0, t3, x8, x3, n38, n83, hA]
      have c9 := fun o => c7.setc (o := o) x8 m8c
      have o9 := fun x => o7'.setc (x := x) x8
      have kk9 := fun o => fr7_at (o := o) kk7 z8
      have u73 : ∀ o, hset h7 i8 o i3 = .cells e.cells := fun o => by simp [n38, x3]
      have u74 : ∀ o, hset h7 i8 o i4 = .cells cz := fun o => by simp [n48, x4]
      refine fwithin_ok hw (hi := hi) (by omega) (by simp; omega) (by omega) (by omega) hfa.2.2.1 (by simpa using hcd) (c9 _) ?_
      intro v10 h10 c10 k10
      have y8 := fl_at k10 (c9 _) (hset_same h7 i8 _) m8c
      have y4 := fl_at k10 (c9 _) (u74 _) m4c
      have o10 := ownF_fl (o9 _) (c9 _) k10 (by decide)
      have kk10 := (kk9 _).trans k10
      generalize hcD : codeS p (names ++ [(e.name, CB.2), (e.tail, CB.2 + 1)]) d (CB.2 + 1 + 1) = CD at *
      simp -dsimp [Stable, AIns.wants, QStep, y8]
      intro i93 d93
      have n893 := cells_ne y8 d93
      have n493 := cells_ne y4 d93
      simp -dsimp [Stable, AIns.wants, QStep, y8, n893]
      have c11 := c10.new (o := .arr 61 11 [CD.1.cells]) d93
      have k11 := kk10.new (o := .arr 61 11 [CD.1.cells]) d93
      refine (o10.new (x := .arr 61 11 [CD.1.cells]) d93).push (fun j hj => k11.deadc c11.nodead hj) (by simp) (by decide) fun r' h12 o12 ke kb _ => ?_
      have z8' := ke.cells (cells_new y8 d93)
      have z4' := ke.cells (cells_new y4 d93)
      have c12 := c11.keepE ke (by decide)
      have k12 := k11.changed kb
      have hfl2 := o12.flat
      simp -dsimp [Stable, AIns.wants, QStep, z8', hfl2, n84, n48, t4, z4', cz]
      exact fin2 (.mk 7 CB.2 (CB.2 + 1) 0 0 vl0 [] [CA.1, CB.1, CD.1]) CD.2 _ _ r' hK (c12.setc z8' m8c) (fr7_at k12 z8) (o12.setc z8')
  by_cases o21 : e.op = 21
  · have hlen2 : e.args.length = 2 := by rcases har with x | x | x | x | x <;> omega
    simp only [o21, if_true, show ¬ ((21 : Int) = 5) by omega, show ¬ ((21 : Int) = 7) by omega, show ¬ ((21 : Int) = 18) by omega, show ¬ ((21 : Int) = 19) by omega, show ¬ ((21 : Int) = 20) by omega, if_false] at hK
    have hca : ∀ a ∈ e.args, scOK p ((bindN names e.name n).map Prod.fst) a := by
      match hA : e.args, hlen2 with
      | [a, b], _ =>
        rw [hA] at hcs
        have hca := hcs.2.2.1
        have hcb := hcs.2.2.2.1
        simp only [boundS, o21, true_or, if_true] at hca hcb
        intro x hx
        simp at hx
        rcases hx with rfl | rfl
        · simpa [bindN] using hca
        · simpa [bindN] using hcb
    simp -dsimp [cdT, c27, t0, t3, t4, h3, h4, cz, o21, c.cc, hlen]
    refine fbind_ok c (by omega) (by omega) ?_
    intro v2 h2 c2 k2
    have w3 := at3 k2
    have w4 := at4 k2
    simp -dsimp [t0, t3]
    intro i9 d9
    have n39 := cells_ne w3 d9
    have n49 := cells_ne w4 d9
    have m9c : ¬ i9 = cid := fun x => cells_ne c2.cc d9 x.symm
    have z9 : Free H v i9 := k2.deadc c2.nodead d9
    have c9 := fun o => c2.new (o := o) d9
    have kk9 := fun o => k2.new (o := o) d9
    have u4 : ∀ o, hset h2 i9 o i4 = .cells cz := fun o => by simp [n49, w4]
    simp -dsimp [t0, t3, n39, w3]
    refine fall_ok hw (hi := hi) (by omega) (by simp [bindN]; omega) (by omega) (by omega) hfa hca (c9 _) ?_
    intro v5 h5 r c5 k5 o5
    have x9 := fl_at k5 (c9 _) (hset_same h2 i9 _) m9c
    have x4 := fl_at k5 (c9 _) (u4 _) m4c
    have hfl := o5.flat
    have n94 : ¬ i9 = i4 := fun x => n49 x.symm
    have kk5 := (kk9 _).trans k5
    have o5' : OwnF H v h5 61 11 r ((allS p (bindN names e.name n) e.args (n + 1)).1.map Cd.cells) := ownF_trans o5 (kk9 _) (c9 _)
    simp -dsimp [t0, t3, x9, hfl]
    generalize hR : allS p (bindN names e.name n) e.args (n + 1) = R at *
    have c6 := fun o => c5.setc (o := o) x9 m9c
    have kk6 := fun o => fr7_at (o := o) kk5 z9
    have o6 := fun x => o5'.setc (x := x) x9
    have nc9 : ¬ cid = i9 := fun x => m9c x.symm
    obtain ⟨v7, hcut, l7, hid⟩ := within_cut (ys := [(e.name, n)]) (c6 (.cells [.int .i64 8, .int .i64 n, .int .i64 0, .int .i64 0, .int .i64 0, .int .i64 0, .cplx 0 0, .bool false, .nl, .nl, r]))
    have hc7 := hcut _ (fun _ _ _ _ => rfl)
    have hf7 := l7.flat
    simp -dsimp [nc9, m9c, c5.cc, hc7, hf7, t4, x9, x4, cz, n94, n49, m4c]
    have hmc := c5.nmc
    have hm9 : ¬ mid = i9 := by rintro rfl; have := c5.cm; rw [x9] at this; cases this
    refine fin2 (.mk 8 n 0 0 0 vl0 [] R.1) R.2 _ v7 r hK ⟨by simp, by simp [hmc, hm9, c5.cm], l7.set ?_⟩ (((kk6 _).same hid).mem (by simp)) ((o6 _).setc (j := cid) (cs := [.mp mid, v5, .int .i64 R.2]) (by simp [nc9, c5.cc]))
    rw [hid]; exact c5.notc
  by_cases o22 : e.op = 22
  · have hlen2 : e.args.length = 2 := by rcases har with x | x | x | x | x <;> omega
    match hA : e.args, hlen2 with
    | [a, b], _ =>
      rw [hA] at hfa hsa hcs
      have hca := hcs.2.2.1
      have hcb := hcs.2.2.2.1
      simp only [boundS, o22, show ¬ ((22 : Int) = 21) by omega, show ¬ ((22 : Int) = 20) by omega, false_and, false_or, if_false, show ¬ (((0 : Nat) : Int) = 1) by omega, and_false, List.append_nil, Nat.zero_add, show ((0 + 1 : Nat) : Int) = 1 by omega, true_and, and_self, if_true] at hca hcb
      simp only [o22, hA, if_true, show ¬ ((22 : Int) = 5) by omega, show ¬ ((22 : Int) = 7) by omega, show ¬ ((22 : Int) = 18) by omega, show ¬ ((22 : Int) = 19) by omega, show ¬ ((22 : Int) = 20) by omega, show ¬ ((22 : Int) = 21) by omega, if_false] at hK
      simp only [Ex.sizeL] at hsa
      have nx1 := codeS_next p a names n
      simp only [strictS] at hK
      simp -dsimp [cdT, c27, t0, t3, t4, h3, h4, cz, o22, hA, c.cc, hlen, rowsAV_cons]
      refine hw a hi names n _ v _ (by omega) (by omega) hn0 (by omega) hfa.1 hca c ?_
      generalize hcA : codeS p names a n = CA at *
      intro v2 h2 c2 k2
      have w3 := at3 k2
      have w4 := at4 k2
      simp -dsimp
      intro i10 d10
      have n310 := cells_ne w3 d10
      have n410 := cells_ne w4 d10
      have m10c : ¬ i10 = cid := fun x => cells_ne c2.cc d10 x.symm
      have z10 : Free H v i10 := k2.deadc c2.nodead d10
      have c10 := fun o => c2.new (o := o) d10
      have kk10 := fun o => k2.new (o := o) d10
      have u3 : ∀ o, hset h2 i10 o i3 = .cells e.cells := fun o => by simp [n310, w3]
      have u4 : ∀ o, hset h2 i10 o i4 = .cells cz := fun o => by simp [n410, w4]
      simp -dsimp [t0, t3, n310, w3]
      refine fbind_ok (c10 _) (by omega) (by omega) ?_
      intro v5 h5 c5 k5
      have x10 := fl_at k5 (c10 _) (hset_same h2 i10 (.cells CA.1.cells)) m10c
      have x3 := fl_at k5 (c10 _) (u3 _) m3c
      have x4 := fl_at k5 (c10 _) (u4 _) m4c
      have kk5 := (kk10 _).trans k5
      simp -dsimp
      intro i11 d11
      have n311 := cells_ne x3 d11
      have n411 := cells_ne x4 d11
      have n1011 := cells_ne x10 d11
      have m11c : ¬ i11 = cid := fun x => cells_ne c5.cc d11 x.symm
      have z11 : Free H v i11 := kk5.deadc c5.nodead d11
      have c11 := fun o => c5.new (o := o) d11
      have kk11 := fun o => kk5.new (o := o) d11
      have v3 : ∀ o, hset h5 i11 o i3 = .cells e.cells := fun o => by simp [n311, x3]
      have v4 : ∀ o, hset h5 i11 o i4 = .cells cz := fun o => by simp [n411, x4]
      have v10 : ∀ o, hset h5 i11 o i10 = .cells CA.1.cells := fun o => by simp [n1011, x10]
      simp -dsimp [t0, t3, n311, n1011, x3, x10, hA]
      have hbb : bindN names e.name CA.2 = names ++ [(e.name, CA.2)] := rfl
      rw [hbb] at c11 hK
      refine fwithin_ok hw (hi := hi) (by omega) (by simp; omega) (by omega) (by omega) hfa.2.1 (by simpa using hcb) (c11 _) ?_
      intro v12 h12 c12 k12
      generalize hcB : codeS p (names ++ [(e.name, CA.2)]) b (CA.2 + 1) = CB at *
      have y11 := fl_at k12 (c11 _) (hset_same h5 i11 _) m11c
      have y10 := fl_at k12 (c11 _) (v10 _) m10c
      have y4 := fl_at k12 (c11 _) (v4 _) m4c
      have kk12 := (kk11 _).trans k12
      simp -dsimp [Stable, AIns.wants, QStep, y10]
      intro i140 d140
      have q11 := cells_ne y11 d140
      have q4 := cells_ne y4 d140
      have n114 : ¬ i11 = i4 := fun x => n411 x.symm
      simp -dsimp [Stable, AIns.wants, QStep, y11, q11, t4, n411, n114, y4, q4, cz]
      have c13 := c12.new (o := .arr 61 11 [CA.1.cells, CB.1.cells]) d140
      have k13 := kk12.new (o := .arr 61 11 [CA.1.cells, CB.1.cells]) d140
      have p11 := cells_new (o' := .arr 61 11 [CA.1.cells, CB.1.cells]) y11 d140
      have n14011 : ¬ i140 = i11 := fun x => q11 x.symm
      exact fin2 (.mk 9 CA.2 0 0 0 vl0 [] [CA.1, CB.1]) CB.2 _ v12 _ hK (c13.setc p11 m11c) (fr7_at k13 z11) (.inr ⟨i140, by simp [Cd.args], kk12.deadc c12.nodead d140, by simp [Cd.args], by simp [n14011, Cd.args]⟩)
  · simp only [o5, o7, o18, o19, o20, o21, o22, if_false] at hK
    simp -dsimp [cdT, c27, t0, t3, t4, h3, h4, cz, o5, o7, o18, o19, o20, o21, o22, c.cc, hlen]
    refine fall_ok hw (hi := hi) (by omega) (by omega) hn0 (by omega) hfa (scL_mem (fun i => by simp [boundS, o20, o21, o22]) hcs.2.2) c ?_
    intro v2 h2 r c2 k2 o2
    have q4 := at4 k2
    have q3 := at3 k2
    have hfl := o2.flat
    simp -dsimp [Stable, AIns.wants, QStep, t3, t4, q4, q3, cz, hfl]
    exact fin2 (.mk 4 0 0 0 e.op vl0 [] (allS p names e.args n).1) _ h2 v2 r hK c2 k2 o2

theorem code_ok (hfm : FmOK p fm) : ∀ k : Nat, Codes p cid mid fm k := by
  intro k
  induction k with
  | zero =>
    intro e hi names n h v K hn
    have := e.size_pos
    omega
  | succ k ih =>
    intro e hi names n h v K hn hnm hn0 hn1 hf hc c hK
    refine calls_of mixed Tryz.func27 comp27 (Nat.le_of_ble_eq_true rfl) ?_
    have hsplit : ∃ a b, c27.code = .seq a (.seq b cdT) := ⟨_, _, rfl⟩
    obtain ⟨a0, b0, hsp⟩ := hsplit
    have hcs := scOK_eq.1 hc
    have key : ∀ (tm : Tm) (H : Hp) (i3 i4 : Nat), atomS names e = none → tm 0 = .ptr cid 0 → tm 3 = .ptr i3 0 → tm 4 = .ptr i4 0 → H i3 = .cells e.cells → H i4 = .cells cz → ¬ i3 = cid → ¬ i4 = cid → Fl cid mid fm H v names n → Fr7 [cid] h v H v → Free h v i4 →
        AW Tryz.prog cdT (fun e tm h' => match e with | .exit _ => False | _ => Gives K (aLda 11 (tm 4) h') h') tm H :=
      fun tm H i3 i4 ha t0 t3 t4 h3 h4 m3 m4 c' k' z4 => code_core hfm ih hn hnm hn0 hn1 hf hc ha t0 t3 t4 h3 h4 m3 m4 c' k' z4 hK
    have hsplit2 : c27.code = .seq (match c27.code with | .seq a _ => a | _ => .skip) (.seq (match c27.code with | .seq _ (.seq b _) => b | _ => .skip) cdT) := rfl
    rw [hsplit2]
    generalize cdT = T at *
    simp -dsimp [c27]
    intro i3 d3
    simp -dsimp
    intro i4 d4
    have n34 := hset_ne d4
    have n43 : ¬ i4 = i3 := fun x => n34 x.symm
    have m3c : ¬ i3 = cid := fun x => cells_ne c.cc d3 x.symm
    have m4c : ¬ i4 = cid := fun x => cells_ne (c.new d3).cc d4 x.symm
    simp -dsimp [n34]
    refine atom_ok ((c.new d3).new d4) (by omega) hcs.1 ?_
    have k4 := (Fr7.refl.new (o := .cells e.cells) d3 : Fr7 [cid] h v _ v).new (o := .cells cz) d4
    have c4 := (c.new (o := .cells e.cells) d3).new (o := .cells cz) d4
    have z4 : Free h v i4 := (Fr7.refl.new d3 : Fr7 [cid] h v _ v).deadc (c.new d3).nodead d4
    have d4' : h i4 = .dead := by simpa [n43] using d4
    cases ha : atomS names e with
    | some a =>
      rw [codeS_some ha] at hK
      simp -dsimp
      intro i5 d5
      simp at d5
      obtain ⟨n54, n45, n53, n35, d5⟩ := d5
      simp -dsimp [n34, n43, n54, n45, n53, n35]
      have fin : ∀ (cd : Cd) o o' o'', NxF cid mid fm h v names n (K (.agg cd.cells)) → Gives K (some (.agg cd.cells)) (hset (hset (hset (hset h i3 o) i4 o') i5 o'') i4 (.cells cd.cells)) := fun cd o o' o'' hK' =>
        Gives.sub ((((Keeps.refl h).set d3).set d4').set d5 |>.set d4').sub (hK' v h c Fr7.refl)
      by_cases h0 : 0 ≤ a.slot
      · simp only [h0, if_true] at hK
        simp -dsimp [h0, n34, n43, n54, n45, n53, n35]
        exact fin _ _ _ _ hK
      · simp only [h0, if_false] at hK
        simp -dsimp [h0, n34, n43, n54, n45, n53, n35]
        exact fin _ _ _ _ hK
    | none =>
      simp -dsimp
      intro i5 d5
      have e5 := d5
      simp at d5
      obtain ⟨n54, n45, n53, n35, d5⟩ := d5
      simp -dsimp [n34, n43, n54, n45, n53, n35]
      refine key _ _ i3 i4 ha (by simp) (by simp) (by simp) (by simp [n34, n35]) (by simp [n45, cz]) m3c m4c (c4.new e5) (k4.new e5) z4
end
end Go.Proofs.YtcpkdbofohkipaaGreat

/- The program's flattening: Flatten. -/
namespace Go.Proofs.YtcpkdbofohkipaaGreat
open Go.AM

theorem ctcheck_eq {p : List Df} (h : FineP p) : tcheck p = check07 p := by
  simp only [tcheck, check07, scheck_eq h]
  split
  · rfl
  · exact tell7_perm (progP_perm p p) _
theorem ctcheck_ok {p : List Df} {h : Hp} {K : AV → Hp → Prop} (hf : FineP p) (hK : K (.agg (fltRow (check07 p))) h) : ACalls Tryz.prog 25 [progAV p] h K :=
  tcheck_ok hf.size (fun f hm => fineP_mem hf.fine hm) (fun hc => check06_calls (by rw [← scheck_eq hf]; exact hc)) (by rw [ctcheck_eq hf]; exact hK)

theorem not_nl {j : Nat} : ¬ isId .nl j := by rintro ⟨_, _, x⟩; cases x
theorem fr7_nl {cid : Nat} {h h' : Hp} {v v' : AV} (k : Fr7 [cid] h v h' v') : Fr7 [cid] h v h' .nl := fun j hj hv => (k j hj hv).imp id (fun x => ⟨x.1, not_nl⟩)
def sz0 : List AV := [.int .i64 0, .int .i64 0, .int .i64 0, .int .i64 0, .int .i64 0, .int .i64 0, .cplx 0 0, .bool false, .nl, .nl, .nl]
theorem flatten_gen {p : List Df} {h : Hp} {K : AV → Hp → Prop} (hf : FineP p) (hK3 : (check07 p).1 ≠ 0 → K (.tup [.agg [.nl], .int .i64 3]) h)
    (hK : (check07 p).1 = 0 → ∀ r rows h', OwnF h .nl h' 63 15 r rows → SupsAt 51 h h' .nl rows (flatS p) → Keeps h h' → Gives K (some (.tup [.agg [r], .int .i64 0])) h') :
    ACalls Tryz.prog 10 [progAV p] h K := by
  refine calls_of mixed Tryz.func10 comp10 (Nat.le_of_ble_eq_true rfl) ?_
  have hlp := sizeP_len p
  have hsz := hf.size
  simp -dsimp [c10, progAV]
  intro i1 d1
  simp -dsimp
  intro i2 d2
  have n12 := hset_ne d2
  have n21 : ¬ i2 = i1 := fun x => n12 x.symm
  have f1 : Keeps h _ := (Keeps.refl h).new (o := .cells [rowsAV (p.map Df.cells)]) d1
  have f2 := f1.new (o := .cells [.nl]) d2
  simp -dsimp [n12]
  refine ctcheck_ok hf ?_
  by_cases hc : (check07 p).1 = 0
  · have hd := check06_nil (check07_06 hc)
    simp -dsimp [hc, fltRow]
    intro mid dm
    have n1m := cells_ne (h := hset (hset h i1 (.cells [rowsAV (p.map Df.cells)])) i2 (.cells [.nl])) (i := i1) (cs := [rowsAV (p.map Df.cells)]) (by simp [n12]) dm
    have n2m := cells_ne (h := hset (hset h i1 (.cells [rowsAV (p.map Df.cells)])) i2 (.cells [.nl])) (i := i2) (cs := [.nl]) (by simp) dm
    have f3 := f2.new (o := .map []) dm
    simp -dsimp
    intro cid dc
    generalize hH : hset (hset (hset h i1 (.cells [rowsAV (p.map Df.cells)])) i2 (.cells [.nl])) mid (.map []) = H at *
    have g1 : H i1 = .cells [rowsAV (p.map Df.cells)] := by rw [← hH]; simp [n1m, n12]
    have g2 : H i2 = .cells [.nl] := by rw [← hH]; simp [n2m]
    have gm : H mid = .map (mapAV []) := by rw [← hH]; simp [mapAV]
    have n1c := cells_ne g1 dc
    have n2c := cells_ne g2 dc
    have nmc := map_ne gm dc
    have f4 := f3.new (o := .cells [.mp mid, .nl, .int .i64 0]) dc
    simp -dsimp [n1c, g1]
    refine ALoop.start (fun m tm h' => ∃ (i : Nat) (fm : Mp), i + m = p.length ∧ tm 1 = .ptr i1 0 ∧ tm 2 = .ptr i2 0 ∧ tm 3 = .int .i64 0 ∧ tm 4 = .ptr cid 0 ∧ tm 22 = rowsAV (p.map Df.cells) ∧ tm 23 = .int .i64 p.length ∧ tm 24 = .int .i64 i ∧
      h' i1 = .cells [rowsAV (p.map Df.cells)] ∧ h' i2 = .cells [.nl] ∧ Fl cid mid fm h' .nl [] 0 ∧ FmT (p.take i) fm ∧ Keeps h h') p.length
      ⟨0, [], by simp, by simp, by simp, by simp, by simp, by simp, by simp, by simp, by simp [n1c, g1], by simp [n2c, g2], ⟨by simp, by simp [nmc, gm], .inl ⟨rfl, rfl⟩⟩, by simpa using FmT.nil, f4⟩ ?_
    have zm : h mid = .dead := f2.dead dm
    have z2 : h i2 = .dead := f1.dead d2
    have zc : h cid = .dead := f3.dead dc
    clear f4 f3 f2 f1 gm g1 g2 hH dc dm d1 d2 n1m n2m nmc
    rintro m tm h' ⟨i, fm, hi, t1, t2, t3, t4, t22, t23, t24, g1, g2, c, hfm, kf⟩
    have hw1 : IntKind.i64.wrap ((i : Int) + 1) = ((i + 1 : Nat) : Int) := by rw [wrap_i64] <;> omega
    by_cases hlt : i < p.length
    · have hput := hfm.put (f := p[i]) (List.getElem?_eq_getElem hlt) hd
      generalize hx : p[i] = f at *
      simp -dsimp [t22, t23, t24, hlt, hx]
      intro i6 d6
      have c6 := fun o => c.new (o := o) d6
      have n6m := map_ne c.cm d6
      have n6c := cells_ne c.cc d6
      simp -dsimp [t4, n6c, c.cc, n6m, c.cm, Stable, AIns.wants, QStep, hw1, t24]
      have n16 := cells_ne g1 d6
      have n26 := cells_ne g2 d6
      have nm1 : ¬ i1 = mid := by rintro rfl; have := c.cm; rw [g1] at this; cases this
      have nm2 : ¬ i2 = mid := by rintro rfl; have := c.cm; rw [g2] at this; cases this
      have nmc : ¬ cid = mid := fun x => c.nmc x.symm
      refine Again.same (m - 1) (by omega) ⟨i + 1, putM f.name (i : Int) fm, by omega, by simp [t1], by simp [t2], by simp [t3], by simp [t4], by simp [t22], by simp [t23], by simp, by simp [nm1, n16, g1], by simp [nm2, n26, g2], ⟨by simp [nmc, n6c, c.cc], by simp, .inl ⟨rfl, rfl⟩⟩, hput, ?_⟩
      exact (kf.new d6).set zm
    · have htk : p.take i = p := List.take_of_length_le (by omega)
      rw [htk] at hfm
      have hfm' : FmOK p fm := fun nm f hh => hfm nm (by
        rcases headsD nm p 0 with ⟨_, x⟩ | ⟨k, hk, x, _⟩
        · rw [x] at hh; cases hh
        · rw [x]; omega)
      simp -dsimp [t22, t23, t24, hlt, t1, g1]
      intro i7 d7
      have n17 := cells_ne g1 d7
      have n27 := cells_ne g2 d7
      simp -dsimp [t1, n17, g1]
      have m1c : ¬ i1 = cid := n1c
      have m2c : ¬ i2 = cid := n2c
      have m7c : ¬ i7 = cid := fun x => cells_ne c.cc d7 x.symm
      have z7' : Free h .nl i7 := .inl (kf.dead d7)
      refine ALoop.start (fun m tm h' => ∃ (i : Nat) (v' : AV) (nms : Nms) (n : Int) (r : AV) (rows : List (List AV)), i + m = p.length ∧ tm 2 = .ptr i2 0 ∧ tm 3 = .int .i64 0 ∧ tm 4 = .ptr cid 0 ∧ tm 7 = .ptr i7 0 ∧ tm 38 = rowsAV (p.map Df.cells) ∧ tm 39 = .int .i64 p.length ∧ tm 40 = .int .i64 i ∧
        h' i2 = .cells [.nl] ∧ h' i7 = .cells [r] ∧ Fl cid mid fm h' v' nms n ∧ OwnF h .nl h' 63 15 r rows ∧ SupsAt 51 h h' .nl rows ((p.take i).map (supS p)) ∧ Fr7 [cid] h .nl h' v') p.length
        ⟨0, .nl, [], 0, .nl, [], by simp, by simp [t2], by simp [t3], by simp [t4], by simp, by simp, by simp, by simp, by simp [n27, g2], by simp, c.new d7, .inl ⟨rfl, rfl⟩, by simp [SupsAt], fun j _ _ => (kf.new d7 j).imp id (fun x => ⟨x, not_nl⟩)⟩ ?_
      clear t22 t23 t24 t1 t2 t3 t4 c kf d7 g1 g2 hlt htk hw1 hi hfm
      clear i
      rintro m tm h' ⟨i, v', nms, n, r, rows, hi, t2, t3, t4, t7, t38, t39, t40, g2, g7, c, o, sa, kf⟩
      have hw1 : IntKind.i64.wrap ((i : Int) + 1) = ((i + 1 : Nat) : Int) := by rw [wrap_i64] <;> omega
      have hfl := o.flat
      by_cases hlt : i < p.length
      · have hmem := List.getElem_mem hlt
        have hsc := check06_sc hd _ hmem
        obtain ⟨hi', hfi⟩ := fineP_mem hf.fine hmem
        have hsf := sizeP_mem hmem
        have htks := take_snoc p hlt
        generalize hx : p[i] = f at *
        have hse : f.size = 1 + f.params.length + f.body.size := rfl
        simp -dsimp [t38, t39, t40, hlt, hx]
        intro i9 d9
        have n29 := cells_ne g2 d9
        have n79 := cells_ne g7 d9
        have m9c : ¬ i9 = cid := fun x => cells_ne c.cc d9 x.symm
        simp -dsimp
        intro i10 d10
        have n910 := hset_ne d10
        have n210 := cells_ne (cells_new (o' := .cells f.cells) g2 d9) d10
        have n710 := cells_ne (cells_new (o' := .cells f.cells) g7 d9) d10
        have c10 := fun o' => (c.new (o := .cells f.cells) d9).new (o := o') d10
        have m10c : ¬ i10 = cid := fun x => cells_ne (c.new (o := .cells f.cells) d9).cc d10 x.symm
        have n109 : ¬ i10 = i9 := fun x => n910 x.symm
        have z9' : Free h .nl i9 := kf.deadc c.nodead d9
        have z10' : Free h .nl i10 := (kf.new (o := .cells f.cells) d9).deadc (c.new (o := .cells f.cells) d9).nodead d10
        have u9 : ∀ o', hset (hset h' i9 (.cells f.cells)) i10 o' i9 = .cells f.cells := fun o' => by simp [n910]
        have u7 : ∀ o', hset (hset h' i9 (.cells f.cells)) i10 o' i7 = .cells [r] := fun o' => by simp [n79, n710, g7]
        have u2 : ∀ o', hset (hset h' i9 (.cells f.cells)) i10 o' i2 = .cells [.nl] := fun o' => by simp [n29, n210, g2]
        have k10 := fun o' => (kf.new (o := .cells f.cells) d9).new (o := o') d10
        have o10 := fun o' => (o.new (x := .cells f.cells) d9).new (x := o') d10
        have s10 : ∀ o', SupsAt 51 h (hset (hset h' i9 (.cells f.cells)) i10 o') .nl rows ((p.take i).map (supS p)) := fun o' => sa.keep fun j xs hj => by rw [at_new (at_new hj (by simp) d9) (by simp) d10, hj]
        have nc9 : ¬ cid = i9 := fun x => m9c x.symm
        have nc10 : ¬ cid = i10 := fun x => m10c x.symm
        simp -dsimp [n910, n109, t4, nc9, nc10, m9c, m10c, c.cc]
        have nmc := c.nmc
        have nm9 := map_ne c.cm d9
        have nm10 := map_ne ((c.new (o := .cells f.cells) d9).cm) d10
        have c0 : ∀ o', Fl cid mid fm (hset (hset (hset h' i9 (.cells f.cells)) i10 o') cid (.cells [.mp mid, .nl, .int .i64 0])) .nl [] 0 := fun o' => ⟨by simp, by simp [nmc, nm9, nm10, c.cm], .inl ⟨rfl, rfl⟩⟩
        have k0 : ∀ o' x, Fr7 [cid] h .nl (hset (hset (hset h' i9 (.cells f.cells)) i10 o') cid (.cells x)) .nl := fun o' x => fr7_nl ((k10 o').mem (by simp))
        have o0 : ∀ o' x, OwnF h .nl (hset (hset (hset h' i9 (.cells f.cells)) i10 o') cid (.cells x)) 63 15 r rows := fun o' x => (o10 o').setc (c10 o').cc
        have s0 : ∀ o' x, SupsAt 51 h (hset (hset (hset h' i9 (.cells f.cells)) i10 o') cid (.cells x)) .nl rows ((p.take i).map (supS p)) := fun o' x => (s10 o').keep fun j xs hj => by
          have : ¬ j = cid := by rintro rfl; rw [(c10 o').cc] at hj; cases hj
          simp [this]
        have y9 : ∀ o' x, hset (hset (hset h' i9 (.cells f.cells)) i10 o') cid (.cells x) i9 = .cells f.cells := fun o' x => by simp [m9c, n910]
        have y7 : ∀ o' x, hset (hset (hset h' i9 (.cells f.cells)) i10 o') cid (.cells x) i7 = .cells [r] := fun o' x => by simp [m7c, n79, n710, g7]
        have y2 : ∀ o' x, hset (hset (hset h' i9 (.cells f.cells)) i10 o') cid (.cells x) i2 = .cells [.nl] := fun o' x => by simp [m2c, n29, n210, g2]
        have z10 : ∀ o' x, hset (hset (hset h' i9 (.cells f.cells)) i10 o') cid (.cells x) i10 = o' := fun o' x => by simp [m10c]
        generalize hHH : hset (hset (hset h' i9 (.cells f.cells)) i10 (.cells [.str f.name, .nl, .int .i64 f.ty, .int .i64 0, .int .i64 0, .int .i64 0, .int .i64 0, .int .i64 0, .int .i64 0, .int .i64 0, .cplx 0 0, .bool false, .nl, .nl, .nl])) cid (.cells [.mp mid, .nl, .int .i64 0]) = HH
        refine ALoop.start (fun m' tm h' => ∃ (k : Nat) (v2 pr : AV), k + m' = f.params.length ∧ tm 2 = .ptr i2 0 ∧ tm 3 = .int .i64 0 ∧ tm 4 = .ptr cid 0 ∧ tm 7 = .ptr i7 0 ∧ tm 9 = .ptr i9 0 ∧ tm 10 = .ptr i10 0 ∧ tm 38 = rowsAV (p.map Df.cells) ∧ tm 39 = .int .i64 p.length ∧ tm 40 = .int .i64 i ∧
          tm 56 = rowsAV (f.params.map Pm.cells) ∧ tm 57 = .int .i64 f.params.length ∧ tm 58 = .int .i64 k ∧
          h' i2 = .cells [.nl] ∧ h' i7 = .cells [r] ∧ h' i9 = .cells f.cells ∧ h' i10 = .cells ([.str f.name, pr, .int .i64 f.ty, .int .i64 0] ++ sz0) ∧ Fl cid mid fm h' v2 (paramN (f.params.take k) 0) k ∧ OwnF h .nl h' 51 1 pr (intRows ((f.params.take k).map Pm.ty)) ∧
          OwnF h .nl h' 63 15 r rows ∧ SupsAt 51 h h' pr rows ((p.take i).map (supS p)) ∧ Fr7 [cid] h .nl h' v2) f.params.length
          ⟨0, .nl, .nl, by simp, by simp [t2], by simp [t3], by simp [t4], by simp [t7], by simp, by simp, by simp [t38], by simp [t39], by simp [t40], by simp, by simp, by simp, by rw [← hHH]; exact y2 _ _, by rw [← hHH]; exact y7 _ _, by rw [← hHH]; exact y9 _ _, by rw [← hHH]; exact z10 _ _, by rw [← hHH]; exact c0 _, .inl ⟨by simp [intRows], rfl⟩, by rw [← hHH]; exact o0 _ _, by rw [← hHH]; exact s0 _ _, by rw [← hHH]; exact k0 _ _⟩ ?_
        clear y9 y7 y2 z10 s0 o0 k0 c0 hHH nm10 nm9 nmc s10 o10 k10 u9 u7 u2 c10 d10 n210 n710 d9 n29 n79 t2 t3 t4 t7 t38 t39 t40 g2 g7 c o sa kf
        clear HH
        rintro m' tm h' ⟨k, v2, pr, hk, t2, t3, t4, t7, t9, t10, t38, t39, t40, t56, t57, t58, g2, g7, g9, g10, c, op, o, sa, kf⟩
        have hw2 : IntKind.i64.wrap ((k : Int) + 1) = ((k + 1 : Nat) : Int) := by rw [wrap_i64] <;> omega
        have hflp := op.flat
        by_cases hlk : k < f.params.length
        · have hps := take_snoc f.params hlk
          generalize hpx : f.params[k] = x at *
          simp -dsimp [t56, t57, t58, hlk, hpx]
          intro i12 d12
          have q2 := cells_ne g2 d12
          have q7 := cells_ne g7 d12
          have q9 := cells_ne g9 d12
          have q10 := cells_ne g10 d12
          have m12c : ¬ i12 = cid := fun x => cells_ne c.cc d12 x.symm
          simp -dsimp [t10, q10, g10]
          intro i66 d66
          have c12 := fun o' => c.new (o := o') d12
          have k12 := fun o' => kf.new (o := o') d12
          have e2 := cells_new (o' := .arr 51 1 [[.int .i64 x.ty]]) (cells_new (o' := .cells x.cells) g2 d12) d66
          have e7 := cells_new (o' := .arr 51 1 [[.int .i64 x.ty]]) (cells_new (o' := .cells x.cells) g7 d12) d66
          have e9 := cells_new (o' := .arr 51 1 [[.int .i64 x.ty]]) (cells_new (o' := .cells x.cells) g9 d12) d66
          have e10 := cells_new (o' := .arr 51 1 [[.int .i64 x.ty]]) (cells_new (o' := .cells x.cells) g10 d12) d66
          have e12 : hset (hset h' i12 (.cells x.cells)) i66 (.arr 51 1 [[.int .i64 x.ty]]) i12 = .cells x.cells := cells_new (hset_same _ _ _) d66
          have c66 := (c.new (o := .cells x.cells) d12).new (o := .arr 51 1 [[.int .i64 x.ty]]) d66
          have k66 := (kf.new (o := .cells x.cells) d12).new (o := .arr 51 1 [[.int .i64 x.ty]]) d66
          have op66 := (op.new (x := .cells x.cells) d12).new (x := .arr 51 1 [[.int .i64 x.ty]]) d66
          have o66 := (o.new (x := .cells x.cells) d12).new (x := .arr 51 1 [[.int .i64 x.ty]]) d66
          have s66 : SupsAt 51 h (hset (hset h' i12 (.cells x.cells)) i66 (.arr 51 1 [[.int .i64 x.ty]])) pr rows ((p.take i).map (supS p)) := sa.keep fun j xs hj => by rw [at_new (at_new hj (by simp) d12) (by simp) d66, hj]
          simp -dsimp
          generalize hset (hset h' i12 (.cells x.cells)) i66 (.arr 51 1 [[.int .i64 x.ty]]) = H at *
          refine op66.push2 (fun j hj => k66.deadc c66.nodead hj) (by simp; omega) (by decide) fun pr' h3 op3 ke kb kr kw => ?_
          have c3 := c66.keepE ke (by decide)
          have k3 := k66.changed kb
          have f2 := ke.cells e2
          have f7 := ke.cells e7
          have f9 := ke.cells e9
          have f10 := ke.cells e10
          have f12 := ke.cells e12
          have o3 : OwnF h .nl h3 63 15 r rows := o66.eqs fun j xs hj => by rw [ke.arr hj (by decide), hj]
          have s3 : SupsAt 51 h h3 pr' rows ((p.take i).map (supS p)) := s66.mono (fun j xs hj hn => by
            rcases kr j with y | y | y
            · rw [hj] at y; cases y
            · exact absurd y hn
            · exact y) kw
          have hflp3 := op3.flat
          simp -dsimp [t4, t10, f10, hflp3]
          have n1210 : ¬ i12 = i10 := fun x => q10 x.symm
          have lk : (f.params.take k).length = k := by simp; omega
          have n710 : ¬ i7 = i10 := by
            rintro rfl
            rw [g7] at g10
            cases g10
          have n210 : ¬ i2 = i10 := by
            rintro rfl
            rw [g2] at g10
            cases g10
          simp -dsimp [n1210, f12]
          have c4 := fun o' => c3.setc (o := o') f10 m10c
          have k4 : ∀ o', Fr7 [cid] h .nl (hset h3 i10 o') v2 := fun o' => fr7_at k3 z10'
          refine fbind_ok (nm := x.name) (c4 _) (by omega) (by rw [paramN_length]; omega) ?_
          intro v5 h5 c5 k5
          have l2 := fl_at k5 (c4 _) (j := i2) (cs := [.nl]) (by simp [n210, f2]) m2c
          have l7 := fl_at k5 (c4 _) (j := i7) (cs := [r]) (by simp [n710, f7]) m7c
          have l9 := fl_at k5 (c4 _) (j := i9) (cs := f.cells) (by simp [n910, f9]) m9c
          have l10 := fl_at k5 (c4 _) (hset_same h3 i10 _) m10c
          have op5 := ownF_fl (op3.setc (x := .cells ([.str f.name, pr', .int .i64 f.ty, .int .i64 0] ++ sz0)) f10) (c4 _) k5 (by decide)
          have o5 := ownF_fl (o3.setc (x := .cells ([.str f.name, pr', .int .i64 f.ty, .int .i64 0] ++ sz0)) f10) (c4 _) k5 (by decide)
          have s5 : SupsAt 51 h h5 pr' rows ((p.take i).map (supS p)) := (s3.keep (h2 := hset h3 i10 (.cells ([.str f.name, pr', .int .i64 f.ty, .int .i64 0] ++ sz0))) fun j xs hj => by
            have : ¬ j = i10 := by rintro rfl; rw [f10] at hj; cases hj
            simp [this]).keep fun j xs hj => by
              rw [hj]
              exact k5.at hj (by simp) (by rw [List.mem_singleton]; rintro rfl; rw [(c4 _).cc] at hj; cases hj) ((c4 _).cl.nota hj (by decide))
          have k55 := (k4 _).trans k5
          have hbn : bindN (paramN (f.params.take k) 0) x.name k = paramN (f.params.take (k + 1)) 0 := by
            rw [hps, paramN_snoc, lk, Int.zero_add]; rfl
          rw [hbn] at c5
          simp -dsimp [t58, hw2]
          refine Again.same (m' - 1) (by omega) ⟨k + 1, v5, pr', by omega, by simp [t2], by simp [t3], by simp [t4], by simp [t7], by simp [t9], by simp [t10], by simp [t38], by simp [t39], by simp [t40], by simp [t56], by simp [t57], by simp, l2, l7, l9, l10, ?_, ?_, o5, s5, k55⟩
          · have : ((k + 1 : Nat) : Int) = (k : Int) + 1 := by omega
            rw [this]; exact c5
          · rw [hps]
            simpa [intRows] using op5
        · have htk2 : f.params.take k = f.params := List.take_of_length_le (by omega)
          have hkl : k = f.params.length := by omega
          rw [htk2] at c op
          subst hkl
          have n210 : ¬ i2 = i10 := by
            rintro rfl
            rw [g2] at g10
            cases g10
          have n710 : ¬ i7 = i10 := by
            rintro rfl
            rw [g7] at g10
            cases g10
          have hcode := codeS_next p f.body (paramN f.params 0) f.params.length
          simp -dsimp [t4, t9, t57, t58, hlk, g9]
          refine code_ok hfm' f.body.size f.body hi' (paramN f.params 0) f.params.length h' v2 _ (Nat.le_refl _) (by rw [paramN_length]; omega) (by omega) (by omega) hfi.body hsc c ?_
          intro v5 h5 c5 k5
          have l2 := fl_at k5 c g2 m2c
          have l7 := fl_at k5 c g7 m7c
          have l10 := fl_at k5 c g10 m10c
          have op5 := ownF_fl op c k5 (by decide)
          have o5 := ownF_fl o c k5 (by decide)
          have s5 : SupsAt 51 h h5 pr rows ((p.take i).map (supS p)) := sa.keep fun j xs hj => by
              rw [hj]
              exact k5.at hj (by simp) (by rw [List.mem_singleton]; rintro rfl; rw [c.cc] at hj; cases hj) (c.cl.nota hj (by decide))
          have k55 := kf.trans k5
          have hsup : supS p f = ⟨f.name, f.params.map Pm.ty, f.ty, (codeS p (paramN f.params 0) f.body f.params.length).2, (codeS p (paramN f.params 0) f.body f.params.length).1⟩ := rfl
          generalize hC : codeS p (paramN f.params 0) f.body f.params.length = C at *
          have nc10 : ¬ cid = i10 := fun x => m10c x.symm
          have nc7 : ¬ i7 = cid := m7c
          simp -dsimp [t4, t7, t10, l10, l7, sz0, c5.cc, nc10, hflp, n710]
          intro i87 d87
          have hrow : (AV.str f.name :: pr :: AV.int .i64 f.ty :: AV.int .i64 C.2 :: C.1.cells) = supRow pr (supS p f) := by rw [hsup]; rfl
          simp -dsimp
          simp only [hrow] at d87 ⊢
          have c6 := c5.setc (o := .cells (supRow pr (supS p f))) l10 m10c
          have k6 : Fr7 [cid] h .nl (hset h5 i10 (.cells (supRow pr (supS p f)))) v5 := fr7_at k55 z10'
          have op6 := op5.setc (x := .cells (supRow pr (supS p f))) l10
          have o6 := o5.setc (x := .cells (supRow pr (supS p f))) l10
          have s6 : SupsAt 51 h (hset h5 i10 (.cells (supRow pr (supS p f)))) pr rows ((p.take i).map (supS p)) := s5.keep fun j xs hj => by
            have : ¬ j = i10 := by rintro rfl; rw [l10] at hj; cases hj
            simp [this]
          have q2 : hset h5 i10 (.cells (supRow pr (supS p f))) i2 = .cells [.nl] := by simp [n210, l2]
          have q7 : hset h5 i10 (.cells (supRow pr (supS p f))) i7 = .cells [r] := by simp [n710, l7]
          have s7 : SupsAt 51 h (hset h5 i10 (.cells (supRow pr (supS p f)))) .nl (rows ++ [supRow pr (supS p f)]) ((p.take (i + 1)).map (supS p)) := by
            rw [htks, List.map_append]
            refine s6.nl.snoc ?_ (fun j _ => not_nl)
            rw [show (supS p f).params = f.params.map Pm.ty by rw [hsup]]; exact op6
          have hsl := sa.length
          simp only [List.length_map, List.length_take] at hsl
          generalize hset h5 i10 (.cells (supRow pr (supS p f))) = H at *
          have c8 := c6.new (o := .arr 63 15 [supRow pr (supS p f)]) d87
          have k8 := k6.new (o := .arr 63 15 [supRow pr (supS p f)]) d87
          refine (o6.new (x := .arr 63 15 [supRow pr (supS p f)]) d87).push (fun j hj => k8.deadc c8.nodead hj) (by simp; omega) (by decide) fun r' h9 o9 ke kb _ => ?_
          have r2 := ke.cells (cells_new q2 d87)
          have r7 := ke.cells (cells_new q7 d87)
          have c9 := c8.keepE ke (by decide)
          have k9 := k8.changed kb
          have s9 : SupsAt 51 h h9 .nl (rows ++ [supRow pr (supS p f)]) ((p.take (i + 1)).map (supS p)) := s7.keep fun j xs hj => by
            rw [ke.arr (at_new hj (by simp) d87) (by decide), hj]
          have hfl9 := o9.flat
          simp -dsimp [t7, r7, hfl9, t40, hw1]
          have n27' : ¬ i2 = i7 := n27
          refine Again.same (m - 1) (by omega) ⟨i + 1, v5, paramN f.params 0, C.2, r', rows ++ [supRow pr (supS p f)], by omega, by simp [t2], by simp [t3], by simp [t4], by simp [t7], by simp [t38], by simp [t39], by simp, by simp [n27, r2], by simp, c9.setc r7 m7c, o9.setc r7, s9.keep fun j xs hj => ?_, fr7_at k9 z7'⟩
          have : ¬ j = i7 := by rintro rfl; rw [r7] at hj; cases hj
          simp [this]
      · have htk : p.take i = p := List.take_of_length_le (by omega)
        rw [htk] at sa
        simp -dsimp [t38, t39, t40, hlt, t2, t3, t7, g7, g2, n27, hfl]
        have kk : Keeps h h' := fun j => by
          by_cases e : j = cid
          · exact .inl (e ▸ zc)
          · exact (kf j (by simp [e]) not_nl).imp id (fun x => x.1)
        refine hK hc r rows _ (o.setc g2) (sa.keep fun j xs hj => ?_) (kk.set z2)
        have : ¬ j = i2 := by rintro rfl; rw [g2] at hj; cases hj
        simp [this]
  · simp -dsimp [hc, fltRow, n12, n21]
    exact Gives.sub f2.sub (hK3 hc)

/-- What Flatten answers. -/
def flatAV (p : List Df) : AV := if (check07 p).1 = 0 then .tup [.agg [rowsAV ((flatS p).map Sup.cells)], .int .i64 0] else .tup [.agg [.nl], .int .i64 3]
theorem flatten_ok {p : List Df} {h : Hp} {K : AV → Hp → Prop} (hf : FineP p) (hK : K (flatAV p) h) : ACalls Tryz.prog 10 [progAV p] h K := by
  refine flatten_gen hf (fun hc => by simpa [flatAV, hc] using hK) (fun hc r rows h' o sa kk => ?_)
  have hz := sa.frz o
  refine Gives.frz (v' := flatAV p) (h' := h) kk.sub ?_ hK
  simp only [flatAV, hc, if_true]
  exact Frz.pair (Frz.cell (a := []) (b := []) hz) (.same _)
end Go.Proofs.YtcpkdbofohkipaaGreat

/- The program's check of flat programs: literals, slots. -/
namespace Go.Proofs.YtcpkdbofohkipaaGreat
open Go.AM
section
variable {h : Hp} {K : AV → Hp → Prop}

theorem trunc_ok {n : Int} (hn : Whl n) (hK : K (.flt (FloatKind.f64.nearest n)) h) : ACalls Tryz.prog 138 [.flt (FloatKind.f64.nearest n)] h K := by
  refine calls_of mixed Tryz.func138 comp138 (Nat.le_of_ble_eq_true rfl) ?_
  have h1 := aTrunc_near hn.lt
  simp -dsimp [c138, h1]
  exact Gives.same hK
theorem signbit_ok (hK : K (.bool false) h) : ACalls Tryz.prog 139 [.flt 0] h K := by
  refine calls_of mixed Tryz.func139 comp139 (Nat.le_of_ble_eq_true rfl) ?_
  have h6 : aFext .bits (.flt 0) = some (.int .u64 0) := rfl
  have hw : IntKind.i64.wrap 0 = 0 := by decide
  simp -dsimp [c139, h6, hw]
  exact Gives.same hK
theorem plain_ok {n : Int} (hn : Whl n) (hK : K (.bool true) h) : ACalls Tryz.prog 136 [.flt (FloatKind.f64.nearest n)] h K := by
  refine calls_of mixed Tryz.func136 comp136 (Nat.le_of_ble_eq_true rfl) ?_
  have h1 := geq_most hn
  have h2 := leq_most hn
  have h3 := eql_near hn hn
  have h4 : binF .neq (FloatKind.f64.nearest n) 0 = some (.bool (decide (n ≠ 0))) := by
    have := fOrd_near (b := 0) hn.lt (by decide)
    rw [near_zero] at this
    simp only [binF, this]
    have e := cmp_eq n 0
    simp only [bne, e]
    simp
  simp -dsimp [c136, h1, h2]
  refine trunc_ok hn ?_
  by_cases h0 : n = 0
  · subst h0
    have hz : FloatKind.f64.nearest 0 = 0 := near_zero
    simp only [hz] at h3 h4
    simp -dsimp [hz, h3, h4]
    refine signbit_ok ?_
    simp -dsimp
    exact Gives.same hK
  · simp -dsimp [h3, h4, h0]
    exact Gives.same hK
theorem gvalid_ok {re im : Nat} (hn : numOK re im) (hK : K (.bool true) h) : ACalls Tryz.prog 133 [.cplx re im] h K := by
  obtain ⟨a, b, h1, h2, h3, h4, rfl, rfl⟩ := hn
  refine calls_of mixed Tryz.func133 comp133 (Nat.le_of_ble_eq_true rfl) ?_
  simp -dsimp [c133]
  refine plain_ok ⟨h1, h2⟩ ?_
  simp -dsimp
  refine plain_ok ⟨h3, h4⟩ ?_
  simp -dsimp
  exact Gives.same hK
theorem cplxEq_zero {re im : Nat} (h : numOK re im) : cplxEq re im 0 0 = decide (re = 0 ∧ im = 0) := by
  obtain ⟨a, b, h1, h2, h3, h4, rfl, rfl⟩ := h
  have e1 := floatEq_near (a := a) (b := 0) ⟨h1, h2⟩ ⟨by omega, by omega⟩
  have e2 := floatEq_near (a := b) (b := 0) ⟨h3, h4⟩ ⟨by omega, by omega⟩
  rw [near_zero] at e1 e2
  have inj : ∀ {n : Int}, Whl n → (FloatKind.f64.nearest n = 0 ↔ n = 0) := fun {n} hn => by
    constructor
    · intro e
      have := eql_zero hn
      rw [e] at this
      have e3 : binF .eql 0 0 = some (.bool true) := by kernel_rfl
      rw [e3] at this
      simp at this
      exact this
    · rintro rfl; exact near_zero
  simp only [cplxEq, e1, e2, inj ⟨h1, h2⟩, inj ⟨h3, h4⟩]
  by_cases x : a = 0 <;> by_cases y : b = 0 <;> simp [x, y]
theorem vcheck_ok {v : Vl} (hv : LitNum v) (hK : K (.int .i64 (if litOK v then 0 else 3)) h) : ACalls Tryz.prog 121 [.agg v.cells] h K := by
  obtain ⟨ty, re, im, b, ls⟩ := v
  obtain ⟨hl, hn⟩ := hv
  simp only at hl hn
  subst hl
  have zl : rowsAV (zRows []) = .nl := rfl
  have hz := cplxEq_zero hn
  refine calls_of mixed Tryz.func121 comp121 (Nat.le_of_ble_eq_true rfl) ?_
  simp -dsimp [c121, Vl.cells, zl]
  intro i1 d1
  have ks : ∀ o1, Keeps h (hset h i1 o1) := fun o1 => (Keeps.refl h).set d1
  simp only [litOK] at hK
  by_cases t1 : ty = 1
  · subst t1
    simp -dsimp
    refine gvalid_ok hn ?_
    cases b
    · simp -dsimp
      exact Gives.sub (ks _).sub (by simpa using hK)
    · simp -dsimp
      exact Gives.sub (ks _).sub (by simpa using hK)
  by_cases t2 : ty = 2
  · subst t2
    simp -dsimp
    refine gvalid_ok hn ?_
    by_cases z : re = 0 ∧ im = 0
    · rw [decide_eq_true z] at hz
      simp -dsimp [hz]
      exact Gives.sub (ks _).sub (by simpa [decide_eq_true z] using hK)
    · rw [decide_eq_false z] at hz
      simp -dsimp [hz]
      exact Gives.sub (ks _).sub (by simpa [decide_eq_false z] using hK)
  by_cases t3 : ty = 3
  · subst t3
    simp -dsimp
    refine gvalid_ok hn ?_
    by_cases z : re = 0 ∧ im = 0
    · rw [decide_eq_true z] at hz
      cases b
      · simp -dsimp [hz]
        refine ALoop.start (fun m tm h' => tm 3 = .bool true ∧ tm 56 = .nl ∧ tm 57 = .int .i64 0 ∧ tm 58 = .int .i64 0 ∧ Keeps h h') 0 ⟨by simp, by simp, by simp, by simp, ks _⟩ ?_
        rintro m tm h' ⟨t3, t56, t57, t58, kf⟩
        simp -dsimp [t3, t56, t57, t58]
        exact Gives.sub kf.sub (by simpa [decide_eq_true z] using hK)
      · simp -dsimp [hz]
        refine ALoop.start (fun m tm h' => tm 3 = .bool false ∧ tm 56 = .nl ∧ tm 57 = .int .i64 0 ∧ tm 58 = .int .i64 0 ∧ Keeps h h') 0 ⟨by simp, by simp, by simp, by simp, ks _⟩ ?_
        rintro m tm h' ⟨t3, t56, t57, t58, kf⟩
        simp -dsimp [t3, t56, t57, t58]
        exact Gives.sub kf.sub (by simpa [decide_eq_true z] using hK)
    · rw [decide_eq_false z] at hz
      simp -dsimp [hz]
      refine ALoop.start (fun m tm h' => tm 3 = .bool false ∧ tm 56 = .nl ∧ tm 57 = .int .i64 0 ∧ tm 58 = .int .i64 0 ∧ Keeps h h') 0 ⟨by simp, by simp, by simp, by simp, ks _⟩ ?_
      rintro m tm h' ⟨t3, t56, t57, t58, kf⟩
      simp -dsimp [t3, t56, t57, t58]
      exact Gives.sub kf.sub (by simpa [decide_eq_false z] using hK)
  · simp -dsimp [t1, t2, t3]
    exact Gives.sub (ks _).sub (by simpa [t1, t2, t3] using hK)
end
end Go.Proofs.YtcpkdbofohkipaaGreat
