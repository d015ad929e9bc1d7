/- The document's flattening: Flatten. -/
import Derived.Test.YtcpkdbofohkipaaGreatKCgD
set_option linter.unusedVariables false
set_option linter.unusedSimpArgs false
namespace Go.Proofs.YtcpkdbofohkipaaGreat
open Go.AM

theorem keeps_changed {h h1 h2 : Hp} (k : Keeps h h1) (hc : ∀ j, Free h .nl j ∨ h2 j = h1 j) : Keeps h h2 := fun j => by
  rcases k j with x | x
  · exact .inl x
  · rcases hc j with (y | y) | y
    · exact .inl y
    · exact absurd y not_nl
    · exact .inr (y.trans x)
theorem gflatten_gen {p : List Df} {h : Hp} {K : AV → Hp → Prop} (hf : FineP p) (hK3 : (check07 p).1 ≠ 0 → K (.tup [.agg [.nl], .int .i64 3]) h)
    (hK : (check07 p).1 = 0 → ∀ r rows h', OwnF h .nl h' 63 15 r rows → SupsAt 51 h h' .nl rows (flatS p) → Keeps h h' → Gives K (some (.tup [.agg [r], .int .i64 0])) h') :
    ACalls Tryz.prog 11 [progAV p] h K := by
  refine calls_of mixed Tryz.func11 comp11 (Nat.le_of_ble_eq_true rfl) ?_
  have hlp := sizeP_len p
  have hsz := hf.size
  simp -dsimp [c11, progAV]
  intro i1 d1
  simp -dsimp
  intro i2 d2
  have n12 := hset_ne d2
  have n21 : ¬ i2 = i1 := fun x => n12 x.symm
  have f1 : Keeps h _ := (Keeps.refl h).new (o := .cells [rowsAV (p.map Df.cells)]) d1
  have f2 := f1.new (o := .cells [.nl]) d2
  have d2' : h i2 = .dead := f1.dead d2
  simp -dsimp
  intro i4 d4
  have n14 := cells_ne (h := hset (hset h i1 (.cells [rowsAV (p.map Df.cells)])) i2 (.cells [.nl])) (i := i1) (cs := [rowsAV (p.map Df.cells)]) (by simp [n12]) d4
  have n24 := cells_ne (h := hset (hset h i1 (.cells [rowsAV (p.map Df.cells)])) i2 (.cells [.nl])) (i := i2) (cs := [.nl]) (by simp) d4
  have n41 : ¬ i4 = i1 := fun x => n14 x.symm
  have n42 : ¬ i4 = i2 := fun x => n24 x.symm
  have f3 := f2.new (o := .cells [.nl]) d4
  have d4' : h i4 = .dead := f2.dead d4
  simp -dsimp [n12, n14, n24]
  refine check07_ok hf.size ?_
  by_cases hc : (check07 p).1 = 0
  · have hd := check06_nil (check07_06 hc)
    simp -dsimp [hc, fltRow]
    refine ALoop.start (fun m tm h' => ∃ (i : Nat) (r : AV) (rows : List (List AV)), i + m = p.length ∧ tm 1 = .ptr i1 0 ∧ tm 2 = .ptr i2 0 ∧ tm 4 = .ptr i4 0 ∧ tm 5 = .int .i64 i ∧
        h' i1 = .cells [rowsAV (p.map Df.cells)] ∧ h' i2 = .cells [.nl] ∧ h' i4 = .cells [r] ∧ OwnF h .nl h' 63 15 r rows ∧ SupsAt 51 h h' .nl rows ((p.take i).map (supS p)) ∧ Keeps h h') p.length
        ⟨0, .nl, [], by simp, by simp, by simp, by simp, by simp, by simp [n12, n14], by simp [n24], by simp, .inl ⟨rfl, rfl⟩, by simp [SupsAt], f3⟩ ?_
    clear f3 f2 f1 d1 d2 d4
    rintro m tm h' ⟨i, r, rows, hi, t1, t2, t4, t5, g1, g2, g4, o, sa, kf⟩
    have hw1 : IntKind.i64.wrap ((i : Int) + 1) = ((i + 1 : Nat) : Int) := by rw [wrap_i64] <;> omega
    have hfl := o.flat
    by_cases hlt : i < p.length
    · have hmem := List.getElem_mem hlt
      have hsc := check06_sc hd _ hmem
      obtain ⟨hi', hfi⟩ := fineP_mem hf.fine hmem
      have hsf := sizeP_mem hmem
      have htks := take_snoc p hlt
      generalize hx : p[i] = f at *
      have hse : f.size = 1 + f.params.length + f.body.size := rfl
      simp -dsimp [t1, t5, g1, hlt, hx]
      intro i6 d6
      have n16 := cells_ne g1 d6
      have n26 := cells_ne g2 d6
      have n46 := cells_ne g4 d6
      have q1 := cells_new (o' := .cells f.cells) g1 d6
      have q2 := cells_new (o' := .cells f.cells) g2 d6
      have q4 := cells_new (o' := .cells f.cells) g4 d6
      have q6 := hset_same h' i6 (.cells f.cells)
      have k6 := kf.new (o := .cells f.cells) d6
      have o6 := o.new (x := .cells f.cells) d6
      have s6 : SupsAt 51 h (hset h' i6 (.cells f.cells)) .nl rows ((p.take i).map (supS p)) := sa.keep fun j xs hj => by rw [at_new hj (by simp) d6, hj]
      simp -dsimp
      generalize hset h' i6 (.cells f.cells) = H6 at *
      intro i7 d7
      have n17 := cells_ne q1 d7
      have n27 := cells_ne q2 d7
      have n47 := cells_ne q4 d7
      have n67 := cells_ne q6 d7
      have n71 : ¬ i7 = i1 := fun x => n17 x.symm
      have n76 : ¬ i7 = i6 := fun x => n67 x.symm
      have z7 : h i7 = .dead := k6.dead d7
      have sk : ∀ (o' : AObj), SupsAt 51 h (hset H6 i7 o') .nl rows ((p.take i).map (supS p)) := fun o' => s6.keep fun j xs hj => by rw [at_new hj (by simp) d7, hj]
      simp -dsimp
      refine ALoop.start (fun m' tm h' => ∃ (k : Nat) (pr : AV), k + m' = f.params.length ∧ tm 1 = .ptr i1 0 ∧ tm 2 = .ptr i2 0 ∧ tm 4 = .ptr i4 0 ∧ tm 5 = .int .i64 i ∧ tm 6 = .ptr i6 0 ∧ tm 7 = .ptr i7 0 ∧ tm 9 = .int .i64 k ∧
        h' i1 = .cells [rowsAV (p.map Df.cells)] ∧ h' i2 = .cells [.nl] ∧ h' i4 = .cells [r] ∧ h' i6 = .cells f.cells ∧ h' i7 = .cells ([.str f.name, pr, .int .i64 f.ty, .int .i64 0] ++ sz0) ∧ OwnF h .nl h' 51 1 pr (intRows ((f.params.take k).map Pm.ty)) ∧
        OwnF h .nl h' 96 2 (tm 8) (nmRows (paramN (f.params.take k) 0)) ∧ OwnF h .nl h' 63 15 r rows ∧ SupsAt 51 h h' pr rows ((p.take i).map (supS p)) ∧ Keeps h h') f.params.length
        ⟨0, .nl, by simp, by simp [t1], by simp [t2], by simp [t4], by simp [t5], by simp, by simp, by simp, by simp [n17, q1], by simp [n27, q2], by simp [n47, q4], by simp [n67, q6], by simp [sz0], .inl ⟨by simp [intRows], rfl⟩, .inl ⟨by simp [nmRows, paramN], by simp⟩, o6.new d7, sk _, k6.new d7⟩ ?_
      clear sk d7 k6 o6 s6 q1 q2 q4 q6 t1 t2 t4 t5 g1 g2 g4 o sa kf d6
      clear H6
      rintro m' tm h' ⟨k, pr, hk, t1, t2, t4, t5, t6, t7, t9, g1, g2, g4, g6, g7, op, on, o, sa, kf⟩
      have hw2 : IntKind.i64.wrap ((k : Int) + 1) = ((k + 1 : Nat) : Int) := by rw [wrap_i64] <;> omega
      have hflp := op.flat
      by_cases hlk : k < f.params.length
      · have hps := take_snoc f.params hlk
        have lk : (f.params.take k).length = k := by simp; omega
        generalize hpx : f.params[k] = x at *
        simp -dsimp [t6, t7, t9, g6, g7, hlk, hpx, Stable, AIns.wants, QStep]
        intro i48 d48
        have e1 := cells_new (o' := .arr 51 1 [[.int .i64 x.ty]]) g1 d48
        have e2 := cells_new (o' := .arr 51 1 [[.int .i64 x.ty]]) g2 d48
        have e4 := cells_new (o' := .arr 51 1 [[.int .i64 x.ty]]) g4 d48
        have e6 := cells_new (o' := .arr 51 1 [[.int .i64 x.ty]]) g6 d48
        have e7 := cells_new (o' := .arr 51 1 [[.int .i64 x.ty]]) g7 d48
        have p748 := cells_ne g7 d48
        have p648 := cells_ne g6 d48
        have k48 := kf.new (o := .arr 51 1 [[.int .i64 x.ty]]) d48
        have op48 := op.new (x := .arr 51 1 [[.int .i64 x.ty]]) d48
        have on48 := on.new (x := .arr 51 1 [[.int .i64 x.ty]]) d48
        have o48 := o.new (x := .arr 51 1 [[.int .i64 x.ty]]) d48
        have s48 : SupsAt 51 h (hset h' i48 (.arr 51 1 [[.int .i64 x.ty]])) pr rows ((p.take i).map (supS p)) := sa.keep fun j xs hj => by rw [at_new hj (by simp) d48, hj]
        simp -dsimp [Stable, AIns.wants, QStep, p748, p648, g6, g7, hlk, hpx]
        generalize hset h' i48 (.arr 51 1 [[.int .i64 x.ty]]) = H at *
        refine op48.push2 (fun j hj => .inl (k48.dead hj)) (by simp; omega) (by decide) fun pr' h3 op3 ke kb kr kw => ?_
        have f1 := ke.cells e1
        have f2 := ke.cells e2
        have f4 := ke.cells e4
        have f6 := ke.cells e6
        have f7 := ke.cells e7
        have k3 := keeps_changed k48 kb
        have on3 : OwnF h .nl h3 96 2 (tm 8) (nmRows (paramN (f.params.take k) 0)) := on48.eqs fun j xs hj => by rw [ke.arr hj (by decide), hj]
        have o3 : OwnF h .nl h3 63 15 r rows := o48.eqs fun j xs hj => by rw [ke.arr hj (by decide), hj]
        have s3 : SupsAt 51 h h3 pr' rows ((p.take i).map (supS p)) := s48.mono (fun j xs hj hn => by
          rcases kr j with y | y | y
          · rw [hj] at y; cases y
          · exact absurd y hn
          · exact y) kw
        have hflp3 := op3.flat
        have n17' : ¬ i1 = i7 := n17
        have n67' : ¬ i6 = i7 := n67
        simp -dsimp [Stable, AIns.wants, QStep, t6, t7, t9, f6, f7, n67, hflp3, hlk, hpx]
        intro i60 d60
        have d60' : h3 i60 = .dead ∧ ¬ i60 = i7 := by
          by_cases e : i60 = i7
          · subst e; simp at d60
          · exact ⟨by simpa [e] using d60, e⟩
        have r1 := cells_ne f1 d60'.1
        have r2 := cells_ne f2 d60'.1
        have r4 := cells_ne f4 d60'.1
        have r6 := cells_ne f6 d60'.1
        have r7 := cells_ne f7 d60'.1
        have n27' : ¬ i2 = i7 := n27
        have n47' : ¬ i4 = i7 := n47
        obtain ⟨H5, hH5⟩ : ∃ H5, H5 = hset h3 i7 (.cells ([.str f.name, pr', .int .i64 f.ty, .int .i64 0] ++ sz0)) := ⟨_, rfl⟩
        have w1 : H5 i1 = .cells [rowsAV (p.map Df.cells)] := by rw [hH5]; simp [n17', f1]
        have w2 : H5 i2 = .cells [.nl] := by rw [hH5]; simp [n27', f2]
        have w4 : H5 i4 = .cells [r] := by rw [hH5]; simp [n47', f4]
        have w6 : H5 i6 = .cells f.cells := by rw [hH5]; simp [n67', f6]
        have w7 : H5 i7 = .cells ([.str f.name, pr', .int .i64 f.ty, .int .i64 0] ++ sz0) := by rw [hH5]; simp
        have k5 : Keeps h H5 := by rw [hH5]; exact k3.set z7
        have op5 : OwnF h .nl H5 51 1 pr' (intRows ((f.params.take k).map Pm.ty) ++ [[.int .i64 x.ty]]) := by rw [hH5]; exact op3.setc f7
        have on5 : OwnF h .nl H5 96 2 (tm 8) (nmRows (paramN (f.params.take k) 0)) := by rw [hH5]; exact on3.setc f7
        have o5 : OwnF h .nl H5 63 15 r rows := by rw [hH5]; exact o3.setc f7
        have s5 : SupsAt 51 h H5 pr' rows ((p.take i).map (supS p)) := by
          rw [hH5]
          refine s3.keep fun j xs hj => ?_
          have : ¬ j = i7 := by rintro rfl; rw [f7] at hj; cases hj
          simp [this]
        have hsz0 : hset h3 i7 (.cells (.str f.name :: pr' :: .int .i64 f.ty :: .int .i64 0 :: sz0)) = H5 := hH5.symm
        rw [hsz0] at d60 ⊢
        clear hH5 hsz0
        have k6 := k5.new (o := .arr 96 2 [[.str x.name, .int .i64 k]]) d60
        simp -dsimp
        refine (on5.new (x := .arr 96 2 [[.str x.name, .int .i64 k]]) d60).push (fun j hj => .inl (k6.dead hj)) (by simp [paramN_length]; omega) (by decide) fun v8 h8 on8 ke8 kb8 _ => ?_
        have op8 : OwnF h .nl h8 51 1 pr' (intRows ((f.params.take k).map Pm.ty) ++ [[.int .i64 x.ty]]) := (op5.new d60).eqs fun j xs hj => by rw [ke8.arr hj (by decide), hj]
        have o8 : OwnF h .nl h8 63 15 r rows := (o5.new d60).eqs fun j xs hj => by rw [ke8.arr hj (by decide), hj]
        have s8 : SupsAt 51 h h8 pr' rows ((p.take i).map (supS p)) := s5.keep fun j xs hj => by rw [ke8.arr (at_new hj (by simp) d60) (by decide), hj]
        simp -dsimp [t9, hw2]
        refine Again.same (m' - 1) (by omega) ⟨k + 1, pr', by omega, by simp [t1], by simp [t2], by simp [t4], by simp [t5], by simp [t6], by simp [t7], by simp, ke8.cells (cells_new w1 d60), ke8.cells (cells_new w2 d60), ke8.cells (cells_new w4 d60), ke8.cells (cells_new w6 d60), ke8.cells (cells_new w7 d60), ?_, ?_, o8, s8, keeps_changed k6 kb8⟩
        · rw [hps]
          simpa [intRows] using op8
        · rw [hps, paramN_snoc, lk]
          simpa [nmRows, nmRow] using on8
      · have htk2 : f.params.take k = f.params := List.take_of_length_le (by omega)
        have hkl : k = f.params.length := by omega
        rw [htk2] at op on
        subst hkl
        have hcode := codeS_next p f.body (paramN f.params 0) f.params.length
        simp -dsimp [t1, t6, t9, hlk, g1, g6]
        intro fid df
        have n6f := cells_ne g6 df
        have n7f := cells_ne g7 df
        have n4f := cells_ne g4 df
        have n1f := cells_ne g1 df
        have n2f := cells_ne g2 df
        have zf : h fid = .dead := kf.dead df
        have x1 := cells_new (o' := rfO p f.params.length) g1 df
        have x2 := cells_new (o' := rfO p f.params.length) g2 df
        have x4 := cells_new (o' := rfO p f.params.length) g4 df
        have x7 := cells_new (o' := rfO p f.params.length) g7 df
        have xf := hset_same h' fid (rfO p f.params.length)
        have kk := kf.new (o := rfO p f.params.length) df
        have op2 := op.new (x := rfO p f.params.length) df
        have on2 := on.new (x := rfO p f.params.length) df
        have o2 := o.new (x := rfO p f.params.length) df
        have s2 : SupsAt 51 h (hset h' fid (rfO p f.params.length)) pr rows ((p.take i).map (supS p)) := sa.keep fun j xs hj => by rw [at_new hj (by simp) df, hj]
        simp -dsimp [t6, n6f, g6]
        have hrf : (AObj.cells [rowsAV (p.map Df.cells), .int .i64 f.params.length]) = rfO p f.params.length := rfl
        rw [hrf]
        generalize hset h' fid (rfO p f.params.length) = H at *
        obtain ⟨H3, hs3, hz3, hd3⟩ := on2.drop
        refine ACalls.frz hs3 (args' := [.ptr fid 0, .agg f.body.cells, rowsAV (nmRows (paramN f.params 0))]) ⟨.same _, .same _, hz3, trivial⟩ ?_
        have xc : ∀ {j : Nat} {cs : List AV}, H j = .cells cs → H3 j = .cells cs := fun {j cs} hj => by
          rcases hd3 j with y | ⟨_, _, y⟩
          · rw [y, hj]
          · rw [hj] at y; cases y
        have xa : ∀ (j e sz : Nat) (xs : List (List AV)), H j = .arr e sz xs → e ≠ 96 → H3 j = .arr e sz xs := fun j e sz xs hj he => by
          rcases hd3 j with y | ⟨_, _, y⟩
          · rw [y, hj]
          · rw [hj] at y; cases y; exact absurd rfl he
        have y1 := xc x1
        have y2 := xc x2
        have y4 := xc x4
        have y7 := xc x7
        have yf : H3 fid = rfO p f.params.length := xc xf
        have k3 : Keeps h H3 := keeps_changed kk fun j => (hd3 j).symm.imp (fun x => x.1) id
        have op3 : OwnF h .nl H3 51 1 pr (intRows (f.params.map Pm.ty)) := op2.eqs fun j xs hj => by rw [xa j _ _ _ hj (by decide), hj]
        have o3 : OwnF h .nl H3 63 15 r rows := o2.eqs fun j xs hj => by rw [xa j _ _ _ hj (by decide), hj]
        have s3 : SupsAt 51 h H3 pr rows ((p.take i).map (supS p)) := s2.keep fun j xs hj => by rw [xa j _ _ _ hj (by decide), hj]
        clear hs3 hz3 hd3 xc xa op2 on2 o2 s2 x1 x2 x4 x7 xf kk
        refine gcode_ok (by omega) f.body.size f.body hi' (paramN f.params 0) f.params.length H3 _ (Nat.le_refl _) (by rw [paramN_length]; omega) (by omega) (by omega) hfi.body hsc (NmPos.param _ _ (by omega)) yf ?_
        have hsup : supS p f = ⟨f.name, f.params.map Pm.ty, f.ty, (codeS p (paramN f.params 0) f.body f.params.length).2, (codeS p (paramN f.params 0) f.body f.params.length).1⟩ := rfl
        generalize hC : codeS p (paramN f.params 0) f.body f.params.length = C at *
        have w1 := rf_cells (n' := C.2) (o := rfO p C.2) y1 n1f
        have w2 := rf_cells (n' := C.2) (o := rfO p C.2) y2 n2f
        have w4 := rf_cells (n' := C.2) (o := rfO p C.2) y4 n4f
        have w7 := rf_cells (n' := C.2) (o := rfO p C.2) y7 n7f
        have wf := hset_same H3 fid (rfO p C.2)
        have k4 : Keeps h (hset H3 fid (rfO p C.2)) := k3.set zf
        have op4 := op3.setc (x := rfO p C.2) yf
        have o4 := o3.setc (x := rfO p C.2) yf
        have s4 : SupsAt 51 h (hset H3 fid (rfO p C.2)) pr rows ((p.take i).map (supS p)) := s3.keep fun j xs hj => by
          have : ¬ j = fid := by rintro rfl; rw [yf] at hj; cases hj
          simp [this]
        generalize hset H3 fid (rfO p C.2) = H4 at *
        have nf7 : ¬ fid = i7 := fun x => n7f x.symm
        simp -dsimp [t4, t7, w7, w4, sz0, wf, rfO, nf7, hflp, n47]
        intro i87 d87
        have hrow : (AV.str f.name :: pr :: AV.int .i64 f.ty :: AV.int .i64 C.2 :: C.1.cells) = supRow pr (supS p f) := by rw [hsup]; rfl
        simp -dsimp
        simp only [hrow] at d87 ⊢
        have n17' : ¬ i1 = i7 := n17
        have n27' : ¬ i2 = i7 := n27
        have n47' : ¬ i4 = i7 := n47
        have k6 : Keeps h (hset H4 i7 (.cells (supRow pr (supS p f)))) := k4.set z7
        have op6 := op4.setc (x := .cells (supRow pr (supS p f))) w7
        have o6 := o4.setc (x := .cells (supRow pr (supS p f))) w7
        have s6 : SupsAt 51 h (hset H4 i7 (.cells (supRow pr (supS p f)))) pr rows ((p.take i).map (supS p)) := s4.keep fun j xs hj => by
          have : ¬ j = i7 := by rintro rfl; rw [w7] at hj; cases hj
          simp [this]
        have q1 : hset H4 i7 (.cells (supRow pr (supS p f))) i1 = .cells [rowsAV (p.map Df.cells)] := by simp [n17, w1]
        have q2 : hset H4 i7 (.cells (supRow pr (supS p f))) i2 = .cells [.nl] := by simp [n27, w2]
        have q4 : hset H4 i7 (.cells (supRow pr (supS p f))) i4 = .cells [r] := by simp [n47, w4]
        have s7 : SupsAt 51 h (hset H4 i7 (.cells (supRow pr (supS p f)))) .nl (rows ++ [supRow pr (supS p f)]) ((p.take (i + 1)).map (supS p)) := by
          rw [htks, List.map_append]
          refine s6.nl.snoc ?_ (fun j _ => not_nl)
          rw [show (supS p f).params = f.params.map Pm.ty by rw [hsup]]; exact op6
        have hsl := sa.length
        simp only [List.length_map, List.length_take] at hsl
        generalize hset H4 i7 (.cells (supRow pr (supS p f))) = H at *
        have k8 := k6.new (o := .arr 63 15 [supRow pr (supS p f)]) d87
        refine (o6.new (x := .arr 63 15 [supRow pr (supS p f)]) d87).push (fun j hj => .inl (k8.dead hj)) (by simp; omega) (by decide) fun r' h9 o9 ke kb _ => ?_
        have r1 := ke.cells (cells_new q1 d87)
        have r2 := ke.cells (cells_new q2 d87)
        have r4 := ke.cells (cells_new q4 d87)
        have k9 := keeps_changed k8 kb
        have s9 : SupsAt 51 h h9 .nl (rows ++ [supRow pr (supS p f)]) ((p.take (i + 1)).map (supS p)) := s7.keep fun j xs hj => by
          rw [ke.arr (at_new hj (by simp) d87) (by decide), hj]
        have hfl9 := o9.flat
        simp -dsimp [t4, r4, hfl9, t5, hw1]
        refine Again.same (m - 1) (by omega) ⟨i + 1, r', rows ++ [supRow pr (supS p f)], by omega, by simp [t1], by simp [t2], by simp [t4], by simp, by simp [n14, r1], by simp [n24, r2], by simp, o9.setc r4, s9.keep fun j xs hj => ?_, k9.set d4'⟩
        have : ¬ j = i4 := by rintro rfl; rw [r4] at hj; cases hj
        simp [this]
    · have htk : p.take i = p := List.take_of_length_le (by omega)
      rw [htk] at sa
      simp -dsimp [t1, t5, g1, hlt, t2, t4, g4, g2, n24, n42, hfl]
      refine hK hc r rows _ (o.setc g2) (sa.keep fun j xs hj => ?_) (kf.set d2')
      have : ¬ j = i2 := by rintro rfl; rw [g2] at hj; cases hj
      simp [this]
  · simp -dsimp [hc, fltRow, n12, n21, n14, n24, n41, n42]
    exact Gives.sub (f3.set d2').sub (hK3 hc)

theorem gflatten_ok {p : List Df} {h : Hp} {K : AV → Hp → Prop} (hf : FineP p) (hK : K (flatAV p) h) : ACalls Tryz.prog 11 [progAV p] h K := by
  refine gflatten_gen hf (fun hc => by simpa [flatAV, hc] using hK) (fun hc r rows h' o sa kk => ?_)
  have hz := sa.frz o
  refine Gives.frz (v' := flatAV p) (h' := h) kk.sub ?_ hK
  simp only [flatAV, hc, if_true]
  exact Frz.pair (Frz.cell (a := []) (b := []) hz) (.same _)
end Go.Proofs.YtcpkdbofohkipaaGreat
