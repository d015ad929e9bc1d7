/- The program's flattening: Flatten. -/
import Derived.Test.YtcpkdbofohkipaaGreatKcc
import Derived.Test.YtcpkdbofohkipaaGreatKCfE
set_option linter.unusedVariables false
set_option linter.unusedSimpArgs false
namespace Go.Proofs.YtcpkdbofohkipaaGreat
open Go.AM

theorem ctcheck_eq {p : List Df} (h : FineP p) : tcheck p = check07 p := by
  simp only [tcheck, check07, scheck_eq h]
  split
  · rfl
  · exact tell7_perm (progP_perm p p) _
theorem ctcheck_ok {p : List Df} {h : Hp} {K : AV → Hp → Prop} (hf : FineP p) (hK : K (.agg (fltRow (check07 p))) h) : ACalls Tryz.prog 25 [progAV p] h K :=
  tcheck_ok hf.size (fun f hm => fineP_mem hf.fine hm) (fun hc => check06_calls (by rw [← scheck_eq hf]; exact hc)) (by rw [ctcheck_eq hf]; exact hK)

theorem not_nl {j : Nat} : ¬ isId .nl j := by rintro ⟨_, _, x⟩; cases x
theorem fr7_nl {cid : Nat} {h h' : Hp} {v v' : AV} (k : Fr7 [cid] h v h' v') : Fr7 [cid] h v h' .nl := fun j hj hv => (k j hj hv).imp id (fun x => ⟨x.1, not_nl⟩)
def sz0 : List AV := [.int .i64 0, .int .i64 0, .int .i64 0, .int .i64 0, .int .i64 0, .int .i64 0, .cplx 0 0, .bool false, .nl, .nl, .nl]
theorem flatten_gen {p : List Df} {h : Hp} {K : AV → Hp → Prop} (hf : FineP p) (hK3 : (check07 p).1 ≠ 0 → K (.tup [.agg [.nl], .int .i64 3]) h)
    (hK : (check07 p).1 = 0 → ∀ r rows h', OwnF h .nl h' 63 15 r rows → SupsAt 51 h h' .nl rows (flatS p) → Keeps h h' → Gives K (some (.tup [.agg [r], .int .i64 0])) h') :
    ACalls Tryz.prog 10 [progAV p] h K := by
  refine calls_of mixed Tryz.func10 comp10 (Nat.le_of_ble_eq_true rfl) ?_
  have hlp := sizeP_len p
  have hsz := hf.size
  simp -dsimp [c10, progAV]
  intro i1 d1
  simp -dsimp
  intro i2 d2
  have n12 := hset_ne d2
  have n21 : ¬ i2 = i1 := fun x => n12 x.symm
  have f1 : Keeps h _ := (Keeps.refl h).new (o := .cells [rowsAV (p.map Df.cells)]) d1
  have f2 := f1.new (o := .cells [.nl]) d2
  simp -dsimp [n12]
  refine ctcheck_ok hf ?_
  by_cases hc : (check07 p).1 = 0
  · have hd := check06_nil (check07_06 hc)
    simp -dsimp [hc, fltRow]
    intro mid dm
    have n1m := cells_ne (h := hset (hset h i1 (.cells [rowsAV (p.map Df.cells)])) i2 (.cells [.nl])) (i := i1) (cs := [rowsAV (p.map Df.cells)]) (by simp [n12]) dm
    have n2m := cells_ne (h := hset (hset h i1 (.cells [rowsAV (p.map Df.cells)])) i2 (.cells [.nl])) (i := i2) (cs := [.nl]) (by simp) dm
    have f3 := f2.new (o := .map []) dm
    simp -dsimp
    intro cid dc
    generalize hH : hset (hset (hset h i1 (.cells [rowsAV (p.map Df.cells)])) i2 (.cells [.nl])) mid (.map []) = H at *
    have g1 : H i1 = .cells [rowsAV (p.map Df.cells)] := by rw [← hH]; simp [n1m, n12]
    have g2 : H i2 = .cells [.nl] := by rw [← hH]; simp [n2m]
    have gm : H mid = .map (mapAV []) := by rw [← hH]; simp [mapAV]
    have n1c := cells_ne g1 dc
    have n2c := cells_ne g2 dc
    have nmc := map_ne gm dc
    have f4 := f3.new (o := .cells [.mp mid, .nl, .int .i64 0]) dc
    simp -dsimp [n1c, g1]
    refine ALoop.start (fun m tm h' => ∃ (i : Nat) (fm : Mp), i + m = p.length ∧ tm 1 = .ptr i1 0 ∧ tm 2 = .ptr i2 0 ∧ tm 3 = .int .i64 0 ∧ tm 4 = .ptr cid 0 ∧ tm 22 = rowsAV (p.map Df.cells) ∧ tm 23 = .int .i64 p.length ∧ tm 24 = .int .i64 i ∧
      h' i1 = .cells [rowsAV (p.map Df.cells)] ∧ h' i2 = .cells [.nl] ∧ Fl cid mid fm h' .nl [] 0 ∧ FmT (p.take i) fm ∧ Keeps h h') p.length
      ⟨0, [], by simp, by simp, by simp, by simp, by simp, by simp, by simp, by simp, by simp [n1c, g1], by simp [n2c, g2], ⟨by simp, by simp [nmc, gm], .inl ⟨rfl, rfl⟩⟩, by simpa using FmT.nil, f4⟩ ?_
    have zm : h mid = .dead := f2.dead dm
    have z2 : h i2 = .dead := f1.dead d2
    have zc : h cid = .dead := f3.dead dc
    clear f4 f3 f2 f1 gm g1 g2 hH dc dm d1 d2 n1m n2m nmc
    rintro m tm h' ⟨i, fm, hi, t1, t2, t3, t4, t22, t23, t24, g1, g2, c, hfm, kf⟩
    have hw1 : IntKind.i64.wrap ((i : Int) + 1) = ((i + 1 : Nat) : Int) := by rw [wrap_i64] <;> omega
    by_cases hlt : i < p.length
    · have hput := hfm.put (f := p[i]) (List.getElem?_eq_getElem hlt) hd
      generalize hx : p[i] = f at *
      simp -dsimp [t22, t23, t24, hlt, hx]
      intro i6 d6
      have c6 := fun o => c.new (o := o) d6
      have n6m := map_ne c.cm d6
      have n6c := cells_ne c.cc d6
      simp -dsimp [t4, n6c, c.cc, n6m, c.cm, Stable, AIns.wants, QStep, hw1, t24]
      have n16 := cells_ne g1 d6
      have n26 := cells_ne g2 d6
      have nm1 : ¬ i1 = mid := by rintro rfl; have := c.cm; rw [g1] at this; cases this
      have nm2 : ¬ i2 = mid := by rintro rfl; have := c.cm; rw [g2] at this; cases this
      have nmc : ¬ cid = mid := fun x => c.nmc x.symm
      refine Again.same (m - 1) (by omega) ⟨i + 1, putM f.name (i : Int) fm, by omega, by simp [t1], by simp [t2], by simp [t3], by simp [t4], by simp [t22], by simp [t23], by simp, by simp [nm1, n16, g1], by simp [nm2, n26, g2], ⟨by simp [nmc, n6c, c.cc], by simp, .inl ⟨rfl, rfl⟩⟩, hput, ?_⟩
      exact (kf.new d6).set zm
    · have htk : p.take i = p := List.take_of_length_le (by omega)
      rw [htk] at hfm
      have hfm' : FmOK p fm := fun nm f hh => hfm nm (by
        rcases headsD nm p 0 with ⟨_, x⟩ | ⟨k, hk, x, _⟩
        · rw [x] at hh; cases hh
        · rw [x]; omega)
      simp -dsimp [t22, t23, t24, hlt, t1, g1]
      intro i7 d7
      have n17 := cells_ne g1 d7
      have n27 := cells_ne g2 d7
      simp -dsimp [t1, n17, g1]
      have m1c : ¬ i1 = cid := n1c
      have m2c : ¬ i2 = cid := n2c
      have m7c : ¬ i7 = cid := fun x => cells_ne c.cc d7 x.symm
      have z7' : Free h .nl i7 := .inl (kf.dead d7)
      refine ALoop.start (fun m tm h' => ∃ (i : Nat) (v' : AV) (nms : Nms) (n : Int) (r : AV) (rows : List (List AV)), i + m = p.length ∧ tm 2 = .ptr i2 0 ∧ tm 3 = .int .i64 0 ∧ tm 4 = .ptr cid 0 ∧ tm 7 = .ptr i7 0 ∧ tm 38 = rowsAV (p.map Df.cells) ∧ tm 39 = .int .i64 p.length ∧ tm 40 = .int .i64 i ∧
        h' i2 = .cells [.nl] ∧ h' i7 = .cells [r] ∧ Fl cid mid fm h' v' nms n ∧ OwnF h .nl h' 63 15 r rows ∧ SupsAt 51 h h' .nl rows ((p.take i).map (supS p)) ∧ Fr7 [cid] h .nl h' v') p.length
        ⟨0, .nl, [], 0, .nl, [], by simp, by simp [t2], by simp [t3], by simp [t4], by simp, by simp, by simp, by simp, by simp [n27, g2], by simp, c.new d7, .inl ⟨rfl, rfl⟩, by simp [SupsAt], fun j _ _ => (kf.new d7 j).imp id (fun x => ⟨x, not_nl⟩)⟩ ?_
      clear t22 t23 t24 t1 t2 t3 t4 c kf d7 g1 g2 hlt htk hw1 hi hfm
      clear i
      rintro m tm h' ⟨i, v', nms, n, r, rows, hi, t2, t3, t4, t7, t38, t39, t40, g2, g7, c, o, sa, kf⟩
      have hw1 : IntKind.i64.wrap ((i : Int) + 1) = ((i + 1 : Nat) : Int) := by rw [wrap_i64] <;> omega
      have hfl := o.flat
      by_cases hlt : i < p.length
      · have hmem := List.getElem_mem hlt
        have hsc := check06_sc hd _ hmem
        obtain ⟨hi', hfi⟩ := fineP_mem hf.fine hmem
        have hsf := sizeP_mem hmem
        have htks := take_snoc p hlt
        generalize hx : p[i] = f at *
        have hse : f.size = 1 + f.params.length + f.body.size := rfl
        simp -dsimp [t38, t39, t40, hlt, hx]
        intro i9 d9
        have n29 := cells_ne g2 d9
        have n79 := cells_ne g7 d9
        have m9c : ¬ i9 = cid := fun x => cells_ne c.cc d9 x.symm
        simp -dsimp
        intro i10 d10
        have n910 := hset_ne d10
        have n210 := cells_ne (cells_new (o' := .cells f.cells) g2 d9) d10
        have n710 := cells_ne (cells_new (o' := .cells f.cells) g7 d9) d10
        have c10 := fun o' => (c.new (o := .cells f.cells) d9).new (o := o') d10
        have m10c : ¬ i10 = cid := fun x => cells_ne (c.new (o := .cells f.cells) d9).cc d10 x.symm
        have n109 : ¬ i10 = i9 := fun x => n910 x.symm
        have z9' : Free h .nl i9 := kf.deadc c.nodead d9
        have z10' : Free h .nl i10 := (kf.new (o := .cells f.cells) d9).deadc (c.new (o := .cells f.cells) d9).nodead d10
        have u9 : ∀ o', hset (hset h' i9 (.cells f.cells)) i10 o' i9 = .cells f.cells := fun o' => by simp [n910]
        have u7 : ∀ o', hset (hset h' i9 (.cells f.cells)) i10 o' i7 = .cells [r] := fun o' => by simp [n79, n710, g7]
        have u2 : ∀ o', hset (hset h' i9 (.cells f.cells)) i10 o' i2 = .cells [.nl] := fun o' => by simp [n29, n210, g2]
        have k10 := fun o' => (kf.new (o := .cells f.cells) d9).new (o := o') d10
        have o10 := fun o' => (o.new (x := .cells f.cells) d9).new (x := o') d10
        have s10 : ∀ o', SupsAt 51 h (hset (hset h' i9 (.cells f.cells)) i10 o') .nl rows ((p.take i).map (supS p)) := fun o' => sa.keep fun j xs hj => by rw [at_new (at_new hj (by simp) d9) (by simp) d10, hj]
        have nc9 : ¬ cid = i9 := fun x => m9c x.symm
        have nc10 : ¬ cid = i10 := fun x => m10c x.symm
        simp -dsimp [n910, n109, t4, nc9, nc10, m9c, m10c, c.cc]
        have nmc := c.nmc
        have nm9 := map_ne c.cm d9
        have nm10 := map_ne ((c.new (o := .cells f.cells) d9).cm) d10
        have c0 : ∀ o', Fl cid mid fm (hset (hset (hset h' i9 (.cells f.cells)) i10 o') cid (.cells [.mp mid, .nl, .int .i64 0])) .nl [] 0 := fun o' => ⟨by simp, by simp [nmc, nm9, nm10, c.cm], .inl ⟨rfl, rfl⟩⟩
        have k0 : ∀ o' x, Fr7 [cid] h .nl (hset (hset (hset h' i9 (.cells f.cells)) i10 o') cid (.cells x)) .nl := fun o' x => fr7_nl ((k10 o').mem (by simp))
        have o0 : ∀ o' x, OwnF h .nl (hset (hset (hset h' i9 (.cells f.cells)) i10 o') cid (.cells x)) 63 15 r rows := fun o' x => (o10 o').setc (c10 o').cc
        have s0 : ∀ o' x, SupsAt 51 h (hset (hset (hset h' i9 (.cells f.cells)) i10 o') cid (.cells x)) .nl rows ((p.take i).map (supS p)) := fun o' x => (s10 o').keep fun j xs hj => by
          have : ¬ j = cid := by rintro rfl; rw [(c10 o').cc] at hj; cases hj
          simp [this]
        have y9 : ∀ o' x, hset (hset (hset h' i9 (.cells f.cells)) i10 o') cid (.cells x) i9 = .cells f.cells := fun o' x => by simp [m9c, n910]
        have y7 : ∀ o' x, hset (hset (hset h' i9 (.cells f.cells)) i10 o') cid (.cells x) i7 = .cells [r] := fun o' x => by simp [m7c, n79, n710, g7]
        have y2 : ∀ o' x, hset (hset (hset h' i9 (.cells f.cells)) i10 o') cid (.cells x) i2 = .cells [.nl] := fun o' x => by simp [m2c, n29, n210, g2]
        have z10 : ∀ o' x, hset (hset (hset h' i9 (.cells f.cells)) i10 o') cid (.cells x) i10 = o' := fun o' x => by simp [m10c]
        generalize hHH : hset (hset (hset h' i9 (.cells f.cells)) i10 (.cells [.str f.name, .nl, .int .i64 f.ty, .int .i64 0, .int .i64 0, .int .i64 0, .int .i64 0, .int .i64 0, .int .i64 0, .int .i64 0, .cplx 0 0, .bool false, .nl, .nl, .nl])) cid (.cells [.mp mid, .nl, .int .i64 0]) = HH
        refine ALoop.start (fun m' tm h' => ∃ (k : Nat) (v2 pr : AV), k + m' = f.params.length ∧ tm 2 = .ptr i2 0 ∧ tm 3 = .int .i64 0 ∧ tm 4 = .ptr cid 0 ∧ tm 7 = .ptr i7 0 ∧ tm 9 = .ptr i9 0 ∧ tm 10 = .ptr i10 0 ∧ tm 38 = rowsAV (p.map Df.cells) ∧ tm 39 = .int .i64 p.length ∧ tm 40 = .int .i64 i ∧
          tm 56 = rowsAV (f.params.map Pm.cells) ∧ tm 57 = .int .i64 f.params.length ∧ tm 58 = .int .i64 k ∧
          h' i2 = .cells [.nl] ∧ h' i7 = .cells [r] ∧ h' i9 = .cells f.cells ∧ h' i10 = .cells ([.str f.name, pr, .int .i64 f.ty, .int .i64 0] ++ sz0) ∧ Fl cid mid fm h' v2 (paramN (f.params.take k) 0) k ∧ OwnF h .nl h' 51 1 pr (intRows ((f.params.take k).map Pm.ty)) ∧
          OwnF h .nl h' 63 15 r rows ∧ SupsAt 51 h h' pr rows ((p.take i).map (supS p)) ∧ Fr7 [cid] h .nl h' v2) f.params.length
          ⟨0, .nl, .nl, by simp, by simp [t2], by simp [t3], by simp [t4], by simp [t7], by simp, by simp, by simp [t38], by simp [t39], by simp [t40], by simp, by simp, by simp, by rw [← hHH]; exact y2 _ _, by rw [← hHH]; exact y7 _ _, by rw [← hHH]; exact y9 _ _, by rw [← hHH]; exact z10 _ _, by rw [← hHH]; exact c0 _, .inl ⟨by simp [intRows], rfl⟩, by rw [← hHH]; exact o0 _ _, by rw [← hHH]; exact s0 _ _, by rw [← hHH]; exact k0 _ _⟩ ?_
        clear y9 y7 y2 z10 s0 o0 k0 c0 hHH nm10 nm9 nmc s10 o10 k10 u9 u7 u2 c10 d10 n210 n710 d9 n29 n79 t2 t3 t4 t7 t38 t39 t40 g2 g7 c o sa kf
        clear HH
        rintro m' tm h' ⟨k, v2, pr, hk, t2, t3, t4, t7, t9, t10, t38, t39, t40, t56, t57, t58, g2, g7, g9, g10, c, op, o, sa, kf⟩
        have hw2 : IntKind.i64.wrap ((k : Int) + 1) = ((k + 1 : Nat) : Int) := by rw [wrap_i64] <;> omega
        have hflp := op.flat
        by_cases hlk : k < f.params.length
        · have hps := take_snoc f.params hlk
          generalize hpx : f.params[k] = x at *
          simp -dsimp [t56, t57, t58, hlk, hpx]
          intro i12 d12
          have q2 := cells_ne g2 d12
          have q7 := cells_ne g7 d12
          have q9 := cells_ne g9 d12
          have q10 := cells_ne g10 d12
          have m12c : ¬ i12 = cid := fun x => cells_ne c.cc d12 x.symm
          simp -dsimp [t10, q10, g10]
          intro i66 d66
          have c12 := fun o' => c.new (o := o') d12
          have k12 := fun o' => kf.new (o := o') d12
          have e2 := cells_new (o' := .arr 51 1 [[.int .i64 x.ty]]) (cells_new (o' := .cells x.cells) g2 d12) d66
          have e7 := cells_new (o' := .arr 51 1 [[.int .i64 x.ty]]) (cells_new (o' := .cells x.cells) g7 d12) d66
          have e9 := cells_new (o' := .arr 51 1 [[.int .i64 x.ty]]) (cells_new (o' := .cells x.cells) g9 d12) d66
          have e10 := cells_new (o' := .arr 51 1 [[.int .i64 x.ty]]) (cells_new (o' := .cells x.cells) g10 d12) d66
          have e12 : hset (hset h' i12 (.cells x.cells)) i66 (.arr 51 1 [[.int .i64 x.ty]]) i12 = .cells x.cells := cells_new (hset_same _ _ _) d66
          have c66 := (c.new (o := .cells x.cells) d12).new (o := .arr 51 1 [[.int .i64 x.ty]]) d66
          have k66 := (kf.new (o := .cells x.cells) d12).new (o := .arr 51 1 [[.int .i64 x.ty]]) d66
          have op66 := (op.new (x := .cells x.cells) d12).new (x := .arr 51 1 [[.int .i64 x.ty]]) d66
          have o66 := (o.new (x := .cells x.cells) d12).new (x := .arr 51 1 [[.int .i64 x.ty]]) d66
          have s66 : SupsAt 51 h (hset (hset h' i12 (.cells x.cells)) i66 (.arr 51 1 [[.int .i64 x.ty]])) pr rows ((p.take i).map (supS p)) := sa.keep fun j xs hj => by rw [at_new (at_new hj (by simp) d12) (by simp) d66, hj]
          simp -dsimp
          generalize hset (hset h' i12 (.cells x.cells)) i66 (.arr 51 1 [[.int .i64 x.ty]]) = H at *
          refine op66.push2 (fun j hj => k66.deadc c66.nodead hj) (by simp; omega) (by decide) fun pr' h3 op3 ke kb kr kw => ?_
          have c3 := c66.keepE ke (by decide)
          have k3 := k66.changed kb
          have f2 := ke.cells e2
          have f7 := ke.cells e7
          have f9 := ke.cells e9
          have f10 := ke.cells e10
          have f12 := ke.cells e12
          have o3 : OwnF h .nl h3 63 15 r rows := o66.eqs fun j xs hj => by rw [ke.arr hj (by decide), hj]
          have s3 : SupsAt 51 h h3 pr' rows ((p.take i).map (supS p)) := s66.mono (fun j xs hj hn => by
            rcases kr j with y | y | y
            · rw [hj] at y; cases y
            · exact absurd y hn
            · exact y) kw
          have hflp3 := op3.flat
          simp -dsimp [t4, t10, f10, hflp3]
          have n1210 : ¬ i12 = i10 := fun x => q10 x.symm
          have lk : (f.params.take k).length = k := by simp; omega
          have n710 : ¬ i7 = i10 := by
            rintro rfl
            rw [g7] at g10
            cases g10
          have n210 : ¬ i2 = i10 := by
            rintro rfl
            rw [g2] at g10
            cases g10
          simp -dsimp [n1210, f12]
          have c4 := fun o' => c3.setc (o := o') f10 m10c
          have k4 : ∀ o', Fr7 [cid] h .nl (hset h3 i10 o') v2 := fun o' => fr7_at k3 z10'
          refine fbind_ok (nm := x.name) (c4 _) (by omega) (by rw [paramN_length]; omega) ?_
          intro v5 h5 c5 k5
          have l2 := fl_at k5 (c4 _) (j := i2) (cs := [.nl]) (by simp [n210, f2]) m2c
          have l7 := fl_at k5 (c4 _) (j := i7) (cs := [r]) (by simp [n710, f7]) m7c
          have l9 := fl_at k5 (c4 _) (j := i9) (cs := f.cells) (by simp [n910, f9]) m9c
          have l10 := fl_at k5 (c4 _) (hset_same h3 i10 _) m10c
          have op5 := ownF_fl (op3.setc (x := .cells ([.str f.name, pr', .int .i64 f.ty, .int .i64 0] ++ sz0)) f10) (c4 _) k5 (by decide)
          have o5 := ownF_fl (o3.setc (x := .cells ([.str f.name, pr', .int .i64 f.ty, .int .i64 0] ++ sz0)) f10) (c4 _) k5 (by decide)
          have s5 : SupsAt 51 h h5 pr' rows ((p.take i).map (supS p)) := (s3.keep (h2 := hset h3 i10 (.cells ([.str f.name, pr', .int .i64 f.ty, .int .i64 0] ++ sz0))) fun j xs hj => by
            have : ¬ j = i10 := by rintro rfl; rw [f10] at hj; cases hj
            simp [this]).keep fun j xs hj => by
              rw [hj]
              exact k5.at hj (by simp) (by rw [List.mem_singleton]; rintro rfl; rw [(c4 _).cc] at hj; cases hj) ((c4 _).cl.nota hj (by decide))
          have k55 := (k4 _).trans k5
          have hbn : bindN (paramN (f.params.take k) 0) x.name k = paramN (f.params.take (k + 1)) 0 := by
            rw [hps, paramN_snoc, lk, Int.zero_add]; rfl
          rw [hbn] at c5
          simp -dsimp [t58, hw2]
          refine Again.same (m' - 1) (by omega) ⟨k + 1, v5, pr', by omega, by simp [t2], by simp [t3], by simp [t4], by simp [t7], by simp [t9], by simp [t10], by simp [t38], by simp [t39], by simp [t40], by simp [t56], by simp [t57], by simp, l2, l7, l9, l10, ?_, ?_, o5, s5, k55⟩
          · have : ((k + 1 : Nat) : Int) = (k : Int) + 1 := by omega
            rw [this]; exact c5
          · rw [hps]
            simpa [intRows] using op5
        · have htk2 : f.params.take k = f.params := List.take_of_length_le (by omega)
          have hkl : k = f.params.length := by omega
          rw [htk2] at c op
          subst hkl
          have n210 : ¬ i2 = i10 := by
            rintro rfl
            rw [g2] at g10
            cases g10
          have n710 : ¬ i7 = i10 := by
            rintro rfl
            rw [g7] at g10
            cases g10
          have hcode := codeS_next p f.body (paramN f.params 0) f.params.length
          simp -dsimp [t4, t9, t57, t58, hlk, g9]
          refine code_ok hfm' f.body.size f.body hi' (paramN f.params 0) f.params.length h' v2 _ (Nat.le_refl _) (by rw [paramN_length]; omega) (by omega) (by omega) hfi.body hsc c ?_
          intro v5 h5 c5 k5
          have l2 := fl_at k5 c g2 m2c
          have l7 := fl_at k5 c g7 m7c
          have l10 := fl_at k5 c g10 m10c
          have op5 := ownF_fl op c k5 (by decide)
          have o5 := ownF_fl o c k5 (by decide)
          have s5 : SupsAt 51 h h5 pr rows ((p.take i).map (supS p)) := sa.keep fun j xs hj => by
              rw [hj]
              exact k5.at hj (by simp) (by rw [List.mem_singleton]; rintro rfl; rw [c.cc] at hj; cases hj) (c.cl.nota hj (by decide))
          have k55 := kf.trans k5
          have hsup : supS p f = ⟨f.name, f.params.map Pm.ty, f.ty, (codeS p (paramN f.params 0) f.body f.params.length).2, (codeS p (paramN f.params 0) f.body f.params.length).1⟩ := rfl
          generalize hC : codeS p (paramN f.params 0) f.body f.params.length = C at *
          have nc10 : ¬ cid = i10 := fun x => m10c x.symm
          have nc7 : ¬ i7 = cid := m7c
          simp -dsimp [t4, t7, t10, l10, l7, sz0, c5.cc, nc10, hflp, n710]
          intro i87 d87
          have hrow : (AV.str f.name :: pr :: AV.int .i64 f.ty :: AV.int .i64 C.2 :: C.1.cells) = supRow pr (supS p f) := by rw [hsup]; rfl
          simp -dsimp
          simp only [hrow] at d87 ⊢
          have c6 := c5.setc (o := .cells (supRow pr (supS p f))) l10 m10c
          have k6 : Fr7 [cid] h .nl (hset h5 i10 (.cells (supRow pr (supS p f)))) v5 := fr7_at k55 z10'
          have op6 := op5.setc (x := .cells (supRow pr (supS p f))) l10
          have o6 := o5.setc (x := .cells (supRow pr (supS p f))) l10
          have s6 : SupsAt 51 h (hset h5 i10 (.cells (supRow pr (supS p f)))) pr rows ((p.take i).map (supS p)) := s5.keep fun j xs hj => by
            have : ¬ j = i10 := by rintro rfl; rw [l10] at hj; cases hj
            simp [this]
          have q2 : hset h5 i10 (.cells (supRow pr (supS p f))) i2 = .cells [.nl] := by simp [n210, l2]
          have q7 : hset h5 i10 (.cells (supRow pr (supS p f))) i7 = .cells [r] := by simp [n710, l7]
          have s7 : SupsAt 51 h (hset h5 i10 (.cells (supRow pr (supS p f)))) .nl (rows ++ [supRow pr (supS p f)]) ((p.take (i + 1)).map (supS p)) := by
            rw [htks, List.map_append]
            refine s6.nl.snoc ?_ (fun j _ => not_nl)
            rw [show (supS p f).params = f.params.map Pm.ty by rw [hsup]]; exact op6
          have hsl := sa.length
          simp only [List.length_map, List.length_take] at hsl
          generalize hset h5 i10 (.cells (supRow pr (supS p f))) = H at *
          have c8 := c6.new (o := .arr 63 15 [supRow pr (supS p f)]) d87
          have k8 := k6.new (o := .arr 63 15 [supRow pr (supS p f)]) d87
          refine (o6.new (x := .arr 63 15 [supRow pr (supS p f)]) d87).push (fun j hj => k8.deadc c8.nodead hj) (by simp; omega) (by decide) fun r' h9 o9 ke kb _ => ?_
          have r2 := ke.cells (cells_new q2 d87)
          have r7 := ke.cells (cells_new q7 d87)
          have c9 := c8.keepE ke (by decide)
          have k9 := k8.changed kb
          have s9 : SupsAt 51 h h9 .nl (rows ++ [supRow pr (supS p f)]) ((p.take (i + 1)).map (supS p)) := s7.keep fun j xs hj => by
            rw [ke.arr (at_new hj (by simp) d87) (by decide), hj]
          have hfl9 := o9.flat
          simp -dsimp [t7, r7, hfl9, t40, hw1]
          have n27' : ¬ i2 = i7 := n27
          refine Again.same (m - 1) (by omega) ⟨i + 1, v5, paramN f.params 0, C.2, r', rows ++ [supRow pr (supS p f)], by omega, by simp [t2], by simp [t3], by simp [t4], by simp [t7], by simp [t38], by simp [t39], by simp, by simp [n27, r2], by simp, c9.setc r7 m7c, o9.setc r7, s9.keep fun j xs hj => ?_, fr7_at k9 z7'⟩
          have : ¬ j = i7 := by rintro rfl; rw [r7] at hj; cases hj
          simp [this]
      · have htk : p.take i = p := List.take_of_length_le (by omega)
        rw [htk] at sa
        simp -dsimp [t38, t39, t40, hlt, t2, t3, t7, g7, g2, n27, hfl]
        have kk : Keeps h h' := fun j => by
          by_cases e : j = cid
          · exact .inl (e ▸ zc)
          · exact (kf j (by simp [e]) not_nl).imp id (fun x => x.1)
        refine hK hc r rows _ (o.setc g2) (sa.keep fun j xs hj => ?_) (kk.set z2)
        have : ¬ j = i2 := by rintro rfl; rw [g2] at hj; cases hj
        simp [this]
  · simp -dsimp [hc, fltRow, n12, n21]
    exact Gives.sub f2.sub (hK3 hc)

/-- What Flatten answers. -/
def flatAV (p : List Df) : AV := if (check07 p).1 = 0 then .tup [.agg [rowsAV ((flatS p).map Sup.cells)], .int .i64 0] else .tup [.agg [.nl], .int .i64 3]
theorem flatten_ok {p : List Df} {h : Hp} {K : AV → Hp → Prop} (hf : FineP p) (hK : K (flatAV p) h) : ACalls Tryz.prog 10 [progAV p] h K := by
  refine flatten_gen hf (fun hc => by simpa [flatAV, hc] using hK) (fun hc r rows h' o sa kk => ?_)
  have hz := sa.frz o
  refine Gives.frz (v' := flatAV p) (h' := h) kk.sub ?_ hK
  simp only [flatAV, hc, if_true]
  exact Frz.pair (Frz.cell (a := []) (b := []) hz) (.same _)
end Go.Proofs.YtcpkdbofohkipaaGreat
