/- The program's types: Of. -/
import Derived.Test.YtcpkdbofohkipaaKTyF
set_option linter.unusedVariables false
set_option linter.unusedSimpArgs false
set_option linter.unusedSimpArgs false
set_option linter.unusedVariables false
namespace Go.Proofs.Ytcpkdbofohkipaa
open Go.AM

theorem cnt_fold : ∀ (l : List Int) (n : Int), 0 ≤ n → n + l.length ≤ 1000000000 → l.foldl cnt n = n + l.length
  | [], n, _, _ => by simp
  | x :: l, n, h0, h1 => by
    simp only [List.length_cons] at h1
    rw [List.foldl_cons]
    have : cnt n x = n + 1 := by simp only [cnt]; rw [wrap_i64] <;> omega
    rw [this, cnt_fold l (n + 1) (by omega) (by omega)]
    simp only [List.length_cons]; omega
mutual
theorem progS_length (p : List Df) : ∀ (e : Ex) (env : List Pm) (t : Int), (progS p env t e).length ≤ e.size
  | .mk op name tail ty re im args pos, env, t => by
    have h1 := ownW_length p env (.mk op name tail ty re im args pos) t
    have h2 := progL_length p args env (.mk op name tail ty re im args pos) t 0
    simp only [progS, List.length_append, Ex.size]
    omega
theorem progL_length (p : List Df) : ∀ (l : List Ex) (env : List Pm) (e : Ex) (t : Int) (i : Nat), (progL p env e t i l).length ≤ Ex.sizeL l
  | [], _, _, _, _ => by simp [progL]
  | a :: l, env, e, t, i => by
    have h1 := progS_length p a (withinS env e i) (wantedS p e i t)
    have h2 := progL_length p l env e t (i + 1)
    simp only [progL, List.length_append, Ex.sizeL]
    omega
end
/-- What the program's Of gives. -/
def tofS (p : List Df) (env : List Pm) (e : Ex) : Nat → Nat → Int × Int
  | 0, _ => (0, 34)
  | k + 1, i => if progS p env ((i : Int) + 1) e = [] then ((i : Int) + 1, 0) else tofS p env e k (i + 1)
theorem tof_ok {p : List Df} {env : List Pm} {e : Ex} {top : Int} {h : Hp} {K : AV → Hp → Prop} (hp : p.length ≤ 100000) (hpp : ∀ f ∈ p, ∀ x ∈ f.params, tyOK x.ty) (hnm : env.length + 2 * e.size ≤ 200000) (hf : e.fine top) (hc : callsOK p e)
    (hK : K (.tup [.int .i64 (tofS p env e 3 0).1, .int .i64 (tofS p env e 3 0).2]) h) : ACalls Try.prog 8 [progAV p, pmRows env, .agg e.cells] h K := by
  refine calls_of mixed Try.func8 comp8 (Nat.le_of_ble_eq_true rfl) ?_
  generalize hR : tofS p env e 3 0 = R at *
  simp -dsimp [c8, progAV]
  intro i3 d3
  simp -dsimp
  intro i5 d5
  simp at d5
  obtain ⟨n53, n35, d5⟩ := d5
  simp -dsimp
  intro i12 d12
  simp at d12
  obtain ⟨n125, n512, n123, n312, d12⟩ := d12
  simp -dsimp
  refine ALoop.start (fun n tm h' => ∃ i : Nat, i + n = 3 ∧ tm 1 = pmRows env ∧ tm 3 = .ptr i3 0 ∧ tm 5 = .ptr i5 0 ∧ tm 12 = .sl i12 0 3 ∧ tm 13 = .int .i64 3 ∧ tm 14 = .int .i64 i ∧
    h' i3 = .cells [rowsAV (p.map Df.cells)] ∧ h' i5 = .cells e.cells ∧ h' i12 = .arr 34 1 [[.int .i64 1], [.int .i64 2], [.int .i64 3]] ∧ Keeps h h' ∧ tofS p env e n i = R) 3
    ⟨0, by simp, by simp, by simp, by simp, by simp, by simp, by simp, by simp [n312, n35], by simp [n512], by simp, (((Keeps.refl h).set d3).set d5).set d12, hR⟩ ?_
  rintro n tm h' ⟨i, hi, t1, t3, t5, t12, t13, t14, hi3, hi5, hi12, hk, hq⟩
  have hw1 : IntKind.i64.wrap ((i : Int) + 1) = ((i + 1 : Nat) : Int) := by rw [wrap_i64] <;> omega
  cases n with
  | zero =>
    have : i = 3 := by omega
    subst this
    simp only [tofS] at hq
    rw [← hq] at hK
    simp -dsimp [t13, t14]
    exact Gives.sub hk.sub hK
  | succ n =>
    have hlt : i < 3 := by omega
    simp only [tofS] at hq
    have hty : tyOK ((i : Int) + 1) := by simp only [tyOK]; omega
    have hrow : [[AV.int .i64 1], [AV.int .i64 2], [AV.int .i64 3]][i]'(by simpa using hlt) = [.int .i64 ((i : Int) + 1)] := by
      match i, hlt with
      | 0, _ => rfl
      | 1, _ => rfl
      | 2, _ => rfl
    have hlti : (i : Int) < 3 := by omega
    simp -dsimp [t12, t13, t14, hlt, hlti, hi12, hrow]
    intro i10 d10
    have n310 := cells_ne hi3 d10
    have n510 := cells_ne hi5 d10
    have n1210 : ¬ i12 = i10 := by rintro rfl; rw [hi12] at d10; cases d10
    simp -dsimp [t3, hi3, n310]
    refine topen_ok (p := p) (by omega) ⟨rfl, rfl⟩ ?_
    intro cid mid heads ncm d6 d7 hpl
    simp at d6 d7
    obtain ⟨nc10, n10c, d6⟩ := d6
    obtain ⟨nm10, n10m, d7⟩ := d7
    have nmc : ¬ mid = cid := fun x => ncm x.symm
    have n3m := cells_ne hi3 d7
    have n5m := cells_ne hi5 d7
    have n3c := cells_ne hi3 d6
    have n5c := cells_ne hi5 d6
    have n12m : ¬ i12 = mid := by rintro rfl; rw [hi12] at d7; cases d7
    have n12c : ¬ i12 = cid := by rintro rfl; rw [hi12] at d6; cases d6
    simp -dsimp [t1, pmRows]
    refine EnvAt.app0 (ys := env) rfl (by omega) (by decide) ?_
    intro v1 h1 ce1 kq
    have q : ∀ {j : Nat} {o : AObj}, hset (hset (hset h' i10 (.cells [.int .i64 0])) mid (.map (mapAV heads))) cid (.cells [.mp mid, rowsAV (p.map Df.cells), .nl, .fn 17 [.ptr i10 0]]) j = o → o ≠ .dead → h1 j = o ∧ ¬ isId v1 j := fun {j o} hj ho => by
      rcases kq j (by simp) (by simp) with x | ⟨x, y⟩
      · exact absurd (hj.symm.trans x) ho
      · exact ⟨x.trans hj, y⟩
    have qc := q (j := cid) (o := .cells [.mp mid, rowsAV (p.map Df.cells), .nl, .fn 17 [.ptr i10 0]]) (by simp) (by simp)
    have qm := q (j := mid) (o := .map (mapAV heads)) (by simp [nmc]) (by simp)
    have qf := q (j := i10) (o := .cells [.int .i64 0]) (by simp [n10c, n10m]) (by simp)
    have q3 := q (j := i3) (o := .cells [rowsAV (p.map Df.cells)]) (by simp [n310, n3m, n3c, hi3]) (by simp)
    have q5 := q (j := i5) (o := .cells e.cells) (by simp [n510, n5m, n5c, hi5]) (by simp)
    have q12 := q (j := i12) (o := .arr 34 1 [[.int .i64 1], [.int .i64 2], [.int .i64 3]]) (by simp [n1210, n12m, n12c, hi12]) (by simp)
    have hfl := ce1.flat
    simp -dsimp [qc.1, hfl, t5, q5.1, n5c]
    have hkb : Keeps h' (hset (hset (hset h' i10 (.cells [.int .i64 0])) mid (.map (mapAV heads))) cid (.cells [.mp mid, rowsAV (p.map Df.cells), .nl, .fn 17 [.ptr i10 0]])) := (((Keeps.refl h').set d10).set d7).set d6
    have hk1 : Fr7 [cid, i10] h' .nl (hset h1 cid (.cells [.mp mid, rowsAV (p.map Df.cells), v1, .fn 17 [.ptr i10 0]])) v1 := by
      refine Fr7.mem (fun j hj _ => ?_) (by simp)
      rcases hkb j with x | x
      · exact .inl x
      · rcases kq j (by simp) (by simp) with y | ⟨y, z⟩
        · exact .inl (by rw [← x]; exact y)
        · exact .inr ⟨y.trans x, z⟩
    refine wants_ok (mid := mid) (heads := heads) (by omega) hpl hpp wr_of _ e top env ((i : Int) + 1) 0 (hset h1 cid (.cells [.mp mid, rowsAV (p.map Df.cells), v1, .fn 17 [.ptr i10 0]])) v1 _ (Nat.le_refl _) hnm hf hc hty ⟨by simp, by simp [nmc, qm.1], by simp [n10c, qf.1, cntRow], ce1.set qc.2, nc10⟩ ?_
    intro v2 h2 ck2 k2
    have hkk := hk1.trans k2
    have r : ∀ {j : Nat} {o : AObj}, h' j = o → o ≠ .dead → ¬ j = cid → ¬ j = i10 → h2 j = o := fun {j o} hj ho n1 n2 => by
      rcases hkk j (by simp [n1, n2]) (by simp) with x | ⟨x, _⟩
      · exact absurd (hj.symm.trans x) ho
      · exact x.trans hj
    have r3 := r hi3 (by simp) n3c n310
    have r5 := r hi5 (by simp) n5c n510
    have r12 := r hi12 (by simp) n12c n1210
    have hKk : Keeps h h2 := fun j => by
      rcases hk j with x | x
      · exact .inl x
      · by_cases e1 : j = cid
        · exact .inl (by rw [← x, e1]; exact d6)
        by_cases e2 : j = i10
        · exact .inl (by rw [← x, e2]; exact d10)
        rcases hkk j (by simp [e1, e2]) (by simp) with y | ⟨y, _⟩
        · exact .inl (by rw [← x]; exact y)
        · exact .inr (y.trans x)
    have hcnt := cnt_fold (progS p env ((i : Int) + 1) e) 0 (by omega) (by have := progS_length p e env ((i : Int) + 1); omega)
    have hcf := ck2.cf
    rw [hcnt, Int.zero_add] at hcf
    simp only [cntRow] at hcf
    by_cases hz : progS p env ((i : Int) + 1) e = []
    · rw [if_pos hz] at hq
      rw [← hq] at hK
      rw [hz] at hcf
      simp -dsimp [hcf]
      exact Gives.sub hKk.sub hK
    · rw [if_neg hz] at hq
      have hz' : ¬ ((progS p env ((i : Int) + 1) e).length : Int) = 0 := by
        have hz2 : ¬ (progS p env ((i : Int) + 1) e).length = 0 := fun x => hz (List.length_eq_zero_iff.1 x)
        omega
      simp -dsimp [hcf, hz, hz', t14, hw1]
      exact Again.same n (by omega) ⟨i + 1, by omega, by simp [t1, pmRows], by simp [t3], by simp [t5], by simp [t12], by simp [t13], by simp, r3, r5, r12, hKk, hq⟩
end Go.Proofs.Ytcpkdbofohkipaa
