/- The program's types: a checker is made; what is told; Check. -/
import Derived.Test.YtcpkdbofohkipaaGreatKTyE
set_option linter.unusedVariables false
set_option linter.unusedSimpArgs false
namespace Go.Proofs.YtcpkdbofohkipaaGreat
open Go.AM

theorem topen_ok {p : List Df} {h : Hp} {K : AV → Hp → Prop} {w : AV} (hp : p.length ≤ 1000000) (hw : w.flat = true ∧ w.cells = [w])
    (hK : ∀ (cid mid : Nat) (heads : Mp), ¬ cid = mid → h cid = .dead → h mid = .dead → PlOK heads p → K (.ptr cid 0) (hset (hset h mid (.map (mapAV heads))) cid (.cells [.mp mid, rowsAV (p.map Df.cells), .nl, w]))) : ACalls Tryz.prog 43 [progAV p, w] h K := by
  refine calls_of mixed Tryz.func43 comp43 (Nat.le_of_ble_eq_true rfl) ?_
  simp -dsimp [c43, progAV]
  intro i2 d2
  simp -dsimp
  intro mid d3
  simp at d3
  obtain ⟨nm2, n2m, d3⟩ := d3
  simp -dsimp [n2m, hw]
  intro cid d4
  simp at d4
  obtain ⟨ncm, nmc, nc2, n2c, d4⟩ := d4
  have hw0 : IntKind.i64.wrap ((p.length : Int) - 1) = (p.length : Int) - 1 := by rw [wrap_i64] <;> omega
  simp -dsimp [n2m, n2c, hw0]
  have hks : ∀ o1 o2 o3, Keeps h (hset (hset (hset h i2 o1) mid o2) cid o3) := fun o1 o2 o3 => (((Keeps.refl h).set d2).set d3).set d4
  refine ALoop.start (fun n tm h' => ∃ heads : Mp, n ≤ p.length ∧ tm 2 = .ptr i2 0 ∧ tm 5 = .ptr cid 0 ∧ tm 6 = .int .i64 ((n : Int) - 1) ∧ (∀ nm, getM heads nm = headsS nm (p.drop n) n + 1) ∧
    h' = hset (hset (hset h i2 (.cells [rowsAV (p.map Df.cells)])) mid (.map (mapAV heads))) cid (.cells [.mp mid, rowsAV (p.map Df.cells), .nl, w])) p.length ⟨[], by simp, by simp, by simp, by simp, by simp [headsS, getM], by simp [mapAV]⟩ ?_
  rintro n tm h' ⟨heads, hn, t2, t5, t6, hq, rfl⟩
  cases n with
  | zero =>
    simp -dsimp [t5, t6]
    have hg : PlOK heads p := fun nm => by simpa using hq nm
    refine Gives.sub ?_ (hK cid mid heads ncm d4 d3 hg)
    intro j
    by_cases e1 : j = cid
    · exact .inl (by simp [e1])
    by_cases e2 : j = mid
    · exact .inl (by simp [e1, e2])
    by_cases e3 : j = i2
    · exact .inr (by simp [e1, e2, e3, d2, n2m, n2c])
    · exact .inl (by simp [e1, e2, e3])
  | succ n =>
    have hlt : n < p.length := by omega
    have e1 : ((n + 1 : Nat) : Int) - 1 = n := by omega
    rw [e1] at t6
    have hw1 : IntKind.i64.wrap ((n : Int) - 1) = (n : Int) - 1 := by rw [wrap_i64] <;> omega
    have hw2 : IntKind.i64.wrap ((n : Int) + 1) = (n : Int) + 1 := by rw [wrap_i64] <;> omega
    have hd := List.drop_eq_getElem_cons hlt
    have hq' : ∀ nm, headsS nm (p.drop n) n = if p[n].name = nm then (n : Int) else headsS nm (p.drop (n + 1)) (n + 1) := fun nm => by rw [hd]; rfl
    generalize hx : p[n] = f at *
    simp -dsimp [t2, t5, t6, hlt, hx, n2m, n2c, ncm, nmc, hw1, hw2]
    refine Again.same n (by omega) ⟨putM f.name ((n : Int) + 1) heads, by omega, by simp [t2], by simp [t5], by simp, fun nm => ?_, ?_⟩
    · rw [getM_putM, hq' nm, hq nm]
      by_cases e : nm = f.name
      · subst e; simp
      · have : ¬ f.name = nm := fun x => e x.symm
        rw [if_neg e, if_neg this]
    · rw [hset_comm ncm, hset_hset]

theorem wr_check : WrOK 44 fltRow tell7 := by
  intro fid f at_ h K hf hK
  refine calls_of mixed Tryz.func44 comp44 (Nat.le_of_ble_eq_true rfl) ?_
  simp only [tell7] at hK
  by_cases h0 : f.1 = 0
  · simp -dsimp [c44, hf, fltRow, h0]
    exact Gives.same (by simpa [h0, fltRow] using hK)
  · by_cases h1 : at_ < f.2
    · simp -dsimp [c44, hf, fltRow, h0, h1]
      exact Gives.same (by simpa [h1, fltRow] using hK)
    · have hc : ¬ (f.1 = 0 ∨ at_ < f.2) := by simp [h0, h1]
      rw [if_neg hc, hset_self hf] at hK
      simp -dsimp [c44, hf, fltRow, h0, h1]
      exact Gives.same hK
/-- What the program's Check gives. -/
def tcheck (p : List Df) : Flt := if (scheck p).1 ≠ 0 then scheck p else (progP p p).foldl tell7 (scheck p)
theorem tcheck_ok {p : List Df} {h : Hp} {K : AV → Hp → Prop} (hp : sizeP p ≤ 40000) (hf : ∀ f ∈ p, ∃ hi, f.fine hi) (hc : (scheck p).1 = 0 → ∀ f ∈ p, callsOK p f.body) (hK : K (.agg (fltRow (tcheck p))) h) : ACalls Tryz.prog 25 [progAV p] h K := by
  refine calls_of mixed Tryz.func25 comp25 (Nat.le_of_ble_eq_true rfl) ?_
  have hlen := sizeP_len p
  have hq : tcheck p = if (scheck p).1 ≠ 0 then scheck p else (progP p p).foldl tell7 (scheck p) := rfl
  have hpp : ∀ f ∈ p, ∀ x ∈ f.params, tyOK x.ty := fun f hm x hx => by
    obtain ⟨hi, hfi⟩ := hf f hm
    exact (hfi.params x hx).ty
  simp -dsimp [c25, progAV]
  intro i1 d1
  simp -dsimp
  intro i2 d2
  simp at d2
  obtain ⟨n21, n12, d2⟩ := d2
  simp -dsimp [n12]
  refine scheck_ok (p := p) hp ?_
  generalize scheck p = c0 at *
  simp -dsimp
  intro fid d3
  simp at d3
  obtain ⟨nf2, n2f, nf1, n1f, d3⟩ := d3
  have k3 : ∀ o1 o2 o3, Keeps h (hset (hset (hset h i1 o1) i2 o2) fid o3) := fun o1 o2 o3 => (((Keeps.refl h).set d1).set d2).set d3
  simp -dsimp [fltRow]
  by_cases hc0 : c0.1 = 0
  · simp only [ne_eq, hc0, not_true_eq_false, if_false] at hq
    have hc := hc hc0
    rw [hq] at hK
    simp -dsimp [hc0, fltRow, n12, n1f, n2f, nf2]
    refine topen_ok (p := p) (by omega) ⟨rfl, rfl⟩ ?_
    intro cid mid heads ncm d4 d5 hpl
    simp at d4 d5
    obtain ⟨⟨ncf, nfc⟩, ⟨nc2, n2c⟩, ⟨nc1, n1c⟩, d4⟩ : (¬ cid = fid ∧ ¬ fid = cid) ∧ (¬ cid = i2 ∧ ¬ i2 = cid) ∧ (¬ cid = i1 ∧ ¬ i1 = cid) ∧ h cid = .dead := ⟨⟨d4.1, d4.2.1⟩, ⟨d4.2.2.1, d4.2.2.2.1⟩, ⟨d4.2.2.2.2.1, d4.2.2.2.2.2.1⟩, d4.2.2.2.2.2.2⟩
    obtain ⟨⟨nmf, nfm⟩, ⟨nm2, n2m⟩, ⟨nm1, n1m⟩, d5⟩ : (¬ mid = fid ∧ ¬ fid = mid) ∧ (¬ mid = i2 ∧ ¬ i2 = mid) ∧ (¬ mid = i1 ∧ ¬ i1 = mid) ∧ h mid = .dead := ⟨⟨d5.1, d5.2.1⟩, ⟨d5.2.2.1, d5.2.2.2.1⟩, ⟨d5.2.2.2.2.1, d5.2.2.2.2.2.1⟩, d5.2.2.2.2.2.2⟩
    have nmc : ¬ mid = cid := fun x => ncm x.symm
    simp -dsimp [n1c, n1m, n1f, n12]
    refine ALoop.start (fun n tm h' => ∃ (i : Nat) (v : AV) (env : List Pm), i + n = p.length ∧ tm 2 = .ptr i2 0 ∧ tm 3 = .ptr fid 0 ∧ tm 4 = .ptr cid 0 ∧ tm 17 = rowsAV (p.map Df.cells) ∧ tm 18 = .int .i64 p.length ∧ tm 19 = .int .i64 i ∧
      h' i2 = .cells [.int .i64 0, .int .i64 0] ∧ ¬ isId v i2 ∧ Ck p heads cid mid fid 44 fltRow h' v env ((progP p (p.take i)).foldl tell7 c0) ∧ Fr7 [cid, fid] h .nl h' v) p.length
      ⟨0, .nl, [], by simp, by simp, by simp, by simp, by simp, by simp, by simp, by simp [n2c, n2m, n2f], by simp, ⟨by simp, by simp [nmc], by simp [nfc, nfm, progP, fltRow, hc0], .inl ⟨rfl, rfl⟩, ncf⟩, fun j hj _ => (((k3 _ _ _).set d5).set d4 j).imp id (fun x => ⟨x, isId_nl j⟩)⟩ ?_
    rintro n tm h' ⟨i, v, env, hi, t2, t3, t4, t17, t18, t19, hi2, hv2, ck, hk⟩
    have hw1 : IntKind.i64.wrap ((i : Int) + 1) = ((i + 1 : Nat) : Int) := by rw [wrap_i64] <;> omega
    by_cases hlt : i < p.length
    · have hmem := List.getElem_mem hlt
      have hsf : p[i].size ≤ sizeP p := sizeP_mem hmem
      have hsz : p[i].size = 1 + p[i].params.length + p[i].body.size := rfl
      have hsn := progP_snoc p (p.take i) p[i]
      rw [← take_snoc p hlt] at hsn
      obtain ⟨hif, hfi⟩ := hf _ hmem
      have hcf := hc _ hmem
      generalize hx : p[i] = f at *
      simp -dsimp [t17, t18, t19, hlt, hx]
      intro i6 d6
      have ck6 := ck.new (o := .cells f.cells) d6
      have hk6 := hk.new (o := .cells f.cells) d6
      have n26 := cells_ne hi2 d6
      have nc6 := cells_ne ck.cc d6
      have n6c : ¬ i6 = cid := fun x => nc6 x.symm
      simp -dsimp [t4]
      refine EnvAt.app0 (ys := f.params) rfl (by omega) (by decide) ?_
      intro v1 h1 ce1 kq
      have q : ∀ {j : Nat} {o : AObj}, hset h' i6 (.cells f.cells) j = o → o ≠ .dead → h1 j = o ∧ ¬ isId v1 j := fun {j o} hj ho => by
        rcases kq j (by simp) (by simp) with x | ⟨x, y⟩
        · exact absurd (hj.symm.trans x) ho
        · exact ⟨x.trans hj, y⟩
      have qc := q ck6.cc (by simp)
      have qm := q ck6.cm (by simp)
      have qf := q ck6.cf (by simp)
      have q2 := q (j := i2) (o := .cells [.int .i64 0, .int .i64 0]) (by simp [n26, hi2]) (by simp)
      have q6 := q (j := i6) (o := .cells f.cells) (by simp) (by simp)
      have hfl := ce1.flat
      have n2c' : ¬ i2 = cid := n2c
      simp -dsimp [t4, qc.1, hfl, q6.1, n6c]
      have hk1 : Fr7 [cid, fid] h .nl (hset h1 cid (.cells [.mp mid, rowsAV (p.map Df.cells), v1, .fn 44 [.ptr fid 0]])) v1 := by
        refine Fr7.mem (fun j hj _ => ?_) (by simp)
        rcases hk6 j hj (by simp) with x | ⟨x, _⟩
        · exact .inl x
        · rcases kq j (by simp) (by simp) with y | ⟨y, z⟩
          · exact .inl (by rw [← x]; exact y)
          · exact .inr ⟨y.trans x, z⟩
      refine wants_ok (mid := mid) (heads := heads) (by omega) hpl hpp wr_check _ f.body hif f.params f.ty ((progP p (p.take i)).foldl tell7 c0) (hset h1 cid (.cells [.mp mid, rowsAV (p.map Df.cells), v1, .fn 44 [.ptr fid 0]])) v1 _ (Nat.le_refl _) (by omega) hfi.body hcf hfi.ty ⟨by simp, by simp [nmc, qm.1], by simp [nfc, qf.1], ce1.set qc.2, ncf⟩ ?_
      intro v2 h2 ck2 k2
      have q22 : h2 i2 = .cells [.int .i64 0, .int .i64 0] ∧ ¬ isId v2 i2 := by
        rcases k2 i2 (by simp [n2c, n2f]) q2.2 with x | ⟨x, y⟩
        · simp [n2c, q2.1] at x
        · exact ⟨by rw [x]; simp [n2c, q2.1], y⟩
      simp -dsimp [t19, hw1]
      exact Again.same (n - 1) (by omega) ⟨i + 1, v2, f.params, by omega, by simp [t2], by simp [t3], by simp [t4], by simp [t17], by simp [t18], by simp, q22.1, q22.2, by rw [hsn, List.foldl_append]; exact ck2, hk1.trans k2⟩
    · have htk : p.take i = p := List.take_of_length_le (by omega)
      rw [htk] at ck
      simp -dsimp [t2, t3, t18, t19, hlt, ck.cf, hi2, fltRow]
      refine Gives.sub (Keeps.sub (Keeps.set (fun j => ?_) d2)) hK
      by_cases e1 : j = cid
      · exact .inl (e1 ▸ d4)
      by_cases e2 : j = fid
      · exact .inl (e2 ▸ d3)
      exact (hk j (by simp [e1, e2]) (by simp)).imp id (fun x => x.1)
  · simp only [ne_eq, hc0, not_false_eq_true, if_true] at hq
    rw [hq] at hK
    simp -dsimp [hc0, fltRow, n2f, nf2]
    exact Gives.sub (((((Keeps.refl h).set d1).set d2).set d3).set d2).sub hK
end Go.Proofs.YtcpkdbofohkipaaGreat
