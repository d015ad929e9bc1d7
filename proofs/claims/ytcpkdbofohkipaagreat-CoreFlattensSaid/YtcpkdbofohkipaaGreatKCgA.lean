/- The document's flattening: names, slots, literals, numbers. -/
import Derived.Test.YtcpkdbofohkipaaGreatKCfF
import Derived.Test.YtcpkdbofohkipaaGreatKcc
set_option linter.unusedVariables false
set_option linter.unusedSimpArgs false
namespace Go.Proofs.YtcpkdbofohkipaaGreat
open Go.AM
section
variable {p : List Df} {fid : Nat} {h h1 : Hp} {names : Nms} {n : Int} {K : AV → Hp → Prop}

@[simp] theorem nmRows_all (l : Nms) : ((nmRows l).all fun x => x.length == 2) = true := by simp [nmRows, nmRow]
@[simp] theorem nmRows_get (l : Nms) (i : Nat) (h : i < (nmRows l).length) : (nmRows l)[i] = nmRow (l[i]'(by simpa using h)) := by simp [nmRows]
theorem gwith_ok {nm : Bytes} {at_ : Int} (hl : names.length ≤ 900000) (hK : K (rowsAV (nmRows (bindN names nm at_))) h) : ACalls Tryz.prog 55 [rowsAV (nmRows names), .str nm, .int .i64 at_] h K := by
  refine calls_of mixed Tryz.func55 comp55 (Nat.le_of_ble_eq_true rfl) ?_
  simp -dsimp [c55]
  refine Own.pushE (h := h) (rows := []) (.inl ⟨rfl, rfl⟩) (Keeps.refl h) (by simp; omega) (by decide) fun v1 h1 ho1 hf1 _ => ?_
  simp -dsimp
  intro i2 d2
  simp -dsimp
  refine Own.pushE (h := h) (ho1.new d2) (hf1.new d2) (by simp; omega) (by decide) fun v2 h2 ho2 hf2 _ => ?_
  simp -dsimp
  refine ho2.out hf2 ?_
  simpa [nmRows, bindN, nmRow] using hK

/-- The slot of a name among the first ones. -/
theorem lastN_take {nm : Bytes} {l : Nms} {i : Nat} (h : i < l.length) : (lastN nm (l.take (i + 1))).getD 0 = if l[i].1 = nm then l[i].2 else (lastN nm (l.take i)).getD 0 := by
  rw [take_snoc l h, lastN_snoc]
  split <;> rfl
theorem gfind_ok {nm : Bytes} (hl : names.length ≤ 900000) (hK : K (.int .i64 ((lastN nm names).getD 0)) h) : ACalls Tryz.prog 52 [rowsAV (nmRows names), .str nm] h K := by
  refine calls_of mixed Tryz.func52 comp52 (Nat.le_of_ble_eq_true rfl) ?_
  simp -dsimp [c52]
  refine ALoop.start (fun m tm h' => ∃ i : Nat, i + m = names.length ∧ tm 0 = rowsAV (nmRows names) ∧ tm 1 = .str nm ∧ tm 5 = .int .i64 ((lastN nm (names.take i)).getD 0) ∧ tm 6 = .int .i64 i ∧ h' = h) names.length ⟨0, by simp, by simp, by simp, by simp [lastN], by simp, rfl⟩ ?_
  rintro m tm h' ⟨i, hi, t0, t1, t5, t6, rfl⟩
  have hw1 : IntKind.i64.wrap ((i : Int) + 1) = ((i + 1 : Nat) : Int) := by rw [wrap_i64] <;> omega
  by_cases hlt : i < names.length
  · have hq := lastN_take (nm := nm) hlt
    generalize hx : names[i] = x at *
    obtain ⟨xn, xk⟩ := x
    by_cases hnm : xn = nm
    · simp only [hnm, if_true] at hq
      simp -dsimp [t0, t1, t5, t6, hlt, hx, nmRow, hnm, hw1]
      exact Again.same (m - 1) (by omega) ⟨i + 1, by omega, by simp [t0], by simp [t1], by simp [hq], by simp, rfl⟩
    · simp only [hnm, if_false] at hq
      simp -dsimp [t0, t1, t5, t6, hlt, hx, nmRow, hnm, hw1]
      exact Again.same (m - 1) (by omega) ⟨i + 1, by omega, by simp [t0], by simp [t1], by simp [hq, t5], by simp, rfl⟩
  · have htk : names.take i = names := List.take_of_length_le (by omega)
    rw [htk] at t5
    simp -dsimp [t0, t1, t5, t6, hlt]
    exact Gives.same hK

def rfO (p : List Df) (n : Int) : AObj := .cells [rowsAV (p.map Df.cells), .int .i64 n]
theorem gfresh_ok (c : h fid = rfO p n) (hn : 0 ≤ n ∧ n ≤ 1000000) (hK : K (.int .i64 n) (hset h fid (rfO p (n + 1)))) : ACalls Tryz.prog 54 [.ptr fid 0] h K := by
  refine calls_of mixed Tryz.func54 comp54 (Nat.le_of_ble_eq_true rfl) ?_
  have hw1 : IntKind.i64.wrap (n + 1) = n + 1 := by rw [wrap_i64] <;> omega
  have hw2 : IntKind.i64.wrap n = n := by rw [wrap_i64] <;> omega
  simp -dsimp [c54, c, rfO, hw1, hw2]
  exact Gives.same hK

theorem glit_ok {e : Ex} (hK : K (.tup [.agg ((litS e).getD vl0).cells, .bool (litS e).isSome]) h) : ACalls Tryz.prog 51 [.agg e.cells] h K := by
  refine calls_of mixed Tryz.func51 comp51 (Nat.le_of_ble_eq_true rfl) ?_
  simp -dsimp [c51]
  intro i1 d1
  simp -dsimp
  intro i2 d2
  simp at d2
  obtain ⟨n21, n12, d2⟩ := d2
  have ks : ∀ o1 o2, Keeps h (hset (hset h i1 o1) i2 o2) := fun o1 o2 => ((Keeps.refl h).set d1).set d2
  have zl : rowsAV (zRows []) = .nl := rfl
  by_cases o1 : e.op = 1
  · simp [litS, o1, Vl.cells, zl] at hK
    simp -dsimp [o1, n12, n21]
    exact Gives.sub (ks _ _).sub hK
  by_cases o2 : e.op = 2
  · simp [litS, o2, Vl.cells, zl] at hK
    simp -dsimp [o2, n12, n21]
    exact Gives.sub (ks _ _).sub hK
  by_cases o3 : e.op = 3
  · simp [litS, o3, Vl.cells, zl] at hK
    simp -dsimp [o3, n12, n21]
    exact Gives.sub (ks _ _).sub hK
  by_cases o4 : e.op = 4
  · simp [litS, o4, Vl.cells, zl] at hK
    simp -dsimp [o4, n12, n21]
    exact Gives.sub (ks _ _).sub hK
  · simp [litS, o1, o2, o3, o4, vl0, Vl.cells, zl] at hK
    simp -dsimp [o1, o2, o3, o4, n12, n21]
    exact Gives.sub (ks _ _).sub hK

theorem gnumber_ok {nm : Bytes} {f : Df} (hl : p.length ≤ 1000000) (hh : headD nm p = some f) (hK : K (.int .i64 (headsS nm p 0)) h) : ACalls Tryz.prog 57 [progAV p, .str nm] h K := by
  refine calls_of mixed Tryz.func57 comp57 (Nat.le_of_ble_eq_true rfl) ?_
  simp -dsimp [c57, progAV]
  intro i2 d2
  simp -dsimp
  refine ALoop.start (fun m tm h' => ∃ i : Nat, i + m = p.length ∧ tm 1 = .str nm ∧ tm 2 = .ptr i2 0 ∧ tm 5 = .int .i64 i ∧ headD nm (p.drop i) = some f ∧ headsS nm (p.drop i) i = headsS nm p 0 ∧ h' = hset h i2 (.cells [rowsAV (p.map Df.cells)])) p.length ⟨0, by simp, by simp, by simp, by simp, by simpa using hh, by simp, rfl⟩ ?_
  rintro m tm h' ⟨i, hi, t1, t2, t5, hq, hs, rfl⟩
  have hw1 : IntKind.i64.wrap ((i : Int) + 1) = ((i + 1 : Nat) : Int) := by rw [wrap_i64] <;> omega
  by_cases hlt : i < p.length
  · rw [List.drop_eq_getElem_cons hlt] at hq hs
    simp only [headD, headsS] at hq hs
    generalize hf : p[i] = g at *
    by_cases he : g.name = nm
    · rw [if_pos he] at hs
      rw [← hs] at hK
      simp -dsimp [t1, t2, t5, hlt, hf, he]
      exact Gives.sub (((Keeps.refl h).set d2).sub) hK
    · rw [if_neg he] at hq hs
      simp -dsimp [t1, t2, t5, hlt, hf, he, hw1]
      exact Again.same (m - 1) (by omega) ⟨i + 1, by omega, by simp [t1], by simp [t2], by simp, hq, hs, rfl⟩
  · have hnil : p.drop i = [] := List.drop_eq_nil_of_le (by omega)
    rw [hnil] at hq
    simp [headD] at hq
end
end Go.Proofs.YtcpkdbofohkipaaGreat

/- The document's flattening: several parts. -/
namespace Go.Proofs.YtcpkdbofohkipaaGreat
open Go.AM
section
variable {p : List Df} {fid : Nat} {h h1 : Hp} {names : Nms} {n : Int} {K : AV → Hp → Prop}

/-- What is promised of the document's 'code' for trees of at most k parts. -/
def RCodes (p : List Df) (fid : Nat) (k : Nat) : Prop :=
  ∀ (e : Ex) (hi : Int) (names : Nms) (n : Int) (h : Hp) (K : AV → Hp → Prop), e.size ≤ k → names.length + 2 * e.size ≤ 200000 → 0 ≤ n → n + 4 * e.size ≤ 400000 → e.fine hi → scOK p (names.map Prod.fst) e → NmPos names → h fid = rfO p n →
    K (.agg (codeS p names e n).1.cells) (hset h fid (rfO p (codeS p names e n).2)) → ACalls Tryz.prog 28 [.ptr fid 0, .agg e.cells, rowsAV (nmRows names)] h K

theorem own_dead {e sz : Nat} {r : AV} {rows : List (List AV)} {cs : List AV} {o : AObj} (ow : OwnF h .nl h1 e sz r rows) (hf : h1 fid = .cells cs) : Frz h1 (hset h fid o) r (rowsAV rows) := by
  rcases ow with ⟨rfl, rfl⟩ | ⟨id, hn, hd, rfl, ha⟩
  · exact .same _
  · have hne : ¬ id = fid := by rintro rfl; rw [ha] at hf; cases hf
    have hd' : h id = .dead := hd.elim (fun x => x) (fun x => absurd x not_nl)
    cases rows with
    | nil => exact absurd rfl hn
    | cons r rows => exact Frz.rows ha (by simp [hne, hd'])
theorem kx_free {S : List Nat} {cs : List AV} (k : KeepsX [fid] h h1) (hf : h1 fid = .cells cs) {j : Nat} (hj : h1 j = .dead) : Free h .nl j := by
  refine .inl (k.dead hj ?_)
  rw [List.mem_singleton]
  rintro rfl
  rw [hf] at hj; cases hj
theorem kx_changed {h2 : Hp} (k : KeepsX [fid] h h1) (hc : ∀ j, Free h .nl j ∨ h2 j = h1 j) : KeepsX [fid] h h2 := fun j hj => by
  rcases k j hj with x | x
  · exact .inl x
  · rcases hc j with (y | y) | y
    · exact .inl y
    · exact absurd y not_nl
    · exact .inr (y.trans x)

theorem gall_ok {k : Nat} (hw : RCodes p fid k) {l : List Ex} {hi : Int} (hn : Ex.sizeL l ≤ k) (hnm : names.length + 2 * Ex.sizeL l ≤ 200000) (hn0 : 0 ≤ n) (hn1 : n + 4 * Ex.sizeL l ≤ 400000) (hf : Ex.fineL hi l) (hc : ∀ a ∈ l, scOK p (names.map Prod.fst) a) (hp : NmPos names) (c : h fid = rfO p n)
    (hK : K (rowsAV ((allS p names l n).1.map Cd.cells)) (hset h fid (rfO p (allS p names l n).2))) : ACalls Tryz.prog 53 [.ptr fid 0, rowsAV (l.map Ex.cells), rowsAV (nmRows names)] h K := by
  refine calls_of mixed Tryz.func53 comp53 (Nat.le_of_ble_eq_true rfl) ?_
  have hll := Ex.sizeL_len l
  simp -dsimp [c53]
  refine ALoop.start (fun m tm h' => ∃ (i : Nat), i + m = l.length ∧ tm 0 = .ptr fid 0 ∧ tm 1 = rowsAV (l.map Ex.cells) ∧ tm 2 = rowsAV (nmRows names) ∧ tm 8 = .int .i64 i ∧
    h' fid = rfO p (allS p names (l.take i) n).2 ∧ KeepsX [fid] h h' ∧ OwnF h .nl h' 61 11 (tm 7) ((allS p names (l.take i) n).1.map Cd.cells)) l.length
    ⟨0, by simp, by simp, by simp, by simp, by simp, by simpa [allS] using c, KeepsX.refl, .inl ⟨by simp [allS], by simp⟩⟩ ?_
  rintro m tm h' ⟨i, hi', t0, t1, t2, t8, c', kf, o⟩
  have hw1 : IntKind.i64.wrap ((i : Int) + 1) = ((i + 1 : Nat) : Int) := by rw [wrap_i64] <;> omega
  by_cases hlt : i < l.length
  · have hmem := List.getElem_mem hlt
    have hfi := Ex.fineL_mem hf hmem
    have hci := hc _ hmem
    have hsn := allS_snoc p names (l.take i) l[i] n
    rw [← take_snoc l hlt] at hsn
    have hnx := allS_next p (l.take i) names n
    have hln := allS_length p names (l.take i) n
    have hst : Ex.sizeL (l.take i) + l[i].size ≤ Ex.sizeL l := by
      have := Ex.sizeL_append (l.take (i + 1)) (l.drop (i + 1))
      rw [List.take_append_drop, take_snoc l hlt, Ex.sizeL_append] at this
      simp only [Ex.sizeL] at this; omega
    have hmin : min i l.length = i := by omega
    simp only [List.length_take, hmin] at hln hnx
    generalize hx : l[i] = x at *
    generalize hA : allS p names (l.take i) n = A at *
    simp -dsimp [t0, t1, t2, t8, hlt, hx]
    refine hw x hi names _ h' _ (by omega) (by omega) (by omega) (by omega) hfi hci hp c' ?_
    generalize hC : codeS p names x A.2 = C at *
    have c2 : hset h' fid (rfO p C.2) fid = rfO p C.2 := by simp
    have k2 : KeepsX [fid] h (hset h' fid (rfO p C.2)) := kf.mem (by simp)
    have o2 := o.setc (x := rfO p C.2) c'
    generalize hset h' fid (rfO p C.2) = H at *
    simp -dsimp
    intro i9 d9
    have c9 : hset H i9 (.cells C.1.cells) fid = rfO p C.2 := at_new c2 (by simp [rfO]) d9
    have k9 := k2.new (o := .cells C.1.cells) d9
    have o9 := o2.new (x := .cells C.1.cells) d9
    simp -dsimp
    intro i25 d25
    have c25 := at_new (o' := .arr 61 11 [C.1.cells]) c9 (by simp [rfO]) d25
    have k25 := k9.new (o := .arr 61 11 [C.1.cells]) d25
    simp -dsimp
    refine (o9.new (x := .arr 61 11 [C.1.cells]) d25).push (fun j hj => kx_free (S := []) k25 c25 hj) (by simp; omega) (by decide) fun r' h3 o3 ke kb _ => ?_
    simp -dsimp [t8, hw1]
    refine Again.same (m - 1) (by omega) ⟨i + 1, by omega, by simp [t0], by simp [t1], by simp [t2], by simp, ?_, kx_changed k25 kb, ?_⟩
    · rw [hsn]; exact ke.cells c25
    · rw [hsn]; simpa using o3
  · have htk : l.take i = l := List.take_of_length_le (by omega)
    rw [htk] at c' o
    simp -dsimp [t0, t1, t2, t8, hlt]
    exact Gives.frz (kf.sub1 c') (own_dead o c') hK
end
end Go.Proofs.YtcpkdbofohkipaaGreat
