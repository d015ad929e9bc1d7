/- The program's flattening: slots, names, atoms. -/
import Derived.Test.YtcpkdbofohkipaaGreatK10
import Derived.Test.YtcpkdbofohkipaaGreatK26
set_option linter.unusedVariables false
set_option linter.unusedSimpArgs false
namespace Go.Proofs.YtcpkdbofohkipaaGreat
open Go.AM

def nmRow (x : Bytes × Int) : List AV := [.str x.1, .int .i64 x.2]
def nmRows (l : Nms) : List (List AV) := l.map nmRow
@[simp] theorem nmRows_length (l : Nms) : (nmRows l).length = l.length := by simp [nmRows]
/-- The flattener. -/
structure Fl (cid mid : Nat) (fm : Mp) (h : Hp) (v : AV) (names : Nms) (n : Int) : Prop where
  cc : h cid = .cells [.mp mid, v, .int .i64 n]
  cm : h mid = .map (mapAV fm)
  cl : LsAt 135 2 h v (nmRows names)
section
variable {cid mid : Nat} {fm : Mp} {h h1 : Hp} {v v1 : AV} {names : Nms} {n : Int} {K : AV → Hp → Prop}
theorem Fl.new (c : Fl cid mid fm h v names n) {j : Nat} {o : AObj} (hj : h j = .dead) : Fl cid mid fm (hset h j o) v names n :=
  ⟨cells_new c.cc hj, at_new c.cm (by simp) hj, c.cl.set (c.cl.notd hj)⟩
/-- What follows a piece of work. -/
def NxF (cid mid : Nat) (fm : Mp) (h : Hp) (v : AV) (names : Nms) (n : Int) (Q : Hp → Prop) : Prop := ∀ (v' : AV) (h' : Hp), Fl cid mid fm h' v' names n → Fr7 [cid] h v h' v' → Q h'
theorem Fl.notc (c : Fl cid mid fm h v names n) : ¬ isId v cid := c.cl.notc c.cc
theorem Fl.nmc (c : Fl cid mid fm h v names n) : ¬ mid = cid := by rintro rfl; have := c.cm; rw [c.cc] at this; cases this

theorem ftake_ok (c : Fl cid mid fm h v names n) (hn : 0 ≤ n ∧ n ≤ 1000000) (hK : NxF cid mid fm h v names (n + 1) (K (.int .i64 n))) : ACalls Tryz.prog 46 [.ptr cid 0] h K := by
  refine calls_of mixed Tryz.func46 comp46 (Nat.le_of_ble_eq_true rfl) ?_
  have hw1 : IntKind.i64.wrap (n + 1) = n + 1 := by rw [wrap_i64] <;> omega
  have hw2 : IntKind.i64.wrap n = n := by rw [wrap_i64] <;> omega
  simp -dsimp [c46, c.cc, hw1, hw2]
  exact Gives.same (hK v _ ⟨by simp, by simp [c.nmc, c.cm], c.cl.set c.notc⟩ (Fr7.refl.mem (by simp)))

theorem fbind_ok {nm : Bytes} (c : Fl cid mid fm h v names n) (hn : 0 ≤ n ∧ n ≤ 1000000) (hl : names.length ≤ 900000) (hK : NxF cid mid fm h v (bindN names nm n) (n + 1) (K (.int .i64 n))) : ACalls Tryz.prog 26 [.ptr cid 0, .str nm] h K := by
  refine calls_of mixed Tryz.func26 comp26 (Nat.le_of_ble_eq_true rfl) ?_
  simp -dsimp [c26]
  refine ftake_ok c hn ?_
  intro v1 h1 c1 k1
  simp -dsimp [c1.cc]
  intro i2 d2
  have n2c := cells_ne c1.cc d2
  have n2c' : ¬ i2 = cid := fun x => n2c x.symm
  simp -dsimp [n2c, c1.cc]
  refine (c1.new d2).cl.app (by simp; omega) (by decide) ?_
  intro v3 h3 l3 k3
  have c3 : h3 cid = .cells [.mp mid, v1, .int .i64 (n + 1)] := (Fr7.refl.new d2 |>.trans k3 : Fr7 [] h1 v1 h3 v3).at c1.cc (by simp) (by simp) c1.notc
  have m3 : h3 mid = .map (mapAV fm) := (Fr7.refl.new d2 |>.trans k3 : Fr7 [] h1 v1 h3 v3).at c1.cm (by simp) (by simp) (c1.cl.notm c1.cm)
  have hfl := l3.flat
  simp -dsimp [c3, hfl]
  refine Gives.same (hK v3 _ ⟨by simp, by simp [c1.nmc, m3], ?_⟩ ((k1.trans ((Fr7.refl.new d2).trans k3.weak)).mem (by simp)))
  have : LsAt 135 2 h3 v3 (nmRows (bindN names nm n)) := by simpa [nmRows, bindN, nmRow] using l3
  exact this.set (l3.notc c3)

theorem ffind_ok {nm : Bytes} (c : Fl cid mid fm h v names n) (hl : names.length ≤ 900000) (hm : nm ∈ names.map Prod.fst) (hK : K (.int .i64 ((lastN nm names).getD 0)) h) : ACalls Tryz.prog 90 [.ptr cid 0, .str nm] h K := by
  refine calls_of mixed Tryz.func90 comp90 (Nat.le_of_ble_eq_true rfl) ?_
  have hw0 : IntKind.i64.wrap ((names.length : Int) - 1) = (names.length : Int) - 1 := by rw [wrap_i64] <;> omega
  have hlen := c.cl.len
  obtain ⟨k0, hk0, _⟩ := lastN_mem hm
  rw [hk0] at hK
  simp -dsimp [c90, c.cc, hlen, hw0]
  refine ALoop.start (fun m tm h' => m ≤ names.length ∧ tm 0 = .ptr cid 0 ∧ tm 1 = .str nm ∧ tm 5 = .int .i64 ((m : Int) - 1) ∧ lastN nm (names.take m) = some k0 ∧ h' = h) names.length ⟨by simp, by simp, by simp, by simp, by simpa using hk0, rfl⟩ ?_
  rintro m tm h' ⟨hm, t0, t1, t5, hq, rfl⟩
  cases m with
  | zero => simp [lastN] at hq
  | succ m =>
    have hlt : m < names.length := by omega
    rw [take_snoc names hlt, lastN_snoc] at hq
    have e1 : ((m + 1 : Nat) : Int) - 1 = m := by omega
    have hw1 : IntKind.i64.wrap ((m : Int) - 1) = (m : Int) - 1 := by rw [wrap_i64] <;> omega
    rw [e1] at t5
    have hcc := c.cc
    rcases c.cl with ⟨_, x⟩ | ⟨id, xs, rfl, ha⟩
    · have : names = [] := by simpa [nmRows] using x
      rw [this] at hlt; simp at hlt
    have hrow : (nmRows names ++ xs)[m]? = some (nmRow names[m]) := by rw [List.getElem?_append_left (by simpa using hlt)]; simp [nmRows, hlt]
    generalize hx : names[m] = x at *
    obtain ⟨xn, xk⟩ := x
    have hlt2 : m < names.length + xs.length := by omega
    by_cases hnm2 : xn = nm
    · simp only [hnm2, if_true] at hq
      cases hq
      simp -dsimp [t0, t1, t5, hcc, ha, hlt, hrow, nmRow, hnm2]
      exact Gives.same hK
    · simp only [hnm2, if_false] at hq
      simp -dsimp [t0, t1, t5, hcc, ha, hlt, hrow, nmRow, hnm2, hw1]
      exact Again.same m (by omega) ⟨by omega, by simp [t0], by simp [t1], by simp, hq, rfl⟩

theorem atom_ok {e : Ex} (c : Fl cid mid fm h v names n) (hl : names.length ≤ 900000) (hv : varOK (names.map Prod.fst) e) (hK : K (.tup [.agg ((atomS names e).getD ⟨0, vl0⟩).cells, .bool (atomS names e).isSome]) h) : ACalls Tryz.prog 47 [.ptr cid 0, .agg e.cells] h K := by
  refine calls_of mixed Tryz.func47 comp47 (Nat.le_of_ble_eq_true rfl) ?_
  rw [atomS_eq] at hK
  simp -dsimp [c47]
  intro i3 d3
  simp -dsimp
  intro i4 d4
  simp at d4
  obtain ⟨n43, n34, d4⟩ := d4
  simp -dsimp [n34, n43]
  intro i6 d6
  simp at d6
  obtain ⟨n64, n46, n63, n36, d6⟩ := d6
  have ks : ∀ o3 o4 o6, Keeps h (hset (hset (hset h i3 o3) i4 o4) i6 o6) := fun o3 o4 o6 => (((Keeps.refl h).set d3).set d4).set d6
  have kt : ∀ o3 o4 o6 o4', Keeps h (hset (hset (hset (hset h i3 o3) i4 o4) i6 o6) i4 o4') := fun o3 o4 o6 o4' => (ks o3 o4 o6).set d4
  have zl : rowsAV (zRows []) = .nl := rfl
  by_cases o1 : e.op = 1
  · simp only [o1, if_true, show ¬ ((1 : Int) = 6) by omega, if_false] at hK
    simp -dsimp [o1, n34, n43, n46, n64, n36, n63]
    exact Gives.sub (kt _ _ _ _).sub (by simpa [Atm.cells, Vl.cells, zl] using hK)
  by_cases o2 : e.op = 2
  · simp [o2] at hK
    simp -dsimp [o2, n34, n43, n46, n64, n36, n63]
    exact Gives.sub (kt _ _ _ _).sub (by simpa [Atm.cells, Vl.cells, zl] using hK)
  by_cases o3 : e.op = 3
  · simp [o3] at hK
    simp -dsimp [o3, n34, n43, n46, n64, n36, n63]
    exact Gives.sub (kt _ _ _ _).sub (by simpa [Atm.cells, Vl.cells, zl] using hK)
  by_cases o4 : e.op = 4
  · simp [o4] at hK
    simp -dsimp [o4, n34, n43, n46, n64, n36, n63]
    exact Gives.sub (kt _ _ _ _).sub (by simpa [Atm.cells, Vl.cells, zl] using hK)
  by_cases o6 : e.op = 6
  · simp [o6] at hK
    simp -dsimp [o6, n34, n43, n46, n64, n36, n63]
    refine ffind_ok (((c.new d3).new (by simp [n43, d4])).new (by simp [n64, n63, d6])) hl (hv o6) ?_
    simp -dsimp [n34, n43, n46, n64, n36, n63]
    exact Gives.sub (kt _ _ _ _).sub (by simpa [Atm.cells, Vl.cells, vl0, zl] using hK)
  · simp [o1, o2, o3, o4, o6] at hK
    simp -dsimp [o1, o2, o3, o4, o6, n34, n43, n46, n64, n36, n63]
    exact Gives.sub (kt _ _ _ _).sub (by simpa [Atm.cells, Vl.cells, vl0, zl] using hK)
end
end Go.Proofs.YtcpkdbofohkipaaGreat

/- The program's flattening: several parts, lets, a call's atoms. -/
namespace Go.Proofs.YtcpkdbofohkipaaGreat
open Go.AM
section
variable {p : List Df} {cid mid : Nat} {fm : Mp} {h h1 : Hp} {v v1 : AV} {names : Nms} {n : Int} {K : AV → Hp → Prop}

/-- What is promised of 'code' for trees of at most k parts. -/
def Codes (p : List Df) (cid mid : Nat) (fm : Mp) (k : Nat) : Prop :=
  ∀ (e : Ex) (hi : Int) (names : Nms) (n : Int) (h : Hp) (v : AV) (K : AV → Hp → Prop), e.size ≤ k → names.length + 2 * e.size ≤ 200000 → 0 ≤ n → n + 4 * e.size ≤ 400000 → e.fine hi → scOK p (names.map Prod.fst) e → Fl cid mid fm h v names n →
    NxF cid mid fm h v names (codeS p names e n).2 (K (.agg (codeS p names e n).1.cells)) → ACalls Tryz.prog 27 [.ptr cid 0, .agg e.cells] h K

theorem Fl.nodead (c : Fl cid mid fm h v names n) : ∀ i ∈ [cid], h i ≠ .dead := by
  intro i hi
  rw [List.mem_singleton] at hi
  rw [hi, c.cc]; simp
theorem ownF_fl {h0 h2 : Hp} {v0 v2 : AV} {e sz : Nat} {r : AV} {rows : List (List AV)} (o : OwnF h0 v0 h1 e sz r rows) (c : Fl cid mid fm h1 v1 names n) (k : Fr7 [cid] h1 v1 h2 v2) (he : e ≠ 135) : OwnF h0 v0 h2 e sz r rows :=
  o.fr k (fun i hi xs => by rw [List.mem_singleton] at hi; rw [hi, c.cc]; simp) (fun j xs hj => c.cl.nota hj he)
theorem Fl.keepE {h2 : Hp} {e : Nat} (c : Fl cid mid fm h v names n) (k : KeepsE e h h2) (he : 135 ≠ e) : Fl cid mid fm h2 v names n := by
  refine ⟨k.cells c.cc, k.map c.cm, ?_⟩
  rcases c.cl with x | ⟨id, xs, x, y⟩
  · exact .inl x
  · exact .inr ⟨id, xs, x, k.arr y he⟩

theorem fall_ok {k : Nat} (hw : Codes p cid mid fm k) {l : List Ex} {hi : Int} (hn : Ex.sizeL l ≤ k) (hnm : names.length + 2 * Ex.sizeL l ≤ 200000) (hn0 : 0 ≤ n) (hn1 : n + 4 * Ex.sizeL l ≤ 400000) (hf : Ex.fineL hi l) (hc : ∀ a ∈ l, scOK p (names.map Prod.fst) a) (c : Fl cid mid fm h v names n)
    (hK : ∀ v' h' r, Fl cid mid fm h' v' names (allS p names l n).2 → Fr7 [cid] h v h' v' → OwnF h v h' 61 11 r ((allS p names l n).1.map Cd.cells) → K r h') : ACalls Tryz.prog 49 [.ptr cid 0, rowsAV (l.map Ex.cells)] h K := by
  refine calls_of mixed Tryz.func49 comp49 (Nat.le_of_ble_eq_true rfl) ?_
  have hll := Ex.sizeL_len l
  simp -dsimp [c49]
  refine ALoop.start (fun m tm h' => ∃ (i : Nat) (v' : AV), i + m = l.length ∧ tm 0 = .ptr cid 0 ∧ tm 8 = rowsAV (l.map Ex.cells) ∧ tm 9 = .int .i64 l.length ∧ tm 10 = .int .i64 i ∧
    Fl cid mid fm h' v' names (allS p names (l.take i) n).2 ∧ Fr7 [cid] h v h' v' ∧ OwnF h v h' 61 11 (tm 5) ((allS p names (l.take i) n).1.map Cd.cells)) l.length
    ⟨0, v, by simp, by simp, by simp, by simp, by simp, by simpa [allS] using c, Fr7.refl, .inl ⟨by simp [allS], by simp⟩⟩ ?_
  rintro m tm h' ⟨i, v', hi', t0, t8, t9, t10, c', kf, o⟩
  have hw1 : IntKind.i64.wrap ((i : Int) + 1) = ((i + 1 : Nat) : Int) := by rw [wrap_i64] <;> omega
  by_cases hlt : i < l.length
  · have hmem := List.getElem_mem hlt
    have hfi := Ex.fineL_mem hf hmem
    have hci := hc _ hmem
    have hsn := allS_snoc p names (l.take i) l[i] n
    rw [← take_snoc l hlt] at hsn
    have hnx := allS_next p (l.take i) names n
    have hln := allS_length p names (l.take i) n
    have hst : Ex.sizeL (l.take i) + l[i].size ≤ Ex.sizeL l := by
      have := Ex.sizeL_append (l.take (i + 1)) (l.drop (i + 1))
      rw [List.take_append_drop, take_snoc l hlt, Ex.sizeL_append] at this
      simp only [Ex.sizeL] at this; omega
    have hmin : min i l.length = i := by omega
    simp only [List.length_take, hmin] at hln hnx
    generalize hx : l[i] = x at *
    simp -dsimp [t8, t9, t10, hlt, hx]
    intro i7 d7
    simp -dsimp [t0]
    refine hw x hi names _ _ v' _ (by omega) (by omega) (by omega) (by omega) hfi hci (c'.new d7) ?_
    intro v2 h2 c2 k2
    simp -dsimp
    intro i8 d8
    have o2 := ownF_fl (o.new d7 (x := .cells x.cells)) (c'.new d7) k2 (by decide)
    have kf2 : Fr7 [cid] h v h2 v2 := (kf.trans (Fr7.refl.new d7)).trans k2
    simp -dsimp
    refine (o2.new d8).push (fun j hj => ?_) (by simp; omega) (by decide) fun r' h3 o3 ke kb _ => ?_
    · exact (kf2.new d8).deadc (c2.new d8).nodead hj
    simp -dsimp [t10, hw1]
    refine Again.same (m - 1) (by omega) ⟨i + 1, v2, by omega, by simp [t0], by simp [t8], by simp [t9], by simp, ?_, (kf2.new d8).changed kb, ?_⟩
    · rw [hsn]; exact (c2.new d8).keepE ke (by decide)
    · rw [hsn]; simpa using o3
  · have htk : l.take i = l := List.take_of_length_le (by omega)
    rw [htk] at c' o
    simp -dsimp [t9, t10, hlt]
    exact Gives.same (hK v' h' _ c' kf o)

theorem within_cut {ys : Nms} (c : Fl cid mid fm h v (names ++ ys) n) : ∃ v', (∀ hh : Hp, (∀ j o l, v = .sl j o l → hh j = h j) → aCut 2 v (some none) (some (some names.length)) hh = some v') ∧ LsAt 135 2 h v' (nmRows names) ∧ ∀ j, isId v' j ↔ isId v j := by
  have := c.cl
  rw [show nmRows (names ++ ys) = nmRows names ++ nmRows ys by simp [nmRows]] at this
  obtain ⟨v', h1, h2, h3⟩ := this.cut
  exact ⟨v', by simpa using h1, h2, h3⟩
theorem fwithin_ok {k : Nat} (hw : Codes p cid mid fm k) {e : Ex} {hi : Int} {ys : Nms} (hn : e.size ≤ k) (hnm : (names ++ ys).length + 2 * e.size ≤ 200000) (hn0 : 0 ≤ n) (hn1 : n + 4 * e.size ≤ 400000) (hf : e.fine hi) (hc : scOK p ((names ++ ys).map Prod.fst) e) (c : Fl cid mid fm h v (names ++ ys) n)
    (hK : NxF cid mid fm h v names (codeS p (names ++ ys) e n).2 (K (.agg (codeS p (names ++ ys) e n).1.cells))) : ACalls Tryz.prog 50 [.ptr cid 0, .agg e.cells, .int .i64 names.length] h K := by
  refine calls_of mixed Tryz.func50 comp50 (Nat.le_of_ble_eq_true rfl) ?_
  simp -dsimp [c50]
  intro i4 d4
  simp -dsimp
  intro i6 d6
  have n46 := hset_ne d6
  simp -dsimp [n46]
  have n4c : ¬ cid = i4 := cells_ne c.cc d4
  have n6c : ¬ cid = i6 := cells_ne (c.new d4).cc d6
  refine hw e hi (names ++ ys) n _ v _ hn hnm hn0 hn1 hf hc ((c.new d4).new d6) ?_
  intro v2 h2 c2 k2
  simp -dsimp
  intro i7 d7
  have n7c : ¬ cid = i7 := cells_ne c2.cc d7
  have n7c' : ¬ i7 = cid := fun x => n7c x.symm
  obtain ⟨v3, hcut, l3, hid⟩ := within_cut (c2.new (o := .cells (codeS p (names ++ ys) e n).1.cells) d7)
  have hc3 := hcut _ (fun _ _ _ _ => rfl)
  have hf3 := l3.flat
  have n6c' : ¬ i6 = cid := fun x => n6c x.symm
  have v6 : ¬ isId v i6 := (c.new d4).cl.notd d6
  have h6 : h2 i6 = .cells (.mk 0 0 0 0 0 vl0 [] [] : Cd).cells := k2.atc (by simp; rfl) (by simp [n6c']) v6
  have n67 := cells_ne h6 d7
  have n76 : ¬ i7 = i6 := fun x => n67 x.symm
  simp -dsimp [c2.cc, n7c, hc3, hf3, n7c', n6c, n6c', h6, n67, n76]
  have hmc : ¬ mid = cid := c2.nmc
  have hm7 := map_ne c2.cm d7
  have hm6 : ¬ mid = i6 := by rintro rfl; have := c2.cm; rw [h6] at this; cases this
  refine Gives.same (hK v3 _ ⟨by simp [n6c], by simp [hmc, hm7, hm6, c2.cm], ?_⟩ ?_)
  · have l4 := l3.set (j := cid) (o := .cells [.mp mid, v3, .int .i64 (codeS p (names ++ ys) e n).2]) (fun x => c2.notc ((hid cid).1 x))
    refine l4.set (j := i6) ?_
    exact fun x => c2.cl.notc h6 ((hid i6).1 x)
  · have kk : Fr7 [cid] h v h2 v2 := (Fr7.refl.new d4 |>.trans (Fr7.refl.new d6)).trans k2
    have kk3 := ((kk.new (o := .cells (codeS p (names ++ ys) e n).1.cells) d7).same hid).mem (j := cid) (o := .cells [.mp mid, v3, .int .i64 (codeS p (names ++ ys) e n).2]) (by simp)
    exact kk3.changed fun j => by
      by_cases e6 : j = i6
      · subst e6
        left
        exact (Fr7.refl.new d4 : Fr7 [cid] h v _ v).deadc (c.new d4).nodead d6
      · exact .inr (by simp [e6])
end
end Go.Proofs.YtcpkdbofohkipaaGreat

/- The program's flattening: lets and a call's atoms. -/
namespace Go.Proofs.YtcpkdbofohkipaaGreat
open Go.AM
section
variable {p : List Df} {cid mid : Nat} {fm : Mp} {h h1 : Hp} {v v1 : AV} {names : Nms} {n : Int} {K : AV → Hp → Prop}

theorem Fl.kill (c : Fl cid mid fm h v names n) {j e sz : Nat} {xs : List (List AV)} (hj : h j = .arr e sz xs) (he : e ≠ 135) : Fl cid mid fm (hset h j .dead) v names n := by
  have h1 : ¬ cid = j := by rintro rfl; have := c.cc; rw [hj] at this; cases this
  have h2 : ¬ mid = j := by rintro rfl; have := c.cm; rw [hj] at this; cases this
  exact ⟨by simp [h1, c.cc], by simp [h2, c.cm], c.cl.set (c.cl.nota hj he)⟩

theorem Fl.dropped {h2 : Hp} {e sz : Nat} (c : Fl cid mid fm h v names n) (hd : ∀ j, h2 j = h j ∨ (h2 j = .dead ∧ ∃ xs, h j = .arr e sz xs)) (he : e ≠ 135) : Fl cid mid fm h2 v names n := by
  refine ⟨?_, ?_, ?_⟩
  · rcases hd cid with x | ⟨_, xs, x⟩
    · rw [x, c.cc]
    · rw [c.cc] at x; cases x
  · rcases hd mid with x | ⟨_, xs, x⟩
    · rw [x, c.cm]
    · rw [c.cm] at x; cases x
  · refine c.cl.eq fun j hj => ?_
    rcases hd j with x | ⟨_, xs, x⟩
    · exact x
    · exact absurd hj (c.cl.nota x he)
theorem Fl.setc (c : Fl cid mid fm h v names n) {j : Nat} {cs : List AV} {o : AObj} (hj : h j = .cells cs) (hc : ¬ j = cid) : Fl cid mid fm (hset h j o) v names n := by
  have h1 : ¬ cid = j := fun x => hc x.symm
  have h2 : ¬ mid = j := by rintro rfl; have := c.cm; rw [hj] at this; cases this
  exact ⟨by simp [h1, c.cc], by simp [h2, c.cm], c.cl.set (c.cl.notc hj)⟩
theorem fr7_at {h2 : Hp} {v2 : AV} (k : Fr7 [cid] h v h2 v2) {j : Nat} {o : AObj} (hj : Free h v j) : Fr7 [cid] h v (hset h2 j o) v2 := k.changed fun i => by
  by_cases e : i = j
  · exact .inl (e ▸ hj)
  · exact .inr (by simp [e])
/-- A code is given back; the list of its parts goes. -/
theorem fgive {H : Hp} {v' r : AV} {n' : Int} {cd : Cd} (c : Fl cid mid fm H v' names n') (k : Fr7 [cid] h v H v') (o : OwnF h v H 61 11 r (cd.args.map Cd.cells)) (hK : NxF cid mid fm h v names n' (K (.agg cd.cells))) :
    Gives K (some (.agg ([.int .i64 cd.op, .int .i64 cd.slot, .int .i64 cd.slot2, .int .i64 cd.func, .int .i64 cd.prim] ++ cd.lit.cells ++ [rowsAV (cd.atoms.map Atm.cells), r]))) H := by
  obtain ⟨h2, hs, hz, hd⟩ := o.drop
  have hz' := Frz.cell (a := [.int .i64 cd.op, .int .i64 cd.slot, .int .i64 cd.slot2, .int .i64 cd.func, .int .i64 cd.prim] ++ cd.lit.cells ++ [rowsAV (cd.atoms.map Atm.cells)]) (b := []) hz
  have e1 : ∀ x : AV, [AV.int .i64 cd.op, .int .i64 cd.slot, .int .i64 cd.slot2, .int .i64 cd.func, .int .i64 cd.prim] ++ cd.lit.cells ++ [rowsAV (cd.atoms.map Atm.cells)] ++ x :: [] = [.int .i64 cd.op, .int .i64 cd.slot, .int .i64 cd.slot2, .int .i64 cd.func, .int .i64 cd.prim] ++ cd.lit.cells ++ [rowsAV (cd.atoms.map Atm.cells), x] := fun x => by simp
  rw [e1, e1] at hz'
  refine Gives.frz hs hz' ?_
  rw [← Cd.cells_eq]
  refine hK v' h2 (c.dropped (fun j => (hd j).imp id (fun x => ⟨x.2.1, _, x.2.2⟩)) (by decide)) (k.changed fun j => ?_)
  rcases hd j with x | x
  · exact .inr x
  · exact .inl x.1
theorem flets_none {parts l : List Ex} {c : Cd} {w : AV} {j : Nat} (he : idxs names j l = []) (hwv : LatV w (intRows (idxs names j l))) (cl : Fl cid mid fm h v names n)
    (hK : NxF cid mid fm h v names n (K (.agg c.cells))) : ACalls Tryz.prog 91 [.ptr cid 0, .agg c.cells, rowsAV (parts.map Ex.cells), w] h K := by
  rw [he] at hwv
  refine calls_of mixed Tryz.func91 comp91 (Nat.le_of_ble_eq_true rfl) ?_
  have hlen := hwv.len
  simp -dsimp [c91]
  intro i5 d5
  simp -dsimp
  intro i8 d8
  have n58 := hset_ne d8
  have n85 : ¬ i8 = i5 := fun x => n58 x.symm
  simp -dsimp [hlen, n58, n85]
  exact Gives.same (hK v _ ((cl.new d5).new d8) ((Fr7.refl.new d5).trans (Fr7.refl.new d8)))

theorem flets_ok {k : Nat} (hw : Codes p cid mid fm k) {parts : List Ex} {c : Cd} {hi : Int} (hal : c.atoms.length = parts.length) (hn : Ex.sizeL parts ≤ k) (hnm : names.length + 2 * Ex.sizeL parts ≤ 200000) (hf : Ex.fineL hi parts) (hc : ∀ a ∈ parts, scOK p (names.map Prod.fst) a) :
    ∀ (r : Nat) (pre l : List Ex) (w : AV) (n : Int) (h : Hp) (v : AV) (K : AV → Hp → Prop), parts = pre ++ l → (idxs names pre.length l).length ≤ r → LatV w (intRows (idxs names pre.length l)) → 0 ≤ n → n + 4 * Ex.sizeL l + 4 ≤ 400000 + nonAt names l → Fl cid mid fm h v names n →
    NxF cid mid fm h v names (letsS p names c l (c.atoms.drop pre.length) n).2 (K (.agg (letsS p names c l (c.atoms.drop pre.length) n).1.cells)) → ACalls Tryz.prog 91 [.ptr cid 0, .agg c.cells, rowsAV (parts.map Ex.cells), w] h K := by
  intro r
  induction r with
  | zero =>
    intro pre l w n h v K hp hr hwv hn0 hn1 cl hK
    have he : idxs names pre.length l = [] := List.length_eq_zero_iff.1 (by omega)
    rw [lets_none he] at hK
    exact flets_none he hwv cl hK
  | succ r ih =>
    intro pre l w n h v K hp hr hwv hn0 hn1 cl hK
    cases hix : idxs names pre.length l with
    | nil =>
      rw [lets_none hix] at hK
      exact flets_none hix hwv cl hK
    | cons i rest =>
      have hdl : (c.atoms.drop pre.length).length = l.length := by simp [hal, hp]
      obtain ⟨m, e, l', a, as', e1, e2, e3, e4, e5, e6⟩ := lets_next (p := p) (c := c) (n := n) hix hdl
      rw [e6] at hK
      have hmem : e ∈ parts := by rw [hp, e1]; simp
      have hfe := Ex.fineL_mem hf hmem
      have hce := hc _ hmem
      have hse := Ex.size_mem hmem
      have hna := idxs_nonAt names l pre.length
      have hnb := idxs_nonAt names l' (pre.length + m.length + 1)
      have hnc := nonAt_le names l'
      rw [hix, e5] at hna
      simp only [List.length_cons] at hna
      have hsl : Ex.sizeL l = Ex.sizeL m + (e.size + Ex.sizeL l') := by rw [e1, Ex.sizeL_append]; rfl
      have hj : pre.length + m.length < parts.length := by rw [hp, e1]; simp
      have hgete : parts[pre.length + m.length] = e := by simp [hp, e1]
      have hja : pre.length + m.length < c.atoms.length := by omega
      have hgeta : c.atoms[pre.length + m.length] = a := by
        have h1 : (c.atoms.drop pre.length)[m.length]? = some a := by rw [e2]; simp [← e3]
        rw [List.getElem?_drop, List.getElem?_eq_getElem hja] at h1
        exact Option.some.inj h1
      have hw1 : w = .fz (intRows (i :: rest)) := by
        rw [hix] at hwv
        rcases hwv with h | h <;> rw [h]
        rfl
      subst hw1
      obtain ⟨J, hJ⟩ : ∃ J, J = pre.length + m.length := ⟨_, rfl⟩
      rw [← hJ] at e4 e5
      simp only [← hJ] at hj hgete hja hgeta
      rw [e4]
      rw [hix, e4] at hr
      refine calls_of mixed Tryz.func91 comp91 (Nat.le_of_ble_eq_true rfl) ?_
      simp -dsimp [c91]
      intro i5 d5
      simp -dsimp
      intro i8 d8
      have n58 := hset_ne d8
      have n85 : ¬ i8 = i5 := fun x => n58 x.symm
      have c8 := fun o o' => (cl.new (o := o) d5).new (o := o') (j := i8)
      have nir : ¬ ((rest.length : Int) + 1 = 0) := by omega
      simp -dsimp [intRows, nir, hj, hgete]
      refine hw e hi names n _ v _ (by omega) (by omega) hn0 (by omega) hfe hce ((cl.new d5).new d8) ?_
      intro v2 h2 c2 k2
      have m5c : ¬ i5 = cid := fun x => cells_ne cl.cc d5 x.symm
      have m8c : ¬ i8 = cid := fun x => cells_ne (cl.new d5).cc d8 x.symm
      have v5 : ¬ isId v i5 := cl.cl.notd d5
      have v8 : ¬ isId v i8 := (cl.new d5).cl.notd d8
      have h5 : h2 i5 = .cells c.cells := k2.atc (by simp [n58]) (by simp [m5c]) v5
      have h8 : h2 i8 = .cells (.mk 0 0 0 0 0 vl0 [] [] : Cd).cells := k2.atc (by simp; rfl) (by simp [m8c]) v8
      simp -dsimp
      intro i10 d10
      have n510 := cells_ne h5 d10
      have n810 := cells_ne h8 d10
      have hcode := codeS_next p e names n
      simp -dsimp [h5, n510, hja, hgeta, intRows]
      have hL : (pre ++ m ++ [e]).length = J + 1 := by simp [hJ]; omega
      have hD : c.atoms.drop (J + 1) = as'.2 := by
        have : c.atoms.drop (J + 1) = (c.atoms.drop pre.length).drop (m.length + 1) := by rw [List.drop_drop, hJ]; congr 1
        rw [this, e2, ← e3]
        simp
      have kk2 : Fr7 [cid] h v h2 v2 := ((Fr7.refl.new d5).trans (Fr7.refl.new d8)).trans k2
      refine ih (pre ++ m ++ [e]) l' _ _ _ v2 _ (by rw [hp, e1]; simp) ?_ ?_ (by omega) (by omega) (c2.new d10) ?_
      · rw [hL]
        rw [e5] at hr
        simp only [List.length_cons] at hr
        omega
      · right
        rw [hL, e5]
        simp [intRows, List.take_of_length_le]
      · intro v3 h3 c3 k3
        have m10c : ¬ i10 = cid := fun x => cells_ne c2.cc d10 x.symm
        have h35 : h3 i5 = .cells c.cells := k3.atc (by simp [n510, h5]) (by simp [m5c]) (c2.cl.notc h5)
        have h38 : h3 i8 = .cells (.mk 0 0 0 0 0 vl0 [] [] : Cd).cells := k3.atc (by simp [n810, h8]) (by simp [m8c]) (c2.cl.notc h8)
        have h310 : h3 i10 = .cells (codeS p names e n).1.cells := k3.atc (by simp) (by simp [m10c]) (c2.cl.notd d10)
        simp -dsimp [Stable, AIns.wants, QStep, h35, h310, hja, hgeta, intRows]
        intro i37 d37
        rw [hL, hD] at c3
        rw [hL, hD]
        generalize hrest : letsS p names c l' as'.2 (codeS p names e n).2 = R at *
        generalize hcd : codeS p names e n = W at *
        have n37c : ¬ cid = i37 := cells_ne c3.cc d37
        have n837 := cells_ne h38 d37
        have n537 := cells_ne h35 d37
        have n1037 := cells_ne h310 d37
        simp -dsimp [Stable, AIns.wants, QStep, h35, h38, h310, n537, n837, n1037, hja, hgeta, intRows]
        have kk3 : Fr7 [cid] h v h3 v3 := (kk2.trans (Fr7.refl.new d10)).trans k3
        have c37 := c3.new (o := .arr 61 11 [W.1.cells, R.1.cells]) d37
        have k37 := kk3.new (o := .arr 61 11 [W.1.cells, R.1.cells]) d37
        have hD2 : c.atoms.drop (pre.length + (m.length + 1)) = as'.2 := by rw [show pre.length + (m.length + 1) = J + 1 by omega]; exact hD
        rw [hD2, hrest]
        have cR : Fl cid mid fm (hset (hset h3 i37 (.arr 61 11 [W.1.cells, R.1.cells])) i8 (.cells [.int .i64 8, .int .i64 a.slot, .int .i64 0, .int .i64 0, .int .i64 0, .int .i64 0, .cplx 0 0, .bool false, .nl, .nl, .sl i37 0 2])) v3 names R.2 := by
          have q8 : ¬ cid = i8 := fun x => m8c x.symm
          have q8m : ¬ mid = i8 := by rintro rfl; have := c3.cm; rw [h38] at this; cases this
          exact ⟨by simp [q8, n37c, c3.cc], by simp [q8m, map_ne c3.cm d37, c3.cm], (c37.cl).set (c37.cl.notc (j := i8) (cs := (.mk 0 0 0 0 0 vl0 [] [] : Cd).cells) (by simp [n837, h38]))⟩
        have kR : Fr7 [cid] h v (hset (hset h3 i37 (.arr 61 11 [W.1.cells, R.1.cells])) i8 (.cells [.int .i64 8, .int .i64 a.slot, .int .i64 0, .int .i64 0, .int .i64 0, .int .i64 0, .cplx 0 0, .bool false, .nl, .nl, .sl i37 0 2])) v3 :=
          k37.changed fun j => by
            by_cases ej : j = i8
            · subst ej; exact .inl ((Fr7.refl.new d5 : Fr7 [cid] h v _ v).deadc (cl.new d5).nodead d8)
            · exact .inr (by simp [ej])
        exact fgive (cd := .mk 8 a.slot 0 0 0 vl0 [] [W.1, R.1]) cR kR (.inr ⟨i37, by simp [Cd.args], kk3.deadc c3.nodead d37, by simp [Cd.args], by
          have : ¬ i37 = i8 := fun x => n837 x.symm
          simp [this, Cd.args]⟩) hK
end
end Go.Proofs.YtcpkdbofohkipaaGreat

/- The program's flattening: a call or a cons. -/
namespace Go.Proofs.YtcpkdbofohkipaaGreat
open Go.AM
section
variable {p : List Df} {cid mid : Nat} {fm : Mp} {h h1 : Hp} {v v1 : AV} {names : Nms} {n : Int} {K : AV → Hp → Prop}

def cd0 (op f : Int) (r : AV) : List AV := [.int .i64 op, .int .i64 0, .int .i64 0, .int .i64 f, .int .i64 0, .int .i64 0, .cplx 0 0, .bool false, .nl, r, .nl]

theorem fatoms_ok {k : Nat} (hw : Codes p cid mid fm k) {parts : List Ex} {op f : Int} {hi : Int} (hn : Ex.sizeL parts ≤ k) (hnm : names.length + 2 * Ex.sizeL parts ≤ 200000) (hn0 : 0 ≤ n) (hn1 : n + 4 * Ex.sizeL parts + 4 ≤ 400000) (hf : Ex.fineL hi parts) (hc : ∀ a ∈ parts, scOK p (names.map Prod.fst) a) (cl : Fl cid mid fm h v names n)
    (hK : NxF cid mid fm h v names (letsS p names (.mk op 0 0 f 0 vl0 (atomsL names parts n).1 []) parts (atomsL names parts n).1 (atomsL names parts n).2).2 (K (.agg (letsS p names (.mk op 0 0 f 0 vl0 (atomsL names parts n).1 []) parts (atomsL names parts n).1 (atomsL names parts n).2).1.cells))) :
    ACalls Tryz.prog 48 [.ptr cid 0, .agg (cd0 op f .nl), rowsAV (parts.map Ex.cells)] h K := by
  refine calls_of mixed Tryz.func48 comp48 (Nat.le_of_ble_eq_true rfl) ?_
  have hll := Ex.sizeL_len parts
  simp -dsimp [c48, cd0]
  intro i4 d4
  simp -dsimp
  intro i6 d6
  have n46 := hset_ne d6
  have n64 : ¬ i6 = i4 := fun x => n46 x.symm
  have m4c : ¬ i4 = cid := fun x => cells_ne cl.cc d4 x.symm
  have m6c : ¬ i6 = cid := fun x => cells_ne (cl.new d4).cc d6 x.symm
  simp -dsimp
  have z6 : Free h v i6 := (Fr7.refl.new d4 : Fr7 [cid] h v _ v).deadc (cl.new d4).nodead d6
  have z4 : Free h v i4 := .inl d4
  refine ALoop.start (fun m tm h' => ∃ (i : Nat) (v' r : AV), i + m = parts.length ∧ tm 0 = .ptr cid 0 ∧ tm 2 = rowsAV (parts.map Ex.cells) ∧ tm 4 = .ptr i4 0 ∧ tm 6 = .ptr i6 0 ∧ tm 12 = rowsAV (parts.map Ex.cells) ∧ tm 13 = .int .i64 parts.length ∧ tm 14 = .int .i64 i ∧
    h' i4 = .cells (cd0 op f r) ∧ h' i6 = .cells (cd0 0 0 .nl) ∧ Fl cid mid fm h' v' names (atomsL names (parts.take i) n).2 ∧ Fr7 [cid] h v h' v' ∧ OwnF h v h' 111 5 r ((atomsL names (parts.take i) n).1.map Atm.cells) ∧ OwnF h v h' 3 1 (tm 7) (intRows (idxs names 0 (parts.take i)))) parts.length
    ⟨0, v, .nl, by simp, by simp, by simp, by simp, by simp, by simp, by simp, by simp, by simp [n46, cd0], by simp [cd0], by simpa [atomsL] using (cl.new d4).new d6, (Fr7.refl.new d4).trans (Fr7.refl.new d6), .inl ⟨by simp [atomsL], rfl⟩, .inl ⟨by simp [idxs, intRows], by simp⟩⟩ ?_
  rintro m tm h' ⟨i, v', r, hi', t0, t2, t4, t6, t12, t13, t14, hi4, hi6, c', kf, oa, ol⟩
  have hw1 : IntKind.i64.wrap ((i : Int) + 1) = ((i + 1 : Nat) : Int) := by rw [wrap_i64] <;> omega
  by_cases hlt : i < parts.length
  · have hmem := List.getElem_mem hlt
    have hci := hc _ hmem
    have hat := atomsL_snoc names (parts.take i) parts[i] n
    have hid := idxs_snoc names (parts.take i) 0 parts[i]
    rw [← take_snoc parts hlt] at hat hid
    have hnx := atomsL_next names (parts.take i) n
    have hal := atomsL_length names (parts.take i) n
    have hil := idxs_length names (parts.take i) 0
    have hnl : nonAt names (parts.take i) ≤ (parts.take i).length := by
      generalize parts.take i = q
      induction q with
      | nil => simp [nonAt]
      | cons x q ih => simp only [nonAt, List.length_cons]; split <;> omega
    have hmin : min i parts.length = i := by omega
    simp only [List.length_take, hmin, Nat.zero_add] at hal hil hnl hid
    have hfl := oa.flat
    generalize hx : parts[i] = x at *
    generalize hA : atomsL names (parts.take i) n = A at *
    generalize hI : idxs names 0 (parts.take i) = I at *
    simp -dsimp [t12, t13, t14, hlt, hx]
    intro i9 d9
    have n49 := cells_ne hi4 d9
    have n69 := cells_ne hi6 d9
    simp -dsimp [t0]
    refine atom_ok (c'.new d9) (by omega) (scOK_eq.1 hci).1 ?_
    have c9 := c'.new (o := .cells x.cells) d9
    have k9 : Fr7 [cid] h v (hset h' i9 (.cells x.cells)) v' := kf.new d9
    have oa9 := oa.new (x := .cells x.cells) d9
    have ol9 := ol.new (x := .cells x.cells) d9
    have h49 : hset h' i9 (.cells x.cells) i4 = .cells (cd0 op f r) := by simp [n49, hi4]
    have h69 : hset h' i9 (.cells x.cells) i6 = .cells (cd0 0 0 .nl) := by simp [n69, hi6]
    generalize hset h' i9 (.cells x.cells) = H at *
    -- the end of a round
    have fin : ∀ (a' : Atm) (H2 : Hp) (v2 r7 : AV) (n2 : Int) (I2 : List Int) (tm' : Tm), atomsL names (parts.take (i + 1)) n = (A.1 ++ [a'], n2) → idxs names 0 (parts.take (i + 1)) = I2 → Fl cid mid fm H2 v2 names n2 → Fr7 [cid] h v H2 v2 → OwnF h v H2 111 5 r (A.1.map Atm.cells) → OwnF h v H2 3 1 r7 (intRows I2) →
        H2 i4 = .cells (cd0 op f r) → H2 i6 = .cells (cd0 0 0 .nl) → ∀ (i37 : Nat), H2 i37 = .dead → ∀ (r' : AV) (h3 : Hp), OwnF h v h3 111 5 r' (A.1.map Atm.cells ++ [a'.cells]) → KeepsE 111 (hset H2 i37 (.arr 111 5 [a'.cells])) h3 → (∀ j, Free h v j ∨ h3 j = hset H2 i37 (.arr 111 5 [a'.cells]) j) →
        tm' 0 = .ptr cid 0 → tm' 2 = rowsAV (parts.map Ex.cells) → tm' 4 = .ptr i4 0 → tm' 6 = .ptr i6 0 → tm' 12 = rowsAV (parts.map Ex.cells) → tm' 13 = .int .i64 parts.length → tm' 14 = .int .i64 ((i + 1 : Nat) : Int) → tm' 7 = r7 →
        ∃ (i : Nat) (v' r : AV), i + (m - 1) = parts.length ∧ tm' 0 = .ptr cid 0 ∧ tm' 2 = rowsAV (parts.map Ex.cells) ∧ tm' 4 = .ptr i4 0 ∧ tm' 6 = .ptr i6 0 ∧ tm' 12 = rowsAV (parts.map Ex.cells) ∧ tm' 13 = .int .i64 parts.length ∧ tm' 14 = .int .i64 i ∧
          hset h3 i4 (.cells (cd0 op f r')) i4 = .cells (cd0 op f r) ∧ hset h3 i4 (.cells (cd0 op f r')) i6 = .cells (cd0 0 0 .nl) ∧ Fl cid mid fm (hset h3 i4 (.cells (cd0 op f r'))) v' names (atomsL names (parts.take i) n).2 ∧ Fr7 [cid] h v (hset h3 i4 (.cells (cd0 op f r'))) v' ∧
          OwnF h v (hset h3 i4 (.cells (cd0 op f r'))) 111 5 r ((atomsL names (parts.take i) n).1.map Atm.cells) ∧ OwnF h v (hset h3 i4 (.cells (cd0 op f r'))) 3 1 (tm' 7) (intRows (idxs names 0 (parts.take i))) := by
      intro a' H2 v2 r7 n2 I2 tm' ha hI2 c2 k2 o2 l2 g4 g6 i37 d37 r' h3 o3 ke kb b0 b2 b4 b6 b12 b13 b14 b7
      have g43 : h3 i4 = .cells (cd0 op f r) := ke.cells (cells_new g4 d37)
      have g63 : h3 i6 = .cells (cd0 0 0 .nl) := ke.cells (cells_new g6 d37)
      have c3 := (c2.new (o := .arr 111 5 [a'.cells]) d37).keepE ke (by decide)
      have k3 := (k2.new (o := .arr 111 5 [a'.cells]) d37).changed kb
      have l3 : OwnF h v h3 3 1 r7 (intRows I2) := by
        refine (l2.new (x := .arr 111 5 [a'.cells]) d37).eqs fun j xs hj => ?_
        rw [ke.arr hj (by decide), hj]
      refine ⟨i + 1, v2, r', by omega, b0, b2, b4, b6, b12, b13, b14, by simp, by simp [n64, g63], ?_, fr7_at k3 z4, ?_, ?_⟩
      · rw [ha]; exact c3.setc g43 m4c
      · rw [ha]
        have := o3.setc (x := .cells (cd0 op f r')) g43
        simpa using this
      · rw [b7, hI2]; exact l3.setc g43
    cases hax : atomS names x with
    | some a =>
      rw [hax] at hat hid
      simp only [Option.isSome_some, if_true, List.append_nil] at hid
      simp only at hat
      simp -dsimp
      intro i10 d10
      have n410 := cells_ne h49 d10
      have n610 := cells_ne h69 d10
      have c10 := c9.new (o := .cells a.cells) d10
      have k10 := k9.new (o := .cells a.cells) d10
      simp -dsimp [t4, h49, n410, cd0]
      intro i37 d37
      have oa10 := oa9.new (x := .cells a.cells) d10
      have ol10 := ol9.new (x := .cells a.cells) d10
      simp -dsimp
      refine (oa10.new d37).push (fun j hj => (k10.new d37).deadc (c10.new d37).nodead hj) (by simp; omega) (by decide) fun r' h3 o3 ke kb _ => ?_
      have g43 : h3 i4 = .cells (cd0 op f r) := ke.cells (cells_new (cells_new h49 d10) d37)
      have hfl3 := o3.flat
      simp -dsimp [t4, t14, g43, cd0, hfl3, hw1]
      exact Again.same (m - 1) (by omega) (fin a _ v' _ _ _ _ hat hid c10 k10 oa10 ol10 (by simp [n410, h49]) (by simp [n610, h69]) i37 d37 r' h3 o3 ke kb (by simp [t0]) (by simp [t2]) (by simp [t4]) (by simp [t6]) (by simp [t12]) (by simp [t13]) (by simp) (by simp))
    | none =>
      rw [hax] at hat hid
      simp only [Option.isSome_none, Bool.false_eq_true, if_false] at hid
      simp only at hat
      simp -dsimp
      intro i10 d10
      have n410 := cells_ne h49 d10
      have n610 := cells_ne h69 d10
      have m10c : ¬ i10 = cid := fun x => cells_ne c9.cc d10 x.symm
      simp -dsimp [t0]
      refine ftake_ok (c9.new d10) ⟨by omega, by omega⟩ ?_
      intro v2 h2 c2 k2
      have q4 : h2 i4 = .cells (cd0 op f r) := k2.atc (cells_new h49 d10) (by simp [m4c]) ((c9.new (o := .cells (⟨0, vl0⟩ : Atm).cells) d10).cl.notc (cs := cd0 op f r) (cells_new h49 d10))
      have q6 : h2 i6 = .cells (cd0 0 0 .nl) := k2.atc (cells_new h69 d10) (by simp [m6c]) ((c9.new (o := .cells (⟨0, vl0⟩ : Atm).cells) d10).cl.notc (cs := cd0 0 0 .nl) (cells_new h69 d10))
      have q10 : h2 i10 = .cells (⟨0, vl0⟩ : Atm).cells := k2.atc (by simp) (by simp [m10c]) (c9.cl.notd d10)
      have kk2 : Fr7 [cid] h v h2 v2 := (k9.new d10).trans k2
      have oa2 := ownF_fl (oa9.new (x := .cells (⟨0, vl0⟩ : Atm).cells) d10) (c9.new d10) k2 (by decide)
      have ol2 := ownF_fl (ol9.new (x := .cells (⟨0, vl0⟩ : Atm).cells) d10) (c9.new d10) k2 (by decide)
      have z10 : Free h v i10 := k9.deadc c9.nodead d10
      have m10c' : ¬ cid = i10 := fun x => m10c x.symm
      have p410 : ¬ i4 = i10 := n410
      simp -dsimp [q10, Atm.cells, Vl.cells, vl0]
      have c3 := c2.setc (o := .cells (⟨A.2, vl0⟩ : Atm).cells) q10 m10c
      have k3 := fr7_at (o := .cells (⟨A.2, vl0⟩ : Atm).cells) kk2 z10
      have oa3 := oa2.setc (x := .cells (⟨A.2, vl0⟩ : Atm).cells) q10
      have ol3 := ol2.setc (x := .cells (⟨A.2, vl0⟩ : Atm).cells) q10
      have g4 : hset h2 i10 (.cells (⟨A.2, vl0⟩ : Atm).cells) i4 = .cells (cd0 op f r) := by simp [n410, q4]
      have g6 : hset h2 i10 (.cells (⟨A.2, vl0⟩ : Atm).cells) i6 = .cells (cd0 0 0 .nl) := by simp [n610, q6]
      have g10 : hset h2 i10 (.cells (⟨A.2, vl0⟩ : Atm).cells) i10 = .cells (⟨A.2, vl0⟩ : Atm).cells := by simp
      have ez : (AObj.cells [.int .i64 A.2, .int .i64 0, .cplx 0 0, .bool false, .nl]) = .cells (⟨A.2, vl0⟩ : Atm).cells := rfl
      rw [ez]
      generalize hset h2 i10 (.cells (⟨A.2, vl0⟩ : Atm).cells) = H2 at *
      intro i32 d32
      simp -dsimp [t14]
      refine (ol3.new (x := .arr 3 1 [[.int .i64 i]]) d32).push (fun j hj => (k3.new d32).deadc (c3.new d32).nodead hj) (by simp; omega) (by decide) fun w3 h3 o3 ke kb _ => ?_
      have c4 := (c3.new (o := .arr 3 1 [[.int .i64 i]]) d32).keepE ke (by decide)
      have k4 := (k3.new (o := .arr 3 1 [[.int .i64 i]]) d32).changed kb
      have oa4 : OwnF h v h3 111 5 r (A.1.map Atm.cells) := by
        refine (oa3.new (x := .arr 3 1 [[.int .i64 i]]) d32).eqs fun j xs hj => ?_
        rw [ke.arr hj (by decide), hj]
      have f4 : h3 i4 = .cells (cd0 op f r) := ke.cells (cells_new g4 d32)
      have f6 : h3 i6 = .cells (cd0 0 0 .nl) := ke.cells (cells_new g6 d32)
      have f10 : h3 i10 = .cells (⟨A.2, vl0⟩ : Atm).cells := ke.cells (cells_new g10 d32)
      simp -dsimp [t4, f4, f10, cd0]
      intro i37 d37
      simp -dsimp
      refine (oa4.new d37).push (fun j hj => (k4.new d37).deadc (c4.new d37).nodead hj) (by simp; omega) (by decide) fun r' h5 o5 ke5 kb5 _ => ?_
      have g45 : h5 i4 = .cells (cd0 op f r) := ke5.cells (cells_new f4 d37)
      have hfl3 := o5.flat
      simp -dsimp [t4, t14, g45, cd0, hfl3, hw1]
      exact Again.same (m - 1) (by omega) (fin ⟨A.2, vl0⟩ h3 v2 w3 (A.2 + 1) (I ++ [(i : Int)]) _ hat (by simpa using hid) c4 k4 oa4 (by simpa [intRows] using o3) f4 f6 i37 d37 r' h5 o5 ke5 kb5 (by simp [t0]) (by simp [t2]) (by simp [t4]) (by simp [t6]) (by simp [t12]) (by simp [t13]) (by simp) (by simp))
  · have htk : parts.take i = parts := List.take_of_length_le (by omega)
    rw [htk] at c' oa ol
    have hm0 : i = parts.length := by omega
    simp -dsimp [t12, t13, t14, hlt, t0, t2, t4, hi4]
    have hcd : (cd0 op f r).length = 11 := rfl
    have htk2 : (cd0 op f r).take 11 = cd0 op f r := rfl
    simp -dsimp [hcd, htk2, t2]
    obtain ⟨h2, hs2, hz2, hd2⟩ := oa.drop
    have ol2 : OwnF h v h2 3 1 (tm 7) (intRows (idxs names 0 parts)) := ol.eqs fun j xs hj => by
      rcases hd2 j with x | ⟨_, _, x⟩
      · exact x
      · rw [hj] at x; cases x
    obtain ⟨h3, hs3, hz3, hd3⟩ := ol2.drop
    have hz2' := Frz.cell (a := [.int .i64 op, .int .i64 0, .int .i64 0, .int .i64 f, .int .i64 0, .int .i64 0, .cplx 0 0, .bool false, .nl]) (b := [.nl]) hz2
    refine ACalls.frz hs2 (args' := [.ptr cid 0, .agg (cd0 op f (rowsAV ((atomsL names parts n).1.map Atm.cells))), rowsAV (parts.map Ex.cells), tm 7]) ⟨.same _, hz2', .same _, .same _, trivial⟩ ?_
    refine ACalls.frz hs3 (args' := [.ptr cid 0, .agg (cd0 op f (rowsAV ((atomsL names parts n).1.map Atm.cells))), rowsAV (parts.map Ex.cells), rowsAV (intRows (idxs names 0 parts))]) ⟨.same _, .same _, .same _, hz3, trivial⟩ ?_
    have c2 := c'.dropped (h2 := h2) (fun j => (hd2 j).imp id (fun x => ⟨x.2.1, _, x.2.2⟩)) (by decide)
    have c3 := c2.dropped (h2 := h3) (fun j => (hd3 j).imp id (fun x => ⟨x.2.1, _, x.2.2⟩)) (by decide)
    have k2 : Fr7 [cid] h v h2 v' := kf.changed fun j => (hd2 j).symm.imp (fun x => x.1) id
    have k3 : Fr7 [cid] h v h3 v' := k2.changed fun j => (hd3 j).symm.imp (fun x => x.1) id
    have hx := atomsL_next names parts n
    have hnl : nonAt names parts ≤ parts.length := by
      generalize parts = q
      induction q with
      | nil => simp [nonAt]
      | cons x q ih => simp only [nonAt, List.length_cons]; split <;> omega
    have j6 : h3 i6 = .cells (cd0 0 0 .nl) := by
      rcases hd3 i6 with x | ⟨_, _, x⟩
      · rw [x]
        rcases hd2 i6 with y | ⟨_, _, y⟩
        · rw [y, hi6]
        · rw [hi6] at y; cases y
      · rcases hd2 i6 with y | ⟨_, _, y⟩
        · rw [y, hi6] at x; cases x
        · rw [hi6] at y; cases y
    refine flets_ok (c := .mk op 0 0 f 0 vl0 (atomsL names parts n).1 []) hw (parts := parts) (hi := hi) (by simp [Cd.atoms, atomsL_length]) hn hnm hf hc _ [] parts (rowsAV (intRows (idxs names 0 parts))) _ h3 v' _ rfl (Nat.le_refl _) (.inl rfl) (by omega) (by omega) c3 ?_
    intro v5 h5 c5 k5
    have q6 : h5 i6 = .cells (cd0 0 0 .nl) := k5.atc j6 (by simp [m6c]) (c3.cl.notc j6)
    simp -dsimp [t6, q6, cd0]
    have c6 := fun o => c5.setc (o := o) q6 m6c
    have k6 := fun o => fr7_at (j := i6) (o := o) (k3.trans k5) z6
    exact Gives.same (hK _ _ (c6 _) (k6 _))
end
end Go.Proofs.YtcpkdbofohkipaaGreat
