/- CoreRight's own function returns true. -/
import Derived.Test.YtcpkdbofohkipaaGreatK32
import Derived.Test.YtcpkdbofohkipaaGreatK13
set_option linter.unusedVariables false
set_option linter.unusedSimpArgs false
namespace Go.Proofs.YtcpkdbofohkipaaGreat
open Go.AM

def supR (s : Sup) (k : Int) (pv : AV) (cs : List AV) : List AV := [.str s.name, pv, .int .i64 s.ty, .int .i64 k] ++ cs
def varCells (k : Int) : List AV := [.int .i64 2, .int .i64 k, .int .i64 0, .int .i64 0, .int .i64 0, .int .i64 0, .cplx 0 0, .bool false, .nl, .nl, .nl]
theorem rightlaw_ok {b : Bytes} {t : AV} {t0 t1 t2 t3 : Int} {h : Hp} {K : AV → Hp → Prop} (ht : t = .fz (bytesAV b) ∨ (b = [] ∧ t = .nl)) (hK : K (.bool true) h) : ACalls Tryz.prog 5 [t, .agg [.int .i64 t0, .int .i64 t1, .int .i64 t2, .int .i64 t3]] h K := by
  refine calls_of mixed Tryz.func5 comp5 (Nat.le_of_ble_eq_true rfl) ?_
  simp -dsimp [c5]
  intro i3 d3
  simp -dsimp
  refine cawake_ok ?_
  simp -dsimp
  refine read_ok ht ?_
  simp -dsimp
  intro i5 d5
  have n35 := hset_ne d5
  have n53 : ¬ i5 = i3 := fun x => n35 x.symm
  have ks : ∀ o, Keeps h (hset (hset h i3 (.cells [.int .i64 t0, .int .i64 t1, .int .i64 t2, .int .i64 t3])) i5 o) := fun o => ((Keeps.refl h).new d3).new d5
  by_cases hb : (readS b).2 = true
  · have hf := readS_fine hb
    rw [hb]
    generalize (readS b).1 = p at *
    have hlp := sizeP_len p
    have hsz := hf.size
    simp -dsimp [n53, n35]
    refine flatten_gen hf (fun hc => ?_) (fun hc r rows h1 o1 sa1 k1 => ?_)
    · simp -dsimp
      intro i7 d7
      have n57 := cells_ne (hset_same (hset h i3 (.cells [.int .i64 t0, .int .i64 t1, .int .i64 t2, .int .i64 t3])) i5 (.cells [rowsAV (p.map Df.cells)])) d7
      have n75 : ¬ i7 = i5 := fun x => n57 x.symm
      simp -dsimp [n57, n75]
      refine check07_ok hf.size ?_
      simp -dsimp [fltRow, hc]
      exact Gives.sub ((ks _).new d7).sub hK
    · have hfa := check06_nil (check07_06 hc)
      refine Gives.same ?_
      have hne : flatS p ≠ [] := by simp [flatS, hf.some]
      have hll : (flatS p).length = p.length := by simp [flatS]
      obtain ⟨id, hid, rfl, cr⟩ := CrAt.of hne o1 sa1
      have g3 : h1 i3 = .cells [.int .i64 t0, .int .i64 t1, .int .i64 t2, .int .i64 t3] := k1.at (by simp [n35]) (by simp)
      have g5 : h1 i5 = .cells [rowsAV (p.map Df.cells)] := k1.at (by simp) (by simp)
      simp -dsimp
      intro i7 d7
      have n37 := cells_ne g3 d7
      have n57 := cells_ne g5 d7
      have n75 : ¬ i7 = i5 := fun x => n57 x.symm
      have n73 : ¬ i7 = i3 := fun x => n37 x.symm
      have k17 : Keeps h (hset h1 i7 (.cells [.sl id 0 (flatS p).length])) := ((ks _).trans k1).new d7
      have zid : h id = .dead := (ks _).dead hid
      have z7 : h i7 = .dead := ((ks _).trans k1).dead d7
      have hsup := flat_sup hf
      have cr7 := cr.keep (h1 := hset h1 i7 (.cells [.sl id 0 (flatS p).length])) ((KpS.refl h1).new d7) (by
        have : ¬ id = i7 := by rintro rfl; rw [cr.arr] at d7; cases d7
        simp [this])
      have n3i : ¬ i3 = id := by rintro rfl; rw [cr.arr] at g3; cases g3
      have n5i : ¬ i5 = id := by rintro rfl; rw [cr.arr] at g5; cases g5
      have n7i : ¬ i7 = id := by rintro rfl; rw [cr.arr] at d7; cases d7
      have g3' : hset h1 i7 (.cells [.sl id 0 (flatS p).length]) i3 = .cells [.int .i64 t0, .int .i64 t1, .int .i64 t2, .int .i64 t3] := by simp [n37, g3]
      have g5' : hset h1 i7 (.cells [.sl id 0 (flatS p).length]) i5 = .cells [rowsAV (p.map Df.cells)] := by simp [n57, g5]
      have g7' := hset_same h1 i7 (.cells [.sl id 0 (flatS p).length])
      have hpl : p.length ≤ 40000 := by omega
      have chk : ∀ (i' : Nat) (H : Hp) (n : Nat) (l : List Sup) (rows ex : List (List AV)) (K' : AV → Hp → Prop), l.length = n → l.length ≤ 1000000 → CrAt H i' l rows ex → (∀ s ∈ l, SupOK s) → K' (.int .i64 (coreC l)) H → ACalls Tryz.prog 13 [.agg [.sl i' 0 n]] H K' := fun i' H n l rows ex K' hn hl c hs hK' => by
        subst hn; exact check_ok (K := K') hl c.den hs hK'
      simp -dsimp [n57, n75]
      generalize hset h1 i7 (.cells [.sl id 0 (flatS p).length]) = H at *
      refine chk _ _ _ _ _ _ _ rfl (by omega) cr7 (fun s hs => (hsup s hs).1) ?_
      rw [flat_right hf hfa]
      simp -dsimp [g7', g5', g3', hll]
      have hpos : 0 < p.length := List.length_pos_iff.2 hf.some
      refine into_ok (by omega) (by omega) ?_
      obtain ⟨ir0, ir1⟩ := intoS_range (n := t0) (w := p.length) (by omega)
      obtain ⟨j, hj⟩ : ∃ j : Nat, intoS t0 p.length = j := ⟨(intoS t0 p.length).toNat, by omega⟩
      rw [hj] at ir0 ir1 ⊢
      obtain ⟨d0, d1⟩ := intoS_range (n := t3) (w := 5) (by omega)
      have hlr : rows.length = p.length := by rw [cr7.len, hll]
      have hjl : j < (flatS p).length := by omega
      have hjr : j < rows.length := by omega
      have hsj := List.getElem?_eq_getElem hjl
      have hrj := List.getElem?_eq_getElem hjr
      have hrj2 : rows[j]? = some rows[j] := hrj
      have hmj := List.getElem_mem hjl
      obtain ⟨hso, hs0, hs1, hs2⟩ := hsup _ hmj
      have hdj := cr7.at_ j _ _ hsj hrj
      generalize hx : (flatS p)[j] = s at *
      generalize hy : rows[j] = row at *
      obtain ⟨pv, cs, rfl, hpv, hcs⟩ := hdj
      have hcl : cs.length = 11 := hcs.len
      have harr : H id = .arr 63 15 rows := by have := cr7.arr; simpa using this
      have hv := Int.ofNat_lt.2 hjr
      have hpvk : ∀ H1, KpS H H1 → LsV 51 1 H1 pv (intRows s.params) := fun H1 k => hpv.keep fun id sz xs hh => k id _ sz xs (by decide) hh
      have hcsk : ∀ H1, KpS H H1 → DenC 111 61 H1 s.code cs := fun H1 k => hcs.keep fun id e sz xs he hh => k id e sz xs (by rcases he with rfl | rfl <;> decide) hh
      simp -dsimp [Stable, AIns.wants, QStep, g7', g5', g3', n7i, n3i, harr, ir0, ir1, hj, hll, hrj]
      refine into_ok (by decide) (by decide) ?_
      generalize hd : intoS t3 5 = d at *
      have hw1 : IntKind.i64.wrap (1 + d) = 1 + d := by rw [wrap_i64] <;> omega
      have hw2 : IntKind.i64.wrap (s.slots + (1 + d)) = s.slots + (1 + d) := by rw [wrap_i64] <;> omega
      have hw3 : IntKind.i64.wrap (s.slots + (1 + d) - (1 + d)) = s.slots := by rw [show s.slots + (1 + d) - (1 + d) = s.slots by omega, wrap_i64] <;> omega
      simp -dsimp [Stable, AIns.wants, QStep, g7', g5', g3', n7i, n3i, harr, hrj, hw1, hw2, hcl]
      have kA : KpS H (hset H id (.arr 63 15 (rows.set j (supR s (s.slots + (1 + d)) pv cs)))) := (KpS.refl H).setS harr
      have cA := cr7.set (i := j) (s' := ⟨s.name, s.params, s.ty, s.slots + (1 + d), s.code⟩) (row' := supR s (s.slots + (1 + d)) pv cs) kA (by simp) ⟨pv, cs, rfl, hpvk _ kA, hcsk _ kA⟩
      simp only [supR, List.cons_append, List.nil_append] at cA
      have hsetl : ∀ s' : Sup, ((flatS p).set j s').length = (flatS p).length := fun s' => by simp
      have hsok : ∀ s' : Sup, SupOK s' → ∀ x ∈ (flatS p).set j s', SupOK x := fun s' h' x hx => by
        rcases List.mem_or_eq_of_mem_set hx with hx | rfl
        · exact (hsup x hx).1
        · exact h'
      refine chk _ _ _ _ _ _ _ (hsetl _) (by rw [hsetl]; omega) cA (hsok _ ⟨hso.nums, hso.binds, hso.len, by show s.slots + (1 + d) ≤ _; omega⟩) ?_
      rw [turned_less hf hsj (by omega)]
      have hset1 : ∀ r' : List AV, (rows.set j r')[j]? = some r' := fun r' => List.getElem?_set_self hjr
      simp -dsimp [Stable, AIns.wants, QStep, g7', g5', g3', n7i, n3i, hset1, hjr]
      refine into_ok (by decide) (by decide) ?_
      rw [hd]
      have hback : rows.set j (.str s.name :: pv :: .int .i64 s.ty :: .int .i64 s.slots :: cs) = rows := by
        have e1 := List.set_getElem_self hjr
        rw [(List.getElem?_eq_some_iff.1 hrj).2] at e1
        exact e1
      have hw4 : IntKind.i64.wrap s.slots = s.slots := by rw [wrap_i64] <;> omega
      have htk : cs.take 11 = cs := List.take_of_length_le (by omega)
      have hmin : min 11 cs.length = 11 := by omega
      simp -dsimp [Stable, AIns.wants, QStep, g7', g5', g3', n7i, n3i, hset1, hjr, hw1, hw4, htk, hmin, hback]
      have hel : rows[j] = .str s.name :: pv :: .int .i64 s.ty :: .int .i64 s.slots :: cs := (List.getElem?_eq_some_iff.1 hrj).2
      rw [hset_self harr]
      simp -dsimp [hel, hcl, htk]
      intro ib db
      have n7b := cells_ne g7' db
      have n3b := cells_ne g3' db
      have n5b := cells_ne g5' db
      have nib : ¬ id = ib := by rintro rfl; rw [harr] at db; cases db
      have hlr2 : p.length = rows.length := hlr.symm
      have hfl : (flatS p).length = rows.length := cr7.len.symm
      have hb1 : rows.length + 1 ≤ 4611686018427387904 := by omega
      have hb2 : (rows.length + 1) * 200 ≤ 140737488355328 := by omega
      simp -dsimp [Stable, AIns.wants, QStep, g7', n7b, nib, harr, hcl, hfl, hb1, hb2]
      intro ie de
      simp [hset] at de
      obtain ⟨neb, nbe, zde⟩ := de
      have n7e := cells_ne g7' zde
      have n3e := cells_ne g3' zde
      have n5e := cells_ne g5' zde
      have nie : ¬ id = ie := by rintro rfl; rw [harr] at zde; cases zde
      simp -dsimp [Stable, AIns.wants, QStep, g7', n7e, n7b, n7i]
      have k2 : KpS H (hset (hset (hset (hset H ib (.arr 63 15 [.str s.name :: pv :: .int .i64 s.ty :: .int .i64 s.slots :: cs])) id .dead) ie (.arr 63 15 (rows ++ [.str s.name :: pv :: .int .i64 s.ty :: .int .i64 s.slots :: cs]))) i7 (.cells [.sl ie 0 (rows.length + 1)])) :=
        ((((KpS.refl H).new db).setS (sz := 15) (xs := rows) (by simp [nib, harr])).new (by simp [neb, nie, zde])).setc (cs := [.sl id 0 (flatS p).length]) (by simp [n7e, n7b, n7i, g7'])
      have kk2 : Keeps h (hset (hset (hset (hset H ib (.arr 63 15 [.str s.name :: pv :: .int .i64 s.ty :: .int .i64 s.slots :: cs])) id .dead) ie (.arr 63 15 (rows ++ [.str s.name :: pv :: .int .i64 s.ty :: .int .i64 s.slots :: cs]))) i7 (.cells [.sl ie 0 (rows.length + 1)])) :=
        (((k17.new db).set zid).set (k17.dead zde)).set z7
      have g32 : (hset (hset (hset (hset H ib (.arr 63 15 [.str s.name :: pv :: .int .i64 s.ty :: .int .i64 s.slots :: cs])) id .dead) ie (.arr 63 15 (rows ++ [.str s.name :: pv :: .int .i64 s.ty :: .int .i64 s.slots :: cs]))) i7 (.cells [.sl ie 0 (rows.length + 1)])) i3 = .cells [.int .i64 t0, .int .i64 t1, .int .i64 t2, .int .i64 t3] := by
        simp [n37, n3e, n3i, n3b, g3']
      have g72 := hset_same (hset (hset (hset H ib (.arr 63 15 [.str s.name :: pv :: .int .i64 s.ty :: .int .i64 s.slots :: cs])) id .dead) ie (.arr 63 15 (rows ++ [.str s.name :: pv :: .int .i64 s.ty :: .int .i64 s.slots :: cs]))) i7 (.cells [.sl ie 0 (rows.length + 1)])
      have a2 : (hset (hset (hset (hset H ib (.arr 63 15 [.str s.name :: pv :: .int .i64 s.ty :: .int .i64 s.slots :: cs])) id .dead) ie (.arr 63 15 (rows ++ [.str s.name :: pv :: .int .i64 s.ty :: .int .i64 s.slots :: cs]))) i7 (.cells [.sl ie 0 (rows.length + 1)])) ie = .arr 63 15 (rows ++ [.str s.name :: pv :: .int .i64 s.ty :: .int .i64 s.slots :: cs]) := by
        simp [Ne.symm (a := i7) n7e]
      generalize (hset (hset (hset (hset H ib (.arr 63 15 [.str s.name :: pv :: .int .i64 s.ty :: .int .i64 s.slots :: cs])) id .dead) ie (.arr 63 15 (rows ++ [.str s.name :: pv :: .int .i64 s.ty :: .int .i64 s.slots :: cs]))) i7 (.cells [.sl ie 0 (rows.length + 1)])) = H2 at *
      have hds2 : DenS H2 s (.str s.name :: pv :: .int .i64 s.ty :: .int .i64 s.slots :: cs) := ⟨pv, cs, rfl, hpvk _ k2, hcsk _ k2⟩
      have cr2 : CrAt H2 ie (flatS p ++ [s]) (rows ++ [.str s.name :: pv :: .int .i64 s.ty :: .int .i64 s.slots :: cs]) [] := by
        refine ⟨by simpa using a2, by simp [hfl], fun i x row h1 h2 => ?_⟩
        by_cases hi : i < rows.length
        · rw [List.getElem?_append_left (by omega)] at h1
          rw [List.getElem?_append_left (by omega)] at h2
          exact (cr7.at_ i x row h1 h2).keepS k2
        · rw [List.getElem?_append_right (by omega)] at h1
          rw [List.getElem?_append_right (by omega), ] at h2
          rw [hfl] at h1
          have : i - rows.length = 0 := by
            have := (List.getElem?_eq_some_iff.1 h1).1
            simp at this; omega
          rw [this] at h1 h2
          simp at h1 h2
          subst h1; subst h2
          exact hds2
      refine chk _ _ _ _ _ _ _ (by simp [hfl]) (by simp; omega) cr2 (fun x hx => ?_) ?_
      · rcases List.mem_append.1 hx with hx | hx
        · exact (hsup x hx).1
        · rw [List.mem_singleton] at hx; subst hx; exact hso
      rw [turned_twice hsj]
      have hw5 : IntKind.i64.wrap ((rows.length : Int) + 1 - 1) = rows.length := by rw [show (rows.length : Int) + 1 - 1 = rows.length by omega, wrap_i64] <;> omega
      have hw6 : IntKind.i64.wrap (rows.length : Int) = rows.length := by rw [wrap_i64] <;> omega
      have n7e' : ¬ ie = i7 := fun x => n7e x.symm
      have hj' : intoS t0 rows.length = j := by rw [← hlr2]; exact hj
      simp -dsimp [Stable, AIns.wants, QStep, g72, hw5, hw6, a2, n37, g32]
      refine into_ok (by omega) (by omega) ?_
      rw [hj']
      have hjj : (j : Int) < (rows.length : Int) := by omega
      have hgj : (rows ++ [.str s.name :: pv :: .int .i64 s.ty :: .int .i64 s.slots :: cs])[j]? = some (.str s.name :: pv :: .int .i64 s.ty :: .int .i64 s.slots :: cs) := by rw [List.getElem?_append_left hjr]; exact hrj
      simp -dsimp [Stable, AIns.wants, QStep, g72, hw5, hw6, a2, n37, g32, n7e', n7e, hjr, hgj, hcl, htk]
      intro ic dc
      have neic : ¬ ie = ic := by
        rintro rfl
        simp [n7e', a2] at dc
      have n7c := cells_ne (hset_same H2 i7 (.cells [.sl ie 0 rows.length])) dc
      have hjl2 : j < rows.length + 1 := by omega
      have hw7 : IntKind.i64.wrap (s.slots + 1) = s.slots + 1 := by rw [wrap_i64] <;> omega
      have hset2 : ∀ r' : List AV, ((rows ++ [.str s.name :: pv :: .int .i64 s.ty :: .int .i64 s.slots :: cs]).set j r')[j]? = some r' := fun r' => List.getElem?_set_self (by simp; omega)
      have hgj2 : ∀ hh, (rows ++ [.str s.name :: pv :: .int .i64 s.ty :: .int .i64 s.slots :: cs])[j]'hh = .str s.name :: pv :: .int .i64 s.ty :: .int .i64 s.slots :: cs := fun hh => (List.getElem?_eq_some_iff.1 hgj).2
      have hdr : cs.drop 11 = [] := List.drop_eq_nil_of_le (by omega)
      simp -dsimp [Stable, AIns.wants, QStep, g72, a2, n7e', n7e, hjl2, hgj, hgj2, hcl, neic, n7c, hset2, hw7, hdr]
      rw [List.set_append_left _ _ hjr]
      have cr3 : CrAt H2 ie (flatS p) rows [.str s.name :: pv :: .int .i64 s.ty :: .int .i64 s.slots :: cs] := ⟨a2, cr7.len, fun i x row h1 h2 => (cr7.at_ i x row h1 h2).keepS k2⟩
      have zic : H2 ic = .dead := by
        have n7c' : ¬ ic = i7 := fun x => n7c x.symm
        simpa [n7c'] using dc
      have numsM : ∀ k : Int, SupOK (moreC s k) := fun k => by
        refine ⟨⟨⟨rfl, numOK_0⟩, (fun a ha => by cases ha), by decide, by simp, ⟨⟨rfl, numOK_0⟩, (fun a ha => by cases ha), by decide, by decide, trivial⟩, hso.nums, trivial⟩, ?_, hso.len, ?_⟩
        · rw [binds_more]; omega
        · show s.slots + 1 ≤ _; omega
      have denM : ∀ (k : Int) (H1 : Hp), KpS H H1 → H1 ic = .arr 61 11 [varCells k, cs] → DenS H1 (moreC s k) [.str s.name, pv, .int .i64 s.ty, .int .i64 (s.slots + 1), .int .i64 8, .int .i64 s.slots, .int .i64 0, .int .i64 0, .int .i64 0, .int .i64 0, .cplx 0 0, .bool false, .nl, .nl, .sl ic 0 2] := fun k H1 kk hic =>
        ⟨pv, _, rfl, hpvk _ kk, .nl, .sl ic 0 2, [varCells k, cs], rfl, .inl rfl, .inr (.inr ⟨ic, [], rfl, hic⟩), DenC.frozen (varC k), hcsk _ kk, trivial⟩
      have hk4 : KpS H2 (hset (hset (hset H2 i7 (.cells [.sl ie 0 rows.length])) ic (.arr 61 11 [varCells s.slots, cs])) ie (.arr 63 15 (rows.set j [.str s.name, pv, .int .i64 s.ty, .int .i64 (s.slots + 1), .int .i64 8, .int .i64 s.slots, .int .i64 0, .int .i64 0, .int .i64 0, .int .i64 0, .cplx 0 0, .bool false, .nl, .nl, .sl ic 0 2] ++ [.str s.name :: pv :: .int .i64 s.ty :: .int .i64 s.slots :: cs]))) :=
        ((((KpS.refl H2).setc g72).setd zic).setS (sz := 15) (xs := rows ++ [.str s.name :: pv :: .int .i64 s.ty :: .int .i64 s.slots :: cs]) (by simp [neic, n7e', a2]))
      have k2t : ∀ {H1 : Hp}, KpS H2 H1 → KpS H H1 := fun kk id e sz xs he hh => kk id e sz xs he (k2 id e sz xs he hh)
      have c4 := cr3.set (i := j) (s' := moreC s s.slots) hk4 (by simp) (denM s.slots _ (k2t hk4) (by simp [Ne.symm (a := ie) neic]))
      simp only [varCells] at c4
      refine chk _ _ _ _ _ _ _ (by rw [hsetl]; exact hfl) (by rw [hsetl]; omega) c4 (hsok _ (numsM _)) ?_
      rw [turned_more hf hfa hsj]
      have hset3 : ∀ (r' : List AV) (ex : List (List AV)), (rows.set j r' ++ ex)[j]? = some r' := fun r' ex => by rw [List.getElem?_append_left (by simpa using hjr)]; exact hset1 r'
      simp -dsimp [Stable, AIns.wants, QStep, g72, a2, n7e', n7e, hset3, neic, Ne.symm (a := ie) neic, n7c]
      have hk5 := hk4.setd (o := .arr 61 11 [varCells (s.slots + 1), cs]) zic
      have c5 := cr3.set (i := j) (s' := moreC s (s.slots + 1)) hk5 (by simp [neic]) (denM (s.slots + 1) _ (k2t hk5) (by simp))
      simp only [varCells] at c5
      refine chk _ _ _ _ _ _ _ (by rw [hsetl]; exact hfl) (by rw [hsetl]; omega) c5 (hsok _ (numsM _)) ?_
      rw [turned_last hf hsj]
      simp -dsimp
      exact Gives.sub ((((kk2.set z7).set (kk2.dead zic)).set (k17.dead zde)).set (kk2.dead zic)).sub hK
  · have hb' : (readS b).2 = false := by simpa using hb
    rw [hb']
    simp -dsimp
    exact Gives.sub (ks _).sub hK
theorem coreRight_in {x : AV} {cs : List AV} (h0 : ShV Tryz.prog 22 [x]) (h1 : ShV Tryz.prog 44 cs) : ACalls Tryz.prog 5 [x, .agg cs] (fun _ => .dead) (fun r _ => r = .bool true) := by
  obtain ⟨b, hb⟩ := h0.bytes Tryz.underlying22 Tryz.underlying5
  obtain ⟨hl, hf⟩ := h1.st_inv Tryz.underlying44
  have hc : Tryz.prog.cellsOf 44 = 4 := by kernel_rfl
  have hc3 : Tryz.prog.cellsOf 3 = 1 := by kernel_rfl
  rw [hc] at hl
  obtain ⟨a, b', c, d, rfl⟩ := list4 hl
  simp [hc3] at hf
  obtain ⟨f0, f1, f2, f3⟩ := hf
  obtain ⟨t0, e0, _⟩ := f0.int_inv Tryz.underlying3
  obtain ⟨t1, e1, _⟩ := f1.int_inv Tryz.underlying3
  obtain ⟨t2, e2, _⟩ := f2.int_inv Tryz.underlying3
  obtain ⟨t3, e3, _⟩ := f3.int_inv Tryz.underlying3
  cases e0; cases e1; cases e2; cases e3
  exact rightlaw_ok hb rfl
end Go.Proofs.YtcpkdbofohkipaaGreat
