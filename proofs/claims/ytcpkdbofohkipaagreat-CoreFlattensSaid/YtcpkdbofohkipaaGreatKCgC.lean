/- The document's flattening: a call or a cons. -/
import Derived.Test.YtcpkdbofohkipaaGreatKCgA
set_option linter.unusedVariables false
set_option linter.unusedSimpArgs false
namespace Go.Proofs.YtcpkdbofohkipaaGreat
open Go.AM
section
variable {p : List Df} {fid : Nat} {h h1 : Hp} {names : Nms} {n : Int} {K : AV → Hp → Prop}

theorem gatoms_ok {k : Nat} (hw : RCodes p fid k) {parts : List Ex} {op f : Int} {hi : Int} (hn : Ex.sizeL parts ≤ k) (hnm : names.length + 2 * Ex.sizeL parts ≤ 200000) (hn0 : 0 ≤ n) (hn1 : n + 4 * Ex.sizeL parts + 4 ≤ 400000) (hf : Ex.fineL hi parts) (hc : ∀ a ∈ parts, scOK p (names.map Prod.fst) a) (hpos : NmPos names) (c : h fid = rfO p n)
    (hK : K (.agg (letsS p names (.mk op 0 0 f 0 vl0 (atomsL names parts n).1 []) parts (atomsL names parts n).1 (atomsL names parts n).2).1.cells) (hset h fid (rfO p (letsS p names (.mk op 0 0 f 0 vl0 (atomsL names parts n).1 []) parts (atomsL names parts n).1 (atomsL names parts n).2).2))) :
    ACalls Tryz.prog 56 [.ptr fid 0, .agg (cd0 op f .nl), rowsAV (parts.map Ex.cells), rowsAV (nmRows names)] h K := by
  refine calls_of mixed Tryz.func56 comp56 (Nat.le_of_ble_eq_true rfl) ?_
  have hll := Ex.sizeL_len parts
  simp -dsimp [c56, cd0]
  intro i5 d5
  simp -dsimp
  intro i8 d8
  have n58 := hset_ne d8
  have n85 : ¬ i8 = i5 := fun x => n58 x.symm
  have cx : ∀ {H : Hp} {n' : Int} {j : Nat} {o : AObj}, H fid = rfO p n' → H j = .dead → hset H j o fid = rfO p n' := fun hH hj => at_new hH (by simp [rfO]) hj
  have k5 : KeepsX [fid] h (hset h i5 (.cells (cd0 op f .nl))) := KeepsX.refl.new d5
  have c5 : hset h i5 (.cells (cd0 op f .nl)) fid = rfO p n := cx c d5
  have m5f : ¬ i5 = fid := fun x => by
    have := d5; rw [x, c] at this; simp [rfO] at this
  have m8f : ¬ i8 = fid := fun x => by
    have := d8; simp at this; rw [x, c] at this; simp [rfO] at this
  simp -dsimp [n58]
  refine ALoop.start (fun m tm h' => ∃ (i : Nat) (r : AV), i + m = parts.length ∧ tm 0 = .ptr fid 0 ∧ tm 2 = rowsAV (parts.map Ex.cells) ∧ tm 3 = rowsAV (nmRows names) ∧ tm 5 = .ptr i5 0 ∧ tm 8 = .ptr i8 0 ∧ tm 10 = .int .i64 i ∧
    h' i5 = .cells (cd0 op f r) ∧ h' i8 = .cells (cd0 0 0 .nl) ∧ h' fid = rfO p (atomsL names (parts.take i) n).2 ∧ KeepsX [fid] h h' ∧ OwnF h .nl h' 111 5 r ((atomsL names (parts.take i) n).1.map Atm.cells) ∧ OwnF h .nl h' 3 1 (tm 9) (intRows (idxs names 0 (parts.take i)))) parts.length
    ⟨0, .nl, by simp, by simp, by simp, by simp, by simp, by simp, by simp, by simp [n58, cd0], by simp [cd0], ?_, (KeepsX.refl.new d5).new d8, .inl ⟨by simp [atomsL], rfl⟩, .inl ⟨by simp [idxs, intRows], by simp⟩⟩ ?_
  · exact cx (o := .cells (cd0 0 0 .nl)) c5 d8
  have d5' : h i5 = .dead := d5
  have z8 : h i8 = .dead := by
    have := d8; simp at this; exact this.2.2
  clear c5 k5 d8 d5
  rintro m tm h' ⟨i, r, hi', t0, t2, t3, t5, t8, t10, g5, g8, c', kf, oa, ol⟩
  have hw1 : IntKind.i64.wrap ((i : Int) + 1) = ((i + 1 : Nat) : Int) := by rw [wrap_i64] <;> omega
  by_cases hlt : i < parts.length
  · have hmem := List.getElem_mem hlt
    have hci := hc _ hmem
    have hat := atomsL_snoc names (parts.take i) parts[i] n
    have hid := idxs_snoc names (parts.take i) 0 parts[i]
    rw [← take_snoc parts hlt] at hat hid
    have hnx := atomsL_next names (parts.take i) n
    have hal := atomsL_length names (parts.take i) n
    have hil := idxs_length names (parts.take i) 0
    have hnl := nonAt_le names (parts.take i)
    have hnl2 : nonAt names (parts.take i) ≤ (parts.take i).length := by
      rw [← idxs_nonAt names _ 0]; exact hil
    have hmin : min i parts.length = i := by omega
    simp only [List.length_take, hmin, Nat.zero_add] at hal hil hnl2 hid
    have hfl := oa.flat
    have hgi : (parts.map Ex.cells)[i]? = some parts[i].cells := by simp [hlt]
    generalize hx : parts[i] = x at *
    generalize hA : atomsL names (parts.take i) n = A at *
    generalize hI : idxs names 0 (parts.take i) = I at *
    simp -dsimp [t2, t10, hlt, hx]
    refine glit_ok ?_
    simp -dsimp
    intro i11 d11
    simp -dsimp
    intro i13 d13
    have n1113 := hset_ne d13
    have n1311 : ¬ i13 = i11 := fun x => n1113 x.symm
    have n511 := cells_ne g5 d11
    have n811 := cells_ne g8 d11
    have b5 := cells_new (o' := .cells ((litS x).getD vl0).cells) g5 d11
    have b8 := cells_new (o' := .cells ((litS x).getD vl0).cells) g8 d11
    have n513 := cells_ne b5 d13
    have n813 := cells_ne b8 d13
    have n135 : ¬ i13 = i5 := fun x => n513 x.symm
    -- the end of a round
    have fin : ∀ (a' : Atm) (H2 : Hp) (r9 : AV) (n2 : Int) (I2 : List Int) (tm' : Tm), atomsL names (parts.take (i + 1)) n = (A.1 ++ [a'], n2) → idxs names 0 (parts.take (i + 1)) = I2 → H2 fid = rfO p n2 → KeepsX [fid] h H2 → OwnF h .nl H2 111 5 r (A.1.map Atm.cells) → OwnF h .nl H2 3 1 r9 (intRows I2) →
        H2 i5 = .cells (cd0 op f r) → H2 i8 = .cells (cd0 0 0 .nl) → ∀ (i61 : Nat), H2 i61 = .dead → ∀ (r' : AV) (h3 : Hp), OwnF h .nl h3 111 5 r' (A.1.map Atm.cells ++ [a'.cells]) → KeepsE 111 (hset H2 i61 (.arr 111 5 [a'.cells])) h3 → (∀ j, Free h .nl j ∨ h3 j = hset H2 i61 (.arr 111 5 [a'.cells]) j) →
        tm' 0 = .ptr fid 0 → tm' 2 = rowsAV (parts.map Ex.cells) → tm' 3 = rowsAV (nmRows names) → tm' 5 = .ptr i5 0 → tm' 8 = .ptr i8 0 → tm' 10 = .int .i64 ((i + 1 : Nat) : Int) → tm' 9 = r9 →
        ∃ (i : Nat) (r : AV), i + (m - 1) = parts.length ∧ tm' 0 = .ptr fid 0 ∧ tm' 2 = rowsAV (parts.map Ex.cells) ∧ tm' 3 = rowsAV (nmRows names) ∧ tm' 5 = .ptr i5 0 ∧ tm' 8 = .ptr i8 0 ∧ tm' 10 = .int .i64 i ∧
          hset h3 i5 (.cells (cd0 op f r')) i5 = .cells (cd0 op f r) ∧ hset h3 i5 (.cells (cd0 op f r')) i8 = .cells (cd0 0 0 .nl) ∧ hset h3 i5 (.cells (cd0 op f r')) fid = rfO p (atomsL names (parts.take i) n).2 ∧ KeepsX [fid] h (hset h3 i5 (.cells (cd0 op f r'))) ∧
          OwnF h .nl (hset h3 i5 (.cells (cd0 op f r'))) 111 5 r ((atomsL names (parts.take i) n).1.map Atm.cells) ∧ OwnF h .nl (hset h3 i5 (.cells (cd0 op f r'))) 3 1 (tm' 9) (intRows (idxs names 0 (parts.take i))) := by
      intro a' H2 r9 n2 I2 tm' ha hI2 c2 k2 o2 l2 q5 q8 i61 d61 r' h3 o3 ke kb b0 b2 b3 b5 b8 b10 b9
      have q53 : h3 i5 = .cells (cd0 op f r) := ke.cells (cells_new q5 d61)
      have q83 : h3 i8 = .cells (cd0 0 0 .nl) := ke.cells (cells_new q8 d61)
      have q63 : h3 fid = rfO p n2 := ke.cells (cx c2 d61)
      have k3 := kx_changed (k2.new (o := .arr 111 5 [a'.cells]) d61) kb
      have l3 : OwnF h .nl h3 3 1 r9 (intRows I2) := by
        refine (l2.new (x := .arr 111 5 [a'.cells]) d61).eqs fun j xs hj => ?_
        rw [ke.arr hj (by decide), hj]
      have m5f' : ¬ fid = i5 := fun x => m5f x.symm
      have z5 : h i5 = .dead := by
        exact d5'
      refine ⟨i + 1, r', by omega, b0, b2, b3, b5, b8, b10, by simp, by simp [n85, q83], by simp [m5f', q63, ha], k3.set z5, ?_, ?_⟩
      · rw [ha]
        have := o3.setc (x := .cells (cd0 op f r')) q53
        simpa using this
      · rw [b9, hI2]; exact l3.setc q53
    have c13 : hset (hset h' i11 (.cells ((litS x).getD vl0).cells)) i13 (.cells (.int .i64 (-1) :: ((litS x).getD vl0).cells)) fid = rfO p A.2 := cx (cx c' d11) d13
    have k13 : KeepsX [fid] h (hset (hset h' i11 (.cells ((litS x).getD vl0).cells)) i13 (.cells (.int .i64 (-1) :: ((litS x).getD vl0).cells))) := (kf.new d11).new d13
    have oa13 := (oa.new (x := .cells ((litS x).getD vl0).cells) d11).new (x := .cells (.int .i64 (-1) :: ((litS x).getD vl0).cells)) d13
    have ol13 := (ol.new (x := .cells ((litS x).getD vl0).cells) d11).new (x := .cells (.int .i64 (-1) :: ((litS x).getD vl0).cells)) d13
    have e5 := cells_new (o' := .cells (.int .i64 (-1) :: ((litS x).getD vl0).cells)) b5 d13
    have e8 := cells_new (o' := .cells (.int .i64 (-1) :: ((litS x).getD vl0).cells)) b8 d13
    have e13 : hset (hset h' i11 (.cells ((litS x).getD vl0).cells)) i13 (.cells (.int .i64 (-1) :: ((litS x).getD vl0).cells)) i13 = .cells (⟨-1, (litS x).getD vl0⟩ : Atm).cells := by simp [Atm.cells]
    have z13 : h i13 = .dead := (kf.new d11).dead d13 (by
      rw [List.mem_singleton]
      rintro rfl
      rw [cx c' d11] at d13; simp [rfO] at d13)
    have m13f : ¬ i13 = fid := by
      rintro rfl
      rw [cx c' d11] at d13; simp [rfO] at d13
    have m13f' : ¬ fid = i13 := fun x => m13f x.symm
    by_cases o6 : x.op = 6
    · have hax : atomS names x = some ⟨(lastN x.name names).getD 0, vl0⟩ := by simp [atomS, o6]
      rw [hax] at hat hid
      simp only [Option.isSome_some, if_true, List.append_nil] at hid
      simp only at hat
      simp -dsimp [t2, t3, t10, hlt, hx, o6]
      refine gfind_ok (by omega) ?_
      generalize hset (hset h' i11 (.cells ((litS x).getD vl0).cells)) i13 (.cells (.int .i64 (-1) :: ((litS x).getD vl0).cells)) = H at *
      simp -dsimp [t5, e13, e5, n513, cd0]
      intro i61 d61
      have oa2 := oa13.setc (x := .cells (⟨(lastN x.name names).getD 0, vl0⟩ : Atm).cells) e13
      have ol2 := ol13.setc (x := .cells (⟨(lastN x.name names).getD 0, vl0⟩ : Atm).cells) e13
      have k2 : KeepsX [fid] h (hset H i13 (.cells (⟨(lastN x.name names).getD 0, vl0⟩ : Atm).cells)) := k13.set z13
      have c2 : hset H i13 (.cells (⟨(lastN x.name names).getD 0, vl0⟩ : Atm).cells) fid = rfO p A.2 := by simp [m13f', c13]
      have f5 : hset H i13 (.cells (⟨(lastN x.name names).getD 0, vl0⟩ : Atm).cells) i5 = .cells (cd0 op f r) := by simp [n513, e5]
      have f8 : hset H i13 (.cells (⟨(lastN x.name names).getD 0, vl0⟩ : Atm).cells) i8 = .cells (cd0 0 0 .nl) := by simp [n813, e8]
      have ez : (AObj.cells [.int .i64 ((lastN x.name names).getD 0), .int .i64 0, .cplx 0 0, .bool false, .nl]) = .cells (⟨(lastN x.name names).getD 0, vl0⟩ : Atm).cells := rfl
      rw [ez] at d61 ⊢
      generalize hset H i13 (.cells (⟨(lastN x.name names).getD 0, vl0⟩ : Atm).cells) = H2 at *
      simp -dsimp
      refine (oa2.new (x := .arr 111 5 [(⟨(lastN x.name names).getD 0, vl0⟩ : Atm).cells]) d61).push (fun j hj => kx_free (S := []) (k2.new d61) (cx c2 d61) hj) (by simp; omega) (by decide) fun r' h3 o3 ke kb _ => ?_
      have g53 : h3 i5 = .cells (cd0 op f r) := ke.cells (cells_new f5 d61)
      have hfl3 := o3.flat
      simp -dsimp [t5, t10, g53, cd0, hfl3, hw1]
      exact Again.same (m - 1) (by omega) (fin ⟨(lastN x.name names).getD 0, vl0⟩ H2 _ _ _ _ hat hid c2 k2 oa2 ol2 f5 f8 i61 d61 r' h3 o3 ke kb (by simp [t0]) (by simp [t2]) (by simp [t3]) (by simp [t5]) (by simp [t8]) (by simp) (by simp))
    cases hl : litS x with
    | some w =>
      have hax : atomS names x = some ⟨-1, w⟩ := by simp [atomS, o6, hl]
      rw [hax] at hat hid
      simp only [Option.isSome_some, if_true, List.append_nil] at hid
      simp only at hat
      simp only [hl, Option.getD_some] at c13 k13 oa13 ol13 e5 e8 e13
      have ez : (AV.int .i64 (-1) :: w.cells) = (⟨-1, w⟩ : Atm).cells := rfl
      rw [ez] at c13 k13 oa13 ol13 e5 e8 e13
      simp -dsimp [t2, t3, t10, hlt, hx, o6]
      rw [ez]
      generalize hset (hset h' i11 (.cells w.cells)) i13 (.cells (⟨-1, w⟩ : Atm).cells) = H at *
      simp -dsimp [t5, e13, e5, n513, cd0]
      intro i61 d61
      simp -dsimp
      refine (oa13.new (x := .arr 111 5 [(⟨-1, w⟩ : Atm).cells]) d61).push (fun j hj => kx_free (S := []) (k13.new d61) (cx c13 d61) hj) (by simp; omega) (by decide) fun r' h3 o3 ke kb _ => ?_
      have g53 : h3 i5 = .cells (cd0 op f r) := ke.cells (cells_new e5 d61)
      have hfl3 := o3.flat
      simp -dsimp [t5, t10, g53, cd0, hfl3, hw1]
      exact Again.same (m - 1) (by omega) (fin ⟨-1, w⟩ H _ _ _ _ hat hid c13 k13 oa13 ol13 e5 e8 i61 d61 r' h3 o3 ke kb (by simp [t0]) (by simp [t2]) (by simp [t3]) (by simp [t5]) (by simp [t8]) (by simp) (by simp))
    | none =>
      have hax : atomS names x = none := by simp [atomS, o6, hl]
      rw [hax] at hat hid
      simp only [Option.isSome_none, Bool.false_eq_true, if_false] at hid
      simp only at hat
      simp only [hl, Option.getD_none] at c13 k13 oa13 ol13 e5 e8 e13
      have ez : (AV.int .i64 (-1) :: vl0.cells) = (⟨-1, vl0⟩ : Atm).cells := rfl
      rw [ez] at c13 k13 oa13 ol13 e5 e8 e13
      simp -dsimp [t0, t2, t3, t10, hlt, hx, o6]
      rw [ez]
      generalize hset (hset h' i11 (.cells vl0.cells)) i13 (.cells (⟨-1, vl0⟩ : Atm).cells) = H at *
      refine gfresh_ok c13 ⟨by omega, by omega⟩ ?_
      have m5f' : ¬ fid = i5 := fun x => m5f x.symm
      have m8f' : ¬ fid = i8 := fun x => m8f x.symm
      simp -dsimp [t10, m13f, e13]
      intro i56 d56
      have ez2 : (AObj.cells [.int .i64 A.2, .int .i64 0, .cplx 0 0, .bool false, .nl]) = .cells (⟨A.2, vl0⟩ : Atm).cells := rfl
      rw [ez2] at d56 ⊢
      have c2 : hset (hset H fid (rfO p (A.2 + 1))) i13 (.cells (⟨A.2, vl0⟩ : Atm).cells) fid = rfO p (A.2 + 1) := by simp [m13f']
      have k2 : KeepsX [fid] h (hset (hset H fid (rfO p (A.2 + 1))) i13 (.cells (⟨A.2, vl0⟩ : Atm).cells)) := (k13.mem (by simp)).set z13
      have e13' : hset H fid (rfO p (A.2 + 1)) i13 = .cells (⟨-1, vl0⟩ : Atm).cells := by simp [m13f, e13]
      have oa2 := (oa13.setc (x := rfO p (A.2 + 1)) c13).setc (x := .cells (⟨A.2, vl0⟩ : Atm).cells) e13'
      have ol2 := (ol13.setc (x := rfO p (A.2 + 1)) c13).setc (x := .cells (⟨A.2, vl0⟩ : Atm).cells) e13'
      have f5 : hset (hset H fid (rfO p (A.2 + 1))) i13 (.cells (⟨A.2, vl0⟩ : Atm).cells) i5 = .cells (cd0 op f r) := by simp [n513, m5f, e5]
      have f8 : hset (hset H fid (rfO p (A.2 + 1))) i13 (.cells (⟨A.2, vl0⟩ : Atm).cells) i8 = .cells (cd0 0 0 .nl) := by simp [n813, m8f, e8]
      have f13 : hset (hset H fid (rfO p (A.2 + 1))) i13 (.cells (⟨A.2, vl0⟩ : Atm).cells) i13 = .cells (⟨A.2, vl0⟩ : Atm).cells := by simp
      generalize hset (hset H fid (rfO p (A.2 + 1))) i13 (.cells (⟨A.2, vl0⟩ : Atm).cells) = H2 at *
      simp -dsimp
      refine (ol2.new (x := .arr 3 1 [[.int .i64 i]]) d56).push (fun j hj => kx_free (S := []) (k2.new d56) (cx c2 d56) hj) (by simp; omega) (by decide) fun w9 h4 l4 ke4 kb4 _ => ?_
      have g5' : h4 i5 = .cells (cd0 op f r) := ke4.cells (cells_new f5 d56)
      have g8' : h4 i8 = .cells (cd0 0 0 .nl) := ke4.cells (cells_new f8 d56)
      have g13' : h4 i13 = .cells (⟨A.2, vl0⟩ : Atm).cells := ke4.cells (cells_new f13 d56)
      have c4 : h4 fid = rfO p (A.2 + 1) := ke4.cells (cx c2 d56)
      have k4 := kx_changed (k2.new (o := .arr 3 1 [[.int .i64 i]]) d56) kb4
      have oa4 : OwnF h .nl h4 111 5 r (A.1.map Atm.cells) := by
        refine (oa2.new (x := .arr 3 1 [[.int .i64 i]]) d56).eqs fun j xs hj => ?_
        rw [ke4.arr hj (by decide), hj]
      simp -dsimp [t5, g13', g5', cd0]
      intro i61 d61
      simp -dsimp
      refine (oa4.new (x := .arr 111 5 [(⟨A.2, vl0⟩ : Atm).cells]) d61).push (fun j hj => kx_free (S := []) (k4.new d61) (cx c4 d61) hj) (by simp; omega) (by decide) fun r' h5 o5 ke kb _ => ?_
      have g55 : h5 i5 = .cells (cd0 op f r) := ke.cells (cells_new g5' d61)
      have hfl5 := o5.flat
      simp -dsimp [t5, t10, g55, cd0, hfl5, hw1]
      exact Again.same (m - 1) (by omega) (fin ⟨A.2, vl0⟩ h4 w9 (A.2 + 1) (I ++ [(i : Int)]) _ hat (by simpa using hid) c4 k4 oa4 (by simpa [intRows] using l4) g5' g8' i61 d61 r' h5 o5 ke kb (by simp [t0]) (by simp [t2]) (by simp [t3]) (by simp [t5]) (by simp [t8]) (by simp) (by simp))
  · have htk : parts.take i = parts := List.take_of_length_le (by omega)
    rw [htk] at c' oa ol
    have hAn := atomsL_next names parts n
    have hAl := atomsL_length names parts n
    have hIl := naL_length names parts 0
    have hNs := naL_size names parts
    have hNl := Ex.sizeL_len (naL names parts)
    have hna : nonAt names parts ≤ Ex.sizeL parts := nonAt_le names parts
    have hna2 : nonAt names parts = (naL names parts).length := by rw [← idxs_nonAt names parts 0, hIl]
    have hle := lets_eq p names (.mk op 0 0 f 0 vl0 (atomsL names parts n).1 []) parts (atomsL names parts n).1 (atomsL names parts n).2 hAl
    rw [hle] at hK
    generalize hA : atomsL names parts n = A at *
    simp -dsimp [t2, t10, hlt]
    generalize hw9 : tm 9 = w9 at *
    refine ALoop.start (fun m tm h' => ∃ (q : Nat), q + m = (naL names parts).length ∧ tm 0 = .ptr fid 0 ∧ tm 2 = rowsAV (parts.map Ex.cells) ∧ tm 3 = rowsAV (nmRows names) ∧ tm 5 = .ptr i5 0 ∧ tm 8 = .ptr i8 0 ∧ tm 9 = w9 ∧ tm 15 = .int .i64 q ∧
      h' i5 = .cells (cd0 op f r) ∧ h' i8 = .cells (cd0 0 0 .nl) ∧ h' fid = rfO p (allS p names ((naL names parts).take q) A.2).2 ∧ KeepsX [fid] h h' ∧ OwnF h .nl h' 111 5 r (A.1.map Atm.cells) ∧ OwnF h .nl h' 3 1 w9 (intRows (idxs names 0 parts)) ∧
      OwnF h .nl h' 61 11 (tm 14) ((allS p names ((naL names parts).take q) A.2).1.map Cd.cells)) (naL names parts).length
      ⟨0, by simp, by simp [t0], by simp [t2], by simp [t3], by simp [t5], by simp [t8], by simp [hw9], by simp, g5, g8, by simpa [allS] using c', kf, oa, ol, .inl ⟨by simp [allS], by simp⟩⟩ ?_
    clear t0 t2 t3 t5 t8 t10 g5 g8 c' kf oa ol hw9 hw1 hlt htk hi'
    clear i
    rintro m tm h' ⟨q, hq, t0, t2, t3, t5, t8, t9, t15, g5, g8, c', kf, oa, ol, ow⟩
    have hw1 : IntKind.i64.wrap ((q : Int) + 1) = ((q + 1 : Nat) : Int) := by rw [wrap_i64] <;> omega
    have hlen9 := ol.len
    have hln : (intRows (idxs names 0 parts)).length = (naL names parts).length := by rw [intRows_length, hIl]
    rw [hln] at hlen9
    by_cases hlt : q < (naL names parts).length
    · obtain ⟨j, hj, hx1, hx2, hx3⟩ := idxs_at (k := 0) hlt
      rw [Nat.zero_add] at hx1
      have hxe : (naL names parts)[q] = parts[j] := by
        rw [List.getElem?_eq_getElem hlt] at hx2
        exact Option.some.inj hx2
      have hmem := List.getElem_mem hj
      have hfi := Ex.fineL_mem hf hmem
      have hci := hc _ hmem
      have hsn := allS_snoc p names ((naL names parts).take q) (naL names parts)[q] A.2
      rw [← take_snoc _ hlt, hxe] at hsn
      have hnx := allS_next p ((naL names parts).take q) names A.2
      have hln2 := allS_length p names ((naL names parts).take q) A.2
      have hst : Ex.sizeL ((naL names parts).take q) + parts[j].size + ((naL names parts).length - (q + 1)) ≤ Ex.sizeL parts := by
        have h9 := Ex.sizeL_len ((naL names parts).drop (q + 1))
        rw [List.length_drop] at h9
        have := Ex.sizeL_append ((naL names parts).take (q + 1)) ((naL names parts).drop (q + 1))
        rw [List.take_append_drop, take_snoc _ hlt, Ex.sizeL_append, hxe] at this
        simp only [Ex.sizeL] at this; omega
      have hmin : min q (naL names parts).length = q := by omega
      simp only [List.length_take, hmin] at hln2 hnx
      have hoq : (intRows (idxs names 0 parts))[q]? = some [.int .i64 j] := by simp [intRows, hx1]
      have hIlt : q < (idxs names 0 parts).length := by omega
      have hIget : (idxs names 0 parts)[q] = (j : Int) := by
        rw [List.getElem?_eq_getElem hIlt] at hx1
        exact Option.some.inj hx1
      rcases ol with ⟨e0, _⟩ | ⟨id9, hn9, hd9, rfl, ha9⟩
      · rw [e0] at hln; simp at hln; omega
      generalize hx : parts[j] = x at *
      generalize hB : allS p names ((naL names parts).take q) A.2 = B at *
      simp -dsimp [t0, t2, t3, t9, t15, hlen9, hIl, hlt, hIlt, ha9, hIget, intRows, hj, hx]
      refine hw x hi names _ h' _ (by omega) (by omega) (by omega) (by omega) hfi hci hpos c' ?_
      generalize hC : codeS p names x B.2 = C at *
      have m5f' : ¬ fid = i5 := fun x => m5f x.symm
      have m8f' : ¬ fid = i8 := fun x => m8f x.symm
      have c2 : hset h' fid (rfO p C.2) fid = rfO p C.2 := by simp
      have k2 : KeepsX [fid] h (hset h' fid (rfO p C.2)) := kf.mem (by simp)
      have ow2 := ow.setc (x := rfO p C.2) c'
      have oa2 := oa.setc (x := rfO p C.2) c'
      have f5 : hset h' fid (rfO p C.2) i5 = .cells (cd0 op f r) := by simp [m5f, g5]
      have f8 : hset h' fid (rfO p C.2) i8 = .cells (cd0 0 0 .nl) := by simp [m8f, g8]
      have m9f : ¬ id9 = fid := by rintro rfl; rw [ha9] at c'; cases c'
      have f9 : hset h' fid (rfO p C.2) id9 = .arr 3 1 (intRows (idxs names 0 parts)) := by simp [m9f, ha9]
      generalize hset h' fid (rfO p C.2) = H at *
      simp -dsimp
      intro i16 d16
      simp -dsimp
      intro i82 d82
      have c82 := cx (o := .arr 61 11 [C.1.cells]) (cx (o := .cells C.1.cells) c2 d16) d82
      have k82 := (k2.new (o := .cells C.1.cells) d16).new (o := .arr 61 11 [C.1.cells]) d82
      have ow82 := (ow2.new (x := .cells C.1.cells) d16).new (x := .arr 61 11 [C.1.cells]) d82
      have oa82 := (oa2.new (x := .cells C.1.cells) d16).new (x := .arr 61 11 [C.1.cells]) d82
      have g582 := cells_new (o' := .arr 61 11 [C.1.cells]) (cells_new (o' := .cells C.1.cells) f5 d16) d82
      have g882 := cells_new (o' := .arr 61 11 [C.1.cells]) (cells_new (o' := .cells C.1.cells) f8 d16) d82
      have g982 := at_new (o' := .arr 61 11 [C.1.cells]) (at_new (o' := .cells C.1.cells) f9 (by simp) d16) (by simp) d82
      simp -dsimp
      refine ow82.push (fun j hj => kx_free (S := []) k82 c82 hj) (by simp; omega) (by decide) fun r' h3 o3 ke kb _ => ?_
      simp -dsimp [t15, hw1]
      refine Again.same (m - 1) (by omega) ⟨q + 1, by omega, by simp [t0], by simp [t2], by simp [t3], by simp [t5], by simp [t8], by simp [t9], by simp, ke.cells g582, ke.cells g882, ?_, kx_changed k82 kb, ?_, .inr ⟨id9, hn9, hd9, rfl, ?_⟩, ?_⟩
      · rw [hsn]; exact ke.cells c82
      · refine oa82.eqs fun j xs hj => ?_
        rw [ke.arr hj (by decide), hj]
      · rw [ke.arr g982 (by decide)]
      · rw [hsn]; simpa using o3
    · have htk2 : (naL names parts).take q = naL names parts := List.take_of_length_le (by omega)
      rw [htk2] at c' ow
      have hWl := allS_length p names (naL names parts) A.2
      have hSl := slotsL_length names parts A.1 hAl
      have hcd : (cd0 op f r).length = 11 := rfl
      have htk3 : (cd0 op f r).take 11 = cd0 op f r := rfl
      have hw0 : IntKind.i64.wrap (((naL names parts).length : Int) - 1) = ((naL names parts).length : Int) - 1 := by rw [wrap_i64] <;> omega
      have hfr0 : Frz h' (hset h fid (rfO p (allS p names (naL names parts) A.2).2)) (.agg (cd0 op f r)) (.agg (Cd.mk op 0 0 f 0 vl0 A.1 []).cells) :=
        Frz.cell (a := [.int .i64 op, .int .i64 0, .int .i64 0, .int .i64 f, .int .i64 0, .int .i64 0, .cplx 0 0, .bool false, .nl]) (b := [.nl]) (own_dead oa c')
      generalize hW : allS p names (naL names parts) A.2 = W at *
      simp -dsimp [t5, t9, t15, hlen9, hlt, hIl, g5, hcd, htk3]
      intro i17 d17
      have n517 := cells_ne g5 d17
      have n817 := cells_ne g8 d17
      have cz0 : cd0 op f r = [.int .i64 op, .int .i64 0, .int .i64 0, .int .i64 f, .int .i64 0, .int .i64 0, .cplx 0 0, .bool false, .nl, r, .nl] := rfl
      simp -dsimp [t9, hlen9, hIl, hw0, hcd]
      generalize hw14 : tm 14 = w14 at *
      have z17 : h i17 = .dead := kf.dead d17 (by
        rw [List.mem_singleton]
        rintro rfl
        rw [c'] at d17; simp [rfO] at d17)
      have m17f : ¬ i17 = fid := fun x => by rw [x, c'] at d17; simp [rfO] at d17
      refine ALoop.start (fun m tm h' => ∃ (cs : List AV), m ≤ (naL names parts).length ∧ tm 5 = .ptr i5 0 ∧ tm 8 = .ptr i8 0 ∧ tm 9 = w9 ∧ tm 14 = w14 ∧ tm 17 = .ptr i17 0 ∧ tm 18 = .int .i64 ((m : Int) - 1) ∧
        h' i5 = .cells (cd0 op f r) ∧ h' i8 = .cells (cd0 0 0 .nl) ∧ h' i17 = .cells cs ∧ cs.length = 11 ∧ h' fid = rfO p W.2 ∧ KeepsX [fid] h h' ∧ OwnF h .nl h' 111 5 r (A.1.map Atm.cells) ∧ OwnF h .nl h' 3 1 w9 (intRows (idxs names 0 parts)) ∧
        OwnF h .nl h' 61 11 w14 (W.1.map Cd.cells) ∧ Frz h' (hset h fid (rfO p W.2)) (.agg cs) (.agg (letsF (.mk op 0 0 f 0 vl0 A.1 []) ((slotsL names parts A.1).drop m) (W.1.drop m)).cells)) (naL names parts).length
        ⟨cd0 op f r, Nat.le_refl _, by simp [t5], by simp [t8], by simp [t9], by simp [hw14], by simp, by simp, by simp [n517, g5], by simp [n817, g8], by simp, rfl, cx (o := .cells (cd0 op f r)) c' d17, kf.new d17, oa.new d17, ol.new d17, ow.new d17, ?_⟩ ?_
      · rw [List.drop_eq_nil_of_le (by omega)]
        refine Frz.mono (fun id e sz xs hi => ?_) hfr0
        exact at_new hi (by simp) d17
      clear t0 t2 t3 t5 t8 t9 t15 g5 g8 c' kf oa ow hw14 hfr0 d17 hw0 hw1 hlt hlen9 hcd htk3 hq htk2
      clear ol
      rintro m tm h' ⟨cs, hm, t5, t8, t9, t14, t17, t18, g5, g8, g17, hcs, c', kf, oa, ol, ow, hfz⟩
      have htk3 : cs.take 11 = cs := List.take_of_length_le (by omega)
      have hdr3 : cs.drop 11 = [] := List.drop_eq_nil_of_le (by omega)
      have n178 : ¬ i17 = i8 := fun x => n817 x.symm
      cases m with
      | zero =>
        rw [List.drop_zero, List.drop_zero] at hfz
        simp -dsimp [t8, t17, t18, g17, g8, hcs, htk3, hdr3, n178, cd0]
        have k8 : Sub (hset h fid (rfO p W.2)) (hset h' i8 (.cells cs)) := (kf.set z8).sub1 (by simp [show ¬ fid = i8 from fun x => m8f x.symm, c'])
        refine Gives.frz k8 (Frz.mono (fun id e sz xs hi => ?_) hfz) hK
        have : ¬ id = i8 := by rintro rfl; rw [g8] at hi; cases hi
        simp [this, hi]
      | succ m =>
        have hlt : m < (naL names parts).length := by omega
        obtain ⟨j, hj, hx1, hx2, hx3⟩ := idxs_at (k := 0) hlt
        have hx3' := hx3 A.1 hAl
        rw [Nat.zero_add] at hx1
        have hjA : j < A.1.length := by omega
        have hIlt : m < (idxs names 0 parts).length := by omega
        have hIget : (idxs names 0 parts)[m] = (j : Int) := by
          rw [List.getElem?_eq_getElem hIlt] at hx1
          exact Option.some.inj hx1
        have hSlt : m < (slotsL names parts A.1).length := by omega
        have hWlt : m < W.1.length := by omega
        have hSget : (slotsL names parts A.1)[m] = A.1[j].slot := by
          rw [List.getElem?_eq_getElem hSlt, List.getElem?_eq_getElem hjA] at hx3'
          exact Option.some.inj hx3'
        have hdS := List.drop_eq_getElem_cons hSlt
        have hdW := List.drop_eq_getElem_cons hWlt
        rw [hSget] at hdS
        rcases ol with ⟨e0, _⟩ | ⟨id9, hn9, hd9, hr9, ha9⟩
        · rw [e0] at hln; simp at hln; omega
        rcases oa with ⟨e0, _⟩ | ⟨id5, hn5, hd5, hr5, ha5⟩
        · have : A.1 = [] := by simpa using e0
          rw [this] at hjA; simp at hjA
        rcases ow with ⟨e0, _⟩ | ⟨id14, hn14, hd14, hr14, ha14⟩
        · have : W.1 = [] := by simpa using e0
          rw [this] at hWlt; simp at hWlt
        have e1 : ((m + 1 : Nat) : Int) - 1 = m := by omega
        rw [e1] at t18
        have hw2 : IntKind.i64.wrap ((m : Int) - 1) = (m : Int) - 1 := by rw [wrap_i64] <;> omega
        have hlI : (intRows (idxs names 0 parts)).length = (naL names parts).length := hln
        have hge : (0 : Int) ≤ m := by omega
        generalize hAj : A.1[j] = aj at *
        generalize hWj : W.1[m] = wj at *
        subst hr5 hr9 hr14
        simp -dsimp [t5, t9, t14, t17, t18, hge, g5, cd0, g17, ha9, ha5, ha14, hIlt, hIget, intRows, hlt, hIl, hAl, hWl, hj, hjA, hWlt, hAj, hWj, hcs, htk3, Stable, AIns.wants, QStep]
        intro i106 d106
        have q5 := cells_ne g5 d106
        have q17 := cells_ne g17 d106
        have q9 : ¬ id9 = i106 := by rintro rfl; rw [ha9] at d106; cases d106
        have q55 : ¬ id5 = i106 := by rintro rfl; rw [ha5] at d106; cases d106
        have q14 : ¬ id14 = i106 := by rintro rfl; rw [ha14] at d106; cases d106
        simp -dsimp [Stable, AIns.wants, QStep, t17, t18, q5, q17, q9, q55, q14, g5, g17, ha9, ha5, ha14, cd0, hIlt, hIget, intRows, hlt, hIl, hAl, hWl, hj, hjA, hWlt, hAj, hWj, hcs, htk3, hdr3, hw2]
        have n17' : ¬ i17 = i106 := q17
        have z106 : h i106 = .dead := kf.dead d106 (by
          rw [List.mem_singleton]
          rintro rfl
          rw [c'] at d106; simp [rfO] at d106)
        have c106 := cx (o := .arr 61 11 [wj.cells, cs]) c' d106
        have p17 := cells_new (o' := .arr 61 11 [wj.cells, cs]) g17 d106
        have m17f' : ¬ fid = i17 := fun x => m17f x.symm
        have n5i : ¬ i5 = i17 := n517
        have n8i : ¬ i8 = i17 := n817
        have q8 := cells_ne g8 d106
        refine Again.same m (by omega) ⟨[.int .i64 8, .int .i64 aj.slot, .int .i64 0, .int .i64 0, .int .i64 0, .int .i64 0, .cplx 0 0, .bool false, .nl, .nl, .sl i106 0 2], by omega, by simp [t5], by simp [t8], by simp [t9], by simp [t14], by simp [t17], by simp, by simp [n5i, q5, g5, cd0], by simp [n8i, q8, g8], by simp, rfl, by rw [hset_at, if_neg m17f']; exact c106, (kf.new d106).set z17,
          OwnF.setc (OwnF.new (.inr ⟨id5, hn5, hd5, by simp [hAl], ha5⟩) d106) p17, OwnF.setc (OwnF.new (.inr ⟨id9, hn9, hd9, by simp [intRows, hIl], ha9⟩) d106) p17, OwnF.setc (OwnF.new (.inr ⟨id14, hn14, hd14, by simp [hWl], ha14⟩) d106) p17, ?_⟩
        rw [hdS, hdW]
        simp only [letsF]
        have hmono : Frz (hset (hset h' i106 (.arr 61 11 [wj.cells, cs])) i17 (.cells [.int .i64 8, .int .i64 aj.slot, .int .i64 0, .int .i64 0, .int .i64 0, .int .i64 0, .cplx 0 0, .bool false, .nl, .nl, .sl i106 0 2])) (hset h fid (rfO p W.2)) (.agg cs) (.agg (letsF (.mk op 0 0 f 0 vl0 A.1 []) ((slotsL names parts A.1).drop (m + 1)) (W.1.drop (m + 1))).cells) := by
          refine Frz.mono (fun id e sz xs hi => ?_) hfz
          have y1 : ¬ id = i106 := by rintro rfl; rw [hi] at d106; cases d106
          have y2 : ¬ id = i17 := by rintro rfl; rw [hi] at g17; cases g17
          simp [y1, y2, hi]
        generalize letsF (.mk op 0 0 f 0 vl0 A.1 []) ((slotsL names parts A.1).drop (m + 1)) (W.1.drop (m + 1)) = out at *
        have m106f : ¬ i106 = fid := by
          rintro rfl
          rw [c'] at d106; simp [rfO] at d106
        have n10617 : ¬ i106 = i17 := fun x => q17 x.symm
        refine Frz.cell (a := [.int .i64 8, .int .i64 aj.slot, .int .i64 0, .int .i64 0, .int .i64 0, .int .i64 0, .cplx 0 0, .bool false, .nl, .nl]) (b := []) (c := .sl i106 0 2) (d := rowsAV (Cd.rows [wj, out])) ?_
        refine Frz.rows2 (id := i106) (e := 61) (sz := 11) (xs := [wj.cells, cs]) (ys := [wj.cells, out.cells]) (by simp [n10617]) (by simp [m106f, z106]) rfl (fun i x y hx hy => ?_)
        match i with
        | 0 => simp at hx hy; subst hx; subst hy; exact .same _
        | 1 => simp at hx hy; subst hx; subst hy; exact hmono
        | i + 2 => simp at hx
end
end Go.Proofs.YtcpkdbofohkipaaGreat
