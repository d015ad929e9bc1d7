/- AM: points are of their types. -/
import Derived.Test.YtghidedifiolbaaGreatK10
import Derived.Test.YtghidedifiolbaaGreatK09
set_option linter.unusedVariables false
set_option linter.unusedSimpArgs false
namespace Go.AM

theorem allPt_of : ∀ {l q : List Int}, l.length = q.length → (∀ (k : Nat) (t x : Int), l[k]? = some t → q[k]? = some x → 0 ≤ x ∧ x ≤ topS t) → allPt l q = true
  | [], [], _, _ => rfl
  | t :: l, x :: q, hl, h => by
    have h0 := h 0 t x rfl rfl
    simp only [allPt, Bool.and_eq_true, isPt, decide_eq_true_eq]
    exact ⟨h0, allPt_of (by simpa using hl) fun k t x h1 h2 => h (k + 1) t x (by simpa using h1) (by simpa using h2)⟩
  | [], _ :: _, hl, _ => by simp at hl
  | _ :: _, [], hl, _ => by simp at hl
theorem ex_args2 {l : List Ex} (h : l.length = 2) : ∃ a b, l = [a, b] := by
  match l, h with
  | [a, b], _ => exact ⟨a, b, rfl⟩
theorem ex_args3 {l : List Ex} (h : l.length = 3) : ∃ a b c, l = [a, b, c] := by
  match l, h with
  | [a, b, c], _ => exact ⟨a, b, c, rfl⟩
theorem casesS_mem {q : Int} {w : Bool × Int × Int} (h : w ∈ casesS q) : w.1 = false → (0 ≤ w.2.1 ∧ w.2.1 ≤ 1) ∧ 0 ≤ w.2.2 ∧ w.2.2 ≤ 3 := by
  simp only [casesS] at h
  split at h
  · simp at h; subst h; simp
  split at h
  · simp at h; rcases h with rfl | rfl <;> simp
  split at h
  · simp at h; rcases h with rfl | rfl <;> simp
  · cases h
theorem fold_max {α : Type} {f : α → Int} {top : Int} : ∀ (l : List α) (m : Int), 0 ≤ m → m ≤ top → (∀ w ∈ l, f w ≤ top) → 0 ≤ l.foldl (fun m w => max m (f w)) m ∧ l.foldl (fun m w => max m (f w)) m ≤ top
  | [], m, h0, h1, _ => ⟨h0, h1⟩
  | w :: l, m, h0, h1, h => by
    have := h w (by simp)
    exact fold_max l (max m (f w)) (by omega) (by omega) (fun x hx => h x (by simp [hx]))
section
variable {p : List Df} {T : List (List Int)}
theorem withinS_none {env : List Pm} {e : Ex} {i : Nat} (h : e.op ≠ 20 ∧ e.op ≠ 21 ∧ e.op ≠ 22) : withinS env e i = env := by
  simp [withinS, h]
theorem ptS_range (hT : TabOK p T) (hpp : ∀ f ∈ p, ∀ x ∈ f.params, tyOK x.ty) : ∀ (n : Nat) (e : Ex) (env : List Pm) (nm : Nms) (t hi : Int), e.size ≤ n → e.fine hi → callsOK p e → tyOK t → wrongS p env t e = [] → EnvPt env nm → 0 ≤ ptS p T e nm ∧ ptS p T e nm ≤ topS t
  | 0, e, _, _, _, _, hn, _, _, _, _, _ => by have := e.size_pos; omega
  | n + 1, e, env, nm, t, hi, hn, hf, hc, ht, hw, he => by
    have hown := (wrong_own hw).1
    have ih : ∀ (k : Nat) (a : Ex) (nm' : Nms), e.args[k]? = some a → EnvPt (withinS env e k) nm' → tyOK (wantedS p e k t) → 0 ≤ ptS p T a nm' ∧ ptS p T a nm' ≤ topS (wantedS p e k t) := fun k a nm' ha hnm hty => by
      have hm := List.mem_of_getElem? ha
      have hs := Ex.size_mem hm
      refine ptS_range hT hpp n a (withinS env e k) nm' (wantedS p e k t) hi ?_ ?_ ?_ hty (wrong_at hw ha) hnm
      · cases e; simp only [Ex.size, Ex.args] at hn hs; omega
      · cases e; exact Ex.fineL_mem hf.2.2.2.2 hm
      · exact callsL_mem (callsOK_eq.1 hc).2 hm
    have har : arOK e.op e.args.length := by cases e; exact hf.1
    have htop := topS_ok ht
    rw [ptS_eq]
    by_cases o1 : e.op = 1 ∨ e.op = 2 ∨ e.op = 3
    · rw [if_pos o1]; omega
    rw [if_neg o1]
    by_cases o4 : e.op = 4
    · rw [if_pos o4]
      have : (3 : Int) = t := by simpa [ownS, o4] using hown
      subst this; simp [topS]
    rw [if_neg o4]
    by_cases o5 : e.op = 5
    · rw [if_pos o5]; omega
    rw [if_neg o5]
    by_cases o6 : e.op = 6
    · rw [if_pos o6]
      have hl : (lastT e.name env).getD (-1) = t := by simpa [ownS, o6] using hown
      rcases he.last (n := e.name) with ⟨h1, h2⟩ | ⟨t', q, h1, h2, h3, h4⟩
      · rw [h2]; simp; omega
      · rw [h1] at hl; simp at hl; subst hl
        rw [h2]; exact ⟨h3, h4⟩
    rw [if_neg o6]
    by_cases o19 : e.op = 19
    · rw [if_pos o19]
      obtain ⟨a, b, c, hargs⟩ := ex_args3 (l := e.args) (by simp [arOK, o19] at har; exact har)
      have hwi : ∀ k, withinS env e k = env := fun k => withinS_none (by simp [o19])
      have hw1 : wantedS p e 1 t = t := by simp [wantedS, o19]
      have hw2 : wantedS p e 2 t = t := by simp [wantedS, o19]
      have i1 := ih 1 b nm (by rw [hargs]; rfl) (by rw [hwi]; exact he) (by rw [hw1]; exact ht)
      have i2 := ih 2 c nm (by rw [hargs]; rfl) (by rw [hwi]; exact he) (by rw [hw2]; exact ht)
      rw [hw1] at i1; rw [hw2] at i2
      rw [hargs]
      simp only [ifP]
      split <;> omega
    rw [if_neg o19]
    by_cases o20 : e.op = 20
    · rw [if_pos o20]
      obtain ⟨a, b, c, hargs⟩ := ex_args3 (l := e.args) (by simp [arOK, o20] at har; exact har)
      have hw1 : wantedS p e 1 t = t := by simp [wantedS, o20]
      have hw2 : wantedS p e 2 t = t := by simp [wantedS, o20]
      have hwi : withinS env e 1 = env := by simp [withinS, o20]
      have hwi2 : withinS env e 2 = env ++ [⟨e.name, 1, 0⟩] ++ [⟨e.tail, 3, 0⟩] := by simp [withinS, o20]
      have i1 := ih 1 b nm (by rw [hargs]; rfl) (by rw [hwi]; exact he) (by rw [hw1]; exact ht)
      rw [hw1] at i1
      rw [hargs]
      simp only [caseP]
      refine fold_max _ 0 (Int.le_refl _) (by omega) fun w hm => ?_
      have hc := casesS_mem hm
      cases hb : w.1 with
      | true => simp only [if_true]; exact i1.2
      | false =>
        simp only [Bool.false_eq_true, if_false]
        obtain ⟨h1, h2⟩ := hc hb
        have i2 := ih 2 c (bindN (bindN nm e.name w.2.1) e.tail w.2.2) (by rw [hargs]; rfl) (by
          rw [hwi2]
          exact (he.snoc rfl h1.1 (by simpa [topS] using h1.2)).snoc rfl h2.1 (by simpa [topS] using h2.2)) (by rw [hw2]; exact ht)
        rw [hw2] at i2
        exact i2.2
    rw [if_neg o20]
    by_cases o21 : e.op = 21
    · rw [if_pos o21]
      obtain ⟨a, b, hargs⟩ := ex_args2 (l := e.args) (by simp [arOK, o21] at har; exact har)
      have hty : tyOK e.ty := by cases e; exact hf.2.1 (.inr (.inl o21))
      have hw0 : wantedS p e 0 t = e.ty := by simp [wantedS, o21]
      have hw1 : wantedS p e 1 t = t := by simp [wantedS, o21]
      have hwi : ∀ k, withinS env e k = env ++ [⟨e.name, e.ty, 0⟩] := fun k => by simp [withinS, o21]
      have hf0 : ∀ q, 0 ≤ q → q ≤ topS e.ty → 0 ≤ ptS p T a (bindN nm e.name q) ∧ ptS p T a (bindN nm e.name q) ≤ topS e.ty := fun q h0 h1 => by
        have := ih 0 a (bindN nm e.name q) (by rw [hargs]; rfl) (by rw [hwi]; exact he.snoc rfl h0 h1) (by rw [hw0]; exact hty)
        rwa [hw0] at this
      have hr := fixI_range hf0 4 0 (Int.le_refl _) (by have := topS_ok hty; omega)
      have i1 := ih 1 b (bindN nm e.name (fixI (fun q => ptS p T a (bindN nm e.name q)) 4 0)) (by rw [hargs]; rfl) (by rw [hwi]; exact he.snoc rfl hr.1 hr.2) (by rw [hw1]; exact ht)
      rw [hw1] at i1
      rw [hargs]
      simp only [letP]
      exact i1
    rw [if_neg o21]
    by_cases o22 : e.op = 22
    · rw [if_pos o22]
      obtain ⟨a, b, hargs⟩ := ex_args2 (l := e.args) (by simp [arOK, o22] at har; exact har)
      have hty : tyOK e.ty := by cases e; exact hf.2.1 (.inr (.inr o22))
      have hw0 : wantedS p e 0 t = e.ty := by simp [wantedS, o22]
      have hw1 : wantedS p e 1 t = t := by simp [wantedS, o22]
      have hwi0 : withinS env e 0 = env := by simp [withinS, o22]
      have hwi1 : withinS env e 1 = env ++ [⟨e.name, e.ty, 0⟩] := by simp [withinS, o22]
      have i0 := ih 0 a nm (by rw [hargs]; rfl) (by rw [hwi0]; exact he) (by rw [hw0]; exact hty)
      rw [hw0] at i0
      have i1 := ih 1 b (bindN nm e.name (ptS p T a nm)) (by rw [hargs]; rfl) (by rw [hwi1]; exact he.snoc rfl i0.1 i0.2) (by rw [hw1]; exact ht)
      rw [hw1] at i1
      rw [hargs]
      simp only [strP]
      split <;> omega
    rw [if_neg o22]
    have hwi : ∀ k, withinS env e k = env := fun k => withinS_none ⟨o20, o21, o22⟩
    rw [allP_map]
    simp only [joinS]
    by_cases o18 : e.op = 18
    · rw [if_pos o18]
      obtain ⟨a, b, hargs⟩ := ex_args2 (l := e.args) (by simp [arOK, o18] at har; exact har)
      have hw0 : wantedS p e 0 t = 1 := by simp [wantedS, o18]
      have hw1 : wantedS p e 1 t = 3 := by simp [wantedS, o18]
      have i0 := ih 0 a nm (by rw [hargs]; rfl) (by rw [hwi]; exact he) (by rw [hw0]; exact .inl rfl)
      have i1 := ih 1 b nm (by rw [hargs]; rfl) (by rw [hwi]; exact he) (by rw [hw1]; exact .inr (.inr rfl))
      rw [hw0] at i0; rw [hw1] at i1
      have h3 : (3 : Int) = t := by simpa [ownS, o18] using hown
      subst h3
      simp [topS] at i0 i1
      have := consP_range i0.1 i0.2 i1.1 i1.2
      rw [hargs]
      simp [topS]
      omega
    rw [if_neg o18]
    by_cases o7 : e.op = 7
    · rw [if_pos o7]
      obtain ⟨f, h1, h2⟩ := (callsOK_eq.1 hc).1 o7
      have hfm := (headD_mem h1).1
      have hty : f.ty = t := by simpa [ownS, o7, h1, h2] using hown
      have hal : allPt (tysF f) (e.args.map fun a => ptS p T a nm) = true := by
        refine allPt_of (by simp [tysF, h2]) fun k t' x k1 k2 => ?_
        simp only [tysF, List.getElem?_map, Option.map_eq_some_iff] at k1 k2
        obtain ⟨x', hx', rfl⟩ := k1
        obtain ⟨a, ha, rfl⟩ := k2
        have hwk : wantedS p e k t = x'.ty := by simp [wantedS, o7, h1, hx']
        have := ih k a nm ha (by rw [hwi]; exact he) (by rw [hwk]; exact hpp f hfm x' (List.mem_of_getElem? hx'))
        rwa [hwk] at this
      have := (call_range (k := 0) hT h1 (by simp [h2]) hal).2
      rw [← hty]; exact this
    rw [if_neg o7]
    have hk : (t = 1 ∨ t = 2) ∧ ∀ k, wantedS p e k t = 1 ∨ wantedS p e k t = 2 := by
      have hops : e.op = 8 ∨ e.op = 9 ∨ e.op = 10 ∨ e.op = 11 ∨ e.op = 12 ∨ e.op = 13 ∨ e.op = 14 ∨ e.op = 15 ∨ e.op = 16 ∨ e.op = 17 := by
        simp only [arOK] at har; omega
      refine ⟨?_, fun k => ?_⟩
      · rcases hops with h | h | h | h | h | h | h | h | h | h <;> (simp [ownS, h] at hown; omega)
      · rcases hops with h | h | h | h | h | h | h | h | h | h <;> simp [wantedS, h]
    have hm := minS_range (e.args.map fun a => ptS p T a nm) 1 (by decide) (by decide) (fun x hx => by
      obtain ⟨a, ha, rfl⟩ := List.mem_map.1 hx
      obtain ⟨k, hk2⟩ := List.getElem?_of_mem ha
      exact (ih k a nm hk2 (by rw [hwi]; exact he) (by rcases hk.2 k with h | h <;> rw [h]; exact .inl rfl; exact .inr (.inl rfl))).1)
    refine ⟨hm.1, ?_⟩
    have : topS t = 1 := by rcases hk.1 with h | h <;> simp [topS, h]
    rw [this]; exact hm.2
end
end Go.AM

/- AM: operations on words. -/
namespace Go.AM

theorem wrap_u64 {n : Int} (h0 : 0 ≤ n) (h1 : n < 18446744073709551616) : IntKind.u64.wrap n = n := by
  simp [IntKind.wrap, IntKind.signed, IntKind.bits]; omega
theorem ofInt64 (a : Nat) (h : a < 2 ^ 64) : (BitVec.ofInt 64 (a : Int)).toNat = a := by
  rw [BitVec.toNat_ofInt]
  omega
theorem u64_and {a b : Nat} (ha : a < 2 ^ 64) (hb : b < 2 ^ 64) : abin .and (.int .u64 a) (.int .u64 b) = some (.int .u64 ((a &&& b : Nat) : Int)) := by
  have hl : a &&& b < 2 ^ 64 := Nat.and_lt_two_pow a hb
  show (if IntKind.u64 = IntKind.u64 then some (AV.int .u64 (IntKind.u64.wrap (((BitVec.ofInt 64 (a : Int) &&& BitVec.ofInt 64 (b : Int)).toNat : Nat) : Int))) else none) = _
  rw [if_pos rfl, BitVec.toNat_and, ofInt64 a ha, ofInt64 b hb, wrap_u64 (by omega) (by omega)]
theorem u64_or {a b : Nat} (ha : a < 2 ^ 64) (hb : b < 2 ^ 64) : abin .or (.int .u64 a) (.int .u64 b) = some (.int .u64 ((a ||| b : Nat) : Int)) := by
  have hl : a ||| b < 2 ^ 64 := Nat.or_lt_two_pow ha hb
  show (if IntKind.u64 = IntKind.u64 then some (AV.int .u64 (IntKind.u64.wrap (((BitVec.ofInt 64 (a : Int) ||| BitVec.ofInt 64 (b : Int)).toNat : Nat) : Int))) else none) = _
  rw [if_pos rfl, BitVec.toNat_or, ofInt64 a ha, ofInt64 b hb, wrap_u64 (by omega) (by omega)]
theorem u64_xor {a b : Nat} (ha : a < 2 ^ 64) (hb : b < 2 ^ 64) : abin .xor (.int .u64 a) (.int .u64 b) = some (.int .u64 ((a ^^^ b : Nat) : Int)) := by
  have hl : a ^^^ b < 2 ^ 64 := Nat.xor_lt_two_pow ha hb
  show (if IntKind.u64 = IntKind.u64 then some (AV.int .u64 (IntKind.u64.wrap (((BitVec.ofInt 64 (a : Int) ^^^ BitVec.ofInt 64 (b : Int)).toNat : Nat) : Int))) else none) = _
  rw [if_pos rfl, BitVec.toNat_xor, ofInt64 a ha, ofInt64 b hb, wrap_u64 (by omega) (by omega)]
theorem u64_not {a : Nat} (ha : a < 2 ^ 64) : aun .xor (.int .u64 a) = some (.int .u64 ((2 ^ 64 - (a + 1) : Nat) : Int)) := by
  have e1 : (BitVec.ofInt 64 (18446744073709551615 : Int)) = BitVec.allOnes 64 := by decide
  have e3 : (~~~ (BitVec.ofInt 64 (a : Int))).toNat = 2 ^ 64 - (a + 1) := by
    rw [BitVec.toNat_not, ofInt64 a ha]; omega
  show some (AV.int .u64 (IntKind.u64.wrap (((BitVec.ofInt 64 (18446744073709551615 : Int) ^^^ BitVec.ofInt 64 (a : Int)).toNat : Nat) : Int))) = _
  rw [e1, BitVec.allOnes_xor, e3, wrap_u64 (by omega) (by omega)]
theorem u64_shr {a : Nat} (k : Nat) (kk : IntKind) (hk : k < 64) : abin .shr (.int .u64 a) (.int kk k) = some (.int .u64 ((a / 2 ^ k : Nat) : Int)) := by
  have h0 : ¬ (k : Int) < 0 := by omega
  have h1 : min (k : Int).toNat IntKind.u64.bits = k := by simp [IntKind.bits]; omega
  simp only [abin, shI, h0, if_false, h1]
  congr 2
  rw [Int.fdiv_eq_ediv_of_nonneg _ (by exact Int.pow_nonneg (by decide))]
  simp
theorem u64_shl {a : Nat} (k : Nat) (kk : IntKind) (hk : k < 64) (ha : a * 2 ^ k < 2 ^ 64) : abin .shl (.int .u64 a) (.int kk k) = some (.int .u64 ((a * 2 ^ k : Nat) : Int)) := by
  have h0 : ¬ (k : Int) < 0 := by omega
  have h1 : min (k : Int).toNat IntKind.u64.bits = k := by simp [IntKind.bits]; omega
  simp only [abin, shI, h0, if_false, h1]
  congr 2
  rw [show ((a : Int) * 2 ^ k) = ((a * 2 ^ k : Nat) : Int) by simp, wrap_u64 (by omega) (by omega)]
theorem i64_and127 {a : Nat} (ha : a < 2 ^ 63) : abin .and (.int .i64 a) (.int .i64 127) = some (.int .i64 ((a % 128 : Nat) : Int)) := by
  have e : (127 : Int) = ((127 : Nat) : Int) := rfl
  have h2 : a &&& 127 = a % 128 := Nat.and_two_pow_sub_one_eq_mod a 7
  rw [e]
  show (if IntKind.i64 = IntKind.i64 then some (AV.int .i64 (IntKind.i64.wrap (((BitVec.ofInt 64 (a : Int) &&& BitVec.ofInt 64 ((127 : Nat) : Int)).toNat : Nat) : Int))) else none) = _
  rw [if_pos rfl, BitVec.toNat_and, ofInt64 a (by omega), ofInt64 127 (by decide), h2, wrap_i64] <;> omega
theorem u64_and3 (a : Nat) (ha : a < 2 ^ 64) : a &&& 3 = a % 4 := Nat.and_two_pow_sub_one_eq_mod a 2
end Go.AM

/- AM: rows that are packed; numbers of tuples, step by step. -/
namespace Go.AM

theorem cap_step (a k : Nat) (hk : 1 ≤ k) : min (min a 4097 * k) 4097 = min (a * k) 4097 := by
  by_cases h : a ≤ 4097
  · rw [Nat.min_eq_left h]
  · rw [Nat.min_eq_right (by omega : 4097 ≤ a)]
    have h1 : 4097 * 1 ≤ 4097 * k := Nat.mul_le_mul_left _ hk
    have h2 : a * 1 ≤ a * k := Nat.mul_le_mul_left _ hk
    omega
theorem allPt_get : ∀ {l q : List Int} {i : Nat} {t x : Int}, allPt l q = true → l[i]? = some t → q[i]? = some x → isPt t x = true
  | [], _, _, _, _, _, h, _ => by simp at h
  | _ :: _, [], _, _, _, _, _, h => by simp at h
  | a :: l, b :: q, 0, t, x, h, h1, h2 => by
    simp only [allPt, Bool.and_eq_true] at h
    simp at h1 h2; subst h1; subst h2; exact h.1
  | a :: l, b :: q, i + 1, t, x, h, h1, h2 => by
    simp only [allPt, Bool.and_eq_true] at h
    exact allPt_get h.2 (by simpa using h1) (by simpa using h2)
/-! ### Rows that are packed -/
def packN (c : List Nat) : Nat → List Nat
  | 0 => []
  | i + 1 => (if i % 32 = 0 then packN c i ++ [0] else packN c i).set (i / 32) ((if i % 32 = 0 then packN c i ++ [0] else packN c i).getD (i / 32) 0 + c.getD i 0 * 4 ^ (i % 32))
def packB (c : List Nat) : List Nat := packN c c.length
theorem cell_low {w x k j : Nat} (hj : j < k) : (w + x * 4 ^ k) / 4 ^ j % 4 = w / 4 ^ j % 4 := by
  have e : x * 4 ^ k = 4 ^ j * (4 * (x * 4 ^ (k - j - 1))) := by
    rw [show k = j + (1 + (k - j - 1)) by omega, Nat.pow_add, Nat.pow_add, show j + (1 + (k - j - 1)) - j - 1 = k - j - 1 by omega]
    simp [Nat.mul_comm, Nat.mul_left_comm, Nat.mul_assoc]
  rw [e, Nat.add_mul_div_left _ _ (Nat.pow_pos (by decide)), Nat.add_mul_mod_self_left]
theorem cell_at {w x k : Nat} (hw : w < 4 ^ k) (hx : x < 4) : (w + x * 4 ^ k) / 4 ^ k % 4 = x := by
  rw [Nat.add_mul_div_right _ _ (Nat.pow_pos (by decide)), Nat.div_eq_of_lt hw]
  omega
theorem cell_high {w x k j : Nat} (hw : w < 4 ^ k) (hx : x < 4) (hj : k < j) : (w + x * 4 ^ k) / 4 ^ j % 4 = 0 := by
  have h1 : w + x * 4 ^ k < 4 ^ (k + 1) := by
    have : x * 4 ^ k ≤ 3 * 4 ^ k := Nat.mul_le_mul_right _ (by omega)
    rw [Nat.pow_succ]; omega
  have h2 : 4 ^ (k + 1) ≤ 4 ^ j := Nat.pow_le_pow_right (by decide) (by omega)
  rw [Nat.div_eq_of_lt (by omega)]
theorem or_add {w x k : Nat} (hw : w < 4 ^ k) : w ||| x * 4 ^ k = w + x * 4 ^ k := by
  have e : (4 : Nat) ^ k = 2 ^ (2 * k) := by rw [Nat.pow_mul]
  rw [e] at hw ⊢
  have := Nat.two_pow_add_eq_or_of_lt hw x
  rw [Nat.mul_comm, Nat.or_comm, ← this]; omega
/-- What is packed. -/
structure Packed (c : List Nat) (i : Nat) (b : List Nat) : Prop where
  len : b.length = (i + 31) / 32
  top : ∀ k w, b[k]? = some w → w < 4 ^ (if 32 * (k + 1) ≤ i then 32 else i - 32 * k)
  cell : ∀ j, cellB b j = if j < i then c.getD j 0 else 0
theorem packed (c : List Nat) (hc : ∀ x ∈ c, x < 4) : ∀ i, i ≤ c.length → Packed c i (packN c i)
  | 0, _ => ⟨rfl, (fun k w h => by simp [packN] at h), fun j => by simp [packN, cellB]⟩
  | i + 1, hi => by
    have ih := packed c hc i (by omega)
    have hx : c.getD i 0 < 4 := by
      have : c.getD i 0 = c[i] := by simp [List.getD, show i < c.length by omega]
      rw [this]; exact hc _ (List.getElem_mem _)
    -- the list with room for one more
    obtain ⟨b, hb, hlen, htop, hcell⟩ : ∃ b, b = (if i % 32 = 0 then packN c i ++ [0] else packN c i) ∧ b.length = (i + 32) / 32 ∧ (∀ k w, b[k]? = some w → w < 4 ^ (if 32 * (k + 1) ≤ i then 32 else i - 32 * k)) ∧ ∀ j, cellB b j = if j < i then c.getD j 0 else 0 := by
      refine ⟨_, rfl, ?_, ?_, ?_⟩
      · split
        · rw [List.length_append, ih.len]; simp; omega
        · rw [ih.len]; omega
      · intro k w h
        split at h
        · rename_i h0
          by_cases hk : k < (packN c i).length
          · rw [List.getElem?_append_left hk] at h; exact ih.top k w h
          · rw [List.getElem?_append_right (by omega)] at h
            have : k - (packN c i).length = 0 := by
              have := (List.getElem?_eq_some_iff.1 h).1
              simp at this; omega
            rw [this] at h
            simp at h; subst h
            exact Nat.pow_pos (by decide)
        · exact ih.top k w h
      · intro j
        rw [← ih.cell j]
        split
        · simp only [cellB]
          by_cases hk : j / 32 < (packN c i).length
          · rw [List.getD_eq_getElem?_getD, List.getElem?_append_left hk, ← List.getD_eq_getElem?_getD]
          · have e1 : (packN c i).getD (j / 32) 0 = 0 := by simp [List.getD, List.getElem?_eq_none (by omega : (packN c i).length ≤ j / 32)]
            have e2 : (packN c i ++ [0]).getD (j / 32) 0 = 0 := by
              rw [List.getD_eq_getElem?_getD, List.getElem?_append_right (by omega)]
              cases h : ([0] : List Nat)[j / 32 - (packN c i).length]? with
              | none => rfl
              | some w =>
                have := List.mem_of_getElem? h
                simp at this; subst this; rfl
            rw [e1, e2]
        · rfl
    have hk : i / 32 < b.length := by omega
    obtain ⟨w, hw⟩ : ∃ w, b[i / 32]? = some w := ⟨_, List.getElem?_eq_getElem hk⟩
    have hwt := htop _ _ hw
    rw [if_neg (by omega)] at hwt
    have e32 : i - 32 * (i / 32) = i % 32 := by omega
    rw [e32] at hwt
    have hg : b.getD (i / 32) 0 = w := by simp [List.getD, hw]
    have hp : packN c (i + 1) = b.set (i / 32) (w + c.getD i 0 * 4 ^ (i % 32)) := by rw [packN, ← hb, hg]
    rw [hp]
    refine ⟨by rw [List.length_set, hlen], fun k v h => ?_, fun j => ?_⟩
    · rw [List.getElem?_set] at h
      split at h
      · rename_i e
        cases h
        have h1 : w + c.getD i 0 * 4 ^ (i % 32) < 4 ^ (i % 32 + 1) := by
          have : c.getD i 0 * 4 ^ (i % 32) ≤ 3 * 4 ^ (i % 32) := Nat.mul_le_mul_right _ (by omega)
          rw [Nat.pow_succ]; omega
        have h2 : (if 32 * (k + 1) ≤ i + 1 then 32 else i + 1 - 32 * k) = i % 32 + 1 := by split <;> omega
        rw [h2]; exact h1
      · rename_i e
        have h1 := htop k v h
        refine Nat.lt_of_lt_of_le h1 (Nat.pow_le_pow_right (by decide) ?_)
        split <;> split <;> omega
    · simp only [cellB]
      have hj := hcell j
      simp only [cellB] at hj
      rw [List.getD_eq_getElem?_getD, List.getElem?_set]
      by_cases e : i / 32 = j / 32
      · rw [if_pos e, if_pos hk, Option.getD_some]
        have hj0 : b.getD (j / 32) 0 = w := by rw [← e]; exact hg
        rw [hj0] at hj
        by_cases h1 : j < i
        · rw [cell_low (by omega), hj, if_pos h1, if_pos (by omega)]
        · by_cases h2 : j = i
          · subst h2
            rw [cell_at hwt hx, if_pos (by omega)]
          · rw [cell_high hwt hx (by omega), if_neg (by omega)]
      · rw [if_neg e, ← List.getD_eq_getElem?_getD, hj]
        by_cases h1 : j < i
        · rw [if_pos h1, if_pos (by omega)]
        · rw [if_neg h1, if_neg (by omega)]
theorem packB_ok {c : List Nat} (hc : ∀ x ∈ c, x < 4) : (packB c).length = (c.length + 31) / 32 ∧ W64 (packB c) ∧ ∀ j, cellB (packB c) j = if j < c.length then c.getD j 0 else 0 := by
  have h := packed c hc c.length (Nat.le_refl _)
  refine ⟨h.len, fun w hw => ?_, h.cell⟩
  obtain ⟨k, hk⟩ := List.getElem?_of_mem hw
  have := h.top k w hk
  refine Nat.lt_of_lt_of_le this ?_
  rw [show (2 : Nat) ^ 64 = 4 ^ 32 by decide]
  refine Nat.pow_le_pow_right (by decide) ?_
  have hk2 := (List.getElem?_eq_some_iff.1 hk).1
  have hl : (packN c c.length).length = (c.length + 31) / 32 := h.len
  have hk3 : k < (packN c c.length).length := hk2
  split <;> omega
/-- A table of points. -/
def tbOf (params : List Int) (ty : Int) (c : List Nat) : Tb := ⟨params, ty, c.length, packB c⟩
theorem tbOf_pts {params : List Int} {ty : Int} {c : List Nat} (hc : ∀ x ∈ c, x < 4) : (tbOf params ty c).pts = c.map fun (x : Nat) => (x : Int) := by
  obtain ⟨_, _, h⟩ := packB_ok hc
  simp only [Tb.pts, tbOf, Int.toNat_natCast]
  refine List.ext_getElem (by simp) fun i h1 h2 => ?_
  simp at h1 h2
  simp [h, h1, List.getD]
theorem tbOf_ok {params : List Int} {ty : Int} {c : List Nat} (hn : (cntS params).2 = 0) (hl : c.length = prodS params) (ht : 0 ≤ topS ty) (hc : ∀ x ∈ c, (x : Int) ≤ topS ty) : tbOK (tbOf params ty c) = true := by
  have h4 : ∀ x ∈ c, x < 4 := fun x hx => by have := hc x hx; have := topS_le ty; omega
  obtain ⟨h1, _, h3⟩ := packB_ok h4
  obtain ⟨hb, hp, he⟩ := cntS_ok hn
  simp only [tbOK, Bool.and_eq_true, decide_eq_true_eq, List.all_eq_true, rowOK, tbOf_pts h4]
  refine ⟨⟨⟨hn, by show (c.length : Int) = (cntS params).1; rw [he, hl], ht⟩, ⟨by simp [tbOf], by simp [tbOf]; omega, ?_⟩, fun i hi => ?_⟩, fun x hx => ?_⟩
  · simp only [tbOf, h1, wordsN]; omega
  · simp only [tbOf] at hi ⊢
    rw [h3]
    by_cases hlt : i < c.length
    · left; omega
    · right; rw [if_neg hlt]
  · obtain ⟨y, hy, rfl⟩ := List.mem_map.1 hx
    exact hc y hy
end Go.AM

/- AM: own lists beside a list that is another's; how far the slots go. -/
namespace Go.AM

/-- What may be one's own: what was not there, and what the list was. -/
def Free (h : Hp) (v : AV) (j : Nat) : Prop := h j = .dead ∨ isId v j
def OwnF (h : Hp) (v : AV) (h1 : Hp) (e sz : Nat) (r : AV) (rows : List (List AV)) : Prop := (rows = [] ∧ r = .nl) ∨ ∃ id, rows ≠ [] ∧ Free h v id ∧ r = .sl id 0 rows.length ∧ h1 id = .arr e sz rows
section
variable {A : List Nat} {e sz : Nat} {h h1 h2 : Hp} {v v1 v2 r : AV} {rows : List (List AV)}
theorem OwnF.nil : OwnF h v h1 e sz .nl [] := .inl ⟨rfl, rfl⟩
theorem Fr7.dead (a : Fr7 A h v h1 v1) {j : Nat} (hj : h1 j = .dead) (hA : j ∉ A) : Free h v j := by
  by_cases hv : isId v j
  · exact .inr hv
  · rcases a j hA hv with x | ⟨x, _⟩
    · exact .inl x
    · exact .inl (by rw [← x]; exact hj)
theorem OwnF.flat (o : OwnF h v h1 e sz r rows) : r.flat = true ∧ r.cells = [r] := by
  rcases o with ⟨_, rfl⟩ | ⟨id, _, _, rfl, _⟩ <;> exact ⟨rfl, rfl⟩
theorem OwnF.len (o : OwnF h v h1 e sz r rows) (hh : Hp) : aLen .sl r hh = some (.int .i64 rows.length) := by
  rcases o with ⟨rfl, rfl⟩ | ⟨id, _, _, rfl, _⟩ <;> rfl
theorem OwnF.elems (o : OwnF h v h1 e sz r rows) : elemsOf h1 sz r = some rows := by
  rcases o with ⟨rfl, rfl⟩ | ⟨id, _, _, rfl, ha⟩
  · rfl
  · simp [ha]
theorem OwnF.ls (o : OwnF h v h1 e sz r rows) : LsAt e sz h1 r rows := by
  rcases o with ⟨rfl, rfl⟩ | ⟨id, _, _, rfl, ha⟩
  · exact .inl ⟨rfl, rfl⟩
  · exact .inr ⟨id, [], rfl, by simpa using ha⟩
theorem OwnF.new (o : OwnF h v h1 e sz r rows) {j : Nat} {x : AObj} (hj : h1 j = .dead) : OwnF h v (hset h1 j x) e sz r rows := by
  rcases o with y | ⟨id, hn, hd, rfl, ha⟩
  · exact .inl y
  · exact .inr ⟨id, hn, hd, rfl, at_new ha (by simp) hj⟩
theorem OwnF.setc (o : OwnF h v h1 e sz r rows) {j : Nat} {x : AObj} {cs : List AV} (hj : h1 j = .cells cs) : OwnF h v (hset h1 j x) e sz r rows := by
  rcases o with y | ⟨id, hn, hd, rfl, ha⟩
  · exact .inl y
  · have : ¬ id = j := by rintro rfl; rw [ha] at hj; cases hj
    exact .inr ⟨id, hn, hd, rfl, by simp [this, ha]⟩
/-- It stays through another's work. -/
theorem OwnF.fr (o : OwnF h v h1 e sz r rows) (k : Fr7 A h1 v1 h2 v2) (hA : ∀ i ∈ A, ∀ xs, h1 i ≠ .arr e sz xs) (hv : ∀ j xs, h1 j = .arr e sz xs → ¬ isId v1 j) : OwnF h v h2 e sz r rows := by
  rcases o with y | ⟨id, hn, hd, rfl, ha⟩
  · exact .inl y
  · exact .inr ⟨id, hn, hd, rfl, k.at ha (by simp) (fun x => hA id x _ ha) (hv id _ ha)⟩
theorem OwnF.push {b : Nat} {ys : List (List AV)} {K : AV → Hp → Prop} (o : OwnF h v h1 e sz r rows) (hd : ∀ j, h1 j = .dead → Free h v j) (hlen : rows.length + ys.length ≤ 1000000) (hb : b ≤ 1000000)
    (hk : ∀ r' h2, OwnF h v h2 e sz r' (rows ++ ys) → KeepsE e h1 h2 → (∀ j, Free h v j ∨ h2 j = h1 j) → (∀ j, h2 j = .dead → h1 j = .dead ∨ isId r j) → K r' h2) {u : Held K} : AApp e sz b r ys K h1 u := by
  have h2 : rows.length + ys.length ≤ 4611686018427387904 := by omega
  have h3 : (rows.length + ys.length) * b ≤ 140737488355328 := by
    have : (rows.length + ys.length) * b ≤ 1000000 * 1000000 := Nat.mul_le_mul hlen hb
    omega
  rcases o with ⟨rfl, rfl⟩ | ⟨id, hn, hf, rfl, ha⟩
  · cases ys with
    | nil => exact hk _ _ (.inl ⟨rfl, rfl⟩) (fun _ => .inr (.inl rfl)) (fun _ => .inr rfl) (fun _ h => .inl h)
    | cons y ys =>
      refine ⟨by simpa using h2, by simpa using h3, fun id hid => hk _ _ (.inr ⟨id, by simp, hd id hid, rfl, by simp⟩) (fun j => ?_) (fun j => ?_) (fun j hj => ?_)⟩
      · by_cases ej : j = id
        · exact .inl (ej ▸ hid)
        · exact .inr (.inl (by simp [ej]))
      · by_cases ej : j = id
        · exact .inl (ej ▸ hd id hid)
        · exact .inr (by simp [ej])
      · by_cases ej : j = id
        · subst ej; simp at hj
        · left; simpa [ej] using hj
  · refine ⟨rfl, ?_⟩
    rw [ha]
    refine ⟨rfl, rfl, Nat.le_refl _, h2, h3, fun id' hid' => ?_⟩
    rw [List.take_length]
    refine hk _ _ (.inr ⟨id', by simp [hn], hd id' hid', by simp, by simp⟩) (fun j => ?_) (fun j => ?_) (fun j hj => ?_)
    · by_cases e1 : j = id'
      · exact .inl (e1 ▸ hid')
      · by_cases e2 : j = id
        · exact .inr (.inr ⟨_, _, e2 ▸ ha⟩)
        · exact .inr (.inl (by simp [e1, e2]))
    · by_cases e1 : j = id'
      · exact .inl (e1 ▸ hd id' hid')
      · by_cases e2 : j = id
        · exact .inl (e2 ▸ hf)
        · exact .inr (by simp [e1, e2])
    · by_cases e1 : j = id'
      · subst e1; simp at hj
      · by_cases e2 : j = id
        · right; exact isId_sl.2 e2
        · left; simpa [e1, e2] using hj
theorem OwnF.drop (o : OwnF h v h1 e sz r rows) : ∃ h2, Sub h2 h1 ∧ Frz h1 h2 r (rowsAV rows) ∧ (∀ j, h2 j = h1 j ∨ (Free h v j ∧ h2 j = .dead ∧ h1 j = .arr e sz rows)) := by
  rcases o with ⟨rfl, rfl⟩ | ⟨id, hn, hd, rfl, ha⟩
  · exact ⟨h1, Sub.refl _, .same _, fun _ => .inl rfl⟩
  · refine ⟨hset h1 id .dead, Sub.kill, ?_, fun j => ?_⟩
    · cases rows with
      | nil => exact absurd rfl hn
      | cons r rows => exact Frz.rows ha (by simp)
    · by_cases e : j = id
      · subst e; exact .inr ⟨hd, by simp, ha⟩
      · exact .inl (by simp [e])
theorem OwnF.eqs (o : OwnF h v h1 e sz r rows) (hd : ∀ j xs, h1 j = .arr e sz xs → h2 j = h1 j) : OwnF h v h2 e sz r rows := by
  rcases o with y | ⟨id, hn, hf, rfl, ha⟩
  · exact .inl y
  · exact .inr ⟨id, hn, hf, rfl, by rw [hd id _ ha]; exact ha⟩
end

/-! ### How far the slots go -/
end Go.AM

/- AM: the lets around a call, by the numbers of its parts. -/
namespace Go.AM

/-- A list as it is handed on, or the rest of one. -/
def LatV (w : AV) (rows : List (List AV)) : Prop := w = rowsAV rows ∨ w = .fz rows
theorem LatV.len {w : AV} {rows : List (List AV)} (h : LatV w rows) (hh : Hp) : aLen .sl w hh = some (.int .i64 rows.length) := by
  rcases h with rfl | rfl
  · exact aLen_rows rows
  · rfl
end Go.AM

/- AM: flat functions as they lie in memory; the functions' numbers. -/
namespace Go.AM

section
variable {e sz : Nat} {h h1 h2 : Hp} {v r : AV} {rows : List (List AV)}
end

/-- The cells of a flat function with its parameters' types elsewhere. -/
def supRow (pr : AV) (s : Sup) : List AV := [.str s.name, pr, .int .i64 s.ty, .int .i64 s.slots] ++ s.code.cells
@[simp] theorem supRow_length (pr : AV) (s : Sup) : (supRow pr s).length = 15 := by simp [supRow]
theorem supRow_cells (s : Sup) : supRow (rowsAV (intRows s.params)) s = s.cells := rfl
/-- Flat functions in memory, each with a list of its parameters' types of its own; none of them is the list w. -/
def SupsAt (e : Nat) (h0 h1 : Hp) (w : AV) : List (List AV) → List Sup → Prop
  | [], [] => True
  | r :: rs, s :: ss => (∃ pr, r = supRow pr s ∧ OwnF h0 .nl h1 e 1 pr (intRows s.params) ∧ ∀ j, isId pr j → ¬ isId w j) ∧ SupsAt e h0 h1 w rs ss
  | _, _ => False
section
variable {e : Nat} {h0 h1 h2 : Hp} {w w' : AV}
theorem SupsAt.length : ∀ {rows : List (List AV)} {ss : List Sup}, SupsAt e h0 h1 w rows ss → rows.length = ss.length
  | [], [], _ => rfl
  | r :: rs, s :: ss, h => by simp [SupsAt.length h.2]
  | [], s :: ss, h => h.elim
  | r :: rs, [], h => h.elim
theorem SupsAt.snoc {pr : AV} {s : Sup} : ∀ {rows : List (List AV)} {ss : List Sup}, SupsAt e h0 h1 w rows ss → OwnF h0 .nl h1 e 1 pr (intRows s.params) → (∀ j, isId pr j → ¬ isId w j) → SupsAt e h0 h1 w (rows ++ [supRow pr s]) (ss ++ [s])
  | [], [], _, o, hw => ⟨⟨pr, rfl, o, hw⟩, trivial⟩
  | r :: rs, s :: ss, h, o, hw => ⟨h.1, SupsAt.snoc h.2 o hw⟩
  | [], s :: ss, h, _, _ => h.elim
  | r :: rs, [], h, _, _ => h.elim
theorem SupsAt.mono (hk : ∀ j xs, h1 j = .arr e 1 xs → ¬ isId w j → h2 j = h1 j) (hw : ∀ j, isId w' j → h1 j = .dead ∨ isId w j) : ∀ {rows : List (List AV)} {ss : List Sup}, SupsAt e h0 h1 w rows ss → SupsAt e h0 h2 w' rows ss
  | [], [], _ => trivial
  | r :: rs, s :: ss, ⟨⟨pr, hr, o, hp⟩, h⟩ => by
    refine ⟨⟨pr, hr, ?_, fun j hj hj' => ?_⟩, h.mono hk hw⟩
    · rcases o with x | ⟨id, hn, hd, rfl, ha⟩
      · exact .inl x
      · exact .inr ⟨id, hn, hd, rfl, by rw [hk id _ ha (hp id (isId_sl.2 rfl))]; exact ha⟩
    · rcases o with ⟨_, x⟩ | ⟨id, hn, hd, rfl, ha⟩
      · subst x; obtain ⟨_, _, y⟩ := hj; cases y
      · have hj2 := isId_sl.1 hj
        subst hj2
        rcases hw j hj' with x | x
        · rw [ha] at x; cases x
        · exact hp j hj x
  | [], s :: ss, h => h.elim
  | r :: rs, [], h => h.elim
theorem SupsAt.keep (hk : ∀ j xs, h1 j = .arr e 1 xs → h2 j = h1 j) {rows : List (List AV)} {ss : List Sup} (h : SupsAt e h0 h1 w rows ss) : SupsAt e h0 h2 w rows ss := h.mono (fun j xs hj _ => hk j xs hj) (fun j hj => .inr hj)
theorem SupsAt.nl {rows : List (List AV)} {ss : List Sup} (h : SupsAt e h0 h1 w rows ss) : SupsAt e h0 h1 .nl rows ss := h.mono (fun j xs _ _ => rfl) (fun j hj => by obtain ⟨_, _, y⟩ := hj; cases y)
/-- All let go: they read frozen. -/
theorem SupsAt.frz {e' : Nat} {r : AV} {rows : List (List AV)} {ss : List Sup} (h : SupsAt e h0 h1 w rows ss) (o : OwnF h0 .nl h1 e' 15 r rows) : Frz h1 h0 r (rowsAV (ss.map Sup.cells)) := by
  rcases o with ⟨rfl, rfl⟩ | ⟨id, hn, hd, rfl, ha⟩
  · cases ss with
    | nil => exact .same _
    | cons s ss => exact h.elim
  · have hlen := h.length
    have hd0 : h0 id = .dead := by
      rcases hd with x | x
      · exact x
      · obtain ⟨_, _, y⟩ := x; cases y
    have hat : ∀ (i : Nat) (x y : List AV), rows[i]? = some x → (ss.map Sup.cells)[i]? = some y → ∃ pr s, x = supRow pr s ∧ y = s.cells ∧ OwnF h0 .nl h1 e 1 pr (intRows s.params) := by
      clear ha hn hlen
      induction rows generalizing ss with
      | nil => intro i x y hx; simp at hx
      | cons r rs ih =>
        cases ss with
        | nil => exact h.elim
        | cons s ss =>
          intro i x y hx hy
          cases i with
          | zero =>
            simp at hx hy
            subst hx; subst hy
            obtain ⟨pr, hr, o, _⟩ := h.1
            exact ⟨pr, s, hr, rfl, o⟩
          | succ i => exact ih h.2 i x y (by simpa using hx) (by simpa using hy)
    have hne : ss.map Sup.cells ≠ [] := by
      cases ss with
      | nil => cases rows with
        | nil => exact absurd rfl hn
        | cons r rs => exact h.elim
      | cons s ss => simp
    rw [show rowsAV (ss.map Sup.cells) = .fz (ss.map Sup.cells) by cases hss : ss.map Sup.cells with
      | nil => exact absurd hss hne
      | cons a l => rfl]
    refine .sl id 0 rows.length e' 15 rows ha (by simp) hd0 _ (by simp [hlen]) (fun i x y hx hy => ?_) (fun i x y j c d hx hy hc hd' => ?_)
    · rw [Nat.zero_add] at hx
      obtain ⟨pr, s, rfl, rfl, _⟩ := hat i x y hx hy
      simp
    · rw [Nat.zero_add] at hx
      obtain ⟨pr, s, rfl, rfl, o⟩ := hat i x y hx hy
      rw [← supRow_cells] at hd'
      match j with
      | 0 => simp [supRow] at hc hd'; subst hc; subst hd'; exact .same _
      | 1 =>
        simp [supRow] at hc hd'
        subst hc; subst hd'
        rcases o with ⟨hz, rfl⟩ | ⟨id', hn', hd2, rfl, ha'⟩
        · rw [hz]; exact .same _
        · have hd3 : h0 id' = .dead := by
            rcases hd2 with x | x
            · exact x
            · obtain ⟨_, _, y⟩ := x; cases y
          rw [show rowsAV (intRows s.params) = .fz (intRows s.params) by cases hss : intRows s.params with
            | nil => exact absurd hss hn'
            | cons a l => rfl]
          exact Frz.rows ha' hd3
      | j + 2 =>
        have e1 : (supRow pr s)[j + 2]? = (supRow (rowsAV (intRows s.params)) s)[j + 2]? := rfl
        rw [e1, hd'] at hc
        cases hc
        exact .same _
end

/-! ### What a right program's checks say -/
theorem faultsL_dup {p : List Df} : ∀ {l : List Df} {i k : Nat} {f : Df}, l[k]? = some f → faultsL p i l = [] → ¬ headsS f.name p 0 < ((i + k : Nat) : Int)
  | [], _, _, _, h, _ => by simp at h
  | g :: l, i, k, f, h, he => by
    simp only [faultsL, List.append_eq_nil_iff] at he
    cases k with
    | zero =>
      simp at h; subst h
      have := he.1
      simp only [faultF, List.append_eq_nil_iff] at this
      have h2 := this.1.1
      split at h2
      · cases h2
      · rename_i h3; simpa using h3
    | succ k =>
      have := faultsL_dup (i := i + 1) (k := k) (by simpa using h) he.2
      rwa [show i + 1 + k = i + (k + 1) by omega] at this
theorem check07_06 {p : List Df} (h : (check07 p).1 = 0) : (check06 p).1 = 0 := by
  simp only [check07] at h
  split at h
  · exact h
  · rename_i x; exact Decidable.byContradiction x
theorem check06_nil {p : List Df} (h : (check06 p).1 = 0) : faultsS p = [] := Decidable.byContradiction fun hn => least_nz (faultsS p) (0, 0) (faultsL_nz) (.inr hn) h
/-- The numbers of the functions seen so far. -/
def FmT (l : List Df) (fm : Mp) : Prop := ∀ nm, 0 ≤ headsS nm l 0 → getM fm nm = headsS nm l 0
theorem FmT.nil : FmT [] [] := fun nm h => by simp [headsS] at h
theorem FmT.put {p : List Df} {fm : Mp} {i : Nat} {f : Df} (h : FmT (p.take i) fm) (hf : p[i]? = some f) (hd : faultsS p = []) : FmT (p.take (i + 1)) (putM f.name (i : Int) fm) := by
  have h1 := faultsL_dup (i := 0) hf hd
  rw [Nat.zero_add, heads_dup hf] at h1
  have hlt : i < p.length := (List.getElem?_eq_some_iff.1 hf).1
  have hgi : p[i] = f := (List.getElem?_eq_some_iff.1 hf).2
  intro nm hn
  rw [take_snoc p hlt, hgi, headsS_snoc] at hn ⊢
  rw [getM_putM]
  have hl : (p.take i).length = i := by simp; omega
  rw [hl, Nat.zero_add] at hn ⊢
  by_cases e : nm = f.name
  · subst e
    have : headsS f.name (p.take i) 0 < 0 := by omega
    simp [this]
  · have e' : ¬ f.name = nm := fun x => e x.symm
    simp only [e, e', if_false] at hn ⊢
    split at hn
    · omega
    · rename_i h3
      rw [if_neg h3]
      exact h nm (by omega)
end Go.AM

/- AM: the parts that are no atoms, the lets around a call from the last to the first; what reads frozen later. -/
namespace Go.AM

/-! ### What reads frozen later -/
theorem Frz.mono {h h1 h' : Hp} (hk : ∀ id e sz xs, h id = .arr e sz xs → h1 id = .arr e sz xs) {a b : AV} (k : Frz h h' a b) : Frz h1 h' a b := by
  induction k with
  | same v => exact .same v
  | sl id off len e sz xs hh hle hd ys hl hly _ ih => exact .sl id off len e sz xs (hk _ _ _ _ hh) hle hd ys hl hly ih
  | agg cs ds hl _ ih => exact .agg cs ds hl ih
  | tup cs ds hl _ ih => exact .tup cs ds hl ih
theorem Frz.agg_inv {h h' : Hp} {cs ds : List AV} (k : Frz h h' (.agg cs) (.agg ds)) : ds.length = cs.length ∧ ∀ (j : Nat) (c d : AV), cs[j]? = some c → ds[j]? = some d → Frz h h' c d := by
  cases k with
  | same => exact ⟨rfl, fun j c d hc hd => by rw [hc] at hd; cases hd; exact .same _⟩
  | agg _ _ hl hy => exact ⟨hl, hy⟩
/-- A list of rows that read frozen later. -/
theorem Frz.rows2 {h h' : Hp} {id e sz : Nat} {xs ys : List (List AV)} (hh : h id = .arr e sz xs) (hd : h' id = .dead) (hl : ys.length = xs.length) (hy : ∀ (i : Nat) (x y : List AV), xs[i]? = some x → ys[i]? = some y → Frz h h' (.agg x) (.agg y)) : Frz h h' (.sl id 0 xs.length) (.fz ys) :=
  .sl id 0 xs.length e sz xs hh (by simp) hd ys hl (fun i x y hx hyi => (hy i x y (by simpa using hx) hyi).agg_inv.1) (fun i x y j c d hx hyi hc hd' => (hy i x y (by simpa using hx) hyi).agg_inv.2 j c d hc hd')

/-- All slots are at or above 0. -/
def NmPos (names : Nms) : Prop := ∀ x ∈ names, 0 ≤ x.2
theorem NmPos.bind {names : Nms} {nm : Bytes} {n : Int} (h : NmPos names) (hn : 0 ≤ n) : NmPos (bindN names nm n) := fun x hx => by
  simp only [bindN, List.mem_append, List.mem_singleton] at hx
  rcases hx with hx | rfl
  · exact h x hx
  · exact hn
theorem NmPos.find {names : Nms} (h : NmPos names) (nm : Bytes) : 0 ≤ (lastN nm names).getD 0 := by
  by_cases hm : nm ∈ names.map Prod.fst
  · obtain ⟨k, e, hk⟩ := lastN_mem hm
    rw [e]; exact h _ hk
  · rw [lastN_none hm]; exact Int.le_refl 0
end Go.AM
