/- AM: definitions and programs of the document's answer, in plain Lean. -/
import Derived.Test.YtghidedifiolbaaGreatK07
set_option linter.unusedVariables false
set_option linter.unusedSimpArgs false
namespace Go.AM

/-- A parameter. -/
structure Pm where
  name : Bytes
  ty : Int
  pos : Int
def Pm.cells (p : Pm) : List AV := [.str p.name, .int .i64 p.ty, .int .i64 p.pos]
@[simp] theorem Pm.cells_length (p : Pm) : p.cells.length = 3 := rfl
/-- A definition. -/
structure Df where
  name : Bytes
  params : List Pm
  ty : Int
  body : Ex
  pos : Int
def Df.cells (f : Df) : List AV := .str f.name :: rowsAV (f.params.map Pm.cells) :: .int .i64 f.ty :: (f.body.cells ++ [.int .i64 f.pos])
@[simp] theorem Df.cells_length (f : Df) : f.cells.length = 11 := by simp [Df.cells]

section
variable (ms : List Mk)
def parS (n : Nat) (s : St) : St := if s.why = 0 ∧ (nx ms s).kind = 0 ∧ 32768 ≤ n then failS ms s 22 else s
def par1 (acc : List Pm) (s : St) : St := parS ms acc.length (if acc = [] then s else wantS ms s [44])
def parP (acc : List Pm) (s : St) : Pm := ⟨(nameS ms (par1 ms acc s)).1.text, (typS ms (nameS ms (par1 ms acc s)).2).1, (nameS ms (par1 ms acc s)).1.pos⟩
def parT (acc : List Pm) (s : St) : St := (typS ms (nameS ms (par1 ms acc s)).2).2
def paramsS : Nat → List Pm → St → List Pm × St
  | 0, acc, s => (acc, s)
  | n + 1, acc, s => if s.why = 0 ∧ isB ms s [41] = false then paramsS n (acc ++ [parP ms acc s]) (parT ms acc s) else (acc, s)
def df1 (n : Nat) (s : St) : St := if (nx ms s).kind = 0 ∧ 32768 ≤ n then failS ms s 22 else s
def df2 (n : Nat) (s : St) : List Pm × St := paramsS ms (ms.length + 1) [] (wantS ms (nameS ms (df1 ms n s)).2 [40])
def df3 (n : Nat) (s : St) : St := wantS ms (wantS ms (df2 ms n s).2 [41]) [58]
def df4 (n : Nat) (s : St) : St := wantS ms (typS ms (df3 ms n s)).2 [61]
def defS (n : Nat) (s : St) : Df × St :=
  (⟨(nameS ms (df1 ms n s)).1.text, (df2 ms n s).1, (typS ms (df3 ms n s)).1, (pExpr ms ms.length (df4 ms n s)).1, (nameS ms (df1 ms n s)).1.pos⟩, wantS ms (pExpr ms ms.length (df4 ms n s)).2 [59])
def programS : Nat → List Df → St → List Df × St
  | 0, acc, s => (acc, s)
  | n + 1, acc, s => if s.why = 0 ∧ (acc = [] ∨ (nx ms s).kind ≠ 4) then programS n (acc ++ [(defS ms acc.length s).1]) (defS ms acc.length s).2 else (acc, s)
end

section
variable {ms : List Mk}
theorem parS_on {n : Nat} {s : St} (h : s.at_ < ms.length) : On ms s (parS ms n s) := by
  simp only [parS]; split
  · exact fail_on (by decide) h
  · exact On.refl h
theorem par1_on (hg : Good ms) {acc : List Pm} {s : St} (h : s.at_ < ms.length) : On ms s (par1 ms acc s) := by
  simp only [par1]
  have h1 : On ms s (if acc = [] then s else wantS ms s [44]) := by
    split
    · exact On.refl h
    · exact want_on hg h
  exact h1.trans (parS_on h1.lt)
theorem parT_on (hg : Good ms) {acc : List Pm} {s : St} (h : s.at_ < ms.length) : On ms s (parT ms acc s) := by
  have h1 := par1_on hg (acc := acc) h
  have h2 := name_on hg h1.lt
  exact (h1.trans h2).trans (typ_on hg h2.lt)
theorem parT_go (hg : Good ms) {acc : List Pm} {s : St} (h : s.at_ < ms.length) (hw : (parT ms acc s).why = 0) : s.at_ < (parT ms acc s).at_ := by
  have h1 := par1_on hg (acc := acc) h
  have h2 := name_on hg h1.lt
  have h3 := typ_on hg h2.lt
  have hw2 : (nameS ms (par1 ms acc s)).2.why = 0 := Decidable.byContradiction fun x => h3.why x hw
  exact Nat.lt_of_le_of_lt h1.le (Nat.lt_of_lt_of_le (name_go hw2) h3.le)
theorem params_on (hg : Good ms) : ∀ (n : Nat) (acc : List Pm) (s : St), s.at_ < ms.length → On ms s (paramsS ms n acc s).2
  | 0, acc, s, h => On.refl h
  | n + 1, acc, s, h => by
    simp only [paramsS]
    split
    · have h1 := parT_on hg (acc := acc) h
      exact h1.trans (params_on hg n _ _ h1.lt)
    · exact On.refl h
theorem df1_on {n : Nat} {s : St} (h : s.at_ < ms.length) : On ms s (df1 ms n s) := by
  simp only [df1]; split
  · exact fail_on (by decide) h
  · exact On.refl h
theorem df2_on (hg : Good ms) {n : Nat} {s : St} (h : s.at_ < ms.length) : On ms s (df2 ms n s).2 := by
  have h1 := df1_on (n := n) h
  have h2 := name_on hg h1.lt
  have h3 := want_on hg (t := [40]) h2.lt
  exact ((h1.trans h2).trans h3).trans (params_on hg _ _ _ h3.lt)
theorem df3_on (hg : Good ms) {n : Nat} {s : St} (h : s.at_ < ms.length) : On ms s (df3 ms n s) := by
  have h1 := df2_on hg (n := n) h
  have h2 := want_on hg (t := [41]) h1.lt
  exact (h1.trans h2).trans (want_on hg h2.lt)
theorem df4_on (hg : Good ms) {n : Nat} {s : St} (h : s.at_ < ms.length) : On ms s (df4 ms n s) := by
  have h1 := df3_on hg (n := n) h
  have h2 := typ_on hg h1.lt
  exact (h1.trans h2).trans (want_on hg h2.lt)
theorem def_on (hg : Good ms) {n : Nat} {s : St} (h : s.at_ < ms.length) : On ms s (defS ms n s).2 := by
  have h1 := df4_on hg (n := n) h
  have h2 := (pExpr_on hg ms.length _ h1.lt (by omega)).1
  exact (h1.trans h2).trans (want_on hg h2.lt)
theorem def_go (hg : Good ms) {n : Nat} {s : St} (h : s.at_ < ms.length) (hw : (defS ms n s).2.why = 0) : s.at_ < (defS ms n s).2.at_ := by
  have h1 := df1_on (n := n) h
  have h2 := name_on hg h1.lt
  have h3 := want_on hg (t := [40]) h2.lt
  have h4 := params_on hg (ms.length + 1) [] _ h3.lt
  have h5 := want_on hg (t := [41]) h4.lt
  have h6 := want_on hg (t := [58]) h5.lt
  have h7 := typ_on hg h6.lt
  have h8 := want_on hg (t := [61]) h7.lt
  have h9 := (pExpr_on hg ms.length _ h8.lt (by omega)).1
  have h10 := want_on hg (t := [59]) h9.lt
  have hall := ((((((h3.trans h4).trans h5).trans h6).trans h7).trans h8).trans h9).trans h10
  have hw2 : (nameS ms (df1 ms n s)).2.why = 0 := Decidable.byContradiction fun x => hall.why x hw
  exact Nat.lt_of_le_of_lt h1.le (Nat.lt_of_lt_of_le (name_go hw2) hall.le)
theorem program_on (hg : Good ms) : ∀ (n : Nat) (acc : List Df) (s : St), s.at_ < ms.length → On ms s (programS ms n acc s).2
  | 0, acc, s, h => On.refl h
  | n + 1, acc, s, h => by
    simp only [programS]
    split
    · have h1 := def_on hg (n := acc.length) h
      exact h1.trans (program_on hg n _ _ h1.lt)
    · exact On.refl h
end

/-- What Parse gives: the program, or the error and its place. -/
def parseS (b : Bytes) : List Df × Int × Int :=
  if 32768 < b.length then ([], 22, 32768)
  else match marksS b (b.length + 1) 0 with
    | .inr q => ([], 20, q)
    | .inl ms =>
      if (programS ms (ms.length + 1) [] ⟨0, 0, 0, 0⟩).2.why ≠ 0 then ([], (programS ms (ms.length + 1) [] ⟨0, 0, 0, 0⟩).2.why, (programS ms (ms.length + 1) [] ⟨0, 0, 0, 0⟩).2.wh)
      else ((programS ms (ms.length + 1) [] ⟨0, 0, 0, 0⟩).1, 0, 0)
def readS (b : Bytes) : List Df × Bool := ((parseS b).1, decide ((parseS b).2.1 = 0))
end Go.AM

/- AM: the marks of a text are good. -/
namespace Go.AM

theorem marksS_inl {b : Bytes} : ∀ (k p : Nat) (l : List Mk), p ≤ b.length → marksS b k p = .inl l → ∃ l0 m, l = l0 ++ [m] ∧ m.kind = 4 ∧ l0.length + p ≤ b.length
  | 0, p, l, _, h => by simp [marksS] at h
  | k + 1, p, l, hp, h => by
    simp only [marksS] at h
    split at h
    · rename_i hlt
      split at h
      · obtain ⟨l0, m, h1, h2, h3⟩ := marksS_inl k (p + 1) l (by omega) h
        exact ⟨l0, m, h1, h2, by omega⟩
      · split at h
        · have := skipN_le b hp
          obtain ⟨l0, m, h1, h2, h3⟩ := marksS_inl k (p + skipN b p) l (by omega) h
          exact ⟨l0, m, h1, h2, by omega⟩
        · split at h
          · rename_i hok
            obtain ⟨g1, g2⟩ := oneS_len hlt hok
            cases hr : marksS b k (p + (oneS b p).1.text.length) with
            | inr q => rw [hr] at h; simp [pre] at h
            | inl l' =>
              rw [hr] at h
              simp only [pre, Sum.inl.injEq] at h
              obtain ⟨l0, m, h1, h2, h3⟩ := marksS_inl k _ l' g2 hr
              refine ⟨(oneS b p).1 :: l0, m, by rw [← h, h1]; rfl, h2, by simp; omega⟩
          · cases h
    · simp only [Sum.inl.injEq] at h
      exact ⟨[], _, by rw [← h]; rfl, rfl, by simpa using hp⟩

theorem marks_good {b : Bytes} {l : List Mk} (hb : b.length ≤ 32768) (h : marksS b (b.length + 1) 0 = .inl l) : Good l := by
  obtain ⟨l0, m, rfl, h2, h3⟩ := marksS_inl _ _ _ (by omega) h
  refine ⟨by simp; omega, by simp, fun s hs => ?_⟩
  have : s.at_ = l0.length := by simpa using hs
  simp [nx, this, List.getD, h2]
end Go.AM

/- AM: lists of names. -/
namespace Go.AM

def strRows (l : List Bytes) : List (List AV) := l.map fun w => [.str w]
@[simp] theorem strRows_length (l : List Bytes) : (strRows l).length = l.length := by simp [strRows]
/-- A list of names, as it may be handed in. -/
def IsStrs (h : Hp) (v : AV) (l : List Bytes) : Prop := v = rowsAV (strRows l) ∨ v = .fz (strRows l) ∨ ∃ id e, v = .sl id 0 l.length ∧ h id = .arr e 1 (strRows l)
theorem IsStrs.len {h : Hp} {v : AV} {l : List Bytes} (hs : IsStrs h v l) (h1 : Hp) : aLen .sl v h1 = some (.int .i64 l.length) := by
  rcases hs with rfl | rfl | ⟨id, e, rfl, _⟩
  · cases l with
    | nil => rfl
    | cons a l => simp [strRows, rowsAV]
  · simp
  · rfl

/-- Appending what may be nothing. -/
theorem Own.app0 {h h1 : Hp} {e sz : Nat} {v : AV} {rows : List (List AV)} {b : Nat} {ys : List (List AV)} {K : AV → Hp → Prop} (ho : Own h h1 e sz v rows) (hf : ∀ j, h j = .dead ∨ h1 j = h j) (hlen : rows.length + ys.length ≤ 4611686018427387904) (hb : (rows.length + ys.length) * b ≤ 140737488355328)
    (hk : ∀ v' h2, Own h h2 e sz v' (rows ++ ys) → (∀ j, h j = .dead ∨ h2 j = h j) → K v' h2) {u : Held K} : AApp e sz b v ys K h1 u := by
  have dd : ∀ j, h1 j = .dead → h j = .dead := fun j hj => by
    rcases hf j with x | x
    · exact x
    · rw [← x]; exact hj
  rcases ho with ⟨rfl, rfl⟩ | ⟨id, hn, hd, rfl, ha⟩
  · cases ys with
    | nil => exact hk _ _ (.inl ⟨rfl, rfl⟩) hf
    | cons y ys =>
      refine ⟨by simpa using hlen, by simpa using hb, fun id hid => hk _ _ (.inr ⟨id, by simp, dd id hid, rfl, by simp⟩) fun j => ?_⟩
      by_cases ej : j = id
      · exact .inl (ej ▸ dd id hid)
      · simpa [ej] using hf j
  · refine ⟨rfl, ?_⟩
    rw [ha]
    refine ⟨rfl, rfl, Nat.le_refl _, hlen, hb, fun id' hid' => ?_⟩
    rw [List.take_length]
    refine hk _ _ (.inr ⟨id', by simp [hn], dd id' hid', by simp, by simp⟩) fun j => ?_
    by_cases e1 : j = id'
    · exact .inl (e1 ▸ dd id' hid')
    by_cases e2 : j = id
    · exact .inl (e2 ▸ hd)
    · simpa [e1, e2] using hf j

def Ex.op : Ex → Int | .mk op _ _ _ _ _ _ _ => op
def Ex.name : Ex → Bytes | .mk _ n _ _ _ _ _ _ => n
def Ex.tail : Ex → Bytes | .mk _ _ t _ _ _ _ _ => t
def Ex.ty : Ex → Int | .mk _ _ _ t _ _ _ _ => t
def Ex.args : Ex → List Ex | .mk _ _ _ _ _ _ a _ => a
def Ex.pos : Ex → Int | .mk _ _ _ _ _ _ _ p => p
/-- The names that an expression binds in its part i. -/
def boundS (e : Ex) (i : Int) : List Bytes := if e.op = 21 ∨ (e.op = 22 ∧ i = 1) then [e.name] else if e.op = 20 ∧ i = 2 then [e.name, e.tail] else []

/-- An own list, given out frozen. -/
theorem Own.out {h h1 : Hp} {e sz : Nat} {v : AV} {rows : List (List AV)} {Q : AV → Hp → Prop} (ho : Own h h1 e sz v rows) (hf : ∀ j, h j = .dead ∨ h1 j = h j) (hq : Q (rowsAV rows) h) : Gives Q (some v) h1 := by
  have hsub : Sub h h1 := fun j => by
    rcases hf j with x | x
    · exact .inr x
    · exact .inl x.symm
  rcases ho with ⟨rfl, rfl⟩ | ⟨id, hn, hd, rfl, ha⟩
  · exact Gives.sub hsub hq
  · cases rows with
    | nil => exact absurd rfl hn
    | cons r rows => exact Gives.frz hsub (Frz.rows ha hd) hq

/-- The first definition of a name; -1: none. -/
def headsS (n : Bytes) : List Df → Nat → Int
  | [], _ => -1
  | f :: l, i => if f.name = n then (i : Int) else headsS n l (i + 1)
def progAV (l : List Df) : AV := .agg [rowsAV (l.map Df.cells)]
end Go.AM

/- AM: the trees that the grammar gives are well formed. -/
namespace Go.AM

mutual
def Ex.size : Ex → Nat
  | .mk _ _ _ _ _ _ args _ => 1 + Ex.sizeL args
def Ex.sizeL : List Ex → Nat
  | [] => 0
  | e :: l => e.size + Ex.sizeL l
end
/-- How many arguments an operation has. -/
def arOK (op : Int) (n : Nat) : Prop :=
  (op = 7) ∨ ((op = 19 ∨ op = 20) ∧ n = 3) ∨
  ((op = 8 ∨ op = 9 ∨ op = 10 ∨ op = 11 ∨ op = 12 ∨ op = 13 ∨ op = 18 ∨ op = 21 ∨ op = 22) ∧ n = 2) ∨
  ((op = 14 ∨ op = 15 ∨ op = 16 ∨ op = 17) ∧ n = 1) ∨
  ((op = 1 ∨ op = 2 ∨ op = 3 ∨ op = 4 ∨ op = 5 ∨ op = 6) ∧ n = 0)
def tyOK (t : Int) : Prop := t = 1 ∨ t = 2 ∨ t = 3
/-- A number's bits: of whole numbers in range. -/
def numOK (re im : Nat) : Prop := ∃ a b : Int, -16777216 ≤ a ∧ a ≤ 16777216 ∧ -16777216 ≤ b ∧ b ≤ 16777216 ∧ re = FloatKind.f64.nearest a ∧ im = FloatKind.f64.nearest b
mutual
/-- What is known of a tree that was read, all of it ahead of a place. -/
def Ex.fine (hi : Int) : Ex → Prop
  | .mk op _ _ ty re im args pos => arOK op args.length ∧ ((op = 5 ∨ op = 21 ∨ op = 22) → tyOK ty) ∧ (op = 1 → numOK re im) ∧ (0 ≤ pos ∧ pos < hi) ∧ Ex.fineL hi args
def Ex.fineL (hi : Int) : List Ex → Prop
  | [] => True
  | e :: l => e.fine hi ∧ Ex.fineL hi l
end
theorem Ex.fineL_append {hi : Int} : ∀ (a b : List Ex), Ex.fineL hi (a ++ b) ↔ (Ex.fineL hi a ∧ Ex.fineL hi b)
  | [], b => by simp [Ex.fineL]
  | e :: a, b => by simp [Ex.fineL, Ex.fineL_append a b, and_assoc]
theorem Ex.sizeL_append : ∀ (a b : List Ex), Ex.sizeL (a ++ b) = Ex.sizeL a + Ex.sizeL b
  | [], b => by simp [Ex.sizeL]
  | e :: a, b => by simp [Ex.sizeL, Ex.sizeL_append a b]; omega
mutual
theorem Ex.fine_mono {hi hi' : Int} (h : hi ≤ hi') : ∀ (e : Ex), e.fine hi → e.fine hi'
  | .mk op name tail ty re im args pos, hf => by
    simp only [Ex.fine] at hf ⊢
    exact ⟨hf.1, hf.2.1, hf.2.2.1, ⟨hf.2.2.2.1.1, by have := hf.2.2.2.1.2; omega⟩, Ex.fineL_mono h args hf.2.2.2.2⟩
theorem Ex.fineL_mono {hi hi' : Int} (h : hi ≤ hi') : ∀ (l : List Ex), Ex.fineL hi l → Ex.fineL hi' l
  | [], _ => trivial
  | e :: l, hf => ⟨Ex.fine_mono h e hf.1, Ex.fineL_mono h l hf.2⟩
end
theorem Ex.fineL_mem {hi : Int} : ∀ {l : List Ex} {e : Ex}, Ex.fineL hi l → e ∈ l → e.fine hi
  | [], _, _, he => by cases he
  | a :: l, e, h, he => by
    rcases List.mem_cons.1 he with rfl | he
    · exact h.1
    · exact Ex.fineL_mem h.2 he
theorem Ex.size_pos (e : Ex) : 1 ≤ e.size := by cases e; simp [Ex.size]
theorem Ex.sizeL_len : ∀ (l : List Ex), l.length ≤ Ex.sizeL l
  | [] => by simp [Ex.sizeL]
  | e :: l => by have := e.size_pos; have := Ex.sizeL_len l; simp [Ex.sizeL]; omega
theorem Ex.size_mem : ∀ {l : List Ex} {e : Ex}, e ∈ l → e.size ≤ Ex.sizeL l
  | [], _, he => by cases he
  | a :: l, e, he => by
    rcases List.mem_cons.1 he with rfl | he
    · simp [Ex.sizeL]
    · have := Ex.size_mem he; simp [Ex.sizeL]; omega
theorem Ex.size_args (e : Ex) : e.size = 1 + Ex.sizeL e.args := by cases e; rfl
theorem Ex.fine_args {hi : Int} {e : Ex} (h : e.fine hi) : Ex.fineL hi e.args := by cases e; exact h.2.2.2.2

/-- Marks, one behind another. -/
structure Good2 (ms : List Mk) : Prop where
  srt : ∀ i j, i < j → j < ms.length → (ms.getD i mk0).pos < (ms.getD j mk0).pos
  pos : ∀ i, i < ms.length → 0 ≤ (ms.getD i mk0).pos
  num : ∀ i, i < ms.length → (ms.getD i mk0).kind = 2 → numOK (ms.getD i mk0).re (ms.getD i mk0).im
theorem Good2.le {ms : List Mk} (h : Good2 ms) {s s' : St} (hl : s.at_ ≤ s'.at_) (h' : s'.at_ < ms.length) : (nx ms s).pos ≤ (nx ms s').pos := by
  rcases Nat.lt_or_ge s.at_ s'.at_ with e | e
  · exact Int.le_of_lt (h.srt _ _ e h')
  · have : s.at_ = s'.at_ := by omega
    simp [nx, this]
theorem Good2.lt {ms : List Mk} (h : Good2 ms) {s s' : St} (hl : s.at_ < s'.at_) (h' : s'.at_ < ms.length) : (nx ms s).pos < (nx ms s').pos := h.srt _ _ hl h'
theorem Good2.nn {ms : List Mk} (h : Good2 ms) {s : St} (h' : s.at_ < ms.length) : 0 ≤ (nx ms s).pos := h.pos _ h'

def Tree (ms : List Mk) (s : St) (r : Ex × St) : Prop := r.1.fine (nx ms r.2).pos ∧ r.1.size + s.at_ ≤ r.2.at_
/-- What is known of the trees that a rule gives. -/
def Trees (ms : List Mk) (k : Nat) (e : St → Ex × St) : Prop := ∀ s, s.at_ < ms.length → ms.length ≤ s.at_ + k → (e s).2.why = 0 → Tree ms s (e s)

section
variable {ms : List Mk} {k : Nat} {e : St → Ex × St}
theorem On.ok {s s' : St} (h : On ms s s') (hw : s'.why = 0) : s.why = 0 := Decidable.byContradiction fun x => h.why x hw
theorem want_why {s : St} {t : Bytes} (h : (wantS ms s t).why = 0) : s.why = 0 ∧ isB ms s t = true ∧ wantS ms s t = adv s := by
  simp only [wantS] at h ⊢
  split at h
  · rename_i hb; exact ⟨(isB_kind hb).1, hb, by rw [if_pos hb]⟩
  · exact absurd h (fail_why (by decide))
theorem typ_why {s : St} (h : (typS ms s).2.why = 0) : tyOK (typS ms s).1 ∧ (typS ms s).2 = adv s := by
  simp only [typS] at h ⊢
  by_cases h1 : isB ms s [78] = true
  · simp [h1, tyOK]
  · by_cases h2 : isB ms s [66] = true
    · simp [h1, h2, tyOK]
    · by_cases h3 : isB ms s [76] = true
      · simp [h1, h2, h3, tyOK]
      · simp only [h1, h2, h3] at h; exact absurd h (fail_why (by decide))
theorem name_why {s : St} (h : (nameS ms s).2.why = 0) : (nameS ms s).1 = nx ms s ∧ (nameS ms s).2 = adv s := by
  simp only [nameS] at h ⊢
  split at h
  · exact absurd h (fail_why (by decide))
  · rename_i hc; rw [if_neg hc]; exact ⟨rfl, rfl⟩

theorem args_tree (hg : Good ms) (h2g : Good2 ms) (he : Reads ms k e) (ht : Trees ms k e) : ∀ (n : Nat) (acc : List Ex) (s : St), s.at_ < ms.length → ms.length ≤ s.at_ + k → Ex.fineL (nx ms s).pos acc → (argsS ms e n acc s).2.why = 0 →
    Ex.fineL (nx ms (argsS ms e n acc s).2).pos (argsS ms e n acc s).1 ∧ Ex.sizeL (argsS ms e n acc s).1 + s.at_ ≤ (argsS ms e n acc s).2.at_ + Ex.sizeL acc
  | 0, acc, s, _, _, hf, _ => ⟨hf, by simp [argsS]; omega⟩
  | n + 1, acc, s, h, hk, hf, hw => by
    by_cases hc : s.why = 0 ∧ isB ms s [41] = false
    · simp only [argsS, if_pos hc] at hw ⊢
      have h1 : On ms s (if acc = [] then s else wantS ms s [44]) := by
        split
        · exact On.refl h
        · exact want_on hg h
      generalize (if acc = [] then s else wantS ms s [44]) = s1 at *
      have l1 := h1.le
      have h2 := (he s1 h1.lt (by omega)).1
      have l2 := h2.le
      have h3 := args_on hg he n (acc ++ [(e s1).1]) (e s1).2 h2.lt (by omega)
      have hw1 : (e s1).2.why = 0 := h3.ok hw
      obtain ⟨t1, t2⟩ := ht s1 h1.lt (by omega) hw1
      have hf' : Ex.fineL (nx ms (e s1).2).pos acc := Ex.fineL_mono (h2g.le (by omega) h2.lt) acc hf
      obtain ⟨r1, r2⟩ := args_tree hg h2g he ht n (acc ++ [(e s1).1]) (e s1).2 h2.lt (by omega) ((Ex.fineL_append _ _).2 ⟨hf', t1, trivial⟩) hw
      refine ⟨r1, ?_⟩
      simp only [Ex.sizeL_append, Ex.sizeL] at r2
      omega
    · simp only [argsS, if_neg hc]
      exact ⟨hf, by omega⟩
theorem named_tree (hg : Good ms) (h2g : Good2 ms) (he : Reads ms k e) (ht : Trees ms k e) {s : St} (h : s.at_ < ms.length) (hk : ms.length ≤ s.at_ + (k + 1)) (hkind : (nx ms s).kind = 0) (hw : (namedS ms e (nx ms s) (adv s)).2.why = 0) :
    Tree ms s (namedS ms e (nx ms s) (adv s)) := by
  have h0 := adv_on hg h (by rw [hkind]; decide)
  simp only [namedS] at hw ⊢
  by_cases hb : isB ms (adv s) [40] = true
  · simp only [hb, if_true] at hw ⊢
    have h1 := isB_on hg h0.lt hb
    have hk1 : ms.length ≤ (adv (adv s)).at_ + k := by rw [adv_at, adv_at]; omega
    obtain ⟨w1, w2, w3⟩ := want_why hw
    have h2 := args_on hg he (ms.length + 1) [] (adv (adv s)) h1.lt hk1
    obtain ⟨r1, r2⟩ := args_tree hg h2g he ht (ms.length + 1) [] (adv (adv s)) h1.lt hk1 trivial w1
    have l2 := h2.le
    have h3 := isB_on hg h2.lt w2
    rw [adv_at, adv_at] at r2 l2
    simp only [Ex.sizeL] at r2
    refine ⟨?_, ?_⟩
    · rw [w3]
      simp only [Ex.fine]
      refine ⟨.inl rfl, fun x => by omega, fun x => by omega, ⟨h2g.nn h, h2g.lt ?_ h3.lt⟩, Ex.fineL_mono (h2g.le h3.le h3.lt) _ r1⟩
      rw [adv_at]; omega
    · rw [w3, adv_at]; simp only [Ex.size]; omega
  · rw [if_neg hb]
    refine ⟨?_, ?_⟩
    · simp only [Ex.fine]
      exact ⟨.inr (.inr (.inr (.inr ⟨by decide, rfl⟩))), fun x => by omega, fun x => by omega, ⟨h2g.nn h, h2g.lt (by simp [adv]) h0.lt⟩, trivial⟩
    · simp [Ex.size, Ex.sizeL, adv]; omega
theorem wordS_in (t : Bytes) : wordS t = 0 ∨ wordS t = 2 ∨ wordS t = 3 ∨ wordS t = 4 ∨ wordS t = 5 ∨ wordS t = 14 ∨ wordS t = 15 ∨ wordS t = 16 ∨ wordS t = 17 := by
  simp only [wordS]
  repeat (split; · simp)
  simp
theorem unit_tree (hg : Good ms) (h2g : Good2 ms) (he : Reads ms k e) (ht : Trees ms k e) : Trees ms (k + 1) (unitS ms e) := by
  intro s h hk hw
  simp only [unitS] at hw ⊢
  by_cases hy : s.why ≠ 0
  · rw [if_pos hy] at hw; exact absurd hw hy
  rw [if_neg hy] at hw ⊢
  by_cases k2 : (nx ms s).kind = 2
  · rw [if_pos k2]
    have h0 := adv_on hg h (by rw [k2]; decide)
    refine ⟨?_, by simp [Ex.size, Ex.sizeL, adv]; omega⟩
    simp only [Ex.fine]
    exact ⟨.inr (.inr (.inr (.inr ⟨by decide, rfl⟩))), fun x => by omega, fun _ => h2g.num _ h k2, ⟨h2g.nn h, h2g.lt (by simp [adv]) h0.lt⟩, trivial⟩
  rw [if_neg k2] at hw ⊢
  by_cases k0 : (nx ms s).kind = 0
  · rw [if_pos k0] at hw ⊢
    exact named_tree hg h2g he ht h (by omega) k0 hw
  rw [if_neg k0] at hw ⊢
  by_cases hb : isB ms s [40] = true
  · rw [if_pos hb] at hw ⊢
    have h3 := isB_on hg h hb
    obtain ⟨w1, w2, w3⟩ := want_why hw
    have h4 := (he (adv s) h3.lt (by simp [adv]; omega)).1
    obtain ⟨t1, t2⟩ := ht (adv s) h3.lt (by simp [adv]; omega) w1
    have h5 := isB_on hg h4.lt w2
    refine ⟨?_, ?_⟩
    · show Ex.fine _ _
      rw [w3]; exact Ex.fine_mono (h2g.le h5.le h5.lt) _ t1
    · rw [w3, adv_at]; rw [adv_at] at t2; show (e (adv s)).1.size + _ ≤ _; omega
  rw [if_neg hb] at hw ⊢
  by_cases k1 : (nx ms s).kind ≠ 1 ∨ wordS (nx ms s).text = 0
  · rw [if_pos k1] at hw; exact absurd hw (fail_why (by decide))
  rw [if_neg k1] at hw ⊢
  have hk2 : (nx ms s).kind ≠ 4 := by
    intro e; exact k1 (.inl (by rw [e]; decide))
  have h3 := adv_on hg h hk2
  have hpos := h2g.nn h
  by_cases w5 : wordS (nx ms s).text = 5
  · rw [if_pos w5] at hw ⊢
    have h4 := typ_on hg h3.lt
    obtain ⟨y1, y2⟩ := typ_why hw
    refine ⟨?_, ?_⟩
    · simp only [Ex.fine, w5]
      exact ⟨.inr (.inr (.inr (.inr ⟨by decide, rfl⟩))), fun _ => y1, fun x => by omega, ⟨hpos, h2g.lt (by rw [y2]; simp [adv]; omega) h4.lt⟩, trivial⟩
    · rw [y2]; simp [Ex.size, Ex.sizeL, adv]; omega
  rw [if_neg w5] at hw ⊢
  by_cases w1 : oneArg (wordS (nx ms s).text) = true
  · rw [if_pos w1] at hw ⊢
    obtain ⟨y1, y2, y3⟩ := want_why hw
    have h4 := want_on hg (t := [40]) h3.lt
    have l4 := h4.le
    have h5 := (he _ h4.lt (by rw [adv_at] at l4; omega)).1
    obtain ⟨t1, t2⟩ := ht _ h4.lt (by rw [adv_at] at l4; omega) y1
    have h6 := isB_on hg h5.lt y2
    have l5 := h5.le
    refine ⟨?_, ?_⟩
    · rw [y3]
      simp only [Ex.fine]
      refine ⟨.inr (.inr (.inr (.inl ⟨?_, rfl⟩))), ?_, ?_, ⟨hpos, h2g.lt ?_ h6.lt⟩, Ex.fine_mono (h2g.le h6.le h6.lt) _ t1, trivial⟩
      · simpa [oneArg, or_assoc] using w1
      · intro hh; rcases hh with hh | hh | hh <;> rw [hh] at w1 <;> simp [oneArg] at w1
      · intro hh; rw [hh] at w1; simp [oneArg] at w1
      · rw [adv_at] at l4 ⊢; omega
    · rw [y3, adv_at]; rw [adv_at] at l4; simp [Ex.size, Ex.sizeL]; omega
  · rw [if_neg w1] at hw ⊢
    refine ⟨?_, by simp [Ex.size, Ex.sizeL, adv]; omega⟩
    simp only [Ex.fine]
    have hin := wordS_in (nx ms s).text
    simp only [not_or] at k1
    have w0 := k1.2
    simp only [oneArg, Bool.or_eq_true, decide_eq_true_eq, not_or] at w1
    generalize wordS (nx ms s).text = w at *
    refine ⟨.inr (.inr (.inr (.inr ⟨by omega, rfl⟩))), by omega, by omega, ⟨hpos, h2g.lt (by simp [adv]) h3.lt⟩, trivial⟩
theorem two_fine {hi : Int} {op : Int} {a b : Ex} {m : Mk} (ho : op = 8 ∨ op = 9 ∨ op = 10 ∨ op = 11 ∨ op = 12 ∨ op = 13 ∨ op = 18) (ha : a.fine hi) (hb : b.fine hi) (hm : 0 ≤ m.pos ∧ m.pos < hi) : (two op a b m).fine hi := by
  simp only [two, Ex.fine]
  exact ⟨.inr (.inr (.inl ⟨by omega, rfl⟩)), by omega, by omega, hm, ha, hb, trivial⟩
theorem two_size {op : Int} {a b : Ex} {m : Mk} : (two op a b m).size = 1 + a.size + b.size := by simp [two, Ex.size, Ex.sizeL]; omega
theorem chain_tree (hg : Good ms) (h2g : Good2 ms) {sub : St → Ex × St} (he : Reads ms k sub) (ht : Trees ms k sub) {o1 o2 : Bytes} {c1 c2 : Int} (hc : (c1 = 8 ∧ c2 = 9) ∨ (c1 = 10 ∧ c2 = 11)) : ∀ (n : Nat) (a : Ex) (s0 s : St), s0.at_ ≤ s.at_ → s.at_ < ms.length → ms.length ≤ s.at_ + k → (chainS ms sub o1 o2 c1 c2 n a s).2.why = 0 → (a.fine (nx ms s).pos ∧ a.size + s0.at_ ≤ s.at_) → Tree ms s0 (chainS ms sub o1 o2 c1 c2 n a s)
  | 0, a, s0, s, _, h, _, _, hf => ⟨hf.1, hf.2⟩
  | n + 1, a, s0, s, h0, h, hk, hw, hf => by
    simp only [chainS] at hw ⊢
    by_cases hb : isB ms s o1 = true ∨ isB ms s o2 = true
    · rw [if_pos hb] at hw ⊢
      have h1 : On ms s (adv s) := by
        rcases hb with hb | hb <;> exact isB_on hg h hb
      have h2 := (he (adv s) h1.lt (by simp [adv]; omega)).1
      have l2 := h2.le
      rw [adv_at] at l2
      have h3 := chain_on hg he (o1 := o1) (o2 := o2) (c1 := c1) (c2 := c2) n (two (if (nx ms s).text = o2 then c2 else c1) a (sub (adv s)).1 (nx ms s)) _ h2.lt (by omega)
      have hw1 := h3.ok hw
      obtain ⟨t1, t2⟩ := ht (adv s) h1.lt (by simp [adv]; omega) hw1
      rw [adv_at] at t2
      refine chain_tree hg h2g he ht hc n _ s0 _ (by omega) h2.lt (by omega) hw ⟨two_fine ?_ (Ex.fine_mono (h2g.le (by omega) h2.lt) _ hf.1) t1 ⟨h2g.nn h, h2g.lt (by omega) h2.lt⟩, ?_⟩
      · split <;> omega
      · rw [two_size]; have := hf.2; omega
    · rw [if_neg hb]; exact hf
theorem chain_trees (hg : Good ms) (h2g : Good2 ms) {sub : St → Ex × St} (he : Reads ms k sub) (ht : Trees ms k sub) {o1 o2 : Bytes} {c1 c2 : Int} (hc : (c1 = 8 ∧ c2 = 9) ∨ (c1 = 10 ∧ c2 = 11)) {n : Nat} : Trees ms k (fun s => chainS ms sub o1 o2 c1 c2 n (sub s).1 (sub s).2) := by
  intro s h hk hw
  have h1 := (he s h hk).1
  have l1 := h1.le
  have h2 := chain_on hg he (o1 := o1) (o2 := o2) (c1 := c1) (c2 := c2) n (sub s).1 (sub s).2 h1.lt (by omega)
  obtain ⟨t1, t2⟩ := ht s h hk (h2.ok hw)
  exact chain_tree hg h2g he ht hc n _ s _ l1 h1.lt (by omega) hw ⟨t1, t2⟩
theorem term_tree (hg : Good ms) (h2g : Good2 ms) (he : Reads ms k e) (ht : Trees ms k e) : Trees ms (k + 1) (termS ms e) := chain_trees hg h2g (unit_on hg he) (unit_tree hg h2g he ht) (.inr ⟨rfl, rfl⟩)
theorem sum_tree (hg : Good ms) (h2g : Good2 ms) (he : Reads ms k e) (ht : Trees ms k e) : Trees ms (k + 1) (sumS ms e) := chain_trees hg h2g (term_on hg he) (term_tree hg h2g he ht) (.inl ⟨rfl, rfl⟩)
theorem comp_tree (hg : Good ms) (h2g : Good2 ms) (he : Reads ms k e) (ht : Trees ms k e) : Trees ms (k + 1) (compS ms e) := by
  intro s h hk hw
  have h1 := (sum_on hg he s h hk).1
  have l1 := h1.le
  simp only [compS] at hw ⊢
  by_cases hb : isB ms (sumS ms e s).2 [61, 61] = true ∨ isB ms (sumS ms e s).2 [60] = true
  · rw [if_pos hb] at hw ⊢
    have h3 : On ms (sumS ms e s).2 (adv (sumS ms e s).2) := by
      rcases hb with hb | hb <;> exact isB_on hg h1.lt hb
    have h4 := (sum_on hg he _ h3.lt (by have := h3.le; omega)).1
    have l4 := h4.le
    have w3 := h4.ok hw
    have w1 := h3.ok w3
    obtain ⟨t1, t2⟩ := sum_tree hg h2g he ht s h hk w1
    obtain ⟨t3, t4⟩ := sum_tree hg h2g he ht _ h3.lt (by have := h3.le; omega) hw
    rw [adv_at] at l4 t4
    refine ⟨two_fine ?_ (Ex.fine_mono (h2g.le (by omega) h4.lt) _ t1) t3 ⟨h2g.nn h1.lt, h2g.lt (s' := (sumS ms e (adv (sumS ms e s).2)).2) (by omega) h4.lt⟩, ?_⟩
    · split <;> omega
    · rw [two_size]; show _ ≤ (sumS ms e (adv (sumS ms e s).2)).2.at_; omega
  · rw [if_neg hb] at hw ⊢
    exact sum_tree hg h2g he ht s h hk hw
theorem cons_tree (hg : Good ms) (h2g : Good2 ms) (he : Reads ms k e) (ht : Trees ms k e) : ∀ (n : Nat) (s : St), s.at_ < ms.length → ms.length ≤ s.at_ + (k + 1) → ms.length < s.at_ + n → (consS ms e n s).2.why = 0 → Tree ms s (consS ms e n s)
  | 0, s, h, _, hn, _ => by omega
  | n + 1, s, h, hk, hn, hw => by
    have h1 := (comp_on hg he s h hk).1
    have l1 := h1.le
    simp only [consS] at hw ⊢
    by_cases hb : isB ms (compS ms e s).2 [58] = true
    · rw [if_pos hb] at hw ⊢
      have h3 := isB_on hg h1.lt hb
      have h4 := (cons_on hg he n (adv (compS ms e s).2) h3.lt (by rw [adv_at]; omega) (by rw [adv_at]; omega)).1
      have l4 := h4.le
      have w1 := h3.ok (h4.ok hw)
      obtain ⟨t1, t2⟩ := comp_tree hg h2g he ht s h hk w1
      obtain ⟨t3, t4⟩ := cons_tree hg h2g he ht n (adv (compS ms e s).2) h3.lt (by rw [adv_at]; omega) (by rw [adv_at]; omega) hw
      rw [adv_at] at l4 t4
      refine ⟨two_fine (by omega) (Ex.fine_mono (h2g.le (by omega) h4.lt) _ t1) t3 ⟨h2g.nn h1.lt, h2g.lt (s' := (consS ms e n (adv (compS ms e s).2)).2) (by omega) h4.lt⟩, ?_⟩
      rw [two_size]; show _ ≤ (consS ms e n (adv (compS ms e s).2)).2.at_; omega
    · rw [if_neg hb] at hw ⊢
      exact comp_tree hg h2g he ht s h hk hw
theorem parts_tree (hg : Good ms) (h2g : Good2 ms) (he : Reads ms k e) (ht : Trees ms k e) : ∀ (l : List Bytes) (s : St), s.at_ < ms.length → ms.length ≤ s.at_ + k → (partsS ms e s l).2.why = 0 →
    Ex.fineL (nx ms (partsS ms e s l).2).pos (partsS ms e s l).1 ∧ Ex.sizeL (partsS ms e s l).1 + s.at_ ≤ (partsS ms e s l).2.at_ ∧ (partsS ms e s l).1.length = l.length
  | [], s, h, _, _ => ⟨trivial, by simp [partsS, Ex.sizeL], rfl⟩
  | t :: l, s, h, hk, hw => by
    simp only [partsS] at hw ⊢
    have h1 : On ms s (if t = [] then s else wantS ms s t) := by
      split
      · exact On.refl h
      · exact want_on hg h
    generalize (if t = [] then s else wantS ms s t) = s1 at *
    have l1 := h1.le
    have h2 := (he s1 h1.lt (by omega)).1
    have l2 := h2.le
    have h3 := parts_on hg he l (e s1).2 h2.lt (by omega)
    obtain ⟨t1, t2⟩ := ht s1 h1.lt (by omega) (h3.ok hw)
    obtain ⟨r1, r2, r3⟩ := parts_tree hg h2g he ht l (e s1).2 h2.lt (by omega) hw
    refine ⟨⟨Ex.fine_mono (h2g.le h3.le h3.lt) _ t1, r1⟩, ?_, by simp [r3]⟩
    simp only [Ex.sizeL]; omega
theorem branches_tree (hg : Good ms) (h2g : Good2 ms) (he : Reads ms k e) (ht : Trees ms k e) {s s0 : St} (h0 : s0.at_ < s.at_) (h : s.at_ < ms.length) (hk : ms.length ≤ s.at_ + k) (hw : (branchesS ms e s (nx ms s0).pos).2.why = 0) :
    Tree ms s0 (branchesS ms e s (nx ms s0).pos) := by
  have a0 := (he s h hk).1
  have a1 := br1_on hg he h hk
  have b1 := (he _ a1.lt (by have := a1.le; omega)).1
  have a2 := br2_on hg he h hk
  have a3 := br3_on hg he h hk
  have a4 := br4_on hg he h hk
  have b4 := (he _ a4.lt (by have := a4.le; omega)).1
  have w4 : (br4 ms e s).why = 0 := b4.ok hw
  have x4 := (want_why w4)
  have x4n := name_why x4.1
  have w3 : (br3 ms e s).why = 0 := (name_on hg a3.lt).ok x4.1
  have x3 := want_why w3
  have w2 : (br2 ms e s).why = 0 := (name_on hg a2.lt).ok x3.1
  have x2 := want_why w2
  have w1 : (br1 ms e s).why = 0 := b1.ok x2.1
  have x1 := want_why w1
  have x1b := want_why x1.1
  have x1c := want_why x1b.1
  obtain ⟨t1, u1⟩ := ht s h hk x1c.1
  obtain ⟨t2, u2⟩ := ht _ a1.lt (by have := a1.le; omega) x2.1
  obtain ⟨t3, u3⟩ := ht _ a4.lt (by have := a4.le; omega) hw
  have l1 : (e s).2.at_ ≤ (br1 ms e s).at_ := by
    show _ ≤ (wantS ms (wantS ms (wantS ms (e s).2 [111, 102]) [110, 105, 108]) [45, 62]).at_
    have o1 := want_on hg (t := [111, 102]) a0.lt
    have o2 := want_on hg (t := [110, 105, 108]) o1.lt
    have o3 := want_on hg (t := [45, 62]) o2.lt
    exact ((o1.trans o2).trans o3).le
  have l2 : (e (br1 ms e s)).2.at_ ≤ (br2 ms e s).at_ := (want_on hg b1.lt).le
  have l3 : (br2 ms e s).at_ ≤ (br3 ms e s).at_ := by
    have o1 := name_on hg a2.lt
    exact (o1.trans (want_on hg o1.lt)).le
  have l4 : (br3 ms e s).at_ ≤ (br4 ms e s).at_ := by
    have o1 := name_on hg a3.lt
    exact (o1.trans (want_on hg o1.lt)).le
  have l5 := b4.le
  have l0 := a0.le
  have lb1 := b1.le
  refine ⟨?_, ?_⟩
  · simp only [branchesS, Ex.fine]
    refine ⟨.inr (.inl ⟨by decide, rfl⟩), fun x => by omega, fun x => by omega, ⟨h2g.nn (by omega), h2g.lt (by omega) b4.lt⟩, Ex.fine_mono (h2g.le (by omega) b4.lt) _ t1, Ex.fine_mono (h2g.le (by omega) b4.lt) _ t2, t3, trivial⟩
  · simp only [branchesS, Ex.size, Ex.sizeL]; omega
theorem let_tree (hg : Good ms) (h2g : Good2 ms) (he : Reads ms k e) (ht : Trees ms k e) {s s0 : St} (h0 : s0.at_ < s.at_) (h : s.at_ < ms.length) (hk : ms.length ≤ s.at_ + k) (hw : (letS ms e s (nx ms s0)).2.why = 0) :
    Tree ms s0 (letS ms e s (nx ms s0)) := by
  have a1 := name_on hg h
  have a2 := typ_on hg a1.lt
  have l12 := (a1.trans a2).le
  have a3 := parts_on hg he [[61], [105, 110]] _ a2.lt (by omega)
  obtain ⟨r1, r2, r3⟩ := parts_tree hg h2g he ht [[61], [105, 110]] _ a2.lt (by omega) hw
  have y := (typ_why (a3.ok hw)).1
  have l3 := a3.le
  refine ⟨?_, ?_⟩
  · simp only [letS, Ex.fine]
    refine ⟨.inr (.inr (.inl ⟨?_, r3⟩)), fun _ => y, ?_, ⟨h2g.nn (by omega), h2g.lt (by omega) a3.lt⟩, r1⟩
    · split <;> omega
    · split <;> omega
  · simp only [letS, Ex.size]; omega
theorem if_tree (hg : Good ms) (h2g : Good2 ms) (he : Reads ms k e) (ht : Trees ms k e) {l : List Bytes} (hl : l.length = 3) {s s0 : St} (h0 : s0.at_ < s.at_) (h : s.at_ < ms.length) (hk : ms.length ≤ s.at_ + k) (hw : (partsS ms e s l).2.why = 0) :
    Tree ms s0 (.mk 19 [] [] 0 0 0 (partsS ms e s l).1 (nx ms s0).pos, (partsS ms e s l).2) := by
  have a3 := parts_on hg he l _ h hk
  obtain ⟨r1, r2, r3⟩ := parts_tree hg h2g he ht l _ h hk hw
  have l3 := a3.le
  refine ⟨?_, ?_⟩
  · simp only [Ex.fine]
    exact ⟨.inr (.inl ⟨by decide, r3.trans hl⟩), fun x => by omega, fun x => by omega, ⟨h2g.nn (by omega), h2g.lt (s' := (partsS ms e s l).2) (by omega) a3.lt⟩, r1⟩
  · simp only [Ex.size]; omega
theorem head_tree (hg : Good ms) (h2g : Good2 ms) (he : Reads ms k e) (ht : Trees ms k e) {s s0 : St} (h0 : s0.at_ < s.at_) (h : s.at_ < ms.length) (hk : ms.length ≤ s.at_ + k) (hw : (headS ms e s (nx ms s0)).2.why = 0) :
    Tree ms s0 (headS ms e s (nx ms s0)) := by
  simp only [headS] at hw ⊢
  by_cases h1 : (nx ms s0).text = [105, 102]
  · rw [if_pos h1] at hw ⊢
    exact if_tree hg h2g he ht rfl h0 h hk hw
  · rw [if_neg h1] at hw ⊢
    by_cases h2 : (nx ms s0).text = [99, 97, 115, 101]
    · rw [if_pos h2] at hw ⊢
      exact branches_tree hg h2g he ht h0 h hk hw
    · rw [if_neg h2] at hw ⊢
      exact let_tree hg h2g he ht h0 h hk hw
theorem expr_tree (hg : Good ms) (h2g : Good2 ms) (he : Reads ms k e) (ht : Trees ms k e) : Trees ms (k + 1) (exprS ms e) := by
  intro s h hk hw
  simp only [exprS] at hw ⊢
  by_cases hy : s.why ≠ 0
  · rw [if_pos hy] at hw; exact absurd hw hy
  rw [if_neg hy] at hw ⊢
  by_cases hb : bindsB ms s = true
  · rw [if_pos hb] at hw ⊢
    by_cases hn : 32768 ≤ s.nest
    · rw [if_pos hn] at hw; exact absurd hw (fail_why (by decide))
    · rw [if_neg hn] at hw ⊢
      have h0 := adv_on hg h (binds_kind hb).2
      have h1 : (adv (deeper s)).at_ < ms.length := h0.lt
      exact head_tree hg h2g he ht (s0 := s) (s := adv (deeper s)) (by simp [adv, deeper]) h1 (by simp [adv, deeper]; omega) hw
  · rw [if_neg hb] at hw ⊢
    by_cases hi : isB ms s [105, 102] = true
    · rw [if_pos hi] at hw ⊢
      have h0 := isB_on hg h hi
      exact head_tree hg h2g he ht (s0 := s) (s := adv s) (by simp [adv]) h0.lt (by simp [adv]; omega) hw
    · rw [if_neg hi] at hw ⊢
      exact cons_tree hg h2g he ht _ s h hk (by omega) hw
theorem pExpr_tree (hg : Good ms) (h2g : Good2 ms) : ∀ (k : Nat), Trees ms k (pExpr ms k)
  | 0 => fun s h hk => by omega
  | k + 1 => expr_tree hg h2g (pExpr_on hg k) (pExpr_tree hg h2g k)
end
end Go.AM

/- AM: what is known of a program that was read. -/
namespace Go.AM

theorem oneS_pos (b : Bytes) (p : Nat) : (oneS b p).1.pos = p := by
  simp only [oneS]
  split
  · rfl
  · split
    · rfl
    · split <;> rfl
theorem numS_ok {s : Bytes} (h : (numS s).2 = 0) : -16777216 ≤ (numS s).1.1 ∧ (numS s).1.1 ≤ 16777216 ∧ -16777216 ≤ (numS s).1.2 ∧ (numS s).1.2 ≤ 16777216 := by
  simp only [numS] at h ⊢
  split at h
  · simp at h
  · rename_i h1
    split at h
    · simp at h
    · rename_i h2
      rw [if_neg h1, if_neg h2]
      simp only [not_or, ne_eq, Decidable.not_not] at h2
      have h3 := h2.1
      simp only [inS] at h3
      split at h3
      · simp at h3
      · show -16777216 ≤ (numS1 s).1 ∧ (numS1 s).1 ≤ 16777216 ∧ -16777216 ≤ (numS1 s).2 ∧ (numS1 s).2 ≤ 16777216
        omega
theorem oneS_num {b : Bytes} {p : Nat} (h : (oneS b p).2 = true) (hk : (oneS b p).1.kind = 2) : numOK (oneS b p).1.re (oneS b p).1.im := by
  simp only [oneS] at h hk ⊢
  split at h
  · rename_i h1
    rw [if_pos h1]
    have := numS_ok (of_decide_eq_true h)
    exact ⟨_, _, this.1, this.2.1, this.2.2.1, this.2.2.2, rfl, rfl⟩
  · rename_i h1
    rw [if_neg h1] at hk
    split at h
    · rename_i h2; rw [if_pos h2] at hk; cases hk
    · rename_i h2
      rw [if_neg h2] at hk
      split at h
      · rename_i h3; rw [if_pos h3] at hk; dsimp only at hk; split at hk <;> cases hk
      · rename_i h3; rw [if_neg h3] at hk; cases hk

theorem marksS_srt {b : Bytes} : ∀ (k p : Nat) (l : List Mk), p ≤ b.length → marksS b k p = .inl l → l.Pairwise (fun x y => x.pos < y.pos) ∧ ∀ m ∈ l, (p : Int) ≤ m.pos ∧ (m.kind = 2 → numOK m.re m.im)
  | 0, p, l, _, h => by simp [marksS] at h
  | k + 1, p, l, hp, h => by
    simp only [marksS] at h
    split at h
    · rename_i hlt
      split at h
      · obtain ⟨h1, h2⟩ := marksS_srt k (p + 1) l (by omega) h
        exact ⟨h1, fun m hm => ⟨by have := (h2 m hm).1; omega, (h2 m hm).2⟩⟩
      · split at h
        · have := skipN_le b hp
          obtain ⟨h1, h2⟩ := marksS_srt k (p + skipN b p) l (by omega) h
          exact ⟨h1, fun m hm => ⟨by have := (h2 m hm).1; omega, (h2 m hm).2⟩⟩
        · split at h
          · rename_i hok
            obtain ⟨g1, g2⟩ := oneS_len hlt hok
            have hps := oneS_pos b p
            have hnm := oneS_num hok
            cases hr : marksS b k (p + (oneS b p).1.text.length) with
            | inr q => rw [hr] at h; simp [pre] at h
            | inl l' =>
              rw [hr] at h
              simp only [pre, Sum.inl.injEq] at h
              obtain ⟨h1, h2⟩ := marksS_srt k _ l' g2 hr
              rw [← h]
              refine ⟨List.pairwise_cons.2 ⟨fun m hm => by have := (h2 m hm).1; omega, h1⟩, fun m hm => ?_⟩
              rcases List.mem_cons.1 hm with rfl | hm
              · exact ⟨by omega, hnm⟩
              · exact ⟨by have := (h2 m hm).1; omega, (h2 m hm).2⟩
          · cases h
    · simp only [Sum.inl.injEq] at h
      rw [← h]
      refine ⟨List.pairwise_singleton _ _, fun m hm => ?_⟩
      rw [List.mem_singleton] at hm
      subst hm
      exact ⟨by simpa using hp, by simp⟩
theorem marks_good2 {b : Bytes} {l : List Mk} (h : marksS b (b.length + 1) 0 = .inl l) : Good2 l := by
  obtain ⟨h1, h2⟩ := marksS_srt _ _ _ (by omega) h
  have hg : ∀ i (hi : i < l.length), l.getD i mk0 = l[i] := fun i hi => by simp [List.getD, hi]
  refine ⟨fun i j hij hj => ?_, fun i hi => ?_, fun i hi hk => ?_⟩
  · rw [hg i (by omega), hg j hj]; exact List.pairwise_iff_getElem.1 h1 i j _ _ hij
  · rw [hg i hi]; simpa using (h2 _ (List.getElem_mem hi)).1
  · rw [hg i hi] at hk ⊢; exact (h2 _ (List.getElem_mem hi)).2 hk

structure Pm.fine (hi : Int) (p : Pm) : Prop where
  ty : tyOK p.ty
  pos : 0 ≤ p.pos ∧ p.pos < hi
structure Df.fine (hi : Int) (f : Df) : Prop where
  params : ∀ p ∈ f.params, p.fine hi
  ty : tyOK f.ty
  body : f.body.fine hi
  pos : 0 ≤ f.pos ∧ f.pos < hi
def Df.size (f : Df) : Nat := 1 + f.params.length + f.body.size
def sizeP : List Df → Nat
  | [] => 0
  | f :: l => f.size + sizeP l
/-- Definitions, one behind another. -/
def fineP (lo : Int) : List Df → Prop
  | [] => True
  | f :: l => lo ≤ f.pos ∧ ∃ hi, f.fine hi ∧ fineP hi l

section
variable {ms : List Mk}
theorem params_tree (hg : Good ms) (h2g : Good2 ms) : ∀ (n : Nat) (acc : List Pm) (s : St), s.at_ < ms.length → (∀ p ∈ acc, p.fine (nx ms s).pos) → (paramsS ms n acc s).2.why = 0 →
    (∀ p ∈ (paramsS ms n acc s).1, p.fine (nx ms (paramsS ms n acc s).2).pos) ∧ (paramsS ms n acc s).1.length + s.at_ ≤ (paramsS ms n acc s).2.at_ + acc.length
  | 0, acc, s, _, hf, _ => ⟨hf, by simp [paramsS]; omega⟩
  | n + 1, acc, s, h, hf, hw => by
    simp only [paramsS] at hw ⊢
    by_cases hc : s.why = 0 ∧ isB ms s [41] = false
    · rw [if_pos hc] at hw ⊢
      have a1 := par1_on hg (acc := acc) h
      have a2 := name_on hg a1.lt
      have a3 := typ_on hg a2.lt
      have a4 : On ms _ _ := params_on hg n (acc ++ [parP ms acc s]) (parT ms acc s) a3.lt
      have w3 : (parT ms acc s).why = 0 := a4.ok hw
      have y := typ_why w3
      have w2 := a3.ok w3
      have z := name_why w2
      have l1 := a1.le
      have e2 : (nameS ms (par1 ms acc s)).2.at_ = (par1 ms acc s).at_ + 1 := by rw [z.2]; rfl
      have e3 : (parT ms acc s).at_ = (par1 ms acc s).at_ + 2 := by
        show (typS ms (nameS ms (par1 ms acc s)).2).2.at_ = _
        rw [y.2, adv_at, e2]
      obtain ⟨r1, r2⟩ := params_tree hg h2g n (acc ++ [parP ms acc s]) (parT ms acc s) a3.lt (fun p hp => by
        rcases List.mem_append.1 hp with hp | hp
        · have := hf p hp
          have hle : (nx ms s).pos ≤ (nx ms (parT ms acc s)).pos := h2g.le (by omega) a3.lt
          exact ⟨this.ty, this.pos.1, Int.lt_of_lt_of_le this.pos.2 hle⟩
        · rw [List.mem_singleton] at hp
          subst hp
          refine ⟨y.1, ?_⟩
          show 0 ≤ (nameS ms (par1 ms acc s)).1.pos ∧ (nameS ms (par1 ms acc s)).1.pos < _
          rw [z.1]
          exact ⟨h2g.nn a1.lt, h2g.lt (by omega) a3.lt⟩) hw
      refine ⟨r1, ?_⟩
      simp only [List.length_append, List.length_singleton] at r2
      omega
    · rw [if_neg hc]
      exact ⟨hf, by show acc.length + s.at_ ≤ s.at_ + _; omega⟩
theorem def_tree (hg : Good ms) (h2g : Good2 ms) {n : Nat} {s : St} (h : s.at_ < ms.length) (hw : (defS ms n s).2.why = 0) :
    (defS ms n s).1.fine (nx ms (defS ms n s).2).pos ∧ (defS ms n s).1.size + s.at_ ≤ (defS ms n s).2.at_ ∧ (nx ms s).pos ≤ (defS ms n s).1.pos := by
  have b1 := df1_on (n := n) h
  have b2 := name_on hg b1.lt
  have b3 := want_on hg (t := [40]) b2.lt
  have b4 := params_on hg (ms.length + 1) [] _ b3.lt
  have a3 := df3_on hg (n := n) h
  have c1 := typ_on hg a3.lt
  have a4 := df4_on hg (n := n) h
  have c2 := (pExpr_on hg ms.length _ a4.lt (by omega)).1
  have w5 := want_why hw
  have w4 := c2.ok w5.1
  have w4' := want_why w4
  have y := typ_why w4'.1
  have w3 := c1.ok w4'.1
  have w3' := want_why w3
  have w3'' := want_why w3'.1
  have w2 := b4.ok w3''.1
  have w2' := want_why w2
  have z := name_why w2'.1
  obtain ⟨r1, r2⟩ := params_tree hg h2g (ms.length + 1) [] _ b3.lt (by simp) w3''.1
  obtain ⟨t1, t2⟩ := pExpr_tree hg h2g ms.length _ a4.lt (by omega) w5.1
  have c3 := want_on hg (t := [59]) c2.lt
  have l1 := b1.le
  have l2 : (nameS ms (df1 ms n s)).2.at_ = (df1 ms n s).at_ + 1 := by rw [z.2]; rfl
  have l3 := b3.le
  have l4 := b4.le
  have o1 := want_on hg (t := [41]) b4.lt
  have l5 : (df2 ms n s).2.at_ ≤ (df3 ms n s).at_ := (o1.trans (want_on hg o1.lt)).le
  have l6 : (df3 ms n s).at_ ≤ (df4 ms n s).at_ := (c1.trans (want_on hg c1.lt)).le
  have l7 := c2.le
  have l8 := c3.le
  have l4' : (wantS ms (nameS ms (df1 ms n s)).2 [40]).at_ ≤ (df2 ms n s).2.at_ := l4
  have r2' : (df2 ms n s).1.length + (wantS ms (nameS ms (df1 ms n s)).2 [40]).at_ ≤ (df2 ms n s).2.at_ := by have := r2; simp only [List.length_nil, Nat.add_zero] at this; exact this
  have e9 : (defS ms n s).2.at_ = (pExpr ms ms.length (df4 ms n s)).2.at_ + 1 := by
    show (wantS ms _ _).at_ = _; rw [w5.2.2]; rfl
  have l9 : (defS ms n s).2.at_ < ms.length := c3.lt
  refine ⟨⟨fun p hp => ?_, y.1, Ex.fine_mono (h2g.le (by omega) l9) _ t1, ?_⟩, ?_, ?_⟩
  · have := r1 p hp
    exact ⟨this.ty, this.pos.1, Int.lt_of_lt_of_le this.pos.2 (h2g.le (s := (df2 ms n s).2) (by omega) l9)⟩
  · show 0 ≤ (nameS ms (df1 ms n s)).1.pos ∧ (nameS ms (df1 ms n s)).1.pos < _
    rw [z.1]
    exact ⟨h2g.nn b1.lt, h2g.lt (by omega) l9⟩
  · show 1 + (df2 ms n s).1.length + (pExpr ms ms.length (df4 ms n s)).1.size + _ ≤ _
    omega
  · show _ ≤ (nameS ms (df1 ms n s)).1.pos
    rw [z.1]
    exact h2g.le (by omega) b1.lt
theorem program_tree (hg : Good ms) (h2g : Good2 ms) : ∀ (n : Nat) (acc : List Df) (s : St), s.at_ < ms.length → (programS ms n acc s).2.why = 0 →
    ∃ l, (programS ms n acc s).1 = acc ++ l ∧ fineP (nx ms s).pos l ∧ sizeP l + s.at_ ≤ (programS ms n acc s).2.at_ ∧ (0 < n → acc = [] → s.why = 0 → l ≠ [])
  | 0, acc, s, _, _ => ⟨[], by simp [programS], trivial, by simp [programS, sizeP], by simp⟩
  | n + 1, acc, s, h, hw => by
    simp only [programS] at hw ⊢
    by_cases hc : s.why = 0 ∧ (acc = [] ∨ (nx ms s).kind ≠ 4)
    · rw [if_pos hc] at hw ⊢
      have h1 := def_on hg (n := acc.length) h
      have h2 := program_on hg n (acc ++ [(defS ms acc.length s).1]) _ h1.lt
      obtain ⟨t1, t2, t3⟩ := def_tree hg h2g h (h2.ok hw)
      obtain ⟨l, r1, r2, r3, _⟩ := program_tree hg h2g n (acc ++ [(defS ms acc.length s).1]) _ h1.lt hw
      refine ⟨(defS ms acc.length s).1 :: l, by rw [r1]; simp, ⟨t3, _, t1, r2⟩, ?_, by simp⟩
      simp only [sizeP]; omega
    · rw [if_neg hc]
      refine ⟨[], by simp, trivial, by simp [sizeP], fun _ ha hw0 => ?_⟩
      exact absurd ⟨hw0, .inl ha⟩ hc
end

/-- A program as it is read. -/
structure FineP (p : List Df) : Prop where
  fine : fineP 0 p
  size : sizeP p ≤ 40000
  some : p ≠ []
theorem readS_fine {b : Bytes} (h : (readS b).2 = true) : FineP (readS b).1 := by
  have h' : (parseS b).2.1 = 0 := of_decide_eq_true h
  show FineP (parseS b).1
  clear h
  have h := h'
  clear h'
  simp only [parseS] at h ⊢
  by_cases hl : 32768 < b.length
  · rw [if_pos hl] at h; cases h
  · rw [if_neg hl] at h ⊢
    cases hm : marksS b (b.length + 1) 0 with
    | inr q => rw [hm] at h; simp at h
    | inl ms =>
      rw [hm] at h
      simp only at h ⊢
      split at h
      · rename_i hw; exact absurd h hw
      · rename_i hw
        rw [if_neg hw]
        have hg := marks_good (by omega) hm
        have h2g := marks_good2 hm
        obtain ⟨l, r1, r2, r3, r4⟩ := program_tree hg h2g (ms.length + 1) [] ⟨0, 0, 0, 0⟩ hg.pos (by simpa using hw)
        have h2 := program_on hg (ms.length + 1) [] ⟨0, 0, 0, 0⟩ hg.pos
        have hlt := h2.lt
        have hle := hg.le
        simp only [List.nil_append] at r1
        rw [r1]
        refine ⟨?_, ?_, r4 (by omega) rfl rfl⟩
        · cases l with
          | nil => trivial
          | cons f l =>
            refine ⟨?_, r2.2⟩
            have h0 := r2.1
            have h1 : 0 ≤ (nx ms ⟨0, 0, 0, 0⟩).pos := h2g.nn hg.pos
            omega
        · simp only at r3; omega
theorem sizeP_len : ∀ (l : List Df), l.length ≤ sizeP l
  | [] => by simp [sizeP]
  | f :: l => by have := sizeP_len l; simp [sizeP, Df.size]; omega
theorem sizeP_mem : ∀ {l : List Df} {f : Df}, f ∈ l → f.size ≤ sizeP l
  | [], _, h => by cases h
  | g :: l, f, h => by
    rcases List.mem_cons.1 h with rfl | h
    · simp [sizeP]
    · have := sizeP_mem h; simp [sizeP]; omega
theorem fineP_mem : ∀ {lo : Int} {l : List Df} {f : Df}, fineP lo l → f ∈ l → ∃ hi, f.fine hi
  | _, [], _, _, h => by cases h
  | _, g :: l, f, hf, h => by
    obtain ⟨_, hi, h1, h2⟩ := hf
    rcases List.mem_cons.1 h with rfl | h
    · exact ⟨hi, h1⟩
    · exact fineP_mem h2 h
end Go.AM
