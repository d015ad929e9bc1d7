/- AM: flat programs, and how a program is made flat. -/
import Derived.Test.YtcpkdbofohkipaaGreatK09
set_option linter.unusedVariables false
set_option linter.unusedSimpArgs false
namespace Go.AM

structure Vl where
  ty : Int
  re : Nat
  im : Nat
  b : Bool
  ls : List (Nat × Nat)
deriving DecidableEq
def zRows (l : List (Nat × Nat)) : List (List AV) := l.map fun z => [.cplx z.1 z.2]
def Vl.cells (v : Vl) : List AV := [.int .i64 v.ty, .cplx v.re v.im, .bool v.b, rowsAV (zRows v.ls)]
@[simp] theorem Vl.cells_length (v : Vl) : v.cells.length = 4 := rfl
def vl0 : Vl := ⟨0, 0, 0, false, []⟩
structure Atm where
  slot : Int
  lit : Vl
deriving DecidableEq
def Atm.cells (a : Atm) : List AV := .int .i64 a.slot :: a.lit.cells
@[simp] theorem Atm.cells_length (a : Atm) : a.cells.length = 5 := rfl
inductive Cd where
  | mk (op slot slot2 func prim : Int) (lit : Vl) (atoms : List Atm) (args : List Cd)
mutual
def Cd.cells : Cd → List AV
  | .mk op slot slot2 func prim lit atoms args => [.int .i64 op, .int .i64 slot, .int .i64 slot2, .int .i64 func, .int .i64 prim] ++ lit.cells ++ [rowsAV (atoms.map Atm.cells), rowsAV (Cd.rows args)]
def Cd.rows : List Cd → List (List AV)
  | [] => []
  | c :: l => c.cells :: Cd.rows l
end
theorem Cd.rows_map : ∀ (l : List Cd), Cd.rows l = l.map Cd.cells
  | [] => rfl
  | c :: l => by rw [Cd.rows, Cd.rows_map l]; rfl
@[simp] theorem Cd.cells_length (c : Cd) : c.cells.length = 11 := by cases c; rfl
@[simp] theorem Cd.take11 (c : Cd) : c.cells.take 11 = c.cells := List.take_of_length_le (by simp)
@[simp] theorem Cd.drop11 (c : Cd) : c.cells.drop 11 = [] := List.drop_eq_nil_of_le (by simp)
@[simp] theorem Cd.take11a (c : Cd) (l : List AV) : (c.cells ++ l).take 11 = c.cells := by rw [List.take_append_of_le_length (by simp)]; simp
@[simp] theorem Atm.take5 (a : Atm) : a.cells.take 5 = a.cells := rfl
@[simp] theorem Atm.drop5 (a : Atm) : a.cells.drop 5 = [] := rfl
@[simp] theorem Atm.lit4 (a : Atm) : (a.cells.drop 1).take 4 = a.lit.cells := rfl
@[simp] theorem Vl.take4 (v : Vl) : v.cells.take 4 = v.cells := rfl
@[simp] theorem Vl.drop4 (v : Vl) : v.cells.drop 4 = [] := rfl
@[simp] theorem Atm.q0 {a : Atm} : a.cells[0]? = some (.int .i64 a.slot) := rfl
def Cd.op : Cd → Int | .mk a _ _ _ _ _ _ _ => a
def Cd.slot : Cd → Int | .mk _ a _ _ _ _ _ _ => a
def Cd.slot2 : Cd → Int | .mk _ _ a _ _ _ _ _ => a
def Cd.func : Cd → Int | .mk _ _ _ a _ _ _ _ => a
def Cd.prim : Cd → Int | .mk _ _ _ _ a _ _ _ => a
def Cd.lit : Cd → Vl | .mk _ _ _ _ _ a _ _ => a
def Cd.atoms : Cd → List Atm | .mk _ _ _ _ _ _ a _ => a
def Cd.args : Cd → List Cd | .mk _ _ _ _ _ _ _ a => a
@[simp] theorem Cd.q0 {c : Cd} : c.cells[0]? = some (.int .i64 c.op) := by cases c; rfl
@[simp] theorem Cd.q1 {c : Cd} : c.cells[1]? = some (.int .i64 c.slot) := by cases c; rfl
@[simp] theorem Cd.q2 {c : Cd} : c.cells[2]? = some (.int .i64 c.slot2) := by cases c; rfl
@[simp] theorem Cd.q3 {c : Cd} : c.cells[3]? = some (.int .i64 c.func) := by cases c; rfl
@[simp] theorem Cd.q4 {c : Cd} : c.cells[4]? = some (.int .i64 c.prim) := by cases c; rfl
@[simp] theorem Cd.q9 {c : Cd} : c.cells[9]? = some (rowsAV (c.atoms.map Atm.cells)) := by cases c; rfl
@[simp] theorem Cd.q10 {c : Cd} : c.cells[10]? = some (rowsAV (c.args.map Cd.cells)) := by
  cases c
  rename_i args
  show some (rowsAV (Cd.rows args)) = _
  rw [Cd.rows_map]; rfl
@[simp] theorem Cd.lit4 (c : Cd) : (c.cells.drop 5).take 4 = c.lit.cells := by cases c; rfl
@[simp] theorem Cd.c0 {c : Cd} {h : 0 < c.cells.length} : c.cells[0] = .int .i64 c.op := by cases c; rfl
@[simp] theorem Cd.c1 {c : Cd} {h : 1 < c.cells.length} : c.cells[1] = .int .i64 c.slot := by cases c; rfl
@[simp] theorem Cd.c2 {c : Cd} {h : 2 < c.cells.length} : c.cells[2] = .int .i64 c.slot2 := by cases c; rfl
@[simp] theorem Cd.c3 {c : Cd} {h : 3 < c.cells.length} : c.cells[3] = .int .i64 c.func := by cases c; rfl
@[simp] theorem Cd.c4 {c : Cd} {h : 4 < c.cells.length} : c.cells[4] = .int .i64 c.prim := by cases c; rfl
@[simp] theorem Cd.c9 {c : Cd} {h : 9 < c.cells.length} : c.cells[9] = rowsAV (c.atoms.map Atm.cells) := by cases c; rfl
@[simp] theorem Cd.c10 {c : Cd} {h : 10 < c.cells.length} : c.cells[10] = rowsAV (c.args.map Cd.cells) := by
  cases c
  rename_i args
  show rowsAV (Cd.rows args) = _
  rw [Cd.rows_map]; rfl
@[simp] theorem Atm.c0 {a : Atm} {h : 0 < a.cells.length} : a.cells[0] = .int .i64 a.slot := rfl
theorem Cd.cells_eq (c : Cd) : c.cells = [.int .i64 c.op, .int .i64 c.slot, .int .i64 c.slot2, .int .i64 c.func, .int .i64 c.prim] ++ c.lit.cells ++ [rowsAV (c.atoms.map Atm.cells), rowsAV (c.args.map Cd.cells)] := by
  cases c
  rename_i args
  show _ ++ [_, rowsAV (Cd.rows args)] = _
  rw [Cd.rows_map]; rfl
/-- A flat function. -/
structure Sup where
  name : Bytes
  params : List Int
  ty : Int
  slots : Int
  code : Cd
def Sup.cells (s : Sup) : List AV := [.str s.name, rowsAV (intRows s.params), .int .i64 s.ty, .int .i64 s.slots] ++ s.code.cells
@[simp] theorem Sup.cells_length (s : Sup) : s.cells.length = 15 := by simp [Sup.cells]

/-! ### How it is made -/
abbrev Nms := List (Bytes × Int)
/-- The slot of a name: the last one's. -/
def lastN (n : Bytes) : Nms → Option Int
  | [] => none
  | x :: l => match lastN n l with
    | some t => some t
    | none => if x.1 = n then some x.2 else none
theorem lastN_snoc (n : Bytes) : ∀ (l : Nms) (x : Bytes × Int), lastN n (l ++ [x]) = if x.1 = n then some x.2 else lastN n l
  | [], x => by simp [lastN]
  | y :: l, x => by
    simp only [List.cons_append, lastN, lastN_snoc n l x]
    by_cases h : x.1 = n
    · simp [h]
    · simp [h]
theorem lastN_none {n : Bytes} : ∀ {l : Nms}, n ∉ l.map Prod.fst → lastN n l = none
  | [], _ => rfl
  | y :: l, h => by
    rw [List.map_cons, List.mem_cons, not_or] at h
    simp only [lastN, lastN_none h.2]
    rw [if_neg (fun x => h.1 x.symm)]
theorem lastN_mem {n : Bytes} : ∀ {l : Nms}, n ∈ l.map Prod.fst → ∃ k, lastN n l = some k ∧ (n, k) ∈ l
  | [], h => by cases h
  | y :: l, h => by
    simp only [lastN]
    by_cases h1 : n ∈ l.map Prod.fst
    · obtain ⟨k, e, hm⟩ := lastN_mem h1
      exact ⟨k, by rw [e], by simp [hm]⟩
    · have h2 : n = y.1 := by
        rw [List.map_cons, List.mem_cons] at h
        exact h.elim id (fun x => absurd x h1)
      rw [lastN_none h1]
      exact ⟨y.2, by simp [h2], by simp [h2]⟩
def Ex.re : Ex → Nat | .mk _ _ _ _ a _ _ _ => a
def Ex.im : Ex → Nat | .mk _ _ _ _ _ a _ _ => a
@[simp] theorem Ex.c4 {e : Ex} {h : 4 < e.cells.length} : e.cells[4] = .cplx e.re e.im := by cases e; rfl
@[simp] theorem Ex.q4 {e : Ex} : e.cells[4]? = some (.cplx e.re e.im) := by cases e; rfl
def litS (e : Ex) : Option Vl := if e.op = 1 then some ⟨1, e.re, e.im, false, []⟩ else if e.op = 2 ∨ e.op = 3 then some ⟨2, 0, 0, decide (e.op = 2), []⟩ else if e.op = 4 then some ⟨3, 0, 0, false, []⟩ else none
def atomS (names : Nms) (e : Ex) : Option Atm := if e.op = 6 then some ⟨(lastN e.name names).getD 0, vl0⟩ else (litS e).map (⟨-1, ·⟩)
theorem atomS_eq (names : Nms) (e : Ex) : atomS names e = if e.op = 6 then some ⟨(lastN e.name names).getD 0, vl0⟩ else if e.op = 1 then some ⟨-1, ⟨1, e.re, e.im, false, []⟩⟩ else if e.op = 2 ∨ e.op = 3 then some ⟨-1, ⟨2, 0, 0, decide (e.op = 2), []⟩⟩ else if e.op = 4 then some ⟨-1, ⟨3, 0, 0, false, []⟩⟩ else none := by
  by_cases o6 : e.op = 6
  · simp [atomS, o6]
  · by_cases o1 : e.op = 1
    · simp [atomS, litS, o1]
    · by_cases o2 : e.op = 2
      · simp [atomS, litS, o2]
      · by_cases o3 : e.op = 3
        · simp [atomS, litS, o3]
        · by_cases o4 : e.op = 4
          · simp [atomS, litS, o4]
          · simp [atomS, litS, o1, o2, o3, o4, o6]
/-- The atoms of parts: those that are none have the next slots. -/
def atomsL (names : Nms) : List Ex → Int → List Atm × Int
  | [], n => ([], n)
  | e :: l, n => match atomS names e with
    | some a => (a :: (atomsL names l n).1, (atomsL names l n).2)
    | none => (⟨n, vl0⟩ :: (atomsL names l (n + 1)).1, (atomsL names l (n + 1)).2)
def bindN (names : Nms) (nm : Bytes) (n : Int) : Nms := names ++ [(nm, n)]
mutual
def codeS (p : List Df) (names : Nms) : Ex → Int → Cd × Int
  | .mk op name tail ty re im args pos, n =>
    match atomS names (.mk op name tail ty re im args pos) with
    | some a => if 0 ≤ a.slot then (.mk 2 a.slot 0 0 0 vl0 [] [], n) else (.mk 1 0 0 0 0 a.lit [] [], n)
    | none =>
      if op = 5 then (.mk 10 0 0 0 0 vl0 [] [], n)
      else if op = 7 then letsS p names (.mk 3 0 0 (headsS name p 0) 0 vl0 (atomsL names args n).1 []) args (atomsL names args n).1 (atomsL names args n).2
      else if op = 18 then letsS p names (.mk 5 0 0 0 0 vl0 (atomsL names args n).1 []) args (atomsL names args n).1 (atomsL names args n).2
      else if op = 19 then (.mk 6 0 0 0 0 vl0 [] (allS p names args n).1, (allS p names args n).2)
      else if op = 20 then caseS p names name tail args n
      else if op = 21 then (.mk 8 n 0 0 0 vl0 [] (allS p (bindN names name n) args (n + 1)).1, (allS p (bindN names name n) args (n + 1)).2)
      else if op = 22 then strictS p names name args n
      else (.mk 4 0 0 0 op vl0 [] (allS p names args n).1, (allS p names args n).2)
def allS (p : List Df) (names : Nms) : List Ex → Int → List Cd × Int
  | [], n => ([], n)
  | e :: l, n => ((codeS p names e n).1 :: (allS p names l (codeS p names e n).2).1, (allS p names l (codeS p names e n).2).2)
def caseS (p : List Df) (names : Nms) (name tail : Bytes) : List Ex → Int → Cd × Int
  | [a, b, d], n => (.mk 7 (codeS p names b (codeS p names a n).2).2 ((codeS p names b (codeS p names a n).2).2 + 1) 0 0 vl0 []
            [(codeS p names a n).1, (codeS p names b (codeS p names a n).2).1, (codeS p (bindN (bindN names name (codeS p names b (codeS p names a n).2).2) tail ((codeS p names b (codeS p names a n).2).2 + 1)) d ((codeS p names b (codeS p names a n).2).2 + 2)).1],
            (codeS p (bindN (bindN names name (codeS p names b (codeS p names a n).2).2) tail ((codeS p names b (codeS p names a n).2).2 + 1)) d ((codeS p names b (codeS p names a n).2).2 + 2)).2)
  | _, n => (.mk 0 0 0 0 0 vl0 [] [], n)
def strictS (p : List Df) (names : Nms) (name : Bytes) : List Ex → Int → Cd × Int
  | [a, b], n => (.mk 9 (codeS p names a n).2 0 0 0 vl0 [] [(codeS p names a n).1, (codeS p (bindN names name (codeS p names a n).2) b ((codeS p names a n).2 + 1)).1], (codeS p (bindN names name (codeS p names a n).2) b ((codeS p names a n).2 + 1)).2)
  | _, n => (.mk 0 0 0 0 0 vl0 [] [], n)
/-- The lets around a call or a cons for its parts that are no atoms. -/
def letsS (p : List Df) (names : Nms) (c : Cd) : List Ex → List Atm → Int → Cd × Int
  | [], _, n => (c, n)
  | e :: l, [], n => (c, n)
  | e :: l, a :: as, n => if (atomS names e).isSome then letsS p names c l as n
      else (.mk 8 a.slot 0 0 0 vl0 [] [(codeS p names e n).1, (letsS p names c l as (codeS p names e n).2).1], (letsS p names c l as (codeS p names e n).2).2)
end
/-- All variables are bound, all calls are right. -/
def varOK (names : List Bytes) (e : Ex) : Prop := e.op = 6 → e.name ∈ names
mutual
def scOK (p : List Df) (names : List Bytes) : Ex → Prop
  | .mk op name tail ty re im args pos => varOK names (.mk op name tail ty re im args pos) ∧ callOK p (.mk op name tail ty re im args pos) ∧ scL p names (.mk op name tail ty re im args pos) 0 args
def scL (p : List Df) (names : List Bytes) (e : Ex) (i : Nat) : List Ex → Prop
  | [] => True
  | a :: l => scOK p (names ++ boundS e i) a ∧ scL p names e (i + 1) l
end
theorem scOK_eq {p : List Df} {names : List Bytes} {e : Ex} : scOK p names e ↔ varOK names e ∧ callOK p e ∧ scL p names e 0 e.args := by cases e; exact Iff.rfl
mutual
theorem uses_sc {p : List Df} : ∀ (e : Ex) (names : List Bytes), usesF p (seenS names e) = [] → scOK p names e
  | .mk op name tail ty re im args pos, names, h => by
    simp only [seenS, usesF, List.flatMap_append, List.append_eq_nil_iff] at h
    refine ⟨fun o6 => ?_, use_ok h.1, uses_scL args names _ 0 h.2⟩
    have h1 := h.1
    have o6' : op = 6 := o6
    simp [Ex.use, Ex.op, o6', useF, Ex.name] at h1
    exact Decidable.byContradiction fun x => by
      have x' : ¬ name ∈ names := x
      simp [x'] at h1
theorem uses_scL {p : List Df} : ∀ (l : List Ex) (names : List Bytes) (e : Ex) (i : Nat), usesF p (seenL names e i l) = [] → scL p names e i l
  | [], _, _, _, _ => trivial
  | a :: l, names, e, i, h => by
    simp only [seenL, usesF, List.flatMap_append, List.append_eq_nil_iff] at h
    exact ⟨uses_sc a _ h.1, uses_scL l names e (i + 1) h.2⟩
end
/-- What Flatten gives of a definition. -/
def paramN (l : List Pm) (i : Int) : Nms := match l with | [] => [] | x :: l => (x.name, i) :: paramN l (i + 1)
def supS (p : List Df) (f : Df) : Sup :=
  ⟨f.name, f.params.map Pm.ty, f.ty, (codeS p (paramN f.params 0) f.body f.params.length).2, (codeS p (paramN f.params 0) f.body f.params.length).1⟩
def flatS (p : List Df) : List Sup := p.map (supS p)
end Go.AM

/- AM: own lists beside a list that is another's; how far the slots go. -/
namespace Go.AM

/-- What may be one's own: what was not there, and what the list was. -/
def Free (h : Hp) (v : AV) (j : Nat) : Prop := h j = .dead ∨ isId v j
def OwnF (h : Hp) (v : AV) (h1 : Hp) (e sz : Nat) (r : AV) (rows : List (List AV)) : Prop := (rows = [] ∧ r = .nl) ∨ ∃ id, rows ≠ [] ∧ Free h v id ∧ r = .sl id 0 rows.length ∧ h1 id = .arr e sz rows
section
variable {A : List Nat} {e sz : Nat} {h h1 h2 : Hp} {v v1 v2 r : AV} {rows : List (List AV)}
theorem OwnF.nil : OwnF h v h1 e sz .nl [] := .inl ⟨rfl, rfl⟩
theorem Fr7.dead (a : Fr7 A h v h1 v1) {j : Nat} (hj : h1 j = .dead) (hA : j ∉ A) : Free h v j := by
  by_cases hv : isId v j
  · exact .inr hv
  · rcases a j hA hv with x | ⟨x, _⟩
    · exact .inl x
    · exact .inl (by rw [← x]; exact hj)
theorem Fr7.deadc (a : Fr7 A h v h1 v1) (hA : ∀ i ∈ A, h1 i ≠ .dead) {j : Nat} (hj : h1 j = .dead) : Free h v j := a.dead hj fun x => hA j x hj
theorem Fr7.changed (a : Fr7 A h v h1 v1) (hc : ∀ j, Free h v j ∨ h2 j = h1 j) : Fr7 A h v h2 v1 := fun j hA hv => by
  rcases a j hA hv with x | ⟨x, y⟩
  · exact .inl x
  · rcases hc j with (z | z) | z
    · exact .inl z
    · exact absurd z hv
    · exact .inr ⟨z.trans x, y⟩
theorem OwnF.flat (o : OwnF h v h1 e sz r rows) : r.flat = true ∧ r.cells = [r] := by
  rcases o with ⟨_, rfl⟩ | ⟨id, _, _, rfl, _⟩ <;> exact ⟨rfl, rfl⟩
theorem OwnF.len (o : OwnF h v h1 e sz r rows) (hh : Hp) : aLen .sl r hh = some (.int .i64 rows.length) := by
  rcases o with ⟨rfl, rfl⟩ | ⟨id, _, _, rfl, _⟩ <;> rfl
theorem OwnF.elems (o : OwnF h v h1 e sz r rows) : elemsOf h1 sz r = some rows := by
  rcases o with ⟨rfl, rfl⟩ | ⟨id, _, _, rfl, ha⟩
  · rfl
  · simp [ha]
theorem OwnF.ls (o : OwnF h v h1 e sz r rows) : LsAt e sz h1 r rows := by
  rcases o with ⟨rfl, rfl⟩ | ⟨id, _, _, rfl, ha⟩
  · exact .inl ⟨rfl, rfl⟩
  · exact .inr ⟨id, [], rfl, by simpa using ha⟩
theorem OwnF.new (o : OwnF h v h1 e sz r rows) {j : Nat} {x : AObj} (hj : h1 j = .dead) : OwnF h v (hset h1 j x) e sz r rows := by
  rcases o with y | ⟨id, hn, hd, rfl, ha⟩
  · exact .inl y
  · exact .inr ⟨id, hn, hd, rfl, at_new ha (by simp) hj⟩
theorem OwnF.setc (o : OwnF h v h1 e sz r rows) {j : Nat} {x : AObj} {cs : List AV} (hj : h1 j = .cells cs) : OwnF h v (hset h1 j x) e sz r rows := by
  rcases o with y | ⟨id, hn, hd, rfl, ha⟩
  · exact .inl y
  · have : ¬ id = j := by rintro rfl; rw [ha] at hj; cases hj
    exact .inr ⟨id, hn, hd, rfl, by simp [this, ha]⟩
/-- It stays through another's work. -/
theorem OwnF.fr (o : OwnF h v h1 e sz r rows) (k : Fr7 A h1 v1 h2 v2) (hA : ∀ i ∈ A, ∀ xs, h1 i ≠ .arr e sz xs) (hv : ∀ j xs, h1 j = .arr e sz xs → ¬ isId v1 j) : OwnF h v h2 e sz r rows := by
  rcases o with y | ⟨id, hn, hd, rfl, ha⟩
  · exact .inl y
  · exact .inr ⟨id, hn, hd, rfl, k.at ha (by simp) (fun x => hA id x _ ha) (hv id _ ha)⟩
theorem OwnF.push {b : Nat} {ys : List (List AV)} {K : AV → Hp → Prop} (o : OwnF h v h1 e sz r rows) (hd : ∀ j, h1 j = .dead → Free h v j) (hlen : rows.length + ys.length ≤ 1000000) (hb : b ≤ 1000000)
    (hk : ∀ r' h2, OwnF h v h2 e sz r' (rows ++ ys) → KeepsE e h1 h2 → (∀ j, Free h v j ∨ h2 j = h1 j) → (∀ j, h2 j = .dead → h1 j = .dead ∨ isId r j) → K r' h2) {u : Held K} : AApp e sz b r ys K h1 u := by
  have h2 : rows.length + ys.length ≤ 4611686018427387904 := by omega
  have h3 : (rows.length + ys.length) * b ≤ 140737488355328 := by
    have : (rows.length + ys.length) * b ≤ 1000000 * 1000000 := Nat.mul_le_mul hlen hb
    omega
  rcases o with ⟨rfl, rfl⟩ | ⟨id, hn, hf, rfl, ha⟩
  · cases ys with
    | nil => exact hk _ _ (.inl ⟨rfl, rfl⟩) (fun _ => .inr (.inl rfl)) (fun _ => .inr rfl) (fun _ h => .inl h)
    | cons y ys =>
      refine ⟨by simpa using h2, by simpa using h3, fun id hid => hk _ _ (.inr ⟨id, by simp, hd id hid, rfl, by simp⟩) (fun j => ?_) (fun j => ?_) (fun j hj => ?_)⟩
      · by_cases ej : j = id
        · exact .inl (ej ▸ hid)
        · exact .inr (.inl (by simp [ej]))
      · by_cases ej : j = id
        · exact .inl (ej ▸ hd id hid)
        · exact .inr (by simp [ej])
      · by_cases ej : j = id
        · subst ej; simp at hj
        · left; simpa [ej] using hj
  · refine ⟨rfl, ?_⟩
    rw [ha]
    refine ⟨rfl, rfl, Nat.le_refl _, h2, h3, fun id' hid' => ?_⟩
    rw [List.take_length]
    refine hk _ _ (.inr ⟨id', by simp [hn], hd id' hid', by simp, by simp⟩) (fun j => ?_) (fun j => ?_) (fun j hj => ?_)
    · by_cases e1 : j = id'
      · exact .inl (e1 ▸ hid')
      · by_cases e2 : j = id
        · exact .inr (.inr ⟨_, _, e2 ▸ ha⟩)
        · exact .inr (.inl (by simp [e1, e2]))
    · by_cases e1 : j = id'
      · exact .inl (e1 ▸ hd id' hid')
      · by_cases e2 : j = id
        · exact .inl (e2 ▸ hf)
        · exact .inr (by simp [e1, e2])
    · by_cases e1 : j = id'
      · subst e1; simp at hj
      · by_cases e2 : j = id
        · right; exact isId_sl.2 e2
        · left; simpa [e1, e2] using hj
theorem OwnF.drop (o : OwnF h v h1 e sz r rows) : ∃ h2, Sub h2 h1 ∧ Frz h1 h2 r (rowsAV rows) ∧ (∀ j, h2 j = h1 j ∨ (Free h v j ∧ h2 j = .dead ∧ h1 j = .arr e sz rows)) := by
  rcases o with ⟨rfl, rfl⟩ | ⟨id, hn, hd, rfl, ha⟩
  · exact ⟨h1, Sub.refl _, .same _, fun _ => .inl rfl⟩
  · refine ⟨hset h1 id .dead, Sub.kill, ?_, fun j => ?_⟩
    · cases rows with
      | nil => exact absurd rfl hn
      | cons r rows => exact Frz.rows ha (by simp)
    · by_cases e : j = id
      · subst e; exact .inr ⟨hd, by simp, ha⟩
      · exact .inl (by simp [e])
theorem OwnF.eqs (o : OwnF h v h1 e sz r rows) (hd : ∀ j xs, h1 j = .arr e sz xs → h2 j = h1 j) : OwnF h v h2 e sz r rows := by
  rcases o with y | ⟨id, hn, hf, rfl, ha⟩
  · exact .inl y
  · exact .inr ⟨id, hn, hf, rfl, by rw [hd id _ ha]; exact ha⟩
end

/-! ### How far the slots go -/
def nonAt (names : Nms) : List Ex → Nat
  | [] => 0
  | e :: l => (if (atomS names e).isSome then 0 else 1) + nonAt names l
theorem atomsL_next (names : Nms) : ∀ (l : List Ex) (n : Int), (atomsL names l n).2 = n + nonAt names l
  | [], n => by simp [atomsL, nonAt]
  | e :: l, n => by
    cases h : atomS names e with
    | some a => simp [atomsL, nonAt, h, atomsL_next names l n]
    | none => simp [atomsL, nonAt, h, atomsL_next names l (n + 1)]; omega
theorem atomsL_length (names : Nms) : ∀ (l : List Ex) (n : Int), (atomsL names l n).1.length = l.length
  | [], n => by simp [atomsL]
  | e :: l, n => by
    cases h : atomS names e with
    | some a => simp [atomsL, h, atomsL_length names l n]
    | none => simp [atomsL, h, atomsL_length names l (n + 1)]
mutual
theorem codeS_next (p : List Df) : ∀ (e : Ex) (names : Nms) (n : Int), n ≤ (codeS p names e n).2 ∧ (codeS p names e n).2 + 3 ≤ n + 4 * e.size
  | .mk op name tail ty re im args pos, names, n => by
    have hall := fun (names : Nms) (n : Int) => allS_next p args names n
    have hlets := fun (c : Cd) (n : Int) (as : List Atm) => letsS_next p args names c as n
    have hat := atomsL_next names args n
    have hcase := caseS_next p args names name tail n
    have hstr := strictS_next p args names name n
    have hsz : (Ex.mk op name tail ty re im args pos).size = 1 + Ex.sizeL args := rfl
    rw [hsz]
    rw [codeS]
    cases hA : atomS names (.mk op name tail ty re im args pos) with
    | some a =>
      by_cases h0 : 0 ≤ a.slot
      · simp only [h0, if_true]; omega
      · simp only [h0, if_false]; omega
    | none =>
      simp only
      split
      · simp only; omega
      split
      · have := hlets (.mk 3 0 0 (headsS name p 0) 0 vl0 (atomsL names args n).1 []) (atomsL names args n).2 (atomsL names args n).1
        omega
      split
      · have := hlets (.mk 5 0 0 0 0 vl0 (atomsL names args n).1 []) (atomsL names args n).2 (atomsL names args n).1
        omega
      split
      · have := hall names n; simp only; omega
      split
      · omega
      split
      · have := hall (bindN names name n) (n + 1)
        simp only
        cases args with
        | nil => simp only [allS, Ex.sizeL]; omega
        | cons a l => simp only [List.length_cons] at this; omega
      split
      · omega
      · have := hall names n; simp only; omega
theorem caseS_next (p : List Df) : ∀ (l : List Ex) (names : Nms) (name tail : Bytes) (n : Int), n ≤ (caseS p names name tail l n).2 ∧ (caseS p names name tail l n).2 + 3 ≤ n + 4 * (1 + Ex.sizeL l : Nat)
  | [a, b, d], names, name, tail, n => by
    have h1 := codeS_next p a names n
    have h2 := codeS_next p b names (codeS p names a n).2
    have h3 := codeS_next p d (bindN (bindN names name (codeS p names b (codeS p names a n).2).2) tail ((codeS p names b (codeS p names a n).2).2 + 1)) ((codeS p names b (codeS p names a n).2).2 + 2)
    simp only [caseS, Ex.sizeL]; omega
  | [], _, _, _, n => by simp only [caseS]; omega
  | [_], _, _, _, n => by simp only [caseS]; omega
  | [_, _], _, _, _, n => by simp only [caseS]; omega
  | _ :: _ :: _ :: _ :: _, _, _, _, n => by simp only [caseS]; omega
theorem strictS_next (p : List Df) : ∀ (l : List Ex) (names : Nms) (name : Bytes) (n : Int), n ≤ (strictS p names name l n).2 ∧ (strictS p names name l n).2 + 3 ≤ n + 4 * (1 + Ex.sizeL l : Nat)
  | [a, b], names, name, n => by
    have h1 := codeS_next p a names n
    have h2 := codeS_next p b (bindN names name (codeS p names a n).2) ((codeS p names a n).2 + 1)
    simp only [strictS, Ex.sizeL]; omega
  | [], _, _, n => by simp only [strictS]; omega
  | [_], _, _, n => by simp only [strictS]; omega
  | _ :: _ :: _ :: _, _, _, n => by simp only [strictS]; omega
theorem allS_next (p : List Df) : ∀ (l : List Ex) (names : Nms) (n : Int), n ≤ (allS p names l n).2 ∧ (allS p names l n).2 + 3 * l.length ≤ n + 4 * Ex.sizeL l
  | [], names, n => by simp [allS, Ex.sizeL]
  | e :: l, names, n => by
    have h1 := codeS_next p e names n
    have h2 := allS_next p l names (codeS p names e n).2
    simp only [allS, Ex.sizeL, List.length_cons]; omega
theorem letsS_next (p : List Df) : ∀ (l : List Ex) (names : Nms) (c : Cd) (as : List Atm) (n : Int), n ≤ (letsS p names c l as n).2 ∧ (letsS p names c l as n).2 + nonAt names l ≤ n + 4 * Ex.sizeL l
  | [], names, c, as, n => by simp [letsS, Ex.sizeL, nonAt]
  | e :: l, names, c, [], n => by
    have h1 : nonAt names (e :: l) ≤ (e :: l).length := by
      generalize e :: l = m
      induction m with
      | nil => simp [nonAt]
      | cons x m ih => simp only [nonAt, List.length_cons]; split <;> omega
    have h2 := Ex.sizeL_len (e :: l)
    simp only [letsS]; omega
  | e :: l, names, c, a :: as, n => by
    have h1 := codeS_next p e names n
    simp only [letsS, nonAt, Ex.sizeL]
    split
    · rename_i hs
      have := letsS_next p l names c as n
      omega
    · rename_i hs
      have := letsS_next p l names c as (codeS p names e n).2
      show _ ≤ (letsS p names c l as (codeS p names e n).2).2 ∧ (letsS p names c l as (codeS p names e n).2).2 + _ ≤ _
      omega
end
theorem allS_length (p : List Df) (names : Nms) : ∀ (l : List Ex) (n : Int), (allS p names l n).1.length = l.length
  | [], n => by simp [allS]
  | e :: l, n => by simp [allS, allS_length p names l]
theorem allS_snoc (p : List Df) (names : Nms) : ∀ (l : List Ex) (a : Ex) (n : Int), allS p names (l ++ [a]) n = ((allS p names l n).1 ++ [(codeS p names a (allS p names l n).2).1], (codeS p names a (allS p names l n).2).2)
  | [], a, n => by simp [allS]
  | b :: l, a, n => by simp [allS, allS_snoc p names l a]
theorem scL_mem {p : List Df} {names : List Bytes} {e : Ex} : ∀ {l : List Ex} {i : Nat}, (∀ k, boundS e k = []) → scL p names e i l → ∀ a ∈ l, scOK p names a
  | [], _, _, _, a, h => by cases h
  | b :: l, i, hb, hs, a, h => by
    rcases List.mem_cons.1 h with rfl | h
    · have := hs.1; rw [hb, List.append_nil] at this; exact this
    · exact scL_mem hb hs.2 a h
end Go.AM

/- AM: the lets around a call, by the numbers of its parts. -/
namespace Go.AM

def idxs (names : Nms) (k : Nat) : List Ex → List Int
  | [] => []
  | e :: l => if (atomS names e).isSome then idxs names (k + 1) l else (k : Int) :: idxs names (k + 1) l
theorem idxs_snoc (names : Nms) : ∀ (l : List Ex) (k : Nat) (e : Ex), idxs names k (l ++ [e]) = idxs names k l ++ (if (atomS names e).isSome then [] else [((k + l.length : Nat) : Int)])
  | [], k, e => by simp [idxs]
  | a :: l, k, e => by
    have h := idxs_snoc names l (k + 1) e
    simp only [List.cons_append, idxs, h, List.length_cons]
    rw [show k + 1 + l.length = k + (l.length + 1) by omega]
    split <;> simp
theorem idxs_length (names : Nms) : ∀ (l : List Ex) (k : Nat), (idxs names k l).length ≤ l.length
  | [], k => by simp [idxs]
  | a :: l, k => by
    have h := idxs_length names l (k + 1)
    simp only [idxs, List.length_cons]
    split
    · omega
    · simp only [List.length_cons]; omega
theorem idxs_nonAt (names : Nms) : ∀ (l : List Ex) (k : Nat), (idxs names k l).length = nonAt names l
  | [], k => by simp [idxs, nonAt]
  | a :: l, k => by
    have h := idxs_nonAt names l (k + 1)
    simp only [idxs, nonAt]
    split
    · rw [h]; omega
    · rw [List.length_cons, h]; omega
theorem nonAt_le (names : Nms) : ∀ (l : List Ex), nonAt names l ≤ Ex.sizeL l
  | [] => by simp [nonAt]
  | a :: l => by
    have h := nonAt_le names l
    have := a.size_pos
    simp only [nonAt, Ex.sizeL]
    split <;> omega
theorem atomsL_snoc (names : Nms) : ∀ (l : List Ex) (e : Ex) (n : Int), atomsL names (l ++ [e]) n = match atomS names e with
    | some a => ((atomsL names l n).1 ++ [a], (atomsL names l n).2)
    | none => ((atomsL names l n).1 ++ [⟨(atomsL names l n).2, vl0⟩], (atomsL names l n).2 + 1)
  | [], e, n => by cases h : atomS names e <;> simp [atomsL, h]
  | b :: l, e, n => by
    simp only [List.cons_append, atomsL]
    cases atomS names b with
    | some a =>
      simp only [atomsL_snoc names l e n]
      cases atomS names e <;> simp
    | none =>
      simp only [atomsL_snoc names l e (n + 1)]
      cases atomS names e <;> simp
theorem lets_none {p : List Df} {names : Nms} {c : Cd} : ∀ {l : List Ex} {k : Nat} {as : List Atm} {n : Int}, idxs names k l = [] → letsS p names c l as n = (c, n)
  | [], _, _, _, _ => by simp [letsS]
  | e :: l, _, [], _, _ => by simp [letsS]
  | e :: l, k, a :: as, n, h => by
    simp only [idxs] at h
    split at h
    · rename_i hs
      simp only [letsS, hs, if_true]
      exact lets_none h
    · cases h
theorem lets_next {p : List Df} {names : Nms} {c : Cd} : ∀ {l : List Ex} {k : Nat} {as : List Atm} {n : Int} {i : Int} {rest : List Int}, idxs names k l = i :: rest → as.length = l.length →
    ∃ (m : List Ex) (e : Ex) (l' : List Ex) (a : Atm) (as' : List Atm × List Atm), l = m ++ e :: l' ∧ as = as'.1 ++ a :: as'.2 ∧ as'.1.length = m.length ∧ i = ((k + m.length : Nat) : Int) ∧ rest = idxs names (k + m.length + 1) l' ∧
      letsS p names c l as n = (.mk 8 a.slot 0 0 0 vl0 [] [(codeS p names e n).1, (letsS p names c l' as'.2 (codeS p names e n).2).1], (letsS p names c l' as'.2 (codeS p names e n).2).2)
  | [], _, _, _, _, _, h, _ => by cases h
  | e :: l, _, [], _, _, _, _, hl => by cases hl
  | e :: l, k, a :: as, n, i, rest, h, hl => by
    simp only [idxs] at h
    split at h
    · rename_i hs
      obtain ⟨m, e', l', a', as', h1, h2, h3, h4, h5, h6⟩ := lets_next (p := p) (c := c) (n := n) h (by simpa using hl)
      refine ⟨e :: m, e', l', a', (a :: as'.1, as'.2), by rw [h1]; rfl, by rw [h2]; rfl, by simp [h3], ?_, ?_, ?_⟩
      · rw [h4, List.length_cons]; congr 1; omega
      · rw [h5, List.length_cons]; congr 1; omega
      · simp only [letsS, hs, if_true]; exact h6
    · rename_i hs
      simp only [List.cons.injEq] at h
      refine ⟨[], e, l, a, ([], as), rfl, rfl, rfl, by simpa using h.1.symm, by simpa using h.2.symm, ?_⟩
      simp only [letsS]
      rw [if_neg hs]
/-- A list as it is handed on, or the rest of one. -/
def LatV (w : AV) (rows : List (List AV)) : Prop := w = rowsAV rows ∨ w = .fz rows
theorem LatV.len {w : AV} {rows : List (List AV)} (h : LatV w rows) (hh : Hp) : aLen .sl w hh = some (.int .i64 rows.length) := by
  rcases h with rfl | rfl
  · exact aLen_rows rows
  · rfl
end Go.AM

/- AM: flat functions as they lie in memory; the functions' numbers. -/
namespace Go.AM

section
variable {e sz : Nat} {h h1 h2 : Hp} {v r : AV} {rows : List (List AV)}
theorem OwnF.push2 {b : Nat} {ys : List (List AV)} {K : AV → Hp → Prop} (o : OwnF h v h1 e sz r rows) (hd : ∀ j, h1 j = .dead → Free h v j) (hlen : rows.length + ys.length ≤ 1000000) (hb : b ≤ 1000000)
    (hk : ∀ r' h2, OwnF h v h2 e sz r' (rows ++ ys) → KeepsE e h1 h2 → (∀ j, Free h v j ∨ h2 j = h1 j) → (∀ j, h1 j = .dead ∨ isId r j ∨ h2 j = h1 j) → (∀ j, isId r' j → h1 j = .dead ∨ isId r j) → K r' h2) {u : Held K} : AApp e sz b r ys K h1 u := by
  have h2 : rows.length + ys.length ≤ 4611686018427387904 := by omega
  have h3 : (rows.length + ys.length) * b ≤ 140737488355328 := by
    have : (rows.length + ys.length) * b ≤ 1000000 * 1000000 := Nat.mul_le_mul hlen hb
    omega
  rcases o with ⟨rfl, rfl⟩ | ⟨id, hn, hf, rfl, ha⟩
  · cases ys with
    | nil => exact hk _ _ (.inl ⟨rfl, rfl⟩) (fun _ => .inr (.inl rfl)) (fun _ => .inr rfl) (fun _ => .inr (.inr rfl)) (fun _ h => .inr h)
    | cons y ys =>
      refine ⟨by simpa using h2, by simpa using h3, fun id hid => hk _ _ (.inr ⟨id, by simp, hd id hid, rfl, by simp⟩) (fun j => ?_) (fun j => ?_) (fun j => ?_) (fun j hj => ?_)⟩
      · by_cases ej : j = id
        · exact .inl (ej ▸ hid)
        · exact .inr (.inl (by simp [ej]))
      · by_cases ej : j = id
        · exact .inl (ej ▸ hd id hid)
        · exact .inr (by simp [ej])
      · by_cases ej : j = id
        · exact .inl (ej ▸ hid)
        · exact .inr (.inr (by simp [ej]))
      · have := isId_sl.1 hj
        exact .inl (this ▸ hid)
  · refine ⟨rfl, ?_⟩
    rw [ha]
    refine ⟨rfl, rfl, Nat.le_refl _, h2, h3, fun id' hid' => ?_⟩
    rw [List.take_length]
    refine hk _ _ (.inr ⟨id', by simp [hn], hd id' hid', by simp, by simp⟩) (fun j => ?_) (fun j => ?_) (fun j => ?_) (fun j hj => ?_)
    · by_cases e1 : j = id'
      · exact .inl (e1 ▸ hid')
      · by_cases e2 : j = id
        · exact .inr (.inr ⟨_, _, e2 ▸ ha⟩)
        · exact .inr (.inl (by simp [e1, e2]))
    · by_cases e1 : j = id'
      · exact .inl (e1 ▸ hd id' hid')
      · by_cases e2 : j = id
        · exact .inl (e2 ▸ hf)
        · exact .inr (by simp [e1, e2])
    · by_cases e1 : j = id'
      · exact .inl (e1 ▸ hid')
      · by_cases e2 : j = id
        · exact .inr (.inl (isId_sl.2 e2))
        · exact .inr (.inr (by simp [e1, e2]))
    · have := isId_sl.1 hj
      exact .inl (this ▸ hid')
end

/-- The cells of a flat function with its parameters' types elsewhere. -/
def supRow (pr : AV) (s : Sup) : List AV := [.str s.name, pr, .int .i64 s.ty, .int .i64 s.slots] ++ s.code.cells
@[simp] theorem supRow_length (pr : AV) (s : Sup) : (supRow pr s).length = 15 := by simp [supRow]
theorem supRow_cells (s : Sup) : supRow (rowsAV (intRows s.params)) s = s.cells := rfl
/-- Flat functions in memory, each with a list of its parameters' types of its own; none of them is the list w. -/
def SupsAt (e : Nat) (h0 h1 : Hp) (w : AV) : List (List AV) → List Sup → Prop
  | [], [] => True
  | r :: rs, s :: ss => (∃ pr, r = supRow pr s ∧ OwnF h0 .nl h1 e 1 pr (intRows s.params) ∧ ∀ j, isId pr j → ¬ isId w j) ∧ SupsAt e h0 h1 w rs ss
  | _, _ => False
section
variable {e : Nat} {h0 h1 h2 : Hp} {w w' : AV}
theorem SupsAt.length : ∀ {rows : List (List AV)} {ss : List Sup}, SupsAt e h0 h1 w rows ss → rows.length = ss.length
  | [], [], _ => rfl
  | r :: rs, s :: ss, h => by simp [SupsAt.length h.2]
  | [], s :: ss, h => h.elim
  | r :: rs, [], h => h.elim
theorem SupsAt.snoc {pr : AV} {s : Sup} : ∀ {rows : List (List AV)} {ss : List Sup}, SupsAt e h0 h1 w rows ss → OwnF h0 .nl h1 e 1 pr (intRows s.params) → (∀ j, isId pr j → ¬ isId w j) → SupsAt e h0 h1 w (rows ++ [supRow pr s]) (ss ++ [s])
  | [], [], _, o, hw => ⟨⟨pr, rfl, o, hw⟩, trivial⟩
  | r :: rs, s :: ss, h, o, hw => ⟨h.1, SupsAt.snoc h.2 o hw⟩
  | [], s :: ss, h, _, _ => h.elim
  | r :: rs, [], h, _, _ => h.elim
theorem SupsAt.mono (hk : ∀ j xs, h1 j = .arr e 1 xs → ¬ isId w j → h2 j = h1 j) (hw : ∀ j, isId w' j → h1 j = .dead ∨ isId w j) : ∀ {rows : List (List AV)} {ss : List Sup}, SupsAt e h0 h1 w rows ss → SupsAt e h0 h2 w' rows ss
  | [], [], _ => trivial
  | r :: rs, s :: ss, ⟨⟨pr, hr, o, hp⟩, h⟩ => by
    refine ⟨⟨pr, hr, ?_, fun j hj hj' => ?_⟩, h.mono hk hw⟩
    · rcases o with x | ⟨id, hn, hd, rfl, ha⟩
      · exact .inl x
      · exact .inr ⟨id, hn, hd, rfl, by rw [hk id _ ha (hp id (isId_sl.2 rfl))]; exact ha⟩
    · rcases o with ⟨_, x⟩ | ⟨id, hn, hd, rfl, ha⟩
      · subst x; obtain ⟨_, _, y⟩ := hj; cases y
      · have hj2 := isId_sl.1 hj
        subst hj2
        rcases hw j hj' with x | x
        · rw [ha] at x; cases x
        · exact hp j hj x
  | [], s :: ss, h => h.elim
  | r :: rs, [], h => h.elim
theorem SupsAt.keep (hk : ∀ j xs, h1 j = .arr e 1 xs → h2 j = h1 j) {rows : List (List AV)} {ss : List Sup} (h : SupsAt e h0 h1 w rows ss) : SupsAt e h0 h2 w rows ss := h.mono (fun j xs hj _ => hk j xs hj) (fun j hj => .inr hj)
theorem SupsAt.nl {rows : List (List AV)} {ss : List Sup} (h : SupsAt e h0 h1 w rows ss) : SupsAt e h0 h1 .nl rows ss := h.mono (fun j xs _ _ => rfl) (fun j hj => by obtain ⟨_, _, y⟩ := hj; cases y)
/-- All let go: they read frozen. -/
theorem SupsAt.frz {e' : Nat} {r : AV} {rows : List (List AV)} {ss : List Sup} (h : SupsAt e h0 h1 w rows ss) (o : OwnF h0 .nl h1 e' 15 r rows) : Frz h1 h0 r (rowsAV (ss.map Sup.cells)) := by
  rcases o with ⟨rfl, rfl⟩ | ⟨id, hn, hd, rfl, ha⟩
  · cases ss with
    | nil => exact .same _
    | cons s ss => exact h.elim
  · have hlen := h.length
    have hd0 : h0 id = .dead := by
      rcases hd with x | x
      · exact x
      · obtain ⟨_, _, y⟩ := x; cases y
    have hat : ∀ (i : Nat) (x y : List AV), rows[i]? = some x → (ss.map Sup.cells)[i]? = some y → ∃ pr s, x = supRow pr s ∧ y = s.cells ∧ OwnF h0 .nl h1 e 1 pr (intRows s.params) := by
      clear ha hn hlen
      induction rows generalizing ss with
      | nil => intro i x y hx; simp at hx
      | cons r rs ih =>
        cases ss with
        | nil => exact h.elim
        | cons s ss =>
          intro i x y hx hy
          cases i with
          | zero =>
            simp at hx hy
            subst hx; subst hy
            obtain ⟨pr, hr, o, _⟩ := h.1
            exact ⟨pr, s, hr, rfl, o⟩
          | succ i => exact ih h.2 i x y (by simpa using hx) (by simpa using hy)
    have hne : ss.map Sup.cells ≠ [] := by
      cases ss with
      | nil => cases rows with
        | nil => exact absurd rfl hn
        | cons r rs => exact h.elim
      | cons s ss => simp
    rw [show rowsAV (ss.map Sup.cells) = .fz (ss.map Sup.cells) by cases hss : ss.map Sup.cells with
      | nil => exact absurd hss hne
      | cons a l => rfl]
    refine .sl id 0 rows.length e' 15 rows ha (by simp) hd0 _ (by simp [hlen]) (fun i x y hx hy => ?_) (fun i x y j c d hx hy hc hd' => ?_)
    · rw [Nat.zero_add] at hx
      obtain ⟨pr, s, rfl, rfl, _⟩ := hat i x y hx hy
      simp
    · rw [Nat.zero_add] at hx
      obtain ⟨pr, s, rfl, rfl, o⟩ := hat i x y hx hy
      rw [← supRow_cells] at hd'
      match j with
      | 0 => simp [supRow] at hc hd'; subst hc; subst hd'; exact .same _
      | 1 =>
        simp [supRow] at hc hd'
        subst hc; subst hd'
        rcases o with ⟨hz, rfl⟩ | ⟨id', hn', hd2, rfl, ha'⟩
        · rw [hz]; exact .same _
        · have hd3 : h0 id' = .dead := by
            rcases hd2 with x | x
            · exact x
            · obtain ⟨_, _, y⟩ := x; cases y
          rw [show rowsAV (intRows s.params) = .fz (intRows s.params) by cases hss : intRows s.params with
            | nil => exact absurd hss hn'
            | cons a l => rfl]
          exact Frz.rows ha' hd3
      | j + 2 =>
        have e1 : (supRow pr s)[j + 2]? = (supRow (rowsAV (intRows s.params)) s)[j + 2]? := rfl
        rw [e1, hd'] at hc
        cases hc
        exact .same _
end

/-! ### What a right program's checks say -/
theorem faultsL_dup {p : List Df} : ∀ {l : List Df} {i k : Nat} {f : Df}, l[k]? = some f → faultsL p i l = [] → ¬ headsS f.name p 0 < ((i + k : Nat) : Int)
  | [], _, _, _, h, _ => by simp at h
  | g :: l, i, k, f, h, he => by
    simp only [faultsL, List.append_eq_nil_iff] at he
    cases k with
    | zero =>
      simp at h; subst h
      have := he.1
      simp only [faultF, List.append_eq_nil_iff] at this
      have h2 := this.1.1
      split at h2
      · cases h2
      · rename_i h3; simpa using h3
    | succ k =>
      have := faultsL_dup (i := i + 1) (k := k) (by simpa using h) he.2
      rwa [show i + 1 + k = i + (k + 1) by omega] at this
theorem check07_06 {p : List Df} (h : (check07 p).1 = 0) : (check06 p).1 = 0 := by
  simp only [check07] at h
  split at h
  · exact h
  · rename_i x; exact Decidable.byContradiction x
theorem check06_nil {p : List Df} (h : (check06 p).1 = 0) : faultsS p = [] := Decidable.byContradiction fun hn => least_nz (faultsS p) (0, 0) (faultsL_nz) (.inr hn) h
theorem paramN_names : ∀ (l : List Pm) (i : Int), (paramN l i).map Prod.fst = pnames l
  | [], _ => rfl
  | x :: l, i => by simp only [paramN, List.map_cons, paramN_names l (i + 1)]; rfl
theorem paramN_snoc : ∀ (l : List Pm) (i : Int) (x : Pm), paramN (l ++ [x]) i = paramN l i ++ [(x.name, i + l.length)]
  | [], i, x => by simp [paramN]
  | y :: l, i, x => by simp only [List.cons_append, paramN, paramN_snoc l (i + 1), List.length_cons]; congr 4; omega
theorem paramN_length (l : List Pm) (i : Int) : (paramN l i).length = l.length := by
  have := congrArg List.length (paramN_names l i)
  simpa [pnames] using this
theorem check06_sc {p : List Df} (h : faultsS p = []) : ∀ f ∈ p, scOK p ((paramN f.params 0).map Prod.fst) f.body := by
  intro f hf
  have h2 := faultsL_mem hf h
  simp only [insF, List.append_eq_nil_iff] at h2
  rw [paramN_names]
  exact uses_sc _ _ h2.2
/-- The numbers of the functions seen so far. -/
def FmT (l : List Df) (fm : Mp) : Prop := ∀ nm, 0 ≤ headsS nm l 0 → getM fm nm = headsS nm l 0
theorem FmT.nil : FmT [] [] := fun nm h => by simp [headsS] at h
theorem FmT.put {p : List Df} {fm : Mp} {i : Nat} {f : Df} (h : FmT (p.take i) fm) (hf : p[i]? = some f) (hd : faultsS p = []) : FmT (p.take (i + 1)) (putM f.name (i : Int) fm) := by
  have h1 := faultsL_dup (i := 0) hf hd
  rw [Nat.zero_add, heads_dup hf] at h1
  have hlt : i < p.length := (List.getElem?_eq_some_iff.1 hf).1
  have hgi : p[i] = f := (List.getElem?_eq_some_iff.1 hf).2
  intro nm hn
  rw [take_snoc p hlt, hgi, headsS_snoc] at hn ⊢
  rw [getM_putM]
  have hl : (p.take i).length = i := by simp; omega
  rw [hl, Nat.zero_add] at hn ⊢
  by_cases e : nm = f.name
  · subst e
    have : headsS f.name (p.take i) 0 < 0 := by omega
    simp [this]
  · have e' : ¬ f.name = nm := fun x => e x.symm
    simp only [e, e', if_false] at hn ⊢
    split at hn
    · omega
    · rename_i h3
      rw [if_neg h3]
      exact h nm (by omega)
end Go.AM

/- AM: the parts that are no atoms, the lets around a call from the last to the first; what reads frozen later. -/
namespace Go.AM

/-- Their slots. -/
def slotsL (names : Nms) : List Ex → List Atm → List Int
  | [], _ => []
  | _ :: _, [] => []
  | e :: l, a :: as => if (atomS names e).isSome then slotsL names l as else a.slot :: slotsL names l as
/-! ### What reads frozen later -/
theorem Frz.mono {h h1 h' : Hp} (hk : ∀ id e sz xs, h id = .arr e sz xs → h1 id = .arr e sz xs) {a b : AV} (k : Frz h h' a b) : Frz h1 h' a b := by
  induction k with
  | same v => exact .same v
  | sl id off len e sz xs hh hle hd ys hl hly _ ih => exact .sl id off len e sz xs (hk _ _ _ _ hh) hle hd ys hl hly ih
  | agg cs ds hl _ ih => exact .agg cs ds hl ih
  | tup cs ds hl _ ih => exact .tup cs ds hl ih
theorem Frz.agg_inv {h h' : Hp} {cs ds : List AV} (k : Frz h h' (.agg cs) (.agg ds)) : ds.length = cs.length ∧ ∀ (j : Nat) (c d : AV), cs[j]? = some c → ds[j]? = some d → Frz h h' c d := by
  cases k with
  | same => exact ⟨rfl, fun j c d hc hd => by rw [hc] at hd; cases hd; exact .same _⟩
  | agg _ _ hl hy => exact ⟨hl, hy⟩
/-- All slots are at or above 0. -/
def NmPos (names : Nms) : Prop := ∀ x ∈ names, 0 ≤ x.2
theorem NmPos.bind {names : Nms} {nm : Bytes} {n : Int} (h : NmPos names) (hn : 0 ≤ n) : NmPos (bindN names nm n) := fun x hx => by
  simp only [bindN, List.mem_append, List.mem_singleton] at hx
  rcases hx with hx | rfl
  · exact h x hx
  · exact hn
theorem NmPos.find {names : Nms} (h : NmPos names) (nm : Bytes) : 0 ≤ (lastN nm names).getD 0 := by
  by_cases hm : nm ∈ names.map Prod.fst
  · obtain ⟨k, e, hk⟩ := lastN_mem hm
    rw [e]; exact h _ hk
  · rw [lastN_none hm]; exact Int.le_refl 0
end Go.AM

/- AM: floats that are whole numbers. -/
namespace Go.AM
open Ieee

theorem word_read_neg {rung : Nat} (neg : Bool) (h : rung < 2 ^ 63) : (double.word neg rung / double.signWeight % 2 == 1) = neg ∧ double.word neg rung % double.signWeight = rung := by
  have hs : double.signWeight = 2 ^ 63 := rfl
  rw [hs]
  cases neg with
  | false =>
    show (rung / 2 ^ 63 % 2 == 1) = false ∧ rung % 2 ^ 63 = rung
    rw [Nat.div_eq_of_lt h]
    exact ⟨rfl, Nat.mod_eq_of_lt h⟩
  | true =>
    show ((2 ^ 63 + rung) / 2 ^ 63 % 2 == 1) = true ∧ (2 ^ 63 + rung) % 2 ^ 63 = rung
    constructor
    · have : (2 ^ 63 + rung) / 2 ^ 63 = 1 := by omega
      rw [this]; rfl
    · omega
theorem cut_zero (neg : Bool) (n : Nat) (w : Toward) : w.cut neg n 0 = n := by
  unfold Toward.cut
  simp only [Nat.zero_min, Nat.shiftLeft_zero, Nat.div_one, Nat.mod_one]
  cases w <;> simp
/-- The word of a whole number tells this number. -/
theorem read_near {neg : Bool} {a : Nat} (h : a < 2 ^ 53) : ∃ k : Nat, double.read (double.nearest neg a 0) = .number neg (a * 2 ^ k) (-(k : Int)) := by
  by_cases h0 : a = 0
  · subst h0
    refine ⟨1074, ?_⟩
    cases neg <;> decide +kernel
  · have hL := Nat.log2_self_le h0
    have hU : a < 2 ^ (a.log2 + 1) := Nat.lt_log2_self
    have hl : a.log2 ≤ 52 := by
      have := (Nat.log2_lt h0).2 h
      omega
    generalize hk : a.log2 = L at *
    refine ⟨52 - L, ?_⟩
    have hmul1 : 2 ^ 52 ≤ a * 2 ^ (52 - L) := by
      have : 2 ^ 52 = 2 ^ L * 2 ^ (52 - L) := by rw [← Nat.pow_add]; congr 1; omega
      rw [this]; exact Nat.mul_le_mul_right _ hL
    have hmul2 : a * 2 ^ (52 - L) < 2 ^ 53 := by
      have : 2 ^ 53 = 2 ^ (L + 1) * 2 ^ (52 - L) := by rw [← Nat.pow_add]; congr 1; omega
      rw [this]; exact Nat.mul_lt_mul_of_pos_right hU (Nat.two_pow_pos _)
    have hlast : max ((0 : Int) + (a.log2 : Nat) - (double.fractionBits : Nat)) double.leastPlace = (L : Int) - 52 := by
      rw [hk]
      have e1 : (double.fractionBits : Nat) = 52 := rfl
      have e2 : double.leastPlace = -1074 := by decide
      rw [e1, e2]
      omega
    have hnear : double.nearest neg a 0 = double.word neg ((L + 1022) * 2 ^ 52 + a * 2 ^ (52 - L)) := by
      unfold Format.nearest
      rw [if_neg h0]
      simp only [hlast]
      have e1 : ((0 : Int) - ((L : Int) - 52)).toNat = 52 - L := by omega
      have e2 : ((L : Int) - 52 - 0).toNat = 0 := by omega
      have e3 : ((L : Int) - 52 - double.leastPlace).toNat = L + 1022 := by
        have : double.leastPlace = -1074 := by decide
        rw [this]; omega
      rw [e1, e2, e3, cut_zero, Nat.shiftLeft_eq]
      have e4 : double.binade = 2 ^ 52 := rfl
      have e5 : double.infRung = 2047 * 2 ^ 52 := by decide
      rw [e4, e5, Nat.min_eq_left]
      omega
    rw [hnear]
    have hr : (L + 1022) * 2 ^ 52 + a * 2 ^ (52 - L) < 2 ^ 63 := by omega
    obtain ⟨h1, h2⟩ := word_read_neg neg hr
    unfold Format.read
    simp only [h1, h2]
    have e4 : double.binade = 2 ^ 52 := rfl
    have e5 : double.infRung = 2047 * 2 ^ 52 := by decide
    have e6 : double.leastPlace = -1074 := by decide
    rw [e4, e5, e6, if_neg (by omega), if_pos (by omega)]
    generalize hq : a * 2 ^ (52 - L) = q at *
    have e7 : ((L + 1022) * 2 ^ 52 + q) % 2 ^ 52 = q - 2 ^ 52 := by omega
    have e8 : ((L + 1022) * 2 ^ 52 + q) / 2 ^ 52 = L + 1023 := by omega
    rw [e7, e8]
    have e9 : 2 ^ 52 + (q - 2 ^ 52) = q := by omega
    have e10 : (-1074 : Int) + ((L + 1023 - 1 : Nat) : Int) = -((52 - L : Nat) : Int) := by omega
    rw [e9, e10]
theorem nearest_eq (n : Int) : FloatKind.f64.nearest n = double.nearest (decide (n < 0)) n.natAbs 0 := rfl
theorem read_nearest {n : Int} (h : n.natAbs < 2 ^ 53) : ∃ k : Nat, double.read (FloatKind.f64.nearest n) = .number (decide (n < 0)) (n.natAbs * 2 ^ k) (-(k : Int)) := by
  rw [nearest_eq]; exact read_near h
theorem signed_nat (n : Int) (k u : Nat) : signed (decide (n < 0)) (n.natAbs * 2 ^ k) u = n * ((2 ^ (k + u) : Nat) : Int) := by
  unfold signed
  rw [Nat.shiftLeft_eq, Nat.mul_assoc, ← Nat.pow_add]
  generalize 2 ^ (k + u) = P
  rw [Int.natCast_mul]
  by_cases h : n < 0
  · simp only [h, decide_true, if_true]
    have : ((n.natAbs : Nat) : Int) = -n := by omega
    rw [this, Int.neg_mul, Int.neg_neg]
  · simp only [h, decide_false, Bool.false_eq_true, if_false]
    have : ((n.natAbs : Nat) : Int) = n := by omega
    rw [this]
theorem compare_mul (a b : Int) {P : Int} (hP : 0 < P) : compare (a * P) (b * P) = compare a b := by
  simp only [compare, compareOfLessAndEq, Int.mul_lt_mul_right hP]
  by_cases h : a = b
  · simp [h]
  · have : ¬ a * P = b * P := fun x => h (Int.eq_of_mul_eq_mul_right (by omega) x)
    simp [h, this]
theorem fOrd_near {a b : Int} (ha : a.natAbs < 2 ^ 53) (hb : b.natAbs < 2 ^ 53) : fOrd (FloatKind.f64.nearest a) (FloatKind.f64.nearest b) = some (compare a b) := by
  obtain ⟨k, hk⟩ := read_nearest ha
  obtain ⟨l, hl⟩ := read_nearest hb
  show (double.read _).order (double.read _) = _
  rw [hk, hl]
  simp only [Datum.order, signed_nat]
  have e1 : k + (-(k : Int) - min (-(k : Int)) (-(l : Int))).toNat = max k l := by omega
  have e2 : l + (-(l : Int) - min (-(k : Int)) (-(l : Int))).toNat = max k l := by omega
  rw [e1, e2, compare_mul]
  exact_mod_cast Nat.two_pow_pos _
theorem cut_near (neg : Bool) (a k : Nat) : Toward.zero.cut neg (a * 2 ^ k) k = a := by
  unfold Toward.cut
  simp only [Bool.toNat_false, Nat.add_zero]
  by_cases h0 : a = 0
  · subst h0; simp
  · have hk : k ≤ (a * 2 ^ k).log2 := by
      have hne : a * 2 ^ k ≠ 0 := Nat.ne_of_gt (Nat.mul_pos (Nat.pos_of_ne_zero h0) (Nat.two_pow_pos _))
      have : 2 ^ k ≤ a * 2 ^ k := Nat.le_mul_of_pos_left _ (Nat.pos_of_ne_zero h0)
      exact (Nat.le_log2 hne).2 this
    rw [Nat.min_eq_left (by omega), Nat.shiftLeft_eq, Nat.one_mul]
    exact Nat.mul_div_cancel _ (Nat.two_pow_pos _)
theorem integral_near {n : Int} (h : n.natAbs < 2 ^ 53) : (FloatKind.f64.decode (FloatKind.f64.nearest n)).integral .zero = .number (decide (n < 0)) n.natAbs 0 := by
  obtain ⟨k, hk⟩ := read_nearest h
  show (double.read _).integral _ = _
  rw [hk]
  simp only [Datum.integral]
  have e1 : (-(k : Int)).toNat = 0 := by omega
  have e2 : (-(-(k : Int))).toNat = k := by omega
  rw [e1, e2, Nat.shiftLeft_zero, cut_near]
theorem aTrunc_near {n : Int} (h : n.natAbs < 2 ^ 53) : aFext .trunc (.flt (FloatKind.f64.nearest n)) = some (.flt (FloatKind.f64.nearest n)) := by
  have hi := integral_near h
  obtain ⟨k, hk⟩ := read_nearest h
  have hd : FloatKind.f64.decode (FloatKind.f64.nearest n) = .number (decide (n < 0)) (n.natAbs * 2 ^ k) (-(k : Int)) := hk
  simp only [aFext]
  rw [hd]
  show some (AV.flt (FloatKind.f64.encode (Datum.integral .zero (.number (decide (n < 0)) (n.natAbs * 2 ^ k) (-(k : Int)))))) = _
  rw [← hd, hi]
  rfl
theorem near_zero : FloatKind.f64.nearest 0 = 0 := by decide
end Go.AM
namespace Go.AM
theorem cmp_ge (a b : Int) : (some (compare a b) == some Ordering.gt || some (compare a b) == some Ordering.eq) = decide (b ≤ a) := by
  simp only [compare, compareOfLessAndEq]
  by_cases h1 : a < b
  · simp [h1]
  · by_cases h2 : a = b
    · simp [h2]
    · simp [h1, h2]; omega
theorem cmp_le (a b : Int) : (some (compare a b) == some Ordering.lt || some (compare a b) == some Ordering.eq) = decide (a ≤ b) := by
  simp only [compare, compareOfLessAndEq]
  by_cases h1 : a < b
  · simp [h1]; omega
  · by_cases h2 : a = b
    · simp [h2]
    · simp [h1, h2]; omega
theorem cmp_eq (a b : Int) : (some (compare a b) == some Ordering.eq) = decide (a = b) := by
  simp only [compare, compareOfLessAndEq]
  by_cases h1 : a < b
  · simp [h1]; omega
  · by_cases h2 : a = b
    · simp [h2]
    · simp [h1, h2]
def Whl (n : Int) : Prop := -16777216 ≤ n ∧ n ≤ 16777216
theorem Whl.lt {n : Int} (h : Whl n) : n.natAbs < 2 ^ 53 := by obtain ⟨h1, h2⟩ := h; omega
theorem geq_most {n : Int} (h : Whl n) : binF .geq (FloatKind.f64.nearest n) 13938640846711685120 = some (.bool true) := by
  have e : (13938640846711685120 : Nat) = FloatKind.f64.nearest (-16777216) := by decide +kernel
  rw [e]
  simp only [binF, fOrd_near h.lt (b := -16777216) (by decide), cmp_ge]
  simp [h.1]
theorem leq_most {n : Int} (h : Whl n) : binF .leq (FloatKind.f64.nearest n) 4715268809856909312 = some (.bool true) := by
  have e : (4715268809856909312 : Nat) = FloatKind.f64.nearest 16777216 := by decide +kernel
  rw [e]
  simp only [binF, fOrd_near h.lt (b := 16777216) (by decide), cmp_le]
  simp [h.2]
theorem eql_near {a b : Int} (ha : Whl a) (hb : Whl b) : binF .eql (FloatKind.f64.nearest a) (FloatKind.f64.nearest b) = some (.bool (decide (a = b))) := by
  simp only [binF, fOrd_near ha.lt hb.lt, cmp_eq]
theorem eql_zero {a : Int} (ha : Whl a) : binF .eql (FloatKind.f64.nearest a) 0 = some (.bool (decide (a = 0))) := by
  have := eql_near (b := 0) ha ⟨by omega, by omega⟩
  rwa [near_zero] at this
theorem floatEq_near {a b : Int} (ha : Whl a) (hb : Whl b) : Op.floatEq .f64 (FloatKind.f64.nearest a) (FloatKind.f64.nearest b) = decide (a = b) := by
  have := fOrd_near ha.lt hb.lt
  show (fOrd _ _ == some .eq) = _
  rw [this, cmp_eq]
end Go.AM
