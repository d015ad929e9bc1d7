/- AM: floats that are whole numbers. -/
import Derived.Test.YtghidedifiolbaaGreatK11
import Derived.Test.YtghidedifiolbaaGreatK08
import Derived.Test.YtghidedifiolbaaGreatK09
set_option linter.unusedVariables false
set_option linter.unusedSimpArgs false
namespace Go.AM
open Ieee

end Go.AM
namespace Go.AM
def Whl (n : Int) : Prop := -16777216 ≤ n ∧ n ≤ 16777216
theorem Whl.lt {n : Int} (h : Whl n) : n.natAbs < 2 ^ 53 := by obtain ⟨h1, h2⟩ := h; omega
end Go.AM

/- AM: what is known of flat programs that are made of programs. -/
namespace Go.AM

/-- A value that is one: a number, a bool, the empty list. -/
def VlGood (v : Vl) : Prop := v.ls = [] ∧ numOK v.re v.im ∧ ((v.ty = 1 ∧ v.b = false) ∨ (v.ty = 2 ∧ v.re = 0 ∧ v.im = 0) ∨ (v.ty = 3 ∧ v.re = 0 ∧ v.im = 0 ∧ v.b = false))
def VlFine (v : Vl) : Prop := VlGood v ∨ v = vl0
mutual
def Cd.fine : Cd → Prop
  | .mk op slot slot2 func prim lit atoms args => VlFine lit ∧ (∀ a ∈ atoms, VlFine a.lit) ∧ atoms.length ≤ 1000000 ∧ args.length ≤ 1000000 ∧ Cd.fineL args
def Cd.fineL : List Cd → Prop
  | [] => True
  | c :: l => c.fine ∧ Cd.fineL l
end
theorem Cd.fineL_mem : ∀ {l : List Cd} {c : Cd}, Cd.fineL l → c ∈ l → c.fine
  | [], _, _, h => by cases h
  | a :: l, c, hl, h => by
    rcases List.mem_cons.1 h with rfl | h
    · exact hl.1
    · exact Cd.fineL_mem hl.2 h
end Go.AM

/- AM: lists that are read only, wherever they lie; codes in memory; when a flat program is right. -/
namespace Go.AM

/-- A list that is read: frozen, or in memory. -/
def LsV (e sz : Nat) (h : Hp) (v : AV) (rows : List (List AV)) : Prop := v = rowsAV rows ∨ v = .fz rows ∨ ∃ id xs, v = .sl id 0 rows.length ∧ h id = .arr e sz (rows ++ xs)
section
variable {e sz : Nat} {h h1 : Hp} {v : AV} {rows : List (List AV)}
theorem LsV.len (a : LsV e sz h v rows) (hh : Hp) : aLen .sl v hh = some (.int .i64 rows.length) := by
  rcases a with rfl | rfl | ⟨id, xs, rfl, _⟩
  · exact aLen_rows rows
  · rfl
  · rfl
theorem LsV.frozen (rows : List (List AV)) : LsV e sz h (rowsAV rows) rows := .inl rfl
theorem LsV.keep (a : LsV e sz h v rows) (hk : ∀ id sz xs, h id = .arr e sz xs → h1 id = .arr e sz xs) : LsV e sz h1 v rows := by
  rcases a with x | x | ⟨id, xs, x, y⟩
  · exact .inl x
  · exact .inr (.inl x)
  · exact .inr (.inr ⟨id, xs, x, hk _ _ _ y⟩)
/-- Reading one. -/
theorem LsV.get (a : LsV e sz h v rows) {i : Nat} {row : List AV} (hi : rows[i]? = some row) (hl : row.length = sz) :
    ∃ p, aIa sz v (.int .i64 (i : Int)) h = some p ∧ aLda sz p h = some (.agg row) ∧ (∀ c, row[0]? = some c → aLdc p h = some c) ∧ ∀ off, off ≤ sz → ∃ q, aFa off p = some q ∧ ∀ c, row[off]? = some c → aLdc q h = some c := by
  have hlt : i < rows.length := (List.getElem?_eq_some_iff.1 hi).1
  have hfz : ∃ p, aIa sz (.fz rows) (.int .i64 (i : Int)) h = some p ∧ aLda sz p h = some (.agg row) ∧ (∀ c, row[0]? = some c → aLdc p h = some c) ∧ ∀ off, off ≤ sz → ∃ q, aFa off p = some q ∧ ∀ c, row[off]? = some c → aLdc q h = some c := by
    refine ⟨.fp row, aIa_fzn sz .i64 i rows row hi hl, ?_, fun c hc => ?_, fun off ho => ⟨.fp (row.drop off), ?_, fun c hc => ?_⟩⟩
    · have : row.take sz = row := List.take_of_length_le (by omega)
      simp [hl, this]
    · simpa using hc
    · simp [hl, ho]
    · simpa using hc
  rcases a with rfl | rfl | ⟨id, xs, rfl, ha⟩
  · cases rows with
    | nil => simp at hlt
    | cons r rs => exact hfz
  · exact hfz
  · have hr : (rows ++ xs)[i]? = some row := by rw [List.getElem?_append_left hlt]; exact hi
    refine ⟨.pe id (0 + (i : Int).toNat) 0, aIa_sl sz .i64 i id 0 _ e _ ha (by omega) (by omega), ?_, fun c hc => ?_, fun off ho => ⟨.pe id (0 + (i : Int).toNat) (0 + off), ?_, fun c hc => ?_⟩⟩
    · have : row.take sz = row := List.take_of_length_le (by omega)
      simp [ha, hr, this]
    · simp [ha, hr, hc]
    · simp
    · simp [ha, hr, hc]
end

/-! ### Codes in memory -/
mutual
def DenC (ea ec : Nat) (h : Hp) : Cd → List AV → Prop
  | .mk op slot slot2 func prim lit atoms args, cs => ∃ va vb rows, cs = [.int .i64 op, .int .i64 slot, .int .i64 slot2, .int .i64 func, .int .i64 prim] ++ lit.cells ++ [va, vb] ∧ LsV ea 5 h va (atoms.map Atm.cells) ∧ LsV ec 11 h vb rows ∧ DenL ea ec h args rows
def DenL (ea ec : Nat) (h : Hp) : List Cd → List (List AV) → Prop
  | [], [] => True
  | c :: l, r :: rs => DenC ea ec h c r ∧ DenL ea ec h l rs
  | _, _ => False
end
section
variable {ea ec : Nat} {h h1 : Hp}
mutual
theorem DenC.frozen : ∀ (c : Cd), DenC ea ec h c c.cells
  | .mk op slot slot2 func prim lit atoms args => ⟨rowsAV (atoms.map Atm.cells), rowsAV (Cd.rows args), Cd.rows args, rfl, .inl rfl, .inl rfl, DenL.frozen args⟩
theorem DenL.frozen : ∀ (l : List Cd), DenL ea ec h l (Cd.rows l)
  | [] => trivial
  | c :: l => ⟨DenC.frozen c, DenL.frozen l⟩
end
theorem DenL.length : ∀ {l : List Cd} {rows : List (List AV)}, DenL ea ec h l rows → rows.length = l.length
  | [], [], _ => rfl
  | c :: l, r :: rs, hd => by simp [DenL.length hd.2]
  | [], r :: rs, hd => hd.elim
  | c :: l, [], hd => hd.elim
theorem DenL.get : ∀ {l : List Cd} {rows : List (List AV)} {i : Nat} {c : Cd}, DenL ea ec h l rows → l[i]? = some c → ∃ r, rows[i]? = some r ∧ DenC ea ec h c r
  | [], _, _, _, _, hc => by simp at hc
  | c :: l, [], _, _, hd, _ => hd.elim
  | c :: l, r :: rs, 0, c', hd, hc => by simp at hc; subst hc; exact ⟨r, rfl, hd.1⟩
  | c :: l, r :: rs, i + 1, c', hd, hc => by
    obtain ⟨r', h1, h2⟩ := DenL.get hd.2 (i := i) (by simpa using hc)
    exact ⟨r', by simpa using h1, h2⟩
theorem DenC.len {c : Cd} {cs : List AV} (hd : DenC ea ec h c cs) : cs.length = 11 := by
  cases c
  obtain ⟨va, vb, rows, rfl, _⟩ := hd
  rfl
mutual
theorem DenC.keep (hk : ∀ id e sz xs, e = ea ∨ e = ec → h id = .arr e sz xs → h1 id = .arr e sz xs) : ∀ {c : Cd} {cs : List AV}, DenC ea ec h c cs → DenC ea ec h1 c cs
  | .mk op slot slot2 func prim lit atoms args, cs, ⟨va, vb, rows, h1, h2, h3, h4⟩ => ⟨va, vb, rows, h1, h2.keep (fun id sz xs hh => hk id _ sz xs (.inl rfl) hh), h3.keep (fun id sz xs hh => hk id _ sz xs (.inr rfl) hh), DenL.keep hk h4⟩
theorem DenL.keep (hk : ∀ id e sz xs, e = ea ∨ e = ec → h id = .arr e sz xs → h1 id = .arr e sz xs) : ∀ {l : List Cd} {rows : List (List AV)}, DenL ea ec h l rows → DenL ea ec h1 l rows
  | [], [], _ => trivial
  | c :: l, r :: rs, hd => ⟨DenC.keep hk hd.1, DenL.keep hk hd.2⟩
  | [], r :: rs, hd => hd.elim
  | c :: l, [], hd => hd.elim
end
end

/-! ### When a flat program is right -/
end Go.AM

/- AM: nesting; chains of names; tables that fit. -/
namespace Go.AM

mutual
def nestS : Ex → Nat
  | .mk op name tail ty re im args pos => nestL args + (if op = 21 ∨ op = 22 ∨ op = 20 then 1 else 0)
def nestL : List Ex → Nat
  | [] => 0
  | a :: l => max (nestS a) (nestL l)
end
theorem nestS_eq (e : Ex) : nestS e = nestL e.args + (if e.op = 21 ∨ e.op = 22 ∨ e.op = 20 then 1 else 0) := by cases e; rw [nestS]; rfl
theorem nestL_snoc : ∀ (l : List Ex) (a : Ex), nestL (l ++ [a]) = max (nestL l) (nestS a)
  | [], a => by simp [nestL]
  | b :: l, a => by simp only [List.cons_append, nestL, nestL_snoc l a]; omega
mutual
theorem nestS_le : ∀ (e : Ex), nestS e ≤ e.size
  | .mk op name tail ty re im args pos => by
    have := nestL_le args
    simp only [nestS, Ex.size]
    split <;> omega
theorem nestL_le : ∀ (l : List Ex), nestL l ≤ Ex.sizeL l
  | [] => by simp [nestL]
  | a :: l => by
    have h1 := nestS_le a
    have h2 := nestL_le l
    simp only [nestL, Ex.sizeL]; omega
end
/-- Names with points as they lie in memory, the last one first. -/
def ChR (h : Hp) : AV → Nms → Prop
  | v, [] => v = .nilp
  | v, x :: l => ∃ id out, v = .ptr id 0 ∧ h id = .cells [.str x.1, .int .i64 x.2, out] ∧ ChR h out l
theorem ChR.keep {h h1 : Hp} (hk : Keeps h h1) : ∀ {l : Nms} {v : AV}, ChR h v l → ChR h1 v l
  | [], v, c => c
  | x :: l, v, ⟨id, out, e, hh, c⟩ => ⟨id, out, e, hk.at hh (by simp), c.keep hk⟩
theorem ChR.flat {h : Hp} : ∀ {l : Nms} {v : AV}, ChR h v l → v.flat = true ∧ v.cells = [v]
  | [], v, c => by subst c; exact ⟨rfl, rfl⟩
  | x :: l, v, ⟨id, out, e, _⟩ => by subst e; exact ⟨rfl, rfl⟩
def ChN (h : Hp) (v : AV) (names : Nms) : Prop := ChR h v names.reverse
theorem ChN.keep {h h1 : Hp} {v : AV} {names : Nms} (c : ChN h v names) (hk : Keeps h h1) : ChN h1 v names := ChR.keep hk c
theorem ChN.bind {h : Hp} {v : AV} {names : Nms} {nm : Bytes} {q : Int} {id : Nat} (c : ChN h v names) (hi : h id = .cells [.str nm, .int .i64 q, v]) : ChN h (.ptr id 0) (bindN names nm q) := by
  simp only [ChN, bindN, List.reverse_append, List.reverse_cons, List.reverse_nil, List.nil_append, List.cons_append]
  exact ⟨id, v, rfl, hi, c⟩
/-- The first of a name. -/
def firstN (n : Bytes) : Nms → Option Int
  | [] => none
  | x :: l => if x.1 = n then some x.2 else firstN n l
theorem firstN_append (n : Bytes) : ∀ (a b : Nms), firstN n (a ++ b) = (firstN n a).or (firstN n b)
  | [], b => by simp [firstN]
  | x :: a, b => by
    simp only [List.cons_append, firstN]
    split
    · simp
    · exact firstN_append n a b
theorem firstN_rev (n : Bytes) : ∀ (l : Nms), firstN n l.reverse = lastN n l
  | [] => rfl
  | x :: l => by
    rw [List.reverse_cons, firstN_append, firstN_rev n l]
    simp only [lastN, firstN]
    cases lastN n l with
    | some t => rfl
    | none => by_cases h : x.1 = n <;> simp [h]

theorem fitL_iff : ∀ {p : List Df} {ts : List Tb}, fitL p ts = true ↔ ts.length = p.length ∧ ∀ (i : Nat) (f : Df) (t : Tb), p[i]? = some f → ts[i]? = some t → fitOK f t = true
  | [], [] => by simp [fitL]
  | f :: p, t :: ts => by
    simp only [fitL, Bool.and_eq_true, fitL_iff (p := p), List.length_cons]
    constructor
    · rintro ⟨h1, h2, h3⟩
      refine ⟨by omega, fun i g u hg hu => ?_⟩
      cases i with
      | zero => simp at hg hu; subst hg; subst hu; exact h1
      | succ i => exact h3 i g u (by simpa using hg) (by simpa using hu)
    · rintro ⟨h1, h2⟩
      exact ⟨h2 0 f t rfl rfl, by omega, fun i g u hg hu => h2 (i + 1) g u (by simpa using hg) (by simpa using hu)⟩
  | [], t :: ts => by simp [fitL]
  | f :: p, [] => by simp [fitL]
theorem fitL_len {p : List Df} {ts : List Tb} (h : ts.length ≠ p.length) : fitL p ts = false := by
  cases hf : fitL p ts with
  | false => rfl
  | true => exact absurd (fitL_iff.1 hf).1 h
theorem fitL_bad {p : List Df} {ts : List Tb} {i : Nat} {f : Df} {t : Tb} (h1 : p[i]? = some f) (h2 : ts[i]? = some t) (hb : fitOK f t = false) : fitL p ts = false := by
  cases hf : fitL p ts with
  | false => rfl
  | true => rw [(fitL_iff.1 hf).2 i f t h1 h2] at hb; cases hb
/-- Tables that fit, as lists of points. -/
theorem fit_tab {p : List Df} {ts : List Tb} (h : fitL p ts = true) : TabOK p (ts.map Tb.pts) := by
  obtain ⟨hl, hf⟩ := fitL_iff.1 h
  intro i f hi
  have hlt : i < ts.length := by rw [hl]; exact (List.getElem?_eq_some_iff.1 hi).1
  have ht : ts[i]? = some ts[i] := List.getElem?_eq_getElem hlt
  have hfit := hf i f _ hi ht
  generalize ts[i] = t at *
  simp only [fitOK, Bool.and_eq_true, decide_eq_true_eq, tbOK, List.all_eq_true] at hfit
  obtain ⟨⟨⟨⟨h1, h2, h3⟩, h4⟩, h5⟩, h6, h7⟩ := hfit
  obtain ⟨_, hp, he⟩ := cntS_ok h1
  refine ⟨t.pts, by simp [ht], by rw [tysF, ← h7]; exact h1, ?_, fun c hc => ?_⟩
  · simp only [Tb.pts, List.length_map, List.length_range, h2, he, tysF, ← h7]; omega
  · refine ⟨?_, by rw [← h6]; exact h5 c hc⟩
    simp only [Tb.pts, List.mem_map] at hc
    obtain ⟨j, _, rfl⟩ := hc
    omega
end Go.AM

/- AM: the tables out of bytes; programs that are looked at. -/
namespace Go.AM

def smallF (f : Df) : Bool := decide ((cntS (tysF f)).2 = 0 ∧ (cntS (tysF f)).1 ≤ 256)
def read17 (b : Bytes) : Bool := (readS b).2 && (decide ((readS b).1.length ≤ 40 ∧ b.length ≤ 8192) && (readS b).1.all smallF)
def cellX (s : Bytes) (top : Int) (k : Nat) : Nat := if s = [] then 0 else (s.getD (k % s.length) 0).toNat % (top + 1).toNat
def cellsS (s : Bytes) (top : Int) (k n : Nat) : List Nat := (List.range n).map fun j => cellX s top (k + j)
def kS (s : Bytes) (l : List Df) : Nat := if s = [] then 0 else (l.map fun f => prodS (tysF f)).sum
def tabS (s : Bytes) (l : List Df) (f : Df) : Tb := tbOf (tysF f) f.ty (cellsS s (topS f.ty) (kS s l) (prodS (tysF f)))
def tabsS (s : Bytes) (p : List Df) : List Tb := (List.range p.length).map fun i => tabS s (p.take i) (p.getD i df0)
theorem cellX_lt {s : Bytes} {top : Int} (ht : top = 1 ∨ top = 3) (k : Nat) : cellX s top k < 4 ∧ (cellX s top k : Int) ≤ top := by
  simp only [cellX]
  split
  · rcases ht with rfl | rfl <;> omega
  · have : (s.getD (k % s.length) 0).toNat % (top + 1).toNat < (top + 1).toNat := Nat.mod_lt _ (by omega)
    generalize (s.getD (k % s.length) 0).toNat % (top + 1).toNat = x at *
    omega
theorem cellsS_length (s : Bytes) (top : Int) (k n : Nat) : (cellsS s top k n).length = n := by simp [cellsS]
theorem cellsS_lt {s : Bytes} {top : Int} (ht : top = 1 ∨ top = 3) {k n : Nat} : ∀ x ∈ cellsS s top k n, x < 4 := by
  intro x hx; simp only [cellsS, List.mem_map] at hx; obtain ⟨j, _, rfl⟩ := hx; exact (cellX_lt ht _).1
theorem cellsS_le {s : Bytes} {top : Int} (ht : top = 1 ∨ top = 3) {k n : Nat} : ∀ x ∈ cellsS s top k n, (x : Int) ≤ top := by
  intro x hx; simp only [cellsS, List.mem_map] at hx; obtain ⟨j, _, rfl⟩ := hx; exact (cellX_lt ht _).2
theorem cellsS_nil {s : Bytes} (hs : s = []) (top : Int) (k n : Nat) : cellsS s top k n = List.replicate n 0 := by
  refine List.ext_getElem (by simp [cellsS]) fun i h1 h2 => ?_
  simp [cellsS, cellX, hs]
theorem kS_snoc (s : Bytes) (l : List Df) (f : Df) : kS s (l ++ [f]) = if s = [] then 0 else kS s l + prodS (tysF f) := by
  simp only [kS]; split <;> simp
theorem tabsS_length (s : Bytes) (p : List Df) : (tabsS s p).length = p.length := by simp [tabsS]
theorem tabsS_get {s : Bytes} {p : List Df} {i : Nat} {f : Df} (h : p[i]? = some f) : (tabsS s p)[i]? = some (tabS s (p.take i) f) := by
  have hlt := (List.getElem?_eq_some_iff.1 h).1
  have hf := (List.getElem?_eq_some_iff.1 h).2
  simp [tabsS, hlt, List.getD, hf]
theorem tabsS_take {s : Bytes} {p : List Df} {i : Nat} (hi : i < p.length) : (tabsS s p).take (i + 1) = (tabsS s p).take i ++ [tabS s (p.take i) p[i]] := by
  have h := tabsS_get (s := s) (List.getElem?_eq_getElem hi)
  have hlt := (List.getElem?_eq_some_iff.1 h).1
  rw [List.take_add_one, h]
  rfl
theorem fitL_of : ∀ {p : List Df} {ts : List Tb}, ts.length = p.length → (∀ (i : Nat) (f : Df) (t : Tb), p[i]? = some f → ts[i]? = some t → fitOK f t = true) → fitL p ts = true
  | [], [], _, _ => rfl
  | [], _ :: _, h, _ => by simp at h
  | _ :: _, [], h, _ => by simp at h
  | f :: p, t :: ts, h, hf => by
    simp only [fitL, Bool.and_eq_true]
    exact ⟨hf 0 f t rfl rfl, fitL_of (by simpa using h) fun i f' t' h1 h2 => hf (i + 1) f' t' (by simpa using h1) (by simpa using h2)⟩
theorem smallF_ok {f : Df} (h : smallF f = true) : (cntS (tysF f)).2 = 0 ∧ prodS (tysF f) ≤ 256 ∧ (cntS (tysF f)).1 = (prodS (tysF f) : Nat) := by
  have h := of_decide_eq_true h
  obtain ⟨_, _, h3⟩ := cntS_ok h.1
  exact ⟨h.1, by omega, h3⟩
theorem tabsS_fit {s : Bytes} {p : List Df} (hs : ∀ f ∈ p, smallF f = true) (ht : ∀ f ∈ p, tyOK f.ty) : fitL p (tabsS s p) = true := by
  refine fitL_of (tabsS_length s p) fun i f t h1 h2 => ?_
  rw [tabsS_get h1] at h2
  cases h2
  have hm := List.mem_of_getElem? h1
  obtain ⟨g1, g2, g3⟩ := smallF_ok (hs f hm)
  have ht' := topS_ok (ht f hm)
  simp only [fitOK, Bool.and_eq_true, decide_eq_true_eq]
  refine ⟨tbOf_ok g1 (cellsS_length _ _ _ _) (by omega) (cellsS_le ht'), rfl, rfl⟩
theorem cellsS_step {s : Bytes} {top : Int} {k n j : Nat} (h : j < n) : (cellsS s top k j ++ List.replicate (n - j) 0).set j (cellX s top (k + j)) = cellsS s top k (j + 1) ++ List.replicate (n - (j + 1)) 0 := by
  obtain ⟨m, hm⟩ : ∃ m, n - j = m + 1 := ⟨n - j - 1, by omega⟩
  rw [hm, show n - (j + 1) = m by omega, List.set_append_right _ _ (by simp [cellsS]), cellsS_length, Nat.sub_self]
  simp [cellsS, List.range_succ, List.replicate_succ]
theorem intRows_set (l : List Int) (i : Nat) (x : Int) : (intRows l).set i [.int .i64 x] = intRows (l.set i x) := by simp [intRows, List.map_set]
end Go.AM

/- AM: a body's point at a tuple. -/
namespace Go.AM

theorem tell7_fold : ∀ (l : List Int) (f : Flt), f.1 ≠ 0 ∨ l ≠ [] → (l.foldl tell7 f).1 ≠ 0
  | [], f, h => by rcases h with h | h; exact h; exact absurd rfl h
  | x :: l, f, _ => by
    refine tell7_fold l _ (.inl ?_)
    simp only [tell7]
    split
    · exact fun h2 => absurd h2 (by decide : ¬ (34 : Int) = 0)
    · rename_i h; exact fun h2 => h (.inl h2)
theorem wrongP_mem {p : List Df} : ∀ {l : List Df}, wrongP p l = [] → ∀ f ∈ l, wrongS p f.params f.ty f.body = []
  | [], _, f, hf => by cases hf
  | g :: l, h, f, hf => by
    simp only [wrongP, List.append_eq_nil_iff] at h
    rcases List.mem_cons.1 hf with rfl | hf
    · exact h.1
    · exact wrongP_mem h.2 f hf
theorem check07_wrong {p : List Df} (h : (check07 p).1 = 0) : ∀ f ∈ p, wrongS p f.params f.ty f.body = [] := by
  have h6 := check07_06 h
  simp only [check07, h6, ne_eq, not_true_eq_false, if_false] at h
  refine wrongP_mem (Decidable.byContradiction fun hn => ?_)
  exact tell7_fold _ _ (.inr hn) h
/-- The parameters' names at a tuple. -/
def nmF : List Pm → List Int → Nms
  | x :: l, y :: q => (x.name, y) :: nmF l q
  | _, _ => []
theorem nmF_snoc : ∀ {l : List Pm} {q : List Int} {i : Nat} {x : Pm} {y : Int}, l[i]? = some x → q[i]? = some y → nmF (l.take (i + 1)) (q.take (i + 1)) = bindN (nmF (l.take i) (q.take i)) x.name y
  | [], _, _, _, _, h, _ => by simp at h
  | _ :: _, [], _, _, _, _, h => by simp at h
  | a :: l, b :: q, 0, x, y, h1, h2 => by simp at h1 h2; subst h1; subst h2; simp [nmF, bindN]
  | a :: l, b :: q, i + 1, x, y, h1, h2 => by
    have := nmF_snoc (l := l) (q := q) (i := i) (x := x) (y := y) (by simpa using h1) (by simpa using h2)
    simp only [List.take_succ_cons, nmF, this]
    rfl
theorem envPt_F : ∀ {l : List Pm} {q : List Int}, q.length = l.length → allPt (l.map Pm.ty) q = true → EnvPt l (nmF l q)
  | [], [], _, _ => trivial
  | [], _ :: _, h, _ => by simp at h
  | _ :: _, [], h, _ => by simp at h
  | x :: l, y :: q, h, ha => by
    simp only [List.map_cons, allPt, Bool.and_eq_true] at ha
    have h1 := ha.1
    simp only [isPt, decide_eq_true_eq] at h1
    exact ⟨rfl, h1, envPt_F (by simpa using h) ha.2⟩
end Go.AM

/- AM: what stands around an expression that does not name a name. -/
namespace Go.AM

mutual
def withinN : Ex → List Bytes
  | .mk op name tail ty re im args pos => (if name = [] then [] else [name]) ++ (if tail = [] then [] else [tail]) ++ withinL args
def withinL : List Ex → List Bytes
  | [] => []
  | a :: l => withinN a ++ withinL l
end
theorem withinN_eq (e : Ex) : withinN e = (if e.name = [] then [] else [e.name]) ++ (if e.tail = [] then [] else [e.tail]) ++ withinL e.args := by cases e; rw [withinN]; rfl
theorem withinL_snoc : ∀ (l : List Ex) (a : Ex), withinL (l ++ [a]) = withinL l ++ withinN a
  | [], a => by simp [withinL]
  | b :: l, a => by simp [withinL, withinL_snoc l a]
mutual
theorem withinN_length : ∀ (e : Ex), (withinN e).length ≤ 2 * e.size
  | .mk op name tail ty re im args pos => by
    have := withinL_length args
    have hs : (Ex.mk op name tail ty re im args pos).size = 1 + Ex.sizeL args := rfl
    rw [hs]
    simp only [withinN, List.length_append]
    split <;> split <;> simp <;> omega
theorem withinL_length : ∀ (l : List Ex), (withinL l).length ≤ 2 * Ex.sizeL l
  | [] => by simp [withinL]
  | a :: l => by
    have h1 := withinN_length a
    have h2 := withinL_length l
    have hs : Ex.sizeL (a :: l) = a.size + Ex.sizeL l := rfl
    rw [hs]
    simp only [withinL, List.length_append]; omega
end
/-- A name that is nowhere in it. -/
def noZ (z : Bytes) (e : Ex) : Prop := z ∉ withinN e
theorem noZ_name {z : Bytes} (hz : z ≠ []) {e : Ex} (h : noZ z e) : e.name ≠ z ∧ (∀ a ∈ e.args, noZ z a) := by
  rw [noZ, withinN_eq] at h
  simp only [List.mem_append, not_or] at h
  refine ⟨fun x => h.1.1 ?_, fun a ha hza => h.2 ?_⟩
  · rw [x, if_neg hz]; simp
  · have gen : ∀ (l : List Ex), a ∈ l → z ∈ withinL l := by
      intro l
      induction l with
      | nil => intro hm; cases hm
      | cons b l ih =>
        intro hm
        simp only [withinL, List.mem_append]
        rcases List.mem_cons.1 hm with rfl | hm
        · exact .inl hza
        · exact .inr (ih hm)
    exact gen _ ha
def AgT (z : Bytes) (env env' : List Pm) : Prop := ∀ x, x ≠ z → lastT x env = lastT x env'
def AgN (z : Bytes) (nm nm' : Nms) : Prop := ∀ x, x ≠ z → lastN x nm = lastN x nm'
theorem AgT.snoc {z : Bytes} {env env' : List Pm} (h : AgT z env env') (y : Pm) : AgT z (env ++ [y]) (env' ++ [y]) := by
  intro x hx; rw [lastT_snoc, lastT_snoc, h x hx]
theorem AgT.zz {z : Bytes} {env env' : List Pm} (h : AgT z env env') {y : Pm} (hy : y.name = z) : AgT z (env ++ [y]) env' := by
  intro x hx; rw [lastT_snoc, if_neg (fun e => hx (e.symm.trans hy)), h x hx]
theorem lastN_snoc' (n : Bytes) : ∀ (l : Nms) (x : Bytes × Int), lastN n (l ++ [x]) = if x.1 = n then some x.2 else lastN n l
  | [], x => by simp [lastN]
  | y :: l, x => by
    simp only [List.cons_append, lastN, lastN_snoc' n l x]
    by_cases h : x.1 = n
    · simp [h]
    · simp [h]
theorem AgN.bind {z : Bytes} {nm nm' : Nms} (h : AgN z nm nm') (y : Bytes) (q : Int) : AgN z (bindN nm y q) (bindN nm' y q) := by
  intro x hx; simp only [bindN]; rw [lastN_snoc', lastN_snoc', h x hx]
theorem AgN.zz {z : Bytes} {nm nm' : Nms} (h : AgN z nm nm') (q : Int) : AgN z (bindN nm z q) nm' := by
  intro x hx; simp only [bindN]; rw [lastN_snoc', if_neg (fun e => hx e.symm), h x hx]
section
variable (p : List Df) (T : List (List Int))
theorem wrongS_ag {z : Bytes} (hz : z ≠ []) : ∀ (n : Nat) (e : Ex) (env env' : List Pm) (t : Int), e.size ≤ n → noZ z e → AgT z env env' → wrongS p env t e = wrongS p env' t e
  | 0, e, _, _, _, hn, _, _ => by have := e.size_pos; omega
  | n + 1, e, env, env', t, hn, hz1, ha => by
    obtain ⟨h1, h2⟩ := noZ_name hz hz1
    have hsz : e.size = 1 + Ex.sizeL e.args := by cases e; rfl
    have hown : ownS p env e = ownS p env' e := by
      simp only [ownS, ha _ h1]
    have hwi : ∀ i, AgT z (withinS env e i) (withinS env' e i) := by
      intro i
      simp only [withinS]
      split
      · exact ha.snoc _
      · split
        · exact (ha.snoc _).snoc _
        · exact ha
    have gen : ∀ (l : List Ex) (i : Nat), (∀ a ∈ l, noZ z a) → Ex.sizeL l ≤ n → wrongL p env e t i l = wrongL p env' e t i l := by
      intro l
      induction l with
      | nil => intro i _ _; rfl
      | cons a l ih =>
        intro i hl hs
        have hs2 : Ex.sizeL (a :: l) = a.size + Ex.sizeL l := rfl
        have := wrongS_ag hz n a _ _ (wantedS p e i t) (by omega) (hl a (by simp)) (hwi i)
        simp only [wrongL, this, ih (i + 1) (fun b hb => hl b (by simp [hb])) (by omega)]
    have := gen e.args 0 h2 (by omega)
    obtain ⟨op, name, tail, ty, re, im, args, pos⟩ := e
    simp only [wrongS, ownW, hown]
    rw [show wrongL p env (.mk op name tail ty re im args pos) t 0 args = wrongL p env' (.mk op name tail ty re im args pos) t 0 args from this]
theorem ptS_ag {z : Bytes} (hz : z ≠ []) : ∀ (n : Nat) (e : Ex) (nm nm' : Nms), e.size ≤ n → noZ z e → AgN z nm nm' → ptS p T e nm = ptS p T e nm'
  | 0, e, _, _, hn, _, _ => by have := e.size_pos; omega
  | n + 1, e, nm, nm', hn, hz1, ha => by
    obtain ⟨h1, h2⟩ := noZ_name hz hz1
    have hsz : e.size = 1 + Ex.sizeL e.args := by cases e; rfl
    have hin : ∀ a ∈ e.args, ∀ nm nm', AgN z nm nm' → ptS p T a nm = ptS p T a nm' := by
      intro a hm nm nm' hag
      have gen : ∀ (l : List Ex), a ∈ l → a.size ≤ Ex.sizeL l := by
        intro l
        induction l with
        | nil => intro h; cases h
        | cons b l ih =>
          intro h
          have hs2 : Ex.sizeL (b :: l) = b.size + Ex.sizeL l := rfl
          rcases List.mem_cons.1 h with rfl | h
          · omega
          · have := ih h; omega
      have := gen _ hm
      exact ptS_ag hz n a nm nm' (by omega) (h2 a hm) hag
    rw [ptS_eq, ptS_eq, ha _ h1]
    have hall : allP p T e.args nm = allP p T e.args nm' := by
      rw [allP_map, allP_map]
      exact List.map_congr_left fun a hm => hin a hm _ _ ha
    have hif : ifP p T e.args nm = ifP p T e.args nm' := by
      rcases hx : e.args with _ | ⟨a, _ | ⟨b, _ | ⟨c, _ | ⟨d, l⟩⟩⟩⟩ <;> rw [hx] at hin <;> simp only [ifP]
      rw [hin a (by simp) _ _ ha, hin b (by simp) _ _ ha, hin c (by simp) _ _ ha]
    have hcase : caseP p T e.name e.tail e.args nm = caseP p T e.name e.tail e.args nm' := by
      rcases hx : e.args with _ | ⟨a, _ | ⟨b, _ | ⟨c, _ | ⟨d, l⟩⟩⟩⟩ <;> rw [hx] at hin <;> simp only [caseP]
      rw [hin a (by simp) _ _ ha, hin b (by simp) _ _ ha]
      congr 1
      funext m w
      rw [hin c (by simp) _ _ ((ha.bind e.name w.2.1).bind e.tail w.2.2)]
    have hlet : letP p T e.name e.args nm = letP p T e.name e.args nm' := by
      rcases hx : e.args with _ | ⟨a, _ | ⟨b, _ | ⟨c, l⟩⟩⟩ <;> rw [hx] at hin <;> simp only [letP]
      have : (fun q => ptS p T a (bindN nm e.name q)) = fun q => ptS p T a (bindN nm' e.name q) := by
        funext q; exact hin a (by simp) _ _ (ha.bind _ _)
      rw [this, hin b (by simp) _ _ (ha.bind _ _)]
    have hstr : strP p T e.name e.args nm = strP p T e.name e.args nm' := by
      rcases hx : e.args with _ | ⟨a, _ | ⟨b, _ | ⟨c, l⟩⟩⟩ <;> rw [hx] at hin <;> simp only [strP]
      rw [hin a (by simp) _ _ ha, hin b (by simp) _ _ (ha.bind _ _)]
    rw [hall, hif, hcase, hlet, hstr]
end
end Go.AM
