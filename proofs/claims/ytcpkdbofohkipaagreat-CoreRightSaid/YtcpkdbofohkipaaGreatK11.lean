/- AM: what is known of flat programs that are made of programs. -/
import Derived.Test.YtcpkdbofohkipaaGreatK10
set_option linter.unusedVariables false
set_option linter.unusedSimpArgs false
namespace Go.AM

/-- A value that is one: a number, a bool, the empty list. -/
def VlGood (v : Vl) : Prop := v.ls = [] ∧ numOK v.re v.im ∧ ((v.ty = 1 ∧ v.b = false) ∨ (v.ty = 2 ∧ v.re = 0 ∧ v.im = 0) ∨ (v.ty = 3 ∧ v.re = 0 ∧ v.im = 0 ∧ v.b = false))
def VlFine (v : Vl) : Prop := VlGood v ∨ v = vl0
mutual
def Cd.fine : Cd → Prop
  | .mk op slot slot2 func prim lit atoms args => VlFine lit ∧ (∀ a ∈ atoms, VlFine a.lit) ∧ atoms.length ≤ 1000000 ∧ args.length ≤ 1000000 ∧ Cd.fineL args
def Cd.fineL : List Cd → Prop
  | [] => True
  | c :: l => c.fine ∧ Cd.fineL l
end
theorem Cd.fineL_mem : ∀ {l : List Cd} {c : Cd}, Cd.fineL l → c ∈ l → c.fine
  | [], _, _, h => by cases h
  | a :: l, c, hl, h => by
    rcases List.mem_cons.1 h with rfl | h
    · exact hl.1
    · exact Cd.fineL_mem hl.2 h
theorem numOK_0 : numOK 0 0 := ⟨0, 0, by omega, by omega, by omega, by omega, near_zero.symm, near_zero.symm⟩
theorem litS_good {e : Ex} {hi : Int} {v : Vl} (hf : e.fine hi) (h : litS e = some v) : VlGood v := by
  have hn : e.op = 1 → numOK e.re e.im := by cases e; exact hf.2.2.1
  simp only [litS] at h
  split at h
  · rename_i o; cases h; exact ⟨rfl, hn o, .inl ⟨rfl, rfl⟩⟩
  split at h
  · cases h; exact ⟨rfl, numOK_0, .inr (.inl ⟨rfl, rfl, rfl⟩)⟩
  split at h
  · cases h; exact ⟨rfl, numOK_0, .inr (.inr ⟨rfl, rfl, rfl, rfl⟩)⟩
  · cases h
theorem atomS_fine {e : Ex} {hi : Int} {names : Nms} {a : Atm} (hf : e.fine hi) (h : atomS names e = some a) : VlFine a.lit := by
  simp only [atomS] at h
  split at h
  · cases h; exact .inr rfl
  · cases hl : litS e with
    | none => rw [hl] at h; cases h
    | some v => rw [hl] at h; cases h; exact .inl (litS_good hf hl)
theorem atomsL_fine {hi : Int} {names : Nms} : ∀ {l : List Ex} {n : Int}, Ex.fineL hi l → ∀ a ∈ (atomsL names l n).1, VlFine a.lit
  | [], n, _, a, h => by simp [atomsL] at h
  | e :: l, n, hf, a, h => by
    simp only [atomsL] at h
    cases hx : atomS names e with
    | some b =>
      rw [hx] at h
      rcases List.mem_cons.1 h with rfl | h
      · exact atomS_fine hf.1 hx
      · exact atomsL_fine hf.2 a h
    | none =>
      rw [hx] at h
      rcases List.mem_cons.1 h with rfl | h
      · exact .inr rfl
      · exact atomsL_fine hf.2 a h
theorem vl0_fine : VlFine vl0 := .inr rfl
mutual
theorem codeS_fine (p : List Df) : ∀ (e : Ex) (names : Nms) (n : Int) (hi : Int), e.fine hi → e.size ≤ 1000000 → (codeS p names e n).1.fine
  | .mk op name tail ty re im args pos, names, n, hi, hf, hs => by
    have hfa : Ex.fineL hi args := hf.2.2.2.2
    have hsz : (Ex.mk op name tail ty re im args pos).size = 1 + Ex.sizeL args := rfl
    have hla := Ex.sizeL_len args
    have hall := fun (names : Nms) (n : Int) => allS_fine p args names n hi hfa (by omega)
    have hlen := fun (names : Nms) (n : Int) => allS_length p names args n
    have hat := atomsL_fine (names := names) (n := n) hfa
    have hal := atomsL_length names args n
    have hlets := fun (c : Cd) (n : Int) (as : List Atm) (hc : c.fine) => letsS_fine p args names c as n hi hfa (by omega) hc
    have hcase := caseS_fine p args names name tail n hi hfa (by omega)
    have hstr := strictS_fine p args names name n hi hfa (by omega)
    rw [codeS]
    cases hA : atomS names (.mk op name tail ty re im args pos) with
    | some a =>
      have ha := atomS_fine hf hA
      by_cases h0 : 0 ≤ a.slot
      · simp only [h0, if_true]; exact ⟨vl0_fine, (fun _ h => by cases h), by simp, by simp, trivial⟩
      · simp only [h0, if_false]; exact ⟨ha, (fun _ h => by cases h), by simp, by simp, trivial⟩
    | none =>
      simp only
      split
      · exact ⟨vl0_fine, (fun _ h => by cases h), by simp, by simp, trivial⟩
      split
      · exact hlets _ _ _ ⟨vl0_fine, hat, by omega, by simp, trivial⟩
      split
      · exact hlets _ _ _ ⟨vl0_fine, hat, by omega, by simp, trivial⟩
      split
      · exact ⟨vl0_fine, (fun _ h => by cases h), by simp, by rw [hlen]; omega, hall _ _⟩
      split
      · exact hcase
      split
      · exact ⟨vl0_fine, (fun _ h => by cases h), by simp, by rw [hlen]; omega, hall _ _⟩
      split
      · exact hstr
      · exact ⟨vl0_fine, (fun _ h => by cases h), by simp, by rw [hlen]; omega, hall _ _⟩
theorem allS_fine (p : List Df) : ∀ (l : List Ex) (names : Nms) (n : Int) (hi : Int), Ex.fineL hi l → Ex.sizeL l ≤ 1000000 → Cd.fineL (allS p names l n).1
  | [], names, n, hi, _, _ => by simp only [allS]; trivial
  | e :: l, names, n, hi, hf, hs => by
    simp only [Ex.sizeL] at hs
    simp only [allS]
    exact ⟨codeS_fine p e names n hi hf.1 (by omega), allS_fine p l names _ hi hf.2 (by omega)⟩
theorem caseS_fine (p : List Df) : ∀ (l : List Ex) (names : Nms) (name tail : Bytes) (n : Int) (hi : Int), Ex.fineL hi l → Ex.sizeL l ≤ 1000000 → (caseS p names name tail l n).1.fine
  | [a, b, d], names, name, tail, n, hi, hf, hs => by
    simp only [Ex.sizeL] at hs
    simp only [caseS]
    exact ⟨vl0_fine, (fun _ h => by cases h), by simp, by simp, codeS_fine p a names n hi hf.1 (by omega), codeS_fine p b names _ hi hf.2.1 (by omega), codeS_fine p d _ _ hi hf.2.2.1 (by omega), trivial⟩
  | [], _, _, _, n, _, _, _ => by simp only [caseS]; exact ⟨vl0_fine, (fun _ h => by cases h), by simp, by simp, trivial⟩
  | [_], _, _, _, n, _, _, _ => by simp only [caseS]; exact ⟨vl0_fine, (fun _ h => by cases h), by simp, by simp, trivial⟩
  | [_, _], _, _, _, n, _, _, _ => by simp only [caseS]; exact ⟨vl0_fine, (fun _ h => by cases h), by simp, by simp, trivial⟩
  | _ :: _ :: _ :: _ :: _, _, _, _, n, _, _, _ => by simp only [caseS]; exact ⟨vl0_fine, (fun _ h => by cases h), by simp, by simp, trivial⟩
theorem strictS_fine (p : List Df) : ∀ (l : List Ex) (names : Nms) (name : Bytes) (n : Int) (hi : Int), Ex.fineL hi l → Ex.sizeL l ≤ 1000000 → (strictS p names name l n).1.fine
  | [a, b], names, name, n, hi, hf, hs => by
    simp only [Ex.sizeL] at hs
    simp only [strictS]
    exact ⟨vl0_fine, (fun _ h => by cases h), by simp, by simp, codeS_fine p a names n hi hf.1 (by omega), codeS_fine p b _ _ hi hf.2.1 (by omega), trivial⟩
  | [], _, _, n, _, _, _ => by simp only [strictS]; exact ⟨vl0_fine, (fun _ h => by cases h), by simp, by simp, trivial⟩
  | [_], _, _, n, _, _, _ => by simp only [strictS]; exact ⟨vl0_fine, (fun _ h => by cases h), by simp, by simp, trivial⟩
  | _ :: _ :: _ :: _, _, _, n, _, _, _ => by simp only [strictS]; exact ⟨vl0_fine, (fun _ h => by cases h), by simp, by simp, trivial⟩
theorem letsS_fine (p : List Df) : ∀ (l : List Ex) (names : Nms) (c : Cd) (as : List Atm) (n : Int) (hi : Int), Ex.fineL hi l → Ex.sizeL l ≤ 1000000 → c.fine → (letsS p names c l as n).1.fine
  | [], names, c, as, n, hi, _, _, hc => by simp only [letsS]; exact hc
  | e :: l, names, c, [], n, hi, _, _, hc => by simp only [letsS]; exact hc
  | e :: l, names, c, a :: as, n, hi, hf, hs, hc => by
    simp only [Ex.sizeL] at hs
    simp only [letsS]
    split
    · exact letsS_fine p l names c as n hi hf.2 (by omega) hc
    · exact ⟨vl0_fine, (fun _ h => by cases h), by simp, by simp, codeS_fine p e names n hi hf.1 (by omega), letsS_fine p l names c as _ hi hf.2 (by omega) hc, trivial⟩
end
end Go.AM

/- AM: lists that are read only, wherever they lie; codes in memory; when a flat program is right. -/
namespace Go.AM

/-- A list that is read: frozen, or in memory. -/
def LsV (e sz : Nat) (h : Hp) (v : AV) (rows : List (List AV)) : Prop := v = rowsAV rows ∨ v = .fz rows ∨ ∃ id xs, v = .sl id 0 rows.length ∧ h id = .arr e sz (rows ++ xs)
section
variable {e sz : Nat} {h h1 : Hp} {v : AV} {rows : List (List AV)}
theorem LsV.len (a : LsV e sz h v rows) (hh : Hp) : aLen .sl v hh = some (.int .i64 rows.length) := by
  rcases a with rfl | rfl | ⟨id, xs, rfl, _⟩
  · exact aLen_rows rows
  · rfl
  · rfl
theorem LsV.frozen (rows : List (List AV)) : LsV e sz h (rowsAV rows) rows := .inl rfl
theorem LsV.keep (a : LsV e sz h v rows) (hk : ∀ id sz xs, h id = .arr e sz xs → h1 id = .arr e sz xs) : LsV e sz h1 v rows := by
  rcases a with x | x | ⟨id, xs, x, y⟩
  · exact .inl x
  · exact .inr (.inl x)
  · exact .inr (.inr ⟨id, xs, x, hk _ _ _ y⟩)
/-- Reading one. -/
theorem LsV.get (a : LsV e sz h v rows) {i : Nat} {row : List AV} (hi : rows[i]? = some row) (hl : row.length = sz) :
    ∃ p, aIa sz v (.int .i64 (i : Int)) h = some p ∧ aLda sz p h = some (.agg row) ∧ (∀ c, row[0]? = some c → aLdc p h = some c) ∧ ∀ off, off ≤ sz → ∃ q, aFa off p = some q ∧ ∀ c, row[off]? = some c → aLdc q h = some c := by
  have hlt : i < rows.length := (List.getElem?_eq_some_iff.1 hi).1
  have hfz : ∃ p, aIa sz (.fz rows) (.int .i64 (i : Int)) h = some p ∧ aLda sz p h = some (.agg row) ∧ (∀ c, row[0]? = some c → aLdc p h = some c) ∧ ∀ off, off ≤ sz → ∃ q, aFa off p = some q ∧ ∀ c, row[off]? = some c → aLdc q h = some c := by
    refine ⟨.fp row, aIa_fzn sz .i64 i rows row hi hl, ?_, fun c hc => ?_, fun off ho => ⟨.fp (row.drop off), ?_, fun c hc => ?_⟩⟩
    · have : row.take sz = row := List.take_of_length_le (by omega)
      simp [hl, this]
    · simpa using hc
    · simp [hl, ho]
    · simpa using hc
  rcases a with rfl | rfl | ⟨id, xs, rfl, ha⟩
  · cases rows with
    | nil => simp at hlt
    | cons r rs => exact hfz
  · exact hfz
  · have hr : (rows ++ xs)[i]? = some row := by rw [List.getElem?_append_left hlt]; exact hi
    refine ⟨.pe id (0 + (i : Int).toNat) 0, aIa_sl sz .i64 i id 0 _ e _ ha (by omega) (by omega), ?_, fun c hc => ?_, fun off ho => ⟨.pe id (0 + (i : Int).toNat) (0 + off), ?_, fun c hc => ?_⟩⟩
    · have : row.take sz = row := List.take_of_length_le (by omega)
      simp [ha, hr, this]
    · simp [ha, hr, hc]
    · simp
    · simp [ha, hr, hc]
end

/-! ### Codes in memory -/
mutual
def DenC (ea ec : Nat) (h : Hp) : Cd → List AV → Prop
  | .mk op slot slot2 func prim lit atoms args, cs => ∃ va vb rows, cs = [.int .i64 op, .int .i64 slot, .int .i64 slot2, .int .i64 func, .int .i64 prim] ++ lit.cells ++ [va, vb] ∧ LsV ea 5 h va (atoms.map Atm.cells) ∧ LsV ec 11 h vb rows ∧ DenL ea ec h args rows
def DenL (ea ec : Nat) (h : Hp) : List Cd → List (List AV) → Prop
  | [], [] => True
  | c :: l, r :: rs => DenC ea ec h c r ∧ DenL ea ec h l rs
  | _, _ => False
end
section
variable {ea ec : Nat} {h h1 : Hp}
mutual
theorem DenC.frozen : ∀ (c : Cd), DenC ea ec h c c.cells
  | .mk op slot slot2 func prim lit atoms args => ⟨rowsAV (atoms.map Atm.cells), rowsAV (Cd.rows args), Cd.rows args, rfl, .inl rfl, .inl rfl, DenL.frozen args⟩
theorem DenL.frozen : ∀ (l : List Cd), DenL ea ec h l (Cd.rows l)
  | [] => trivial
  | c :: l => ⟨DenC.frozen c, DenL.frozen l⟩
end
theorem DenL.length : ∀ {l : List Cd} {rows : List (List AV)}, DenL ea ec h l rows → rows.length = l.length
  | [], [], _ => rfl
  | c :: l, r :: rs, hd => by simp [DenL.length hd.2]
  | [], r :: rs, hd => hd.elim
  | c :: l, [], hd => hd.elim
theorem DenL.get : ∀ {l : List Cd} {rows : List (List AV)} {i : Nat} {c : Cd}, DenL ea ec h l rows → l[i]? = some c → ∃ r, rows[i]? = some r ∧ DenC ea ec h c r
  | [], _, _, _, _, hc => by simp at hc
  | c :: l, [], _, _, hd, _ => hd.elim
  | c :: l, r :: rs, 0, c', hd, hc => by simp at hc; subst hc; exact ⟨r, rfl, hd.1⟩
  | c :: l, r :: rs, i + 1, c', hd, hc => by
    obtain ⟨r', h1, h2⟩ := DenL.get hd.2 (i := i) (by simpa using hc)
    exact ⟨r', by simpa using h1, h2⟩
theorem DenC.len {c : Cd} {cs : List AV} (hd : DenC ea ec h c cs) : cs.length = 11 := by
  cases c
  obtain ⟨va, vb, rows, rfl, _⟩ := hd
  rfl
mutual
theorem DenC.keep (hk : ∀ id e sz xs, e = ea ∨ e = ec → h id = .arr e sz xs → h1 id = .arr e sz xs) : ∀ {c : Cd} {cs : List AV}, DenC ea ec h c cs → DenC ea ec h1 c cs
  | .mk op slot slot2 func prim lit atoms args, cs, ⟨va, vb, rows, h1, h2, h3, h4⟩ => ⟨va, vb, rows, h1, h2.keep (fun id sz xs hh => hk id _ sz xs (.inl rfl) hh), h3.keep (fun id sz xs hh => hk id _ sz xs (.inr rfl) hh), DenL.keep hk h4⟩
theorem DenL.keep (hk : ∀ id e sz xs, e = ea ∨ e = ec → h id = .arr e sz xs → h1 id = .arr e sz xs) : ∀ {l : List Cd} {rows : List (List AV)}, DenL ea ec h l rows → DenL ea ec h1 l rows
  | [], [], _ => trivial
  | c :: l, r :: rs, hd => ⟨DenC.keep hk hd.1, DenL.keep hk hd.2⟩
  | [], r :: rs, hd => hd.elim
  | c :: l, [], hd => hd.elim
end
end

/-! ### When a flat program is right -/
/-- A number, a bool, the empty list. -/
def litOK (v : Vl) : Bool := (decide (v.ty = 1) && !v.b || decide (v.ty = 2) && decide (v.re = 0 ∧ v.im = 0) || decide (v.ty = 3) && decide (v.re = 0 ∧ v.im = 0) && !v.b)
def usedS (sl : List Int) (at_ : Int) : Bool := decide (0 ≤ at_) && decide (at_ < sl.length) && decide (sl.getD at_.toNat 0 = 1)
def bindC (P : Nat) (sl : List Int) (at_ : Int) : Option (List Int) := if at_ < P ∨ (sl.length : Int) ≤ at_ ∨ sl.getD at_.toNat 0 ≠ 0 then none else some (sl.set at_.toNat 1)
def takesN (op : Int) : Int := if 8 ≤ op ∧ op ≤ 13 then 2 else if op = 14 then 1 else if 15 ≤ op ∧ op ≤ 17 then 1 else 0
def shapeC (ps : List Nat) (sl : List Int) (op slot func prim : Int) (lit : Vl) : Int × Int :=
  if op = 1 then (if litOK lit then (0, 0) else (-1, -1))
  else if op = 2 then (if usedS sl slot then (0, 0) else (-1, -1))
  else if op = 10 then (0, 0)
  else if op = 3 then (if 0 ≤ func ∧ func < ps.length then (0, (ps.getD func.toNat 0 : Nat)) else (-1, -1))
  else if op = 4 then (if 0 < takesN prim then (takesN prim, 0) else (-1, -1))
  else if op = 5 then (0, 2)
  else if op = 6 ∨ op = 7 then (3, 0)
  else if op = 8 ∨ op = 9 then (2, 0)
  else (-1, -1)
def atomOK (sl : List Int) (a : Atm) : Bool := if a.slot = -1 then litOK a.lit else usedS sl a.slot
/-- Slots that are bound ahead of a part. -/
def preC (P : Nat) (op slot slot2 : Int) (i : Nat) (sl : List Int) : Option (List Int) :=
  if (op = 8 ∧ i = 0) ∨ (op = 9 ∧ i = 1) then bindC P sl slot
  else if op = 7 ∧ i = 2 then (bindC P sl slot).bind (fun sl => bindC P sl slot2)
  else some sl
def postC (op slot slot2 : Int) (sl : List Int) : List Int :=
  if op = 7 then (sl.set slot.toNat 2).set slot2.toNat 2 else if op = 8 ∨ op = 9 then sl.set slot.toNat 2 else sl
mutual
def rightC (ps : List Nat) (P : Nat) : Cd → List Int → Option (List Int)
  | .mk op slot slot2 func prim lit atoms args, sl =>
    if ((args.length : Int), (atoms.length : Int)) = shapeC ps sl op slot func prim lit ∧ atoms.all (atomOK sl) = true then
      (rightL ps P op slot slot2 0 args sl).map (postC op slot slot2)
    else none
def rightL (ps : List Nat) (P : Nat) (op slot slot2 : Int) (i : Nat) : List Cd → List Int → Option (List Int)
  | [], sl => some sl
  | c :: l, sl => (preC P op slot slot2 i sl).bind fun sl => (rightC ps P c sl).bind fun sl => rightL ps P op slot slot2 (i + 1) l sl
end
mutual
def bindsC : Cd → Nat
  | .mk op slot slot2 func prim lit atoms args => (if op = 8 ∨ op = 9 then 1 else if op = 7 then 2 else 0) + bindsL args
def bindsL : List Cd → Nat
  | [] => 0
  | c :: l => bindsC c + bindsL l
end
def typeOK (t : Int) : Bool := decide (1 ≤ t ∧ t ≤ 3)
def funcC (ps : List Nat) (s : Sup) : Bool :=
  typeOK s.ty && s.params.all typeOK && decide (s.slots = s.params.length + bindsC s.code) &&
  (rightC ps s.params.length s.code (s.params.map (fun _ => 1) ++ List.replicate (bindsC s.code) 0)).isSome
def checkC (ps : List Nat) (seen : List Bytes) : List Sup → Bool
  | [] => true
  | s :: l => decide (s.name ∉ seen) && funcC ps s && checkC ps (seen ++ [s.name]) l
def coreC (l : List Sup) : Int := if l = [] then 3 else if checkC (l.map fun s => s.params.length) [] l then 0 else 3
end Go.AM

/- AM: laws of when a flat program is right. -/
namespace Go.AM

/-- Numbers of literals are numbers; there are no lists. -/
def LitNum (v : Vl) : Prop := v.ls = [] ∧ numOK v.re v.im
theorem VlFine.num {v : Vl} (h : VlFine v) : LitNum v := by
  rcases h with ⟨h1, h2, _⟩ | rfl
  · exact ⟨h1, h2⟩
  · exact ⟨rfl, numOK_0⟩
mutual
def Cd.nums : Cd → Prop
  | .mk op slot slot2 func prim lit atoms args => LitNum lit ∧ (∀ a ∈ atoms, LitNum a.lit) ∧ atoms.length ≤ 1000000 ∧ args.length ≤ 1000000 ∧ Cd.numsL args
def Cd.numsL : List Cd → Prop
  | [] => True
  | c :: l => c.nums ∧ Cd.numsL l
end
mutual
theorem Cd.fine_nums : ∀ (c : Cd), c.fine → c.nums
  | .mk op slot slot2 func prim lit atoms args, ⟨h1, h2, h3, h4, h5⟩ => ⟨h1.num, fun a ha => (h2 a ha).num, h3, h4, Cd.fineL_nums args h5⟩
theorem Cd.fineL_nums : ∀ (l : List Cd), Cd.fineL l → Cd.numsL l
  | [], _ => trivial
  | c :: l, h => ⟨Cd.fine_nums c h.1, Cd.fineL_nums l h.2⟩
end
theorem bindC_some {P : Nat} {sl sl' : List Int} {at_ : Int} (h : bindC P sl at_ = some sl') : 0 ≤ at_ ∧ at_ < sl.length ∧ sl' = sl.set at_.toNat 1 := by
  simp only [bindC] at h
  split at h
  · cases h
  · rename_i hn
    simp only [not_or] at hn
    cases h
    refine ⟨by omega, by omega, rfl⟩
theorem preC_length {P : Nat} {op slot slot2 : Int} {i : Nat} {sl sl' : List Int} (h : preC P op slot slot2 i sl = some sl') : sl'.length = sl.length := by
  simp only [preC] at h
  split at h
  · obtain ⟨_, _, rfl⟩ := bindC_some h; simp
  split at h
  · cases hb : bindC P sl slot with
    | none => rw [hb] at h; cases h
    | some s1 =>
      rw [hb] at h
      obtain ⟨_, _, rfl⟩ := bindC_some h
      obtain ⟨_, _, rfl⟩ := bindC_some hb
      simp
  · cases h; rfl
theorem postC_length (op slot slot2 : Int) (sl : List Int) : (postC op slot slot2 sl).length = sl.length := by
  simp only [postC]
  split
  · simp
  split <;> simp
mutual
theorem rightC_length {ps : List Nat} {P : Nat} : ∀ {c : Cd} {sl sl' : List Int}, rightC ps P c sl = some sl' → sl'.length = sl.length
  | .mk op slot slot2 func prim lit atoms args, sl, sl', h => by
    rw [rightC] at h
    split at h
    · cases hr : rightL ps P op slot slot2 0 args sl with
      | none => rw [hr] at h; cases h
      | some s1 =>
        rw [hr] at h
        cases h
        rw [postC_length]
        exact rightL_length hr
    · cases h
theorem rightL_length {ps : List Nat} {P : Nat} {op slot slot2 : Int} : ∀ {l : List Cd} {i : Nat} {sl sl' : List Int}, rightL ps P op slot slot2 i l sl = some sl' → sl'.length = sl.length
  | [], i, sl, sl', h => by simp only [rightL] at h; cases h; rfl
  | c :: l, i, sl, sl', h => by
    simp only [rightL] at h
    cases h1 : preC P op slot slot2 i sl with
    | none => rw [h1] at h; cases h
    | some s1 =>
      rw [h1] at h
      simp only [Option.bind_some] at h
      cases h2 : rightC ps P c s1 with
      | none => rw [h2] at h; cases h
      | some s2 =>
        rw [h2] at h
        simp only [Option.bind_some] at h
        rw [rightL_length h, rightC_length h2, preC_length h1]
end
/-- One part more. -/
theorem rightL_cons {ps : List Nat} {P : Nat} {op slot slot2 : Int} {i : Nat} {c : Cd} {l : List Cd} {sl : List Int} : rightL ps P op slot slot2 i (c :: l) sl = (preC P op slot slot2 i sl).bind fun sl => (rightC ps P c sl).bind fun sl => rightL ps P op slot slot2 (i + 1) l sl := by rw [rightL]
theorem rightL_drop {ps : List Nat} {P : Nat} {op slot slot2 : Int} : ∀ {l : List Cd} {i k : Nat} {sl sl' : List Int}, rightL ps P op slot slot2 i l sl = some sl' → k < l.length → ∃ s1 s2, s1.length = sl.length ∧ preC P op slot slot2 (i + k) s1 = some s2
  | [], _, _, _, _, _, h => by simp at h
  | c :: l, i, k, sl, sl', h, hk => by
    rw [rightL_cons] at h
    cases h1 : preC P op slot slot2 i sl with
    | none => rw [h1] at h; cases h
    | some s1 =>
      rw [h1] at h
      simp only [Option.bind_some] at h
      cases k with
      | zero => exact ⟨sl, s1, rfl, h1⟩
      | succ k =>
        cases h2 : rightC ps P c s1 with
        | none => rw [h2] at h; cases h
        | some s2 =>
          rw [h2] at h
          simp only [Option.bind_some] at h
          obtain ⟨a, b, e1, e2⟩ := rightL_drop h (k := k) (by simpa using hk)
          exact ⟨a, b, by rw [e1, rightC_length h2, preC_length h1], by rw [show i + (k + 1) = i + 1 + k by omega]; exact e2⟩
/-- The slots that are let go are there. -/
theorem slots_in {ps : List Nat} {P : Nat} {op slot slot2 func prim : Int} {lit : Vl} {n : Nat} {args : List Cd} {sl sl' sl0 : List Int} (hs : ((args.length : Int), (n : Int)) = shapeC ps sl0 op slot func prim lit) (h : rightL ps P op slot slot2 0 args sl = some sl') (ho : op = 7 ∨ op = 8 ∨ op = 9) :
    0 ≤ slot ∧ slot < sl.length ∧ (op = 7 → 0 ≤ slot2 ∧ slot2 < sl.length) := by
  rcases ho with rfl | rfl | rfl
  · simp [shapeC] at hs
    obtain ⟨s1, s2, e1, e2⟩ := rightL_drop h (k := 2) (by omega)
    simp [preC] at e2
    cases hb : bindC P s1 slot with
    | none => rw [hb] at e2; cases e2
    | some s3 =>
      rw [hb] at e2
      obtain ⟨a1, a2, rfl⟩ := bindC_some hb
      obtain ⟨b1, b2, _⟩ := bindC_some e2
      simp only [List.length_set] at b2
      exact ⟨a1, by omega, fun _ => ⟨b1, by omega⟩⟩
  · simp [shapeC] at hs
    obtain ⟨s1, s2, e1, e2⟩ := rightL_drop h (k := 0) (by omega)
    simp [preC] at e2
    obtain ⟨a1, a2, _⟩ := bindC_some e2
    exact ⟨a1, by omega, fun h => by omega⟩
  · simp [shapeC] at hs
    obtain ⟨s1, s2, e1, e2⟩ := rightL_drop h (k := 1) (by omega)
    simp [preC] at e2
    obtain ⟨a1, a2, _⟩ := bindC_some e2
    exact ⟨a1, by omega, fun h => by omega⟩
end Go.AM

/- AM: what flattening makes is right. -/
namespace Go.AM

/-- The names' slots are in use. -/
def NmIn (sl : List Int) (names : Nms) : Prop := ∀ x ∈ names, 0 ≤ x.2 ∧ sl[x.2.toNat]? = some 1
/-- From n up to m nothing is in use yet. -/
def Zr (sl : List Int) (n m : Int) : Prop := ∀ k : Nat, n ≤ k → (k : Int) < m → sl[k]? = some 0
/-- Nothing else is turned. -/
def Sm (sl sl' : List Int) (n m : Int) : Prop := ∀ k : Nat, ((k : Int) < n ∨ m ≤ k) → sl'[k]? = sl[k]?
theorem Zr.part {sl : List Int} {n m n' m' : Int} (h : Zr sl n m) (h1 : n ≤ n') (h2 : m' ≤ m) : Zr sl n' m' := fun k a b => h k (by omega) (by omega)
theorem Zr.sm {sl sl' : List Int} {n m n' m' : Int} (h : Zr sl n' m') (s : Sm sl sl' n m) (hd : m ≤ n' ∨ m' ≤ n) : Zr sl' n' m' := fun k a b => by
  rw [s k (by omega)]; exact h k a b
theorem Sm.refl (sl : List Int) (n m : Int) : Sm sl sl n m := fun _ _ => rfl
theorem Sm.wide {sl sl' : List Int} {n m n' m' : Int} (s : Sm sl sl' n m) (h1 : n' ≤ n) (h2 : m ≤ m') : Sm sl sl' n' m' := fun k h => s k (by omega)
theorem Sm.trans {sl sl' sl2 : List Int} {n m : Int} (s : Sm sl sl' n m) (t : Sm sl' sl2 n m) : Sm sl sl2 n m := fun k h => (t k h).trans (s k h)
theorem Sm.set {sl sl' : List Int} {n m at_ v : Int} (s : Sm sl sl' n m) (h1 : n ≤ at_) (h2 : at_ < m) (h0 : 0 ≤ at_) : Sm sl (sl'.set at_.toNat v) n m := fun k h => by
  rw [List.getElem?_set_ne (by omega)]; exact s k h
theorem NmIn.sm {sl sl' : List Int} {names : Nms} {n m : Int} (h : NmIn sl names) (s : Sm sl sl' n m) (z : Zr sl n m) : NmIn sl' names := fun x hx => by
  obtain ⟨h1, h2⟩ := h x hx
  refine ⟨h1, ?_⟩
  by_cases hk : ((x.2.toNat : Nat) : Int) < n ∨ m ≤ ((x.2.toNat : Nat) : Int)
  · rw [s _ hk]; exact h2
  · have := z x.2.toNat (by omega) (by omega)
    rw [h2] at this; cases this
theorem NmIn.set {sl : List Int} {names : Nms} {at_ : Int} (h : NmIn sl names) : NmIn (sl.set at_.toNat 1) names := fun x hx => by
  obtain ⟨h1, h2⟩ := h x hx
  refine ⟨h1, ?_⟩
  rw [List.getElem?_set]
  split
  · rename_i e
    rw [if_pos (by rw [e]; exact (List.getElem?_eq_some_iff.1 h2).1)]
  · exact h2
theorem NmIn.bind {sl : List Int} {names : Nms} {nm : Bytes} {n : Int} (h : NmIn sl names) (h0 : 0 ≤ n) (h1 : sl[n.toNat]? = some 1) : NmIn sl (bindN names nm n) := fun x hx => by
  simp only [bindN, List.mem_append, List.mem_singleton] at hx
  rcases hx with hx | rfl
  · exact h x hx
  · exact ⟨h0, h1⟩
theorem usedS_of {sl : List Int} {k : Int} (h0 : 0 ≤ k) (h : sl[k.toNat]? = some 1) : usedS sl k = true := by
  have := (List.getElem?_eq_some_iff.1 h).1
  simp only [usedS, List.getD_eq_getElem?_getD, h]
  simp; omega
theorem bindC_of {sl : List Int} {P : Nat} {k : Int} (h0 : (P : Int) ≤ k) (h : sl[k.toNat]? = some 0) : bindC P sl k = some (sl.set k.toNat 1) := by
  have := (List.getElem?_eq_some_iff.1 h).1
  simp only [bindC, List.getD_eq_getElem?_getD, h]
  rw [if_neg]
  simp; omega
theorem litOK_of {v : Vl} (h : VlGood v) : litOK v = true := by
  obtain ⟨_, _, h⟩ := h
  rcases h with ⟨h1, h2⟩ | ⟨h1, h2, h3⟩ | ⟨h1, h2, h3, h4⟩
  · simp [litOK, h1, h2]
  · simp [litOK, h1, h2, h3]
  · simp [litOK, h1, h2, h3, h4]
theorem lastN_in {sl : List Int} {names : Nms} {n : Bytes} (h : NmIn sl names) (hm : n ∈ names.map Prod.fst) : 0 ≤ (lastN n names).getD 0 ∧ sl[((lastN n names).getD 0).toNat]? = some 1 := by
  obtain ⟨k, e, hk⟩ := lastN_mem hm
  rw [e]; exact h _ hk
theorem atomS_ok {sl : List Int} {names : Nms} {e : Ex} {hi : Int} {a : Atm} (hf : e.fine hi) (hv : varOK (names.map Prod.fst) e) (h : NmIn sl names) (ha : atomS names e = some a) : atomOK sl a = true ∧ (0 ≤ a.slot → sl[a.slot.toNat]? = some 1) ∧ (¬ 0 ≤ a.slot → litOK a.lit = true) := by
  simp only [atomS] at ha
  split at ha
  · rename_i o6
    cases ha
    obtain ⟨h1, h2⟩ := lastN_in h (hv o6)
    refine ⟨?_, fun _ => h2, fun x => absurd h1 x⟩
    simp only [atomOK]
    rw [if_neg (by omega)]
    exact usedS_of h1 h2
  · cases hl : litS e with
    | none => rw [hl] at ha; cases ha
    | some v =>
      rw [hl] at ha; cases ha
      have := litOK_of (litS_good hf hl)
      exact ⟨by simp [atomOK, this], fun x => absurd x (by simp), fun _ => this⟩
/-- Every atom is in use where the names are, and what waits is bound. -/
theorem atomsL_ok {sl : List Int} {names : Nms} {hi : Int} : ∀ {l : List Ex} {n : Int}, 0 ≤ n → Ex.fineL hi l → (∀ a ∈ l, varOK (names.map Prod.fst) a) → NmIn sl names → (∀ k : Nat, n ≤ k → (k : Int) < (atomsL names l n).2 → sl[k]? = some 1) → (atomsL names l n).1.all (atomOK sl) = true
  | [], n, _, _, _, _, _ => by simp [atomsL]
  | e :: l, n, hn, hf, hv, h, hk => by
    simp only [atomsL] at hk ⊢
    have hnx := atomsL_next names l n
    have hnx1 := atomsL_next names l (n + 1)
    cases ha : atomS names e with
    | some a =>
      rw [ha] at hk
      simp only [List.all_cons, Bool.and_eq_true]
      exact ⟨(atomS_ok hf.1 (hv e (by simp)) h ha).1, atomsL_ok hn hf.2 (fun a ha => hv a (by simp [ha])) h hk⟩
    | none =>
      rw [ha] at hk
      simp only [List.all_cons, Bool.and_eq_true]
      refine ⟨?_, atomsL_ok (by omega) hf.2 (fun a ha => hv a (by simp [ha])) h fun k h1 h2 => hk k (by omega) h2⟩
      have := hk n.toNat (by omega) (by simp only; omega)
      simp only [atomOK]
      rw [if_neg (by omega)]
      exact usedS_of hn this
/-- The slots that wait are the next ones. -/
theorem slots_atoms (names : Nms) : ∀ (l : List Ex) (n : Int), (∀ s, s ∈ slotsL names l (atomsL names l n).1 ↔ n ≤ s ∧ s < (atomsL names l n).2) ∧ (slotsL names l (atomsL names l n).1).Nodup
  | [], n => by simp [atomsL, slotsL]
  | e :: l, n => by
    simp only [atomsL]
    cases ha : atomS names e with
    | some a => simp only [slotsL, ha, Option.isSome_some, if_true]; exact slots_atoms names l n
    | none =>
      obtain ⟨h1, h2⟩ := slots_atoms names l (n + 1)
      have hnx := atomsL_next names l (n + 1)
      simp only [slotsL, ha, Option.isSome_none, Bool.false_eq_true, if_false, List.nodup_cons, List.mem_cons]
      refine ⟨fun s => ?_, fun hm => ?_, h2⟩
      · rw [h1 s]; omega
      · have := (h1 n).1 hm; omega
theorem rightC_leaf {ps : List Nat} {P : Nat} {op slot slot2 func prim : Int} {lit : Vl} {atoms : List Atm} {sl : List Int} (hs : ((0 : Int), (atoms.length : Int)) = shapeC ps sl op slot func prim lit) (ha : atoms.all (atomOK sl) = true) (ho : ¬ op = 7 ∧ ¬ op = 8 ∧ ¬ op = 9) :
    rightC ps P (.mk op slot slot2 func prim lit atoms []) sl = some sl := by
  rw [rightC]
  rw [if_pos ⟨by simpa using hs, ha⟩]
  simp [rightL, postC, ho]
section
variable (ps : List Nat) (P : Nat)
/-- A let. -/
theorem rightC_let {slot : Int} {w c : Cd} {sl sl1 sl2 : List Int} (h0 : (P : Int) ≤ slot) (hz : sl[slot.toNat]? = some 0) (hw : rightC ps P w (sl.set slot.toNat 1) = some sl1) (hc : rightC ps P c sl1 = some sl2) :
    rightC ps P (.mk 8 slot 0 0 0 vl0 [] [w, c]) sl = some (sl2.set slot.toNat 2) := by
  rw [rightC]
  rw [if_pos (by simp [shapeC])]
  rw [rightL, preC, if_pos (.inl ⟨rfl, rfl⟩), bindC_of h0 hz]
  simp only [Option.bind_some, hw]
  rw [rightL, preC, if_neg (by decide), if_neg (by decide)]
  simp only [Option.bind_some, hc, rightL, Option.map_some, postC]
  rfl
end
theorem callOK_at {p : List Df} {e : Ex} (h : callOK p e) (ho : e.op = 7) : 0 ≤ headsS e.name p 0 ∧ headsS e.name p 0 < p.length ∧ (p.map fun f => f.params.length).getD (headsS e.name p 0).toNat 0 = e.args.length := by
  obtain ⟨f, h1, h2⟩ := h ho
  rcases headsD e.name p 0 with ⟨_, x⟩ | ⟨k, hk, e1, e2⟩
  · rw [x] at h1; cases h1
  · rw [e2] at h1; cases h1
    rw [Nat.zero_add] at e1
    rw [e1]
    refine ⟨by omega, by omega, ?_⟩
    simp [hk, h2]
theorem lets_right {p : List Df} {P : Nat} {names : Nms} {c : Cd} :
    ∀ (l : List Ex) (as : List Atm) (n : Int) (sl : List Int), as.length = l.length →
    (∀ e ∈ l, ∀ (n : Int) (sl : List Int), (P : Int) ≤ n → NmIn sl names → Zr sl n (codeS p names e n).2 → ∃ sl', rightC (p.map fun f => f.params.length) P (codeS p names e n).1 sl = some sl' ∧ Sm sl sl' n (codeS p names e n).2) →
    (P : Int) ≤ n → NmIn sl names → Zr sl n (letsS p names c l as n).2 → (slotsL names l as).Nodup → (∀ s ∈ slotsL names l as, (P : Int) ≤ s ∧ s < n ∧ sl[s.toNat]? = some 0) →
    (∀ sl2, (∀ k : Nat, (k : Int) ∉ slotsL names l as → ((k : Int) < n ∨ (letsS p names c l as n).2 ≤ k) → sl2[k]? = sl[k]?) → (∀ s ∈ slotsL names l as, sl2[s.toNat]? = some 1) → rightC (p.map fun f => f.params.length) P c sl2 = some sl2) →
    ∃ sl', rightC (p.map fun f => f.params.length) P (letsS p names c l as n).1 sl = some sl' ∧ ∀ k : Nat, (k : Int) ∉ slotsL names l as → ((k : Int) < n ∨ (letsS p names c l as n).2 ≤ k) → sl'[k]? = sl[k]?
  | [], as, n, sl, hl, hw, hP, hn, hz, hd, hs, hc => by
    cases as with
    | nil => simp only [letsS]; exact ⟨sl, hc sl (fun _ _ _ => rfl) (by simp [slotsL]), fun _ _ _ => rfl⟩
    | cons a as => simp at hl
  | e :: l, [], n, sl, hl, _, _, _, _, _, _, _ => by simp at hl
  | e :: l, a :: as, n, sl, hl, hw, hP, hn, hz, hd, hs, hc => by
    have hl' : as.length = l.length := by simpa using hl
    by_cases ha : (atomS names e).isSome = true
    · have e1 : letsS p names c (e :: l) (a :: as) n = letsS p names c l as n := by simp only [letsS, ha, if_true]
      have e2 : slotsL names (e :: l) (a :: as) = slotsL names l as := by simp only [slotsL, ha, if_true]
      rw [e1] at hz hc ⊢
      rw [e2] at hd hs hc ⊢
      exact lets_right l as n sl hl' (fun e he => hw e (by simp [he])) hP hn hz hd hs hc
    · have e1 : letsS p names c (e :: l) (a :: as) n = (.mk 8 a.slot 0 0 0 vl0 [] [(codeS p names e n).1, (letsS p names c l as (codeS p names e n).2).1], (letsS p names c l as (codeS p names e n).2).2) := by simp only [letsS]; rw [if_neg ha]
      have e2 : slotsL names (e :: l) (a :: as) = a.slot :: slotsL names l as := by simp only [slotsL]; rw [if_neg ha]
      rw [e1] at hz hc ⊢
      rw [e2] at hd hs hc ⊢
      simp only at hz hc ⊢
      have h1 := codeS_next p e names n
      have h2 := letsS_next p l names c as (codeS p names e n).2
      obtain ⟨s1, s2, s3⟩ := hs a.slot (by simp)
      rw [List.nodup_cons] at hd
      have hlt := (List.getElem?_eq_some_iff.1 s3).1
      have hset : ∀ k : Nat, ¬ (k : Int) = a.slot → (sl.set a.slot.toNat 1)[k]? = sl[k]? := fun k hk => List.getElem?_set_ne (by omega)
      obtain ⟨sl1, r1, f1⟩ := hw e (by simp) n (sl.set a.slot.toNat 1) hP hn.set (fun k h3 h4 => by rw [hset k (by omega)]; exact hz k h3 (by omega))
      have hself : (sl.set a.slot.toNat 1)[a.slot.toNat]? = some 1 := by rw [List.getElem?_set_self hlt]
      have hself1 : sl1[a.slot.toNat]? = some 1 := by rw [f1 _ (by omega)]; exact hself
      obtain ⟨sl2, r2, f2⟩ := lets_right (p := p) (P := P) (names := names) (c := c) l as (codeS p names e n).2 sl1 hl' (fun e he => hw e (by simp [he])) (by omega) (hn.set.sm f1 (fun k h3 h4 => by rw [hset k (by omega)]; exact hz k h3 (by omega)))
        (fun k h3 h4 => by rw [f1 k (by omega), hset k (by omega)]; exact hz k (by omega) (by omega)) hd.2
        (fun s hm => by
          obtain ⟨t1, t2, t3⟩ := hs s (by simp [hm])
          have hne : ¬ s = a.slot := by rintro rfl; exact hd.1 hm
          refine ⟨t1, by omega, ?_⟩
          rw [f1 _ (by omega), hset _ (by omega)]; exact t3)
        (fun sl2 h3 h4 => hc sl2 (fun k h5 h6 => by
          rw [List.mem_cons, not_or] at h5
          rw [h3 k h5.2 (by omega), f1 k (by omega), hset k h5.1]) (fun s hm => by
          rcases List.mem_cons.1 hm with rfl | hm
          · rw [h3 _ (by rw [Int.toNat_of_nonneg (by omega)]; exact hd.1) (by omega)]; exact hself1
          · exact h4 s hm))
      refine ⟨_, rightC_let _ P s1 s3 r1 r2, fun k h3 h4 => ?_⟩
      rw [List.mem_cons, not_or] at h3
      rw [List.getElem?_set_ne (by omega), f2 k h3.2 (by omega), f1 k (by omega), hset k h3.1]
theorem Sm.of {sl sl' : List Int} {n m : Int} {S : List Int} (hS : ∀ s ∈ S, n ≤ s ∧ s < m) {n1 : Int} (h1 : n ≤ n1) (h : ∀ k : Nat, (k : Int) ∉ S → ((k : Int) < n1 ∨ m ≤ k) → sl'[k]? = sl[k]?) : Sm sl sl' n m := fun k hk => h k (fun x => by have := hS _ x; omega) (by omega)
section
variable (p : List Df) (P : Nat)
/-- One code is right. -/
def Right (names : Nms) (e : Ex) (n : Int) : Prop := ∀ sl : List Int, NmIn sl names → Zr sl n (codeS p names e n).2 → ∃ sl', rightC (p.map fun f => f.params.length) P (codeS p names e n).1 sl = some sl' ∧ Sm sl sl' n (codeS p names e n).2
theorem rightL_all {op slot slot2 : Int} {names : Nms} : ∀ (l : List Ex) (i : Nat) (n : Int) (sl : List Int), (∀ j sl, i ≤ j → j < i + l.length → preC P op slot slot2 j sl = some sl) → (∀ e ∈ l, ∀ n : Int, (P : Int) ≤ n → Right p P names e n) → (P : Int) ≤ n → NmIn sl names → Zr sl n (allS p names l n).2 →
    ∃ sl', (∀ m : List Cd, rightL (p.map fun f => f.params.length) P op slot slot2 i ((allS p names l n).1 ++ m) sl = rightL (p.map fun f => f.params.length) P op slot slot2 (i + l.length) m sl') ∧ Sm sl sl' n (allS p names l n).2
  | [], i, n, sl, _, _, _, _, _ => ⟨sl, by simp [allS], Sm.refl _ _ _⟩
  | e :: l, i, n, sl, hp, hw, hP, hn, hz => by
    simp only [allS] at hz ⊢
    have h1 := codeS_next p e names n
    have h2 := allS_next p l names (codeS p names e n).2
    obtain ⟨sl1, r1, f1⟩ := hw e (by simp) n hP sl hn (hz.part (Int.le_refl _) (by omega))
    obtain ⟨sl2, r2, f2⟩ := rightL_all l (i + 1) (codeS p names e n).2 sl1 (fun j sl h3 h4 => hp j sl (by omega) (by simp; omega)) (fun e he => hw e (by simp [he])) (by omega) (hn.sm f1 (hz.part (Int.le_refl _) (by omega))) ((hz.part (by omega) (Int.le_refl _)).sm f1 (.inl (Int.le_refl _)))
    refine ⟨sl2, fun m => ?_, (f1.wide (Int.le_refl _) (by omega)).trans (f2.wide (by omega) (Int.le_refl _))⟩
    rw [List.cons_append, rightL_cons, hp i sl (Nat.le_refl _) (by simp)]
    simp only [Option.bind_some, r1, r2 m]
    rw [show i + 1 + l.length = i + (e :: l).length by simp; omega]
end
theorem codeS_some1 {p : List Df} {names : Nms} {n : Int} {e : Ex} {a : Atm} (ha : atomS names e = some a) : codeS p names e n = if 0 ≤ a.slot then (.mk 2 a.slot 0 0 0 vl0 [] [], n) else (.mk 1 0 0 0 0 a.lit [] [], n) := by
  cases e
  rw [codeS]
  simp only [ha]
section
variable {p : List Df} {P : Nat} {names : Nms}
theorem call_right {c : Cd} {args : List Ex} {n : Int} {hi : Int} (hP : (P : Int) ≤ n) (hf : Ex.fineL hi args) (hv : ∀ a ∈ args, varOK (names.map Prod.fst) a) (hw : ∀ e ∈ args, ∀ n : Int, (P : Int) ≤ n → Right p P names e n)
    (hc : ∀ sl, (atomsL names args n).1.all (atomOK sl) = true → rightC (p.map fun f => f.params.length) P c sl = some sl) {sl : List Int} (hn : NmIn sl names) (hz : Zr sl n (letsS p names c args (atomsL names args n).1 (atomsL names args n).2).2) :
    ∃ sl', rightC (p.map fun f => f.params.length) P (letsS p names c args (atomsL names args n).1 (atomsL names args n).2).1 sl = some sl' ∧ Sm sl sl' n (letsS p names c args (atomsL names args n).1 (atomsL names args n).2).2 := by
  have hnx := atomsL_next names args n
  obtain ⟨hs, hd⟩ := slots_atoms names args n
  have h2 := letsS_next p args names c (atomsL names args n).1 (atomsL names args n).2
  generalize hm : (letsS p names c args (atomsL names args n).1 (atomsL names args n).2).2 = m at *
  obtain ⟨sl', r, f⟩ := lets_right (p := p) (P := P) (names := names) (c := c) args (atomsL names args n).1 (atomsL names args n).2 sl (atomsL_length names args n) (fun e he n sl h1 h2 h3 => hw e he n h1 sl h2 h3) (by omega) hn (by rw [hm]; exact hz.part (by omega) (Int.le_refl _)) hd
    (fun s hm => by
      have := (hs s).1 hm
      refine ⟨by omega, by omega, hz _ (by omega) (by omega)⟩)
    (fun sl2 h3 h4 => hc sl2 (atomsL_ok (by omega) hf hv (fun x hx => by
        obtain ⟨a1, a2⟩ := hn x hx
        refine ⟨a1, ?_⟩
        have : ¬ (n ≤ x.2 ∧ x.2 < m) := fun hh => by
          have := hz x.2.toNat (by omega) (by omega)
          rw [a2] at this; cases this
        rw [hm] at h3
        rw [h3 _ (fun hh => by have := (hs _).1 hh; omega) (by omega)]
        exact a2)
      (fun k h5 h6 => h4 k ((hs _).2 ⟨h5, h6⟩))))
  rw [hm] at f
  exact ⟨sl', r, Sm.of (S := slotsL names args (atomsL names args n).1) (fun s hm => by have := (hs s).1 hm; omega) (by omega) f⟩
theorem rightC_at {ps : List Nat} {op slot slot2 func prim : Int} {lit : Vl} {atoms : List Atm} {args : List Cd} {sl sl' : List Int} (hs : ((args.length : Int), (atoms.length : Int)) = shapeC ps sl op slot func prim lit) (ha : atoms.all (atomOK sl) = true) (hr : rightL ps P op slot slot2 0 args sl = some sl') :
    rightC ps P (.mk op slot slot2 func prim lit atoms args) sl = some (postC op slot slot2 sl') := by
  rw [rightC, if_pos ⟨hs, ha⟩, hr]; rfl
theorem codes_right : ∀ (k : Nat) (e : Ex) (names : Nms) (n : Int) (hi : Int), e.size ≤ k → e.fine hi → scOK p (names.map Prod.fst) e → (P : Int) ≤ n → Right p P names e n
  | 0, e, _, _, _, hk, _, _, _ => by have := e.size_pos; omega
  | k + 1, e, names, n, hi, hk, hf, hsc, hP => by
    intro sl hn hz
    have hn0 : 0 ≤ n := by omega
    obtain ⟨hv, hcall, hscl⟩ := scOK_eq.1 hsc
    cases ha : atomS names e with
    | some a =>
      obtain ⟨a1, a2, a3⟩ := atomS_ok hf hv hn ha
      rw [codeS_some1 ha]
      by_cases h0 : 0 ≤ a.slot
      · simp only [h0, if_true]
        exact ⟨sl, rightC_leaf (by simp [shapeC, usedS_of h0 (a2 h0)]) rfl (by decide), Sm.refl _ _ _⟩
      · simp only [h0, if_false]
        exact ⟨sl, rightC_leaf (by simp [shapeC, a3 h0]) rfl (by decide), Sm.refl _ _ _⟩
    | none =>
      cases e with
      | mk op name tail ty re im args pos =>
      have hsz : (Ex.mk op name tail ty re im args pos).size = 1 + Ex.sizeL args := rfl
      have hfa : Ex.fineL hi args := hf.2.2.2.2
      have har : arOK op args.length := hf.1
      have hscl' : scL p (names.map Prod.fst) (.mk op name tail ty re im args pos) 0 args := hscl
      have ih : ∀ (e : Ex) (names : Nms) (n : Int), e.size + 1 ≤ (Ex.mk op name tail ty re im args pos).size → e.fine hi → scOK p (names.map Prod.fst) e → (P : Int) ≤ n → Right p P names e n := fun e names n h1 h2 h3 h4 => codes_right k e names n hi (by omega) h2 h3 h4
      have hmem : ∀ a ∈ args, a.size + 1 ≤ (Ex.mk op name tail ty re im args pos).size := fun a ha => by
        have := Ex.size_mem ha; omega
      have hplain : (∀ j, boundS (.mk op name tail ty re im args pos) j = []) → ∀ e ∈ args, ∀ n : Int, (P : Int) ≤ n → Right p P names e n := fun hb e he n hP => ih e names n (hmem e he) (Ex.fineL_mem hfa he) (scL_mem hb hscl' e he) hP
      have hvar : (∀ j, boundS (.mk op name tail ty re im args pos) j = []) → ∀ e ∈ args, varOK (names.map Prod.fst) e := fun hb e he => (scOK_eq.1 (scL_mem hb hscl' e he)).1
      have hlen : (p.map fun f => f.params.length).length = p.length := by simp
      rw [codeS] at hz ⊢
      simp only [ha] at hz ⊢
      by_cases o5 : op = 5
      · simp only [o5, if_true] at hz ⊢
        exact ⟨sl, rightC_leaf (by simp [shapeC]) rfl (by decide), Sm.refl _ _ _⟩
      rw [if_neg o5] at hz ⊢
      by_cases o7 : op = 7
      · subst o7
        have hb : ∀ j, boundS (.mk 7 name tail ty re im args pos) j = [] := fun j => by simp [boundS, Ex.op]
        simp only [if_true] at hz ⊢
        obtain ⟨c1, c2, c3⟩ := callOK_at hcall rfl
        simp only [Ex.name, Ex.args] at c1 c2 c3
        refine call_right hP hfa (hvar hb) (hplain hb) (fun sl hat => ?_) hn hz
        refine rightC_leaf ?_ hat (by decide)
        rw [atomsL_length]
        have hsh : ∀ (ps : List Nat) (f : Int), 0 ≤ f → f < ps.length → shapeC ps sl 3 0 f 0 vl0 = ((0 : Int), ((ps.getD f.toNat 0 : Nat) : Int)) := fun ps f h1 h2 => by simp [shapeC, h1, h2]
        rw [hsh _ _ c1 (by rw [hlen]; exact c2), c3]
      rw [if_neg o7] at hz ⊢
      by_cases o18 : op = 18
      · subst o18
        have hb : ∀ j, boundS (.mk 18 name tail ty re im args pos) j = [] := fun j => by simp [boundS, Ex.op]
        simp only [if_true] at hz ⊢
        refine call_right hP hfa (hvar hb) (hplain hb) (fun sl hat => ?_) hn hz
        refine rightC_leaf ?_ hat (by decide)
        rw [atomsL_length]
        simp [arOK] at har
        simp [shapeC, har]
      rw [if_neg o18] at hz ⊢
      by_cases o19 : op = 19
      · subst o19
        have hb : ∀ j, boundS (.mk 19 name tail ty re im args pos) j = [] := fun j => by simp [boundS, Ex.op]
        simp only [if_true] at hz ⊢
        obtain ⟨sl', r, f⟩ := rightL_all p P (op := 6) (slot := 0) (slot2 := 0) args 0 n sl (fun j sl _ _ => by simp [preC]) (hplain hb) hP hn hz
        have r' := r []
        rw [List.append_nil] at r'
        refine ⟨sl', rightC_at (sl' := sl') ?_ rfl (by rw [r']; rfl), f⟩
        rw [allS_length]
        simp [arOK] at har
        simp [shapeC, har]
      rw [if_neg o19] at hz ⊢
      by_cases o20 : op = 20
      · subst o20
        simp [arOK] at har
        obtain ⟨a, b, d, rfl⟩ : ∃ a b d, args = [a, b, d] := by
          match args, har with
          | [a, b, d], _ => exact ⟨a, b, d, rfl⟩
        have hsz2 : Ex.sizeL [a, b, d] = a.size + (b.size + (d.size + 0)) := rfl
        simp only [if_true, caseS] at hz ⊢
        have b0 : boundS (.mk 20 name tail ty re im [a, b, d] pos) (0 : Nat) = [] := by simp [boundS, Ex.op]
        have b1 : boundS (.mk 20 name tail ty re im [a, b, d] pos) (1 : Nat) = [] := by simp [boundS, Ex.op]
        have b2 : boundS (.mk 20 name tail ty re im [a, b, d] pos) (2 : Nat) = [name, tail] := by simp [boundS, Ex.op, Ex.name, Ex.tail]
        obtain ⟨s0, s1, s2, _⟩ := hscl'
        simp only [Nat.zero_add, b0, b1, b2, List.append_nil] at s0 s1 s2
        have h1 := codeS_next p a names n
        have h2 := codeS_next p b names (codeS p names a n).2
        have i1 := ih a names n (by omega) hfa.1 s0 hP
        have i2 := ih b names (codeS p names a n).2 (by omega) hfa.2.1 s1 (by omega)
        generalize hm1 : (codeS p names a n).2 = m1 at *
        generalize hm2 : (codeS p names b m1).2 = m2 at *
        have i3 := ih d (bindN (bindN names name m2) tail (m2 + 1)) (m2 + 2) (by omega) hfa.2.2.1 (by simpa [bindN] using s2) (by omega)
        have h3 := codeS_next p d (bindN (bindN names name m2) tail (m2 + 1)) (m2 + 2)
        obtain ⟨sl1, r1, f1⟩ := i1 sl hn (by rw [hm1]; exact hz.part (Int.le_refl _) (by omega))
        rw [hm1] at f1
        have z1 : Zr sl n m1 := hz.part (Int.le_refl _) (by omega)
        have n1 := hn.sm f1 z1
        have zz1 : Zr sl1 m1 _ := (hz.part (n' := m1) (by omega) (Int.le_refl _)).sm f1 (.inl (Int.le_refl _))
        obtain ⟨sl2, r2, f2⟩ := i2 sl1 n1 (by rw [hm2]; exact zz1.part (Int.le_refl _) (by omega))
        rw [hm2] at f2
        have n2 := n1.sm f2 (zz1.part (Int.le_refl _) (by omega))
        have zz2 : Zr sl2 m2 _ := (zz1.part (n' := m2) (by omega) (Int.le_refl _)).sm f2 (.inl (Int.le_refl _))
        have q1 : sl2[m2.toNat]? = some 0 := zz2 _ (by omega) (by omega)
        have q2 : sl2[(m2 + 1).toNat]? = some 0 := zz2 _ (by omega) (by omega)
        have l1 := (List.getElem?_eq_some_iff.1 q1).1
        have l2 := (List.getElem?_eq_some_iff.1 q2).1
        have ne12 : ¬ m2.toNat = (m2 + 1).toNat := by omega
        have q3 : (sl2.set m2.toNat 1)[(m2 + 1).toNat]? = some 0 := by rw [List.getElem?_set_ne ne12]; exact q2
        have f3 : Sm sl2 ((sl2.set m2.toNat 1).set (m2 + 1).toNat 1) m2 (m2 + 2) := ((Sm.refl sl2 m2 (m2 + 2)).set (Int.le_refl _) (by omega) (by omega)).set (by omega) (by omega) (by omega)
        have n3 : NmIn ((sl2.set m2.toNat 1).set (m2 + 1).toNat 1) (bindN (bindN names name m2) tail (m2 + 1)) := by
          refine NmIn.bind (NmIn.bind n2.set.set (by omega) ?_) (by omega) ?_
          · rw [List.getElem?_set_ne (by omega), List.getElem?_set_self l1]
          · rw [List.getElem?_set_self (by simpa using l2)]
        obtain ⟨sl3, r3, g3⟩ := i3 _ n3 ((zz2.part (n' := m2 + 2) (by omega) (Int.le_refl _)).sm f3 (.inl (Int.le_refl _)))
        refine ⟨_, rightC_at (sl' := sl3) (by simp [shapeC]) rfl ?_, ?_⟩
        · rw [rightL, show preC P 7 m2 (m2 + 1) 0 sl = some sl by simp [preC]]
          simp only [Option.bind_some, r1]
          rw [rightL, show preC P 7 m2 (m2 + 1) (0 + 1) sl1 = some sl1 by simp [preC]]
          simp only [Option.bind_some, r2]
          rw [rightL, show preC P 7 m2 (m2 + 1) (0 + 1 + 1) sl2 = some ((sl2.set m2.toNat 1).set (m2 + 1).toNat 1) by
            simp only [preC]
            rw [if_neg (by simp), if_pos (by simp), bindC_of (by omega) q1]
            simp only [Option.bind_some]
            rw [bindC_of (by omega) q3]]
          simp only [Option.bind_some, r3, rightL]
        · have e1 : postC 7 m2 (m2 + 1) sl3 = (sl3.set m2.toNat 2).set (m2 + 1).toNat 2 := by simp [postC]
          rw [e1]
          refine Sm.set (Sm.set ?_ (by omega) (by omega) (by omega)) (by omega) (by omega) (by omega)
          exact (f1.wide (Int.le_refl _) (by omega)).trans ((f2.wide (by omega) (by omega)).trans ((f3.wide (by omega) (by omega)).trans (g3.wide (by omega) (Int.le_refl _))))
      rw [if_neg o20] at hz ⊢
      by_cases o21 : op = 21
      · subst o21
        simp [arOK] at har
        obtain ⟨a, b, rfl⟩ : ∃ a b, args = [a, b] := by
          match args, har with
          | [a, b], _ => exact ⟨a, b, rfl⟩
        have hsz2 : Ex.sizeL [a, b] = a.size + (b.size + 0) := rfl
        simp only [if_true, allS] at hz ⊢
        have b0 : boundS (.mk 21 name tail ty re im [a, b] pos) (0 : Nat) = [name] := by simp [boundS, Ex.op, Ex.name]
        have b1 : boundS (.mk 21 name tail ty re im [a, b] pos) (1 : Nat) = [name] := by simp [boundS, Ex.op, Ex.name]
        obtain ⟨s0, s1, _⟩ := hscl'
        simp only [Nat.zero_add, b0, b1] at s0 s1
        have i1 := ih a (bindN names name n) (n + 1) (by omega) hfa.1 (by simpa [bindN] using s0) (by omega)
        have h1 := codeS_next p a (bindN names name n) (n + 1)
        have i2 := ih b (bindN names name n) (codeS p (bindN names name n) a (n + 1)).2 (by omega) hfa.2.1 (by simpa [bindN] using s1) (by omega)
        generalize hm1 : (codeS p (bindN names name n) a (n + 1)).2 = m1 at *
        have h2 := codeS_next p b (bindN names name n) m1
        have q1 : sl[n.toNat]? = some 0 := hz _ (by omega) (by omega)
        have l1 := (List.getElem?_eq_some_iff.1 q1).1
        have f0 : Sm sl (sl.set n.toNat 1) n (n + 1) := (Sm.refl sl n (n + 1)).set (Int.le_refl _) (by omega) (by omega)
        have n0 : NmIn (sl.set n.toNat 1) (bindN names name n) := NmIn.bind hn.set hn0 (List.getElem?_set_self l1)
        have z0 : Zr (sl.set n.toNat 1) (n + 1) _ := (hz.part (n' := n + 1) (by omega) (Int.le_refl _)).sm f0 (.inl (Int.le_refl _))
        obtain ⟨sl1, r1, f1⟩ := i1 _ n0 (by rw [hm1]; exact z0.part (Int.le_refl _) (by omega))
        rw [hm1] at f1
        have n1 := n0.sm f1 (z0.part (Int.le_refl _) (by omega))
        obtain ⟨sl2, r2, f2⟩ := i2 _ n1 ((z0.part (n' := m1) (by omega) (Int.le_refl _)).sm f1 (.inl (Int.le_refl _)))
        refine ⟨_, rightC_let _ P hP q1 r1 r2, ?_⟩
        exact ((f0.wide (Int.le_refl _) (by omega)).trans ((f1.wide (by omega) (by omega)).trans (f2.wide (by omega) (Int.le_refl _)))).set (Int.le_refl _) (by omega) (by omega)
      rw [if_neg o21] at hz ⊢
      by_cases o22 : op = 22
      · subst o22
        simp [arOK] at har
        obtain ⟨a, b, rfl⟩ : ∃ a b, args = [a, b] := by
          match args, har with
          | [a, b], _ => exact ⟨a, b, rfl⟩
        have hsz2 : Ex.sizeL [a, b] = a.size + (b.size + 0) := rfl
        simp only [if_true, strictS] at hz ⊢
        have b0 : boundS (.mk 22 name tail ty re im [a, b] pos) (0 : Nat) = [] := by simp [boundS, Ex.op]
        have b1 : boundS (.mk 22 name tail ty re im [a, b] pos) (1 : Nat) = [name] := by simp [boundS, Ex.op, Ex.name]
        obtain ⟨s0, s1, _⟩ := hscl'
        simp only [Nat.zero_add, b0, b1, List.append_nil] at s0 s1
        have i1 := ih a names n (by omega) hfa.1 s0 hP
        have h1 := codeS_next p a names n
        generalize hm1 : (codeS p names a n).2 = m1 at *
        have i2 := ih b (bindN names name m1) (m1 + 1) (by omega) hfa.2.1 (by simpa [bindN] using s1) (by omega)
        have h2 := codeS_next p b (bindN names name m1) (m1 + 1)
        have z1 : Zr sl n m1 := hz.part (Int.le_refl _) (by omega)
        obtain ⟨sl1, r1, f1⟩ := i1 sl hn (by rw [hm1]; exact z1)
        rw [hm1] at f1
        have n1 := hn.sm f1 z1
        have zz1 : Zr sl1 m1 _ := (hz.part (n' := m1) (by omega) (Int.le_refl _)).sm f1 (.inl (Int.le_refl _))
        have q1 : sl1[m1.toNat]? = some 0 := zz1 _ (by omega) (by omega)
        have l1 := (List.getElem?_eq_some_iff.1 q1).1
        have f2 : Sm sl1 (sl1.set m1.toNat 1) m1 (m1 + 1) := (Sm.refl sl1 m1 (m1 + 1)).set (Int.le_refl _) (by omega) (by omega)
        obtain ⟨sl2, r2, f3⟩ := i2 _ (NmIn.bind n1.set (by omega) (List.getElem?_set_self l1)) ((zz1.part (n' := m1 + 1) (by omega) (Int.le_refl _)).sm f2 (.inl (Int.le_refl _)))
        refine ⟨_, rightC_at (sl' := sl2) (by simp [shapeC]) rfl ?_, ?_⟩
        · rw [rightL, show preC P 9 m1 0 0 sl = some sl by simp [preC]]
          simp only [Option.bind_some, r1]
          rw [rightL, show preC P 9 m1 0 (0 + 1) sl1 = some (sl1.set m1.toNat 1) by simp only [preC]; rw [if_pos (by simp), bindC_of (by omega) q1]]
          simp only [Option.bind_some, r2, rightL]
        · have e1 : postC 9 m1 0 sl2 = sl2.set m1.toNat 2 := by simp [postC]
          rw [e1]
          exact ((f1.wide (Int.le_refl _) (by omega)).trans ((f2.wide (by omega) (by omega)).trans (f3.wide (by omega) (Int.le_refl _)))).set (by omega) (by omega) (by omega)
      rw [if_neg o22] at hz ⊢
      have hb : ∀ j, boundS (.mk op name tail ty re im args pos) j = [] := fun j => by simp [boundS, Ex.op, o20, o21, o22]
      have hat : ¬ (op = 1 ∨ op = 2 ∨ op = 3 ∨ op = 4 ∨ op = 6) := by
        rintro (rfl | rfl | rfl | rfl | rfl) <;> simp [atomS, litS, Ex.op] at ha
      obtain ⟨sl', r, f⟩ := rightL_all p P (op := 4) (slot := 0) (slot2 := 0) args 0 n sl (fun j sl _ _ => by simp [preC]) (hplain hb) hP hn hz
      have r' := r []
      rw [List.append_nil] at r'
      refine ⟨sl', rightC_at (sl' := sl') ?_ rfl (by rw [r']; rfl), f⟩
      rw [allS_length]
      simp only [arOK] at har
      have htk : takesN op = (args.length : Int) ∧ 0 < takesN op := by
        simp only [takesN]
        split
        · omega
        split
        · omega
        split
        · omega
        · omega
      simp only [shapeC]
      simp [htk.2, htk.1]
      have h2 := htk.2; rw [htk.1] at h2
      have h3 : 0 < args.length := by omega
      exact fun e => by rw [e] at h3; simp at h3
end
end Go.AM
