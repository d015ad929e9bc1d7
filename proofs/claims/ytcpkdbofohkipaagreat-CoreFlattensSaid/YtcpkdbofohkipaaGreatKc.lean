/- AM: what the reader of the document's answer does, in plain Lean: marks and the first rules. -/
import Derived.Test.YtcpkdbofohkipaaGreatK4
set_option linter.unusedVariables false
set_option linter.unusedSimpArgs false
namespace Go.AM

abbrev Bytes := List UInt8

/-- A mark. -/
structure Mk where
  kind : Int
  text : Bytes
  re : Nat
  im : Nat
  pos : Int
deriving DecidableEq
def mk0 : Mk := ⟨0, [], 0, 0, 0⟩
def Mk.cells (m : Mk) : List AV := [.int .i64 m.kind, .str m.text, .cplx m.re m.im, .int .i64 m.pos]
@[simp] theorem Mk.cells_length (m : Mk) : m.cells.length = 4 := rfl

/-- How far the reader is. -/
structure St where
  at_ : Nat
  why : Int
  wh : Int
  nest : Int
deriving DecidableEq

def rdCells (ms : List Mk) (s : St) : List AV := [.fz (ms.map Mk.cells), .int .i64 s.at_, .int .i64 s.why, .int .i64 s.wh, .int .i64 32768, .int .i64 32768, .int .i64 32768, .int .i64 32768, .int .i64 s.nest]

def nx (ms : List Mk) (s : St) : Mk := ms.getD s.at_ mk0
def isB (ms : List Mk) (s : St) (t : Bytes) : Bool := decide (s.why = 0) && ((decide ((nx ms s).kind = 1) || decide ((nx ms s).kind = 3)) && decide ((nx ms s).text = t))
def adv (s : St) : St := { s with at_ := s.at_ + 1 }
def failS (ms : List Mk) (s : St) (w : Int) : St := if s.why = 0 then { s with why := w, wh := (nx ms s).pos } else s
def takeS (ms : List Mk) (s : St) (t : Bytes) : St := if isB ms s t then adv s else s
def wantS (ms : List Mk) (s : St) (t : Bytes) : St := if isB ms s t then adv s else failS ms s 21
def nameS (ms : List Mk) (s : St) : Mk × St := if s.why ≠ 0 ∨ (nx ms s).kind ≠ 0 then (mk0, failS ms s 21) else (nx ms s, adv s)
def typS (ms : List Mk) (s : St) : Int × St :=
  if isB ms s [78] then (1, adv s) else if isB ms s [66] then (2, adv s) else if isB ms s [76] then (3, adv s) else (0, failS ms s 21)

/-- What holds of marks. -/
structure Good (ms : List Mk) : Prop where
  le : ms.length ≤ 40000
  pos : 0 < ms.length
  last : ∀ s : St, s.at_ + 1 = ms.length → (nx ms s).kind = 4

theorem nx_some {ms : List Mk} {s : St} (h : s.at_ < ms.length) : ms[s.at_]? = some (nx ms s) := by
  simp [nx, List.getD, h]
@[simp] theorem wrap_i64 {n : Int} (h1 : -9223372036854775808 ≤ n) (h2 : n ≤ 9223372036854775807) : IntKind.i64.wrap n = n := by
  simp [IntKind.wrap, IntKind.bits, IntKind.signed]; omega

@[simp] theorem byteOf_u8 (n : Nat) : byteOf [.int .u8 (n : Int)] = some (UInt8.ofNat n) := by simp [byteOf]
theorem Sub.drop {h : Hp} {id : Nat} {o : AObj} (hd : h id = .dead) : Sub h (hset h id o) := by
  intro j
  by_cases e : j = id
  · exact .inr (e ▸ hd)
  · simp [e]

theorem Sub.put {h h' : Hp} {id : Nat} {o : AObj} (hs : Sub h' h) : Sub (hset h' id o) (hset h id o) := by
  intro j
  by_cases e : j = id
  · simp [e]
  · simpa [e] using hs j
theorem Sub.dropr {h h' : Hp} {id : Nat} {o : AObj} (hs : Sub h' h) (hd : h' id = .dead) : Sub h' (hset h id o) := by
  intro j
  by_cases e : j = id
  · exact .inr (e ▸ hd)
  · simpa [e] using hs j
theorem live_ne {h : Hp} {i j : Nat} {o : AObj} (hi : h i = o) (ho : o ≠ .dead) (hj : h j = .dead) : ¬ i = j := by
  rintro rfl; exact ho (hi.symm.trans hj)
theorem rd_ne {h : Hp} {i j : Nat} {cs : List AV} (hi : h i = .cells cs) (hj : h j = .dead) : ¬ i = j ∧ ¬ j = i := ⟨live_ne hi (by simp) hj, fun e => live_ne hi (by simp) hj e.symm⟩
/-- The next round, as it is met. -/
def AgainH (I : Nat → Tm → Hp → Prop) (n : Nat) (tm : Tm) (h : Hp) (_ : Held I := .mk) : Prop := Again I n tm h
theorem ALoop.start {P : Program} {b : ACode} {Q : AExit → Tm → Hp → Prop} {tm : Tm} {h : Hp} (I : Nat → Tm → Hp → Prop) (n : Nat) (h0 : I n tm h) (hr : ∀ n tm h, I n tm h → AW P b (fun e tm' h' => match e with
    | .normal => AgainH I n tm' h'
    | e => Q e tm' h') tm h) {u1 : Held b} {u2 : Held Q} {u3 : Held tm} : ALoop P b Q tm h u1 u2 u3 := ALoop.intro I n ⟨Sub.refl h, fun _ => .same _⟩ h0 hr
theorem Again.same {I : Nat → Tm → Hp → Prop} {n : Nat} (m : Nat) {tm : Tm} {h : Hp} {u : Held I} (hm : m < n) (hi : I m tm h) : AgainH I n tm h u := ⟨m, hm, tm, h, ⟨Sub.refl h, fun _ => .same _⟩, hi⟩
theorem Again.sub {I : Nat → Tm → Hp → Prop} {n : Nat} (m : Nat) {tm : Tm} {h : Hp} (h' : Hp) {u : Held I} (hm : m < n) (hs : Sub h' h) (hi : I m tm h') : AgainH I n tm h u := ⟨m, hm, tm, h', ⟨hs, fun _ => .same _⟩, hi⟩
end Go.AM

/- AM: what the marks of the document's answer are, in plain Lean: bytes, runs, signs. -/
namespace Go.AM

def digitB (c : UInt8) : Bool := decide ((48 : Int) ≤ c.toNat) && decide ((c.toNat : Int) ≤ 57)
def letterB (c : UInt8) : Bool := (decide ((65 : Int) ≤ c.toNat) && decide ((c.toNat : Int) ≤ 90)) || (decide ((97 : Int) ≤ c.toNat) && decide ((c.toNat : Int) ≤ 122))
def wordB (c : UInt8) : Bool := letterB c || digitB c || decide ((c.toNat : Int) = 95)
def blankB (c : UInt8) : Bool := decide ((c.toNat : Int) = 9) || decide ((c.toNat : Int) = 10) || decide ((c.toNat : Int) = 13) || decide ((c.toNat : Int) = 32)
def byteAt (b : Bytes) (i : Nat) : UInt8 := b.getD i 0
def wRun (b : Bytes) (p : Nat) : Nat := ((b.drop p).takeWhile wordB).length
def oneSign (c : UInt8) : Bool := [40, 41, 44, 58, 59, 61, 43, 45, 42, 47, 60, 124].contains c.toNat
def signN (b : Bytes) (p : Nat) : Nat :=
  if p + 1 < b.length ∧ (((byteAt b p).toNat = 45 ∧ (byteAt b (p + 1)).toNat = 62) ∨ ((byteAt b p).toNat = 61 ∧ (byteAt b (p + 1)).toNat = 61)) then 2
  else if oneSign (byteAt b p) then 1 else 0

theorem byteAt_some {b : Bytes} {i : Nat} (h : i < b.length) : b[i]? = some (byteAt b i) := by
  simp [byteAt, List.getD, h]
@[simp] theorem getElem_byteAt (b : Bytes) (i : Nat) (h : i < b.length) : b[i] = byteAt b i := by
  have := byteAt_some h
  rw [List.getElem?_eq_getElem h] at this
  exact Option.some.inj this
theorem bytesAV_at {b : Bytes} {i : Nat} (h : i < b.length) : (bytesAV b)[i]? = some [.int .u8 ((byteAt b i).toNat : Int)] := by
  simp [bytesAV, byteAt_some h]
@[simp] theorem bytesAV_getElem {b : Bytes} {i : Nat} (h : i < (bytesAV b).length) : (bytesAV b)[i] = [.int .u8 ((byteAt b i).toNat : Int)] := by
  have h' : i < b.length := by simpa [bytesAV] using h
  have := bytesAV_at h'
  rw [List.getElem?_eq_getElem h] at this
  exact Option.some.inj this
@[simp] theorem bytesAV_length (b : Bytes) : (bytesAV b).length = b.length := by simp [bytesAV]
@[simp] theorem bytesAV_all (b : Bytes) : ((bytesAV b).all fun x => x.length == 1) = true := by simp [bytesAV]
theorem bytesAV_take (b : Bytes) (n : Nat) : (bytesAV b).take n = bytesAV (b.take n) := by simp [bytesAV]
theorem bytesAV_drop (b : Bytes) (n : Nat) : (bytesAV b).drop n = bytesAV (b.drop n) := by simp [bytesAV]

theorem tw_in {α : Type} {p : α → Bool} : ∀ {l : List α} {i : Nat}, i < (l.takeWhile p).length → ∃ c, l[i]? = some c ∧ p c = true
  | [], i, h => by simp at h
  | c :: l, i, h => by
    by_cases hp : p c = true
    · rw [List.takeWhile_cons_of_pos hp] at h
      cases i with
      | zero => exact ⟨c, by simp, hp⟩
      | succ i => simpa using tw_in (l := l) (i := i) (by simpa using h)
    · rw [List.takeWhile_cons_of_neg hp] at h
      simp at h
theorem tw_out {α : Type} {p : α → Bool} : ∀ {l : List α} {c : α}, l[(l.takeWhile p).length]? = some c → p c = false
  | [], c, h => by simp at h
  | d :: l, c, h => by
    by_cases hp : p d = true
    · rw [List.takeWhile_cons_of_pos hp] at h
      exact tw_out (l := l) (c := c) (by simpa using h)
    · rw [List.takeWhile_cons_of_neg hp] at h
      simp at h
      simpa [← h] using hp
theorem tw_le {α : Type} {p : α → Bool} (l : List α) : (l.takeWhile p).length ≤ l.length := by
  induction l with
  | nil => simp
  | cons a l ih => rw [List.takeWhile_cons]; split <;> simp; exact ih
theorem wRun_le (b : Bytes) {p : Nat} (hp : p ≤ b.length) : p + wRun b p ≤ b.length := by
  have := tw_le (p := wordB) (b.drop p)
  simp at this
  simp only [wRun]; omega
theorem wRun_in {b : Bytes} {p i : Nat} (h : i < wRun b p) : p + i < b.length ∧ wordB (byteAt b (p + i)) = true := by
  obtain ⟨c, h1, h2⟩ := tw_in h
  rw [List.getElem?_drop] at h1
  have h3 : p + i < b.length := by
    rcases Nat.lt_or_ge (p + i) b.length with h | h
    · exact h
    · rw [List.getElem?_eq_none h] at h1; cases h1
  rw [byteAt_some h3] at h1
  cases h1
  exact ⟨h3, h2⟩
theorem wRun_out {b : Bytes} {p : Nat} (h : p + wRun b p < b.length) : wordB (byteAt b (p + wRun b p)) = false := by
  refine tw_out (l := b.drop p) ?_
  rw [List.getElem?_drop]
  exact byteAt_some h
end Go.AM

/- AM: what the numbers of the document's answer are, in plain Lean. -/
namespace Go.AM

def inS (re im : Int) : (Int × Int) × Int := if re < -16777216 ∨ 16777216 < re ∨ im < -16777216 ∨ 16777216 < im then ((0, 0), 50) else ((re, im), 0)

def digS : Nat → Nat → Bytes
  | 0, _ => []
  | k + 1, n => if 10 ≤ n then digS k (n / 10) ++ [UInt8.ofNat (48 + n % 10)] else [UInt8.ofNat (48 + n % 10)]
theorem digS_len : ∀ (k n : Nat), (digS k n).length ≤ k
  | 0, _ => by simp [digS]
  | k + 1, n => by
    have := digS_len k (n / 10)
    simp only [digS]
    split <;> simp <;> omega
def digI (n : Int) : Bytes := if n < 0 then 45 :: digS 10 n.natAbs else digS 10 n.natAbs
theorem digI_len (n : Int) : (digI n).length ≤ 11 := by
  have := digS_len 10 n.natAbs
  simp only [digI]; split <;> simp <;> omega

def textS (re im : Int) : Bytes :=
  if im = 0 then digI re else if re = 0 then digI im ++ [105] else if 0 < im then ((digI re ++ [43]) ++ digI im) ++ [105] else (digI re ++ digI im) ++ [105]

def numFold (n : Int) (c : UInt8) : Int := if 16777217 < 10 * n + ((c.toNat : Int) - 48) then 16777217 else 10 * n + ((c.toNat : Int) - 48)
theorem numFold_in {n : Int} {c : UInt8} (h : 0 ≤ n) (hc : digitB c = true) : 0 ≤ numFold n c ∧ numFold n c ≤ 16777217 := by
  simp [digitB] at hc
  simp only [numFold]; split <;> omega
theorem fold_in : ∀ (l : Bytes), (∀ c ∈ l, digitB c = true) → ∀ (n : Int), 0 ≤ n → n ≤ 16777217 → 0 ≤ l.foldl numFold n ∧ l.foldl numFold n ≤ 16777217
  | [], _, n, h1, h2 => ⟨h1, h2⟩
  | c :: l, hl, n, h1, h2 => by
    have := numFold_in h1 (hl c (by simp))
    exact fold_in l (fun d hd => hl d (by simp [hd])) _ this.1 this.2

def negAt (s : Bytes) : Nat := if 0 < s.length ∧ ((byteAt s 0).toNat : Int) = 45 then 1 else 0
def digRun (s : Bytes) : Bytes := (s.drop (negAt s)).takeWhile digitB
def wholeS (s : Bytes) : Int × Nat :=
  if (digRun s).length = 0 then (0, 0) else (if negAt s = 1 then 0 - (digRun s).foldl numFold 0 else (digRun s).foldl numFold 0, negAt s + (digRun s).length)
theorem negAt_le (s : Bytes) : negAt s ≤ s.length := by simp only [negAt]; split <;> omega
theorem digRun_le (s : Bytes) : negAt s + (digRun s).length ≤ s.length := by
  have h1 := tw_le (p := digitB) (s.drop (negAt s))
  have h2 := negAt_le s
  simp at h1
  simp only [digRun]; omega
theorem digRun_digits (s : Bytes) : ∀ c ∈ digRun s, digitB c = true := by
  intro c hc
  obtain ⟨i, hi, rfl⟩ := List.getElem_of_mem hc
  obtain ⟨c, h1, h2⟩ := tw_in (l := s.drop (negAt s)) (p := digitB) (i := i) hi
  have h3 : (digRun s)[i]? = some c := by
    have : (digRun s) <+: (s.drop (negAt s)) := List.takeWhile_prefix _
    obtain ⟨t, ht⟩ := this
    rw [← ht, List.getElem?_append_left hi] at h1
    exact h1
  rw [List.getElem?_eq_getElem hi] at h3
  cases h3
  exact h2
theorem digRun_in {s : Bytes} {i : Nat} (h : i < (digRun s).length) : negAt s + i < s.length ∧ digitB (byteAt s (negAt s + i)) = true ∧ (digRun s)[i]? = some (byteAt s (negAt s + i)) := by
  have hl := digRun_le s
  have hlt : negAt s + i < s.length := by omega
  have : (digRun s) <+: (s.drop (negAt s)) := List.takeWhile_prefix _
  obtain ⟨t, ht⟩ := this
  have h1 : (s.drop (negAt s))[i]? = some (byteAt s (negAt s + i)) := by rw [List.getElem?_drop]; exact byteAt_some hlt
  rw [← ht, List.getElem?_append_left h] at h1
  refine ⟨hlt, ?_, h1⟩
  rw [List.getElem?_eq_getElem h] at h1
  have := digRun_digits s _ (List.getElem_mem h)
  rw [← Option.some.inj h1]
  exact this
theorem digRun_out {s : Bytes} (h : negAt s + (digRun s).length < s.length) : digitB (byteAt s (negAt s + (digRun s).length)) = false := by
  refine tw_out (l := s.drop (negAt s)) ?_
  rw [List.getElem?_drop]
  exact byteAt_some h
theorem wholeS_in (s : Bytes) : -16777217 ≤ (wholeS s).1 ∧ (wholeS s).1 ≤ 16777217 ∧ (wholeS s).2 ≤ s.length := by
  have h1 := fold_in (digRun s) (digRun_digits s) 0 (by omega) (by omega)
  have h2 := digRun_le s
  simp only [wholeS]
  split
  · simp
  · dsimp only
    split <;> omega

def restS (s : Bytes) : Bytes := if (byteAt s 0).toNat = 43 then s.drop 1 else s
def numS1 (s : Bytes) : Int × Int :=
  if s.drop (wholeS s).2 = [105] then (0, (wholeS s).1)
  else if s.drop (wholeS s).2 = [] then ((wholeS s).1, 0)
  else ((wholeS s).1, (wholeS (restS (s.drop (wholeS s).2))).1)
def numS (s : Bytes) : (Int × Int) × Int :=
  if (wholeS s).2 = 0 then ((0, 0), 10)
  else if (inS (numS1 s).1 (numS1 s).2).2 ≠ 0 ∨ textS (numS1 s).1 (numS1 s).2 ≠ s then ((0, 0), 10) else (numS1 s, 0)
theorem numS1_in (s : Bytes) : -16777217 ≤ (numS1 s).1 ∧ (numS1 s).1 ≤ 16777217 ∧ -16777217 ≤ (numS1 s).2 ∧ (numS1 s).2 ≤ 16777217 := by
  have h1 := wholeS_in s
  have h2 := wholeS_in (restS (s.drop (wholeS s).2))
  simp only [numS1]
  split
  · simp; omega
  · split
    · simp; omega
    · simp; omega
end Go.AM

/- AM: the marks of the document's answer, in plain Lean. -/
namespace Go.AM

theorem Frz.rows {h h' : Hp} {id e sz : Nat} {xs : List (List AV)} (hh : h id = .arr e sz xs) (hd : h' id = .dead) : Frz h h' (.sl id 0 xs.length) (.fz xs) :=
  .sl id 0 xs.length e sz xs hh (by simp) hd xs rfl
    (fun i x y hx hy => by rw [Nat.zero_add, hy] at hx; cases hx; rfl)
    (fun i x y j c d hx hy hc hd => by rw [Nat.zero_add, hy] at hx; cases hx; rw [hd] at hc; cases hc; exact .same _)
theorem Gives.frz {Q : AV → Hp → Prop} {v v' : AV} {h h' : Hp} (hs : Sub h' h) (hf : Frz h h' v v') (hq : Q v' h') : Gives Q (some v) h := ⟨v, rfl, v', h', hs, hf, hq⟩

theorem Frz.pair {h h' : Hp} {a a' b b' : AV} (h1 : Frz h h' a a') (h2 : Frz h h' b b') : Frz h h' (.tup [a, b]) (.tup [a', b']) :=
  .tup _ _ rfl fun j c d hc hd => by
    match j with
    | 0 => cases hc; cases hd; exact h1
    | 1 => cases hc; cases hd; exact h2
    | j + 2 => simp at hc

def wordsS : List Bytes := [[66], [76], [78], [99, 97, 115, 101], [99, 111, 110, 106], [101, 108, 115, 101], [102, 97, 105, 108], [102, 97, 108, 115, 101], [105, 102], [105, 109], [105, 110], [108, 101, 116], [110, 105, 108], [110, 111, 116], [111, 102], [114, 101], [115, 116, 114, 105, 99, 116], [116, 104, 101, 110], [116, 114, 117, 101]]

/-- The mark at a place; false: there is none. -/
def oneS (b : Bytes) (p : Nat) : Mk × Bool :=
  let n := wRun b p
  let txt := (b.drop p).take n
  if 0 < n ∧ digitB (byteAt b p) = true then
    (⟨2, txt, FloatKind.f64.nearest (numS txt).1.1, FloatKind.f64.nearest (numS txt).1.2, p⟩, decide ((numS txt).2 = 0))
  else if 0 < n ∧ ((byteAt b p).toNat : Int) = 95 then (⟨0, txt, 0, 0, p⟩, false)
  else if 0 < n then (⟨if txt ∈ wordsS then 1 else 0, txt, 0, 0, p⟩, true)
  else (⟨3, (b.drop p).take (signN b p), 0, 0, p⟩, decide (0 < signN b p))

theorem signN_le {b : Bytes} {p : Nat} (hp : p < b.length) : p + signN b p ≤ b.length := by
  simp only [signN]; split
  · omega
  · split <;> omega

/-- A list that grows: nothing yet, or an array of its own. -/
def SlAt (h0 h : Hp) (e sz : Nat) (v : AV) (rows : List (List AV)) : Prop :=
  (rows = [] ∧ v = .nl ∧ h = h0) ∨ (∃ id, h0 id = .dead ∧ v = .sl id 0 rows.length ∧ h = hset h0 id (.arr e sz rows))

theorem SlAt.nil (h0 : Hp) (e sz : Nat) : SlAt h0 h0 e sz .nl [] := .inl ⟨rfl, rfl, rfl⟩
theorem SlAt.len {h0 h : Hp} {e sz : Nat} {v : AV} {rows : List (List AV)} (hs : SlAt h0 h e sz v rows) (h1 : Hp) : aLen .sl v h1 = some (.int .i64 rows.length) := by
  rcases hs with ⟨rfl, rfl, _⟩ | ⟨id, _, rfl, _⟩ <;> rfl
theorem SlAt.keep {h0 h : Hp} {e sz : Nat} {v : AV} {rows : List (List AV)} (hs : SlAt h0 h e sz v rows) {j : Nat} {o : AObj} (hj : h0 j = o) (ho : o ≠ .dead) : h j = o := by
  rcases hs with ⟨_, _, rfl⟩ | ⟨id, hd, _, rfl⟩
  · exact hj
  · have : ¬ j = id := by rintro rfl; exact ho (hj.symm.trans hd)
    simp [this, hj]
theorem SlAt.app {h0 h h1 : Hp} {e sz b : Nat} {v : AV} {rows ys : List (List AV)} {K : AV → Hp → Prop} (hs : SlAt h0 h e sz v rows) (hsub : Sub h h1) (hys : ys ≠ []) (hlen : rows.length + ys.length ≤ 4611686018427387904) (hb : (rows.length + ys.length) * b ≤ 140737488355328)
    (hk : ∀ v' h2 h2', SlAt h0 h2 e sz v' (rows ++ ys) → Sub h2 h2' → (∀ j cs, h1 j = .cells cs → h2' j = .cells cs) → K v' h2') {u : Held K} : AApp e sz b v ys K h1 u := by
  rcases hs with ⟨rfl, rfl, rfl⟩ | ⟨id, hd, rfl, rfl⟩
  · cases ys with
    | nil => exact absurd rfl hys
    | cons y ys =>
      refine ⟨by simpa using hlen, by simpa using hb, fun id hid => hk _ (hset h id (.arr e sz (y :: ys))) _ (.inr ⟨id, hsub.dead hid, rfl, rfl⟩) hsub.put fun j cs hj => ?_⟩
      have : ¬ j = id := by rintro rfl; rw [hid] at hj; cases hj
      simp [this, hj]
  · have h1id : h1 id = .arr e sz rows := by
      rcases hsub id with h | h
      · rw [← h]; simp
      · simp at h
    refine ⟨rfl, ?_⟩
    rw [h1id]
    refine ⟨rfl, rfl, Nat.le_refl _, hlen, hb, fun id' hid' => ?_⟩
    refine hk _ (hset h0 id' (.arr e sz (rows ++ ys))) _ (.inr ⟨id', ?_, by simp, rfl⟩) ?_ ?_
    · have hne : ¬ id' = id := by rintro rfl; rw [h1id] at hid'; cases hid'
      have := hsub.dead hid'
      simpa [hne] using this
    · rw [List.take_length]
      refine Sub.put fun j => ?_
      by_cases ej : j = id
      · exact .inr (by rw [ej]; exact hd)
      · rcases hsub j with h | h
        · simp [ej] at h
          simp [ej, h]
        · simp [ej] at h
          exact .inr h
    · intro j cs hj
      have n1 : ¬ j = id' := by rintro rfl; rw [hid'] at hj; cases hj
      have n2 : ¬ j = id := by rintro rfl; rw [h1id] at hj; cases hj
      simp [n1, n2, hj]
theorem SlAt.sub {h0 h : Hp} {e sz : Nat} {v : AV} {rows : List (List AV)} (hs : SlAt h0 h e sz v rows) : Sub h0 h := by
  rcases hs with ⟨_, _, rfl⟩ | ⟨id, hd, _, rfl⟩
  · exact Sub.refl _
  · exact Sub.drop hd
def rowsAV (rows : List (List AV)) : AV := match rows with | [] => .nl | _ => .fz rows
theorem SlAt.frz {h0 h h1 : Hp} {e sz : Nat} {v : AV} {rows : List (List AV)} (hs : SlAt h0 h e sz v rows) (hr : rows ≠ []) (hsub : Sub h h1) : Frz h1 h0 v (.fz rows) := by
  rcases hs with ⟨rfl, rfl, rfl⟩ | ⟨id, hd, rfl, rfl⟩
  · exact absurd rfl hr
  · have h1id : h1 id = .arr e sz rows := by
      rcases hsub id with h | h
      · rw [← h]; simp
      · simp at h
    exact Frz.rows h1id hd
end Go.AM

/- AM: all marks of a text, in plain Lean. -/
namespace Go.AM

def notNl (c : UInt8) : Bool := !decide ((c.toNat : Int) = 10)
def skipN (b : Bytes) (p : Nat) : Nat := ((b.drop p).takeWhile notNl).length
theorem skipN_le (b : Bytes) {p : Nat} (hp : p ≤ b.length) : p + skipN b p ≤ b.length := by
  have := tw_le (p := notNl) (b.drop p)
  simp at this
  simp only [skipN]; omega
theorem skipN_in {b : Bytes} {p i : Nat} (h : i < skipN b p) : p + i < b.length ∧ notNl (byteAt b (p + i)) = true := by
  obtain ⟨c, h1, h2⟩ := tw_in h
  rw [List.getElem?_drop] at h1
  have h3 : p + i < b.length := by
    rcases Nat.lt_or_ge (p + i) b.length with h | h
    · exact h
    · rw [List.getElem?_eq_none h] at h1; cases h1
  rw [byteAt_some h3] at h1
  cases h1
  exact ⟨h3, h2⟩
theorem skipN_out {b : Bytes} {p : Nat} (h : p + skipN b p < b.length) : notNl (byteAt b (p + skipN b p)) = false := by
  refine tw_out (l := b.drop p) ?_
  rw [List.getElem?_drop]
  exact byteAt_some h
theorem skipN_pos {b : Bytes} {p : Nat} (hp : p < b.length) (h : ((byteAt b p).toNat : Int) = 35) : 0 < skipN b p := by
  rcases Nat.eq_zero_or_pos (skipN b p) with e | e
  · have := skipN_out (b := b) (p := p) (by omega)
    rw [e] at this
    simp [notNl, h] at this
  · exact e

def pre (m : Mk) : List Mk ⊕ Nat → List Mk ⊕ Nat
  | .inl l => .inl (m :: l)
  | .inr q => .inr q
def marksS (b : Bytes) : Nat → Nat → List Mk ⊕ Nat
  | 0, p => .inr p
  | k + 1, p =>
    if p < b.length then
      if blankB (byteAt b p) = true then marksS b k (p + 1)
      else if ((byteAt b p).toNat : Int) = 35 then marksS b k (p + skipN b p)
      else if (oneS b p).2 = true then pre (oneS b p).1 (marksS b k (p + (oneS b p).1.text.length)) else .inr p
    else .inl [⟨4, [], 0, 0, b.length⟩]

theorem oneS_len {b : Bytes} {p : Nat} (hp : p < b.length) (h : (oneS b p).2 = true) : 0 < (oneS b p).1.text.length ∧ p + (oneS b p).1.text.length ≤ b.length := by
  have h1 := wRun_le b (Nat.le_of_lt hp)
  have h2 := signN_le hp
  revert h
  simp only [oneS]
  split
  · rename_i h3; simp; omega
  · split
    · simp
    · split
      · simp; omega
      · simp; omega

/-- The marks so far, and the rest. -/
def joinM (acc : List Mk) : List Mk ⊕ Nat → List Mk ⊕ Nat
  | .inl l => .inl (acc ++ l)
  | .inr q => .inr q
theorem joinM_pre (acc : List Mk) (m : Mk) (r : List Mk ⊕ Nat) : joinM acc (pre m r) = joinM (acc ++ [m]) r := by
  cases r <;> simp [joinM, pre]
theorem joinM_nil (r : List Mk ⊕ Nat) : joinM [] r = r := by cases r <;> rfl

/-- What a call of Marks gives. -/
def marksAV : List Mk ⊕ Nat → AV
  | .inl l => .tup [.fz (l.map Mk.cells), .int .i64 (-1)]
  | .inr q => .tup [.nl, .int .i64 q]
end Go.AM

/- AM: the grammar of the document's answer, in plain Lean. -/
namespace Go.AM

/-- An expression. -/
inductive Ex where
  | mk (op : Int) (name tail : Bytes) (ty : Int) (re im : Nat) (args : List Ex) (pos : Int)
def ex0 : Ex := .mk 0 [] [] 0 0 0 [] 0
mutual
def Ex.cells : Ex → List AV
  | .mk op name tail ty re im args pos => [.int .i64 op, .str name, .str tail, .int .i64 ty, .cplx re im, rowsAV (Ex.rows args), .int .i64 pos]
def Ex.rows : List Ex → List (List AV)
  | [] => []
  | e :: l => e.cells :: Ex.rows l
end
theorem Ex.rows_map : ∀ (l : List Ex), Ex.rows l = l.map Ex.cells
  | [] => rfl
  | e :: l => by rw [Ex.rows, Ex.rows_map l]; rfl
@[simp] theorem Ex.cells_length (e : Ex) : e.cells.length = 7 := by cases e; rfl

def two (op : Int) (a b : Ex) (m : Mk) : Ex := .mk op [] [] 0 0 0 [a, b] m.pos
def wordS (t : Bytes) : Int :=
  if t = [116, 114, 117, 101] then 2 else if t = [102, 97, 108, 115, 101] then 3 else if t = [110, 105, 108] then 4 else if t = [102, 97, 105, 108] then 5
  else if t = [110, 111, 116] then 14 else if t = [114, 101] then 15 else if t = [105, 109] then 16 else if t = [99, 111, 110, 106] then 17 else 0

section
variable (ms : List Mk) (e : St → Ex × St)

def argsS : Nat → List Ex → St → List Ex × St
  | 0, acc, s => (acc, s)
  | n + 1, acc, s => if s.why = 0 ∧ isB ms s [41] = false then
      argsS n (acc ++ [(e (if acc = [] then s else wantS ms s [44])).1]) (e (if acc = [] then s else wantS ms s [44])).2
    else (acc, s)
def namedS (m : Mk) (s : St) : Ex × St :=
  if isB ms s [40] = true then (.mk 7 m.text [] 0 0 0 (argsS ms e (ms.length + 1) [] (adv s)).1 m.pos, wantS ms (argsS ms e (ms.length + 1) [] (adv s)).2 [41])
  else (.mk 6 m.text [] 0 0 0 [] m.pos, s)
def oneArg (op : Int) : Bool := decide (op = 14) || decide (op = 15) || decide (op = 16) || decide (op = 17)
def unitS (s : St) : Ex × St :=
  if s.why ≠ 0 then (ex0, s)
  else if (nx ms s).kind = 2 then (.mk 1 [] [] 0 (nx ms s).re (nx ms s).im [] (nx ms s).pos, adv s)
  else if (nx ms s).kind = 0 then namedS ms e (nx ms s) (adv s)
  else if isB ms s [40] = true then ((e (adv s)).1, wantS ms (e (adv s)).2 [41])
  else if (nx ms s).kind ≠ 1 ∨ wordS (nx ms s).text = 0 then (ex0, failS ms s 21)
  else if wordS (nx ms s).text = 5 then (.mk (wordS (nx ms s).text) [] [] (typS ms (adv s)).1 0 0 [] (nx ms s).pos, (typS ms (adv s)).2)
  else if oneArg (wordS (nx ms s).text) = true then
    (.mk (wordS (nx ms s).text) [] [] 0 0 0 [(e (wantS ms (adv s) [40])).1] (nx ms s).pos, wantS ms (e (wantS ms (adv s) [40])).2 [41])
  else (.mk (wordS (nx ms s).text) [] [] 0 0 0 [] (nx ms s).pos, adv s)
def chainS (sub : St → Ex × St) (o1 o2 : Bytes) (c1 c2 : Int) : Nat → Ex → St → Ex × St
  | 0, a, s => (a, s)
  | n + 1, a, s => if isB ms s o1 = true ∨ isB ms s o2 = true then
      chainS sub o1 o2 c1 c2 n (two (if (nx ms s).text = o2 then c2 else c1) a (sub (adv s)).1 (nx ms s)) (sub (adv s)).2
    else (a, s)
def termS (s : St) : Ex × St := chainS ms (unitS ms e) [42] [47] 10 11 (ms.length + 1) (unitS ms e s).1 (unitS ms e s).2
def sumS (s : St) : Ex × St := chainS ms (termS ms e) [43] [45] 8 9 (ms.length + 1) (termS ms e s).1 (termS ms e s).2
def compS (s : St) : Ex × St :=
  if isB ms (sumS ms e s).2 [61, 61] = true ∨ isB ms (sumS ms e s).2 [60] = true then
    (two (if isB ms (sumS ms e s).2 [60] = true then 13 else 12) (sumS ms e s).1 (sumS ms e (adv (sumS ms e s).2)).1 (nx ms (sumS ms e s).2), (sumS ms e (adv (sumS ms e s).2)).2)
  else sumS ms e s
def consS : Nat → St → Ex × St
  | 0, s => (ex0, s)
  | n + 1, s => if isB ms (compS ms e s).2 [58] = true then
      (two 18 (compS ms e s).1 (consS n (adv (compS ms e s).2)).1 (nx ms (compS ms e s).2), (consS n (adv (compS ms e s).2)).2)
    else compS ms e s
def partsS : St → List Bytes → List Ex × St
  | s, [] => ([], s)
  | s, t :: l => ((e (if t = [] then s else wantS ms s t)).1 :: (partsS (e (if t = [] then s else wantS ms s t)).2 l).1, (partsS (e (if t = [] then s else wantS ms s t)).2 l).2)
def br1 (s : St) : St := wantS ms (wantS ms (wantS ms (e s).2 [111, 102]) [110, 105, 108]) [45, 62]
def br2 (s : St) : St := wantS ms (e (br1 ms e s)).2 [124]
def br3 (s : St) : St := wantS ms (nameS ms (br2 ms e s)).2 [58]
def br4 (s : St) : St := wantS ms (nameS ms (br3 ms e s)).2 [45, 62]
def branchesS (s : St) (pos : Int) : Ex × St :=
  (.mk 20 (nameS ms (br2 ms e s)).1.text (nameS ms (br3 ms e s)).1.text 0 0 0 [(e s).1, (e (br1 ms e s)).1, (e (br4 ms e s)).1] pos, (e (br4 ms e s)).2)
def bindsB (s : St) : Bool := isB ms s [108, 101, 116] || (isB ms s [115, 116, 114, 105, 99, 116] || isB ms s [99, 97, 115, 101])
def letS (s : St) (m : Mk) : Ex × St :=
  (.mk (if m.text = [115, 116, 114, 105, 99, 116] then 22 else 21) (nameS ms s).1.text [] (typS ms (nameS ms s).2).1 0 0 (partsS ms e (typS ms (nameS ms s).2).2 [[61], [105, 110]]).1 m.pos,
    (partsS ms e (typS ms (nameS ms s).2).2 [[61], [105, 110]]).2)
def headS (s : St) (m : Mk) : Ex × St :=
  if m.text = [105, 102] then (.mk 19 [] [] 0 0 0 (partsS ms e s [[], [116, 104, 101, 110], [101, 108, 115, 101]]).1 m.pos, (partsS ms e s [[], [116, 104, 101, 110], [101, 108, 115, 101]]).2)
  else if m.text = [99, 97, 115, 101] then branchesS ms e s m.pos else letS ms e s m
def deeper (s : St) : St := { s with nest := s.nest + 1 }
def higher (s : St) : St := { s with nest := s.nest - 1 }
def exprS (s : St) : Ex × St :=
  if s.why ≠ 0 then (ex0, s)
  else if bindsB ms s = true then
    if 32768 ≤ s.nest then (ex0, failS ms s 23)
    else ((headS ms e (adv (deeper s)) (nx ms s)).1, higher (headS ms e (adv (deeper s)) (nx ms s)).2)
  else if isB ms s [105, 102] = true then headS ms e (adv s) (nx ms s)
  else consS ms e (ms.length + 1) s
end
def pExpr (ms : List Mk) : Nat → St → Ex × St
  | 0, s => (ex0, s)
  | k + 1, s => exprS ms (pExpr ms k) s

theorem adv_at (s : St) : (adv s).at_ = s.at_ + 1 := rfl

/-! ### On -/

/-- Nothing is read back. -/
structure On (ms : List Mk) (s s' : St) : Prop where
  le : s.at_ ≤ s'.at_
  lt : s'.at_ < ms.length
  nest : s'.nest = s.nest
  why : s.why ≠ 0 → s'.why ≠ 0
theorem On.refl {ms : List Mk} {s : St} (h : s.at_ < ms.length) : On ms s s := ⟨Nat.le_refl _, h, rfl, id⟩
theorem On.trans {ms : List Mk} {a b c : St} (h : On ms a b) (k : On ms b c) : On ms a c := ⟨Nat.le_trans h.le k.le, k.lt, k.nest.trans h.nest, fun x => k.why (h.why x)⟩
theorem adv_on {ms : List Mk} (hg : Good ms) {s : St} (h : s.at_ < ms.length) (hk : (nx ms s).kind ≠ 4) : On ms s (adv s) := by
  refine ⟨by simp [adv], ?_, rfl, id⟩
  have := hg.last s
  simp only [adv]
  rcases Nat.lt_or_ge (s.at_ + 1) ms.length with h1 | h1
  · exact h1
  · exact absurd (this (by omega)) hk
theorem isB_kind {ms : List Mk} {s : St} {t : Bytes} (h : isB ms s t = true) : s.why = 0 ∧ (nx ms s).kind ≠ 4 ∧ (nx ms s).text = t := by
  simp [isB] at h
  obtain ⟨h1, h2 | h2, h3⟩ := h
  · exact ⟨h1, by rw [h2]; decide, h3⟩
  · exact ⟨h1, by rw [h2]; decide, h3⟩
theorem isB_on {ms : List Mk} (hg : Good ms) {s : St} {t : Bytes} (h : s.at_ < ms.length) (hb : isB ms s t = true) : On ms s (adv s) := adv_on hg h (isB_kind hb).2.1
theorem fail_on {ms : List Mk} {s : St} {w : Int} (hw : w ≠ 0) (h : s.at_ < ms.length) : On ms s (failS ms s w) := by
  simp only [failS]; split
  · exact ⟨Nat.le_refl _, h, rfl, fun _ => hw⟩
  · exact On.refl h
theorem fail_why {ms : List Mk} {s : St} {w : Int} (hw : w ≠ 0) : (failS ms s w).why ≠ 0 := by
  simp only [failS]; split
  · exact hw
  · assumption
theorem want_on {ms : List Mk} (hg : Good ms) {s : St} {t : Bytes} (h : s.at_ < ms.length) : On ms s (wantS ms s t) := by
  simp only [wantS]; split
  · rename_i hb; exact isB_on hg h hb
  · exact fail_on (by decide) h
theorem want_go {ms : List Mk} {s : St} {t : Bytes} (h : (wantS ms s t).why = 0) : s.at_ < (wantS ms s t).at_ := by
  revert h; simp only [wantS]; split
  · intro _; simp [adv]
  · intro h; exact absurd h (fail_why (by decide))
theorem name_on {ms : List Mk} (hg : Good ms) {s : St} (h : s.at_ < ms.length) : On ms s (nameS ms s).2 := by
  simp only [nameS]; split
  · exact fail_on (by decide) h
  · rename_i hk
    exact adv_on hg h (by intro e; exact hk (.inr (by rw [e]; decide)))
theorem name_go {ms : List Mk} {s : St} (h : (nameS ms s).2.why = 0) : s.at_ < (nameS ms s).2.at_ := by
  revert h; simp only [nameS]; split
  · intro h; exact absurd h (fail_why (by decide))
  · intro _; simp [adv]
theorem typ_on {ms : List Mk} (hg : Good ms) {s : St} (h : s.at_ < ms.length) : On ms s (typS ms s).2 := by
  simp only [typS]
  split
  · rename_i hb; exact isB_on hg h hb
  · split
    · rename_i hb; exact isB_on hg h hb
    · split
      · rename_i hb; exact isB_on hg h hb
      · exact fail_on (by decide) h

/-- What is known of the reading of expressions, as far as k marks are left. -/
def Reads (ms : List Mk) (k : Nat) (e : St → Ex × St) : Prop := ∀ s, s.at_ < ms.length → ms.length ≤ s.at_ + k → On ms s (e s).2 ∧ (s.why = 0 → (e s).2.why = 0 → s.at_ < (e s).2.at_)

section
variable {ms : List Mk} {k : Nat} {e : St → Ex × St}
theorem args_on (hg : Good ms) (he : Reads ms k e) : ∀ (n : Nat) (acc : List Ex) (s : St), s.at_ < ms.length → ms.length ≤ s.at_ + k → On ms s (argsS ms e n acc s).2
  | 0, acc, s, h, _ => On.refl h
  | n + 1, acc, s, h, hk => by
    simp only [argsS]
    split
    · have h1 : On ms s (if acc = [] then s else wantS ms s [44]) := by
        split
        · exact On.refl h
        · exact want_on hg h
      generalize (if acc = [] then s else wantS ms s [44]) = s1 at *
      have h2 := (he s1 h1.lt (by have := h1.le; omega)).1
      exact (h1.trans h2).trans (args_on hg he n _ _ h2.lt (by have := h1.le; have := h2.le; omega))
    · exact On.refl h
theorem named_on (hg : Good ms) (he : Reads ms k e) {m : Mk} {s : St} (h : s.at_ < ms.length) (hk : ms.length ≤ s.at_ + (k + 1)) : On ms s (namedS ms e m s).2 := by
  simp only [namedS]; split
  · rename_i hb
    have h1 := isB_on hg h hb
    have h2 := args_on hg he (ms.length + 1) [] (adv s) h1.lt (by simp [adv]; omega)
    exact (h1.trans h2).trans (want_on hg h2.lt)
  · exact On.refl h
theorem unit_on (hg : Good ms) (he : Reads ms k e) : Reads ms (k + 1) (unitS ms e) := by
  intro s h hk
  simp only [unitS]
  split
  · rename_i hw; exact ⟨On.refl h, fun x => absurd x hw⟩
  rename_i hw
  split
  · rename_i h2; exact ⟨adv_on hg h (by rw [h2]; decide), fun _ _ => by simp [adv]⟩
  split
  · rename_i h2
    have h3 := adv_on hg h (by rw [h2]; decide)
    have h4 := named_on hg he (m := nx ms s) h3.lt (by simp [adv]; omega)
    exact ⟨h3.trans h4, fun _ _ => Nat.lt_of_lt_of_le (by simp [adv]) h4.le⟩
  split
  · rename_i hb
    have h3 := isB_on hg h hb
    have h4 := (he (adv s) h3.lt (by simp [adv]; omega)).1
    have h5 := want_on hg (t := [41]) h4.lt
    exact ⟨(h3.trans h4).trans h5, fun _ _ => Nat.lt_of_lt_of_le (by simp [adv]) (h4.trans h5).le⟩
  split
  · exact ⟨fail_on (by decide) h, fun _ hq => absurd hq (fail_why (by decide))⟩
  rename_i hk1
  have hk2 : (nx ms s).kind ≠ 4 := by
    intro e; exact hk1 (.inl (by rw [e]; decide))
  have h3 := adv_on hg h hk2
  split
  · have h4 := typ_on hg h3.lt
    exact ⟨h3.trans h4, fun _ _ => Nat.lt_of_lt_of_le (by simp [adv]) h4.le⟩
  split
  · have h4 := want_on hg (t := [40]) h3.lt
    have h5 := (he _ h4.lt (by have := h4.le; rw [adv_at] at this; omega)).1
    have h6 := want_on hg (t := [41]) h5.lt
    exact ⟨((h3.trans h4).trans h5).trans h6, fun _ _ => Nat.lt_of_lt_of_le (by simp [adv]) ((h4.trans h5).trans h6).le⟩
  · exact ⟨h3, fun _ _ => by simp [adv]⟩
theorem chain_on (hg : Good ms) {sub : St → Ex × St} (he : Reads ms k sub) {o1 o2 : Bytes} {c1 c2 : Int} : ∀ (n : Nat) (a : Ex) (s : St), s.at_ < ms.length → ms.length ≤ s.at_ + k → On ms s (chainS ms sub o1 o2 c1 c2 n a s).2
  | 0, a, s, h, _ => On.refl h
  | n + 1, a, s, h, hk => by
    simp only [chainS]
    split
    · rename_i hb
      have h1 : On ms s (adv s) := by
        rcases hb with hb | hb <;> exact isB_on hg h hb
      have h2 := (he (adv s) h1.lt (by simp [adv]; omega)).1
      exact (h1.trans h2).trans (chain_on hg he n _ _ h2.lt (by have := h2.le; rw [adv_at] at this; omega))
    · exact On.refl h
theorem chain_reads (hg : Good ms) {sub : St → Ex × St} (he : Reads ms k sub) {o1 o2 : Bytes} {c1 c2 : Int} {n : Nat} : Reads ms k (fun s => chainS ms sub o1 o2 c1 c2 n (sub s).1 (sub s).2) := by
  intro s h hk
  obtain ⟨h1, h2⟩ := he s h hk
  have h3 := chain_on hg he (o1 := o1) (o2 := o2) (c1 := c1) (c2 := c2) n (sub s).1 (sub s).2 h1.lt (by have := h1.le; omega)
  refine ⟨h1.trans h3, fun hw hw' => Nat.lt_of_lt_of_le (h2 hw ?_) h3.le⟩
  exact Decidable.byContradiction fun x => h3.why x hw'
theorem term_on (hg : Good ms) (he : Reads ms k e) : Reads ms (k + 1) (termS ms e) := chain_reads hg (unit_on hg he)
theorem sum_on (hg : Good ms) (he : Reads ms k e) : Reads ms (k + 1) (sumS ms e) := chain_reads hg (term_on hg he)
theorem comp_on (hg : Good ms) (he : Reads ms k e) : Reads ms (k + 1) (compS ms e) := by
  intro s h hk
  obtain ⟨h1, h2⟩ := sum_on hg he s h hk
  simp only [compS]
  split
  · rename_i hb
    have h3 : On ms (sumS ms e s).2 (adv (sumS ms e s).2) := by
      rcases hb with hb | hb <;> exact isB_on hg h1.lt hb
    have h4 := (sum_on hg he _ h3.lt (by have := h3.le; have := h1.le; omega)).1
    exact ⟨(h1.trans h3).trans h4, fun _ _ => Nat.lt_of_le_of_lt h1.le (Nat.lt_of_lt_of_le (by simp [adv]) h4.le)⟩
  · exact ⟨h1, h2⟩
theorem cons_on (hg : Good ms) (he : Reads ms k e) : ∀ (n : Nat) (s : St), s.at_ < ms.length → ms.length ≤ s.at_ + (k + 1) → ms.length < s.at_ + n → On ms s (consS ms e n s).2 ∧ (s.why = 0 → (consS ms e n s).2.why = 0 → s.at_ < (consS ms e n s).2.at_)
  | 0, s, h, _, hn => by omega
  | n + 1, s, h, hk, hn => by
    obtain ⟨h1, h2⟩ := comp_on hg he s h hk
    simp only [consS]
    split
    · rename_i hb
      have h3 := isB_on hg h1.lt hb
      have h5 : s.at_ < (adv (compS ms e s).2).at_ := Nat.lt_of_le_of_lt h1.le (by simp [adv])
      have h4 := (cons_on hg he n (adv (compS ms e s).2) h3.lt (by omega) (by omega)).1
      exact ⟨(h1.trans h3).trans h4, fun _ _ => Nat.lt_of_lt_of_le h5 h4.le⟩
    · exact ⟨h1, h2⟩
theorem parts_on (hg : Good ms) (he : Reads ms k e) : ∀ (l : List Bytes) (s : St), s.at_ < ms.length → ms.length ≤ s.at_ + k → On ms s (partsS ms e s l).2
  | [], s, h, _ => On.refl h
  | t :: l, s, h, hk => by
    simp only [partsS]
    have h1 : On ms s (if t = [] then s else wantS ms s t) := by
      split
      · exact On.refl h
      · exact want_on hg h
    generalize (if t = [] then s else wantS ms s t) = s1 at *
    have h2 := (he s1 h1.lt (by have := h1.le; omega)).1
    exact (h1.trans h2).trans (parts_on hg he l _ h2.lt (by have := (h1.trans h2).le; omega))
theorem br1_on (hg : Good ms) (he : Reads ms k e) {s : St} (h : s.at_ < ms.length) (hk : ms.length ≤ s.at_ + k) : On ms s (br1 ms e s) := by
  have h1 := (he s h hk).1
  have h2 := want_on hg (t := [111, 102]) h1.lt
  have h3 := want_on hg (t := [110, 105, 108]) h2.lt
  exact ((h1.trans h2).trans h3).trans (want_on hg h3.lt)
theorem br2_on (hg : Good ms) (he : Reads ms k e) {s : St} (h : s.at_ < ms.length) (hk : ms.length ≤ s.at_ + k) : On ms s (br2 ms e s) := by
  have h1 := br1_on hg he h hk
  have h2 := (he _ h1.lt (by have := h1.le; omega)).1
  exact (h1.trans h2).trans (want_on hg h2.lt)
theorem br3_on (hg : Good ms) (he : Reads ms k e) {s : St} (h : s.at_ < ms.length) (hk : ms.length ≤ s.at_ + k) : On ms s (br3 ms e s) := by
  have h1 := br2_on hg he h hk
  have h2 := name_on hg h1.lt
  exact (h1.trans h2).trans (want_on hg h2.lt)
theorem br4_on (hg : Good ms) (he : Reads ms k e) {s : St} (h : s.at_ < ms.length) (hk : ms.length ≤ s.at_ + k) : On ms s (br4 ms e s) := by
  have h1 := br3_on hg he h hk
  have h2 := name_on hg h1.lt
  exact (h1.trans h2).trans (want_on hg h2.lt)
theorem branches_on (hg : Good ms) (he : Reads ms k e) {s : St} {pos : Int} (h : s.at_ < ms.length) (hk : ms.length ≤ s.at_ + k) : On ms s (branchesS ms e s pos).2 := by
  have h1 := br4_on hg he h hk
  exact h1.trans (he _ h1.lt (by have := h1.le; omega)).1
theorem let_on (hg : Good ms) (he : Reads ms k e) {s : St} {m : Mk} (h : s.at_ < ms.length) (hk : ms.length ≤ s.at_ + k) : On ms s (letS ms e s m).2 := by
  have h1 := name_on hg h
  have h2 := typ_on hg h1.lt
  have h3 := h1.trans h2
  exact h3.trans (parts_on hg he _ _ h3.lt (by have := h3.le; omega))
theorem head_on (hg : Good ms) (he : Reads ms k e) {s : St} {m : Mk} (h : s.at_ < ms.length) (hk : ms.length ≤ s.at_ + k) : On ms s (headS ms e s m).2 := by
  simp only [headS]
  split
  · exact parts_on hg he _ _ h hk
  · split
    · exact branches_on hg he h hk
    · exact let_on hg he h hk
theorem binds_kind {s : St} (hb : bindsB ms s = true) : s.why = 0 ∧ (nx ms s).kind ≠ 4 := by
  simp only [bindsB, Bool.or_eq_true] at hb
  rcases hb with h | h | h
  · exact ⟨(isB_kind h).1, (isB_kind h).2.1⟩
  · exact ⟨(isB_kind h).1, (isB_kind h).2.1⟩
  · exact ⟨(isB_kind h).1, (isB_kind h).2.1⟩
theorem expr_on (hg : Good ms) (he : Reads ms k e) : Reads ms (k + 1) (exprS ms e) := by
  intro s h hk
  simp only [exprS]
  split
  · rename_i hw; exact ⟨On.refl h, fun x => absurd x hw⟩
  split
  · rename_i hb
    split
    · exact ⟨fail_on (by decide) h, fun _ hq => absurd hq (fail_why (by decide))⟩
    · have h0 := adv_on hg h (binds_kind hb).2
      have h1 : (adv (deeper s)).at_ < ms.length := h0.lt
      have h2 := head_on hg he (m := nx ms s) h1 (by simp [adv, deeper]; omega)
      refine ⟨⟨Nat.le_trans h0.le h2.le, h2.lt, ?_, fun x => h2.why x⟩, fun _ _ => Nat.lt_of_lt_of_le (by simp [adv, deeper]) h2.le⟩
      have := h2.nest
      show (headS ms e (adv (deeper s)) (nx ms s)).2.nest - 1 = s.nest
      rw [this]
      simp [adv, deeper]
  split
  · rename_i hb
    have h1 := isB_on hg h hb
    have h2 := head_on hg he (m := nx ms s) h1.lt (by simp [adv]; omega)
    exact ⟨h1.trans h2, fun _ _ => Nat.lt_of_lt_of_le (by simp [adv]) h2.le⟩
  · exact cons_on hg he _ s h hk (by omega)
theorem pExpr_on (hg : Good ms) : ∀ (k : Nat), Reads ms k (pExpr ms k)
  | 0 => fun s h hk => by omega
  | k + 1 => expr_on hg (pExpr_on hg k)
end
end Go.AM

/- AM: contracts of the grammar's rules: what is passed on. -/
namespace Go.AM

@[simp] theorem Ex.take7 (e : Ex) : e.cells.take 7 = e.cells := List.take_of_length_le (by simp)
@[simp] theorem Ex.drop7 (e : Ex) (l : List AV) : (e.cells ++ l).drop 7 = l := by rw [List.drop_append_of_le_length (by simp), List.drop_eq_nil_of_le (by simp)]; rfl
@[simp] theorem Ex.take7a (e : Ex) (l : List AV) : (e.cells ++ l).take 7 = e.cells := by rw [List.take_append_of_le_length (by simp)]; simp
@[simp] theorem Mk.take4 (m : Mk) : m.cells.take 4 = m.cells := rfl
@[simp] theorem Mk.drop4 (m : Mk) : m.cells.drop 4 = [] := rfl
@[simp] theorem Ex.drop7' (e : Ex) : e.cells.drop 7 = [] := List.drop_eq_nil_of_le (by simp)
@[simp] theorem Mk.cell0 (m : Mk) : m.cells[0]? = some (.int .i64 m.kind) := rfl
@[simp] theorem Mk.cell1 (m : Mk) : m.cells[1]? = some (.str m.text) := rfl
@[simp] theorem Mk.cell2 (m : Mk) : m.cells[2]? = some (.cplx m.re m.im) := rfl
@[simp] theorem Mk.cell3 (m : Mk) : m.cells[3]? = some (.int .i64 m.pos) := rfl

@[simp] theorem rowsAV_flat (l : List (List AV)) : (rowsAV l).flat = true := by cases l <;> rfl
@[simp] theorem rowsAV_cells (l : List (List AV)) : (rowsAV l).cells = [rowsAV l] := by cases l <;> rfl

/-- Cells that are the same but for one that is frozen. -/
theorem Frz.cell {h h' : Hp} {a b : List AV} {c d : AV} (hc : Frz h h' c d) : Frz h h' (.agg (a ++ c :: b)) (.agg (a ++ d :: b)) :=
  .agg _ _ (by simp) fun j x y hx hy => by
    rcases Nat.lt_trichotomy j a.length with e | e | e
    · rw [List.getElem?_append_left e] at hx hy
      rw [hx] at hy; cases hy; exact .same _
    · subst e
      simp at hx hy
      rw [← hx, ← hy]; exact hc
    · rw [List.getElem?_append_right (by omega)] at hx hy
      obtain ⟨i, hi⟩ : ∃ i, j - a.length = i + 1 := ⟨j - a.length - 1, by omega⟩
      rw [hi] at hx hy
      simp at hx hy
      rw [hx] at hy; cases hy; exact .same _

/-! ### What a function does to memory: its own objects, and one that it was handed -/

def Fr (h h' : Hp) (rid : Nat) : Prop := ∀ j, j ≠ rid → h j = .dead ∨ h' j = h j
def Own (h h' : Hp) (e sz : Nat) (v : AV) (rows : List (List AV)) : Prop := (rows = [] ∧ v = .nl) ∨ ∃ id, rows ≠ [] ∧ h id = .dead ∧ v = .sl id 0 rows.length ∧ h' id = .arr e sz rows

section
variable {h h' h1 : Hp} {rid e sz : Nat} {v : AV} {rows : List (List AV)}
theorem Fr.refl : Fr h h rid := fun _ _ => .inr rfl
theorem Fr.set (hf : Fr h h1 rid) {j : Nat} {o : AObj} (hj : h j = .dead) : Fr h (hset h1 j o) rid := fun i hi => by
  by_cases e : i = j
  · exact .inl (e ▸ hj)
  · simpa [e] using hf i hi
theorem Fr.own (hf : Fr h h1 rid) {o : AObj} : Fr h (hset h1 rid o) rid := fun i hi => by
  simpa [hi] using hf i hi
theorem Fr.dead (hf : Fr h h1 rid) {cs : List AV} (hr : h1 rid = .cells cs) {id : Nat} (hd : h1 id = .dead) : h id = .dead := by
  have hne : id ≠ rid := by rintro rfl; rw [hd] at hr; cases hr
  rcases hf id hne with x | x
  · exact x
  · rw [← x]; exact hd
theorem Fr.sub (hf : Fr h h1 rid) {o : AObj} (hr : h1 rid = o) : Sub (hset h rid o) h1 := fun j => by
  by_cases e : j = rid
  · subst e; exact .inl (by simp [hr])
  · rcases hf j e with x | x
    · exact .inr (by simpa [e] using x)
    · exact .inl (by simp [e, x])
theorem Fr.kill {i : Nat} : Fr (hset h i .dead) h rid := fun j _ => by
  by_cases e : j = i
  · exact .inl (by simp [e])
  · exact .inr (by simp [e])
theorem Fr.sub3 {i a : Nat} {X Y Z : AObj} (hf : Fr (hset h i .dead) h1 rid) (hr : h1 rid = X) (ha : h1 a = Y) (hi : h1 i = Z) : Sub (hset (hset (hset h rid X) a Y) i Z) h1 := fun j => by
  by_cases e1 : j = i
  · subst e1; exact .inl (by simp [hi])
  by_cases e2 : j = a
  · subst e2; exact .inl (by simp [e1, ha])
  by_cases e3 : j = rid
  · subst e3; exact .inl (by simp [e1, e2, hr])
  rcases hf j e3 with x | x
  · exact .inr (by simpa [e1, e2, e3] using x)
  · exact .inl (by simpa [e1, e2, e3] using x.symm)
theorem Own.nil : Own h h' e sz .nl [] := .inl ⟨rfl, rfl⟩
theorem Own.len (ho : Own h h' e sz v rows) (h1 : Hp) : aLen .sl v h1 = some (.int .i64 rows.length) := by
  rcases ho with ⟨rfl, rfl⟩ | ⟨id, _, _, rfl, _⟩ <;> rfl
theorem Own.flat (ho : Own h h' e sz v rows) : v.flat = true ∧ v.cells = [v] := by
  rcases ho with ⟨rfl, rfl⟩ | ⟨id, _, _, rfl, _⟩ <;> exact ⟨rfl, rfl⟩
theorem Own.set (ho : Own h h1 e sz v rows) {j : Nat} {o : AObj} (hj : ∀ e sz xs, h1 j ≠ .arr e sz xs) : Own h (hset h1 j o) e sz v rows := by
  rcases ho with x | ⟨id, hn, hd, hv, ha⟩
  · exact .inl x
  · refine .inr ⟨id, hn, hd, hv, ?_⟩
    have : ¬ id = j := by rintro rfl; exact hj _ _ _ ha
    simp [this, ha]
theorem Own.setc (ho : Own h h1 e sz v rows) {j : Nat} {o : AObj} {cs : List AV} (hj : h1 j = .cells cs) : Own h (hset h1 j o) e sz v rows := ho.set (by simp [hj])
theorem Own.setd (ho : Own h h1 e sz v rows) {j : Nat} {o : AObj} (hj : h1 j = .dead) : Own h (hset h1 j o) e sz v rows := ho.set (by simp [hj])
theorem Own.app {b : Nat} {ys : List (List AV)} {K : AV → Hp → Prop} (ho : Own h h1 e sz v rows) (hf : Fr h h1 rid) {x : List AV} (hr : h1 rid = .cells x) (hys : ys ≠ []) (hlen : rows.length + ys.length ≤ 4611686018427387904) (hb : (rows.length + ys.length) * b ≤ 140737488355328)
    (hk : ∀ v' h2, Own h h2 e sz v' (rows ++ ys) → Fr h h2 rid → (∀ j cs, h1 j = .cells cs → h2 j = .cells cs) → K v' h2) {u : Held K} : AApp e sz b v ys K h1 u := by
  rcases ho with ⟨rfl, rfl⟩ | ⟨id, hn, hd, rfl, ha⟩
  · cases ys with
    | nil => exact absurd rfl hys
    | cons y ys =>
      refine ⟨by simpa using hlen, by simpa using hb, fun id hid => hk _ _ (.inr ⟨id, by simp, hf.dead hr hid, rfl, by simp⟩) (hf.set (hf.dead hr hid)) fun j cs hj => ?_⟩
      have : ¬ j = id := by rintro rfl; rw [hid] at hj; cases hj
      simp [this, hj]
  · refine ⟨rfl, ?_⟩
    rw [ha]
    refine ⟨rfl, rfl, Nat.le_refl _, hlen, hb, fun id' hid' => ?_⟩
    rw [List.take_length]
    refine hk _ _ (.inr ⟨id', by simp [hys], hf.dead hr hid', by simp, by simp⟩) ((hf.set hd).set (hf.dead hr hid')) ?_
    intro j cs hj
    have n1 : ¬ j = id' := by rintro rfl; rw [hid'] at hj; cases hj
    have n2 : ¬ j = id := by rintro rfl; rw [ha] at hj; cases hj
    simp [n1, n2, hj]
theorem Own.frz (ho : Own h h1 e sz v rows) {x : List AV} {o : AObj} (hr : h1 rid = .cells x) : Frz h1 (hset h rid o) v (rowsAV rows) := by
  rcases ho with ⟨rfl, rfl⟩ | ⟨id, hn, hd, rfl, ha⟩
  · exact .same _
  · have hne : ¬ id = rid := by rintro rfl; rw [ha] at hr; cases hr
    cases rows with
    | nil => exact absurd rfl hn
    | cons r rows => exact Frz.rows ha (by simpa [hne] using hd)
end

/-- A contract of a reading function. -/
def Ctr (P : Program) (f : FuncId) (ms : List Mk) (k : Nat) (e : St → Ex × St) : Prop := ∀ {rid : Nat} {s : St} {h : Hp} {K : AV → Hp → Prop}, s.at_ < ms.length → ms.length ≤ s.at_ + k → (0 ≤ s.nest ∧ s.nest ≤ 32768) → h rid = .cells (rdCells ms s) → K (.agg (e s).1.cells) (hset h rid (.cells (rdCells ms (e s).2))) → ACalls P f [.ptr rid 0] h K
end Go.AM

/- AM: definitions and programs of the document's answer, in plain Lean. -/
namespace Go.AM

/-- A parameter. -/
structure Pm where
  name : Bytes
  ty : Int
  pos : Int
def Pm.cells (p : Pm) : List AV := [.str p.name, .int .i64 p.ty, .int .i64 p.pos]
@[simp] theorem Pm.cells_length (p : Pm) : p.cells.length = 3 := rfl
/-- A definition. -/
structure Df where
  name : Bytes
  params : List Pm
  ty : Int
  body : Ex
  pos : Int
def Df.cells (f : Df) : List AV := .str f.name :: rowsAV (f.params.map Pm.cells) :: .int .i64 f.ty :: (f.body.cells ++ [.int .i64 f.pos])
@[simp] theorem Df.cells_length (f : Df) : f.cells.length = 11 := by simp [Df.cells]

section
variable (ms : List Mk)
def parS (n : Nat) (s : St) : St := if s.why = 0 ∧ (nx ms s).kind = 0 ∧ 32768 ≤ n then failS ms s 22 else s
def par1 (acc : List Pm) (s : St) : St := parS ms acc.length (if acc = [] then s else wantS ms s [44])
def parP (acc : List Pm) (s : St) : Pm := ⟨(nameS ms (par1 ms acc s)).1.text, (typS ms (nameS ms (par1 ms acc s)).2).1, (nameS ms (par1 ms acc s)).1.pos⟩
def parT (acc : List Pm) (s : St) : St := (typS ms (nameS ms (par1 ms acc s)).2).2
def paramsS : Nat → List Pm → St → List Pm × St
  | 0, acc, s => (acc, s)
  | n + 1, acc, s => if s.why = 0 ∧ isB ms s [41] = false then paramsS n (acc ++ [parP ms acc s]) (parT ms acc s) else (acc, s)
def df1 (n : Nat) (s : St) : St := if (nx ms s).kind = 0 ∧ 32768 ≤ n then failS ms s 22 else s
def df2 (n : Nat) (s : St) : List Pm × St := paramsS ms (ms.length + 1) [] (wantS ms (nameS ms (df1 ms n s)).2 [40])
def df3 (n : Nat) (s : St) : St := wantS ms (wantS ms (df2 ms n s).2 [41]) [58]
def df4 (n : Nat) (s : St) : St := wantS ms (typS ms (df3 ms n s)).2 [61]
def defS (n : Nat) (s : St) : Df × St :=
  (⟨(nameS ms (df1 ms n s)).1.text, (df2 ms n s).1, (typS ms (df3 ms n s)).1, (pExpr ms ms.length (df4 ms n s)).1, (nameS ms (df1 ms n s)).1.pos⟩, wantS ms (pExpr ms ms.length (df4 ms n s)).2 [59])
def programS : Nat → List Df → St → List Df × St
  | 0, acc, s => (acc, s)
  | n + 1, acc, s => if s.why = 0 ∧ (acc = [] ∨ (nx ms s).kind ≠ 4) then programS n (acc ++ [(defS ms acc.length s).1]) (defS ms acc.length s).2 else (acc, s)
end

section
variable {ms : List Mk}
theorem parS_on {n : Nat} {s : St} (h : s.at_ < ms.length) : On ms s (parS ms n s) := by
  simp only [parS]; split
  · exact fail_on (by decide) h
  · exact On.refl h
theorem par1_on (hg : Good ms) {acc : List Pm} {s : St} (h : s.at_ < ms.length) : On ms s (par1 ms acc s) := by
  simp only [par1]
  have h1 : On ms s (if acc = [] then s else wantS ms s [44]) := by
    split
    · exact On.refl h
    · exact want_on hg h
  exact h1.trans (parS_on h1.lt)
theorem parT_on (hg : Good ms) {acc : List Pm} {s : St} (h : s.at_ < ms.length) : On ms s (parT ms acc s) := by
  have h1 := par1_on hg (acc := acc) h
  have h2 := name_on hg h1.lt
  exact (h1.trans h2).trans (typ_on hg h2.lt)
theorem parT_go (hg : Good ms) {acc : List Pm} {s : St} (h : s.at_ < ms.length) (hw : (parT ms acc s).why = 0) : s.at_ < (parT ms acc s).at_ := by
  have h1 := par1_on hg (acc := acc) h
  have h2 := name_on hg h1.lt
  have h3 := typ_on hg h2.lt
  have hw2 : (nameS ms (par1 ms acc s)).2.why = 0 := Decidable.byContradiction fun x => h3.why x hw
  exact Nat.lt_of_le_of_lt h1.le (Nat.lt_of_lt_of_le (name_go hw2) h3.le)
theorem params_on (hg : Good ms) : ∀ (n : Nat) (acc : List Pm) (s : St), s.at_ < ms.length → On ms s (paramsS ms n acc s).2
  | 0, acc, s, h => On.refl h
  | n + 1, acc, s, h => by
    simp only [paramsS]
    split
    · have h1 := parT_on hg (acc := acc) h
      exact h1.trans (params_on hg n _ _ h1.lt)
    · exact On.refl h
theorem df1_on {n : Nat} {s : St} (h : s.at_ < ms.length) : On ms s (df1 ms n s) := by
  simp only [df1]; split
  · exact fail_on (by decide) h
  · exact On.refl h
theorem df2_on (hg : Good ms) {n : Nat} {s : St} (h : s.at_ < ms.length) : On ms s (df2 ms n s).2 := by
  have h1 := df1_on (n := n) h
  have h2 := name_on hg h1.lt
  have h3 := want_on hg (t := [40]) h2.lt
  exact ((h1.trans h2).trans h3).trans (params_on hg _ _ _ h3.lt)
theorem df3_on (hg : Good ms) {n : Nat} {s : St} (h : s.at_ < ms.length) : On ms s (df3 ms n s) := by
  have h1 := df2_on hg (n := n) h
  have h2 := want_on hg (t := [41]) h1.lt
  exact (h1.trans h2).trans (want_on hg h2.lt)
theorem df4_on (hg : Good ms) {n : Nat} {s : St} (h : s.at_ < ms.length) : On ms s (df4 ms n s) := by
  have h1 := df3_on hg (n := n) h
  have h2 := typ_on hg h1.lt
  exact (h1.trans h2).trans (want_on hg h2.lt)
theorem def_on (hg : Good ms) {n : Nat} {s : St} (h : s.at_ < ms.length) : On ms s (defS ms n s).2 := by
  have h1 := df4_on hg (n := n) h
  have h2 := (pExpr_on hg ms.length _ h1.lt (by omega)).1
  exact (h1.trans h2).trans (want_on hg h2.lt)
theorem def_go (hg : Good ms) {n : Nat} {s : St} (h : s.at_ < ms.length) (hw : (defS ms n s).2.why = 0) : s.at_ < (defS ms n s).2.at_ := by
  have h1 := df1_on (n := n) h
  have h2 := name_on hg h1.lt
  have h3 := want_on hg (t := [40]) h2.lt
  have h4 := params_on hg (ms.length + 1) [] _ h3.lt
  have h5 := want_on hg (t := [41]) h4.lt
  have h6 := want_on hg (t := [58]) h5.lt
  have h7 := typ_on hg h6.lt
  have h8 := want_on hg (t := [61]) h7.lt
  have h9 := (pExpr_on hg ms.length _ h8.lt (by omega)).1
  have h10 := want_on hg (t := [59]) h9.lt
  have hall := ((((((h3.trans h4).trans h5).trans h6).trans h7).trans h8).trans h9).trans h10
  have hw2 : (nameS ms (df1 ms n s)).2.why = 0 := Decidable.byContradiction fun x => hall.why x hw
  exact Nat.lt_of_le_of_lt h1.le (Nat.lt_of_lt_of_le (name_go hw2) hall.le)
theorem program_on (hg : Good ms) : ∀ (n : Nat) (acc : List Df) (s : St), s.at_ < ms.length → On ms s (programS ms n acc s).2
  | 0, acc, s, h => On.refl h
  | n + 1, acc, s, h => by
    simp only [programS]
    split
    · have h1 := def_on hg (n := acc.length) h
      exact h1.trans (program_on hg n _ _ h1.lt)
    · exact On.refl h
end

/-- What Parse gives: the program, or the error and its place. -/
def parseS (b : Bytes) : List Df × Int × Int :=
  if 32768 < b.length then ([], 22, 32768)
  else match marksS b (b.length + 1) 0 with
    | .inr q => ([], 20, q)
    | .inl ms =>
      if (programS ms (ms.length + 1) [] ⟨0, 0, 0, 0⟩).2.why ≠ 0 then ([], (programS ms (ms.length + 1) [] ⟨0, 0, 0, 0⟩).2.why, (programS ms (ms.length + 1) [] ⟨0, 0, 0, 0⟩).2.wh)
      else ((programS ms (ms.length + 1) [] ⟨0, 0, 0, 0⟩).1, 0, 0)
def readS (b : Bytes) : List Df × Bool := ((parseS b).1, decide ((parseS b).2.1 = 0))
end Go.AM

/- AM: the marks of a text are good. -/
namespace Go.AM

theorem marksS_inl {b : Bytes} : ∀ (k p : Nat) (l : List Mk), p ≤ b.length → marksS b k p = .inl l → ∃ l0 m, l = l0 ++ [m] ∧ m.kind = 4 ∧ l0.length + p ≤ b.length
  | 0, p, l, _, h => by simp [marksS] at h
  | k + 1, p, l, hp, h => by
    simp only [marksS] at h
    split at h
    · rename_i hlt
      split at h
      · obtain ⟨l0, m, h1, h2, h3⟩ := marksS_inl k (p + 1) l (by omega) h
        exact ⟨l0, m, h1, h2, by omega⟩
      · split at h
        · have := skipN_le b hp
          obtain ⟨l0, m, h1, h2, h3⟩ := marksS_inl k (p + skipN b p) l (by omega) h
          exact ⟨l0, m, h1, h2, by omega⟩
        · split at h
          · rename_i hok
            obtain ⟨g1, g2⟩ := oneS_len hlt hok
            cases hr : marksS b k (p + (oneS b p).1.text.length) with
            | inr q => rw [hr] at h; simp [pre] at h
            | inl l' =>
              rw [hr] at h
              simp only [pre, Sum.inl.injEq] at h
              obtain ⟨l0, m, h1, h2, h3⟩ := marksS_inl k _ l' g2 hr
              refine ⟨(oneS b p).1 :: l0, m, by rw [← h, h1]; rfl, h2, by simp; omega⟩
          · cases h
    · simp only [Sum.inl.injEq] at h
      exact ⟨[], _, by rw [← h]; rfl, rfl, by simpa using hp⟩

theorem marks_good {b : Bytes} {l : List Mk} (hb : b.length ≤ 32768) (h : marksS b (b.length + 1) 0 = .inl l) : Good l := by
  obtain ⟨l0, m, rfl, h2, h3⟩ := marksS_inl _ _ _ (by omega) h
  refine ⟨by simp; omega, by simp, fun s hs => ?_⟩
  have : s.at_ = l0.length := by simpa using hs
  simp [nx, this, List.getD, h2]
end Go.AM

/- AM: lists of names. -/
namespace Go.AM

def strRows (l : List Bytes) : List (List AV) := l.map fun w => [.str w]
@[simp] theorem strRows_length (l : List Bytes) : (strRows l).length = l.length := by simp [strRows]
/-- A list of names, as it may be handed in. -/
def IsStrs (h : Hp) (v : AV) (l : List Bytes) : Prop := v = rowsAV (strRows l) ∨ v = .fz (strRows l) ∨ ∃ id e, v = .sl id 0 l.length ∧ h id = .arr e 1 (strRows l)
theorem IsStrs.len {h : Hp} {v : AV} {l : List Bytes} (hs : IsStrs h v l) (h1 : Hp) : aLen .sl v h1 = some (.int .i64 l.length) := by
  rcases hs with rfl | rfl | ⟨id, e, rfl, _⟩
  · cases l with
    | nil => rfl
    | cons a l => simp [strRows, rowsAV]
  · simp
  · rfl

/-- Appending what may be nothing. -/
theorem Own.app0 {h h1 : Hp} {e sz : Nat} {v : AV} {rows : List (List AV)} {b : Nat} {ys : List (List AV)} {K : AV → Hp → Prop} (ho : Own h h1 e sz v rows) (hf : ∀ j, h j = .dead ∨ h1 j = h j) (hlen : rows.length + ys.length ≤ 4611686018427387904) (hb : (rows.length + ys.length) * b ≤ 140737488355328)
    (hk : ∀ v' h2, Own h h2 e sz v' (rows ++ ys) → (∀ j, h j = .dead ∨ h2 j = h j) → K v' h2) {u : Held K} : AApp e sz b v ys K h1 u := by
  have dd : ∀ j, h1 j = .dead → h j = .dead := fun j hj => by
    rcases hf j with x | x
    · exact x
    · rw [← x]; exact hj
  rcases ho with ⟨rfl, rfl⟩ | ⟨id, hn, hd, rfl, ha⟩
  · cases ys with
    | nil => exact hk _ _ (.inl ⟨rfl, rfl⟩) hf
    | cons y ys =>
      refine ⟨by simpa using hlen, by simpa using hb, fun id hid => hk _ _ (.inr ⟨id, by simp, dd id hid, rfl, by simp⟩) fun j => ?_⟩
      by_cases ej : j = id
      · exact .inl (ej ▸ dd id hid)
      · simpa [ej] using hf j
  · refine ⟨rfl, ?_⟩
    rw [ha]
    refine ⟨rfl, rfl, Nat.le_refl _, hlen, hb, fun id' hid' => ?_⟩
    rw [List.take_length]
    refine hk _ _ (.inr ⟨id', by simp [hn], dd id' hid', by simp, by simp⟩) fun j => ?_
    by_cases e1 : j = id'
    · exact .inl (e1 ▸ dd id' hid')
    by_cases e2 : j = id
    · exact .inl (e2 ▸ hd)
    · simpa [e1, e2] using hf j

def Ex.op : Ex → Int | .mk op _ _ _ _ _ _ _ => op
def Ex.name : Ex → Bytes | .mk _ n _ _ _ _ _ _ => n
def Ex.tail : Ex → Bytes | .mk _ _ t _ _ _ _ _ => t
def Ex.ty : Ex → Int | .mk _ _ _ t _ _ _ _ => t
def Ex.args : Ex → List Ex | .mk _ _ _ _ _ _ a _ => a
def Ex.pos : Ex → Int | .mk _ _ _ _ _ _ _ p => p
/-- The names that an expression binds in its part i. -/
def boundS (e : Ex) (i : Int) : List Bytes := if e.op = 21 ∨ (e.op = 22 ∧ i = 1) then [e.name] else if e.op = 20 ∧ i = 2 then [e.name, e.tail] else []

/-- An own list, given out frozen. -/
theorem Own.out {h h1 : Hp} {e sz : Nat} {v : AV} {rows : List (List AV)} {Q : AV → Hp → Prop} (ho : Own h h1 e sz v rows) (hf : ∀ j, h j = .dead ∨ h1 j = h j) (hq : Q (rowsAV rows) h) : Gives Q (some v) h1 := by
  have hsub : Sub h h1 := fun j => by
    rcases hf j with x | x
    · exact .inr x
    · exact .inl x.symm
  rcases ho with ⟨rfl, rfl⟩ | ⟨id, hn, hd, rfl, ha⟩
  · exact Gives.sub hsub hq
  · cases rows with
    | nil => exact absurd rfl hn
    | cons r rows => exact Gives.frz hsub (Frz.rows ha hd) hq

/-- The first definition of a name; -1: none. -/
def headsS (n : Bytes) : List Df → Nat → Int
  | [], _ => -1
  | f :: l, i => if f.name = n then (i : Int) else headsS n l (i + 1)
def progAV (l : List Df) : AV := .agg [rowsAV (l.map Df.cells)]
end Go.AM

/- AM: the trees that the grammar gives are well formed. -/
namespace Go.AM

mutual
def Ex.size : Ex → Nat
  | .mk _ _ _ _ _ _ args _ => 1 + Ex.sizeL args
def Ex.sizeL : List Ex → Nat
  | [] => 0
  | e :: l => e.size + Ex.sizeL l
end
/-- How many arguments an operation has. -/
def arOK (op : Int) (n : Nat) : Prop :=
  (op = 7) ∨ ((op = 19 ∨ op = 20) ∧ n = 3) ∨
  ((op = 8 ∨ op = 9 ∨ op = 10 ∨ op = 11 ∨ op = 12 ∨ op = 13 ∨ op = 18 ∨ op = 21 ∨ op = 22) ∧ n = 2) ∨
  ((op = 14 ∨ op = 15 ∨ op = 16 ∨ op = 17) ∧ n = 1) ∨
  ((op = 1 ∨ op = 2 ∨ op = 3 ∨ op = 4 ∨ op = 5 ∨ op = 6) ∧ n = 0)
def tyOK (t : Int) : Prop := t = 1 ∨ t = 2 ∨ t = 3
/-- A number's bits: of whole numbers in range. -/
def numOK (re im : Nat) : Prop := ∃ a b : Int, -16777216 ≤ a ∧ a ≤ 16777216 ∧ -16777216 ≤ b ∧ b ≤ 16777216 ∧ re = FloatKind.f64.nearest a ∧ im = FloatKind.f64.nearest b
mutual
/-- What is known of a tree that was read, all of it ahead of a place. -/
def Ex.fine (hi : Int) : Ex → Prop
  | .mk op _ _ ty re im args pos => arOK op args.length ∧ ((op = 5 ∨ op = 21 ∨ op = 22) → tyOK ty) ∧ (op = 1 → numOK re im) ∧ (0 ≤ pos ∧ pos < hi) ∧ Ex.fineL hi args
def Ex.fineL (hi : Int) : List Ex → Prop
  | [] => True
  | e :: l => e.fine hi ∧ Ex.fineL hi l
end
theorem Ex.fineL_append {hi : Int} : ∀ (a b : List Ex), Ex.fineL hi (a ++ b) ↔ (Ex.fineL hi a ∧ Ex.fineL hi b)
  | [], b => by simp [Ex.fineL]
  | e :: a, b => by simp [Ex.fineL, Ex.fineL_append a b, and_assoc]
theorem Ex.sizeL_append : ∀ (a b : List Ex), Ex.sizeL (a ++ b) = Ex.sizeL a + Ex.sizeL b
  | [], b => by simp [Ex.sizeL]
  | e :: a, b => by simp [Ex.sizeL, Ex.sizeL_append a b]; omega
mutual
theorem Ex.fine_mono {hi hi' : Int} (h : hi ≤ hi') : ∀ (e : Ex), e.fine hi → e.fine hi'
  | .mk op name tail ty re im args pos, hf => by
    simp only [Ex.fine] at hf ⊢
    exact ⟨hf.1, hf.2.1, hf.2.2.1, ⟨hf.2.2.2.1.1, by have := hf.2.2.2.1.2; omega⟩, Ex.fineL_mono h args hf.2.2.2.2⟩
theorem Ex.fineL_mono {hi hi' : Int} (h : hi ≤ hi') : ∀ (l : List Ex), Ex.fineL hi l → Ex.fineL hi' l
  | [], _ => trivial
  | e :: l, hf => ⟨Ex.fine_mono h e hf.1, Ex.fineL_mono h l hf.2⟩
end
theorem Ex.fineL_mem {hi : Int} : ∀ {l : List Ex} {e : Ex}, Ex.fineL hi l → e ∈ l → e.fine hi
  | [], _, _, he => by cases he
  | a :: l, e, h, he => by
    rcases List.mem_cons.1 he with rfl | he
    · exact h.1
    · exact Ex.fineL_mem h.2 he
theorem Ex.size_pos (e : Ex) : 1 ≤ e.size := by cases e; simp [Ex.size]
theorem Ex.sizeL_len : ∀ (l : List Ex), l.length ≤ Ex.sizeL l
  | [] => by simp [Ex.sizeL]
  | e :: l => by have := e.size_pos; have := Ex.sizeL_len l; simp [Ex.sizeL]; omega
theorem Ex.size_mem : ∀ {l : List Ex} {e : Ex}, e ∈ l → e.size ≤ Ex.sizeL l
  | [], _, he => by cases he
  | a :: l, e, he => by
    rcases List.mem_cons.1 he with rfl | he
    · simp [Ex.sizeL]
    · have := Ex.size_mem he; simp [Ex.sizeL]; omega
theorem Ex.size_args (e : Ex) : e.size = 1 + Ex.sizeL e.args := by cases e; rfl
theorem Ex.fine_args {hi : Int} {e : Ex} (h : e.fine hi) : Ex.fineL hi e.args := by cases e; exact h.2.2.2.2

/-- Marks, one behind another. -/
structure Good2 (ms : List Mk) : Prop where
  srt : ∀ i j, i < j → j < ms.length → (ms.getD i mk0).pos < (ms.getD j mk0).pos
  pos : ∀ i, i < ms.length → 0 ≤ (ms.getD i mk0).pos
  num : ∀ i, i < ms.length → (ms.getD i mk0).kind = 2 → numOK (ms.getD i mk0).re (ms.getD i mk0).im
theorem Good2.le {ms : List Mk} (h : Good2 ms) {s s' : St} (hl : s.at_ ≤ s'.at_) (h' : s'.at_ < ms.length) : (nx ms s).pos ≤ (nx ms s').pos := by
  rcases Nat.lt_or_ge s.at_ s'.at_ with e | e
  · exact Int.le_of_lt (h.srt _ _ e h')
  · have : s.at_ = s'.at_ := by omega
    simp [nx, this]
theorem Good2.lt {ms : List Mk} (h : Good2 ms) {s s' : St} (hl : s.at_ < s'.at_) (h' : s'.at_ < ms.length) : (nx ms s).pos < (nx ms s').pos := h.srt _ _ hl h'
theorem Good2.nn {ms : List Mk} (h : Good2 ms) {s : St} (h' : s.at_ < ms.length) : 0 ≤ (nx ms s).pos := h.pos _ h'

def Tree (ms : List Mk) (s : St) (r : Ex × St) : Prop := r.1.fine (nx ms r.2).pos ∧ r.1.size + s.at_ ≤ r.2.at_
/-- What is known of the trees that a rule gives. -/
def Trees (ms : List Mk) (k : Nat) (e : St → Ex × St) : Prop := ∀ s, s.at_ < ms.length → ms.length ≤ s.at_ + k → (e s).2.why = 0 → Tree ms s (e s)

section
variable {ms : List Mk} {k : Nat} {e : St → Ex × St}
theorem On.ok {s s' : St} (h : On ms s s') (hw : s'.why = 0) : s.why = 0 := Decidable.byContradiction fun x => h.why x hw
theorem want_why {s : St} {t : Bytes} (h : (wantS ms s t).why = 0) : s.why = 0 ∧ isB ms s t = true ∧ wantS ms s t = adv s := by
  simp only [wantS] at h ⊢
  split at h
  · rename_i hb; exact ⟨(isB_kind hb).1, hb, by rw [if_pos hb]⟩
  · exact absurd h (fail_why (by decide))
theorem typ_why {s : St} (h : (typS ms s).2.why = 0) : tyOK (typS ms s).1 ∧ (typS ms s).2 = adv s := by
  simp only [typS] at h ⊢
  by_cases h1 : isB ms s [78] = true
  · simp [h1, tyOK]
  · by_cases h2 : isB ms s [66] = true
    · simp [h1, h2, tyOK]
    · by_cases h3 : isB ms s [76] = true
      · simp [h1, h2, h3, tyOK]
      · simp only [h1, h2, h3] at h; exact absurd h (fail_why (by decide))
theorem name_why {s : St} (h : (nameS ms s).2.why = 0) : (nameS ms s).1 = nx ms s ∧ (nameS ms s).2 = adv s := by
  simp only [nameS] at h ⊢
  split at h
  · exact absurd h (fail_why (by decide))
  · rename_i hc; rw [if_neg hc]; exact ⟨rfl, rfl⟩

theorem args_tree (hg : Good ms) (h2g : Good2 ms) (he : Reads ms k e) (ht : Trees ms k e) : ∀ (n : Nat) (acc : List Ex) (s : St), s.at_ < ms.length → ms.length ≤ s.at_ + k → Ex.fineL (nx ms s).pos acc → (argsS ms e n acc s).2.why = 0 →
    Ex.fineL (nx ms (argsS ms e n acc s).2).pos (argsS ms e n acc s).1 ∧ Ex.sizeL (argsS ms e n acc s).1 + s.at_ ≤ (argsS ms e n acc s).2.at_ + Ex.sizeL acc
  | 0, acc, s, _, _, hf, _ => ⟨hf, by simp [argsS]; omega⟩
  | n + 1, acc, s, h, hk, hf, hw => by
    by_cases hc : s.why = 0 ∧ isB ms s [41] = false
    · simp only [argsS, if_pos hc] at hw ⊢
      have h1 : On ms s (if acc = [] then s else wantS ms s [44]) := by
        split
        · exact On.refl h
        · exact want_on hg h
      generalize (if acc = [] then s else wantS ms s [44]) = s1 at *
      have l1 := h1.le
      have h2 := (he s1 h1.lt (by omega)).1
      have l2 := h2.le
      have h3 := args_on hg he n (acc ++ [(e s1).1]) (e s1).2 h2.lt (by omega)
      have hw1 : (e s1).2.why = 0 := h3.ok hw
      obtain ⟨t1, t2⟩ := ht s1 h1.lt (by omega) hw1
      have hf' : Ex.fineL (nx ms (e s1).2).pos acc := Ex.fineL_mono (h2g.le (by omega) h2.lt) acc hf
      obtain ⟨r1, r2⟩ := args_tree hg h2g he ht n (acc ++ [(e s1).1]) (e s1).2 h2.lt (by omega) ((Ex.fineL_append _ _).2 ⟨hf', t1, trivial⟩) hw
      refine ⟨r1, ?_⟩
      simp only [Ex.sizeL_append, Ex.sizeL] at r2
      omega
    · simp only [argsS, if_neg hc]
      exact ⟨hf, by omega⟩
theorem named_tree (hg : Good ms) (h2g : Good2 ms) (he : Reads ms k e) (ht : Trees ms k e) {s : St} (h : s.at_ < ms.length) (hk : ms.length ≤ s.at_ + (k + 1)) (hkind : (nx ms s).kind = 0) (hw : (namedS ms e (nx ms s) (adv s)).2.why = 0) :
    Tree ms s (namedS ms e (nx ms s) (adv s)) := by
  have h0 := adv_on hg h (by rw [hkind]; decide)
  simp only [namedS] at hw ⊢
  by_cases hb : isB ms (adv s) [40] = true
  · simp only [hb, if_true] at hw ⊢
    have h1 := isB_on hg h0.lt hb
    have hk1 : ms.length ≤ (adv (adv s)).at_ + k := by rw [adv_at, adv_at]; omega
    obtain ⟨w1, w2, w3⟩ := want_why hw
    have h2 := args_on hg he (ms.length + 1) [] (adv (adv s)) h1.lt hk1
    obtain ⟨r1, r2⟩ := args_tree hg h2g he ht (ms.length + 1) [] (adv (adv s)) h1.lt hk1 trivial w1
    have l2 := h2.le
    have h3 := isB_on hg h2.lt w2
    rw [adv_at, adv_at] at r2 l2
    simp only [Ex.sizeL] at r2
    refine ⟨?_, ?_⟩
    · rw [w3]
      simp only [Ex.fine]
      refine ⟨.inl rfl, fun x => by omega, fun x => by omega, ⟨h2g.nn h, h2g.lt ?_ h3.lt⟩, Ex.fineL_mono (h2g.le h3.le h3.lt) _ r1⟩
      rw [adv_at]; omega
    · rw [w3, adv_at]; simp only [Ex.size]; omega
  · rw [if_neg hb]
    refine ⟨?_, ?_⟩
    · simp only [Ex.fine]
      exact ⟨.inr (.inr (.inr (.inr ⟨by decide, rfl⟩))), fun x => by omega, fun x => by omega, ⟨h2g.nn h, h2g.lt (by simp [adv]) h0.lt⟩, trivial⟩
    · simp [Ex.size, Ex.sizeL, adv]; omega
theorem wordS_in (t : Bytes) : wordS t = 0 ∨ wordS t = 2 ∨ wordS t = 3 ∨ wordS t = 4 ∨ wordS t = 5 ∨ wordS t = 14 ∨ wordS t = 15 ∨ wordS t = 16 ∨ wordS t = 17 := by
  simp only [wordS]
  repeat (split; · simp)
  simp
theorem unit_tree (hg : Good ms) (h2g : Good2 ms) (he : Reads ms k e) (ht : Trees ms k e) : Trees ms (k + 1) (unitS ms e) := by
  intro s h hk hw
  simp only [unitS] at hw ⊢
  by_cases hy : s.why ≠ 0
  · rw [if_pos hy] at hw; exact absurd hw hy
  rw [if_neg hy] at hw ⊢
  by_cases k2 : (nx ms s).kind = 2
  · rw [if_pos k2]
    have h0 := adv_on hg h (by rw [k2]; decide)
    refine ⟨?_, by simp [Ex.size, Ex.sizeL, adv]; omega⟩
    simp only [Ex.fine]
    exact ⟨.inr (.inr (.inr (.inr ⟨by decide, rfl⟩))), fun x => by omega, fun _ => h2g.num _ h k2, ⟨h2g.nn h, h2g.lt (by simp [adv]) h0.lt⟩, trivial⟩
  rw [if_neg k2] at hw ⊢
  by_cases k0 : (nx ms s).kind = 0
  · rw [if_pos k0] at hw ⊢
    exact named_tree hg h2g he ht h (by omega) k0 hw
  rw [if_neg k0] at hw ⊢
  by_cases hb : isB ms s [40] = true
  · rw [if_pos hb] at hw ⊢
    have h3 := isB_on hg h hb
    obtain ⟨w1, w2, w3⟩ := want_why hw
    have h4 := (he (adv s) h3.lt (by simp [adv]; omega)).1
    obtain ⟨t1, t2⟩ := ht (adv s) h3.lt (by simp [adv]; omega) w1
    have h5 := isB_on hg h4.lt w2
    refine ⟨?_, ?_⟩
    · show Ex.fine _ _
      rw [w3]; exact Ex.fine_mono (h2g.le h5.le h5.lt) _ t1
    · rw [w3, adv_at]; rw [adv_at] at t2; show (e (adv s)).1.size + _ ≤ _; omega
  rw [if_neg hb] at hw ⊢
  by_cases k1 : (nx ms s).kind ≠ 1 ∨ wordS (nx ms s).text = 0
  · rw [if_pos k1] at hw; exact absurd hw (fail_why (by decide))
  rw [if_neg k1] at hw ⊢
  have hk2 : (nx ms s).kind ≠ 4 := by
    intro e; exact k1 (.inl (by rw [e]; decide))
  have h3 := adv_on hg h hk2
  have hpos := h2g.nn h
  by_cases w5 : wordS (nx ms s).text = 5
  · rw [if_pos w5] at hw ⊢
    have h4 := typ_on hg h3.lt
    obtain ⟨y1, y2⟩ := typ_why hw
    refine ⟨?_, ?_⟩
    · simp only [Ex.fine, w5]
      exact ⟨.inr (.inr (.inr (.inr ⟨by decide, rfl⟩))), fun _ => y1, fun x => by omega, ⟨hpos, h2g.lt (by rw [y2]; simp [adv]; omega) h4.lt⟩, trivial⟩
    · rw [y2]; simp [Ex.size, Ex.sizeL, adv]; omega
  rw [if_neg w5] at hw ⊢
  by_cases w1 : oneArg (wordS (nx ms s).text) = true
  · rw [if_pos w1] at hw ⊢
    obtain ⟨y1, y2, y3⟩ := want_why hw
    have h4 := want_on hg (t := [40]) h3.lt
    have l4 := h4.le
    have h5 := (he _ h4.lt (by rw [adv_at] at l4; omega)).1
    obtain ⟨t1, t2⟩ := ht _ h4.lt (by rw [adv_at] at l4; omega) y1
    have h6 := isB_on hg h5.lt y2
    have l5 := h5.le
    refine ⟨?_, ?_⟩
    · rw [y3]
      simp only [Ex.fine]
      refine ⟨.inr (.inr (.inr (.inl ⟨?_, rfl⟩))), ?_, ?_, ⟨hpos, h2g.lt ?_ h6.lt⟩, Ex.fine_mono (h2g.le h6.le h6.lt) _ t1, trivial⟩
      · simpa [oneArg, or_assoc] using w1
      · intro hh; rcases hh with hh | hh | hh <;> rw [hh] at w1 <;> simp [oneArg] at w1
      · intro hh; rw [hh] at w1; simp [oneArg] at w1
      · rw [adv_at] at l4 ⊢; omega
    · rw [y3, adv_at]; rw [adv_at] at l4; simp [Ex.size, Ex.sizeL]; omega
  · rw [if_neg w1] at hw ⊢
    refine ⟨?_, by simp [Ex.size, Ex.sizeL, adv]; omega⟩
    simp only [Ex.fine]
    have hin := wordS_in (nx ms s).text
    simp only [not_or] at k1
    have w0 := k1.2
    simp only [oneArg, Bool.or_eq_true, decide_eq_true_eq, not_or] at w1
    generalize wordS (nx ms s).text = w at *
    refine ⟨.inr (.inr (.inr (.inr ⟨by omega, rfl⟩))), by omega, by omega, ⟨hpos, h2g.lt (by simp [adv]) h3.lt⟩, trivial⟩
theorem two_fine {hi : Int} {op : Int} {a b : Ex} {m : Mk} (ho : op = 8 ∨ op = 9 ∨ op = 10 ∨ op = 11 ∨ op = 12 ∨ op = 13 ∨ op = 18) (ha : a.fine hi) (hb : b.fine hi) (hm : 0 ≤ m.pos ∧ m.pos < hi) : (two op a b m).fine hi := by
  simp only [two, Ex.fine]
  exact ⟨.inr (.inr (.inl ⟨by omega, rfl⟩)), by omega, by omega, hm, ha, hb, trivial⟩
theorem two_size {op : Int} {a b : Ex} {m : Mk} : (two op a b m).size = 1 + a.size + b.size := by simp [two, Ex.size, Ex.sizeL]; omega
theorem chain_tree (hg : Good ms) (h2g : Good2 ms) {sub : St → Ex × St} (he : Reads ms k sub) (ht : Trees ms k sub) {o1 o2 : Bytes} {c1 c2 : Int} (hc : (c1 = 8 ∧ c2 = 9) ∨ (c1 = 10 ∧ c2 = 11)) : ∀ (n : Nat) (a : Ex) (s0 s : St), s0.at_ ≤ s.at_ → s.at_ < ms.length → ms.length ≤ s.at_ + k → (chainS ms sub o1 o2 c1 c2 n a s).2.why = 0 → (a.fine (nx ms s).pos ∧ a.size + s0.at_ ≤ s.at_) → Tree ms s0 (chainS ms sub o1 o2 c1 c2 n a s)
  | 0, a, s0, s, _, h, _, _, hf => ⟨hf.1, hf.2⟩
  | n + 1, a, s0, s, h0, h, hk, hw, hf => by
    simp only [chainS] at hw ⊢
    by_cases hb : isB ms s o1 = true ∨ isB ms s o2 = true
    · rw [if_pos hb] at hw ⊢
      have h1 : On ms s (adv s) := by
        rcases hb with hb | hb <;> exact isB_on hg h hb
      have h2 := (he (adv s) h1.lt (by simp [adv]; omega)).1
      have l2 := h2.le
      rw [adv_at] at l2
      have h3 := chain_on hg he (o1 := o1) (o2 := o2) (c1 := c1) (c2 := c2) n (two (if (nx ms s).text = o2 then c2 else c1) a (sub (adv s)).1 (nx ms s)) _ h2.lt (by omega)
      have hw1 := h3.ok hw
      obtain ⟨t1, t2⟩ := ht (adv s) h1.lt (by simp [adv]; omega) hw1
      rw [adv_at] at t2
      refine chain_tree hg h2g he ht hc n _ s0 _ (by omega) h2.lt (by omega) hw ⟨two_fine ?_ (Ex.fine_mono (h2g.le (by omega) h2.lt) _ hf.1) t1 ⟨h2g.nn h, h2g.lt (by omega) h2.lt⟩, ?_⟩
      · split <;> omega
      · rw [two_size]; have := hf.2; omega
    · rw [if_neg hb]; exact hf
theorem chain_trees (hg : Good ms) (h2g : Good2 ms) {sub : St → Ex × St} (he : Reads ms k sub) (ht : Trees ms k sub) {o1 o2 : Bytes} {c1 c2 : Int} (hc : (c1 = 8 ∧ c2 = 9) ∨ (c1 = 10 ∧ c2 = 11)) {n : Nat} : Trees ms k (fun s => chainS ms sub o1 o2 c1 c2 n (sub s).1 (sub s).2) := by
  intro s h hk hw
  have h1 := (he s h hk).1
  have l1 := h1.le
  have h2 := chain_on hg he (o1 := o1) (o2 := o2) (c1 := c1) (c2 := c2) n (sub s).1 (sub s).2 h1.lt (by omega)
  obtain ⟨t1, t2⟩ := ht s h hk (h2.ok hw)
  exact chain_tree hg h2g he ht hc n _ s _ l1 h1.lt (by omega) hw ⟨t1, t2⟩
theorem term_tree (hg : Good ms) (h2g : Good2 ms) (he : Reads ms k e) (ht : Trees ms k e) : Trees ms (k + 1) (termS ms e) := chain_trees hg h2g (unit_on hg he) (unit_tree hg h2g he ht) (.inr ⟨rfl, rfl⟩)
theorem sum_tree (hg : Good ms) (h2g : Good2 ms) (he : Reads ms k e) (ht : Trees ms k e) : Trees ms (k + 1) (sumS ms e) := chain_trees hg h2g (term_on hg he) (term_tree hg h2g he ht) (.inl ⟨rfl, rfl⟩)
theorem comp_tree (hg : Good ms) (h2g : Good2 ms) (he : Reads ms k e) (ht : Trees ms k e) : Trees ms (k + 1) (compS ms e) := by
  intro s h hk hw
  have h1 := (sum_on hg he s h hk).1
  have l1 := h1.le
  simp only [compS] at hw ⊢
  by_cases hb : isB ms (sumS ms e s).2 [61, 61] = true ∨ isB ms (sumS ms e s).2 [60] = true
  · rw [if_pos hb] at hw ⊢
    have h3 : On ms (sumS ms e s).2 (adv (sumS ms e s).2) := by
      rcases hb with hb | hb <;> exact isB_on hg h1.lt hb
    have h4 := (sum_on hg he _ h3.lt (by have := h3.le; omega)).1
    have l4 := h4.le
    have w3 := h4.ok hw
    have w1 := h3.ok w3
    obtain ⟨t1, t2⟩ := sum_tree hg h2g he ht s h hk w1
    obtain ⟨t3, t4⟩ := sum_tree hg h2g he ht _ h3.lt (by have := h3.le; omega) hw
    rw [adv_at] at l4 t4
    refine ⟨two_fine ?_ (Ex.fine_mono (h2g.le (by omega) h4.lt) _ t1) t3 ⟨h2g.nn h1.lt, h2g.lt (s' := (sumS ms e (adv (sumS ms e s).2)).2) (by omega) h4.lt⟩, ?_⟩
    · split <;> omega
    · rw [two_size]; show _ ≤ (sumS ms e (adv (sumS ms e s).2)).2.at_; omega
  · rw [if_neg hb] at hw ⊢
    exact sum_tree hg h2g he ht s h hk hw
theorem cons_tree (hg : Good ms) (h2g : Good2 ms) (he : Reads ms k e) (ht : Trees ms k e) : ∀ (n : Nat) (s : St), s.at_ < ms.length → ms.length ≤ s.at_ + (k + 1) → ms.length < s.at_ + n → (consS ms e n s).2.why = 0 → Tree ms s (consS ms e n s)
  | 0, s, h, _, hn, _ => by omega
  | n + 1, s, h, hk, hn, hw => by
    have h1 := (comp_on hg he s h hk).1
    have l1 := h1.le
    simp only [consS] at hw ⊢
    by_cases hb : isB ms (compS ms e s).2 [58] = true
    · rw [if_pos hb] at hw ⊢
      have h3 := isB_on hg h1.lt hb
      have h4 := (cons_on hg he n (adv (compS ms e s).2) h3.lt (by rw [adv_at]; omega) (by rw [adv_at]; omega)).1
      have l4 := h4.le
      have w1 := h3.ok (h4.ok hw)
      obtain ⟨t1, t2⟩ := comp_tree hg h2g he ht s h hk w1
      obtain ⟨t3, t4⟩ := cons_tree hg h2g he ht n (adv (compS ms e s).2) h3.lt (by rw [adv_at]; omega) (by rw [adv_at]; omega) hw
      rw [adv_at] at l4 t4
      refine ⟨two_fine (by omega) (Ex.fine_mono (h2g.le (by omega) h4.lt) _ t1) t3 ⟨h2g.nn h1.lt, h2g.lt (s' := (consS ms e n (adv (compS ms e s).2)).2) (by omega) h4.lt⟩, ?_⟩
      rw [two_size]; show _ ≤ (consS ms e n (adv (compS ms e s).2)).2.at_; omega
    · rw [if_neg hb] at hw ⊢
      exact comp_tree hg h2g he ht s h hk hw
theorem parts_tree (hg : Good ms) (h2g : Good2 ms) (he : Reads ms k e) (ht : Trees ms k e) : ∀ (l : List Bytes) (s : St), s.at_ < ms.length → ms.length ≤ s.at_ + k → (partsS ms e s l).2.why = 0 →
    Ex.fineL (nx ms (partsS ms e s l).2).pos (partsS ms e s l).1 ∧ Ex.sizeL (partsS ms e s l).1 + s.at_ ≤ (partsS ms e s l).2.at_ ∧ (partsS ms e s l).1.length = l.length
  | [], s, h, _, _ => ⟨trivial, by simp [partsS, Ex.sizeL], rfl⟩
  | t :: l, s, h, hk, hw => by
    simp only [partsS] at hw ⊢
    have h1 : On ms s (if t = [] then s else wantS ms s t) := by
      split
      · exact On.refl h
      · exact want_on hg h
    generalize (if t = [] then s else wantS ms s t) = s1 at *
    have l1 := h1.le
    have h2 := (he s1 h1.lt (by omega)).1
    have l2 := h2.le
    have h3 := parts_on hg he l (e s1).2 h2.lt (by omega)
    obtain ⟨t1, t2⟩ := ht s1 h1.lt (by omega) (h3.ok hw)
    obtain ⟨r1, r2, r3⟩ := parts_tree hg h2g he ht l (e s1).2 h2.lt (by omega) hw
    refine ⟨⟨Ex.fine_mono (h2g.le h3.le h3.lt) _ t1, r1⟩, ?_, by simp [r3]⟩
    simp only [Ex.sizeL]; omega
theorem branches_tree (hg : Good ms) (h2g : Good2 ms) (he : Reads ms k e) (ht : Trees ms k e) {s s0 : St} (h0 : s0.at_ < s.at_) (h : s.at_ < ms.length) (hk : ms.length ≤ s.at_ + k) (hw : (branchesS ms e s (nx ms s0).pos).2.why = 0) :
    Tree ms s0 (branchesS ms e s (nx ms s0).pos) := by
  have a0 := (he s h hk).1
  have a1 := br1_on hg he h hk
  have b1 := (he _ a1.lt (by have := a1.le; omega)).1
  have a2 := br2_on hg he h hk
  have a3 := br3_on hg he h hk
  have a4 := br4_on hg he h hk
  have b4 := (he _ a4.lt (by have := a4.le; omega)).1
  have w4 : (br4 ms e s).why = 0 := b4.ok hw
  have x4 := (want_why w4)
  have x4n := name_why x4.1
  have w3 : (br3 ms e s).why = 0 := (name_on hg a3.lt).ok x4.1
  have x3 := want_why w3
  have w2 : (br2 ms e s).why = 0 := (name_on hg a2.lt).ok x3.1
  have x2 := want_why w2
  have w1 : (br1 ms e s).why = 0 := b1.ok x2.1
  have x1 := want_why w1
  have x1b := want_why x1.1
  have x1c := want_why x1b.1
  obtain ⟨t1, u1⟩ := ht s h hk x1c.1
  obtain ⟨t2, u2⟩ := ht _ a1.lt (by have := a1.le; omega) x2.1
  obtain ⟨t3, u3⟩ := ht _ a4.lt (by have := a4.le; omega) hw
  have l1 : (e s).2.at_ ≤ (br1 ms e s).at_ := by
    show _ ≤ (wantS ms (wantS ms (wantS ms (e s).2 [111, 102]) [110, 105, 108]) [45, 62]).at_
    have o1 := want_on hg (t := [111, 102]) a0.lt
    have o2 := want_on hg (t := [110, 105, 108]) o1.lt
    have o3 := want_on hg (t := [45, 62]) o2.lt
    exact ((o1.trans o2).trans o3).le
  have l2 : (e (br1 ms e s)).2.at_ ≤ (br2 ms e s).at_ := (want_on hg b1.lt).le
  have l3 : (br2 ms e s).at_ ≤ (br3 ms e s).at_ := by
    have o1 := name_on hg a2.lt
    exact (o1.trans (want_on hg o1.lt)).le
  have l4 : (br3 ms e s).at_ ≤ (br4 ms e s).at_ := by
    have o1 := name_on hg a3.lt
    exact (o1.trans (want_on hg o1.lt)).le
  have l5 := b4.le
  have l0 := a0.le
  have lb1 := b1.le
  refine ⟨?_, ?_⟩
  · simp only [branchesS, Ex.fine]
    refine ⟨.inr (.inl ⟨by decide, rfl⟩), fun x => by omega, fun x => by omega, ⟨h2g.nn (by omega), h2g.lt (by omega) b4.lt⟩, Ex.fine_mono (h2g.le (by omega) b4.lt) _ t1, Ex.fine_mono (h2g.le (by omega) b4.lt) _ t2, t3, trivial⟩
  · simp only [branchesS, Ex.size, Ex.sizeL]; omega
theorem let_tree (hg : Good ms) (h2g : Good2 ms) (he : Reads ms k e) (ht : Trees ms k e) {s s0 : St} (h0 : s0.at_ < s.at_) (h : s.at_ < ms.length) (hk : ms.length ≤ s.at_ + k) (hw : (letS ms e s (nx ms s0)).2.why = 0) :
    Tree ms s0 (letS ms e s (nx ms s0)) := by
  have a1 := name_on hg h
  have a2 := typ_on hg a1.lt
  have l12 := (a1.trans a2).le
  have a3 := parts_on hg he [[61], [105, 110]] _ a2.lt (by omega)
  obtain ⟨r1, r2, r3⟩ := parts_tree hg h2g he ht [[61], [105, 110]] _ a2.lt (by omega) hw
  have y := (typ_why (a3.ok hw)).1
  have l3 := a3.le
  refine ⟨?_, ?_⟩
  · simp only [letS, Ex.fine]
    refine ⟨.inr (.inr (.inl ⟨?_, r3⟩)), fun _ => y, ?_, ⟨h2g.nn (by omega), h2g.lt (by omega) a3.lt⟩, r1⟩
    · split <;> omega
    · split <;> omega
  · simp only [letS, Ex.size]; omega
theorem if_tree (hg : Good ms) (h2g : Good2 ms) (he : Reads ms k e) (ht : Trees ms k e) {l : List Bytes} (hl : l.length = 3) {s s0 : St} (h0 : s0.at_ < s.at_) (h : s.at_ < ms.length) (hk : ms.length ≤ s.at_ + k) (hw : (partsS ms e s l).2.why = 0) :
    Tree ms s0 (.mk 19 [] [] 0 0 0 (partsS ms e s l).1 (nx ms s0).pos, (partsS ms e s l).2) := by
  have a3 := parts_on hg he l _ h hk
  obtain ⟨r1, r2, r3⟩ := parts_tree hg h2g he ht l _ h hk hw
  have l3 := a3.le
  refine ⟨?_, ?_⟩
  · simp only [Ex.fine]
    exact ⟨.inr (.inl ⟨by decide, r3.trans hl⟩), fun x => by omega, fun x => by omega, ⟨h2g.nn (by omega), h2g.lt (s' := (partsS ms e s l).2) (by omega) a3.lt⟩, r1⟩
  · simp only [Ex.size]; omega
theorem head_tree (hg : Good ms) (h2g : Good2 ms) (he : Reads ms k e) (ht : Trees ms k e) {s s0 : St} (h0 : s0.at_ < s.at_) (h : s.at_ < ms.length) (hk : ms.length ≤ s.at_ + k) (hw : (headS ms e s (nx ms s0)).2.why = 0) :
    Tree ms s0 (headS ms e s (nx ms s0)) := by
  simp only [headS] at hw ⊢
  by_cases h1 : (nx ms s0).text = [105, 102]
  · rw [if_pos h1] at hw ⊢
    exact if_tree hg h2g he ht rfl h0 h hk hw
  · rw [if_neg h1] at hw ⊢
    by_cases h2 : (nx ms s0).text = [99, 97, 115, 101]
    · rw [if_pos h2] at hw ⊢
      exact branches_tree hg h2g he ht h0 h hk hw
    · rw [if_neg h2] at hw ⊢
      exact let_tree hg h2g he ht h0 h hk hw
theorem expr_tree (hg : Good ms) (h2g : Good2 ms) (he : Reads ms k e) (ht : Trees ms k e) : Trees ms (k + 1) (exprS ms e) := by
  intro s h hk hw
  simp only [exprS] at hw ⊢
  by_cases hy : s.why ≠ 0
  · rw [if_pos hy] at hw; exact absurd hw hy
  rw [if_neg hy] at hw ⊢
  by_cases hb : bindsB ms s = true
  · rw [if_pos hb] at hw ⊢
    by_cases hn : 32768 ≤ s.nest
    · rw [if_pos hn] at hw; exact absurd hw (fail_why (by decide))
    · rw [if_neg hn] at hw ⊢
      have h0 := adv_on hg h (binds_kind hb).2
      have h1 : (adv (deeper s)).at_ < ms.length := h0.lt
      exact head_tree hg h2g he ht (s0 := s) (s := adv (deeper s)) (by simp [adv, deeper]) h1 (by simp [adv, deeper]; omega) hw
  · rw [if_neg hb] at hw ⊢
    by_cases hi : isB ms s [105, 102] = true
    · rw [if_pos hi] at hw ⊢
      have h0 := isB_on hg h hi
      exact head_tree hg h2g he ht (s0 := s) (s := adv s) (by simp [adv]) h0.lt (by simp [adv]; omega) hw
    · rw [if_neg hi] at hw ⊢
      exact cons_tree hg h2g he ht _ s h hk (by omega) hw
theorem pExpr_tree (hg : Good ms) (h2g : Good2 ms) : ∀ (k : Nat), Trees ms k (pExpr ms k)
  | 0 => fun s h hk => by omega
  | k + 1 => expr_tree hg h2g (pExpr_on hg k) (pExpr_tree hg h2g k)
end
end Go.AM

/- AM: what is known of a program that was read. -/
namespace Go.AM

theorem oneS_pos (b : Bytes) (p : Nat) : (oneS b p).1.pos = p := by
  simp only [oneS]
  split
  · rfl
  · split
    · rfl
    · split <;> rfl
theorem numS_ok {s : Bytes} (h : (numS s).2 = 0) : -16777216 ≤ (numS s).1.1 ∧ (numS s).1.1 ≤ 16777216 ∧ -16777216 ≤ (numS s).1.2 ∧ (numS s).1.2 ≤ 16777216 := by
  simp only [numS] at h ⊢
  split at h
  · simp at h
  · rename_i h1
    split at h
    · simp at h
    · rename_i h2
      rw [if_neg h1, if_neg h2]
      simp only [not_or, ne_eq, Decidable.not_not] at h2
      have h3 := h2.1
      simp only [inS] at h3
      split at h3
      · simp at h3
      · show -16777216 ≤ (numS1 s).1 ∧ (numS1 s).1 ≤ 16777216 ∧ -16777216 ≤ (numS1 s).2 ∧ (numS1 s).2 ≤ 16777216
        omega
theorem oneS_num {b : Bytes} {p : Nat} (h : (oneS b p).2 = true) (hk : (oneS b p).1.kind = 2) : numOK (oneS b p).1.re (oneS b p).1.im := by
  simp only [oneS] at h hk ⊢
  split at h
  · rename_i h1
    rw [if_pos h1]
    have := numS_ok (of_decide_eq_true h)
    exact ⟨_, _, this.1, this.2.1, this.2.2.1, this.2.2.2, rfl, rfl⟩
  · rename_i h1
    rw [if_neg h1] at hk
    split at h
    · rename_i h2; rw [if_pos h2] at hk; cases hk
    · rename_i h2
      rw [if_neg h2] at hk
      split at h
      · rename_i h3; rw [if_pos h3] at hk; dsimp only at hk; split at hk <;> cases hk
      · rename_i h3; rw [if_neg h3] at hk; cases hk

theorem marksS_srt {b : Bytes} : ∀ (k p : Nat) (l : List Mk), p ≤ b.length → marksS b k p = .inl l → l.Pairwise (fun x y => x.pos < y.pos) ∧ ∀ m ∈ l, (p : Int) ≤ m.pos ∧ (m.kind = 2 → numOK m.re m.im)
  | 0, p, l, _, h => by simp [marksS] at h
  | k + 1, p, l, hp, h => by
    simp only [marksS] at h
    split at h
    · rename_i hlt
      split at h
      · obtain ⟨h1, h2⟩ := marksS_srt k (p + 1) l (by omega) h
        exact ⟨h1, fun m hm => ⟨by have := (h2 m hm).1; omega, (h2 m hm).2⟩⟩
      · split at h
        · have := skipN_le b hp
          obtain ⟨h1, h2⟩ := marksS_srt k (p + skipN b p) l (by omega) h
          exact ⟨h1, fun m hm => ⟨by have := (h2 m hm).1; omega, (h2 m hm).2⟩⟩
        · split at h
          · rename_i hok
            obtain ⟨g1, g2⟩ := oneS_len hlt hok
            have hps := oneS_pos b p
            have hnm := oneS_num hok
            cases hr : marksS b k (p + (oneS b p).1.text.length) with
            | inr q => rw [hr] at h; simp [pre] at h
            | inl l' =>
              rw [hr] at h
              simp only [pre, Sum.inl.injEq] at h
              obtain ⟨h1, h2⟩ := marksS_srt k _ l' g2 hr
              rw [← h]
              refine ⟨List.pairwise_cons.2 ⟨fun m hm => by have := (h2 m hm).1; omega, h1⟩, fun m hm => ?_⟩
              rcases List.mem_cons.1 hm with rfl | hm
              · exact ⟨by omega, hnm⟩
              · exact ⟨by have := (h2 m hm).1; omega, (h2 m hm).2⟩
          · cases h
    · simp only [Sum.inl.injEq] at h
      rw [← h]
      refine ⟨List.pairwise_singleton _ _, fun m hm => ?_⟩
      rw [List.mem_singleton] at hm
      subst hm
      exact ⟨by simpa using hp, by simp⟩
theorem marks_good2 {b : Bytes} {l : List Mk} (h : marksS b (b.length + 1) 0 = .inl l) : Good2 l := by
  obtain ⟨h1, h2⟩ := marksS_srt _ _ _ (by omega) h
  have hg : ∀ i (hi : i < l.length), l.getD i mk0 = l[i] := fun i hi => by simp [List.getD, hi]
  refine ⟨fun i j hij hj => ?_, fun i hi => ?_, fun i hi hk => ?_⟩
  · rw [hg i (by omega), hg j hj]; exact List.pairwise_iff_getElem.1 h1 i j _ _ hij
  · rw [hg i hi]; simpa using (h2 _ (List.getElem_mem hi)).1
  · rw [hg i hi] at hk ⊢; exact (h2 _ (List.getElem_mem hi)).2 hk

structure Pm.fine (hi : Int) (p : Pm) : Prop where
  ty : tyOK p.ty
  pos : 0 ≤ p.pos ∧ p.pos < hi
structure Df.fine (hi : Int) (f : Df) : Prop where
  params : ∀ p ∈ f.params, p.fine hi
  ty : tyOK f.ty
  body : f.body.fine hi
  pos : 0 ≤ f.pos ∧ f.pos < hi
def Df.size (f : Df) : Nat := 1 + f.params.length + f.body.size
def sizeP : List Df → Nat
  | [] => 0
  | f :: l => f.size + sizeP l
/-- Definitions, one behind another. -/
def fineP (lo : Int) : List Df → Prop
  | [] => True
  | f :: l => lo ≤ f.pos ∧ ∃ hi, f.fine hi ∧ fineP hi l

section
variable {ms : List Mk}
theorem params_tree (hg : Good ms) (h2g : Good2 ms) : ∀ (n : Nat) (acc : List Pm) (s : St), s.at_ < ms.length → (∀ p ∈ acc, p.fine (nx ms s).pos) → (paramsS ms n acc s).2.why = 0 →
    (∀ p ∈ (paramsS ms n acc s).1, p.fine (nx ms (paramsS ms n acc s).2).pos) ∧ (paramsS ms n acc s).1.length + s.at_ ≤ (paramsS ms n acc s).2.at_ + acc.length
  | 0, acc, s, _, hf, _ => ⟨hf, by simp [paramsS]; omega⟩
  | n + 1, acc, s, h, hf, hw => by
    simp only [paramsS] at hw ⊢
    by_cases hc : s.why = 0 ∧ isB ms s [41] = false
    · rw [if_pos hc] at hw ⊢
      have a1 := par1_on hg (acc := acc) h
      have a2 := name_on hg a1.lt
      have a3 := typ_on hg a2.lt
      have a4 : On ms _ _ := params_on hg n (acc ++ [parP ms acc s]) (parT ms acc s) a3.lt
      have w3 : (parT ms acc s).why = 0 := a4.ok hw
      have y := typ_why w3
      have w2 := a3.ok w3
      have z := name_why w2
      have l1 := a1.le
      have e2 : (nameS ms (par1 ms acc s)).2.at_ = (par1 ms acc s).at_ + 1 := by rw [z.2]; rfl
      have e3 : (parT ms acc s).at_ = (par1 ms acc s).at_ + 2 := by
        show (typS ms (nameS ms (par1 ms acc s)).2).2.at_ = _
        rw [y.2, adv_at, e2]
      obtain ⟨r1, r2⟩ := params_tree hg h2g n (acc ++ [parP ms acc s]) (parT ms acc s) a3.lt (fun p hp => by
        rcases List.mem_append.1 hp with hp | hp
        · have := hf p hp
          have hle : (nx ms s).pos ≤ (nx ms (parT ms acc s)).pos := h2g.le (by omega) a3.lt
          exact ⟨this.ty, this.pos.1, Int.lt_of_lt_of_le this.pos.2 hle⟩
        · rw [List.mem_singleton] at hp
          subst hp
          refine ⟨y.1, ?_⟩
          show 0 ≤ (nameS ms (par1 ms acc s)).1.pos ∧ (nameS ms (par1 ms acc s)).1.pos < _
          rw [z.1]
          exact ⟨h2g.nn a1.lt, h2g.lt (by omega) a3.lt⟩) hw
      refine ⟨r1, ?_⟩
      simp only [List.length_append, List.length_singleton] at r2
      omega
    · rw [if_neg hc]
      exact ⟨hf, by show acc.length + s.at_ ≤ s.at_ + _; omega⟩
theorem def_tree (hg : Good ms) (h2g : Good2 ms) {n : Nat} {s : St} (h : s.at_ < ms.length) (hw : (defS ms n s).2.why = 0) :
    (defS ms n s).1.fine (nx ms (defS ms n s).2).pos ∧ (defS ms n s).1.size + s.at_ ≤ (defS ms n s).2.at_ ∧ (nx ms s).pos ≤ (defS ms n s).1.pos := by
  have b1 := df1_on (n := n) h
  have b2 := name_on hg b1.lt
  have b3 := want_on hg (t := [40]) b2.lt
  have b4 := params_on hg (ms.length + 1) [] _ b3.lt
  have a3 := df3_on hg (n := n) h
  have c1 := typ_on hg a3.lt
  have a4 := df4_on hg (n := n) h
  have c2 := (pExpr_on hg ms.length _ a4.lt (by omega)).1
  have w5 := want_why hw
  have w4 := c2.ok w5.1
  have w4' := want_why w4
  have y := typ_why w4'.1
  have w3 := c1.ok w4'.1
  have w3' := want_why w3
  have w3'' := want_why w3'.1
  have w2 := b4.ok w3''.1
  have w2' := want_why w2
  have z := name_why w2'.1
  obtain ⟨r1, r2⟩ := params_tree hg h2g (ms.length + 1) [] _ b3.lt (by simp) w3''.1
  obtain ⟨t1, t2⟩ := pExpr_tree hg h2g ms.length _ a4.lt (by omega) w5.1
  have c3 := want_on hg (t := [59]) c2.lt
  have l1 := b1.le
  have l2 : (nameS ms (df1 ms n s)).2.at_ = (df1 ms n s).at_ + 1 := by rw [z.2]; rfl
  have l3 := b3.le
  have l4 := b4.le
  have o1 := want_on hg (t := [41]) b4.lt
  have l5 : (df2 ms n s).2.at_ ≤ (df3 ms n s).at_ := (o1.trans (want_on hg o1.lt)).le
  have l6 : (df3 ms n s).at_ ≤ (df4 ms n s).at_ := (c1.trans (want_on hg c1.lt)).le
  have l7 := c2.le
  have l8 := c3.le
  have l4' : (wantS ms (nameS ms (df1 ms n s)).2 [40]).at_ ≤ (df2 ms n s).2.at_ := l4
  have r2' : (df2 ms n s).1.length + (wantS ms (nameS ms (df1 ms n s)).2 [40]).at_ ≤ (df2 ms n s).2.at_ := by have := r2; simp only [List.length_nil, Nat.add_zero] at this; exact this
  have e9 : (defS ms n s).2.at_ = (pExpr ms ms.length (df4 ms n s)).2.at_ + 1 := by
    show (wantS ms _ _).at_ = _; rw [w5.2.2]; rfl
  have l9 : (defS ms n s).2.at_ < ms.length := c3.lt
  refine ⟨⟨fun p hp => ?_, y.1, Ex.fine_mono (h2g.le (by omega) l9) _ t1, ?_⟩, ?_, ?_⟩
  · have := r1 p hp
    exact ⟨this.ty, this.pos.1, Int.lt_of_lt_of_le this.pos.2 (h2g.le (s := (df2 ms n s).2) (by omega) l9)⟩
  · show 0 ≤ (nameS ms (df1 ms n s)).1.pos ∧ (nameS ms (df1 ms n s)).1.pos < _
    rw [z.1]
    exact ⟨h2g.nn b1.lt, h2g.lt (by omega) l9⟩
  · show 1 + (df2 ms n s).1.length + (pExpr ms ms.length (df4 ms n s)).1.size + _ ≤ _
    omega
  · show _ ≤ (nameS ms (df1 ms n s)).1.pos
    rw [z.1]
    exact h2g.le (by omega) b1.lt
theorem program_tree (hg : Good ms) (h2g : Good2 ms) : ∀ (n : Nat) (acc : List Df) (s : St), s.at_ < ms.length → (programS ms n acc s).2.why = 0 →
    ∃ l, (programS ms n acc s).1 = acc ++ l ∧ fineP (nx ms s).pos l ∧ sizeP l + s.at_ ≤ (programS ms n acc s).2.at_ ∧ (0 < n → acc = [] → s.why = 0 → l ≠ [])
  | 0, acc, s, _, _ => ⟨[], by simp [programS], trivial, by simp [programS, sizeP], by simp⟩
  | n + 1, acc, s, h, hw => by
    simp only [programS] at hw ⊢
    by_cases hc : s.why = 0 ∧ (acc = [] ∨ (nx ms s).kind ≠ 4)
    · rw [if_pos hc] at hw ⊢
      have h1 := def_on hg (n := acc.length) h
      have h2 := program_on hg n (acc ++ [(defS ms acc.length s).1]) _ h1.lt
      obtain ⟨t1, t2, t3⟩ := def_tree hg h2g h (h2.ok hw)
      obtain ⟨l, r1, r2, r3, _⟩ := program_tree hg h2g n (acc ++ [(defS ms acc.length s).1]) _ h1.lt hw
      refine ⟨(defS ms acc.length s).1 :: l, by rw [r1]; simp, ⟨t3, _, t1, r2⟩, ?_, by simp⟩
      simp only [sizeP]; omega
    · rw [if_neg hc]
      refine ⟨[], by simp, trivial, by simp [sizeP], fun _ ha hw0 => ?_⟩
      exact absurd ⟨hw0, .inl ha⟩ hc
end

/-- A program as it is read. -/
structure FineP (p : List Df) : Prop where
  fine : fineP 0 p
  size : sizeP p ≤ 40000
  some : p ≠ []
theorem readS_fine {b : Bytes} (h : (readS b).2 = true) : FineP (readS b).1 := by
  have h' : (parseS b).2.1 = 0 := of_decide_eq_true h
  show FineP (parseS b).1
  clear h
  have h := h'
  clear h'
  simp only [parseS] at h ⊢
  by_cases hl : 32768 < b.length
  · rw [if_pos hl] at h; cases h
  · rw [if_neg hl] at h ⊢
    cases hm : marksS b (b.length + 1) 0 with
    | inr q => rw [hm] at h; simp at h
    | inl ms =>
      rw [hm] at h
      simp only at h ⊢
      split at h
      · rename_i hw; exact absurd h hw
      · rename_i hw
        rw [if_neg hw]
        have hg := marks_good (by omega) hm
        have h2g := marks_good2 hm
        obtain ⟨l, r1, r2, r3, r4⟩ := program_tree hg h2g (ms.length + 1) [] ⟨0, 0, 0, 0⟩ hg.pos (by simpa using hw)
        have h2 := program_on hg (ms.length + 1) [] ⟨0, 0, 0, 0⟩ hg.pos
        have hlt := h2.lt
        have hle := hg.le
        simp only [List.nil_append] at r1
        rw [r1]
        refine ⟨?_, ?_, r4 (by omega) rfl rfl⟩
        · cases l with
          | nil => trivial
          | cons f l =>
            refine ⟨?_, r2.2⟩
            have h0 := r2.1
            have h1 : 0 ≤ (nx ms ⟨0, 0, 0, 0⟩).pos := h2g.nn hg.pos
            omega
        · simp only at r3; omega
theorem sizeP_len : ∀ (l : List Df), l.length ≤ sizeP l
  | [] => by simp [sizeP]
  | f :: l => by have := sizeP_len l; simp [sizeP, Df.size]; omega
theorem sizeP_mem : ∀ {l : List Df} {f : Df}, f ∈ l → f.size ≤ sizeP l
  | [], _, h => by cases h
  | g :: l, f, h => by
    rcases List.mem_cons.1 h with rfl | h
    · simp [sizeP]
    · have := sizeP_mem h; simp [sizeP]; omega
theorem fineP_mem : ∀ {lo : Int} {l : List Df} {f : Df}, fineP lo l → f ∈ l → ∃ hi, f.fine hi
  | _, [], _, _, h => by cases h
  | _, g :: l, f, hf, h => by
    obtain ⟨_, hi, h1, h2⟩ := hf
    rcases List.mem_cons.1 h with rfl | h
    · exact ⟨hi, h1⟩
    · exact fineP_mem h2 h
end Go.AM

/- AM: lists as they are handed on, maps from names to numbers, what a function leaves as it was. -/
namespace Go.AM

/-! ### Lists that turn no more -/
section
variable {h : Hp}
@[simp] theorem aIa_rows (sz : Nat) (k : IntKind) (n : Int) (xs : List (List AV)) : aIa sz (rowsAV xs) (.int k n) h = if 0 ≤ n then (xs[n.toNat]?).bind fun e => if e.length = sz then some (.fp e) else none else none := by
  cases xs with
  | nil => simp [rowsAV, aIa]
  | cons x xs => exact aIa_fzs sz k n (x :: xs)
@[simp] theorem aLen_rows (xs : List (List AV)) : aLen .sl (rowsAV xs) h = some (.int .i64 xs.length) := by cases xs <;> rfl
@[simp] theorem elemsOf_rows (sz : Nat) (xs : List (List AV)) : elemsOf h sz (rowsAV xs) = if xs.all (·.length == sz) then some xs else none := by cases xs <;> rfl
theorem rowsAV_cons (x : List AV) (xs : List (List AV)) : rowsAV (x :: xs) = .fz (x :: xs) := rfl
theorem rowsAV_nil : rowsAV [] = .nl := rfl

theorem IsStrs.elems {v : AV} {l : List Bytes} (hs : IsStrs h v l) : elemsOf h 1 v = some (strRows l) := by
  have hall : ((strRows l).all fun x => x.length == 1) = true := by simp [strRows]
  rcases hs with rfl | rfl | ⟨id, e, rfl, ha⟩
  · rw [elemsOf_rows, if_pos hall]
  · rw [elemsOf_fzs, if_pos hall]
  · simp [ha]
    exact List.take_of_length_le (by simp)
/-- What was there is there. -/
def Keeps (h h' : Hp) : Prop := ∀ j, h j = .dead ∨ h' j = h j
theorem Keeps.refl (h : Hp) : Keeps h h := fun _ => .inr rfl
theorem Keeps.set {h1 : Hp} (hf : Keeps h h1) {j : Nat} {o : AObj} (hj : h j = .dead) : Keeps h (hset h1 j o) := fun i => by
  by_cases e : i = j
  · exact .inl (e ▸ hj)
  · simpa [e] using hf i
theorem Keeps.new {h1 : Hp} (hf : Keeps h h1) {j : Nat} {o : AObj} (hj : h1 j = .dead) : Keeps h (hset h1 j o) := hf.set (by
  rcases hf j with x | x
  · exact x
  · rw [← x]; exact hj)
theorem Keeps.trans {h1 h2 : Hp} (a : Keeps h h1) (b : Keeps h1 h2) : Keeps h h2 := fun j => by
  rcases a j with x | x
  · exact .inl x
  · rcases b j with y | y
    · exact .inl (by rw [← x]; exact y)
    · exact .inr (y.trans x)
theorem Keeps.at {h1 : Hp} (a : Keeps h h1) {j : Nat} {o : AObj} (hj : h j = o) (ho : o ≠ .dead) : h1 j = o := by
  rcases a j with x | x
  · exact absurd (hj.symm.trans x) ho
  · exact x.trans hj
theorem Keeps.dead {h1 : Hp} (a : Keeps h h1) {j : Nat} (hj : h1 j = .dead) : h j = .dead := by
  rcases a j with x | x
  · exact x
  · rw [← x]; exact hj
theorem Keeps.sub {h1 : Hp} (a : Keeps h h1) : Sub h h1 := fun j => by
  rcases a j with x | x
  · exact .inr x
  · exact .inl x.symm
theorem IsStrs.keep {h1 : Hp} {v : AV} {l : List Bytes} (hs : IsStrs h v l) (a : Keeps h h1) : IsStrs h1 v l := by
  rcases hs with x | x | ⟨id, e, x, ha⟩
  · exact .inl x
  · exact .inr (.inl x)
  · exact .inr (.inr ⟨id, e, x, a.at ha (by simp)⟩)
theorem IsStrs.rows (l : List Bytes) : IsStrs h (rowsAV (strRows l)) l := .inl rfl

/-! ### Lists of one's own that grow -/
theorem Own.push {h1 : Hp} {e sz b : Nat} {v : AV} {rows ys : List (List AV)} {K : AV → Hp → Prop} (ho : Own h h1 e sz v rows) (hf : Keeps h h1) (hlen : rows.length + ys.length ≤ 1000000) (hb : b ≤ 1000000)
    (hk : ∀ v' h2, Own h h2 e sz v' (rows ++ ys) → Keeps h h2 → (∀ j cs, h1 j = .cells cs → h2 j = .cells cs) → K v' h2) {u : Held K} : AApp e sz b v ys K h1 u := by
  have h2 : rows.length + ys.length ≤ 4611686018427387904 := by omega
  have h3 : (rows.length + ys.length) * b ≤ 140737488355328 := by
    have : (rows.length + ys.length) * b ≤ 1000000 * 1000000 := Nat.mul_le_mul hlen hb
    omega
  rcases ho with ⟨rfl, rfl⟩ | ⟨id, hn, hd, rfl, ha⟩
  · cases ys with
    | nil => exact hk _ _ (.inl ⟨rfl, rfl⟩) hf fun _ _ x => x
    | cons y ys =>
      refine ⟨by simpa using h2, by simpa using h3, fun id hid => hk _ _ (.inr ⟨id, by simp, hf.dead hid, rfl, by simp⟩) (hf.new hid) fun j cs hj => ?_⟩
      have : ¬ j = id := by rintro rfl; rw [hid] at hj; cases hj
      simp [this, hj]
  · refine ⟨rfl, ?_⟩
    rw [ha]
    refine ⟨rfl, rfl, Nat.le_refl _, h2, h3, fun id' hid' => ?_⟩
    rw [List.take_length]
    have hid2 : h id' = .dead := hf.dead hid'
    refine hk _ _ (.inr ⟨id', by simp [hn], hid2, by simp, by simp⟩) ((hf.set hd).set hid2) fun j cs hj => ?_
    have n2 : ¬ j = id := by rintro rfl; rw [ha] at hj; cases hj
    have n1 : ¬ j = id' := by
      rintro rfl
      rw [hj] at hid'; cases hid'
    simp [n1, n2, hj]
theorem Own.isStrs {h1 : Hp} {e : Nat} {v : AV} {l : List Bytes} (ho : Own h h1 e 1 v (strRows l)) : IsStrs h1 v l := by
  rcases ho with ⟨h1, rfl⟩ | ⟨id, hn, hd, rfl, ha⟩
  · have : l = [] := by simpa [strRows] using h1
    subst this; exact .inl rfl
  · exact .inr (.inr ⟨id, e, by simp, ha⟩)
theorem Own.elems {h1 : Hp} {e sz : Nat} {v : AV} {rows : List (List AV)} (ho : Own h h1 e sz v rows) (hr : ∀ r ∈ rows, r.length = sz) : elemsOf h1 sz v = some rows := by
  rcases ho with ⟨rfl, rfl⟩ | ⟨id, hn, hd, rfl, ha⟩
  · rfl
  · simp [ha]
theorem Own.keep {h1 h2 : Hp} {e sz : Nat} {v : AV} {rows : List (List AV)} (ho : Own h h1 e sz v rows) (hk : Keeps h1 h2) : Own h h2 e sz v rows := by
  rcases ho with x | ⟨id, hn, hd, rfl, ha⟩
  · exact .inl x
  · exact .inr ⟨id, hn, hd, rfl, hk.at ha (by simp)⟩
end

/-- What is no array of that kind is kept. -/
def KeepsE (e : Nat) (h h' : Hp) : Prop := ∀ j, h j = .dead ∨ h' j = h j ∨ ∃ sz xs, h j = .arr e sz xs
theorem KeepsE.cells {e : Nat} {h h' : Hp} (a : KeepsE e h h') {j : Nat} {cs : List AV} (hj : h j = .cells cs) : h' j = .cells cs := by
  rcases a j with x | x | ⟨_, _, x⟩
  · rw [hj] at x; cases x
  · rw [x, hj]
  · rw [hj] at x; cases x
theorem KeepsE.map {e : Nat} {h h' : Hp} (a : KeepsE e h h') {j : Nat} {es : List (AV × AV)} (hj : h j = .map es) : h' j = .map es := by
  rcases a j with x | x | ⟨_, _, x⟩
  · rw [hj] at x; cases x
  · rw [x, hj]
  · rw [hj] at x; cases x
theorem KeepsE.arr {e : Nat} {h h' : Hp} (a : KeepsE e h h') {j e' sz : Nat} {xs : List (List AV)} (hj : h j = .arr e' sz xs) (hne : e' ≠ e) : h' j = .arr e' sz xs := by
  rcases a j with x | x | ⟨_, _, x⟩
  · rw [hj] at x; cases x
  · rw [x, hj]
  · rw [hj] at x; cases x; exact absurd rfl hne
theorem KeepsE.own {e : Nat} {h h1 h2 : Hp} (a : KeepsE e h1 h2) {e' sz : Nat} {v : AV} {rows : List (List AV)} (ho : Own h h1 e' sz v rows) (hne : e' ≠ e) : Own h h2 e' sz v rows := by
  rcases ho with x | ⟨id, hn, hd, rfl, ha⟩
  · exact .inl x
  · exact .inr ⟨id, hn, hd, rfl, a.arr ha hne⟩
theorem Own.pushE {h h1 : Hp} {e sz b : Nat} {v : AV} {rows ys : List (List AV)} {K : AV → Hp → Prop} (ho : Own h h1 e sz v rows) (hf : Keeps h h1) (hlen : rows.length + ys.length ≤ 1000000) (hb : b ≤ 1000000)
    (hk : ∀ v' h2, Own h h2 e sz v' (rows ++ ys) → Keeps h h2 → KeepsE e h1 h2 → K v' h2) {u : Held K} : AApp e sz b v ys K h1 u := by
  have h2 : rows.length + ys.length ≤ 4611686018427387904 := by omega
  have h3 : (rows.length + ys.length) * b ≤ 140737488355328 := by
    have : (rows.length + ys.length) * b ≤ 1000000 * 1000000 := Nat.mul_le_mul hlen hb
    omega
  have new : ∀ (hh : Hp) j o, hh j = .dead → KeepsE e h1 hh → h1 j = .dead → KeepsE e h1 (hset hh j o) := fun hh j o _ k hd i => by
    by_cases ei : i = j
    · exact .inl (ei ▸ hd)
    · simpa [ei] using k i
  rcases ho with ⟨rfl, rfl⟩ | ⟨id, hn, hd, rfl, ha⟩
  · cases ys with
    | nil => exact hk _ _ (.inl ⟨rfl, rfl⟩) hf fun _ => .inr (.inl rfl)
    | cons y ys =>
      exact ⟨by simpa using h2, by simpa using h3, fun id hid => hk _ _ (.inr ⟨id, by simp, hf.dead hid, rfl, by simp⟩) (hf.new hid) (new _ _ _ hid (fun _ => .inr (.inl rfl)) hid)⟩
  · refine ⟨rfl, ?_⟩
    rw [ha]
    refine ⟨rfl, rfl, Nat.le_refl _, h2, h3, fun id' hid' => ?_⟩
    rw [List.take_length]
    have hid2 : h id' = .dead := hf.dead hid'
    refine hk _ _ (.inr ⟨id', by simp [hn], hid2, by simp, by simp⟩) ((hf.set hd).set hid2) fun j => ?_
    by_cases e1 : j = id'
    · exact .inl (e1 ▸ hid')
    · by_cases e2 : j = id
      · exact .inr (.inr ⟨_, _, e2 ▸ ha⟩)
      · exact .inr (.inl (by simp [e1, e2]))
theorem at_new {h : Hp} {i j : Nat} {o o' : AObj} (hi : h i = o) (ho : o ≠ .dead) (hj : h j = .dead) : hset h j o' i = o := by
  have : ¬ i = j := by rintro rfl; exact ho (hi.symm.trans hj)
  simp [this, hi]
theorem cells_new {h : Hp} {i j : Nat} {cs : List AV} {o' : AObj} (hi : h i = .cells cs) (hj : h j = .dead) : hset h j o' i = .cells cs := at_new hi (by simp) hj
theorem cells_ne {h : Hp} {i j : Nat} {cs : List AV} (hi : h i = .cells cs) (hj : h j = .dead) : ¬ i = j := by rintro rfl; rw [hi] at hj; cases hj
theorem hset_ne {h : Hp} {i j : Nat} {cs : List AV} (hd : hset h i (.cells cs) j = .dead) : ¬ i = j := by rintro rfl; simp at hd
theorem map_ne {h : Hp} {i j : Nat} {es : List (AV × AV)} (hi : h i = .map es) (hj : h j = .dead) : ¬ i = j := by rintro rfl; rw [hi] at hj; cases hj
theorem Own.new {h h1 : Hp} {e sz : Nat} {v : AV} {rows : List (List AV)} (ho : Own h h1 e sz v rows) {j : Nat} {o : AObj} (hj : h1 j = .dead) : Own h (hset h1 j o) e sz v rows := by
  rcases ho with x | ⟨id, hn, hd, rfl, ha⟩
  · exact .inl x
  · exact .inr ⟨id, hn, hd, rfl, at_new ha (by simp) hj⟩

/-! ### A branch whose two ways meet again -/
theorem ThenB.cut {P : Program} {b : Bool} {x y : ACode} {Q : AExit → Tm → Hp → Prop} {tm : Tm} {h : Hp} (M : Tm → Hp → Prop)
    (ht : b = true → AW P x (fun e tm h => match e with | .normal => M tm h | e => Q e tm h) tm h) (hf : b = false → AW P y (fun e tm h => match e with | .normal => M tm h | e => Q e tm h) tm h)
    (hz : ∀ tm h, M tm h → Q .normal tm h) {u1 : Held (AW P x Q tm h)} {u2 : Held (AW P y Q tm h)} : ThenB (.bool b) (AW P x Q tm h) (AW P y Q tm h) u1 u2 := by
  have key : AW P (if b then x else y) Q tm h := by
    refine AW.mono (Q1 := fun e tm h => match e with | .normal => M tm h | e => Q e tm h) ?_ ?_
    · intro e tm h
      cases e with
      | normal => exact hz tm h
      | exit i => exact id
      | ret => exact id
    · cases b
      · exact hf rfl
      · exact ht rfl
  cases b
  · exact key
  · exact key

/-! ### Maps from names to numbers -/
abbrev Mp := List (Bytes × Int)
def mapAV (m : Mp) : List (AV × AV) := m.map fun kv => (.str kv.1, .int .i64 kv.2)
def getM : Mp → Bytes → Int
  | [], _ => 0
  | kv :: m, k => if k = kv.1 then kv.2 else getM m k
def putM (k : Bytes) (v : Int) : Mp → Mp
  | [] => [(k, v)]
  | kv :: m => if k = kv.1 then (k, v) :: m else kv :: putM k v m
theorem getM_putM (k : Bytes) (v : Int) : ∀ (m : Mp) (k' : Bytes), getM (putM k v m) k' = if k' = k then v else getM m k'
  | [], k' => by simp [putM, getM]
  | kv :: m, k' => by
    simp only [putM]
    by_cases h : k = kv.1
    · subst h
      rw [if_pos rfl]
      simp only [getM]
      by_cases h2 : k' = kv.1
      · simp [h2]
      · simp [h2]
    · rw [if_neg h]
      simp only [getM]
      by_cases h2 : k' = kv.1
      · have : ¬ k' = k := fun e => h (e ▸ h2)
        simp only [if_pos h2, if_neg this]
      · simp only [if_neg h2]
        exact getM_putM k v m k'
def hasM : Mp → Bytes → Bool
  | [], _ => false
  | kv :: m, k => if k = kv.1 then true else hasM m k
def lookM (m : Mp) (k : Bytes) : Option AV := if hasM m k then some (.int .i64 (getM m k)) else none
@[simp] theorem findK_mapAV (k : Bytes) : ∀ (m : Mp), findK false (.str k) (mapAV m) = some (lookM m k)
  | [] => rfl
  | kv :: m => by
    have ih := findK_mapAV k m
    simp only [lookM] at ih
    simp only [mapAV, List.map_cons, findK, hasM, getM, lookM]
    have hk : keyEq false (.str k) (.str kv.1) = some (decide (k = kv.1)) := by simp only [keyEq]; rw [← Bool.beq_eq_decide_eq]
    rw [hk]
    by_cases h : k = kv.1
    · simp [h]
    · simp only [h, decide_false, if_false]; exact ih
theorem getM_has {m : Mp} {k : Bytes} (h : hasM m k = false) : getM m k = 0 := by
  induction m with
  | nil => rfl
  | cons kv m ih =>
    simp only [hasM] at h
    by_cases e : k = kv.1
    · simp [e] at h
    · rw [if_neg e] at h; simp only [getM, if_neg e]; exact ih h
@[simp] theorem lookM_some (m : Mp) (k : Bytes) : (lookM m k).isSome = hasM m k := by simp only [lookM]; cases hasM m k <;> rfl
@[simp] theorem lookM_getD (m : Mp) (k : Bytes) : (lookM m k).getD (.int .i64 0) = .int .i64 (getM m k) := by
  simp only [lookM]
  cases h : hasM m k
  · simp [getM_has h]
  · simp
@[simp] theorem putK_mapAV (k : Bytes) (v : Int) : ∀ (m : Mp), putK false (.str k) (.int .i64 v) (mapAV m) = some (mapAV (putM k v m))
  | [] => rfl
  | kv :: m => by
    simp only [mapAV, List.map_cons, putK, putM]
    have hk : keyEq false (.str k) (.str kv.1) = some (decide (k = kv.1)) := by simp only [keyEq]; rw [← Bool.beq_eq_decide_eq]
    rw [hk]
    by_cases h : k = kv.1
    · simp [h]
    · have := putK_mapAV k v m
      simp only [mapAV] at this
      simp [h, this]
/-! ### What trees and definitions hold -/
@[simp] theorem Ex.c0 {e : Ex} {h : 0 < e.cells.length} : e.cells[0] = .int .i64 e.op := by cases e; rfl
@[simp] theorem Ex.c1 {e : Ex} {h : 1 < e.cells.length} : e.cells[1] = .str e.name := by cases e; rfl
@[simp] theorem Ex.c2 {e : Ex} {h : 2 < e.cells.length} : e.cells[2] = .str e.tail := by cases e; rfl
@[simp] theorem Ex.c3 {e : Ex} {h : 3 < e.cells.length} : e.cells[3] = .int .i64 e.ty := by cases e; rfl
@[simp] theorem Ex.c5 {e : Ex} {h : 5 < e.cells.length} : e.cells[5] = rowsAV (e.args.map Ex.cells) := by cases e; simp [Ex.cells, Ex.rows_map, Ex.args]
@[simp] theorem Ex.c6 {e : Ex} {h : 6 < e.cells.length} : e.cells[6] = .int .i64 e.pos := by cases e; rfl
@[simp] theorem Pm.c0 {p : Pm} {h : 0 < p.cells.length} : p.cells[0] = .str p.name := rfl
@[simp] theorem Pm.c1 {p : Pm} {h : 1 < p.cells.length} : p.cells[1] = .int .i64 p.ty := rfl
@[simp] theorem Pm.c2 {p : Pm} {h : 2 < p.cells.length} : p.cells[2] = .int .i64 p.pos := rfl
@[simp] theorem Ex.q0 {e : Ex} : e.cells[0]? = some (.int .i64 e.op) := by cases e; rfl
@[simp] theorem Ex.q1 {e : Ex} : e.cells[1]? = some (.str e.name) := by cases e; rfl
@[simp] theorem Ex.q2 {e : Ex} : e.cells[2]? = some (.str e.tail) := by cases e; rfl
@[simp] theorem Ex.q3 {e : Ex} : e.cells[3]? = some (.int .i64 e.ty) := by cases e; rfl
@[simp] theorem Ex.q5 {e : Ex} : e.cells[5]? = some (rowsAV (e.args.map Ex.cells)) := by cases e; simp [Ex.cells, Ex.rows_map, Ex.args]
@[simp] theorem Ex.q6 {e : Ex} : e.cells[6]? = some (.int .i64 e.pos) := by cases e; rfl
@[simp] theorem Pm.q0 {p : Pm} : p.cells[0]? = some (.str p.name) := rfl
@[simp] theorem Pm.q1 {p : Pm} : p.cells[1]? = some (.int .i64 p.ty) := rfl
@[simp] theorem Pm.q2 {p : Pm} : p.cells[2]? = some (.int .i64 p.pos) := rfl
@[simp] theorem Df.q0 {f : Df} : f.cells[0]? = some (.str f.name) := rfl
@[simp] theorem Df.q1 {f : Df} : f.cells[1]? = some (rowsAV (f.params.map Pm.cells)) := rfl
@[simp] theorem Df.q2 {f : Df} : f.cells[2]? = some (.int .i64 f.ty) := rfl
@[simp] theorem Df.q10 {f : Df} : f.cells[10]? = some (.int .i64 f.pos) := by
  obtain ⟨a, b, c, d, e⟩ := f; cases d; rfl
@[simp] theorem Pm.take3 (p : Pm) : p.cells.take 3 = p.cells := rfl
@[simp] theorem Pm.drop3 (p : Pm) : p.cells.drop 3 = [] := rfl
@[simp] theorem Df.c0 {f : Df} {h : 0 < f.cells.length} : f.cells[0] = .str f.name := rfl
@[simp] theorem Df.c1 {f : Df} {h : 1 < f.cells.length} : f.cells[1] = rowsAV (f.params.map Pm.cells) := rfl
@[simp] theorem Df.c2 {f : Df} {h : 2 < f.cells.length} : f.cells[2] = .int .i64 f.ty := rfl
@[simp] theorem Df.c10 {f : Df} {h : 10 < f.cells.length} : f.cells[10] = .int .i64 f.pos := by
  obtain ⟨a, b, c, d, e⟩ := f; cases d; rfl
@[simp] theorem Df.take11 (f : Df) : f.cells.take 11 = f.cells := List.take_of_length_le (by simp)
@[simp] theorem Df.drop11 (f : Df) : f.cells.drop 11 = [] := List.drop_eq_nil_of_le (by simp)
@[simp] theorem Df.body7 (f : Df) : (f.cells.drop 3).take 7 = f.body.cells := by
  obtain ⟨a, b, c, d, e⟩ := f; cases d; rfl
end Go.AM

/- AM: names in programs, as the document's answer has them. -/
namespace Go.AM

def Ex.use (names : List Bytes) (e : Ex) : List (Ex × Bool) :=
  if e.op = 6 ∨ e.op = 7 then [(e, decide (e.op = 6) && !decide (e.name ∈ names))] else []
mutual
def seenS (names : List Bytes) : Ex → List (Ex × Bool)
  | .mk op name tail ty re im args pos => Ex.use names (.mk op name tail ty re im args pos) ++ seenL names (.mk op name tail ty re im args pos) 0 args
def seenL (names : List Bytes) (p : Ex) (i : Nat) : List Ex → List (Ex × Bool)
  | [] => []
  | a :: l => seenS (names ++ boundS p i) a ++ seenL names p (i + 1) l
end
theorem seenS_eq (names : List Bytes) (e : Ex) : seenS names e = Ex.use names e ++ seenL names e 0 e.args := by cases e; simp only [seenS]; rfl
def seenRow (x : Ex × Bool) : List AV := x.1.cells ++ [.bool x.2]
@[simp] theorem seenRow_length (x : Ex × Bool) : (seenRow x).length = 8 := by simp [seenRow]
theorem use_length (names : List Bytes) (e : Ex) : (Ex.use names e).length ≤ 1 := by simp only [Ex.use]; split <;> simp
mutual
theorem seenS_length (names : List Bytes) : ∀ (e : Ex), (seenS names e).length ≤ e.size
  | .mk op name tail ty re im args pos => by
    have h1 := use_length names (.mk op name tail ty re im args pos)
    have h2 := seenL_length names (.mk op name tail ty re im args pos) 0 args
    simp only [seenS, List.length_append, Ex.size]
    omega
theorem seenL_length (names : List Bytes) (p : Ex) (i : Nat) : ∀ (l : List Ex), (seenL names p i l).length ≤ Ex.sizeL l
  | [] => by simp [seenL]
  | a :: l => by
    have h1 := seenS_length (names ++ boundS p i) a
    have h2 := seenL_length names p (i + 1) l
    simp only [seenL, List.length_append, Ex.sizeL]
    omega
end
theorem seenL_snoc (names : List Bytes) (p : Ex) : ∀ (l : List Ex) (i : Nat) (a : Ex), seenL names p i (l ++ [a]) = seenL names p i l ++ seenS (names ++ boundS p ((i + l.length : Nat) : Int)) a
  | [], i, a => by simp [seenL]
  | b :: l, i, a => by
    have h := seenL_snoc names p l (i + 1) a
    simp only [List.cons_append, seenL, h, List.append_assoc, List.length_cons]
    rw [show i + 1 + l.length = i + (l.length + 1) by omega]
theorem boundS_length (e : Ex) (i : Int) : (boundS e i).length ≤ 2 := by simp only [boundS]; split; · simp
                                                                         split <;> simp

abbrev Flt := Int × Int
def fltRow (f : Flt) : List AV := [.int .i64 f.1, .int .i64 f.2]
/-- What is wrong with one use of a name. -/
def useF (p : List Df) (x : Ex × Bool) : List Flt :=
  (if x.2 = true then [(31, x.1.pos)] else []) ++
  (if x.1.op ≠ 7 then [] else if headsS x.1.name p 0 < 0 then [(32, x.1.pos)] else if (p.getD (headsS x.1.name p 0).toNat ⟨[], [], 0, ex0, 0⟩).params.length ≠ x.1.args.length then [(33, x.1.pos)] else [])
def usesF (p : List Df) (l : List (Ex × Bool)) : List Flt := l.flatMap (useF p)
def parF (acc : List Bytes) : List Pm → List Flt
  | [] => []
  | x :: l => (if x.name ∈ acc then [(30, x.pos)] else []) ++ parF (acc ++ [x.name]) l
def pnames (l : List Pm) : List Bytes := l.map Pm.name
def faultF (p : List Df) (i : Nat) (f : Df) : List Flt :=
  (if headsS f.name p 0 < i then [(30, f.pos)] else []) ++ parF [] f.params ++ usesF p (seenS (pnames f.params) f.body)
def faultsL (p : List Df) (i : Nat) : List Df → List Flt
  | [] => []
  | f :: l => faultF p i f ++ faultsL p (i + 1) l
theorem useF_length (p : List Df) (x : Ex × Bool) : (useF p x).length ≤ 2 := by
  simp only [useF, List.length_append]
  have h1 : (if x.2 = true then [((31 : Int), x.1.pos)] else []).length ≤ 1 := by split <;> simp
  have h2 : (if x.1.op ≠ 7 then [] else if headsS x.1.name p 0 < 0 then [((32 : Int), x.1.pos)] else if (p.getD (headsS x.1.name p 0).toNat ⟨[], [], 0, ex0, 0⟩).params.length ≠ x.1.args.length then [(33, x.1.pos)] else []).length ≤ 1 := by
    split
    · simp
    · split
      · simp
      · split <;> simp
  omega
theorem usesF_length (p : List Df) : ∀ (l : List (Ex × Bool)), (usesF p l).length ≤ 2 * l.length
  | [] => by simp [usesF]
  | x :: l => by
    have h1 := useF_length p x
    have h2 := usesF_length p l
    simp only [usesF, List.flatMap_cons, List.length_append, List.length_cons] at h2 ⊢
    omega
theorem usesF_snoc (p : List Df) (l : List (Ex × Bool)) (x : Ex × Bool) : usesF p (l ++ [x]) = usesF p l ++ useF p x := by simp [usesF]
theorem parF_length : ∀ (l : List Pm) (acc : List Bytes), (parF acc l).length ≤ l.length
  | [], _ => by simp [parF]
  | x :: l, acc => by
    have h := parF_length l (acc ++ [x.name])
    simp only [parF, List.length_append, List.length_cons]
    split <;> simp <;> omega
theorem parF_snoc : ∀ (l : List Pm) (acc : List Bytes) (x : Pm), parF acc (l ++ [x]) = parF acc l ++ (if x.name ∈ acc ++ pnames l then [(30, x.pos)] else [])
  | [], acc, x => by simp [parF, pnames]
  | y :: l, acc, x => by
    have h := parF_snoc l (acc ++ [y.name]) x
    simp only [List.cons_append, parF, h, List.append_assoc]
    rfl
theorem faultF_length (p : List Df) (i : Nat) (f : Df) : (faultF p i f).length ≤ 2 * f.size := by
  have h1 : (if headsS f.name p 0 < i then [((30 : Int), f.pos)] else []).length ≤ 1 := by split <;> simp
  have h2 := parF_length f.params []
  have h3 := usesF_length p (seenS (pnames f.params) f.body)
  have h4 := seenS_length (pnames f.params) f.body
  simp only [faultF, List.length_append, Df.size]
  omega
theorem faultsL_length (p : List Df) : ∀ (l : List Df) (i : Nat), (faultsL p i l).length ≤ 2 * sizeP l
  | [], _ => by simp [faultsL]
  | f :: l, i => by
    have h1 := faultF_length p i f
    have h2 := faultsL_length p l (i + 1)
    simp only [faultsL, List.length_append, sizeP]
    omega
theorem faultsL_snoc (p : List Df) : ∀ (l : List Df) (i : Nat) (f : Df), faultsL p i (l ++ [f]) = faultsL p i l ++ faultF p (i + l.length) f
  | [], i, f => by simp [faultsL]
  | g :: l, i, f => by
    have h := faultsL_snoc p l (i + 1) f
    simp only [List.cons_append, faultsL, h, List.append_assoc, List.length_cons]
    rw [show i + 1 + l.length = i + (l.length + 1) by omega]
theorem sizeP_append : ∀ (a b : List Df), sizeP (a ++ b) = sizeP a + sizeP b
  | [], b => by simp [sizeP]
  | f :: a, b => by simp only [List.cons_append, sizeP, sizeP_append a b]; omega
theorem sizeP_take (l : List Df) (n : Nat) : sizeP (l.take n) ≤ sizeP l := by
  have := sizeP_append (l.take n) (l.drop n)
  rw [List.take_append_drop] at this; omega
theorem take_snoc {α : Type} (l : List α) {i : Nat} (h : i < l.length) : l.take (i + 1) = l.take i ++ [l[i]] := by simp
theorem headsS_lt (n : Bytes) : ∀ (l : List Df) (i : Nat), headsS n l i = -1 ∨ ∃ k, ∃ h : k < l.length, headsS n l i = ((i + k : Nat) : Int) ∧ l[k].name = n
  | [], i => .inl rfl
  | f :: l, i => by
    simp only [headsS]
    by_cases h : f.name = n
    · rw [if_pos h]; exact .inr ⟨0, by simp, by simp, h⟩
    · rw [if_neg h]
      rcases headsS_lt n l (i + 1) with e | ⟨k, hk, e1, e2⟩
      · exact .inl e
      · exact .inr ⟨k + 1, by simp; omega, by rw [e1]; congr 1; omega, by simpa using e2⟩
theorem headsS_at {n : Bytes} {l : List Df} (h : ¬ headsS n l 0 < 0) : ∃ k, ∃ hk : k < l.length, headsS n l 0 = (k : Int) ∧ l[k].name = n := by
  rcases headsS_lt n l 0 with e | ⟨k, hk, e1, e2⟩
  · omega
  · exact ⟨k, hk, by simpa using e1, e2⟩
/-- The least of faults. -/
def least (f : Flt) (l : List Flt) : Flt := l.foldl (fun f x => if f.1 = 0 ∨ x.2 < f.2 then x else f) f
def faultsS (p : List Df) : List Flt := faultsL p 0 p
def check06 (p : List Df) : Flt := least (0, 0) (faultsS p)
end Go.AM

/- AM: types, as the document's answer has them. -/
namespace Go.AM

def df0 : Df := ⟨[], [], 0, ex0, 0⟩
def headD (n : Bytes) : List Df → Option Df
  | [] => none
  | f :: l => if f.name = n then some f else headD n l
theorem headD_mem {n : Bytes} : ∀ {l : List Df} {f : Df}, headD n l = some f → f ∈ l ∧ f.name = n
  | [], _, h => by cases h
  | g :: l, f, h => by
    simp only [headD] at h
    split at h
    · rename_i e; cases h; exact ⟨by simp, e⟩
    · have := headD_mem h; exact ⟨by simp [this.1], this.2⟩
/-- The type of a variable: the last one of that name. -/
def lastT (n : Bytes) : List Pm → Option Int
  | [] => none
  | x :: l => match lastT n l with
    | some t => some t
    | none => if x.name = n then some x.ty else none
theorem lastT_snoc (n : Bytes) : ∀ (l : List Pm) (x : Pm), lastT n (l ++ [x]) = if x.name = n then some x.ty else lastT n l
  | [], x => by simp [lastT]
  | y :: l, x => by
    simp only [List.cons_append, lastT, lastT_snoc n l x]
    by_cases h : x.name = n
    · simp [h]
    · simp [h]
def pmRows (l : List Pm) : AV := rowsAV (l.map Pm.cells)

section
variable (p : List Df)
def ownS (env : List Pm) (e : Ex) : Int × Bool :=
  if e.op = 1 ∨ e.op = 8 ∨ e.op = 9 ∨ e.op = 10 ∨ e.op = 11 ∨ e.op = 15 ∨ e.op = 16 ∨ e.op = 17 then (1, true)
  else if e.op = 2 ∨ e.op = 3 ∨ e.op = 12 ∨ e.op = 13 ∨ e.op = 14 then (2, true)
  else if e.op = 4 ∨ e.op = 18 then (3, true)
  else if e.op = 5 then (e.ty, true)
  else if e.op = 6 then ((lastT e.name env).getD (-1), true)
  else if e.op = 7 then ((match headD e.name p with | some f => if f.params.length ≠ e.args.length then -1 else f.ty | none => -1), true)
  else (0, false)
def wantedS (e : Ex) (i : Nat) (t : Int) : Int :=
  if e.op = 14 then 2
  else if e.op = 18 then (if i = 1 then 3 else 1)
  else if e.op = 7 then (match headD e.name p with | some f => (match f.params[i]? with | some x => x.ty | none => 1) | none => 1)
  else if e.op = 19 then (if i = 0 then 2 else t)
  else if e.op = 20 then (if i = 0 then 3 else t)
  else if e.op = 21 ∨ e.op = 22 then (if i = 0 then e.ty else t)
  else 1
def withinS (env : List Pm) (e : Ex) (i : Nat) : List Pm :=
  if e.op = 21 ∨ (e.op = 22 ∧ i = 1) then env ++ [⟨e.name, e.ty, 0⟩]
  else if e.op = 20 ∧ i = 2 then env ++ [⟨e.name, 1, 0⟩] ++ [⟨e.tail, 3, 0⟩]
  else env
def ownW (env : List Pm) (e : Ex) (t : Int) : List Int := if (ownS p env e).2 = true ∧ (ownS p env e).1 ≠ t then [e.pos] else []
mutual
def wrongS (env : List Pm) (t : Int) : Ex → List Int
  | .mk op name tail ty re im args pos => ownW p env (.mk op name tail ty re im args pos) t ++ wrongL env (.mk op name tail ty re im args pos) t 0 args
def wrongL (env : List Pm) (e : Ex) (t : Int) (i : Nat) : List Ex → List Int
  | [] => []
  | a :: l => wrongS (withinS env e i) (wantedS p e i t) a ++ wrongL env e t (i + 1) l
end
theorem wrongS_eq (env : List Pm) (t : Int) (e : Ex) : wrongS p env t e = ownW p env e t ++ wrongL p env e t 0 e.args := by cases e; simp only [wrongS]; rfl
theorem wrongL_snoc (env : List Pm) (e : Ex) (t : Int) : ∀ (l : List Ex) (i : Nat) (a : Ex), wrongL p env e t i (l ++ [a]) = wrongL p env e t i l ++ wrongS p (withinS env e (i + l.length)) (wantedS p e (i + l.length) t) a
  | [], i, a => by simp [wrongL]
  | b :: l, i, a => by
    have h := wrongL_snoc env e t l (i + 1) a
    simp only [List.cons_append, wrongL, h, List.append_assoc, List.length_cons]
    rw [show i + 1 + l.length = i + (l.length + 1) by omega]
theorem ownW_length (env : List Pm) (e : Ex) (t : Int) : (ownW p env e t).length ≤ 1 := by simp only [ownW]; split <;> simp
mutual
theorem wrongS_length : ∀ (e : Ex) (env : List Pm) (t : Int), (wrongS p env t e).length ≤ e.size
  | .mk op name tail ty re im args pos, env, t => by
    have h1 := ownW_length p env (.mk op name tail ty re im args pos) t
    have h2 := wrongL_length args env (.mk op name tail ty re im args pos) t 0
    simp only [wrongS, List.length_append, Ex.size]
    omega
theorem wrongL_length : ∀ (l : List Ex) (env : List Pm) (e : Ex) (t : Int) (i : Nat), (wrongL p env e t i l).length ≤ Ex.sizeL l
  | [], _, _, _, _ => by simp [wrongL]
  | a :: l, env, e, t, i => by
    have h1 := wrongS_length a (withinS env e i) (wantedS p e i t)
    have h2 := wrongL_length l env e t (i + 1)
    simp only [wrongL, List.length_append, Ex.sizeL]
    omega
end
theorem withinS_length (env : List Pm) (e : Ex) (i : Nat) : (withinS env e i).length ≤ env.length + 2 := by
  simp only [withinS]; split; · simp
  split <;> simp
def tell7 (f : Flt) (x : Int) : Flt := if f.1 = 0 ∨ x < f.2 then (34, x) else f
def wrongP : List Df → List Int
  | [] => []
  | f :: l => wrongS p f.params f.ty f.body ++ wrongP l
theorem wrongP_snoc : ∀ (l : List Df) (f : Df), wrongP p (l ++ [f]) = wrongP p l ++ wrongS p f.params f.ty f.body
  | [], f => by simp [wrongP]
  | g :: l, f => by simp [wrongP, wrongP_snoc l f]
def check07 : Flt := if (check06 p).1 ≠ 0 then check06 p else (wrongP p p).foldl tell7 (check06 p)
end
def intRows (l : List Int) : List (List AV) := l.map fun x => [.int .i64 x]
@[simp] theorem intRows_length (l : List Int) : (intRows l).length = l.length := by simp [intRows]
@[simp] theorem intRows_all (l : List Int) : ((intRows l).all fun x => x.length == 1) = true := by simp [intRows]
theorem intRows_append (a b : List Int) : intRows (a ++ b) = intRows a ++ intRows b := by simp [intRows]
end Go.AM

/- AM: names in programs, as the program has them. -/
namespace Go.AM

/-- What is not among these objects is kept. -/
def KeepsX (S : List Nat) (h h' : Hp) : Prop := ∀ j, j ∉ S → h j = .dead ∨ h' j = h j
section
variable {S : List Nat} {h h1 h2 : Hp}
theorem KeepsX.refl : KeepsX S h h := fun _ _ => .inr rfl
theorem KeepsX.set (a : KeepsX S h h1) {j : Nat} {o : AObj} (hj : h j = .dead) : KeepsX S h (hset h1 j o) := fun i hi => by
  by_cases e : i = j
  · exact .inl (e ▸ hj)
  · simpa [e] using a i hi
theorem KeepsX.mem (a : KeepsX S h h1) {j : Nat} {o : AObj} (hj : j ∈ S) : KeepsX S h (hset h1 j o) := fun i hi => by
  have e : ¬ i = j := by rintro rfl; exact hi hj
  simpa [e] using a i hi
theorem KeepsX.new (a : KeepsX S h h1) {j : Nat} {o : AObj} (hj : h1 j = .dead) : KeepsX S h (hset h1 j o) := fun i hi => by
  by_cases e : i = j
  · subst e
    rcases a i hi with x | x
    · exact .inl x
    · exact .inl (by rw [← x]; exact hj)
  · simpa [e] using a i hi
theorem KeepsX.trans (a : KeepsX S h h1) (b : KeepsX S h1 h2) : KeepsX S h h2 := fun j hj => by
  rcases a j hj with x | x
  · exact .inl x
  · rcases b j hj with y | y
    · exact .inl (by rw [← x]; exact y)
    · exact .inr (y.trans x)
theorem KeepsX.at (a : KeepsX S h h1) {j : Nat} {o : AObj} (hj : h j = o) (ho : o ≠ .dead) (hs : j ∉ S) : h1 j = o := by
  rcases a j hs with x | x
  · exact absurd (hj.symm.trans x) ho
  · exact x.trans hj
theorem KeepsX.dead (a : KeepsX S h h1) {j : Nat} (hj : h1 j = .dead) (hs : j ∉ S) : h j = .dead := by
  rcases a j hs with x | x
  · exact x
  · rw [← x]; exact hj
theorem Keeps.x (a : Keeps h h1) : KeepsX S h h1 := fun j _ => a j
theorem KeepsX.sub2 {a b : Nat} {x y : AObj} (k : KeepsX [a, b] h h1) (hne : ¬ a = b) (ha : h1 a = x) (hb : h1 b = y) : Sub (hset (hset h a x) b y) h1 := fun j => by
  by_cases e2 : j = b
  · subst e2; exact .inl (by simp [hb])
  by_cases e1 : j = a
  · subst e1; exact .inl (by simp [e2, ha])
  rcases k j (by simp [e1, e2]) with z | z
  · exact .inr (by simpa [e1, e2] using z)
  · exact .inl (by simp [e1, e2, z])
theorem KeepsX.sub1 {a : Nat} {x : AObj} (k : KeepsX [a] h h1) (ha : h1 a = x) : Sub (hset h a x) h1 := fun j => by
  by_cases e1 : j = a
  · subst e1; exact .inl (by simp [ha])
  rcases k j (by simp [e1]) with z | z
  · exact .inr (by simpa [e1] using z)
  · exact .inl (by simp [e1, z])
end

/-- How often each name is bound. -/
def NmOK (m : Mp) (names : List Bytes) : Prop := ∀ nm, getM m nm = (names.count nm : Int)
theorem NmOK.nil : NmOK [] [] := fun _ => rfl
theorem NmOK.inc {m : Mp} {names : List Bytes} (h : NmOK m names) (n : Bytes) : NmOK (putM n (getM m n + 1) m) (names ++ [n]) := fun nm => by
  rw [getM_putM, List.count_append]
  by_cases e : nm = n
  · subst e; simp [h nm]
  · have : ¬ n = nm := fun x => e x.symm
    simp [e, h nm, List.count_singleton, this]
theorem NmOK.dec {m : Mp} {names l : List Bytes} {n : Bytes} (h : NmOK m (names ++ n :: l)) : NmOK (putM n (getM m n - 1) m) (names ++ l) := fun nm => by
  rw [getM_putM, List.count_append]
  have h' := h nm
  rw [List.count_append, List.count_cons] at h'
  by_cases e : nm = n
  · subst e
    simp at h' ⊢
    omega
  · have : ¬ n = nm := fun x => e x.symm
    simp [this] at h'
    simp [e, h']
theorem NmOK.zero {m : Mp} {names : List Bytes} (h : NmOK m names) (n : Bytes) : getM m n = 0 ↔ n ∉ names := by
  rw [h n]
  have := List.count_eq_zero (a := n) (l := names)
  rw [← this]
  omega
theorem NmOK.le {m : Mp} {names : List Bytes} (h : NmOK m names) (n : Bytes) : 0 ≤ getM m n ∧ getM m n ≤ names.length := by
  rw [h n]
  have := List.count_le_length (a := n) (l := names)
  omega

/-- Where the functions stand. -/
def PlOK (m : Mp) (p : List Df) : Prop := ∀ nm, getM m nm = headsS nm p 0 + 1
theorem headsS_snoc (n : Bytes) : ∀ (l : List Df) (i : Nat) (f : Df), headsS n (l ++ [f]) i = if headsS n l i < 0 then (if f.name = n then ((i + l.length : Nat) : Int) else -1) else headsS n l i
  | [], i, f => by simp [headsS]
  | g :: l, i, f => by
    simp only [List.cons_append, headsS]
    by_cases h : g.name = n
    · simp only [if_pos h]; rw [if_neg (by omega)]
    · simp only [if_neg h]
      rw [headsS_snoc n l (i + 1) f]
      simp only [List.length_cons]
      rw [show i + 1 + l.length = i + (l.length + 1) by omega]
theorem headsS_ge (n : Bytes) (l : List Df) (i : Nat) : headsS n l i = -1 ∨ (i : Int) ≤ headsS n l i := by
  rcases headsS_lt n l i with e | ⟨k, hk, e, _⟩
  · exact .inl e
  · right; rw [e]; omega
theorem headsS_append (n : Bytes) : ∀ (l r : List Df) (i : Nat), headsS n (l ++ r) i = if headsS n l i < 0 then headsS n r (i + l.length) else headsS n l i
  | [], r, i => by simp [headsS]
  | g :: l, r, i => by
    simp only [List.cons_append, headsS]
    by_cases h : g.name = n
    · simp only [if_pos h]; rw [if_neg (by omega)]
    · simp only [if_neg h]
      rw [headsS_append n l r (i + 1)]
      simp only [List.length_cons]
      rw [show i + 1 + l.length = i + (l.length + 1) by omega]
theorem heads_dup {p : List Df} {i : Nat} {f : Df} (h : p[i]? = some f) : headsS f.name p 0 < i ↔ 0 ≤ headsS f.name (p.take i) 0 := by
  have hlt : i < p.length := (List.getElem?_eq_some_iff.1 h).1
  have e := headsS_append f.name (p.take i) (p.drop i) 0
  rw [List.take_append_drop] at e
  rw [e]
  have hd : p.drop i = f :: p.drop (i + 1) := by rw [List.drop_eq_getElem_cons hlt]; rw [(List.getElem?_eq_some_iff.1 h).2]
  have hmin : min i p.length = i := by omega
  by_cases hc : headsS f.name (p.take i) 0 < 0
  · rw [if_pos hc, hd]
    simp only [headsS, if_true, List.length_take, hmin, Nat.zero_add]
    omega
  · rw [if_neg hc]
    rcases headsS_lt f.name (p.take i) 0 with x | ⟨k, hk, x, _⟩
    · omega
    · rw [x]; simp only [List.length_take, hmin] at hk; omega

/-! ### The program's own order of the faults -/
def dupsL (p : List Df) (i : Nat) : List Df → List Flt
  | [] => []
  | f :: l => (if headsS f.name p 0 < i then [(30, f.pos)] else []) ++ dupsL p (i + 1) l
theorem dupsL_snoc (p : List Df) : ∀ (l : List Df) (i : Nat) (f : Df), dupsL p i (l ++ [f]) = dupsL p i l ++ (if headsS f.name p 0 < ((i + l.length : Nat) : Int) then [(30, f.pos)] else [])
  | [], i, f => by simp [dupsL]
  | g :: l, i, f => by
    have h := dupsL_snoc p l (i + 1) f
    simp only [List.cons_append, dupsL, h, List.append_assoc, List.length_cons]
    rw [show i + 1 + l.length = i + (l.length + 1) by omega]
def insF (p : List Df) (f : Df) : List Flt := parF [] f.params ++ usesF p (seenS (pnames f.params) f.body)
def insP (p : List Df) : List Df → List Flt
  | [] => []
  | f :: l => insF p f ++ insP p l
theorem insP_snoc (p : List Df) : ∀ (l : List Df) (f : Df), insP p (l ++ [f]) = insP p l ++ insF p f
  | [], f => by simp [insP]
  | g :: l, f => by simp [insP, insP_snoc p l f]
def scheck (p : List Df) : Flt := least (0, 0) (dupsL p 0 p ++ insP p p)
theorem least_append (f : Flt) (a b : List Flt) : least f (a ++ b) = least (least f a) b := by simp only [least, List.foldl_append]
def tell1 (f x : Flt) : Flt := if f.1 = 0 ∨ x.2 < f.2 then x else f
theorem least_one (f x : Flt) : least f [x] = tell1 f x := rfl
theorem least_nil (f : Flt) : least f [] = f := rfl
end Go.AM

/- AM: types, as the program has them. -/
namespace Go.AM

/-- Is it this array's? -/
def isId (v : AV) (j : Nat) : Prop := ∃ o l, v = .sl j o l
@[simp] theorem isId_nl (j : Nat) : ¬ isId .nl j := by rintro ⟨_, _, h⟩; cases h
theorem isId_sl {i o l j : Nat} : isId (.sl i o l) j ↔ j = i := ⟨fun ⟨_, _, h⟩ => by cases h; rfl, fun h => ⟨o, l, by rw [h]⟩⟩

/-- A list of one's own with room behind it. -/
def EnvAt (e : Nat) (h : Hp) (v : AV) (env : List Pm) : Prop := (v = .nl ∧ env = []) ∨ ∃ id xs, v = .sl id 0 env.length ∧ h id = .arr e 3 (env.map Pm.cells ++ xs)
/-- What stays while a list is another's. -/
def Fr7 (A : List Nat) (h : Hp) (v : AV) (h' : Hp) (v' : AV) : Prop := ∀ j, j ∉ A → ¬ isId v j → h j = .dead ∨ (h' j = h j ∧ ¬ isId v' j)
section
variable {A : List Nat} {e : Nat} {h h1 h2 : Hp} {v v1 v2 : AV} {env : List Pm}
theorem Fr7.refl : Fr7 A h v h v := fun _ _ hj => .inr ⟨rfl, hj⟩
theorem Fr7.trans (a : Fr7 A h v h1 v1) (b : Fr7 A h1 v1 h2 v2) : Fr7 A h v h2 v2 := fun j hj hv => by
  rcases a j hj hv with x | ⟨x, y⟩
  · exact .inl x
  · rcases b j hj y with z | ⟨z, w⟩
    · exact .inl (by rw [← x]; exact z)
    · exact .inr ⟨z.trans x, w⟩
theorem Fr7.mem (a : Fr7 A h v h1 v1) {j : Nat} {o : AObj} (hj : j ∈ A) : Fr7 A h v (hset h1 j o) v1 := fun i hi hv => by
  have ne : ¬ i = j := by rintro rfl; exact hi hj
  simpa [ne] using a i hi hv
theorem Fr7.new (a : Fr7 A h v h1 v1) {j : Nat} {o : AObj} (hj : h1 j = .dead) : Fr7 A h v (hset h1 j o) v1 := fun i hi hv => by
  by_cases ne : i = j
  · subst ne
    rcases a i hi hv with x | ⟨x, _⟩
    · exact .inl x
    · exact .inl (by rw [← x]; exact hj)
  · simpa [ne] using a i hi hv
theorem Fr7.at (a : Fr7 A h v h1 v1) {j : Nat} {o : AObj} (hj : h j = o) (ho : o ≠ .dead) (hA : j ∉ A) (hv : ¬ isId v j) : h1 j = o := by
  rcases a j hA hv with x | ⟨x, _⟩
  · exact absurd (hj.symm.trans x) ho
  · exact x.trans hj
theorem Fr7.weak (a : Fr7 [] h v h1 v1) : Fr7 A h v h1 v1 := fun j _ hv => a j (by simp) hv
theorem Fr7.same (a : Fr7 A h v h1 v1) (hi : ∀ j, isId v2 j ↔ isId v1 j) : Fr7 A h v h1 v2 := fun j hj hv => by
  rcases a j hj hv with x | ⟨x, y⟩
  · exact .inl x
  · exact .inr ⟨x, fun z => y ((hi j).1 z)⟩
theorem EnvAt.len (a : EnvAt e h v env) (hh : Hp) : aLen .sl v hh = some (.int .i64 env.length) := by
  rcases a with ⟨rfl, rfl⟩ | ⟨id, xs, rfl, _⟩ <;> rfl
theorem EnvAt.not (a : EnvAt e h v env) {j : Nat} (hj : ∀ e sz xs, h j ≠ .arr e sz xs) : ¬ isId v j := by
  rintro ⟨o, l, rfl⟩
  rcases a with ⟨x, _⟩ | ⟨id, xs, x, y⟩
  · cases x
  · cases x; exact hj _ _ _ y
theorem EnvAt.notc (a : EnvAt e h v env) {j : Nat} {cs : List AV} (hj : h j = .cells cs) : ¬ isId v j := a.not (by simp [hj])
theorem EnvAt.notm (a : EnvAt e h v env) {j : Nat} {es : List (AV × AV)} (hj : h j = .map es) : ¬ isId v j := a.not (by simp [hj])
theorem EnvAt.notd (a : EnvAt e h v env) {j : Nat} (hj : h j = .dead) : ¬ isId v j := a.not (by simp [hj])
theorem EnvAt.set (a : EnvAt e h v env) {j : Nat} {o : AObj} (hj : ¬ isId v j) : EnvAt e (hset h j o) v env := by
  rcases a with x | ⟨id, xs, rfl, y⟩
  · exact .inl x
  · have : ¬ id = j := by rintro rfl; exact hj ⟨_, _, rfl⟩
    exact .inr ⟨id, xs, rfl, by simp [this, y]⟩
theorem EnvAt.app {b : Nat} {ys : List Pm} {rows : List (List AV)} {K : AV → Hp → Prop} (a : EnvAt e h v env) (hr : rows = ys.map Pm.cells) (hne : ys ≠ []) (hlen : env.length + ys.length ≤ 1000000) (hb : b ≤ 1000000)
    (hk : ∀ v' h', EnvAt e h' v' (env ++ ys) → Fr7 [] h v h' v' → K v' h') {u : Held K} : AApp e 3 b v rows K h u := by
  subst hr
  have h2 : env.length + ys.length ≤ 4611686018427387904 := by omega
  have h3 : (env.length + ys.length) * b ≤ 140737488355328 := by
    have : (env.length + ys.length) * b ≤ 1000000 * 1000000 := Nat.mul_le_mul hlen hb
    omega
  rcases a with ⟨rfl, rfl⟩ | ⟨id, xs, rfl, ha⟩
  · cases ys with
    | nil => exact absurd rfl hne
    | cons y ys =>
      refine ⟨by simpa using h2, by simpa using h3, fun id hid => hk _ _ (.inr ⟨id, [], by simp, by simp⟩) fun j _ _ => ?_⟩
      by_cases e1 : j = id
      · exact .inl (e1 ▸ hid)
      · exact .inr ⟨by simp [e1], fun x => e1 (isId_sl.1 x)⟩
  · refine ⟨rfl, ?_⟩
    rw [ha]
    refine ⟨rfl, rfl, by simp, by simpa using h2, by simpa using h3, fun id' hid' => ?_⟩
    refine hk _ _ (.inr ⟨id', [], by simp, ?_⟩) fun j _ hj => ?_
    · have : (env.map Pm.cells ++ xs).take env.length = env.map Pm.cells := by
        rw [List.take_append_of_le_length (by simp)]; exact List.take_of_length_le (by simp)
      simp [this]
    · by_cases e1 : j = id'
      · exact .inl (e1 ▸ hid')
      · have e2 : ¬ j = id := fun x => hj (isId_sl.2 x)
        exact .inr ⟨by simp [e1, e2], fun x => e1 (isId_sl.1 x)⟩
theorem EnvAt.app0 {b : Nat} {ys : List Pm} {rows : List (List AV)} {K : AV → Hp → Prop} (hr : rows = ys.map Pm.cells) (hlen : ys.length ≤ 1000000) (hb : b ≤ 1000000)
    (hk : ∀ v' h', EnvAt e h' v' ys → Fr7 [] h .nl h' v' → K v' h') {u : Held K} : AApp e 3 b .nl rows K h u := by
  cases ys with
  | nil => subst hr; exact hk .nl h (.inl ⟨rfl, rfl⟩) Fr7.refl
  | cons y ys => exact EnvAt.app (env := []) (.inl ⟨rfl, rfl⟩) hr (by simp) (by simpa using hlen) hb (fun v' h' a b => hk v' h' (by simpa using a) b)
theorem EnvAt.flat (a : EnvAt e h v env) : v.flat = true ∧ v.cells = [v] := by
  rcases a with ⟨rfl, _⟩ | ⟨id, xs, rfl, _⟩ <;> exact ⟨rfl, rfl⟩
theorem EnvAt.cut {ys : List Pm} (a : EnvAt e h v (env ++ ys)) (hne : ys ≠ []) : ∃ v', (∀ hh : Hp, (∀ j o l, v = .sl j o l → hh j = h j) → aCut 3 v (some none) (some (some env.length)) hh = some v') ∧ EnvAt e h v' env ∧ ∀ j, isId v' j ↔ isId v j := by
  rcases a with ⟨_, x⟩ | ⟨id, xs, rfl, ha⟩
  · simp at x; exact absurd x.2 hne
  · refine ⟨.sl id 0 env.length, fun hh hj => ?_, .inr ⟨id, ys.map Pm.cells ++ xs, rfl, by rw [ha]; simp⟩, fun j => by rw [isId_sl, isId_sl]⟩
    have := hj id _ _ rfl
    simp [this, ha]
end

theorem ownW_leaf {p : List Df} {env : List Pm} {e : Ex} {t : Int} (ht : tyOK t) (h : (ownS p env e).2 = true) : ownW p env e t = if (if e.op = 6 then (lastT e.name env).getD 0 else (ownS p env e).1) ≠ t then [e.pos] else [] := by
  simp only [ownW, h, true_and]
  by_cases o6 : e.op = 6
  · have : (ownS p env e).1 = (lastT e.name env).getD (-1) := by simp [ownS, o6]
    rw [this, if_pos o6]
    cases lastT e.name env with
    | some t' => rfl
    | none =>
      simp only [Option.getD_none]
      rw [if_pos, if_pos]
      · rcases ht with h | h | h <;> omega
      · rcases ht with h | h | h <;> omega
  · rw [if_neg o6]
/-! ### The order in which the program tells -/
def ownT (p : List Df) (env : List Pm) (e : Ex) : Int := if e.op = 6 then (lastT e.name env).getD 0 else (ownS p env e).1
/-- Calls of functions that there are, with as many arguments. -/
def callOK (p : List Df) (e : Ex) : Prop := e.op = 7 → ∃ f, headD e.name p = some f ∧ f.params.length = e.args.length
mutual
def callsOK (p : List Df) : Ex → Prop
  | .mk op name tail ty re im args pos => callOK p (.mk op name tail ty re im args pos) ∧ callsL p args
def callsL (p : List Df) : List Ex → Prop
  | [] => True
  | e :: l => callsOK p e ∧ callsL p l
end
theorem callsOK_eq {p : List Df} {e : Ex} : callsOK p e ↔ callOK p e ∧ callsL p e.args := by cases e; exact Iff.rfl
theorem callsL_mem {p : List Df} : ∀ {l : List Ex} {e : Ex}, callsL p l → e ∈ l → callsOK p e
  | [], _, _, he => by cases he
  | a :: l, e, h, he => by
    rcases List.mem_cons.1 he with rfl | he
    · exact h.1
    · exact callsL_mem h.2 he
section
variable (p : List Df)
mutual
def progS (env : List Pm) (t : Int) : Ex → List Int
  | .mk op name tail ty re im args pos => progL env (.mk op name tail ty re im args pos) t 0 args ++ ownW p env (.mk op name tail ty re im args pos) t
def progL (env : List Pm) (e : Ex) (t : Int) (i : Nat) : List Ex → List Int
  | [] => []
  | a :: l => progS (withinS env e i) (wantedS p e i t) a ++ progL env e t (i + 1) l
end
theorem progS_eq (env : List Pm) (t : Int) (e : Ex) : progS p env t e = progL p env e t 0 e.args ++ ownW p env e t := by cases e; simp only [progS]; rfl
theorem progL_snoc (env : List Pm) (e : Ex) (t : Int) : ∀ (l : List Ex) (i : Nat) (a : Ex), progL p env e t i (l ++ [a]) = progL p env e t i l ++ progS p (withinS env e (i + l.length)) (wantedS p e (i + l.length) t) a
  | [], i, a => by simp [progL]
  | b :: l, i, a => by
    have h := progL_snoc env e t l (i + 1) a
    simp only [List.cons_append, progL, h, List.append_assoc, List.length_cons]
    rw [show i + 1 + l.length = i + (l.length + 1) by omega]
def progP : List Df → List Int
  | [] => []
  | f :: l => progS p f.params f.ty f.body ++ progP l
theorem progP_snoc : ∀ (l : List Df) (f : Df), progP p (l ++ [f]) = progP p l ++ progS p f.params f.ty f.body
  | [], f => by simp [progP]
  | g :: l, f => by simp [progP, progP_snoc l f]
/-- One type, wanted of several within the same names. -/
def allL (env : List Pm) (t : Int) : List Ex → List Int
  | [] => []
  | a :: l => progS p env t a ++ allL env t l
theorem allL_snoc (env : List Pm) (t : Int) : ∀ (l : List Ex) (a : Ex), allL p env t (l ++ [a]) = allL p env t l ++ progS p env t a
  | [], a => by simp [allL]
  | b :: l, a => by simp [allL, allL_snoc env t l a]
theorem progL_all (env : List Pm) (e : Ex) (t t' : Int) : ∀ (l : List Ex) (i : Nat), (∀ k, i ≤ k → k < i + l.length → withinS env e k = env ∧ wantedS p e k t = t') → progL p env e t i l = allL p env t' l
  | [], _, _ => rfl
  | a :: l, i, h => by
    have h0 := h i (Nat.le_refl _) (by simp)
    simp only [progL, allL, h0.1, h0.2]
    rw [progL_all env e t t' l (i + 1) fun k h1 h2 => h k (by omega) (by simp; omega)]
end
end Go.AM

/- AM: the plain laws of names and types: the program's order of faults and the document's tell the same. -/
namespace Go.AM

theorem tell1_yes {f x : Flt} (h : f.1 = 0 ∨ x.2 < f.2) : tell1 f x = x := if_pos h
theorem tell1_no {f x : Flt} (h : ¬ (f.1 = 0 ∨ x.2 < f.2)) : tell1 f x = f := if_neg h
theorem tell1_comm {f x y : Flt} (hx : x.1 ≠ 0) (hy : y.1 ≠ 0) (hne : x.2 ≠ y.2) : tell1 (tell1 f x) y = tell1 (tell1 f y) x := by
  by_cases c1 : f.1 = 0 ∨ x.2 < f.2 <;> by_cases c2 : f.1 = 0 ∨ y.2 < f.2
  · rw [tell1_yes c1, tell1_yes c2]
    by_cases h3 : y.2 < x.2
    · rw [tell1_yes (.inr h3), tell1_no (by omega)]
    · rw [tell1_no (by omega), tell1_yes (.inr (by omega))]
  · rw [tell1_yes c1, tell1_no c2, tell1_yes c1, tell1_no (by omega)]
  · rw [tell1_no c1, tell1_yes c2, tell1_no (by omega)]
  · rw [tell1_no c1, tell1_no c2, tell1_no c1]
theorem least_cons (f x : Flt) (l : List Flt) : least f (x :: l) = least (tell1 f x) l := rfl
theorem least_swap1 {x : Flt} (hx : x.1 ≠ 0) : ∀ (L : List Flt) (f : Flt), (∀ y ∈ L, y.1 ≠ 0 ∧ x.2 ≠ y.2) → least f (L ++ [x]) = least f (x :: L)
  | [], f, _ => rfl
  | y :: L, f, h => by
    have hy := h y (by simp)
    rw [List.cons_append, least_cons, least_swap1 hx L _ (fun z hz => h z (by simp [hz])), least_cons, least_cons, least_cons, tell1_comm hy.1 hx (fun e => hy.2 e.symm)]
theorem least_swap : ∀ (D L : List Flt) (f : Flt), (∀ x ∈ D, x.1 ≠ 0) → (∀ x ∈ D, ∀ y ∈ L, y.1 ≠ 0 ∧ x.2 ≠ y.2) → least f (L ++ D) = least f (D ++ L)
  | [], L, f, _, _ => by simp
  | x :: D, L, f, h1, h2 => by
    have e1 : L ++ x :: D = (L ++ [x]) ++ D := by simp
    rw [e1, least_append, least_swap1 (h1 x (by simp)) L f (h2 x (by simp)), least_cons, ← least_append, least_swap D L _ (fun z hz => h1 z (by simp [hz])) (fun z hz => h2 z (by simp [hz]))]
    rfl

mutual
theorem seenS_fine {hi : Int} : ∀ (e : Ex) (names : List Bytes), e.fine hi → ∀ x ∈ seenS names e, x.1.fine hi
  | .mk op name tail ty re im args pos, names, hf, x, hx => by
    simp only [seenS, List.mem_append] at hx
    rcases hx with hx | hx
    · simp only [Ex.use] at hx
      split at hx
      · rw [List.mem_singleton] at hx; subst hx; exact hf
      · cases hx
    · exact seenL_fine args names _ 0 hf.2.2.2.2 x hx
theorem seenL_fine {hi : Int} : ∀ (l : List Ex) (names : List Bytes) (p : Ex) (i : Nat), Ex.fineL hi l → ∀ x ∈ seenL names p i l, x.1.fine hi
  | [], _, _, _, _, x, hx => by simp [seenL] at hx
  | a :: l, names, p, i, hf, x, hx => by
    simp only [seenL, List.mem_append] at hx
    rcases hx with hx | hx
    · exact seenS_fine a _ hf.1 x hx
    · exact seenL_fine l names p (i + 1) hf.2 x hx
end
theorem Ex.fine_pos {hi : Int} {e : Ex} (h : e.fine hi) : 0 ≤ e.pos ∧ e.pos < hi := by cases e; exact h.2.2.2.1
theorem useF_pos {p : List Df} {x : Ex × Bool} {y : Flt} (h : y ∈ useF p x) : y.1 ≠ 0 ∧ y.2 = x.1.pos := by
  simp only [useF, List.mem_append] at h
  rcases h with h | h
  · split at h
    · rw [List.mem_singleton] at h; subst h; exact ⟨by simp, rfl⟩
    · cases h
  · split at h
    · cases h
    · split at h
      · rw [List.mem_singleton] at h; subst h; exact ⟨by simp, rfl⟩
      · split at h
        · rw [List.mem_singleton] at h; subst h; exact ⟨by simp, rfl⟩
        · cases h
theorem parF_pos : ∀ (l : List Pm) (acc : List Bytes) {y : Flt}, y ∈ parF acc l → y.1 ≠ 0 ∧ ∃ x ∈ l, y.2 = x.pos
  | [], _, _, h => by cases h
  | x :: l, acc, y, h => by
    simp only [parF, List.mem_append] at h
    rcases h with h | h
    · split at h
      · rw [List.mem_singleton] at h; subst h; exact ⟨by simp, x, by simp, rfl⟩
      · cases h
    · obtain ⟨h1, z, hz, h2⟩ := parF_pos l _ h
      exact ⟨h1, z, by simp [hz], h2⟩
theorem insF_pos {p : List Df} {f : Df} {hi : Int} (hf : f.fine hi) {y : Flt} (h : y ∈ insF p f) : y.1 ≠ 0 ∧ y.2 < hi := by
  simp only [insF, List.mem_append] at h
  rcases h with h | h
  · obtain ⟨h1, x, hx, h2⟩ := parF_pos _ _ h
    exact ⟨h1, by rw [h2]; exact (hf.params x hx).pos.2⟩
  · simp only [usesF, List.mem_flatMap] at h
    obtain ⟨x, hx, hy⟩ := h
    have := useF_pos hy
    exact ⟨this.1, by rw [this.2]; exact (Ex.fine_pos (seenS_fine _ _ hf.body x hx)).2⟩
theorem fineP_ge : ∀ {lo : Int} {l : List Df}, fineP lo l → ∀ f ∈ l, lo ≤ f.pos
  | _, [], _, f, h => by cases h
  | lo, g :: l, ⟨h1, hi, h2, h3⟩, f, h => by
    rcases List.mem_cons.1 h with rfl | h
    · exact h1
    · have := fineP_ge h3 f h
      have := h2.pos.2
      omega
theorem dupsL_pos (p : List Df) : ∀ (l : List Df) (i : Nat) {y : Flt}, y ∈ dupsL p i l → y.1 ≠ 0 ∧ ∃ f ∈ l, y.2 = f.pos
  | [], _, _, h => by cases h
  | g :: l, i, y, h => by
    simp only [dupsL, List.mem_append] at h
    rcases h with h | h
    · split at h
      · rw [List.mem_singleton] at h; subst h; exact ⟨by simp, g, by simp, rfl⟩
      · cases h
    · obtain ⟨h1, z, hz, h2⟩ := dupsL_pos p l (i + 1) h
      exact ⟨h1, z, by simp [hz], h2⟩
theorem order (p : List Df) : ∀ (l : List Df) (i : Nat) (lo : Int) (f : Flt), fineP lo l → least f (dupsL p i l ++ insP p l) = least f (faultsL p i l)
  | [], _, _, _, _ => rfl
  | g :: l, i, lo, f, ⟨h1, hi, h2, h3⟩ => by
    have ih := fun f => order p l (i + 1) hi f h3
    have hsw : ∀ f, least f (insF p g ++ dupsL p (i + 1) l) = least f (dupsL p (i + 1) l ++ insF p g) := fun f => least_swap _ _ f (fun x hx => (dupsL_pos p l (i + 1) hx).1) (fun x hx y hy => by
      obtain ⟨_, z, hz, e⟩ := dupsL_pos p l (i + 1) hx
      have q1 := insF_pos h2 hy
      have q2 := fineP_ge h3 z hz
      exact ⟨q1.1, by omega⟩)
    have hF : faultF p i g = (if headsS g.name p 0 < i then [(30, g.pos)] else []) ++ insF p g := by simp [faultF, insF]
    simp only [dupsL, insP, faultsL, hF]
    generalize (if headsS g.name p 0 < (i : Int) then [((30 : Int), g.pos)] else []) = d
    rw [show d ++ dupsL p (i + 1) l ++ (insF p g ++ insP p l) = d ++ ((dupsL p (i + 1) l ++ insF p g) ++ insP p l) by simp, least_append, least_append, ← hsw, ← least_append, List.append_assoc, least_append, ih]
    simp only [least_append]
theorem scheck_eq {p : List Df} (h : FineP p) : scheck p = check06 p := order p p 0 0 (0, 0) h.fine

/-! ### No fault: all calls are right -/
theorem tell1_nz {f x : Flt} (hx : x.1 ≠ 0) : (tell1 f x).1 ≠ 0 := by
  simp only [tell1]; split
  · exact hx
  · rename_i h; simp only [not_or] at h; exact h.1
theorem least_nz : ∀ (l : List Flt) (f : Flt), (∀ x ∈ l, x.1 ≠ 0) → (f.1 ≠ 0 ∨ l ≠ []) → (least f l).1 ≠ 0
  | [], f, _, h => by rcases h with h | h; · exact h
                      · exact absurd rfl h
  | x :: l, f, hl, _ => by rw [least_cons]; exact least_nz l _ (fun y hy => hl y (by simp [hy])) (.inl (tell1_nz (hl x (by simp))))
theorem faultsL_mem {p : List Df} : ∀ {l : List Df} {i : Nat} {f : Df}, f ∈ l → faultsL p i l = [] → insF p f = []
  | [], _, _, h, _ => by cases h
  | g :: l, i, f, h, he => by
    simp only [faultsL, List.append_eq_nil_iff] at he
    rcases List.mem_cons.1 h with rfl | h
    · have := he.1
      simp only [faultF, List.append_eq_nil_iff] at this
      simp only [insF, List.append_eq_nil_iff]
      exact ⟨this.1.2, this.2⟩
    · exact faultsL_mem h he.2
theorem faultsL_nz {p : List Df} : ∀ {l : List Df} {i : Nat}, ∀ x ∈ faultsL p i l, x.1 ≠ 0
  | [], _, x, h => by cases h
  | g :: l, i, x, h => by
    simp only [faultsL, List.mem_append] at h
    rcases h with h | h
    · simp only [faultF, List.mem_append] at h
      rcases h with (h | h) | h
      · split at h
        · rw [List.mem_singleton] at h; subst h; simp
        · cases h
      · exact (parF_pos _ _ h).1
      · simp only [usesF, List.mem_flatMap] at h
        obtain ⟨y, _, hy⟩ := h
        exact (useF_pos hy).1
    · exact faultsL_nz x h
theorem headsD (n : Bytes) : ∀ (l : List Df) (i : Nat), (headsS n l i = -1 ∧ headD n l = none) ∨ ∃ k, ∃ hk : k < l.length, headsS n l i = ((i + k : Nat) : Int) ∧ headD n l = some l[k]
  | [], i => .inl ⟨rfl, rfl⟩
  | g :: l, i => by
    simp only [headsS, headD]
    by_cases h : g.name = n
    · rw [if_pos h, if_pos h]; exact .inr ⟨0, by simp, by simp, by simp⟩
    · rw [if_neg h, if_neg h]
      rcases headsD n l (i + 1) with ⟨h1, h2⟩ | ⟨k, hk, h1, h2⟩
      · exact .inl ⟨h1, h2⟩
      · exact .inr ⟨k + 1, by simpa using hk, by rw [h1]; congr 1; omega, by rw [h2]; simp⟩
theorem use_ok {p : List Df} {names : List Bytes} {e : Ex} (h : usesF p (Ex.use names e) = []) : callOK p e := by
  intro o7
  simp [Ex.use, o7, usesF, useF] at h
  rcases headsD e.name p 0 with ⟨h1, h2⟩ | ⟨k, hk, h1, h2⟩
  · rw [h1] at h; simp at h
  · have h3 : headsS e.name p 0 = (k : Int) := by simpa using h1
    have h4 : ¬ (k : Int) < 0 := by omega
    rw [h3] at h
    have h5 := h
    simp only [h4, if_false, Int.toNat_natCast, List.getElem?_eq_getElem hk, Option.getD_some] at h5
    refine ⟨p[k], h2, ?_⟩
    by_cases hl : p[k].params.length = e.args.length
    · exact hl
    · simp [hl] at h5
mutual
theorem uses_calls {p : List Df} : ∀ (e : Ex) (names : List Bytes), usesF p (seenS names e) = [] → callsOK p e
  | .mk op name tail ty re im args pos, names, h => by
    simp only [seenS, usesF, List.flatMap_append, List.append_eq_nil_iff] at h
    exact ⟨use_ok h.1, uses_callsL args names _ 0 h.2⟩
theorem uses_callsL {p : List Df} : ∀ (l : List Ex) (names : List Bytes) (e : Ex) (i : Nat), usesF p (seenL names e i l) = [] → callsL p l
  | [], _, _, _, _ => trivial
  | a :: l, names, e, i, h => by
    simp only [seenL, usesF, List.flatMap_append, List.append_eq_nil_iff] at h
    exact ⟨uses_calls a _ h.1, uses_callsL l names e (i + 1) h.2⟩
end
theorem check06_calls {p : List Df} (h : (check06 p).1 = 0) : ∀ f ∈ p, callsOK p f.body := by
  intro f hf
  have h1 : faultsS p = [] := Decidable.byContradiction fun hn => least_nz (faultsS p) (0, 0) (faultsL_nz) (.inr hn) h
  have h2 := faultsL_mem hf h1
  simp only [insF, List.append_eq_nil_iff] at h2
  exact uses_calls _ _ h2.2

/-! ### The order of wrong types -/
theorem tell7_yes {f : Flt} {x : Int} (h : f.1 = 0 ∨ x < f.2) : tell7 f x = (34, x) := if_pos h
theorem tell7_no {f : Flt} {x : Int} (h : ¬ (f.1 = 0 ∨ x < f.2)) : tell7 f x = f := if_neg h
theorem tell7_comm (f : Flt) (x y : Int) : tell7 (tell7 f x) y = tell7 (tell7 f y) x := by
  by_cases c1 : f.1 = 0 ∨ x < f.2 <;> by_cases c2 : f.1 = 0 ∨ y < f.2
  · rw [tell7_yes c1, tell7_yes c2]
    rcases Int.lt_trichotomy x y with h | h | h
    · rw [tell7_no (by simp; omega), tell7_yes (by simp; omega)]
    · subst h; rfl
    · rw [tell7_yes (by simp; omega), tell7_no (by simp; omega)]
  · rw [tell7_yes c1, tell7_no c2, tell7_yes c1, tell7_no (by simp; omega)]
  · rw [tell7_no c1, tell7_yes c2, tell7_no (by simp; omega)]
  · rw [tell7_no c1, tell7_no c2, tell7_no c1]
theorem tell7_perm {a b : List Int} (h : a.Perm b) : ∀ f, a.foldl tell7 f = b.foldl tell7 f := by
  induction h with
  | nil => intro f; rfl
  | cons x _ ih => intro f; exact ih _
  | swap x y l => intro f; simp only [List.foldl_cons]; rw [tell7_comm]
  | trans _ _ ih1 ih2 => intro f; rw [ih1, ih2]
mutual
theorem prog_perm (p : List Df) : ∀ (e : Ex) (env : List Pm) (t : Int), (progS p env t e).Perm (wrongS p env t e)
  | .mk op name tail ty re im args pos, env, t => by
    simp only [progS, wrongS]
    exact List.perm_append_comm.trans ((prog_permL p args env _ t 0).append_left _)
theorem prog_permL (p : List Df) : ∀ (l : List Ex) (env : List Pm) (e : Ex) (t : Int) (i : Nat), (progL p env e t i l).Perm (wrongL p env e t i l)
  | [], _, _, _, _ => .nil
  | a :: l, env, e, t, i => by
    simp only [progL, wrongL]
    exact (prog_perm p a _ _).append (prog_permL p l env e t (i + 1))
end
theorem progP_perm (p : List Df) : ∀ (l : List Df), (progP p l).Perm (wrongP p l)
  | [] => .nil
  | f :: l => by simp only [progP, wrongP]; exact (prog_perm p _ _ _).append (progP_perm p l)
end Go.AM
