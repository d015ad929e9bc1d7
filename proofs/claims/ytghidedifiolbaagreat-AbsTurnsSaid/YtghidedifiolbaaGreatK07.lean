/- AM: what holds behind code, more widely. -/
import Derived.Test.YtghidedifiolbaaGreatK06
set_option linter.unusedVariables false
set_option linter.unusedSimpArgs false
namespace Go.AM
variable {P : Program}

theorem AStep.mono {op : AOp} {K K' : AV → Hp → Prop} {tm : Tm} {h : Hp} (hk : ∀ v h, K v h → K' v h) (a : AStep P op K tm h) : AStep P op K' tm h := by
  cases op with
  | alloc z => exact fun id hd => hk _ _ (a id hd)
  | box x => exact ⟨a.1, fun id hd => hk _ _ (a.2 id hd)⟩
  | bsl e sz ps => exact ⟨a.1, fun id hd => hk _ _ (a.2 id hd)⟩
  | mkm => exact fun id hd => hk _ _ (a id hd)
  | call f xs => exact ACalls.mono a hk
  | callv x xs =>
    simp only [AStep] at a ⊢
    cases hx : x.ev tm <;> rw [hx] at a <;> first | exact a.elim | exact ACalls.mono a hk
  | s2b x =>
    simp only [AStep] at a ⊢
    cases hx : x.ev tm <;> rw [hx] at a <;> first | exact a.elim | exact hk _ _ a
  | st n x v =>
    simp only [AStep] at a ⊢
    obtain ⟨a1, a2, a3⟩ := a
    refine ⟨a1, a2, ?_⟩
    cases hx : x.ev tm <;> rw [hx] at a3 <;> first | exact a3.elim | skip
    · rename_i id off
      simp only at a3 ⊢
      cases hh : h id <;> rw [hh] at a3 <;> first | exact a3.elim | exact ⟨a3.1, hk _ _ a3.2⟩
    · rename_i id i off
      simp only at a3 ⊢
      cases hh : h id <;> rw [hh] at a3 <;> first | exact a3.elim | skip
      rename_i e sz xs
      simp only at a3 ⊢
      cases hr : xs[i]? <;> rw [hr] at a3 <;> first | exact a3.elim | exact ⟨a3.1, hk _ _ a3.2⟩
  | app e sz b s x =>
    simp only [AStep] at a ⊢
    cases he : elemsOf h sz (x.ev tm) <;> rw [he] at a <;> first | exact a.elim | skip
    rename_i ys
    simp only at a ⊢
    cases hx : s.ev tm <;> rw [hx] at a <;> first | exact a.elim | skip
    · cases ys with
      | nil => exact hk _ _ a
      | cons y ys => exact ⟨a.1, a.2.1, fun id hd => hk _ _ (a.2.2 id hd)⟩
    · rename_i id off len
      simp only at a ⊢
      refine ⟨a.1, ?_⟩
      have a2 := a.2
      cases hh : h id <;> rw [hh] at a2 <;> first | exact a2.elim | skip
      exact ⟨a2.1, a2.2.1, a2.2.2.1, a2.2.2.2.1, a2.2.2.2.2.1, fun id hd => hk _ _ (a2.2.2.2.2.2 id hd)⟩
  | mks e sz b z l c =>
    simp only [AStep] at a ⊢
    cases hl : l.ev tm <;> cases hc : c.ev tm <;> rw [hl, hc] at a <;> first | exact a.elim | skip
    exact ⟨a.1, a.2.1, a.2.2.1, a.2.2.2.1, fun id hd => hk _ _ (a.2.2.2.2 id hd)⟩
  | mup ki m k v =>
    simp only [AStep] at a ⊢
    cases hm : m.ev tm <;> rw [hm] at a <;> first | exact a.elim | skip
    rename_i id
    simp only at a ⊢
    cases hh : h id <;> rw [hh] at a <;> first | exact a.elim | skip
    rename_i es
    simp only at a ⊢
    cases hp : putK ki (k.ev tm) (v.ev tm) es <;> rw [hp] at a <;> first | exact a.elim | exact hk _ _ a
  | bfz x =>
    simp only [AStep] at a ⊢
    cases hx : x.ev tm <;> rw [hx] at a <;> first | exact a.elim | skip
    rename_i id off len
    simp only at a ⊢
    refine ⟨a.1, ?_⟩
    have a2 := a.2
    cases hh : h id <;> rw [hh] at a2 <;> first | exact a2.elim | exact ⟨a2.1, hk _ _ a2.2⟩
  | _ =>
    revert a
    unfold AStep
    simp only
    intro a
    split at a
    · exact hk _ _ a
    · exact a.elim

theorem QRun.mono {op : AOp} {K K' : AV → Prop} {tm : Tm} {h : Hp} (hk : ∀ v, K v → K' v) (a : QRun P op K tm h) : QRun P op K' tm h := by
  cases op with
  | call f xs => obtain ⟨v, a1, a2⟩ := a; exact ⟨v, a1, hk _ a2⟩
  | callv x xs =>
    simp only [QRun] at a ⊢
    cases hx : x.ev tm <;> rw [hx] at a <;> first | exact a.elim | skip
    obtain ⟨v, a1, a2⟩ := a; exact ⟨v, a1, hk _ a2⟩
  | _ =>
    revert a
    unfold QRun
    simp only
    intro a
    split at a
    · exact hk _ a
    · exact a.elim

theorem AOps.mono {K K' : Tm → Hp → Prop} (hk : ∀ tm h, K tm h → K' tm h) : ∀ {l : List AIns} {tm : Tm} {h : Hp}, AOps P l K tm h → AOps P l K' tm h
  | [], _, _, a => hk _ _ a
  | i :: l, tm, h, a => by
    simp only [AOps] at a ⊢
    split at a
    · exact AStep.mono (fun v h' x => AOps.mono hk x) a
    · split at a
      · split at a
        · rename_i hb; rw [if_pos hb]; exact AStep.mono (fun v h' x => AOps.mono hk x) a
        · rename_i hb; rw [if_neg hb]; exact AOps.mono hk a
      · exact a.elim

theorem DOps.mono {K K' : Tm → Hp → Prop} (hk : ∀ tm h, K tm h → K' tm h) : ∀ {l : List DStep} {tm : Tm} {h : Hp}, DOps P l K tm h → DOps P l K' tm h
  | [], _, _, a => hk _ _ a
  | s :: l, tm, h, a => by
    simp only [DOps] at a ⊢
    split at a
    · split at a
      · rename_i he; rw [if_pos he]; exact AStep.mono (fun v h' x => ⟨x.1, DOps.mono hk x.2⟩) a
      · rename_i he; rw [if_neg he]; exact QRun.mono (fun v x => DOps.mono hk x) a
    · exact DOps.mono hk a
    · exact a.elim

theorem AW.mono : ∀ {c : ACode} {Q1 Q2 : AExit → Tm → Hp → Prop} {tm : Tm} {h : Hp}, (∀ e tm h, Q1 e tm h → Q2 e tm h) → AW P c Q1 tm h → AW P c Q2 tm h
  | .skip, _, _, _, _, hq, a => hq _ _ _ a
  | .region _, _, _, _, _, hq, a => AOps.mono (fun _ _ x => hq _ _ _ x) a
  | .draw _, _, _, _, _, hq, a => DOps.mono (fun _ _ x => hq _ _ _ x) a
  | .seq x y, _, _, _, _, hq, a => AW.mono (c := x) (fun e tm h z => by
      cases e with
      | normal => exact AW.mono (c := y) hq z
      | exit i => exact hq _ _ _ z
      | ret => exact hq _ _ _ z) a
  | .cond c x y, _, _, tm, _, hq, a => by
    simp only [AW] at a ⊢
    cases hc : c.ev tm <;> rw [hc] at a <;> first | exact a.elim | skip
    rename_i b
    cases b
    · exact AW.mono (c := y) hq a
    · exact AW.mono (c := x) hq a
  | .block id b, _, _, _, _, hq, a => AW.mono (c := b) (fun e tm h z => by
      cases e with
      | normal => exact hq _ _ _ z
      | exit i =>
        simp only at z ⊢
        split at z
        · rename_i hi; rw [if_pos hi]; exact hq _ _ _ z
        · rename_i hi; rw [if_neg hi]; exact hq _ _ _ z
      | ret => exact hq _ _ _ z) a
  | .loop b, _, _, _, _, hq, ⟨I, n, h0, hr⟩ => ⟨I, n, h0, fun n tm h hi => AW.mono (c := b) (fun e tm h z => by
      cases e with
      | normal => exact z
      | exit i => exact hq _ _ _ z
      | ret => exact hq _ _ _ z) (hr n tm h hi)⟩
  | .exit _, _, _, _, _, hq, a => hq _ _ _ a
  | .ret, _, _, _, _, hq, a => hq _ _ _ a
end Go.AM

/- AM: what the reader of the document's answer does, in plain Lean: marks and the first rules. -/
namespace Go.AM

abbrev Bytes := List UInt8

/-- A mark. -/
structure Mk where
  kind : Int
  text : Bytes
  re : Nat
  im : Nat
  pos : Int
deriving DecidableEq
def mk0 : Mk := ⟨0, [], 0, 0, 0⟩
def Mk.cells (m : Mk) : List AV := [.int .i64 m.kind, .str m.text, .cplx m.re m.im, .int .i64 m.pos]
@[simp] theorem Mk.cells_length (m : Mk) : m.cells.length = 4 := rfl

/-- How far the reader is. -/
structure St where
  at_ : Nat
  why : Int
  wh : Int
  nest : Int
deriving DecidableEq

def rdCells (ms : List Mk) (s : St) : List AV := [.fz (ms.map Mk.cells), .int .i64 s.at_, .int .i64 s.why, .int .i64 s.wh, .int .i64 32768, .int .i64 32768, .int .i64 32768, .int .i64 32768, .int .i64 s.nest]

def nx (ms : List Mk) (s : St) : Mk := ms.getD s.at_ mk0
def isB (ms : List Mk) (s : St) (t : Bytes) : Bool := decide (s.why = 0) && ((decide ((nx ms s).kind = 1) || decide ((nx ms s).kind = 3)) && decide ((nx ms s).text = t))
def adv (s : St) : St := { s with at_ := s.at_ + 1 }
def failS (ms : List Mk) (s : St) (w : Int) : St := if s.why = 0 then { s with why := w, wh := (nx ms s).pos } else s
def takeS (ms : List Mk) (s : St) (t : Bytes) : St := if isB ms s t then adv s else s
def wantS (ms : List Mk) (s : St) (t : Bytes) : St := if isB ms s t then adv s else failS ms s 21
def nameS (ms : List Mk) (s : St) : Mk × St := if s.why ≠ 0 ∨ (nx ms s).kind ≠ 0 then (mk0, failS ms s 21) else (nx ms s, adv s)
def typS (ms : List Mk) (s : St) : Int × St :=
  if isB ms s [78] then (1, adv s) else if isB ms s [66] then (2, adv s) else if isB ms s [76] then (3, adv s) else (0, failS ms s 21)

/-- What holds of marks. -/
structure Good (ms : List Mk) : Prop where
  le : ms.length ≤ 40000
  pos : 0 < ms.length
  last : ∀ s : St, s.at_ + 1 = ms.length → (nx ms s).kind = 4

theorem nx_some {ms : List Mk} {s : St} (h : s.at_ < ms.length) : ms[s.at_]? = some (nx ms s) := by
  simp [nx, List.getD, h]
@[simp] theorem wrap_i64 {n : Int} (h1 : -9223372036854775808 ≤ n) (h2 : n ≤ 9223372036854775807) : IntKind.i64.wrap n = n := by
  simp [IntKind.wrap, IntKind.bits, IntKind.signed]; omega

@[simp] theorem byteOf_u8 (n : Nat) : byteOf [.int .u8 (n : Int)] = some (UInt8.ofNat n) := by simp [byteOf]
theorem Sub.drop {h : Hp} {id : Nat} {o : AObj} (hd : h id = .dead) : Sub h (hset h id o) := by
  intro j
  by_cases e : j = id
  · exact .inr (e ▸ hd)
  · simp [e]

theorem Sub.put {h h' : Hp} {id : Nat} {o : AObj} (hs : Sub h' h) : Sub (hset h' id o) (hset h id o) := by
  intro j
  by_cases e : j = id
  · simp [e]
  · simpa [e] using hs j
theorem Sub.dropr {h h' : Hp} {id : Nat} {o : AObj} (hs : Sub h' h) (hd : h' id = .dead) : Sub h' (hset h id o) := by
  intro j
  by_cases e : j = id
  · exact .inr (e ▸ hd)
  · simpa [e] using hs j
theorem live_ne {h : Hp} {i j : Nat} {o : AObj} (hi : h i = o) (ho : o ≠ .dead) (hj : h j = .dead) : ¬ i = j := by
  rintro rfl; exact ho (hi.symm.trans hj)
theorem rd_ne {h : Hp} {i j : Nat} {cs : List AV} (hi : h i = .cells cs) (hj : h j = .dead) : ¬ i = j ∧ ¬ j = i := ⟨live_ne hi (by simp) hj, fun e => live_ne hi (by simp) hj e.symm⟩
/-- The next round, as it is met. -/
def AgainH (I : Nat → Tm → Hp → Prop) (n : Nat) (tm : Tm) (h : Hp) (_ : Held I := .mk) : Prop := Again I n tm h
theorem ALoop.start {P : Program} {b : ACode} {Q : AExit → Tm → Hp → Prop} {tm : Tm} {h : Hp} (I : Nat → Tm → Hp → Prop) (n : Nat) (h0 : I n tm h) (hr : ∀ n tm h, I n tm h → AW P b (fun e tm' h' => match e with
    | .normal => AgainH I n tm' h'
    | e => Q e tm' h') tm h) {u1 : Held b} {u2 : Held Q} {u3 : Held tm} : ALoop P b Q tm h u1 u2 u3 := ALoop.intro I n ⟨Sub.refl h, fun _ => .same _⟩ h0 hr
theorem Again.same {I : Nat → Tm → Hp → Prop} {n : Nat} (m : Nat) {tm : Tm} {h : Hp} {u : Held I} (hm : m < n) (hi : I m tm h) : AgainH I n tm h u := ⟨m, hm, tm, h, ⟨Sub.refl h, fun _ => .same _⟩, hi⟩
theorem Again.sub {I : Nat → Tm → Hp → Prop} {n : Nat} (m : Nat) {tm : Tm} {h : Hp} (h' : Hp) {u : Held I} (hm : m < n) (hs : Sub h' h) (hi : I m tm h') : AgainH I n tm h u := ⟨m, hm, tm, h', ⟨hs, fun _ => .same _⟩, hi⟩
end Go.AM

/- AM: what the marks of the document's answer are, in plain Lean: bytes, runs, signs. -/
namespace Go.AM

def digitB (c : UInt8) : Bool := decide ((48 : Int) ≤ c.toNat) && decide ((c.toNat : Int) ≤ 57)
def letterB (c : UInt8) : Bool := (decide ((65 : Int) ≤ c.toNat) && decide ((c.toNat : Int) ≤ 90)) || (decide ((97 : Int) ≤ c.toNat) && decide ((c.toNat : Int) ≤ 122))
def wordB (c : UInt8) : Bool := letterB c || digitB c || decide ((c.toNat : Int) = 95)
def blankB (c : UInt8) : Bool := decide ((c.toNat : Int) = 9) || decide ((c.toNat : Int) = 10) || decide ((c.toNat : Int) = 13) || decide ((c.toNat : Int) = 32)
def byteAt (b : Bytes) (i : Nat) : UInt8 := b.getD i 0
def wRun (b : Bytes) (p : Nat) : Nat := ((b.drop p).takeWhile wordB).length
def oneSign (c : UInt8) : Bool := [40, 41, 44, 58, 59, 61, 43, 45, 42, 47, 60, 124].contains c.toNat
def signN (b : Bytes) (p : Nat) : Nat :=
  if p + 1 < b.length ∧ (((byteAt b p).toNat = 45 ∧ (byteAt b (p + 1)).toNat = 62) ∨ ((byteAt b p).toNat = 61 ∧ (byteAt b (p + 1)).toNat = 61)) then 2
  else if oneSign (byteAt b p) then 1 else 0

theorem byteAt_some {b : Bytes} {i : Nat} (h : i < b.length) : b[i]? = some (byteAt b i) := by
  simp [byteAt, List.getD, h]
@[simp] theorem getElem_byteAt (b : Bytes) (i : Nat) (h : i < b.length) : b[i] = byteAt b i := by
  have := byteAt_some h
  rw [List.getElem?_eq_getElem h] at this
  exact Option.some.inj this
theorem bytesAV_at {b : Bytes} {i : Nat} (h : i < b.length) : (bytesAV b)[i]? = some [.int .u8 ((byteAt b i).toNat : Int)] := by
  simp [bytesAV, byteAt_some h]
@[simp] theorem bytesAV_getElem {b : Bytes} {i : Nat} (h : i < (bytesAV b).length) : (bytesAV b)[i] = [.int .u8 ((byteAt b i).toNat : Int)] := by
  have h' : i < b.length := by simpa [bytesAV] using h
  have := bytesAV_at h'
  rw [List.getElem?_eq_getElem h] at this
  exact Option.some.inj this
@[simp] theorem bytesAV_length (b : Bytes) : (bytesAV b).length = b.length := by simp [bytesAV]
@[simp] theorem bytesAV_all (b : Bytes) : ((bytesAV b).all fun x => x.length == 1) = true := by simp [bytesAV]
theorem bytesAV_take (b : Bytes) (n : Nat) : (bytesAV b).take n = bytesAV (b.take n) := by simp [bytesAV]
theorem bytesAV_drop (b : Bytes) (n : Nat) : (bytesAV b).drop n = bytesAV (b.drop n) := by simp [bytesAV]

theorem tw_in {α : Type} {p : α → Bool} : ∀ {l : List α} {i : Nat}, i < (l.takeWhile p).length → ∃ c, l[i]? = some c ∧ p c = true
  | [], i, h => by simp at h
  | c :: l, i, h => by
    by_cases hp : p c = true
    · rw [List.takeWhile_cons_of_pos hp] at h
      cases i with
      | zero => exact ⟨c, by simp, hp⟩
      | succ i => simpa using tw_in (l := l) (i := i) (by simpa using h)
    · rw [List.takeWhile_cons_of_neg hp] at h
      simp at h
theorem tw_out {α : Type} {p : α → Bool} : ∀ {l : List α} {c : α}, l[(l.takeWhile p).length]? = some c → p c = false
  | [], c, h => by simp at h
  | d :: l, c, h => by
    by_cases hp : p d = true
    · rw [List.takeWhile_cons_of_pos hp] at h
      exact tw_out (l := l) (c := c) (by simpa using h)
    · rw [List.takeWhile_cons_of_neg hp] at h
      simp at h
      simpa [← h] using hp
theorem tw_le {α : Type} {p : α → Bool} (l : List α) : (l.takeWhile p).length ≤ l.length := by
  induction l with
  | nil => simp
  | cons a l ih => rw [List.takeWhile_cons]; split <;> simp; exact ih
theorem wRun_le (b : Bytes) {p : Nat} (hp : p ≤ b.length) : p + wRun b p ≤ b.length := by
  have := tw_le (p := wordB) (b.drop p)
  simp at this
  simp only [wRun]; omega
theorem wRun_in {b : Bytes} {p i : Nat} (h : i < wRun b p) : p + i < b.length ∧ wordB (byteAt b (p + i)) = true := by
  obtain ⟨c, h1, h2⟩ := tw_in h
  rw [List.getElem?_drop] at h1
  have h3 : p + i < b.length := by
    rcases Nat.lt_or_ge (p + i) b.length with h | h
    · exact h
    · rw [List.getElem?_eq_none h] at h1; cases h1
  rw [byteAt_some h3] at h1
  cases h1
  exact ⟨h3, h2⟩
theorem wRun_out {b : Bytes} {p : Nat} (h : p + wRun b p < b.length) : wordB (byteAt b (p + wRun b p)) = false := by
  refine tw_out (l := b.drop p) ?_
  rw [List.getElem?_drop]
  exact byteAt_some h
end Go.AM

/- AM: what the numbers of the document's answer are, in plain Lean. -/
namespace Go.AM

def inS (re im : Int) : (Int × Int) × Int := if re < -16777216 ∨ 16777216 < re ∨ im < -16777216 ∨ 16777216 < im then ((0, 0), 50) else ((re, im), 0)

def digS : Nat → Nat → Bytes
  | 0, _ => []
  | k + 1, n => if 10 ≤ n then digS k (n / 10) ++ [UInt8.ofNat (48 + n % 10)] else [UInt8.ofNat (48 + n % 10)]
theorem digS_len : ∀ (k n : Nat), (digS k n).length ≤ k
  | 0, _ => by simp [digS]
  | k + 1, n => by
    have := digS_len k (n / 10)
    simp only [digS]
    split <;> simp <;> omega
def digI (n : Int) : Bytes := if n < 0 then 45 :: digS 10 n.natAbs else digS 10 n.natAbs
theorem digI_len (n : Int) : (digI n).length ≤ 11 := by
  have := digS_len 10 n.natAbs
  simp only [digI]; split <;> simp <;> omega

def textS (re im : Int) : Bytes :=
  if im = 0 then digI re else if re = 0 then digI im ++ [105] else if 0 < im then ((digI re ++ [43]) ++ digI im) ++ [105] else (digI re ++ digI im) ++ [105]

def numFold (n : Int) (c : UInt8) : Int := if 16777217 < 10 * n + ((c.toNat : Int) - 48) then 16777217 else 10 * n + ((c.toNat : Int) - 48)
theorem numFold_in {n : Int} {c : UInt8} (h : 0 ≤ n) (hc : digitB c = true) : 0 ≤ numFold n c ∧ numFold n c ≤ 16777217 := by
  simp [digitB] at hc
  simp only [numFold]; split <;> omega
theorem fold_in : ∀ (l : Bytes), (∀ c ∈ l, digitB c = true) → ∀ (n : Int), 0 ≤ n → n ≤ 16777217 → 0 ≤ l.foldl numFold n ∧ l.foldl numFold n ≤ 16777217
  | [], _, n, h1, h2 => ⟨h1, h2⟩
  | c :: l, hl, n, h1, h2 => by
    have := numFold_in h1 (hl c (by simp))
    exact fold_in l (fun d hd => hl d (by simp [hd])) _ this.1 this.2

def negAt (s : Bytes) : Nat := if 0 < s.length ∧ ((byteAt s 0).toNat : Int) = 45 then 1 else 0
def digRun (s : Bytes) : Bytes := (s.drop (negAt s)).takeWhile digitB
def wholeS (s : Bytes) : Int × Nat :=
  if (digRun s).length = 0 then (0, 0) else (if negAt s = 1 then 0 - (digRun s).foldl numFold 0 else (digRun s).foldl numFold 0, negAt s + (digRun s).length)
theorem negAt_le (s : Bytes) : negAt s ≤ s.length := by simp only [negAt]; split <;> omega
theorem digRun_le (s : Bytes) : negAt s + (digRun s).length ≤ s.length := by
  have h1 := tw_le (p := digitB) (s.drop (negAt s))
  have h2 := negAt_le s
  simp at h1
  simp only [digRun]; omega
theorem digRun_digits (s : Bytes) : ∀ c ∈ digRun s, digitB c = true := by
  intro c hc
  obtain ⟨i, hi, rfl⟩ := List.getElem_of_mem hc
  obtain ⟨c, h1, h2⟩ := tw_in (l := s.drop (negAt s)) (p := digitB) (i := i) hi
  have h3 : (digRun s)[i]? = some c := by
    have : (digRun s) <+: (s.drop (negAt s)) := List.takeWhile_prefix _
    obtain ⟨t, ht⟩ := this
    rw [← ht, List.getElem?_append_left hi] at h1
    exact h1
  rw [List.getElem?_eq_getElem hi] at h3
  cases h3
  exact h2
theorem digRun_in {s : Bytes} {i : Nat} (h : i < (digRun s).length) : negAt s + i < s.length ∧ digitB (byteAt s (negAt s + i)) = true ∧ (digRun s)[i]? = some (byteAt s (negAt s + i)) := by
  have hl := digRun_le s
  have hlt : negAt s + i < s.length := by omega
  have : (digRun s) <+: (s.drop (negAt s)) := List.takeWhile_prefix _
  obtain ⟨t, ht⟩ := this
  have h1 : (s.drop (negAt s))[i]? = some (byteAt s (negAt s + i)) := by rw [List.getElem?_drop]; exact byteAt_some hlt
  rw [← ht, List.getElem?_append_left h] at h1
  refine ⟨hlt, ?_, h1⟩
  rw [List.getElem?_eq_getElem h] at h1
  have := digRun_digits s _ (List.getElem_mem h)
  rw [← Option.some.inj h1]
  exact this
theorem digRun_out {s : Bytes} (h : negAt s + (digRun s).length < s.length) : digitB (byteAt s (negAt s + (digRun s).length)) = false := by
  refine tw_out (l := s.drop (negAt s)) ?_
  rw [List.getElem?_drop]
  exact byteAt_some h
theorem wholeS_in (s : Bytes) : -16777217 ≤ (wholeS s).1 ∧ (wholeS s).1 ≤ 16777217 ∧ (wholeS s).2 ≤ s.length := by
  have h1 := fold_in (digRun s) (digRun_digits s) 0 (by omega) (by omega)
  have h2 := digRun_le s
  simp only [wholeS]
  split
  · simp
  · dsimp only
    split <;> omega

def restS (s : Bytes) : Bytes := if (byteAt s 0).toNat = 43 then s.drop 1 else s
def numS1 (s : Bytes) : Int × Int :=
  if s.drop (wholeS s).2 = [105] then (0, (wholeS s).1)
  else if s.drop (wholeS s).2 = [] then ((wholeS s).1, 0)
  else ((wholeS s).1, (wholeS (restS (s.drop (wholeS s).2))).1)
def numS (s : Bytes) : (Int × Int) × Int :=
  if (wholeS s).2 = 0 then ((0, 0), 10)
  else if (inS (numS1 s).1 (numS1 s).2).2 ≠ 0 ∨ textS (numS1 s).1 (numS1 s).2 ≠ s then ((0, 0), 10) else (numS1 s, 0)
theorem numS1_in (s : Bytes) : -16777217 ≤ (numS1 s).1 ∧ (numS1 s).1 ≤ 16777217 ∧ -16777217 ≤ (numS1 s).2 ∧ (numS1 s).2 ≤ 16777217 := by
  have h1 := wholeS_in s
  have h2 := wholeS_in (restS (s.drop (wholeS s).2))
  simp only [numS1]
  split
  · simp; omega
  · split
    · simp; omega
    · simp; omega
end Go.AM

/- AM: the marks of the document's answer, in plain Lean. -/
namespace Go.AM

theorem Frz.rows {h h' : Hp} {id e sz : Nat} {xs : List (List AV)} (hh : h id = .arr e sz xs) (hd : h' id = .dead) : Frz h h' (.sl id 0 xs.length) (.fz xs) :=
  .sl id 0 xs.length e sz xs hh (by simp) hd xs rfl
    (fun i x y hx hy => by rw [Nat.zero_add, hy] at hx; cases hx; rfl)
    (fun i x y j c d hx hy hc hd => by rw [Nat.zero_add, hy] at hx; cases hx; rw [hd] at hc; cases hc; exact .same _)
theorem Gives.frz {Q : AV → Hp → Prop} {v v' : AV} {h h' : Hp} (hs : Sub h' h) (hf : Frz h h' v v') (hq : Q v' h') : Gives Q (some v) h := ⟨v, rfl, v', h', hs, hf, hq⟩

theorem Frz.pair {h h' : Hp} {a a' b b' : AV} (h1 : Frz h h' a a') (h2 : Frz h h' b b') : Frz h h' (.tup [a, b]) (.tup [a', b']) :=
  .tup _ _ rfl fun j c d hc hd => by
    match j with
    | 0 => cases hc; cases hd; exact h1
    | 1 => cases hc; cases hd; exact h2
    | j + 2 => simp at hc

def wordsS : List Bytes := [[66], [76], [78], [99, 97, 115, 101], [99, 111, 110, 106], [101, 108, 115, 101], [102, 97, 105, 108], [102, 97, 108, 115, 101], [105, 102], [105, 109], [105, 110], [108, 101, 116], [110, 105, 108], [110, 111, 116], [111, 102], [114, 101], [115, 116, 114, 105, 99, 116], [116, 104, 101, 110], [116, 114, 117, 101]]

/-- The mark at a place; false: there is none. -/
def oneS (b : Bytes) (p : Nat) : Mk × Bool :=
  let n := wRun b p
  let txt := (b.drop p).take n
  if 0 < n ∧ digitB (byteAt b p) = true then
    (⟨2, txt, FloatKind.f64.nearest (numS txt).1.1, FloatKind.f64.nearest (numS txt).1.2, p⟩, decide ((numS txt).2 = 0))
  else if 0 < n ∧ ((byteAt b p).toNat : Int) = 95 then (⟨0, txt, 0, 0, p⟩, false)
  else if 0 < n then (⟨if txt ∈ wordsS then 1 else 0, txt, 0, 0, p⟩, true)
  else (⟨3, (b.drop p).take (signN b p), 0, 0, p⟩, decide (0 < signN b p))

theorem signN_le {b : Bytes} {p : Nat} (hp : p < b.length) : p + signN b p ≤ b.length := by
  simp only [signN]; split
  · omega
  · split <;> omega

/-- A list that grows: nothing yet, or an array of its own. -/
def SlAt (h0 h : Hp) (e sz : Nat) (v : AV) (rows : List (List AV)) : Prop :=
  (rows = [] ∧ v = .nl ∧ h = h0) ∨ (∃ id, h0 id = .dead ∧ v = .sl id 0 rows.length ∧ h = hset h0 id (.arr e sz rows))

theorem SlAt.nil (h0 : Hp) (e sz : Nat) : SlAt h0 h0 e sz .nl [] := .inl ⟨rfl, rfl, rfl⟩
theorem SlAt.len {h0 h : Hp} {e sz : Nat} {v : AV} {rows : List (List AV)} (hs : SlAt h0 h e sz v rows) (h1 : Hp) : aLen .sl v h1 = some (.int .i64 rows.length) := by
  rcases hs with ⟨rfl, rfl, _⟩ | ⟨id, _, rfl, _⟩ <;> rfl
theorem SlAt.keep {h0 h : Hp} {e sz : Nat} {v : AV} {rows : List (List AV)} (hs : SlAt h0 h e sz v rows) {j : Nat} {o : AObj} (hj : h0 j = o) (ho : o ≠ .dead) : h j = o := by
  rcases hs with ⟨_, _, rfl⟩ | ⟨id, hd, _, rfl⟩
  · exact hj
  · have : ¬ j = id := by rintro rfl; exact ho (hj.symm.trans hd)
    simp [this, hj]
theorem SlAt.app {h0 h h1 : Hp} {e sz b : Nat} {v : AV} {rows ys : List (List AV)} {K : AV → Hp → Prop} (hs : SlAt h0 h e sz v rows) (hsub : Sub h h1) (hys : ys ≠ []) (hlen : rows.length + ys.length ≤ 4611686018427387904) (hb : (rows.length + ys.length) * b ≤ 140737488355328)
    (hk : ∀ v' h2 h2', SlAt h0 h2 e sz v' (rows ++ ys) → Sub h2 h2' → (∀ j cs, h1 j = .cells cs → h2' j = .cells cs) → K v' h2') {u : Held K} : AApp e sz b v ys K h1 u := by
  rcases hs with ⟨rfl, rfl, rfl⟩ | ⟨id, hd, rfl, rfl⟩
  · cases ys with
    | nil => exact absurd rfl hys
    | cons y ys =>
      refine ⟨by simpa using hlen, by simpa using hb, fun id hid => hk _ (hset h id (.arr e sz (y :: ys))) _ (.inr ⟨id, hsub.dead hid, rfl, rfl⟩) hsub.put fun j cs hj => ?_⟩
      have : ¬ j = id := by rintro rfl; rw [hid] at hj; cases hj
      simp [this, hj]
  · have h1id : h1 id = .arr e sz rows := by
      rcases hsub id with h | h
      · rw [← h]; simp
      · simp at h
    refine ⟨rfl, ?_⟩
    rw [h1id]
    refine ⟨rfl, rfl, Nat.le_refl _, hlen, hb, fun id' hid' => ?_⟩
    refine hk _ (hset h0 id' (.arr e sz (rows ++ ys))) _ (.inr ⟨id', ?_, by simp, rfl⟩) ?_ ?_
    · have hne : ¬ id' = id := by rintro rfl; rw [h1id] at hid'; cases hid'
      have := hsub.dead hid'
      simpa [hne] using this
    · rw [List.take_length]
      refine Sub.put fun j => ?_
      by_cases ej : j = id
      · exact .inr (by rw [ej]; exact hd)
      · rcases hsub j with h | h
        · simp [ej] at h
          simp [ej, h]
        · simp [ej] at h
          exact .inr h
    · intro j cs hj
      have n1 : ¬ j = id' := by rintro rfl; rw [hid'] at hj; cases hj
      have n2 : ¬ j = id := by rintro rfl; rw [h1id] at hj; cases hj
      simp [n1, n2, hj]
theorem SlAt.sub {h0 h : Hp} {e sz : Nat} {v : AV} {rows : List (List AV)} (hs : SlAt h0 h e sz v rows) : Sub h0 h := by
  rcases hs with ⟨_, _, rfl⟩ | ⟨id, hd, _, rfl⟩
  · exact Sub.refl _
  · exact Sub.drop hd
def rowsAV (rows : List (List AV)) : AV := match rows with | [] => .nl | _ => .fz rows
theorem SlAt.frz {h0 h h1 : Hp} {e sz : Nat} {v : AV} {rows : List (List AV)} (hs : SlAt h0 h e sz v rows) (hr : rows ≠ []) (hsub : Sub h h1) : Frz h1 h0 v (.fz rows) := by
  rcases hs with ⟨rfl, rfl, rfl⟩ | ⟨id, hd, rfl, rfl⟩
  · exact absurd rfl hr
  · have h1id : h1 id = .arr e sz rows := by
      rcases hsub id with h | h
      · rw [← h]; simp
      · simp at h
    exact Frz.rows h1id hd
end Go.AM

/- AM: all marks of a text, in plain Lean. -/
namespace Go.AM

def notNl (c : UInt8) : Bool := !decide ((c.toNat : Int) = 10)
def skipN (b : Bytes) (p : Nat) : Nat := ((b.drop p).takeWhile notNl).length
theorem skipN_le (b : Bytes) {p : Nat} (hp : p ≤ b.length) : p + skipN b p ≤ b.length := by
  have := tw_le (p := notNl) (b.drop p)
  simp at this
  simp only [skipN]; omega
theorem skipN_in {b : Bytes} {p i : Nat} (h : i < skipN b p) : p + i < b.length ∧ notNl (byteAt b (p + i)) = true := by
  obtain ⟨c, h1, h2⟩ := tw_in h
  rw [List.getElem?_drop] at h1
  have h3 : p + i < b.length := by
    rcases Nat.lt_or_ge (p + i) b.length with h | h
    · exact h
    · rw [List.getElem?_eq_none h] at h1; cases h1
  rw [byteAt_some h3] at h1
  cases h1
  exact ⟨h3, h2⟩
theorem skipN_out {b : Bytes} {p : Nat} (h : p + skipN b p < b.length) : notNl (byteAt b (p + skipN b p)) = false := by
  refine tw_out (l := b.drop p) ?_
  rw [List.getElem?_drop]
  exact byteAt_some h
theorem skipN_pos {b : Bytes} {p : Nat} (hp : p < b.length) (h : ((byteAt b p).toNat : Int) = 35) : 0 < skipN b p := by
  rcases Nat.eq_zero_or_pos (skipN b p) with e | e
  · have := skipN_out (b := b) (p := p) (by omega)
    rw [e] at this
    simp [notNl, h] at this
  · exact e

def pre (m : Mk) : List Mk ⊕ Nat → List Mk ⊕ Nat
  | .inl l => .inl (m :: l)
  | .inr q => .inr q
def marksS (b : Bytes) : Nat → Nat → List Mk ⊕ Nat
  | 0, p => .inr p
  | k + 1, p =>
    if p < b.length then
      if blankB (byteAt b p) = true then marksS b k (p + 1)
      else if ((byteAt b p).toNat : Int) = 35 then marksS b k (p + skipN b p)
      else if (oneS b p).2 = true then pre (oneS b p).1 (marksS b k (p + (oneS b p).1.text.length)) else .inr p
    else .inl [⟨4, [], 0, 0, b.length⟩]

theorem oneS_len {b : Bytes} {p : Nat} (hp : p < b.length) (h : (oneS b p).2 = true) : 0 < (oneS b p).1.text.length ∧ p + (oneS b p).1.text.length ≤ b.length := by
  have h1 := wRun_le b (Nat.le_of_lt hp)
  have h2 := signN_le hp
  revert h
  simp only [oneS]
  split
  · rename_i h3; simp; omega
  · split
    · simp
    · split
      · simp; omega
      · simp; omega

/-- The marks so far, and the rest. -/
def joinM (acc : List Mk) : List Mk ⊕ Nat → List Mk ⊕ Nat
  | .inl l => .inl (acc ++ l)
  | .inr q => .inr q
theorem joinM_pre (acc : List Mk) (m : Mk) (r : List Mk ⊕ Nat) : joinM acc (pre m r) = joinM (acc ++ [m]) r := by
  cases r <;> simp [joinM, pre]
theorem joinM_nil (r : List Mk ⊕ Nat) : joinM [] r = r := by cases r <;> rfl

/-- What a call of Marks gives. -/
def marksAV : List Mk ⊕ Nat → AV
  | .inl l => .tup [.fz (l.map Mk.cells), .int .i64 (-1)]
  | .inr q => .tup [.nl, .int .i64 q]
end Go.AM

/- AM: the grammar of the document's answer, in plain Lean. -/
namespace Go.AM

/-- An expression. -/
inductive Ex where
  | mk (op : Int) (name tail : Bytes) (ty : Int) (re im : Nat) (args : List Ex) (pos : Int)
def ex0 : Ex := .mk 0 [] [] 0 0 0 [] 0
mutual
def Ex.cells : Ex → List AV
  | .mk op name tail ty re im args pos => [.int .i64 op, .str name, .str tail, .int .i64 ty, .cplx re im, rowsAV (Ex.rows args), .int .i64 pos]
def Ex.rows : List Ex → List (List AV)
  | [] => []
  | e :: l => e.cells :: Ex.rows l
end
theorem Ex.rows_map : ∀ (l : List Ex), Ex.rows l = l.map Ex.cells
  | [] => rfl
  | e :: l => by rw [Ex.rows, Ex.rows_map l]; rfl
@[simp] theorem Ex.cells_length (e : Ex) : e.cells.length = 7 := by cases e; rfl

def two (op : Int) (a b : Ex) (m : Mk) : Ex := .mk op [] [] 0 0 0 [a, b] m.pos
def wordS (t : Bytes) : Int :=
  if t = [116, 114, 117, 101] then 2 else if t = [102, 97, 108, 115, 101] then 3 else if t = [110, 105, 108] then 4 else if t = [102, 97, 105, 108] then 5
  else if t = [110, 111, 116] then 14 else if t = [114, 101] then 15 else if t = [105, 109] then 16 else if t = [99, 111, 110, 106] then 17 else 0

section
variable (ms : List Mk) (e : St → Ex × St)

def argsS : Nat → List Ex → St → List Ex × St
  | 0, acc, s => (acc, s)
  | n + 1, acc, s => if s.why = 0 ∧ isB ms s [41] = false then
      argsS n (acc ++ [(e (if acc = [] then s else wantS ms s [44])).1]) (e (if acc = [] then s else wantS ms s [44])).2
    else (acc, s)
def namedS (m : Mk) (s : St) : Ex × St :=
  if isB ms s [40] = true then (.mk 7 m.text [] 0 0 0 (argsS ms e (ms.length + 1) [] (adv s)).1 m.pos, wantS ms (argsS ms e (ms.length + 1) [] (adv s)).2 [41])
  else (.mk 6 m.text [] 0 0 0 [] m.pos, s)
def oneArg (op : Int) : Bool := decide (op = 14) || decide (op = 15) || decide (op = 16) || decide (op = 17)
def unitS (s : St) : Ex × St :=
  if s.why ≠ 0 then (ex0, s)
  else if (nx ms s).kind = 2 then (.mk 1 [] [] 0 (nx ms s).re (nx ms s).im [] (nx ms s).pos, adv s)
  else if (nx ms s).kind = 0 then namedS ms e (nx ms s) (adv s)
  else if isB ms s [40] = true then ((e (adv s)).1, wantS ms (e (adv s)).2 [41])
  else if (nx ms s).kind ≠ 1 ∨ wordS (nx ms s).text = 0 then (ex0, failS ms s 21)
  else if wordS (nx ms s).text = 5 then (.mk (wordS (nx ms s).text) [] [] (typS ms (adv s)).1 0 0 [] (nx ms s).pos, (typS ms (adv s)).2)
  else if oneArg (wordS (nx ms s).text) = true then
    (.mk (wordS (nx ms s).text) [] [] 0 0 0 [(e (wantS ms (adv s) [40])).1] (nx ms s).pos, wantS ms (e (wantS ms (adv s) [40])).2 [41])
  else (.mk (wordS (nx ms s).text) [] [] 0 0 0 [] (nx ms s).pos, adv s)
def chainS (sub : St → Ex × St) (o1 o2 : Bytes) (c1 c2 : Int) : Nat → Ex → St → Ex × St
  | 0, a, s => (a, s)
  | n + 1, a, s => if isB ms s o1 = true ∨ isB ms s o2 = true then
      chainS sub o1 o2 c1 c2 n (two (if (nx ms s).text = o2 then c2 else c1) a (sub (adv s)).1 (nx ms s)) (sub (adv s)).2
    else (a, s)
def termS (s : St) : Ex × St := chainS ms (unitS ms e) [42] [47] 10 11 (ms.length + 1) (unitS ms e s).1 (unitS ms e s).2
def sumS (s : St) : Ex × St := chainS ms (termS ms e) [43] [45] 8 9 (ms.length + 1) (termS ms e s).1 (termS ms e s).2
def compS (s : St) : Ex × St :=
  if isB ms (sumS ms e s).2 [61, 61] = true ∨ isB ms (sumS ms e s).2 [60] = true then
    (two (if isB ms (sumS ms e s).2 [60] = true then 13 else 12) (sumS ms e s).1 (sumS ms e (adv (sumS ms e s).2)).1 (nx ms (sumS ms e s).2), (sumS ms e (adv (sumS ms e s).2)).2)
  else sumS ms e s
def consS : Nat → St → Ex × St
  | 0, s => (ex0, s)
  | n + 1, s => if isB ms (compS ms e s).2 [58] = true then
      (two 18 (compS ms e s).1 (consS n (adv (compS ms e s).2)).1 (nx ms (compS ms e s).2), (consS n (adv (compS ms e s).2)).2)
    else compS ms e s
def partsS : St → List Bytes → List Ex × St
  | s, [] => ([], s)
  | s, t :: l => ((e (if t = [] then s else wantS ms s t)).1 :: (partsS (e (if t = [] then s else wantS ms s t)).2 l).1, (partsS (e (if t = [] then s else wantS ms s t)).2 l).2)
def br1 (s : St) : St := wantS ms (wantS ms (wantS ms (e s).2 [111, 102]) [110, 105, 108]) [45, 62]
def br2 (s : St) : St := wantS ms (e (br1 ms e s)).2 [124]
def br3 (s : St) : St := wantS ms (nameS ms (br2 ms e s)).2 [58]
def br4 (s : St) : St := wantS ms (nameS ms (br3 ms e s)).2 [45, 62]
def branchesS (s : St) (pos : Int) : Ex × St :=
  (.mk 20 (nameS ms (br2 ms e s)).1.text (nameS ms (br3 ms e s)).1.text 0 0 0 [(e s).1, (e (br1 ms e s)).1, (e (br4 ms e s)).1] pos, (e (br4 ms e s)).2)
def bindsB (s : St) : Bool := isB ms s [108, 101, 116] || (isB ms s [115, 116, 114, 105, 99, 116] || isB ms s [99, 97, 115, 101])
def letS (s : St) (m : Mk) : Ex × St :=
  (.mk (if m.text = [115, 116, 114, 105, 99, 116] then 22 else 21) (nameS ms s).1.text [] (typS ms (nameS ms s).2).1 0 0 (partsS ms e (typS ms (nameS ms s).2).2 [[61], [105, 110]]).1 m.pos,
    (partsS ms e (typS ms (nameS ms s).2).2 [[61], [105, 110]]).2)
def headS (s : St) (m : Mk) : Ex × St :=
  if m.text = [105, 102] then (.mk 19 [] [] 0 0 0 (partsS ms e s [[], [116, 104, 101, 110], [101, 108, 115, 101]]).1 m.pos, (partsS ms e s [[], [116, 104, 101, 110], [101, 108, 115, 101]]).2)
  else if m.text = [99, 97, 115, 101] then branchesS ms e s m.pos else letS ms e s m
def deeper (s : St) : St := { s with nest := s.nest + 1 }
def higher (s : St) : St := { s with nest := s.nest - 1 }
def exprS (s : St) : Ex × St :=
  if s.why ≠ 0 then (ex0, s)
  else if bindsB ms s = true then
    if 32768 ≤ s.nest then (ex0, failS ms s 23)
    else ((headS ms e (adv (deeper s)) (nx ms s)).1, higher (headS ms e (adv (deeper s)) (nx ms s)).2)
  else if isB ms s [105, 102] = true then headS ms e (adv s) (nx ms s)
  else consS ms e (ms.length + 1) s
end
def pExpr (ms : List Mk) : Nat → St → Ex × St
  | 0, s => (ex0, s)
  | k + 1, s => exprS ms (pExpr ms k) s

theorem adv_at (s : St) : (adv s).at_ = s.at_ + 1 := rfl

/-! ### On -/

/-- Nothing is read back. -/
structure On (ms : List Mk) (s s' : St) : Prop where
  le : s.at_ ≤ s'.at_
  lt : s'.at_ < ms.length
  nest : s'.nest = s.nest
  why : s.why ≠ 0 → s'.why ≠ 0
theorem On.refl {ms : List Mk} {s : St} (h : s.at_ < ms.length) : On ms s s := ⟨Nat.le_refl _, h, rfl, id⟩
theorem On.trans {ms : List Mk} {a b c : St} (h : On ms a b) (k : On ms b c) : On ms a c := ⟨Nat.le_trans h.le k.le, k.lt, k.nest.trans h.nest, fun x => k.why (h.why x)⟩
theorem adv_on {ms : List Mk} (hg : Good ms) {s : St} (h : s.at_ < ms.length) (hk : (nx ms s).kind ≠ 4) : On ms s (adv s) := by
  refine ⟨by simp [adv], ?_, rfl, id⟩
  have := hg.last s
  simp only [adv]
  rcases Nat.lt_or_ge (s.at_ + 1) ms.length with h1 | h1
  · exact h1
  · exact absurd (this (by omega)) hk
theorem isB_kind {ms : List Mk} {s : St} {t : Bytes} (h : isB ms s t = true) : s.why = 0 ∧ (nx ms s).kind ≠ 4 ∧ (nx ms s).text = t := by
  simp [isB] at h
  obtain ⟨h1, h2 | h2, h3⟩ := h
  · exact ⟨h1, by rw [h2]; decide, h3⟩
  · exact ⟨h1, by rw [h2]; decide, h3⟩
theorem isB_on {ms : List Mk} (hg : Good ms) {s : St} {t : Bytes} (h : s.at_ < ms.length) (hb : isB ms s t = true) : On ms s (adv s) := adv_on hg h (isB_kind hb).2.1
theorem fail_on {ms : List Mk} {s : St} {w : Int} (hw : w ≠ 0) (h : s.at_ < ms.length) : On ms s (failS ms s w) := by
  simp only [failS]; split
  · exact ⟨Nat.le_refl _, h, rfl, fun _ => hw⟩
  · exact On.refl h
theorem fail_why {ms : List Mk} {s : St} {w : Int} (hw : w ≠ 0) : (failS ms s w).why ≠ 0 := by
  simp only [failS]; split
  · exact hw
  · assumption
theorem want_on {ms : List Mk} (hg : Good ms) {s : St} {t : Bytes} (h : s.at_ < ms.length) : On ms s (wantS ms s t) := by
  simp only [wantS]; split
  · rename_i hb; exact isB_on hg h hb
  · exact fail_on (by decide) h
theorem want_go {ms : List Mk} {s : St} {t : Bytes} (h : (wantS ms s t).why = 0) : s.at_ < (wantS ms s t).at_ := by
  revert h; simp only [wantS]; split
  · intro _; simp [adv]
  · intro h; exact absurd h (fail_why (by decide))
theorem name_on {ms : List Mk} (hg : Good ms) {s : St} (h : s.at_ < ms.length) : On ms s (nameS ms s).2 := by
  simp only [nameS]; split
  · exact fail_on (by decide) h
  · rename_i hk
    exact adv_on hg h (by intro e; exact hk (.inr (by rw [e]; decide)))
theorem name_go {ms : List Mk} {s : St} (h : (nameS ms s).2.why = 0) : s.at_ < (nameS ms s).2.at_ := by
  revert h; simp only [nameS]; split
  · intro h; exact absurd h (fail_why (by decide))
  · intro _; simp [adv]
theorem typ_on {ms : List Mk} (hg : Good ms) {s : St} (h : s.at_ < ms.length) : On ms s (typS ms s).2 := by
  simp only [typS]
  split
  · rename_i hb; exact isB_on hg h hb
  · split
    · rename_i hb; exact isB_on hg h hb
    · split
      · rename_i hb; exact isB_on hg h hb
      · exact fail_on (by decide) h

/-- What is known of the reading of expressions, as far as k marks are left. -/
def Reads (ms : List Mk) (k : Nat) (e : St → Ex × St) : Prop := ∀ s, s.at_ < ms.length → ms.length ≤ s.at_ + k → On ms s (e s).2 ∧ (s.why = 0 → (e s).2.why = 0 → s.at_ < (e s).2.at_)

section
variable {ms : List Mk} {k : Nat} {e : St → Ex × St}
theorem args_on (hg : Good ms) (he : Reads ms k e) : ∀ (n : Nat) (acc : List Ex) (s : St), s.at_ < ms.length → ms.length ≤ s.at_ + k → On ms s (argsS ms e n acc s).2
  | 0, acc, s, h, _ => On.refl h
  | n + 1, acc, s, h, hk => by
    simp only [argsS]
    split
    · have h1 : On ms s (if acc = [] then s else wantS ms s [44]) := by
        split
        · exact On.refl h
        · exact want_on hg h
      generalize (if acc = [] then s else wantS ms s [44]) = s1 at *
      have h2 := (he s1 h1.lt (by have := h1.le; omega)).1
      exact (h1.trans h2).trans (args_on hg he n _ _ h2.lt (by have := h1.le; have := h2.le; omega))
    · exact On.refl h
theorem named_on (hg : Good ms) (he : Reads ms k e) {m : Mk} {s : St} (h : s.at_ < ms.length) (hk : ms.length ≤ s.at_ + (k + 1)) : On ms s (namedS ms e m s).2 := by
  simp only [namedS]; split
  · rename_i hb
    have h1 := isB_on hg h hb
    have h2 := args_on hg he (ms.length + 1) [] (adv s) h1.lt (by simp [adv]; omega)
    exact (h1.trans h2).trans (want_on hg h2.lt)
  · exact On.refl h
theorem unit_on (hg : Good ms) (he : Reads ms k e) : Reads ms (k + 1) (unitS ms e) := by
  intro s h hk
  simp only [unitS]
  split
  · rename_i hw; exact ⟨On.refl h, fun x => absurd x hw⟩
  rename_i hw
  split
  · rename_i h2; exact ⟨adv_on hg h (by rw [h2]; decide), fun _ _ => by simp [adv]⟩
  split
  · rename_i h2
    have h3 := adv_on hg h (by rw [h2]; decide)
    have h4 := named_on hg he (m := nx ms s) h3.lt (by simp [adv]; omega)
    exact ⟨h3.trans h4, fun _ _ => Nat.lt_of_lt_of_le (by simp [adv]) h4.le⟩
  split
  · rename_i hb
    have h3 := isB_on hg h hb
    have h4 := (he (adv s) h3.lt (by simp [adv]; omega)).1
    have h5 := want_on hg (t := [41]) h4.lt
    exact ⟨(h3.trans h4).trans h5, fun _ _ => Nat.lt_of_lt_of_le (by simp [adv]) (h4.trans h5).le⟩
  split
  · exact ⟨fail_on (by decide) h, fun _ hq => absurd hq (fail_why (by decide))⟩
  rename_i hk1
  have hk2 : (nx ms s).kind ≠ 4 := by
    intro e; exact hk1 (.inl (by rw [e]; decide))
  have h3 := adv_on hg h hk2
  split
  · have h4 := typ_on hg h3.lt
    exact ⟨h3.trans h4, fun _ _ => Nat.lt_of_lt_of_le (by simp [adv]) h4.le⟩
  split
  · have h4 := want_on hg (t := [40]) h3.lt
    have h5 := (he _ h4.lt (by have := h4.le; rw [adv_at] at this; omega)).1
    have h6 := want_on hg (t := [41]) h5.lt
    exact ⟨((h3.trans h4).trans h5).trans h6, fun _ _ => Nat.lt_of_lt_of_le (by simp [adv]) ((h4.trans h5).trans h6).le⟩
  · exact ⟨h3, fun _ _ => by simp [adv]⟩
theorem chain_on (hg : Good ms) {sub : St → Ex × St} (he : Reads ms k sub) {o1 o2 : Bytes} {c1 c2 : Int} : ∀ (n : Nat) (a : Ex) (s : St), s.at_ < ms.length → ms.length ≤ s.at_ + k → On ms s (chainS ms sub o1 o2 c1 c2 n a s).2
  | 0, a, s, h, _ => On.refl h
  | n + 1, a, s, h, hk => by
    simp only [chainS]
    split
    · rename_i hb
      have h1 : On ms s (adv s) := by
        rcases hb with hb | hb <;> exact isB_on hg h hb
      have h2 := (he (adv s) h1.lt (by simp [adv]; omega)).1
      exact (h1.trans h2).trans (chain_on hg he n _ _ h2.lt (by have := h2.le; rw [adv_at] at this; omega))
    · exact On.refl h
theorem chain_reads (hg : Good ms) {sub : St → Ex × St} (he : Reads ms k sub) {o1 o2 : Bytes} {c1 c2 : Int} {n : Nat} : Reads ms k (fun s => chainS ms sub o1 o2 c1 c2 n (sub s).1 (sub s).2) := by
  intro s h hk
  obtain ⟨h1, h2⟩ := he s h hk
  have h3 := chain_on hg he (o1 := o1) (o2 := o2) (c1 := c1) (c2 := c2) n (sub s).1 (sub s).2 h1.lt (by have := h1.le; omega)
  refine ⟨h1.trans h3, fun hw hw' => Nat.lt_of_lt_of_le (h2 hw ?_) h3.le⟩
  exact Decidable.byContradiction fun x => h3.why x hw'
theorem term_on (hg : Good ms) (he : Reads ms k e) : Reads ms (k + 1) (termS ms e) := chain_reads hg (unit_on hg he)
theorem sum_on (hg : Good ms) (he : Reads ms k e) : Reads ms (k + 1) (sumS ms e) := chain_reads hg (term_on hg he)
theorem comp_on (hg : Good ms) (he : Reads ms k e) : Reads ms (k + 1) (compS ms e) := by
  intro s h hk
  obtain ⟨h1, h2⟩ := sum_on hg he s h hk
  simp only [compS]
  split
  · rename_i hb
    have h3 : On ms (sumS ms e s).2 (adv (sumS ms e s).2) := by
      rcases hb with hb | hb <;> exact isB_on hg h1.lt hb
    have h4 := (sum_on hg he _ h3.lt (by have := h3.le; have := h1.le; omega)).1
    exact ⟨(h1.trans h3).trans h4, fun _ _ => Nat.lt_of_le_of_lt h1.le (Nat.lt_of_lt_of_le (by simp [adv]) h4.le)⟩
  · exact ⟨h1, h2⟩
theorem cons_on (hg : Good ms) (he : Reads ms k e) : ∀ (n : Nat) (s : St), s.at_ < ms.length → ms.length ≤ s.at_ + (k + 1) → ms.length < s.at_ + n → On ms s (consS ms e n s).2 ∧ (s.why = 0 → (consS ms e n s).2.why = 0 → s.at_ < (consS ms e n s).2.at_)
  | 0, s, h, _, hn => by omega
  | n + 1, s, h, hk, hn => by
    obtain ⟨h1, h2⟩ := comp_on hg he s h hk
    simp only [consS]
    split
    · rename_i hb
      have h3 := isB_on hg h1.lt hb
      have h5 : s.at_ < (adv (compS ms e s).2).at_ := Nat.lt_of_le_of_lt h1.le (by simp [adv])
      have h4 := (cons_on hg he n (adv (compS ms e s).2) h3.lt (by omega) (by omega)).1
      exact ⟨(h1.trans h3).trans h4, fun _ _ => Nat.lt_of_lt_of_le h5 h4.le⟩
    · exact ⟨h1, h2⟩
theorem parts_on (hg : Good ms) (he : Reads ms k e) : ∀ (l : List Bytes) (s : St), s.at_ < ms.length → ms.length ≤ s.at_ + k → On ms s (partsS ms e s l).2
  | [], s, h, _ => On.refl h
  | t :: l, s, h, hk => by
    simp only [partsS]
    have h1 : On ms s (if t = [] then s else wantS ms s t) := by
      split
      · exact On.refl h
      · exact want_on hg h
    generalize (if t = [] then s else wantS ms s t) = s1 at *
    have h2 := (he s1 h1.lt (by have := h1.le; omega)).1
    exact (h1.trans h2).trans (parts_on hg he l _ h2.lt (by have := (h1.trans h2).le; omega))
theorem br1_on (hg : Good ms) (he : Reads ms k e) {s : St} (h : s.at_ < ms.length) (hk : ms.length ≤ s.at_ + k) : On ms s (br1 ms e s) := by
  have h1 := (he s h hk).1
  have h2 := want_on hg (t := [111, 102]) h1.lt
  have h3 := want_on hg (t := [110, 105, 108]) h2.lt
  exact ((h1.trans h2).trans h3).trans (want_on hg h3.lt)
theorem br2_on (hg : Good ms) (he : Reads ms k e) {s : St} (h : s.at_ < ms.length) (hk : ms.length ≤ s.at_ + k) : On ms s (br2 ms e s) := by
  have h1 := br1_on hg he h hk
  have h2 := (he _ h1.lt (by have := h1.le; omega)).1
  exact (h1.trans h2).trans (want_on hg h2.lt)
theorem br3_on (hg : Good ms) (he : Reads ms k e) {s : St} (h : s.at_ < ms.length) (hk : ms.length ≤ s.at_ + k) : On ms s (br3 ms e s) := by
  have h1 := br2_on hg he h hk
  have h2 := name_on hg h1.lt
  exact (h1.trans h2).trans (want_on hg h2.lt)
theorem br4_on (hg : Good ms) (he : Reads ms k e) {s : St} (h : s.at_ < ms.length) (hk : ms.length ≤ s.at_ + k) : On ms s (br4 ms e s) := by
  have h1 := br3_on hg he h hk
  have h2 := name_on hg h1.lt
  exact (h1.trans h2).trans (want_on hg h2.lt)
theorem branches_on (hg : Good ms) (he : Reads ms k e) {s : St} {pos : Int} (h : s.at_ < ms.length) (hk : ms.length ≤ s.at_ + k) : On ms s (branchesS ms e s pos).2 := by
  have h1 := br4_on hg he h hk
  exact h1.trans (he _ h1.lt (by have := h1.le; omega)).1
theorem let_on (hg : Good ms) (he : Reads ms k e) {s : St} {m : Mk} (h : s.at_ < ms.length) (hk : ms.length ≤ s.at_ + k) : On ms s (letS ms e s m).2 := by
  have h1 := name_on hg h
  have h2 := typ_on hg h1.lt
  have h3 := h1.trans h2
  exact h3.trans (parts_on hg he _ _ h3.lt (by have := h3.le; omega))
theorem head_on (hg : Good ms) (he : Reads ms k e) {s : St} {m : Mk} (h : s.at_ < ms.length) (hk : ms.length ≤ s.at_ + k) : On ms s (headS ms e s m).2 := by
  simp only [headS]
  split
  · exact parts_on hg he _ _ h hk
  · split
    · exact branches_on hg he h hk
    · exact let_on hg he h hk
theorem binds_kind {s : St} (hb : bindsB ms s = true) : s.why = 0 ∧ (nx ms s).kind ≠ 4 := by
  simp only [bindsB, Bool.or_eq_true] at hb
  rcases hb with h | h | h
  · exact ⟨(isB_kind h).1, (isB_kind h).2.1⟩
  · exact ⟨(isB_kind h).1, (isB_kind h).2.1⟩
  · exact ⟨(isB_kind h).1, (isB_kind h).2.1⟩
theorem expr_on (hg : Good ms) (he : Reads ms k e) : Reads ms (k + 1) (exprS ms e) := by
  intro s h hk
  simp only [exprS]
  split
  · rename_i hw; exact ⟨On.refl h, fun x => absurd x hw⟩
  split
  · rename_i hb
    split
    · exact ⟨fail_on (by decide) h, fun _ hq => absurd hq (fail_why (by decide))⟩
    · have h0 := adv_on hg h (binds_kind hb).2
      have h1 : (adv (deeper s)).at_ < ms.length := h0.lt
      have h2 := head_on hg he (m := nx ms s) h1 (by simp [adv, deeper]; omega)
      refine ⟨⟨Nat.le_trans h0.le h2.le, h2.lt, ?_, fun x => h2.why x⟩, fun _ _ => Nat.lt_of_lt_of_le (by simp [adv, deeper]) h2.le⟩
      have := h2.nest
      show (headS ms e (adv (deeper s)) (nx ms s)).2.nest - 1 = s.nest
      rw [this]
      simp [adv, deeper]
  split
  · rename_i hb
    have h1 := isB_on hg h hb
    have h2 := head_on hg he (m := nx ms s) h1.lt (by simp [adv]; omega)
    exact ⟨h1.trans h2, fun _ _ => Nat.lt_of_lt_of_le (by simp [adv]) h2.le⟩
  · exact cons_on hg he _ s h hk (by omega)
theorem pExpr_on (hg : Good ms) : ∀ (k : Nat), Reads ms k (pExpr ms k)
  | 0 => fun s h hk => by omega
  | k + 1 => expr_on hg (pExpr_on hg k)
end
end Go.AM

/- AM: contracts of the grammar's rules: what is passed on. -/
namespace Go.AM

@[simp] theorem Ex.take7 (e : Ex) : e.cells.take 7 = e.cells := List.take_of_length_le (by simp)
@[simp] theorem Ex.drop7 (e : Ex) (l : List AV) : (e.cells ++ l).drop 7 = l := by rw [List.drop_append_of_le_length (by simp), List.drop_eq_nil_of_le (by simp)]; rfl
@[simp] theorem Ex.take7a (e : Ex) (l : List AV) : (e.cells ++ l).take 7 = e.cells := by rw [List.take_append_of_le_length (by simp)]; simp
@[simp] theorem Mk.take4 (m : Mk) : m.cells.take 4 = m.cells := rfl
@[simp] theorem Mk.drop4 (m : Mk) : m.cells.drop 4 = [] := rfl
@[simp] theorem Ex.drop7' (e : Ex) : e.cells.drop 7 = [] := List.drop_eq_nil_of_le (by simp)
@[simp] theorem Mk.cell0 (m : Mk) : m.cells[0]? = some (.int .i64 m.kind) := rfl
@[simp] theorem Mk.cell1 (m : Mk) : m.cells[1]? = some (.str m.text) := rfl
@[simp] theorem Mk.cell2 (m : Mk) : m.cells[2]? = some (.cplx m.re m.im) := rfl
@[simp] theorem Mk.cell3 (m : Mk) : m.cells[3]? = some (.int .i64 m.pos) := rfl

@[simp] theorem rowsAV_flat (l : List (List AV)) : (rowsAV l).flat = true := by cases l <;> rfl
@[simp] theorem rowsAV_cells (l : List (List AV)) : (rowsAV l).cells = [rowsAV l] := by cases l <;> rfl

/-- Cells that are the same but for one that is frozen. -/
theorem Frz.cell {h h' : Hp} {a b : List AV} {c d : AV} (hc : Frz h h' c d) : Frz h h' (.agg (a ++ c :: b)) (.agg (a ++ d :: b)) :=
  .agg _ _ (by simp) fun j x y hx hy => by
    rcases Nat.lt_trichotomy j a.length with e | e | e
    · rw [List.getElem?_append_left e] at hx hy
      rw [hx] at hy; cases hy; exact .same _
    · subst e
      simp at hx hy
      rw [← hx, ← hy]; exact hc
    · rw [List.getElem?_append_right (by omega)] at hx hy
      obtain ⟨i, hi⟩ : ∃ i, j - a.length = i + 1 := ⟨j - a.length - 1, by omega⟩
      rw [hi] at hx hy
      simp at hx hy
      rw [hx] at hy; cases hy; exact .same _

/-! ### What a function does to memory: its own objects, and one that it was handed -/

def Fr (h h' : Hp) (rid : Nat) : Prop := ∀ j, j ≠ rid → h j = .dead ∨ h' j = h j
def Own (h h' : Hp) (e sz : Nat) (v : AV) (rows : List (List AV)) : Prop := (rows = [] ∧ v = .nl) ∨ ∃ id, rows ≠ [] ∧ h id = .dead ∧ v = .sl id 0 rows.length ∧ h' id = .arr e sz rows

section
variable {h h' h1 : Hp} {rid e sz : Nat} {v : AV} {rows : List (List AV)}
theorem Fr.refl : Fr h h rid := fun _ _ => .inr rfl
theorem Fr.set (hf : Fr h h1 rid) {j : Nat} {o : AObj} (hj : h j = .dead) : Fr h (hset h1 j o) rid := fun i hi => by
  by_cases e : i = j
  · exact .inl (e ▸ hj)
  · simpa [e] using hf i hi
theorem Fr.own (hf : Fr h h1 rid) {o : AObj} : Fr h (hset h1 rid o) rid := fun i hi => by
  simpa [hi] using hf i hi
theorem Fr.dead (hf : Fr h h1 rid) {cs : List AV} (hr : h1 rid = .cells cs) {id : Nat} (hd : h1 id = .dead) : h id = .dead := by
  have hne : id ≠ rid := by rintro rfl; rw [hd] at hr; cases hr
  rcases hf id hne with x | x
  · exact x
  · rw [← x]; exact hd
theorem Fr.sub (hf : Fr h h1 rid) {o : AObj} (hr : h1 rid = o) : Sub (hset h rid o) h1 := fun j => by
  by_cases e : j = rid
  · subst e; exact .inl (by simp [hr])
  · rcases hf j e with x | x
    · exact .inr (by simpa [e] using x)
    · exact .inl (by simp [e, x])
theorem Fr.kill {i : Nat} : Fr (hset h i .dead) h rid := fun j _ => by
  by_cases e : j = i
  · exact .inl (by simp [e])
  · exact .inr (by simp [e])
theorem Fr.sub3 {i a : Nat} {X Y Z : AObj} (hf : Fr (hset h i .dead) h1 rid) (hr : h1 rid = X) (ha : h1 a = Y) (hi : h1 i = Z) : Sub (hset (hset (hset h rid X) a Y) i Z) h1 := fun j => by
  by_cases e1 : j = i
  · subst e1; exact .inl (by simp [hi])
  by_cases e2 : j = a
  · subst e2; exact .inl (by simp [e1, ha])
  by_cases e3 : j = rid
  · subst e3; exact .inl (by simp [e1, e2, hr])
  rcases hf j e3 with x | x
  · exact .inr (by simpa [e1, e2, e3] using x)
  · exact .inl (by simpa [e1, e2, e3] using x.symm)
theorem Own.nil : Own h h' e sz .nl [] := .inl ⟨rfl, rfl⟩
theorem Own.len (ho : Own h h' e sz v rows) (h1 : Hp) : aLen .sl v h1 = some (.int .i64 rows.length) := by
  rcases ho with ⟨rfl, rfl⟩ | ⟨id, _, _, rfl, _⟩ <;> rfl
theorem Own.flat (ho : Own h h' e sz v rows) : v.flat = true ∧ v.cells = [v] := by
  rcases ho with ⟨rfl, rfl⟩ | ⟨id, _, _, rfl, _⟩ <;> exact ⟨rfl, rfl⟩
theorem Own.set (ho : Own h h1 e sz v rows) {j : Nat} {o : AObj} (hj : ∀ e sz xs, h1 j ≠ .arr e sz xs) : Own h (hset h1 j o) e sz v rows := by
  rcases ho with x | ⟨id, hn, hd, hv, ha⟩
  · exact .inl x
  · refine .inr ⟨id, hn, hd, hv, ?_⟩
    have : ¬ id = j := by rintro rfl; exact hj _ _ _ ha
    simp [this, ha]
theorem Own.setc (ho : Own h h1 e sz v rows) {j : Nat} {o : AObj} {cs : List AV} (hj : h1 j = .cells cs) : Own h (hset h1 j o) e sz v rows := ho.set (by simp [hj])
theorem Own.setd (ho : Own h h1 e sz v rows) {j : Nat} {o : AObj} (hj : h1 j = .dead) : Own h (hset h1 j o) e sz v rows := ho.set (by simp [hj])
theorem Own.app {b : Nat} {ys : List (List AV)} {K : AV → Hp → Prop} (ho : Own h h1 e sz v rows) (hf : Fr h h1 rid) {x : List AV} (hr : h1 rid = .cells x) (hys : ys ≠ []) (hlen : rows.length + ys.length ≤ 4611686018427387904) (hb : (rows.length + ys.length) * b ≤ 140737488355328)
    (hk : ∀ v' h2, Own h h2 e sz v' (rows ++ ys) → Fr h h2 rid → (∀ j cs, h1 j = .cells cs → h2 j = .cells cs) → K v' h2) {u : Held K} : AApp e sz b v ys K h1 u := by
  rcases ho with ⟨rfl, rfl⟩ | ⟨id, hn, hd, rfl, ha⟩
  · cases ys with
    | nil => exact absurd rfl hys
    | cons y ys =>
      refine ⟨by simpa using hlen, by simpa using hb, fun id hid => hk _ _ (.inr ⟨id, by simp, hf.dead hr hid, rfl, by simp⟩) (hf.set (hf.dead hr hid)) fun j cs hj => ?_⟩
      have : ¬ j = id := by rintro rfl; rw [hid] at hj; cases hj
      simp [this, hj]
  · refine ⟨rfl, ?_⟩
    rw [ha]
    refine ⟨rfl, rfl, Nat.le_refl _, hlen, hb, fun id' hid' => ?_⟩
    rw [List.take_length]
    refine hk _ _ (.inr ⟨id', by simp [hys], hf.dead hr hid', by simp, by simp⟩) ((hf.set hd).set (hf.dead hr hid')) ?_
    intro j cs hj
    have n1 : ¬ j = id' := by rintro rfl; rw [hid'] at hj; cases hj
    have n2 : ¬ j = id := by rintro rfl; rw [ha] at hj; cases hj
    simp [n1, n2, hj]
theorem Own.frz (ho : Own h h1 e sz v rows) {x : List AV} {o : AObj} (hr : h1 rid = .cells x) : Frz h1 (hset h rid o) v (rowsAV rows) := by
  rcases ho with ⟨rfl, rfl⟩ | ⟨id, hn, hd, rfl, ha⟩
  · exact .same _
  · have hne : ¬ id = rid := by rintro rfl; rw [ha] at hr; cases hr
    cases rows with
    | nil => exact absurd rfl hn
    | cons r rows => exact Frz.rows ha (by simpa [hne] using hd)
end

/-- A contract of a reading function. -/
def Ctr (P : Program) (f : FuncId) (ms : List Mk) (k : Nat) (e : St → Ex × St) : Prop := ∀ {rid : Nat} {s : St} {h : Hp} {K : AV → Hp → Prop}, s.at_ < ms.length → ms.length ≤ s.at_ + k → (0 ≤ s.nest ∧ s.nest ≤ 32768) → h rid = .cells (rdCells ms s) → K (.agg (e s).1.cells) (hset h rid (.cells (rdCells ms (e s).2))) → ACalls P f [.ptr rid 0] h K
end Go.AM
