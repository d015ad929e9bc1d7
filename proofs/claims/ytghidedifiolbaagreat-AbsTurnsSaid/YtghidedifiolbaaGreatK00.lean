/- AM, 1: values without addresses, objects, the relation to the kit's world, and how it is carried on. -/
import Derived.Laws.AppendOwn
import Derived.Orders
import Derived.Deep.MidRow
import Derived.Laws.StructEq
import Derived.Laws.Slices
import Derived.Laws.BytesArg
set_option linter.unusedVariables false
set_option linter.unusedSimpArgs false
namespace Go.AM

/-- Values without addresses. 'fz': a slice whose cells turn no more, with what they hold; 'sl': a slice of an array of the call's own; 'fp': a pointer to cells that turn no more. -/
inductive AV where
  | int (k : IntKind) (n : Int)
  | bool (b : Bool)
  | str (s : List UInt8)
  | cplx (re im : Nat)
  | flt (b : Nat)
  | nilp | nilm | nilf | nili
  | ptr (id off : Nat)
  | pe (id i off : Nat)
  | fp (cs : List AV)
  | nl
  | sl (id off len : Nat)
  | fz (xs : List (List AV))
  | mp (id : Nat)
  | fn (f : FuncId) (cap : List AV)
  | agg (cs : List AV)
  | tup (vs : List AV)

instance : Inhabited AV := ⟨.nl⟩

abbrev AV.undef : AV := .tup []

/-- Does it take one cell? -/
def AV.one : AV → Bool
  | .agg _ | .tup _ => false
  | _ => true

/-- No tuple. -/
def AV.flat : AV → Bool
  | .tup _ => false
  | _ => true

/-- The cells of a value. -/
def AV.cells : AV → List AV
  | .agg cs => cs
  | v => [v]

/-- What lies behind an object's number. -/
inductive AObj where
  | dead
  | cells (cs : List AV)
  | arr (e sz : Nat) (xs : List (List AV))
  | map (es : List (AV × AV))

abbrev Hp := Nat → AObj
abbrev Tm := Nat → AV

def hset (h : Hp) (id : Nat) (o : AObj) : Hp := fun i => if i = id then o else h i
def upd (tm : Tm) (t : Nat) (v : AV) : Tm := fun s => if s = t then v else tm s
def updO (tm : Tm) (d : Option Nat) (v : AV) : Tm := match d with | some t => upd tm t v | none => tm

structure Env where
  h : Hp
  ι : Nat → Nat
  κ : Nat → Nat
  w : World
  nx : Nat

def Env.live (E : Env) (b : Nat) : Prop := ∃ id, E.h id ≠ .dead ∧ E.ι id = b

inductive Rel (E : Env) : AV → Value → Prop
  | int (k : IntKind) (n : Int) : Rel E (.int k n) (.int k n)
  | bool (b : Bool) : Rel E (.bool b) (.bool b)
  | str (s : List UInt8) : Rel E (.str s) (.string ⟨s.toArray⟩)
  | cplx (re im : Nat) : Rel E (.cplx re im) (.complex .f64 re im)
  | flt (b : Nat) : Rel E (.flt b) (.float .f64 b)
  | nilp : Rel E .nilp (.pointer none)
  | nilm : Rel E .nilm (.map none)
  | nilf : Rel E .nilf .nilFunc
  | nili : Rel E .nili .nilIface
  | ptr (id off : Nat) (a : Addr) (hn : id < E.nx) (h : ∀ cs, E.h id = .cells cs → a = ⟨E.ι id, off, none⟩) : Rel E (.ptr id off) (.pointer (some a))
  | pe (id i off : Nat) (a : Addr) (hn : id < E.nx) (h : ∀ e sz xs, E.h id = .arr e sz xs → a = ⟨E.ι id, i * sz + off, none⟩) : Rel E (.pe id i off) (.pointer (some a))
  | fp (cs : List AV) (a : Addr) (us : List Value) (hl : ¬ E.live a.block) (hb : a.block < E.w.heap.size) (hs : a.spot = none) (hlen : us.length = cs.length)
      (h1 : ∀ c ∈ cs, c.one = true) (hc : ∀ (j : Nat) (u : Value), us[j]? = some u → E.w.cell? ⟨a.block, a.off + j, none⟩ = some u) (hr : ∀ (j : Nat) (c : AV) (u : Value), cs[j]? = some c → us[j]? = some u → Rel E c u) : Rel E (.fp cs) (.pointer (some a))
  | nl (b : Option Addr) : Rel E .nl (.slice b 0 0)
  | sl (id off len : Nat) (b : Option Addr) (cap : Nat) (hn : id < E.nx)
      (h : ∀ e sz xs, E.h id = .arr e sz xs → off + len ≤ xs.length ∧ off + cap = E.κ id ∧ ((off ≠ 0 ∧ cap = 0) ∨ b = some ⟨E.ι id, off * sz, none⟩)) : Rel E (.sl id off len) (.slice b len cap)
  | fz (xs : List (List AV)) (b : Option Addr) (cap blk o sz : Nat) (us : Nat → Nat → Value) (hb : xs ≠ [] → b = some ⟨blk, o, none⟩ ∧ ¬ E.live blk ∧ blk < E.w.heap.size)
      (hcap : xs.length ≤ cap) (hs : ∀ x ∈ xs, x.length = sz) (h1 : ∀ x ∈ xs, ∀ c ∈ x, c.one = true)
      (hc : ∀ (i : Nat) (x : List AV) (j : Nat) (c : AV), xs[i]? = some x → x[j]? = some c → E.w.cell? ⟨blk, o + i * sz + j, none⟩ = some (us i j))
      (hr : ∀ (i : Nat) (x : List AV) (j : Nat) (c : AV), xs[i]? = some x → x[j]? = some c → Rel E c (us i j)) : Rel E (.fz xs) (.slice b xs.length cap)
  | mp (id r : Nat) (hn : id < E.nx) (h : ∀ es, E.h id = .map es → r = E.ι id) : Rel E (.mp id) (.map (some r))
  | fn (f : FuncId) (cap : List AV) (us : List Value) (hlen : us.length = cap.length) (hr : ∀ (j : Nat) (c : AV) (u : Value), cap[j]? = some c → us[j]? = some u → Rel E c u) : Rel E (.fn f cap) (.func (.func f) #[] us.toArray)
  | agg (cs : List AV) (us : List Value) (hlen : us.length = cs.length) (h1 : ∀ c ∈ cs, c.one = true) (hr : ∀ (j : Nat) (c : AV) (u : Value), cs[j]? = some c → us[j]? = some u → Rel E c u) : Rel E (.agg cs) (.agg us.toArray)
  | tup (cs : List AV) (us : List Value) (hlen : us.length = cs.length) (hr : ∀ (j : Nat) (c : AV) (u : Value), cs[j]? = some c → us[j]? = some u → Rel E c u) : Rel E (.tup cs) (.tuple us.toArray)

/-- Lists, one by one. -/
def RelL (E : Env) (cs : List AV) (us : List Value) : Prop := us.length = cs.length ∧ ∀ (j : Nat) (c : AV) (u : Value), cs[j]? = some c → us[j]? = some u → Rel E c u

theorem Rel.one {E : Env} {a : AV} {v : Value} (h : Rel E a v) : v.oneCell' = a.one := by cases h <;> rfl

theorem Rel.undef (E : Env) : Rel E .undef undef := Rel.tup [] [] rfl (by simp)

/-- What an object's new state may be, so that what was known of its numbers stays. -/
def Shape (o o' : AObj) : Prop :=
  (∀ cs, o' = .cells cs → ∃ cs0, o = .cells cs0) ∧ (∀ e sz xs, o' = .arr e sz xs → ∃ xs0, o = .arr e sz xs0 ∧ xs0.length ≤ xs.length) ∧ (∀ es, o' = .map es → ∃ es0, o = .map es0)

theorem Shape.refl (o : AObj) : Shape o o := ⟨fun _ h => ⟨_, h⟩, fun _ _ _ h => ⟨_, h, Nat.le_refl _⟩, fun _ h => ⟨_, h⟩⟩
theorem Shape.dead (o : AObj) : Shape o .dead := ⟨(fun _ h => by cases h), (fun _ _ _ h => by cases h), (fun _ h => by cases h)⟩

/-- One environment behind another. -/
structure Ext (E E' : Env) : Prop where
  rel : ∀ a v, Rel E a v → Rel E' a v
  nx : E.nx ≤ E'.nx
  os : E'.w.os = E.w.os
  tape : E'.w.tape = E.w.tape
  output : E'.w.output = E.w.output
  size : E.w.heap.size ≤ E'.w.heap.size
  block : ∀ b, b < E.w.heap.size → ¬ E.live b → E'.w.heap[b]? = E.w.heap[b]?
  live : ∀ b, b < E.w.heap.size → E'.live b → E.live b

theorem Ext.refl (E : Env) : Ext E E := ⟨fun _ _ h => h, Nat.le_refl _, rfl, rfl, rfl, Nat.le_refl _, fun _ _ _ => rfl, fun _ _ h => h⟩
theorem Ext.trans {A B C : Env} (h : Ext A B) (k : Ext B C) : Ext A C :=
  ⟨fun _ _ r => k.rel _ _ (h.rel _ _ r), Nat.le_trans h.nx k.nx, k.os.trans h.os, k.tape.trans h.tape, k.output.trans h.output, Nat.le_trans h.size k.size,
   fun b hb hl => (k.block b (Nat.lt_of_lt_of_le hb h.size) (fun hh => hl (h.live b hb hh))).trans (h.block b hb hl),
   fun b hb hl => h.live b hb (k.live b (Nat.lt_of_lt_of_le hb h.size) hl)⟩

theorem cell_of_block {w w' : World} {a : Addr} (h : w'.heap[a.block]? = w.heap[a.block]?) : w'.cell? a = w.cell? a := by simp [World.cell?, h]

theorem block_of_cell {w : World} {a : Addr} {v : Value} (h : w.cell? a = some v) : a.block < w.heap.size := by
  unfold World.cell? at h
  cases hb : w.heap[a.block]? with
  | none => simp [hb] at h
  | some o => exact (Array.getElem?_eq_some_iff.1 hb).1

theorem Rel.mono {E E' : Env} (hnx : E.nx ≤ E'.nx) (hsh : ∀ id, id < E.nx → E'.h id ≠ .dead → Shape (E.h id) (E'.h id) ∧ E'.ι id = E.ι id ∧ E'.κ id = E.κ id)
    (hsize : E.w.heap.size ≤ E'.w.heap.size) (hblock : ∀ b, b < E.w.heap.size → ¬ E.live b → E'.w.heap[b]? = E.w.heap[b]?) (hlive : ∀ b, b < E.w.heap.size → E'.live b → E.live b)
    {a : AV} {v : Value} (h : Rel E a v) : Rel E' a v := by
  induction h with
  | int k n => exact .int k n
  | bool b => exact .bool b
  | str s => exact .str s
  | cplx a b => exact .cplx a b
  | flt b => exact .flt b
  | nilp => exact .nilp
  | nilm => exact .nilm
  | nilf => exact .nilf
  | nili => exact .nili
  | ptr id off a hn h =>
    refine .ptr id off a (Nat.lt_of_lt_of_le hn hnx) fun cs hcs => ?_
    obtain ⟨hs, hi, _⟩ := hsh id hn (by rw [hcs]; simp)
    obtain ⟨cs0, h0⟩ := hs.1 cs hcs
    rw [hi]; exact h cs0 h0
  | pe id i off a hn h =>
    refine .pe id i off a (Nat.lt_of_lt_of_le hn hnx) fun e sz xs hcs => ?_
    obtain ⟨hs, hi, _⟩ := hsh id hn (by rw [hcs]; simp)
    obtain ⟨xs0, h0, _⟩ := hs.2.1 e sz xs hcs
    rw [hi]; exact h e sz xs0 h0
  | fp cs a us hl hb hs hlen h1 hc hr ih =>
    refine .fp cs a us (fun hh => hl (hlive _ hb hh)) (Nat.lt_of_lt_of_le hb hsize) hs hlen h1 (fun j u hu => ?_) ih
    rw [cell_of_block (w := E.w) (a := ⟨a.block, a.off + j, none⟩) (hblock a.block hb hl)]; exact hc j u hu
  | nl b => exact .nl b
  | sl id off len b cap hn h =>
    refine .sl id off len b cap (Nat.lt_of_lt_of_le hn hnx) fun e sz xs hcs => ?_
    obtain ⟨hs, hi, hk⟩ := hsh id hn (by rw [hcs]; simp)
    obtain ⟨xs0, h0, hle⟩ := hs.2.1 e sz xs hcs
    obtain ⟨h1, h2, h3⟩ := h e sz xs0 h0
    rw [hi, hk]; exact ⟨by omega, h2, h3⟩
  | fz xs b cap blk o sz us hb hcap hs h1 hc hr ih =>
    refine .fz xs b cap blk o sz us (fun hne => ?_) hcap hs h1 (fun i x j c hx hj => ?_) ih
    · obtain ⟨h1, h2, h3⟩ := hb hne
      exact ⟨h1, fun hh => h2 (hlive _ h3 hh), Nat.lt_of_lt_of_le h3 hsize⟩
    · have hne : xs ≠ [] := by intro h0; subst h0; simp at hx
      obtain ⟨_, h2, h3⟩ := hb hne
      rw [cell_of_block (w := E.w) (a := ⟨blk, o + i * sz + j, none⟩) (hblock blk h3 h2)]; exact hc i x j c hx hj
  | mp id r hn h =>
    refine .mp id r (Nat.lt_of_lt_of_le hn hnx) fun es hcs => ?_
    obtain ⟨hs, hi, _⟩ := hsh id hn (by rw [hcs]; simp)
    obtain ⟨es0, h0⟩ := hs.2.2 es hcs
    rw [hi]; exact h es0 h0
  | fn f cap us hlen hr ih => exact .fn f cap us hlen ih
  | agg cs us hlen h1 hr ih => exact .agg cs us hlen h1 ih
  | tup cs us hlen hr ih => exact .tup cs us hlen ih

theorem RelL.mono {E E' : Env} {cs : List AV} {us : List Value} (h : RelL E cs us) (hx : Ext E E') : RelL E' cs us :=
  ⟨h.1, fun j c u hc hu => hx.rel _ _ (h.2 j c u hc hu)⟩

/-- An object and its block. -/
def ObjRel (E : Env) (id : Nat) : Prop :=
  match E.h id with
  | .dead => True
  | .cells cs => ∃ (us : List Value) (e : TypeId), us.length = cs.length ∧ E.w.heap[E.ι id]? = some (.cells us.toArray e (0, 0)) ∧ (∀ c ∈ cs, c.one = true) ∧ ∀ (j : Nat) (c : AV) (u : Value), cs[j]? = some c → us[j]? = some u → Rel E c u
  | .arr e sz xs => ∃ us : List Value, E.w.heap[E.ι id]? = some (.cells us.toArray e (0, 0)) ∧ us.length = E.κ id * sz ∧ xs.length ≤ E.κ id ∧ E.κ id ≤ maxLen ∧ 0 < sz ∧ (∀ x ∈ xs, x.length = sz) ∧
      (∀ x ∈ xs, ∀ c ∈ x, c.one = true) ∧ (∀ u ∈ us, u.oneCell' = true) ∧ ∀ (i : Nat) (x : List AV) (j : Nat) (c : AV), xs[i]? = some x → x[j]? = some c → ∃ u, us[i * sz + j]? = some u ∧ Rel E c u
  | .map es => ∃ (ents : Array MapEntry) (clk : Nat), E.w.heap[E.ι id]? = some (.map ents clk) ∧ ents.size = es.length ∧ ∀ (i : Nat) (kv : AV × AV) (en : MapEntry), es[i]? = some kv → ents[i]? = some en → Rel E kv.1 en.key ∧ Rel E kv.2 en.val

structure Sim (E : Env) : Prop where
  obj : ∀ id, ObjRel E id
  nx : ∀ id, E.nx ≤ id → E.h id = .dead
  inj : ∀ i j, E.h i ≠ .dead → E.h j ≠ .dead → E.ι i = E.ι j → i = j
  lt : ∀ i, E.h i ≠ .dead → E.ι i < E.w.heap.size

theorem Sim.id_lt {E : Env} (h : Sim E) {id : Nat} (hd : E.h id ≠ .dead) : id < E.nx := by
  rcases Nat.lt_or_ge id E.nx with h1 | h1
  · exact h1
  · exact absurd (h.nx id h1) hd

/-- The slots. -/
structure TmRel (E : Env) (N : Nat) (tm : Tm) (a : Act) : Prop where
  size : a.tmps.size = N
  defers : a.defers = []
  rel : ∀ t, t < N → Rel E (tm t) (a.tmps.getD t Go.undef)

theorem TmRel.mono {E E' : Env} {N : Nat} {tm : Tm} {a : Act} (h : TmRel E N tm a) (hx : Ext E E') : TmRel E' N tm a := ⟨h.size, h.defers, fun t ht => hx.rel _ _ (h.rel t ht)⟩

theorem TmRel.put {E : Env} {N : Nat} {tm : Tm} {a : Act} (h : TmRel E N tm a) {d : Option Nat} (hd : ∀ t, d = some t → t < N) {r : AV} {v : Value} (hr : Rel E r v) : TmRel E N (updO tm d r) (a.put d v) := by
  cases d with
  | none => exact h
  | some d =>
    have hdN := hd d rfl
    refine ⟨by simp [Act.put, h.size], h.defers, fun t ht => ?_⟩
    simp only [updO, upd, Act.put]
    by_cases e : t = d
    · subst e
      simp [Array.getD_eq_getD_getElem?, h.size, hdN]
      exact hr
    · rw [if_neg e]
      have := h.rel t ht
      simp only [Array.getD_eq_getD_getElem?] at this ⊢
      rw [Array.getElem?_setIfInBounds_ne (Ne.symm e)]
      exact this

end Go.AM

/- AM, 2: operations over values without addresses: what they answer, and the compilation of the model's operations to them. -/
namespace Go.AM

/-- Operands. -/
inductive AX where
  | t (n : Nat)
  | c (v : AV)

def AX.ev (tm : Tm) : AX → AV
  | .t n => tm n
  | .c v => v

inductive EqK where | int | str | bool | cplx
inductive LenK where | sl | str | map
/-- What lies outside: of floats. -/
inductive FX where | bits | frombits | trunc

inductive AOp where
  | mov (x : AX)
  | pick (c a b : AX)
  | build (z : List AV) (parts : List (Nat × Nat × AX))
  | ldc (x : AX)
  | lda (n : Nat) (x : AX)
  | fa (off : Nat) (x : AX)
  | nck (x : AX)
  | bin (op : BinOp) (x y : AX)
  | beq (neg : Bool) (x y : AX)
  | peq (neg : Bool) (x y : AX)
  | eqa (neg : Bool) (ds : List EqK) (x y : AX)
  | un (op : UnOp) (x : AX)
  | cvi (k : IntKind) (x : AX)
  | cvf (x : AX)
  | b2s (x : AX)
  | cut (sz : Nat) (x : AX) (lo hi : Option AX)
  | cuts (x : AX) (lo hi : Option AX)
  | ia (sz : Nat) (x i : AX)
  | ixs (x i : AX)
  | fld (off : Nat) (n : Option Nat) (x : AX)
  | ext (x : AX) (i : Nat)
  | len (k : LenK) (x : AX)
  | mkfn (f : FuncId) (caps : List AX)
  | look (ki : Bool) (z : AV) (ok : Bool) (m k : AX)
  | cx (x y : AX)
  | re (x : AX)
  | im (x : AX)
  | mn (x y : AX)
  | mx (x y : AX)
  | alloc (z : List AV)
  | box (x : AX)
  | bsl (e sz : Nat) (parts : List AX)
  | st (n : Nat) (x v : AX)
  | app (e sz by_ : Nat) (s x : AX)
  | mks (e sz by_ : Nat) (z : List AV) (l c : AX)
  | mkm
  | mup (ki : Bool) (m k v : AX)
  | bfz (x : AX)
  | s2b (x : AX)
  | call (f : FuncId) (args : List AX)
  | callv (x : AX) (args : List AX)
  | cfi (k : IntKind) (x : AX)
  | fext (k : FX) (x : AX)

/-- Cells with some written over. -/
def splice (cs : List AV) (off : Nat) (l : List AV) : List AV := cs.take off ++ l ++ cs.drop (off + l.length)

def binI (op : BinOp) (k : IntKind) (a b : Int) : Option AV :=
  match op with
  | .add => some (.int k (k.wrap (a + b)))
  | .sub => some (.int k (k.wrap (a - b)))
  | .mul => some (.int k (k.wrap (a * b)))
  | .quo => if b = 0 then none else some (.int k (k.wrap (a.tdiv b)))
  | .rem => if b = 0 then none else some (.int k (a.tmod b))
  | .and => some (.int k (k.wrap (BitVec.ofInt k.bits a &&& BitVec.ofInt k.bits b).toNat))
  | .or => some (.int k (k.wrap (BitVec.ofInt k.bits a ||| BitVec.ofInt k.bits b).toNat))
  | .xor => some (.int k (k.wrap (BitVec.ofInt k.bits a ^^^ BitVec.ofInt k.bits b).toNat))
  | .andNot => some (.int k (k.wrap (BitVec.ofInt k.bits a &&& ~~~ BitVec.ofInt k.bits b).toNat))
  | .eql => some (.bool (a == b))
  | .neq => some (.bool (a != b))
  | .lss => some (.bool (decide (a < b)))
  | .leq => some (.bool (decide (a ≤ b)))
  | .gtr => some (.bool (decide (a > b)))
  | .geq => some (.bool (decide (a ≥ b)))
  | _ => none

def shI (op : BinOp) (k : IntKind) (a b : Int) : Option AV :=
  if b < 0 then none else
  match op with
  | .shl => some (.int k (k.wrap (a * 2 ^ min b.toNat k.bits)))
  | .shr => some (.int k (a.fdiv (2 ^ min b.toNat k.bits)))
  | _ => none

def binS (op : BinOp) (a b : List UInt8) : Option AV :=
  match op with
  | .add => if a.length + b.length ≤ 4611686018427387904 then some (.str (a ++ b)) else none
  | .eql => some (.bool (a == b))
  | .neq => some (.bool (!(a == b)))
  | .lss => some (.bool (Op.bytesLess a b))
  | .leq => some (.bool (Op.bytesLess a b || a == b))
  | .gtr => some (.bool (!(Op.bytesLess a b || a == b)))
  | .geq => some (.bool (!(Op.bytesLess a b)))
  | _ => none

def cplxEq (a b c d : Nat) : Bool := Op.floatEq .f64 a c && Op.floatEq .f64 b d

abbrev fOrd (a b : Nat) : Option Ordering := FloatKind.f64.format.order a b
def binF (op : BinOp) (a b : Nat) : Option AV :=
  match op with
  | .add => (FloatKind.f64.format.add a b).map .flt
  | .sub => (FloatKind.f64.format.sub a b).map .flt
  | .mul => (FloatKind.f64.format.mul a b).map .flt
  | .quo => (FloatKind.f64.format.div a b).map .flt
  | .eql => some (.bool (fOrd a b == some .eq))
  | .neq => some (.bool (fOrd a b != some .eq))
  | .lss => some (.bool (fOrd a b == some .lt))
  | .leq => some (.bool (fOrd a b == some .lt || fOrd a b == some .eq))
  | .gtr => some (.bool (fOrd a b == some .gt))
  | .geq => some (.bool (fOrd a b == some .gt || fOrd a b == some .eq))
  | _ => none
/-- A product of complex numbers. -/
def mulC (a b c d : Nat) : Option AV :=
  (FloatKind.f64.format.mul a c).bind fun ac => (FloatKind.f64.format.mul b d).bind fun bd => (FloatKind.f64.format.sub ac bd).bind fun re =>
  (FloatKind.f64.format.mul a d).bind fun ad => (FloatKind.f64.format.mul b c).bind fun bc => (FloatKind.f64.format.add ad bc).map fun im => .cplx re im

def abin (op : BinOp) (x y : AV) : Option AV :=
  match x, y with
  | .int k a, .int k' b =>
    match op with
    | .shl | .shr => shI op k a b
    | _ => if k = k' then binI op k a b else none
  | .str a, .str b => binS op a b
  | .cplx a b, .cplx c d =>
    match op with
    | .eql => some (.bool (cplxEq a b c d))
    | .neq => some (.bool (!(cplxEq a b c d)))
    | .add => (FloatKind.f64.format.add a c).bind fun re => (FloatKind.f64.format.add b d).map fun im => .cplx re im
    | .sub => (FloatKind.f64.format.sub a c).bind fun re => (FloatKind.f64.format.sub b d).map fun im => .cplx re im
    | .mul => mulC a b c d
    | _ => none
  | .flt a, .flt b => binF op a b
  | _, _ => none

def isNilP : AV → Option Bool
  | .nilp => some true
  | .ptr _ _ | .pe _ _ _ | .fp _ => some false
  | _ => none

def eq1 (d : EqK) (x y : AV) : Option Bool :=
  match d, x, y with
  | .int, .int k a, .int k' b => if k = k' then some (a == b) else none
  | .str, .str a, .str b => some (a == b)
  | .bool, .bool a, .bool b => some (a == b)
  | .cplx, .cplx a b, .cplx c e => some (cplxEq a b c e)
  | _, _, _ => none

def eqs : List EqK → List AV → List AV → Option Bool
  | [], _, _ => some true
  | d :: ds, x :: xs, y :: ys =>
    match eq1 d x y with
    | some true => eqs ds xs ys
    | some false => some false
    | none => none
  | _, _, _ => none

def aun (op : UnOp) (x : AV) : Option AV :=
  match op, x with
  | .neg, .int k n => some (.int k (k.wrap (0 - n)))
  | .not, .bool b => some (.bool (!b))
  | .neg, .flt b => some (.flt (Op.negFloat .f64 b))
  | .xor, .int k n => some (.int k (k.wrap (BitVec.ofInt k.bits (if k.signed then -1 else k.max) ^^^ BitVec.ofInt k.bits n).toNat))
  | _, _ => none

/-- What a slice holds, one by one. -/
def elems (h : Hp) : AV → Option (List (List AV))
  | .nl => some []
  | .fz xs => some xs
  | .sl id off len =>
    match h id with
    | .arr _ _ xs => if off + len ≤ xs.length then some ((xs.drop off).take len) else none
    | _ => none
  | _ => none

/-- The same, of elements of so many cells. -/
def elemsOf (h : Hp) (sz : Nat) : AV → Option (List (List AV))
  | .nl => some []
  | .fz xs => if xs.all (·.length == sz) then some xs else none
  | .sl id off len =>
    match h id with
    | .arr _ sz' xs => if sz' = sz then (if off + len ≤ xs.length then some ((xs.drop off).take len) else none) else none
    | _ => none
  | _ => none

def byteOf : List AV → Option UInt8
  | [.int .u8 n] => some (UInt8.ofNat n.toNat)
  | _ => none

def keyEq : Bool → AV → AV → Option Bool
  | true, .int k a, .int k' b => if k = k' then some (a == b) else none
  | false, .str a, .str b => some (a == b)
  | _, _, _ => none

def findK (ki : Bool) (k : AV) : List (AV × AV) → Option (Option AV)
  | [] => some none
  | (k', v) :: r =>
    match keyEq ki k k' with
    | some true => some (some v)
    | some false => findK ki k r
    | none => none

def putK (ki : Bool) (k v : AV) : List (AV × AV) → Option (List (AV × AV))
  | [] => some [(k, v)]
  | (k', v') :: r =>
    match keyEq ki k k' with
    | some true => some ((k, v) :: r)
    | some false => (putK ki k v r).map ((k', v') :: ·)
    | none => none

def bound (tm : Tm) : Option AX → Option (Option Nat)
  | none => some none
  | some x => match x.ev tm with
    | .int _ n => if 0 ≤ n then some (some n.toNat) else none
    | _ => none

/-- A float as a whole number, where it is one of that kind. -/
def aCfi (k : IntKind) (x : AV) : Option AV :=
  match x with
  | .flt b => match (FloatKind.f64.decode b).toInt .zero with
    | some n => if k.min ≤ n ∧ n ≤ k.max then some (.int k n) else none
    | none => none
  | _ => none
def aFext (k : FX) (x : AV) : Option AV :=
  match k, x with
  | .bits, .flt b => some (.int .u64 (b : Int))
  | .frombits, .int .u64 n => some (.flt n.toNat)
  | .trunc, .flt b => match FloatKind.f64.decode b with
    | .nan _ _ => none
    | d => some (.flt (FloatKind.f64.encode (d.integral .zero)))
  | _, _ => none

/-- What an operation answers that writes nothing. -/
def apure (op : AOp) (tm : Tm) (h : Hp) : Option AV :=
  match op with
  | .mov x => some (x.ev tm)
  | .pick c a b => match c.ev tm with
    | .bool t => some (if t then a.ev tm else b.ev tm)
    | _ => none
  | .build z parts => (parts.foldl (fun (cs : Option (List AV)) (p : Nat × Nat × AX) => cs.bind fun cs =>
      if (p.2.2.ev tm).cells.length = p.2.1 ∧ (p.2.2.ev tm).flat = true then (if p.1 + p.2.1 ≤ cs.length then some (splice cs p.1 (p.2.2.ev tm).cells) else none) else none) (some z)).map .agg
  | .ldc x => match x.ev tm with
    | .ptr id off => match h id with
      | .cells cs => cs[off]?
      | _ => none
    | .pe id i off => match h id with
      | .arr _ _ xs => (xs[i]?).bind (·[off]?)
      | _ => none
    | .fp cs => cs[0]?
    | _ => none
  | .lda n x => match x.ev tm with
    | .ptr id off => match h id with
      | .cells cs => if off + n ≤ cs.length then some (.agg ((cs.drop off).take n)) else none
      | _ => none
    | .pe id i off => match h id with
      | .arr _ sz xs => if off + n ≤ sz then (xs[i]?).map fun x => .agg ((x.drop off).take n) else none
      | _ => none
    | .fp cs => if n ≤ cs.length then some (.agg (cs.take n)) else none
    | _ => none
  | .fa off x => match x.ev tm with
    | .ptr id o => some (.ptr id (o + off))
    | .pe id i o => some (.pe id i (o + off))
    | .fp cs => if off ≤ cs.length then some (.fp (cs.drop off)) else none
    | _ => none
  | .nck x => match x.ev tm with
    | .nilp | .nilf | .nili => none
    | v => some v
  | .bin op x y => abin op (x.ev tm) (y.ev tm)
  | .beq neg x y => match x.ev tm, y.ev tm with
    | .bool a, .bool b => some (.bool (neg ^^ (a == b)))
    | _, _ => none
  | .peq neg x y => match isNilP (x.ev tm), isNilP (y.ev tm) with
    | some true, some b => some (.bool (neg ^^ b))
    | some false, some true => some (.bool (neg ^^ false))
    | _, _ => none
  | .eqa neg ds x y => match x.ev tm, y.ev tm with
    | .agg a, .agg b => (eqs ds a b).map fun r => .bool (neg ^^ r)
    | _, _ => none
  | .un op x => aun op (x.ev tm)
  | .cvi k x => match x.ev tm with
    | .int _ n => some (.int k (k.wrap n))
    | _ => none
  | .cvf x => match x.ev tm with
    | .int _ n => some (.flt (FloatKind.f64.nearest n))
    | _ => none
  | .b2s x => match elemsOf h 1 (x.ev tm) with
    | some xs => (xs.mapM byteOf).map .str
    | none => none
  | .cut sz x lo hi => match bound tm lo, bound tm hi with
    | some l, some u => match x.ev tm with
      | .nl => if l.getD 0 = 0 then (if u.getD 0 = 0 then some .nl else none) else none
      | .fz xs => if l.getD 0 ≤ u.getD xs.length then (if u.getD xs.length ≤ xs.length then (if xs.all (·.length == sz) then some (.fz ((xs.drop (l.getD 0)).take (u.getD xs.length - l.getD 0))) else none) else none) else none
      | .sl id off len => match h id with
        | .arr _ sz' xs => if sz' = sz then (if l.getD 0 ≤ u.getD len then (if off + u.getD len ≤ xs.length then some (.sl id (off + l.getD 0) (u.getD len - l.getD 0)) else none) else none) else none
        | _ => none
      | _ => none
    | _, _ => none
  | .cuts x lo hi => match bound tm lo, bound tm hi with
    | some l, some u => match x.ev tm with
      | .str s => if l.getD 0 ≤ u.getD s.length then (if u.getD s.length ≤ s.length then some (.str ((s.drop (l.getD 0)).take (u.getD s.length - l.getD 0))) else none) else none
      | _ => none
    | _, _ => none
  | .ia sz x i => match i.ev tm with
    | .int _ n => match x.ev tm with
      | .fz xs => if 0 ≤ n then (match xs[n.toNat]? with | some e => if e.length = sz then some (.fp e) else none | none => none) else none
      | .sl id off len => match h id with
        | .arr _ sz' xs => if sz' = sz then (if 0 ≤ n then (if n < len then some (.pe id (off + n.toNat) 0) else none) else none) else none
        | _ => none
      | _ => none
    | _ => none
  | .ixs x i => match x.ev tm, i.ev tm with
    | .str s, .int _ n => if 0 ≤ n then (s[n.toNat]?).map fun b => .int .u8 (b.toNat : Int) else none
    | _, _ => none
  | .fld off n x => match x.ev tm with
    | .agg cs => match n with
      | none => cs[off]?
      | some n => some (.agg ((cs.drop off).take n))
    | _ => none
  | .ext x i => match x.ev tm with
    | .tup vs => vs[i]?
    | _ => none
  | .len k x => match k, x.ev tm with
    | .sl, .nl => some (.int .i64 0)
    | .sl, .fz xs => some (.int .i64 xs.length)
    | .sl, .sl _ _ len => some (.int .i64 len)
    | .str, .str s => some (.int .i64 s.length)
    | .map, .nilm => some (.int .i64 0)
    | .map, .mp id => match h id with
      | .map es => some (.int .i64 es.length)
      | _ => none
    | _, _ => none
  | .mkfn f caps => some (.fn f (caps.map (·.ev tm)))
  | .look ki z ok m k =>
    match (match m.ev tm with
      | .nilm => some []
      | .mp id => match h id with
        | .map es => some es
        | _ => none
      | _ => none : Option (List (AV × AV))) with
    | none => none
    | some es => match findK ki (k.ev tm) es with
      | none => none
      | some r => some (if ok then .tup [r.getD z, .bool r.isSome] else r.getD z)
  | .cx x y => match x.ev tm, y.ev tm with
    | .flt a, .flt b => some (.cplx a b)
    | _, _ => none
  | .re x => match x.ev tm with
    | .cplx a _ => some (.flt a)
    | _ => none
  | .im x => match x.ev tm with
    | .cplx _ b => some (.flt b)
    | _ => none
  | .mn x y => match x.ev tm, y.ev tm with
    | .int k a, .int _ b => some (.int k (if b < a then b else a))
    | _, _ => none
  | .mx x y => match x.ev tm, y.ev tm with
    | .int k a, .int _ b => some (.int k (if b > a then b else a))
    | _, _ => none
  | .cfi k x => aCfi k (x.ev tm)
  | .fext k x => aFext k (x.ev tm)
  | _ => none

/-! ### Calls, and what an operation does -/

def callable (P : Program) (f : FuncId) : Bool :=
  match P.funcs[f]? with
  | some fn => fn.body.isSome && fn.name != "runtime.NumGoroutine"
  | none => false

/-- A call with these arguments, over this heap: in every world that fits it returns, and what it returns and leaves is one of those of which Q holds. -/
def ACalls (P : Program) (f : FuncId) (args : List AV) (h : Hp) (Q : AV → Hp → Prop) : Prop :=
  callable P f = true ∧ ∀ (E : Env) (cargs : List Value), Sim E → E.h = h → RelL E args cargs →
    Calls P f cargs.toArray E.w fun e w' => ∃ (v : Value) (r : AV) (E' : Env), e = .returned v ∧ E'.w = w' ∧ Sim E' ∧ Ext E E' ∧ Rel E' r v ∧ Q r E'.h

theorem ACalls.mono {P : Program} {f : FuncId} {args : List AV} {h : Hp} {Q Q' : AV → Hp → Prop} (hc : ACalls P f args h Q) (hq : ∀ r h', Q r h' → Q' r h') : ACalls P f args h Q' :=
  ⟨hc.1, fun E cargs hs hh hr => (hc.2 E cargs hs hh hr).mono fun _ _ ⟨v, r, E', h1, h2, h3, h4, h5, h6⟩ => ⟨v, r, E', h1, h2, h3, h4, h5, hq _ _ h6⟩⟩

def AStep (P : Program) (op : AOp) (K : AV → Hp → Prop) (tm : Tm) (h : Hp) : Prop :=
  match op with
  | .alloc z => ∀ id, h id = .dead → K (.ptr id 0) (hset h id (.cells z))
  | .box x => (x.ev tm).flat = true ∧ ∀ id, h id = .dead → K (.ptr id 0) (hset h id (.cells (x.ev tm).cells))
  | .bsl e sz parts => (∀ x ∈ parts, (x.ev tm).flat = true ∧ (x.ev tm).cells.length = sz) ∧ ∀ id, h id = .dead → K (.sl id 0 parts.length) (hset h id (.arr e sz (parts.map fun x => (x.ev tm).cells)))
  | .st n x v => (v.ev tm).flat = true ∧ (v.ev tm).cells.length = n ∧
    match x.ev tm with
    | .ptr id off => (match h id with
      | .cells cs => off + n ≤ cs.length ∧ K .undef (hset h id (.cells (splice cs off (v.ev tm).cells)))
      | _ => False)
    | .pe id i off => (match h id with
      | .arr e sz xs => (match xs[i]? with
        | some row => off + n ≤ row.length ∧ K .undef (hset h id (.arr e sz (xs.set i (splice row off (v.ev tm).cells))))
        | none => False)
      | _ => False)
    | _ => False
  | .app e sz by_ s x =>
    match elemsOf h sz (x.ev tm) with
    | none => False
    | some ys =>
      match s.ev tm with
      | .nl => (match ys with
        | [] => K .nl h
        | _ :: _ => ys.length ≤ 4611686018427387904 ∧ ys.length * by_ ≤ 140737488355328 ∧ ∀ id, h id = .dead → K (.sl id 0 ys.length) (hset h id (.arr e sz ys)))
      | .sl id off len => off = 0 ∧ (match h id with
        | .arr e' sz' xs => e' = e ∧ sz' = sz ∧ len ≤ xs.length ∧ len + ys.length ≤ 4611686018427387904 ∧ (len + ys.length) * by_ ≤ 140737488355328 ∧
          ∀ id', h id' = .dead → K (.sl id' 0 (len + ys.length)) (hset (hset h id .dead) id' (.arr e sz (xs.take len ++ ys)))
        | _ => False)
      | _ => False
  | .mks e sz by_ z l c =>
    match l.ev tm, c.ev tm with
    | .int _ n, .int _ m => 0 ≤ n ∧ n ≤ m ∧ m ≤ 4611686018427387904 ∧ by_ * m.toNat ≤ 140737488355328 ∧ ∀ id, h id = .dead → K (.sl id 0 n.toNat) (hset h id (.arr e sz (List.replicate m.toNat z)))
    | _, _ => False
  | .mkm => ∀ id, h id = .dead → K (.mp id) (hset h id (.map []))
  | .mup ki m k v =>
    match m.ev tm with
    | .mp id => (match h id with
      | .map es => (match putK ki (k.ev tm) (v.ev tm) es with
        | some es' => K .undef (hset h id (.map es'))
        | none => False)
      | _ => False)
    | _ => False
  | .bfz x =>
    match x.ev tm with
    | .sl id off len => off = 0 ∧ (match h id with
      | .arr _ _ xs => off + len ≤ xs.length ∧ K (.fz ((xs.drop off).take len)) (hset h id .dead)
      | _ => False)
    | _ => False
  | .s2b x =>
    match x.ev tm with
    | .str s => K (.fz (s.map fun b => [.int .u8 (b.toNat : Int)])) h
    | _ => False
  | .call f args => ACalls P f (args.map (·.ev tm)) h K
  | .callv x args =>
    match x.ev tm with
    | .fn f caps => ACalls P f (args.map (·.ev tm) ++ caps) h K
    | _ => False
  | op =>
    match apure op tm h with
    | some v => K v h
    | none => False

/-! ### The compilation -/

def ofCell : Value → Option AV
  | .int k n => some (.int k n)
  | .bool b => some (.bool b)
  | .string s => some (.str s.data.toList)
  | .complex .f64 a b => some (.cplx a b)
  | .float .f64 b => some (.flt b)
  | .pointer none => some .nilp
  | .map none => some .nilm
  | .nilFunc => some .nilf
  | .nilIface => some .nili
  | .slice _ 0 0 => some .nl
  | _ => none

def ofConst : Value → Option AV
  | .agg cs => (cs.toList.mapM ofCell).map .agg
  | v => ofCell v

def cOpd (N : Nat) : Operand → Option AX
  | .tmp t => if t < N then some (.t t) else none
  | .const v => (ofConst v).map .c
  | .func f => some (.c (.fn f []))
  | .global _ => none

def cOpds (N : Nat) (xs : Array Operand) : Option (List AX) := xs.toList.mapM (cOpd N)

def cOptO (N : Nat) : Option Operand → Option (Option AX)
  | none => some none
  | some x => (cOpd N x).map some

def zeroOf (P : Program) (t : TypeId) : Option AV := (P.info? t).bind fun i => i.zero.bind ofConst

def eqKinds (P : Program) : List Field → Nat → Option (List EqK)
  | [], _ => some []
  | f :: fs, i =>
    if f.offset = i ∧ f.name ≠ "_" then
      (match P.underlying f.type with
        | some (.int _) => some EqK.int
        | some .string => some EqK.str
        | some .bool => some EqK.bool
        | some (.complex _) => some EqK.cplx
        | _ => none).bind fun k => (eqKinds P fs (i + 1)).map (k :: ·)
    else none

def cNeg : BinOp → Option Bool
  | .eql => some false
  | .neq => some true
  | _ => none

def fieldSizes (P : Program) (fs : List Field) : Option (List (Nat × Nat)) := fs.mapM fun f => (P.info? f.type).map fun i => (f.offset, i.size)

def cBuiltin (P : Program) (N : Nat) (b : Builtin) (ts : Array TypeId) (args : Array Operand) : Option AOp :=
  match b, args.toList, ts.toList with
  | .len, [x], [t] => (cOpd N x).bind fun x =>
    match P.underlying t with
    | some (.slice _) => some (.len .sl x)
    | some .string => some (.len .str x)
    | some (.map _ _) => some (.len .map x)
    | _ => none
  | .append, [s, x], [t, u] =>
    if t = u then
      match P.underlying t with
      | some (.slice e) => (P.info? e).bind fun i => (cOpd N s).bind fun s => (cOpd N x).bind fun x =>
        (i.zero.bind ofConst).bind fun z => if z.cells.length = i.size ∧ 0 < i.size ∧ 0 < i.bytes then some (.app e i.size i.bytes s x) else none
      | _ => none
    else none
  | .complex, [x, y], _ => (cOpd N x).bind fun x => (cOpd N y).map fun y => .cx x y
  | .real, [x], _ => (cOpd N x).map .re
  | .imag, [x], _ => (cOpd N x).map .im
  | .min, [x, y], _ => (cOpd N x).bind fun x => (cOpd N y).map fun y => .mn x y
  | .max, [x, y], _ => (cOpd N x).bind fun x => (cOpd N y).map fun y => .mx x y
  | _, _, _ => none

def isU8 (P : Program) (e : TypeId) : Bool :=
  match P.underlying e with
  | some (.int .u8) => true
  | _ => false

def aggSize (P : Program) (t : TypeId) : Option (Option Nat) :=
  match P.underlying t with
  | some (.struct _) | some (.array _ _) => (P.info? t).map fun i => some i.size
  | some _ => (P.info? t).bind fun i => if i.size = 1 then some none else none
  | none => none

/-- A function that lies outside the text. -/
def extOf (P : Program) (f : FuncId) : Option FX :=
  (P.funcs[f]?).bind fun fn => if fn.body.isNone ∧ fn.origin = "" then
    (if fn.name = "math.Float64bits" then some .bits else if fn.name = "math.Float64frombits" then some .frombits else if fn.name = "math.archTrunc" then some .trunc else none)
    else none

def cOp (P : Program) (N : Nat) : Op → Option AOp
  | .move x | .assign x => (cOpd N x).map .mov
  | .pick c a b => (cOpd N c).bind fun c => (cOpd N a).bind fun a => (cOpd N b).map fun b => .pick c a b
  | .alloc t => (zeroOf P t).map fun z => .alloc z.cells
  | .box _ x => (cOpd N x).map .box
  | .build t parts =>
    match P.underlying t with
    | some (.struct fs) => (fieldSizes P fs.toList).bind fun sz => (zeroOf P t).bind fun z =>
      match z with
      | .agg zs => (parts.toList.mapM fun (p : Nat × Operand) => (cOpd N p.2).bind fun x => (sz[p.1]?).map fun os => (os.1, os.2, x)).map fun ps => .build zs ps
      | _ => none
    | _ => none
  | .buildSlice t len parts =>
    match P.underlying t with
    | some (.slice e) => (P.info? e).bind fun i => (i.zero.bind ofConst).bind fun z =>
      if parts.toList.map (·.1) = List.range len ∧ len * i.size ≤ 16777216 ∧ 0 < i.size ∧ z.cells.length = i.size then (parts.toList.mapM fun (p : Nat × Operand) => cOpd N p.2).map fun ps => .bsl e i.size ps else none
    | _ => none
  | .load t x => (aggSize P t).bind fun a => (cOpd N x).map fun x => match a with | some n => .lda n x | none => .ldc x
  | .store t x v => (P.info? t).bind fun i => (cOpd N x).bind fun x => (cOpd N v).map fun v => .st i.size x v
  | .nilCheck x => (cOpd N x).map .nck
  | .binOp op t x y _ => (cOpd N x).bind fun x => (cOpd N y).bind fun y =>
    match P.underlying t with
    | some (.int _) | some .string | some (.complex _) => some (.bin op x y)
    | some (.float .f64) => some (.bin op x y)
    | some .bool => (cNeg op).map fun n => .beq n x y
    | some (.pointer _) => (cNeg op).map fun n => .peq n x y
    | some (.struct fs) => if P.eqGuardType P.depth t = false ∧ P.stoodInHeld t = false then (cNeg op).bind fun n => (eqKinds P fs.toList 0).map fun ds => .eqa n ds x y else none
    | _ => none
  | .unOp op _ x => (cOpd N x).map fun x => .un op x
  | .convert src dst x => (cOpd N x).bind fun x =>
    match P.underlying src, P.underlying dst with
    | some (.int _), some (.int k) => some (.cvi k x)
    | some (.int _), some (.float .f64) => some (.cvf x)
    | some (.float .f64), some (.int k) => some (.cfi k x)
    | some (.slice e), some .string => if isU8 P e = true then some (.b2s x) else none
    | some .string, some (.slice e) => if isU8 P e = true then some (.s2b x) else none
    | some (.slice _), some (.slice e) => if src = dst ∧ isU8 P e = true then some (.bfz x) else none
    | _, _ => none
  | .makeFunc (.func f) first caps => if first.size = 0 then (cOpds N caps).map fun cs => .mkfn f cs else none
  | .makeMap t none => match P.underlying t with
    | some (.map _ _) => some .mkm
    | _ => none
  | .makeSlice t l c => match P.underlying t with
    | some (.slice e) => (P.info? e).bind fun i => (i.zero.bind ofConst).bind fun z => (cOpd N l).bind fun l => (cOpd N c).bind fun c =>
      if z.cells.length = i.size ∧ 0 < i.size then some (.mks e i.size i.bytes z.cells l c) else none
    | _ => none
  | .slice t x lo hi none => match P.underlying t with
    | some (.slice e) => (P.info? e).bind fun i => (cOpd N x).bind fun x => (cOptO N lo).bind fun lo => (cOptO N hi).map fun hi => .cut i.size x lo hi
    | some .string => (cOpd N x).bind fun x => (cOptO N lo).bind fun lo => (cOptO N hi).map fun hi => .cuts x lo hi
    | _ => none
  | .fieldAddr t x f => match P.underlying t with
    | some (.struct fs) => (fs[f]?).bind fun fd => (P.info? fd.type).bind fun i => if i.size ≠ 0 then (cOpd N x).map fun x => .fa fd.offset x else none
    | _ => none
  | .field t x f => match P.underlying t with
    | some (.struct fs) => (fs[f]?).bind fun fd => (aggSize P fd.type).bind fun a => (cOpd N x).map fun x => .fld fd.offset a x
    | _ => none
  | .indexAddr t x i => match P.underlying t with
    | some (.slice e) => (P.info? e).bind fun inf => (cOpd N x).bind fun x => (cOpd N i).map fun i => .ia inf.size x i
    | _ => none
  | .index t x i => match P.underlying t with
    | some .string => (cOpd N x).bind fun x => (cOpd N i).map fun i => .ixs x i
    | _ => none
  | .extract x i => (cOpd N x).map fun x => .ext x i
  | .lookup t m k ok => match P.underlying t with
    | some (.map kt et) => match P.underlying kt with
      | some (.int _) => (zeroOf P et).bind fun z => (cOpd N m).bind fun m => (cOpd N k).map fun k => .look true z ok m k
      | some .string => (zeroOf P et).bind fun z => (cOpd N m).bind fun m => (cOpd N k).map fun k => .look false z ok m k
      | _ => none
    | _ => none
  | .mapUpdate t m k v | .insert t m k v => match P.underlying t with
    | some (.map kt _) => match P.underlying kt with
      | some (.int _) => (cOpd N m).bind fun m => (cOpd N k).bind fun k => (cOpd N v).map fun v => .mup true m k v
      | some .string => (cOpd N m).bind fun m => (cOpd N k).bind fun k => (cOpd N v).map fun v => .mup false m k v
      | _ => none
    | _ => none
  | .call { callee := .value (.func f), args := as, .. } => match extOf P f with
    | some k => (cOpds N as).bind fun as => match as with
      | [x] => some (.fext k x)
      | _ => none
    | none => (cOpds N as).map fun as => .call f as
  | .call { callee := .value (.tmp t), args := as, .. } => (cOpd N (.tmp t)).bind fun x => (cOpds N as).map fun as => .callv x as
  | .call { callee := .builtin b, args := as, argTypes := ts } => cBuiltin P N b ts as
  | _ => none

/-- An operation of a region. -/
structure AIns where
  dst : Option Nat
  op : AOp
  guard : Option (Nat × Bool)

def cIns (P : Program) (N : Nat) (ops : Array Oper) (o : Oper) : Option AIns :=
  (cOp P N o.op).bind fun op =>
  (match o.dst with
    | none => some none
    | some d => if d < N then some (some d) else none).bind fun d =>
  (match o.guard with
    | none => some none
    | some (j, b) => match (ops[j]?).bind (·.dst) with
      | some g => if g < N then some (some (g, b)) else none
      | none => none).map fun g => ⟨d, op, g⟩

end Go.AM

/- AM, 3: operations that write nothing answer what 'apure' says. -/
namespace Go.AM
variable {P : Program} {N : Nat} {E : Env} {tm : Tm} {a : Act}

theorem ofCell_rel (E : Env) {v : Value} {r : AV} (h : ofCell v = some r) : Rel E r v ∧ r.one = true := by
  unfold ofCell at h
  split at h <;> first
    | (simp only [Option.some.injEq] at h; subst h; first
        | exact ⟨.int _ _, rfl⟩ | exact ⟨.bool _, rfl⟩ | exact ⟨.cplx _ _, rfl⟩ | exact ⟨.flt _, rfl⟩ | exact ⟨.nilp, rfl⟩ | exact ⟨.nilm, rfl⟩ | exact ⟨.nilf, rfl⟩ | exact ⟨.nili, rfl⟩ | exact ⟨.nl _, rfl⟩
        | exact ⟨Rel.str _, rfl⟩)
    | cases h

theorem mapM_some {α β : Type} (f : α → Option β) : ∀ (l : List α) (r : List β), l.mapM f = some r → r.length = l.length ∧ ∀ (j : Nat) (x : α) (y : β), l[j]? = some x → r[j]? = some y → f x = some y := by
  intro l
  induction l with
  | nil => intro r h; simp at h; subst h; simp
  | cons x l ih =>
    intro r h
    rw [List.mapM_cons] at h
    cases hx : f x with
    | none => simp [hx] at h
    | some y =>
      cases hl : l.mapM f with
      | none => simp [hx, hl] at h
      | some ys =>
        simp [hx, hl] at h
        subst h
        obtain ⟨h1, h2⟩ := ih ys hl
        refine ⟨by simp [h1], fun j x' y' hj hj' => ?_⟩
        cases j with
        | zero => simp at hj hj'; subst hj; subst hj'; exact hx
        | succ j => simp at hj hj'; exact h2 j x' y' hj hj'

theorem ofConst_rel (E : Env) {v : Value} {r : AV} (h : ofConst v = some r) : Rel E r v := by
  unfold ofConst at h
  split at h
  · rename_i cs
    cases hm : cs.toList.mapM ofCell with
    | none => simp [hm] at h
    | some l =>
      simp [hm] at h
      subst h
      obtain ⟨h1, h2⟩ := mapM_some _ _ _ hm
      have : Rel E (.agg l) (.agg cs.toList.toArray) := .agg l cs.toList (by simp [h1]) (fun c hc => by
        obtain ⟨j, hj⟩ := List.getElem?_of_mem hc
        have hjl : j < cs.toList.length := by rw [← h1]; exact (List.getElem?_eq_some_iff.1 hj).1
        exact (ofCell_rel E (h2 j _ _ (List.getElem?_eq_getElem hjl) hj)).2) (fun j c u hc hu => (ofCell_rel E (h2 j u c hu hc)).1)
      simpa using this
  · exact (ofCell_rel E h).1

theorem opd {x : Operand} {ax : AX} (h : cOpd N x = some ax) (ht : TmRel E N tm a) : Rel E (ax.ev tm) (a.eval x) := by
  unfold cOpd at h
  split at h
  · split at h
    · simp at h; subst h; exact ht.rel _ ‹_›
    · cases h
  · rename_i v
    cases hv : ofConst v with
    | none => simp [hv] at h
    | some r => simp [hv] at h; subst h; exact ofConst_rel E hv
  · simp at h; subst h
    exact Rel.fn _ [] [] rfl (by simp)
  · cases h

theorem opds {xs : Array Operand} {as : List AX} (h : cOpds N xs = some as) (ht : TmRel E N tm a) : RelL E (as.map (·.ev tm)) (xs.map a.eval).toList := by
  obtain ⟨h1, h2⟩ := mapM_some _ _ _ h
  refine ⟨by simp [h1], fun j c u hc hu => ?_⟩
  simp only [List.getElem?_map, Array.toList_map] at hc hu
  cases hx : xs.toList[j]? with
  | none => simp [hx] at hu
  | some x =>
    cases hy : as[j]? with
    | none => simp [hy] at hc
    | some y =>
      simp [hy] at hc
      have hu' : a.eval x = u := by simpa [hx] using hu
      subst hc; subst hu'
      exact opd (h2 j x y hx hy) ht

/-! ### Inversions -/
theorem Rel.int_inv {k : IntKind} {n : Int} {v : Value} (h : Rel E (.int k n) v) : v = .int k n := by cases h; rfl
theorem Rel.bool_inv {b : Bool} {v : Value} (h : Rel E (.bool b) v) : v = .bool b := by cases h; rfl
theorem Rel.str_inv {s : List UInt8} {v : Value} (h : Rel E (.str s) v) : v = .string ⟨s.toArray⟩ := by cases h; rfl
theorem Rel.cplx_inv {x y : Nat} {v : Value} (h : Rel E (.cplx x y) v) : v = .complex .f64 x y := by cases h; rfl
theorem Rel.flt_inv {x : Nat} {v : Value} (h : Rel E (.flt x) v) : v = .float .f64 x := by cases h; rfl
theorem Rel.nilm_inv {v : Value} (h : Rel E .nilm v) : v = .map none := by cases h; rfl
theorem Rel.nl_inv {v : Value} (h : Rel E .nl v) : ∃ b, v = .slice b 0 0 := by cases h; exact ⟨_, rfl⟩
theorem Rel.agg_inv {cs : List AV} {v : Value} (h : Rel E (.agg cs) v) : ∃ us : List Value, v = .agg us.toArray ∧ us.length = cs.length ∧ (∀ c ∈ cs, c.one = true) ∧ RelL E cs us := by
  cases h with
  | agg _ us hl h1 hr => exact ⟨us, rfl, hl, h1, hl, hr⟩
theorem Rel.tup_inv {cs : List AV} {v : Value} (h : Rel E (.tup cs) v) : ∃ us : List Value, v = .tuple us.toArray ∧ RelL E cs us := by
  cases h with
  | tup _ us hl hr => exact ⟨us, rfl, hl, hr⟩
theorem Rel.fn_inv {f : FuncId} {cs : List AV} {v : Value} (h : Rel E (.fn f cs) v) : ∃ us : List Value, v = .func (.func f) #[] us.toArray ∧ RelL E cs us := by
  cases h with
  | fn _ _ us hl hr => exact ⟨us, rfl, hl, hr⟩

/-- A value's cells. -/
theorem cells_rel {r : AV} {v : Value} (h : Rel E r v) (hf : r.flat = true) : RelL E r.cells v.cells.toList ∧ (∀ c ∈ r.cells, c.one = true) := by
  by_cases ha : ∃ cs, r = .agg cs
  · obtain ⟨cs, rfl⟩ := ha
    obtain ⟨us, rfl, hl, h1, hr⟩ := h.agg_inv
    exact ⟨by simpa [AV.cells, Value.cells] using hr, h1⟩
  · have hrc : r.cells = [r] := by cases r <;> first | rfl | exact absurd ⟨_, rfl⟩ ha
    have hone : r.one = true := by cases r <;> first | rfl | exact absurd ⟨_, rfl⟩ ha | (simp [AV.flat] at hf)
    have hvc : v.cells = #[v] := by
      have := h.one
      rw [hone] at this
      cases v <;> first | rfl | (simp [Value.oneCell'] at this)
    rw [hrc, hvc]
    refine ⟨⟨rfl, fun j c u hc hu => ?_⟩, by simp [hone]⟩
    cases j with
    | zero => simp at hc hu; subst hc; subst hu; exact h
    | succ j => simp at hc

theorem RelL.nil (E : Env) : RelL E [] [] := ⟨rfl, by simp⟩

theorem RelL.drop {cs : List AV} {us : List Value} (h : RelL E cs us) (n : Nat) : RelL E (cs.drop n) (us.drop n) :=
  ⟨by simp [h.1], fun j c u hc hu => h.2 (n + j) c u (by simpa [List.getElem?_drop] using hc) (by simpa [List.getElem?_drop] using hu)⟩

theorem RelL.take {cs : List AV} {us : List Value} (h : RelL E cs us) (n : Nat) : RelL E (cs.take n) (us.take n) :=
  ⟨by simp [h.1], fun j c u hc hu => by
    rw [List.getElem?_take] at hc hu
    split at hc
    · rw [if_pos ‹_›] at hu; exact h.2 j c u hc hu
    · cases hc⟩

theorem RelL.append {cs ds : List AV} {us vs : List Value} (h : RelL E cs us) (k : RelL E ds vs) : RelL E (cs ++ ds) (us ++ vs) :=
  ⟨by simp [h.1, k.1], fun j c u hc hu => by
    rw [List.getElem?_append] at hc hu
    rw [h.1] at hu
    split at hc
    · rw [if_pos ‹_›] at hu; exact h.2 j c u hc hu
    · rw [if_neg ‹_›] at hu; exact k.2 _ c u hc hu⟩

theorem RelL.get {cs : List AV} {us : List Value} (h : RelL E cs us) {j : Nat} {c : AV} (hc : cs[j]? = some c) : ∃ u, us[j]? = some u ∧ Rel E c u := by
  have hj : j < us.length := by rw [h.1]; exact (List.getElem?_eq_some_iff.1 hc).1
  exact ⟨us[j], List.getElem?_eq_getElem hj, h.2 j c _ hc (List.getElem?_eq_getElem hj)⟩

/-! ### Reading cells -/

theorem cell_row {w : World} {g j : Nat} {us : List Value} {e : TypeId} {fr : Nat × Nat} (h : w.heap[g]? = some (.cells us.toArray e fr)) : w.cell? ⟨g, j, none⟩ = us[j]? := by
  rw [cell_of_row w g j _ e fr h]; simp

/-- What a pointer's cells hold: so many from here on, with what they are. -/
theorem ptr_cells (hs : Sim E) {id off : Nat} {cs : List AV} {v : Value} (h : Rel E (.ptr id off) v) (hh : E.h id = .cells cs) :
    ∃ us : List Value, v = .pointer (some ⟨E.ι id, off, none⟩) ∧ RelL E cs us ∧ (∀ c ∈ cs, c.one = true) ∧ ∀ j, E.w.cell? ⟨E.ι id, j, none⟩ = us[j]? := by
  have ho := hs.obj id
  unfold ObjRel at ho
  rw [hh] at ho
  obtain ⟨us, e, hl, hb, h1, hr⟩ := ho
  cases h with
  | ptr _ _ a hn h => exact ⟨us, by rw [h cs hh], ⟨hl, hr⟩, h1, fun j => cell_row hb⟩

theorem arr_row (hs : Sim E) {id : Nat} {e sz : Nat} {xs : List (List AV)} (hh : E.h id = .arr e sz xs) :
    ∃ us : List Value, E.w.heap[E.ι id]? = some (.cells us.toArray e (0, 0)) ∧ us.length = E.κ id * sz ∧ xs.length ≤ E.κ id ∧ E.κ id ≤ maxLen ∧ 0 < sz ∧ (∀ x ∈ xs, x.length = sz) ∧ (∀ x ∈ xs, ∀ c ∈ x, c.one = true) ∧
      (∀ u ∈ us, u.oneCell' = true) ∧ ∀ (i : Nat) (x : List AV) (j : Nat) (c : AV), xs[i]? = some x → x[j]? = some c → ∃ u, us[i * sz + j]? = some u ∧ Rel E c u := by
  have ho := hs.obj id
  unfold ObjRel at ho
  rw [hh] at ho
  exact ho

/-- An element's cells. -/
theorem pe_cells (hs : Sim E) {id i off : Nat} {e sz : Nat} {xs : List (List AV)} {x : List AV} {v : Value} (h : Rel E (.pe id i off) v) (hh : E.h id = .arr e sz xs) (hx : xs[i]? = some x) :
    ∃ us : List Value, v = .pointer (some ⟨E.ι id, i * sz + off, none⟩) ∧ RelL E x us ∧ x.length = sz ∧ (∀ c ∈ x, c.one = true) ∧ ∀ j, j < sz → E.w.cell? ⟨E.ι id, i * sz + j, none⟩ = us[j]? := by
  obtain ⟨us, hb, hl, hxl, hk, hsz, hlen, hone, ho, hr⟩ := arr_row hs hh
  have hxm : x ∈ xs := List.mem_of_getElem? hx
  have hxs := hlen x hxm
  have hil : i < xs.length := (List.getElem?_eq_some_iff.1 hx).1
  have hle : (i + 1) * sz ≤ us.length := by rw [hl]; exact Nat.mul_le_mul_right _ (by omega)
  have hle' : i * sz + sz ≤ us.length := by rw [Nat.add_mul] at hle; omega
  cases h with
  | pe _ _ _ a hn h =>
    refine ⟨(us.drop (i * sz)).take sz, by rw [h e sz xs hh], ⟨by simp; omega, fun j c u hc hu => ?_⟩, hxs, hone x hxm, fun j hj => ?_⟩
    · obtain ⟨u', hu', hr'⟩ := hr i x j c hx hc
      have hj : j < sz := by rw [← hxs]; exact (List.getElem?_eq_some_iff.1 hc).1
      rw [List.getElem?_take, if_pos hj, List.getElem?_drop, hu'] at hu
      cases hu
      exact hr'
    · rw [cell_row hb, List.getElem?_take, if_pos hj, List.getElem?_drop]

end Go.AM
