/- AM, 1: values without addresses, objects, the relation to the kit's world, and how it is carried on. -/
import Derived.Laws.AppendOwn
import Derived.Orders
set_option linter.unusedVariables false
set_option linter.unusedSimpArgs false
namespace Go.AM

/-- Values without addresses. 'fz': a slice whose cells turn no more, with what they hold; 'sl': a slice of an array of the call's own; 'fp': a pointer to cells that turn no more. -/
inductive AV where
  | int (k : IntKind) (n : Int)
  | bool (b : Bool)
  | str (s : List UInt8)
  | cplx (re im : Nat)
  | flt (b : Nat)
  | nilp | nilm | nilf | nili
  | ptr (id off : Nat)
  | pe (id i off : Nat)
  | fp (cs : List AV)
  | nl
  | sl (id off len : Nat)
  | fz (xs : List (List AV))
  | mp (id : Nat)
  | fn (f : FuncId) (cap : List AV)
  | agg (cs : List AV)
  | tup (vs : List AV)

instance : Inhabited AV := ⟨.nl⟩

abbrev AV.undef : AV := .tup []

/-- Does it take one cell? -/
def AV.one : AV → Bool
  | .agg _ | .tup _ => false
  | _ => true

/-- No tuple. -/
def AV.flat : AV → Bool
  | .tup _ => false
  | _ => true

/-- The cells of a value. -/
def AV.cells : AV → List AV
  | .agg cs => cs
  | v => [v]

/-- What lies behind an object's number. -/
inductive AObj where
  | dead
  | cells (cs : List AV)
  | arr (e sz : Nat) (xs : List (List AV))
  | map (es : List (AV × AV))

abbrev Hp := Nat → AObj
abbrev Tm := Nat → AV

def hset (h : Hp) (id : Nat) (o : AObj) : Hp := fun i => if i = id then o else h i
def upd (tm : Tm) (t : Nat) (v : AV) : Tm := fun s => if s = t then v else tm s
def updO (tm : Tm) (d : Option Nat) (v : AV) : Tm := match d with | some t => upd tm t v | none => tm

structure Env where
  h : Hp
  ι : Nat → Nat
  κ : Nat → Nat
  w : World
  nx : Nat

def Env.live (E : Env) (b : Nat) : Prop := ∃ id, E.h id ≠ .dead ∧ E.ι id = b

inductive Rel (E : Env) : AV → Value → Prop
  | int (k : IntKind) (n : Int) : Rel E (.int k n) (.int k n)
  | bool (b : Bool) : Rel E (.bool b) (.bool b)
  | str (s : List UInt8) : Rel E (.str s) (.string ⟨s.toArray⟩)
  | cplx (re im : Nat) : Rel E (.cplx re im) (.complex .f64 re im)
  | flt (b : Nat) : Rel E (.flt b) (.float .f64 b)
  | nilp : Rel E .nilp (.pointer none)
  | nilm : Rel E .nilm (.map none)
  | nilf : Rel E .nilf .nilFunc
  | nili : Rel E .nili .nilIface
  | ptr (id off : Nat) (a : Addr) (hn : id < E.nx) (h : ∀ cs, E.h id = .cells cs → a = ⟨E.ι id, off, none⟩) : Rel E (.ptr id off) (.pointer (some a))
  | pe (id i off : Nat) (a : Addr) (hn : id < E.nx) (h : ∀ e sz xs, E.h id = .arr e sz xs → a = ⟨E.ι id, i * sz + off, none⟩) : Rel E (.pe id i off) (.pointer (some a))
  | fp (cs : List AV) (a : Addr) (us : List Value) (hl : ¬ E.live a.block) (hb : a.block < E.w.heap.size) (hs : a.spot = none) (hlen : us.length = cs.length)
      (h1 : ∀ c ∈ cs, c.one = true) (hc : ∀ (j : Nat) (u : Value), us[j]? = some u → E.w.cell? ⟨a.block, a.off + j, none⟩ = some u) (hr : ∀ (j : Nat) (c : AV) (u : Value), cs[j]? = some c → us[j]? = some u → Rel E c u) : Rel E (.fp cs) (.pointer (some a))
  | nl (b : Option Addr) : Rel E .nl (.slice b 0 0)
  | sl (id off len : Nat) (b : Option Addr) (cap : Nat) (hn : id < E.nx)
      (h : ∀ e sz xs, E.h id = .arr e sz xs → off + len ≤ xs.length ∧ off + cap = E.κ id ∧ ((off ≠ 0 ∧ cap = 0) ∨ b = some ⟨E.ι id, off * sz, none⟩)) : Rel E (.sl id off len) (.slice b len cap)
  | fz (xs : List (List AV)) (b : Option Addr) (cap blk o sz : Nat) (us : Nat → Nat → Value) (hb : xs ≠ [] → b = some ⟨blk, o, none⟩ ∧ ¬ E.live blk ∧ blk < E.w.heap.size)
      (hcap : xs.length ≤ cap) (hs : ∀ x ∈ xs, x.length = sz) (h1 : ∀ x ∈ xs, ∀ c ∈ x, c.one = true)
      (hc : ∀ (i : Nat) (x : List AV) (j : Nat) (c : AV), xs[i]? = some x → x[j]? = some c → E.w.cell? ⟨blk, o + i * sz + j, none⟩ = some (us i j))
      (hr : ∀ (i : Nat) (x : List AV) (j : Nat) (c : AV), xs[i]? = some x → x[j]? = some c → Rel E c (us i j)) : Rel E (.fz xs) (.slice b xs.length cap)
  | mp (id r : Nat) (hn : id < E.nx) (h : ∀ es, E.h id = .map es → r = E.ι id) : Rel E (.mp id) (.map (some r))
  | fn (f : FuncId) (cap : List AV) (us : List Value) (hlen : us.length = cap.length) (hr : ∀ (j : Nat) (c : AV) (u : Value), cap[j]? = some c → us[j]? = some u → Rel E c u) : Rel E (.fn f cap) (.func (.func f) #[] us.toArray)
  | agg (cs : List AV) (us : List Value) (hlen : us.length = cs.length) (h1 : ∀ c ∈ cs, c.one = true) (hr : ∀ (j : Nat) (c : AV) (u : Value), cs[j]? = some c → us[j]? = some u → Rel E c u) : Rel E (.agg cs) (.agg us.toArray)
  | tup (cs : List AV) (us : List Value) (hlen : us.length = cs.length) (hr : ∀ (j : Nat) (c : AV) (u : Value), cs[j]? = some c → us[j]? = some u → Rel E c u) : Rel E (.tup cs) (.tuple us.toArray)

/-- Lists, one by one. -/
def RelL (E : Env) (cs : List AV) (us : List Value) : Prop := us.length = cs.length ∧ ∀ (j : Nat) (c : AV) (u : Value), cs[j]? = some c → us[j]? = some u → Rel E c u

theorem Rel.one {E : Env} {a : AV} {v : Value} (h : Rel E a v) : v.oneCell' = a.one := by cases h <;> rfl

theorem Rel.undef (E : Env) : Rel E .undef undef := Rel.tup [] [] rfl (by simp)

/-- What an object's new state may be, so that what was known of its numbers stays. -/
def Shape (o o' : AObj) : Prop :=
  (∀ cs, o' = .cells cs → ∃ cs0, o = .cells cs0) ∧ (∀ e sz xs, o' = .arr e sz xs → ∃ xs0, o = .arr e sz xs0 ∧ xs0.length ≤ xs.length) ∧ (∀ es, o' = .map es → ∃ es0, o = .map es0)

theorem Shape.refl (o : AObj) : Shape o o := ⟨fun _ h => ⟨_, h⟩, fun _ _ _ h => ⟨_, h, Nat.le_refl _⟩, fun _ h => ⟨_, h⟩⟩
theorem Shape.dead (o : AObj) : Shape o .dead := ⟨(fun _ h => by cases h), (fun _ _ _ h => by cases h), (fun _ h => by cases h)⟩

/-- One environment behind another. -/
structure Ext (E E' : Env) : Prop where
  rel : ∀ a v, Rel E a v → Rel E' a v
  nx : E.nx ≤ E'.nx
  os : E'.w.os = E.w.os
  tape : E'.w.tape = E.w.tape
  output : E'.w.output = E.w.output
  size : E.w.heap.size ≤ E'.w.heap.size
  block : ∀ b, b < E.w.heap.size → ¬ E.live b → E'.w.heap[b]? = E.w.heap[b]?
  live : ∀ b, b < E.w.heap.size → E'.live b → E.live b

theorem Ext.refl (E : Env) : Ext E E := ⟨fun _ _ h => h, Nat.le_refl _, rfl, rfl, rfl, Nat.le_refl _, fun _ _ _ => rfl, fun _ _ h => h⟩
theorem Ext.trans {A B C : Env} (h : Ext A B) (k : Ext B C) : Ext A C :=
  ⟨fun _ _ r => k.rel _ _ (h.rel _ _ r), Nat.le_trans h.nx k.nx, k.os.trans h.os, k.tape.trans h.tape, k.output.trans h.output, Nat.le_trans h.size k.size,
   fun b hb hl => (k.block b (Nat.lt_of_lt_of_le hb h.size) (fun hh => hl (h.live b hb hh))).trans (h.block b hb hl),
   fun b hb hl => h.live b hb (k.live b (Nat.lt_of_lt_of_le hb h.size) hl)⟩

theorem cell_of_block {w w' : World} {a : Addr} (h : w'.heap[a.block]? = w.heap[a.block]?) : w'.cell? a = w.cell? a := by simp [World.cell?, h]

theorem block_of_cell {w : World} {a : Addr} {v : Value} (h : w.cell? a = some v) : a.block < w.heap.size := by
  unfold World.cell? at h
  cases hb : w.heap[a.block]? with
  | none => simp [hb] at h
  | some o => exact (Array.getElem?_eq_some_iff.1 hb).1

theorem Rel.mono {E E' : Env} (hnx : E.nx ≤ E'.nx) (hsh : ∀ id, id < E.nx → E'.h id ≠ .dead → Shape (E.h id) (E'.h id) ∧ E'.ι id = E.ι id ∧ E'.κ id = E.κ id)
    (hsize : E.w.heap.size ≤ E'.w.heap.size) (hblock : ∀ b, b < E.w.heap.size → ¬ E.live b → E'.w.heap[b]? = E.w.heap[b]?) (hlive : ∀ b, b < E.w.heap.size → E'.live b → E.live b)
    {a : AV} {v : Value} (h : Rel E a v) : Rel E' a v := by
  induction h with
  | int k n => exact .int k n
  | bool b => exact .bool b
  | str s => exact .str s
  | cplx a b => exact .cplx a b
  | flt b => exact .flt b
  | nilp => exact .nilp
  | nilm => exact .nilm
  | nilf => exact .nilf
  | nili => exact .nili
  | ptr id off a hn h =>
    refine .ptr id off a (Nat.lt_of_lt_of_le hn hnx) fun cs hcs => ?_
    obtain ⟨hs, hi, _⟩ := hsh id hn (by rw [hcs]; simp)
    obtain ⟨cs0, h0⟩ := hs.1 cs hcs
    rw [hi]; exact h cs0 h0
  | pe id i off a hn h =>
    refine .pe id i off a (Nat.lt_of_lt_of_le hn hnx) fun e sz xs hcs => ?_
    obtain ⟨hs, hi, _⟩ := hsh id hn (by rw [hcs]; simp)
    obtain ⟨xs0, h0, _⟩ := hs.2.1 e sz xs hcs
    rw [hi]; exact h e sz xs0 h0
  | fp cs a us hl hb hs hlen h1 hc hr ih =>
    refine .fp cs a us (fun hh => hl (hlive _ hb hh)) (Nat.lt_of_lt_of_le hb hsize) hs hlen h1 (fun j u hu => ?_) ih
    rw [cell_of_block (w := E.w) (a := ⟨a.block, a.off + j, none⟩) (hblock a.block hb hl)]; exact hc j u hu
  | nl b => exact .nl b
  | sl id off len b cap hn h =>
    refine .sl id off len b cap (Nat.lt_of_lt_of_le hn hnx) fun e sz xs hcs => ?_
    obtain ⟨hs, hi, hk⟩ := hsh id hn (by rw [hcs]; simp)
    obtain ⟨xs0, h0, hle⟩ := hs.2.1 e sz xs hcs
    obtain ⟨h1, h2, h3⟩ := h e sz xs0 h0
    rw [hi, hk]; exact ⟨by omega, h2, h3⟩
  | fz xs b cap blk o sz us hb hcap hs h1 hc hr ih =>
    refine .fz xs b cap blk o sz us (fun hne => ?_) hcap hs h1 (fun i x j c hx hj => ?_) ih
    · obtain ⟨h1, h2, h3⟩ := hb hne
      exact ⟨h1, fun hh => h2 (hlive _ h3 hh), Nat.lt_of_lt_of_le h3 hsize⟩
    · have hne : xs ≠ [] := by intro h0; subst h0; simp at hx
      obtain ⟨_, h2, h3⟩ := hb hne
      rw [cell_of_block (w := E.w) (a := ⟨blk, o + i * sz + j, none⟩) (hblock blk h3 h2)]; exact hc i x j c hx hj
  | mp id r hn h =>
    refine .mp id r (Nat.lt_of_lt_of_le hn hnx) fun es hcs => ?_
    obtain ⟨hs, hi, _⟩ := hsh id hn (by rw [hcs]; simp)
    obtain ⟨es0, h0⟩ := hs.2.2 es hcs
    rw [hi]; exact h es0 h0
  | fn f cap us hlen hr ih => exact .fn f cap us hlen ih
  | agg cs us hlen h1 hr ih => exact .agg cs us hlen h1 ih
  | tup cs us hlen hr ih => exact .tup cs us hlen ih

theorem RelL.mono {E E' : Env} {cs : List AV} {us : List Value} (h : RelL E cs us) (hx : Ext E E') : RelL E' cs us :=
  ⟨h.1, fun j c u hc hu => hx.rel _ _ (h.2 j c u hc hu)⟩

/-- An object and its block. -/
def ObjRel (E : Env) (id : Nat) : Prop :=
  match E.h id with
  | .dead => True
  | .cells cs => ∃ (us : List Value) (e : TypeId), us.length = cs.length ∧ E.w.heap[E.ι id]? = some (.cells us.toArray e (0, 0)) ∧ (∀ c ∈ cs, c.one = true) ∧ ∀ (j : Nat) (c : AV) (u : Value), cs[j]? = some c → us[j]? = some u → Rel E c u
  | .arr e sz xs => ∃ us : List Value, E.w.heap[E.ι id]? = some (.cells us.toArray e (0, 0)) ∧ us.length = E.κ id * sz ∧ xs.length ≤ E.κ id ∧ E.κ id ≤ maxLen ∧ 0 < sz ∧ (∀ x ∈ xs, x.length = sz) ∧
      (∀ x ∈ xs, ∀ c ∈ x, c.one = true) ∧ (∀ u ∈ us, u.oneCell' = true) ∧ ∀ (i : Nat) (x : List AV) (j : Nat) (c : AV), xs[i]? = some x → x[j]? = some c → ∃ u, us[i * sz + j]? = some u ∧ Rel E c u
  | .map es => ∃ (ents : Array MapEntry) (clk : Nat), E.w.heap[E.ι id]? = some (.map ents clk) ∧ ents.size = es.length ∧ ∀ (i : Nat) (kv : AV × AV) (en : MapEntry), es[i]? = some kv → ents[i]? = some en → Rel E kv.1 en.key ∧ Rel E kv.2 en.val

structure Sim (E : Env) : Prop where
  obj : ∀ id, ObjRel E id
  nx : ∀ id, E.nx ≤ id → E.h id = .dead
  inj : ∀ i j, E.h i ≠ .dead → E.h j ≠ .dead → E.ι i = E.ι j → i = j
  lt : ∀ i, E.h i ≠ .dead → E.ι i < E.w.heap.size

theorem Sim.id_lt {E : Env} (h : Sim E) {id : Nat} (hd : E.h id ≠ .dead) : id < E.nx := by
  rcases Nat.lt_or_ge id E.nx with h1 | h1
  · exact h1
  · exact absurd (h.nx id h1) hd

/-- The slots. -/
structure TmRel (E : Env) (N : Nat) (tm : Tm) (a : Act) : Prop where
  size : a.tmps.size = N
  defers : a.defers = []
  rel : ∀ t, t < N → Rel E (tm t) (a.tmps.getD t Go.undef)

theorem TmRel.mono {E E' : Env} {N : Nat} {tm : Tm} {a : Act} (h : TmRel E N tm a) (hx : Ext E E') : TmRel E' N tm a := ⟨h.size, h.defers, fun t ht => hx.rel _ _ (h.rel t ht)⟩

theorem TmRel.put {E : Env} {N : Nat} {tm : Tm} {a : Act} (h : TmRel E N tm a) {d : Option Nat} (hd : ∀ t, d = some t → t < N) {r : AV} {v : Value} (hr : Rel E r v) : TmRel E N (updO tm d r) (a.put d v) := by
  cases d with
  | none => exact h
  | some d =>
    have hdN := hd d rfl
    refine ⟨by simp [Act.put, h.size], h.defers, fun t ht => ?_⟩
    simp only [updO, upd, Act.put]
    by_cases e : t = d
    · subst e
      simp [Array.getD_eq_getD_getElem?, h.size, hdN]
      exact hr
    · rw [if_neg e]
      have := h.rel t ht
      simp only [Array.getD_eq_getD_getElem?] at this ⊢
      rw [Array.getElem?_setIfInBounds_ne (Ne.symm e)]
      exact this

end Go.AM
