/- AM, 10: how an environment goes on: a new object, an object's new state, an object that is let go, one that is made anew. -/
import Derived.Test.YtcpkdbofohkipaaGreatK1
import Derived.Laws.MakeOwn
import Derived.Laws.OwnMore
import Derived.Deep.AppendSrc
import Derived.Lib.ConvBytes
set_option linter.unusedVariables false
set_option linter.unusedSimpArgs false
namespace Go.AM
variable {P : Program} {N : Nat} {E : Env} {tm : Tm} {a : Act}

/-- The streams and the rest of the world beside its blocks. -/
structure SameRest (w w' : World) : Prop where
  os : w'.os = w.os
  tape : w'.tape = w.tape
  output : w'.output = w.output

theorem Ext.of {E E' : Env} (hnx : E.nx ≤ E'.nx) (hsh : ∀ id, id < E.nx → E'.h id ≠ .dead → Shape (E.h id) (E'.h id) ∧ E'.ι id = E.ι id ∧ E'.κ id = E.κ id)
    (hr : SameRest E.w E'.w) (hsize : E.w.heap.size ≤ E'.w.heap.size) (hblock : ∀ b, b < E.w.heap.size → ¬ E.live b → E'.w.heap[b]? = E.w.heap[b]?) (hlive : ∀ b, b < E.w.heap.size → E'.live b → E.live b) : Ext E E' :=
  ⟨fun _ _ h => h.mono hnx hsh hsize hblock hlive, hnx, hr.os, hr.tape, hr.output, hsize, hblock, hlive⟩

theorem ObjRel.keep {E E' : Env} {id : Nat} (h : ObjRel E id) (hh : E'.h id = E.h id) (hι : E'.ι id = E.ι id) (hκ : E'.κ id = E.κ id) (hb : E.h id ≠ .dead → E'.w.heap[E.ι id]? = E.w.heap[E.ι id]?) (hx : ∀ a v, Rel E a v → Rel E' a v) : ObjRel E' id := by
  unfold ObjRel at *
  rw [hh, hι, hκ]
  split at h
  · trivial
  · rename_i cs hc
    rw [hb (by rw [hc]; simp)]
    obtain ⟨us, e, h1, h2, h3, h4⟩ := h
    exact ⟨us, e, h1, h2, h3, fun j c u hc hu => hx _ _ (h4 j c u hc hu)⟩
  · rename_i e sz xs hc
    rw [hb (by rw [hc]; simp)]
    obtain ⟨us, h1, h2, h3, h4, h5, h6, h7, h8, h9⟩ := h
    exact ⟨us, h1, h2, h3, h4, h5, h6, h7, h8, fun i x j c hx' hj => let ⟨u, hu, hr⟩ := h9 i x j c hx' hj; ⟨u, hu, hx _ _ hr⟩⟩
  · rename_i es hc
    rw [hb (by rw [hc]; simp)]
    obtain ⟨ents, clk, h1, h2, h3⟩ := h
    exact ⟨ents, clk, h1, h2, fun i kv en hk he => ⟨hx _ _ (h3 i kv en hk he).1, hx _ _ (h3 i kv en hk he).2⟩⟩

/-- A new object, in a new block. -/
def Env.add (E : Env) (w' : World) (o : AObj) (blk κ0 : Nat) : Env :=
  { h := hset E.h E.nx o, ι := fun i => if i = E.nx then blk else E.ι i, κ := fun i => if i = E.nx then κ0 else E.κ i, w := w', nx := E.nx + 1 }

theorem Env.add_ext (hs : Sim E) {w' : World} {o : AObj} {blk κ0 : Nat} (hr : SameRest E.w w') (hsize : E.w.heap.size ≤ w'.heap.size) (hold : ∀ b, b < E.w.heap.size → w'.heap[b]? = E.w.heap[b]?) (hblk : E.w.heap.size ≤ blk) : Ext E (E.add w' o blk κ0) := by
  refine Ext.of (Nat.le_succ _) (fun id hid hd => ?_) hr hsize (fun b hb _ => hold b hb) (fun b hb hl => ?_)
  · have hne : id ≠ E.nx := by omega
    simp only [Env.add, hset, if_neg hne] at hd ⊢
    exact ⟨Shape.refl _, trivial, trivial⟩
  · obtain ⟨id, h1, h2⟩ := hl
    by_cases hne : id = E.nx
    · simp [Env.add, hne] at h2; omega
    · simp only [Env.add, hset, if_neg hne] at h1 h2
      exact ⟨id, h1, h2⟩

theorem Env.add_sim (hs : Sim E) {w' : World} {o : AObj} {blk κ0 : Nat} (hr : SameRest E.w w') (hsize : E.w.heap.size ≤ w'.heap.size) (hold : ∀ b, b < E.w.heap.size → w'.heap[b]? = E.w.heap[b]?) (hblk : E.w.heap.size ≤ blk) (hlt : blk < w'.heap.size)
    (ho : ObjRel (E.add w' o blk κ0) E.nx) : Sim (E.add w' o blk κ0) := by
  have hx := Env.add_ext (o := o) (κ0 := κ0) hs hr hsize hold hblk
  refine ⟨fun id => ?_, fun id hid => ?_, fun i j hi hj he => ?_, fun i hi => ?_⟩
  · by_cases hne : id = E.nx
    · rw [hne]; exact ho
    · refine (hs.obj id).keep (by simp [Env.add, hset, hne]) (by simp [Env.add, hne]) (by simp [Env.add, hne]) (fun hd => hold _ (hs.lt id hd)) hx.rel
  · have h1 : E.nx + 1 ≤ id := hid
    have hne : id ≠ E.nx := by omega
    simp only [Env.add, hset, if_neg hne]
    exact hs.nx id (by omega)
  · by_cases h1 : i = E.nx
    · by_cases h2 : j = E.nx
      · omega
      · simp only [Env.add, hset, if_neg h2] at hj
        simp [Env.add, h1, h2] at he
        have := hs.lt j hj
        omega
    · by_cases h2 : j = E.nx
      · simp only [Env.add, hset, if_neg h1] at hi
        simp [Env.add, h1, h2] at he
        have := hs.lt i hi
        omega
      · simp only [Env.add, hset, if_neg h1] at hi
        simp only [Env.add, hset, if_neg h2] at hj
        simp [Env.add, h1, h2] at he
        exact hs.inj i j hi hj he
  · by_cases h1 : i = E.nx
    · simp [Env.add, h1]; exact hlt
    · simp only [Env.add, hset, if_neg h1] at hi
      simp [Env.add, h1]
      exact Nat.lt_of_lt_of_le (hs.lt i hi) hsize

/-- An object's new state, in its block. -/
def Env.turn (E : Env) (w' : World) (id : Nat) (o : AObj) : Env := { E with h := hset E.h id o, w := w' }

theorem Env.turn_ext (hs : Sim E) {w' : World} {id : Nat} {o : AObj} (hd : E.h id ≠ .dead) (hsh : Shape (E.h id) o) (hr : SameRest E.w w') (hsize : w'.heap.size = E.w.heap.size) (hold : ∀ b, b ≠ E.ι id → w'.heap[b]? = E.w.heap[b]?) : Ext E (E.turn w' id o) := by
  refine Ext.of (Nat.le_refl _) (fun i hi hd' => ?_) hr (Nat.le_of_eq hsize.symm) (fun b hb hl => hold b (fun e => hl ⟨id, hd, e.symm⟩)) (fun b hb hl => ?_)
  · refine ⟨?_, rfl, rfl⟩
    by_cases hne : i = id
    · subst hne; simpa [Env.turn, hset] using hsh
    · simp only [Env.turn, hset, if_neg hne]; exact Shape.refl _
  · obtain ⟨i, h1, h2⟩ := hl
    by_cases hne : i = id
    · subst hne; exact ⟨i, hd, h2⟩
    · simp only [Env.turn, hset, if_neg hne] at h1
      exact ⟨i, h1, h2⟩

theorem Env.turn_sim (hs : Sim E) {w' : World} {id : Nat} {o : AObj} (hd : E.h id ≠ .dead) (hsh : Shape (E.h id) o) (hr : SameRest E.w w') (hsize : w'.heap.size = E.w.heap.size) (hold : ∀ b, b ≠ E.ι id → w'.heap[b]? = E.w.heap[b]?)
    (ho : ObjRel (E.turn w' id o) id) : Sim (E.turn w' id o) := by
  have hx := Env.turn_ext hs hd hsh hr hsize hold
  have hdd : ∀ i, (E.turn w' id o).h i ≠ .dead → E.h i ≠ .dead := fun i hi => by
    by_cases hne : i = id
    · subst hne; exact hd
    · simpa [Env.turn, hset, hne] using hi
  refine ⟨fun i => ?_, fun i hi => ?_, fun i j hi hj he => hs.inj i j (hdd i hi) (hdd j hj) he, fun i hi => ?_⟩
  · by_cases hne : i = id
    · rw [hne]; exact ho
    · exact (hs.obj i).keep (by simp [Env.turn, hset, hne]) rfl rfl (fun hdi => hold _ (fun e => hne (hs.inj i id hdi hd e))) hx.rel
  · have hne : i ≠ id := fun e => by subst e; exact hd (hs.nx i hi)
    simp only [Env.turn, hset, if_neg hne]
    exact hs.nx i hi
  · have := hs.lt i (hdd i hi)
    simp only [Env.turn]
    omega

/-- Objects are let go; the world stands but for the blocks of those let go. -/
theorem forget (hs : Sim E) {h' : Hp} (hsub : ∀ id, h' id = E.h id ∨ h' id = .dead) {w' : World} (hr : SameRest E.w w') (hsize : w'.heap.size = E.w.heap.size) (hold : ∀ b, (∀ id, h' id ≠ .dead → E.ι id ≠ b) → ¬ E.live b → w'.heap[b]? = E.w.heap[b]?)
    (hkeep : ∀ id, h' id ≠ .dead → w'.heap[E.ι id]? = E.w.heap[E.ι id]?) : Ext E { E with h := h', w := w' } ∧ Sim { E with h := h', w := w' } := by
  have hdd : ∀ i, h' i ≠ .dead → h' i = E.h i ∧ E.h i ≠ .dead := fun i hi => by
    rcases hsub i with h | h
    · exact ⟨h, h ▸ hi⟩
    · exact absurd h hi
  have hx : Ext E { E with h := h', w := w' } := by
    refine Ext.of (Nat.le_refl _) (fun i hi hd' => ⟨?_, rfl, rfl⟩) hr (Nat.le_of_eq hsize.symm) (fun b hb hl => hold b (fun id hid e => hl ⟨id, (hdd id hid).2, e⟩) hl) (fun b hb hl => ?_)
    · rw [show ({ E with h := h', w := w' } : Env).h i = E.h i from (hdd i hd').1]; exact Shape.refl _
    · obtain ⟨i, h1, h2⟩ := hl
      exact ⟨i, (hdd i h1).2, h2⟩
  refine ⟨hx, fun i => ?_, fun i hi => ?_, fun i j hi hj he => hs.inj i j (hdd i hi).2 (hdd j hj).2 he, fun i hi => ?_⟩
  · rcases hsub i with h | h
    · by_cases hd : h' i = .dead
      · unfold ObjRel; rw [show ({ E with h := h', w := w' } : Env).h i = .dead from hd]; trivial
      · exact (hs.obj i).keep h rfl rfl (fun _ => hkeep i hd) hx.rel
    · unfold ObjRel; rw [show ({ E with h := h', w := w' } : Env).h i = .dead from h]; trivial
  · rcases hsub i with h | h
    · exact h.trans (hs.nx i hi)
    · exact h
  · have := hs.lt i (hdd i hi).2
    show E.ι i < w'.heap.size
    omega

/-- Objects are let go, the world stands. -/
theorem forget' (hs : Sim E) {h' : Hp} (hsub : ∀ id, h' id = E.h id ∨ h' id = .dead) : Ext E { E with h := h' } ∧ Sim { E with h := h' } :=
  forget hs hsub (w' := E.w) ⟨rfl, rfl, rfl⟩ rfl (fun _ _ _ => rfl) (fun _ _ => rfl)

/-- The world has drawn. -/
theorem drew_ext (hs : Sim E) : Ext E { E with w := E.w.drew } ∧ Sim { E with w := E.w.drew } := by
  have := forget hs (h' := E.h) (fun _ => .inl rfl) (w' := E.w.drew) ⟨rfl, rfl, rfl⟩ rfl (fun _ _ _ => rfl) (fun _ _ => rfl)
  exact this

/-- An array let go: what a slice of it held, it holds for good. -/
theorem freeze_rel (hs : Sim E) {id off len : Nat} {e sz : Nat} {xs : List (List AV)} (hh : E.h id = .arr e sz xs) (hle : off + len ≤ xs.length) {h' : Hp} (hsub : ∀ i, h' i = E.h i ∨ h' i = .dead) (hdead : h' id = .dead) {v : Value} (hv : Rel E (.sl id off len) v) :
    Rel { E with h := h' } (.fz ((xs.drop off).take len)) v := by
  obtain ⟨hx, hs'⟩ := forget' hs hsub
  obtain ⟨b, cap, e1, hn, hp⟩ := hv.sl_inv
  obtain ⟨h1, h2, h3⟩ := hp e sz xs hh
  obtain ⟨us, hb, hl, hxk, hkm, hpos, hlen, hone, huo, hru⟩ := arr_row hs hh
  have hln : ((xs.drop off).take len).length = len := by simp; omega
  have hget : ∀ i y, ((xs.drop off).take len)[i]? = some y → xs[off + i]? = some y := fun i y hy => by
    rw [List.getElem?_take] at hy
    split at hy
    · rwa [List.getElem?_drop] at hy
    · cases hy
  have hmem : ∀ y ∈ (xs.drop off).take len, y ∈ xs := fun y hy => List.mem_of_mem_drop (List.mem_of_mem_take hy)
  have hid : E.h id ≠ .dead := by rw [hh]; simp
  have := Rel.fz (E := { E with h := h' }) ((xs.drop off).take len) b cap (E.ι id) (off * sz) sz (fun i j => us.getD ((off + i) * sz + j) undef)
    (fun hne => by
      have hpos' : 0 < ((xs.drop off).take len).length := List.length_pos_iff.2 hne
      refine ⟨?_, fun hl => ?_, hs.lt id hid⟩
      · rcases h3 with ⟨_, h5⟩ | h5
        · omega
        · exact h5
      · obtain ⟨i, hi1, hi2⟩ := hl
        have hi1' : h' i ≠ .dead := hi1
        have : E.h i ≠ .dead := by
          rcases hsub i with h | h
          · exact h ▸ hi1'
          · exact absurd h hi1'
        have := hs.inj i id this hid hi2
        subst this
        exact hi1' hdead)
    (by omega) (fun y hy => hlen y (hmem y hy)) (fun y hy => hone y (hmem y hy))
    (fun i y j c hy hj => by
      obtain ⟨u, hu, hr⟩ := hru (off + i) y j c (hget i y hy) hj
      show E.w.cell? _ = _
      rw [cell_row hb]
      have e : off * sz + i * sz + j = (off + i) * sz + j := by rw [Nat.add_mul]
      rw [e, hu]
      simp [List.getD, hu])
    (fun i y j c hy hj => by
      obtain ⟨u, hu, hr⟩ := hru (off + i) y j c (hget i y hy) hj
      simp only [List.getD, hu, Option.getD_some]
      exact hx.rel _ _ hr)
  rw [hln] at this
  rw [e1]
  exact this

end Go.AM

/- AM, 11: the operations that make or write memory. -/
namespace Go.AM
variable {P : Program} {N : Nat} {E : Env} {tm : Tm} {a : Act}

/-- What is to be shown of an operation: whatever it answers and leaves, the rest goes on. -/
def Goes (E : Env) (K : AV → Hp → Prop) (a : Act) (dst : Option Tmp) (next : Act → World → Prop) : Prop :=
  ∀ (r : AV) (v : Value) (E' : Env), Sim E' → Ext E E' → Rel E' r v → K r E'.h → next (a.put dst v) E'.w

theorem wp_value {o : Oper} {K : Act → World → Prop} {Q : Exit → Act → World → Prop} {v : Value} {w w' : World} (h : (execOp a.eval o).run P w = .ok (.value v) w') (hk : K (a.put o.dst v) w') : o.wp P a w K Q := by
  unfold Oper.wp; rw [h]; exact hk
theorem wp_skipped {o : Oper} {K : Act → World → Prop} {Q : Exit → Act → World → Prop} {w w' : World} (h : (execOp a.eval o).run P w = .ok .skip w') (hk : K (a.put o.dst undef) w') : o.wp P a w K Q := by
  unfold Oper.wp; rw [h]; exact hk

theorem alloc_old (w : World) (o : Obj) (b : Nat) (h : b < w.heap.size) : (w.alloc o).heap[b]? = w.heap[b]? := Below.heap_alloc_x w o b h
where
  Below.heap_alloc_x (w : World) (o : Obj) (k : Nat) (h : k < w.heap.size) : (w.alloc o).heap[k]? = w.heap[k]? := heap_alloc_old w o k h
theorem alloc_new (w : World) (o : Obj) : (w.alloc o).heap[w.heap.size]? = some o := heap_alloc_new w o

/-- A new variable. -/
theorem new_cells (hs : Sim E) {cs : List AV} {us : List Value} (t : TypeId) (hr : RelL E cs us) (h1 : ∀ c ∈ cs, c.one = true) :
    ∃ E', Sim E' ∧ Ext E E' ∧ E'.w = E.w.alloc (.cells us.toArray t) ∧ E'.h = hset E.h E.nx (.cells cs) ∧ Rel E' (.ptr E.nx 0) (.pointer (some ⟨E.w.heap.size, 0, none⟩)) := by
  have hx := Env.add_ext (E := E) (w' := E.w.alloc (.cells us.toArray t)) (o := .cells cs) (blk := E.w.heap.size) (κ0 := 0) hs ⟨rfl, rfl, rfl⟩ (by simp) (fun b hb => alloc_old _ _ b hb) (Nat.le_refl _)
  refine ⟨E.add (E.w.alloc (.cells us.toArray t)) (.cells cs) E.w.heap.size 0, Env.add_sim hs ⟨rfl, rfl, rfl⟩ (by simp) (fun b hb => alloc_old _ _ b hb) (Nat.le_refl _) (by simp) ?_, hx, rfl, rfl, ?_⟩
  · unfold ObjRel
    have : (E.add (E.w.alloc (.cells us.toArray t)) (.cells cs) E.w.heap.size 0).h E.nx = .cells cs := by simp [Env.add, hset]
    rw [this]
    refine ⟨us, t, hr.1, ?_, h1, fun j c u hc hu => hx.rel _ _ (hr.2 j c u hc hu)⟩
    have : (E.add (E.w.alloc (.cells us.toArray t)) (.cells cs) E.w.heap.size 0).ι E.nx = E.w.heap.size := by simp [Env.add]
    rw [this]
    exact alloc_new _ _
  · refine .ptr _ _ _ (by simp [Env.add]) fun cs' _ => ?_
    simp [Env.add]

theorem step_alloc (hs : Sim E) {o : Oper} {t : TypeId} (ho : o.op = .alloc t) {z : AV} (hz : zeroOf P t = some z) (hf : z.flat = true) {K : AV → Hp → Prop} (h : AStep P (.alloc z.cells) K tm E.h) {next : Act → World → Prop} {Q : Exit → Act → World → Prop} (hk : Goes E K a o.dst next) : o.wp P a E.w next Q := by
  obtain ⟨zv, hzr, hzrel⟩ := zeroOf_rel (P := P) E hz E.w
  obtain ⟨hr, h1⟩ := cells_rel hzrel hf
  obtain ⟨E', s', x', hw, hh, hp⟩ := new_cells hs t hr h1
  have hrun : (execOp a.eval o).run P E.w = .ok (.value (.pointer (some ⟨E.w.heap.size, 0, none⟩))) E'.w := by
    rw [hw]; simp [execOp, ho, Instr.alloc, hzr, newVar, newRow]
  refine wp_value hrun (hk _ _ E' s' x' hp ?_)
  rw [hh]
  exact h E.nx (hs.nx _ (Nat.le_refl _))

theorem step_box (hs : Sim E) {o : Oper} {t : TypeId} {x : Operand} (ho : o.op = .box t x) {ax : AX} (hx : cOpd N x = some ax) (ht : TmRel E N tm a) {K : AV → Hp → Prop} (h : AStep P (.box ax) K tm E.h) {next : Act → World → Prop} {Q : Exit → Act → World → Prop} (hk : Goes E K a o.dst next) : o.wp P a E.w next Q := by
  obtain ⟨hf, h⟩ := h
  obtain ⟨hr, h1⟩ := cells_rel (opd hx ht) hf
  obtain ⟨E', s', x', hw, hh, hp⟩ := new_cells hs t hr h1
  have hrun : (execOp a.eval o).run P E.w = .ok (.value (.pointer (some ⟨E.w.heap.size, 0, none⟩))) E'.w := by
    rw [hw]; simp [execOp, ho, Instr.box, newVar, newRow]
  refine wp_value hrun (hk _ _ E' s' x' hp ?_)
  rw [hh]
  exact h E.nx (hs.nx _ (Nat.le_refl _))

/-! ### Rows -/

/-- The cells of elements, laid out. -/
def Laid (E : Env) (sz : Nat) (xs : List (List AV)) (us : List Value) : Prop :=
  ∀ (i : Nat) (x : List AV) (j : Nat) (c : AV), xs[i]? = some x → x[j]? = some c → ∃ u, us[i * sz + j]? = some u ∧ Rel E c u

/-- A new row. -/
theorem new_row (hs : Sim E) {e sz κ0 : Nat} {xs : List (List AV)} {us : List Value} {w1 : World} (hw1 : SameRest E.w w1) (hheap : w1.heap = E.w.heap) (hl : us.length = κ0 * sz) (hxk : xs.length ≤ κ0) (hkm : κ0 ≤ maxLen) (hpos : 0 < sz) (hlen : ∀ x ∈ xs, x.length = sz) (hone : ∀ x ∈ xs, ∀ c ∈ x, c.one = true)
    (huo : ∀ u ∈ us, u.oneCell' = true) (hr : Laid E sz xs us) (len : Nat) (hle : len ≤ xs.length) :
    ∃ E', Sim E' ∧ Ext E E' ∧ E'.w = w1.alloc (.cells us.toArray e) ∧ E'.h = hset E.h E.nx (.arr e sz xs) ∧ Rel E' (.sl E.nx 0 len) (.slice (some ⟨E.w.heap.size, 0, none⟩) len κ0) := by
  have hsame : SameRest E.w (w1.alloc (.cells us.toArray e)) := ⟨hw1.os, hw1.tape, hw1.output⟩
  have hsize : w1.heap.size = E.w.heap.size := by rw [hheap]
  have hold : ∀ b, b < E.w.heap.size → (w1.alloc (.cells us.toArray e)).heap[b]? = E.w.heap[b]? := fun b hb => by rw [alloc_old _ _ b (by omega), hheap]
  have hx := Env.add_ext (E := E) (w' := w1.alloc (.cells us.toArray e)) (o := .arr e sz xs) (blk := E.w.heap.size) (κ0 := κ0) hs hsame (by simp [hsize]) hold (Nat.le_refl _)
  refine ⟨E.add (w1.alloc (.cells us.toArray e)) (.arr e sz xs) E.w.heap.size κ0, Env.add_sim hs hsame (by simp [hsize]) hold (Nat.le_refl _) (by simp [hsize]) ?_, hx, rfl, rfl, ?_⟩
  · unfold ObjRel
    have e1 : (E.add (w1.alloc (.cells us.toArray e)) (.arr e sz xs) E.w.heap.size κ0).h E.nx = .arr e sz xs := by simp [Env.add, hset]
    have e2 : (E.add (w1.alloc (.cells us.toArray e)) (.arr e sz xs) E.w.heap.size κ0).ι E.nx = E.w.heap.size := by simp [Env.add]
    have e3 : (E.add (w1.alloc (.cells us.toArray e)) (.arr e sz xs) E.w.heap.size κ0).κ E.nx = κ0 := by simp [Env.add]
    rw [e1]
    refine ⟨us, ?_, by rw [e3]; exact hl, by rw [e3]; exact hxk, by rw [e3]; exact hkm, hpos, hlen, hone, huo, fun i x j c hx' hj => let ⟨u, hu, hr'⟩ := hr i x j c hx' hj; ⟨u, hu, hx.rel _ _ hr'⟩⟩
    rw [e2, ← hsize]
    exact alloc_new _ _
  · refine .sl _ _ _ _ _ (by simp [Env.add]) fun e' sz' xs' hh => ?_
    have e1 : (E.add (w1.alloc (.cells us.toArray e)) (.arr e sz xs) E.w.heap.size κ0).h E.nx = .arr e sz xs := by simp [Env.add, hset]
    rw [e1] at hh
    cases hh
    refine ⟨by omega, by simp [Env.add], .inr (by simp [Env.add])⟩

/-- 'fill' of a slice's literal. -/
theorem fill_slice (sz n : Nat) : ∀ (parts : List (Nat × Value)) (k : Nat) (cells : Array Value), parts.map (·.1) = (List.range' k parts.length) → (∀ p ∈ parts, p.2.cells.size = sz) → cells.size = n * sz → k + parts.length ≤ n →
    ∃ out, Instr.fill (fun i => some (i * sz, sz)) cells parts = some out ∧ out.size = cells.size ∧ (∀ idx, idx < k * sz → out[idx]? = cells[idx]?) ∧
      (∀ i p, parts[i]? = some p → ∀ j u, p.2.cells[j]? = some u → out[(k + i) * sz + j]? = some u) := by
  intro parts
  induction parts with
  | nil => intro k cells _ _ _ _; exact ⟨cells, rfl, rfl, fun _ _ => rfl, by simp⟩
  | cons p parts ih =>
    intro k cells hm hp hc hk
    obtain ⟨i0, v⟩ := p
    simp only [List.map_cons, List.length_cons, List.range'_succ, List.cons.injEq] at hm
    obtain ⟨rfl, hm⟩ := hm
    simp only [List.length_cons] at hk
    have hv : v.cells.size = sz := hp (i0, v) (by simp)
    have hb : (i0 + 1) * sz ≤ n * sz := Nat.mul_le_mul_right _ (by omega)
    have hb' : i0 * sz + sz ≤ cells.size := by rw [hc]; rw [Nat.add_mul] at hb; omega
    have hfold := fold_set v.cells.toList (i0 * sz) cells (by simp [hv]; omega)
    simp only [Array.toArray_toList] at hfold
    obtain ⟨cells', hcells'⟩ : ∃ c', c' = v.cells.zipIdx.foldl (fun (cs : Array Value) (p : Value × Nat) => cs.setIfInBounds (i0 * sz + p.2) p.1) cells := ⟨_, rfl⟩
    have hl : cells'.toList = cells.toList.take (i0 * sz) ++ v.cells.toList ++ cells.toList.drop (i0 * sz + v.cells.toList.length) := by rw [hcells']; exact hfold
    have hs' : cells'.size = cells.size := by
      have := congrArg List.length hl
      simp at this
      omega
    obtain ⟨out, ho, hos, hol, hon⟩ := ih (i0 + 1) cells' hm (fun q hq => hp q (by simp [hq])) (by omega) (by omega)
    have hget : ∀ idx : Nat, out[idx]? = out.toList[idx]? := fun idx => (Array.getElem?_toList (xs := out)).symm
    have hgc : ∀ idx : Nat, cells'[idx]? = cells'.toList[idx]? := fun idx => (Array.getElem?_toList (xs := cells')).symm
    refine ⟨out, ?_, by omega, fun idx hidx => ?_, fun i q hq j u hu => ?_⟩
    · simp only [Instr.fill]
      rw [if_neg (by simp [hv]; omega), ← hcells']
      exact ho
    · rw [hol idx (by rw [Nat.add_mul]; omega), hgc, hl, List.append_assoc, List.getElem?_append_left (by simp; omega), List.getElem?_take, if_pos hidx]
      simp
    · cases i with
      | zero =>
        simp at hq
        subst hq
        have hj : j < sz := by rw [← hv]; exact (Array.getElem?_eq_some_iff.1 hu).1
        have e1 : (List.take (i0 * sz) cells.toList).length = i0 * sz := by simp; omega
        rw [Nat.add_zero, hol _ (by rw [Nat.add_mul]; omega), hgc, hl, List.append_assoc, List.getElem?_append_right (by omega), e1, Nat.add_sub_cancel_left, List.getElem?_append_left (by rw [Array.length_toList]; omega)]
        simpa using hu
      | succ i =>
        simp at hq
        have := hon i q hq j u hu
        rw [← this]
        congr 2
        rw [show i0 + (i + 1) = i0 + 1 + i from by omega]

theorem step_bsl (hs : Sim E) {o : Oper} {t e0 : TypeId} {len : Nat} {parts : Array (Nat × Operand)} (ho : o.op = .buildSlice t len parts) (hu : P.underlying t = some (.slice e0)) {i : TypeInfo} (hi : P.info? e0 = some i) {z : AV} (hz : i.zero.bind ofConst = some z)
    (hcond : parts.toList.map (·.1) = List.range len ∧ len * i.size ≤ 16777216 ∧ 0 < i.size ∧ z.cells.length = i.size) {ps : List AX} (hps : (parts.toList.mapM fun (p : Nat × Operand) => cOpd N p.2) = some ps) (ht : TmRel E N tm a) {K : AV → Hp → Prop}
    (h : AStep P (.bsl e0 i.size ps) K tm E.h) {next : Act → World → Prop} {Q : Exit → Act → World → Prop} (hk : Goes E K a o.dst next) : o.wp P a E.w next Q := by
  obtain ⟨hp, h⟩ := h
  obtain ⟨hrange, hle, hpos, hzl⟩ := hcond
  obtain ⟨hpl, hpg⟩ := mapM_some _ _ _ hps
  have hlen : parts.toList.length = len := by have := congrArg List.length hrange; simpa using this
  -- the zero
  have hzr : ∃ zv, (zeroValue e0).run P E.w = .ok zv E.w := by
    cases hzi : i.zero with
    | none => simp [hzi] at hz
    | some zv => exact ⟨zv, by simp [zeroValue, typeInfo, hi, hzi]⟩
  obtain ⟨zv, hzr⟩ := hzr
  let vparts : List (Nat × Value) := parts.toList.map fun p => (p.1, a.eval p.2)
  have hvl : vparts.length = len := by simp [vparts, ← hlen]
  have hval : ∀ (j : Nat) (q : Nat × Operand) (ax : AX), parts.toList[j]? = some q → ps[j]? = some ax → RelL E (ax.ev tm).cells (a.eval q.2).cells.toList ∧ (∀ c ∈ (ax.ev tm).cells, c.one = true) ∧ (ax.ev tm).cells.length = i.size := by
    intro j q ax hq hax
    have hc := hpg j q ax hq hax
    obtain ⟨hf, hl⟩ := hp ax (List.mem_of_getElem? hax)
    obtain ⟨hr, h1⟩ := cells_rel (opd hc ht) hf
    exact ⟨hr, h1, hl⟩
  have hvsz : ∀ p ∈ vparts, p.2.cells.size = i.size := by
    intro p hp'
    obtain ⟨j, hj⟩ := List.getElem?_of_mem hp'
    simp only [vparts, List.getElem?_map] at hj
    cases hq : parts.toList[j]? with
    | none => simp [hq] at hj
    | some q =>
      simp [hq] at hj
      subst hj
      have hjl : j < ps.length := by rw [hpl]; exact (List.getElem?_eq_some_iff.1 hq).1
      obtain ⟨hr, h1, hl⟩ := hval j q _ hq (List.getElem?_eq_getElem hjl)
      have := hr.1
      simp at this
      simp; omega
  have hzcells : ∀ (zz : Array Value), ((Array.range (len * i.size)).map (zz[· % zz.size]!)).size = len * i.size := fun zz => by simp
  obtain ⟨zz, hzz⟩ : ∃ zz : Array Value, ((if len * i.size = 0 then pure #[] else do pure (← zeroValue e0).cells : Sem (Array Value)).run P E.w = .ok zz E.w) := by
    by_cases h0 : len * i.size = 0
    · exact ⟨#[], by simp [h0]⟩
    · exact ⟨zv.cells, by simp [h0, hzr]⟩
  obtain ⟨out, hout, hos, _, hon⟩ := fill_slice i.size len vparts 0 ((Array.range (len * i.size)).map (zz[· % zz.size]!)) (by
      simp only [vparts, List.map_map]
      rw [show ((fun x : Nat × Value => x.1) ∘ fun p : Nat × Operand => (p.1, a.eval p.2)) = fun p : Nat × Operand => p.1 from rfl, hrange, List.length_map, hlen, List.range_eq_range']) hvsz (hzcells zz) (by omega)
  have hosz : out.size = len * i.size := by rw [hos]; exact hzcells zz
  have hlaid : Laid E i.size (ps.map fun x => (x.ev tm).cells) out.toList := by
    intro k x j c hx hj
    simp only [List.getElem?_map] at hx
    cases hax : ps[k]? with
    | none => simp [hax] at hx
    | some ax =>
      simp [hax] at hx
      subst hx
      have hkl : k < parts.toList.length := by rw [← hpl]; exact (List.getElem?_eq_some_iff.1 hax).1
      have hq : parts.toList[k]? = some parts.toList[k] := List.getElem?_eq_getElem hkl
      obtain ⟨hr, h1, hl⟩ := hval k _ ax hq hax
      obtain ⟨u, hu', hru⟩ := hr.get hj
      refine ⟨u, ?_, hru⟩
      have := hon k (parts.toList[k].1, a.eval parts.toList[k].2) (by simp only [vparts, List.getElem?_map, hq]; rfl) j u (by simpa using hu')
      simpa using this
  have hmem : ∀ x ∈ ps.map (fun x => (x.ev tm).cells), x.length = i.size ∧ ∀ c ∈ x, c.one = true := by
    intro x hx
    obtain ⟨k, hk'⟩ := List.getElem?_of_mem hx
    simp only [List.getElem?_map] at hk'
    cases hax : ps[k]? with
    | none => simp [hax] at hk'
    | some ax =>
      simp [hax] at hk'
      subst hk'
      have hkl : k < parts.toList.length := by rw [← hpl]; exact (List.getElem?_eq_some_iff.1 hax).1
      obtain ⟨hr, h1, hl⟩ := hval k _ ax (List.getElem?_eq_getElem hkl) hax
      exact ⟨hl, h1⟩
  have huo : ∀ u ∈ out.toList, u.oneCell' = true := by
    intro u hu'
    obtain ⟨idx, hidx⟩ := List.getElem?_of_mem hu'
    have hil : idx < len * i.size := by rw [← hosz]; simpa using (List.getElem?_eq_some_iff.1 hidx).1
    have hd : idx / i.size < len := (Nat.div_lt_iff_lt_mul hpos).2 hil
    have hm : idx % i.size < i.size := Nat.mod_lt _ hpos
    have hpk : idx / i.size < ps.length := by omega
    have hx : (ps.map fun x => (x.ev tm).cells)[idx / i.size]? = some (ps[idx / i.size].ev tm).cells := by simp [List.getElem?_eq_getElem hpk]
    obtain ⟨hl, h1⟩ := hmem _ (List.mem_of_getElem? hx)
    have hj : (ps[idx / i.size].ev tm).cells[idx % i.size]? = some ((ps[idx / i.size].ev tm).cells[idx % i.size]'(by omega)) := List.getElem?_eq_getElem (by omega)
    obtain ⟨u', hu2, hr⟩ := hlaid _ _ _ _ hx hj
    rw [Nat.mul_comm, Nat.div_add_mod, hidx] at hu2
    cases hu2
    rw [hr.one]
    exact h1 _ (List.mem_of_getElem? hj)
  have hlenps : ps.length = len := by omega
  obtain ⟨E', s', x', hw, hh, hpr⟩ := new_row (e := e0) (κ0 := len) hs (w1 := E.w) ⟨rfl, rfl, rfl⟩ rfl (us := out.toList) (by simpa using hosz) (xs := ps.map fun x => (x.ev tm).cells) (by simp [hlenps]) (by
      have : len ≤ len * i.size := Nat.le_mul_of_pos_right _ hpos
      simp only [maxLen]; omega) hpos (fun x hx => (hmem x hx).1) (fun x hx => (hmem x hx).2) huo hlaid ps.length (by simp)
  have hn24 : ¬ (2 ^ 24 < len * i.size) := by omega
  have hrun : (execOp a.eval o).run P E.w = .ok (.value (.slice (some ⟨E.w.heap.size, 0, none⟩) ps.length len)) E'.w := by
    rw [hw]
    have hfill : Instr.fill (fun j => some (j * i.size, i.size)) ((Array.range (len * i.size)).map (zz[· % zz.size]!)) (parts.map fun (p : Nat × Operand) => (p.1, a.eval p.2)).toList = some out := by
      rw [Array.toList_map]; exact hout
    simp only [execOp, ho, Instr.buildSlice, Sem.run_bind, run_underlying hu, Result.andThen_ok, info_of hi, gt_iff_lt, if_neg hn24]
    have hzz' := hzz
    by_cases h0 : len * i.size = 0
    · simp only [h0, if_true, Sem.run_pure] at hzz'
      simp only [if_pos h0, Sem.run_pure, Result.andThen_ok, Sem.run_bind]
      cases hzz'
      rw [hfill]
      simp [newRow, hlenps]
    · simp only [if_neg h0, Sem.run_bind] at hzz'
      simp only [if_neg h0, Sem.run_pure, Result.andThen_ok, Sem.run_bind]
      rw [hzr] at hzz' ⊢
      simp at hzz'
      subst hzz'
      simp only [Result.andThen_ok, Sem.run_pure]
      rw [hfill]
      simp [newRow, hlenps]
  refine wp_value hrun (hk _ _ E' s' x' hpr ?_)
  rw [hh]
  exact h E.nx (hs.nx _ (Nat.le_refl _))

end Go.AM

/- AM, 12: stores, appends, makes, maps written, calls. -/
namespace Go.AM
variable {P : Program} {N : Nat} {E : Env} {tm : Tm} {a : Act}

theorem run_storeVar_row' {w : World} {t : TypeId} {i : TypeInfo} (hi : P.info? t = some i) {g off : Nat} {us : List Value} {e : TypeId} (hg : w.heap[g]? = some (.cells us.toArray e (0, 0))) {v : Value} (hv : v.cells.size = i.size) (hle : off + v.cells.size ≤ us.length) (h1 : ∀ u ∈ v.cells.toList, u.oneCell' = true) :
    (storeVar t ⟨g, off, none⟩ v).run P w = .ok () (w.setRow g (us.take off ++ v.cells.toList ++ us.drop (off + v.cells.size)).toArray) := by
  have := run_storeCells_at P g off e v.cells.toList 0 us.toArray w hg (by simpa using hle) h1
  simp only [Nat.add_zero, Array.length_toList] at this
  simp [storeVar, info_of hi, hv]
  simpa [hv] using this

theorem RelL.ones {cs : List AV} {us : List Value} (h : RelL E cs us) (h1 : ∀ c ∈ cs, c.one = true) : ∀ u ∈ us, u.oneCell' = true := by
  intro u hu
  obtain ⟨j, hj⟩ := List.getElem?_of_mem hu
  have hjl : j < cs.length := by rw [← h.1]; exact (List.getElem?_eq_some_iff.1 hj).1
  have := h.2 j cs[j] u (List.getElem?_eq_getElem hjl) hj
  rw [this.one]
  exact h1 _ (List.getElem_mem hjl)

theorem step_st (hs : Sim E) {o : Oper} {t : TypeId} {x y : Operand} (ho : o.op = .store t x y) {i : TypeInfo} (hi : P.info? t = some i) {ax ay : AX} (hx : cOpd N x = some ax) (hy : cOpd N y = some ay) (ht : TmRel E N tm a) {K : AV → Hp → Prop}
    (h : AStep P (.st i.size ax ay) K tm E.h) {next : Act → World → Prop} {Q : Exit → Act → World → Prop} (hk : Goes E K a o.dst next) : o.wp P a E.w next Q := by
  obtain ⟨hf, hl, h⟩ := h
  obtain ⟨hvr, hv1⟩ := cells_rel (opd hy ht) hf
  have hvx := opd hx ht
  have hsz : (a.eval y).cells.size = i.size := by have := hvr.1; simp at this; omega
  have huo := hvr.ones hv1
  split at h
  · rename_i id off hev
    rw [hev] at hvx
    split at h
    · rename_i cs hh
      obtain ⟨hle, h⟩ := h
      have ob := hs.obj id
      unfold ObjRel at ob
      rw [hh] at ob
      obtain ⟨us, e, h1, h2, h3, h4⟩ := ob
      obtain ⟨us', e1, _⟩ := ptr_cells hs hvx hh
      have hd : E.h id ≠ .dead := by rw [hh]; simp
      let us2 := us.take off ++ (a.eval y).cells.toList ++ us.drop (off + (a.eval y).cells.size)
      have hrun := run_storeVar_row' (P := P) hi h2 (off := off) hsz (by omega) huo
      have hst : Shape (E.h id) (.cells (splice cs off (ay.ev tm).cells)) := by rw [hh]; exact ⟨fun _ _ => ⟨_, rfl⟩, (fun _ _ _ h => by cases h), (fun _ h => by cases h)⟩
      have hx' := Env.turn_ext hs hd hst (w' := E.w.setRow (E.ι id) us2.toArray) ⟨rfl, rfl, rfl⟩ (by simp) (fun b hb => setRow_other _ _ _ _ hb)
      have hrel : RelL E (splice cs off (ay.ev tm).cells) us2 := by
        have := splice_rel (E := E) ⟨h1, h4⟩ hvr off
        simp only [Array.length_toList] at this
        exact this
      have hs' := Env.turn_sim hs hd hst (w' := E.w.setRow (E.ι id) us2.toArray) ⟨rfl, rfl, rfl⟩ (by simp) (fun b hb => setRow_other _ _ _ _ hb) (by
        unfold ObjRel
        have : (E.turn (E.w.setRow (E.ι id) us2.toArray) id (.cells (splice cs off (ay.ev tm).cells))).h id = .cells (splice cs off (ay.ev tm).cells) := by simp [Env.turn, hset]
        rw [this]
        exact ⟨us2, e, hrel.1, setRow_heap _ _ _ _ _ _ h2, splice_ones h3 hv1 off, fun j c u hc hu => hx'.rel _ _ (hrel.2 j c u hc hu)⟩)
      refine wp_skipped (w' := E.w.setRow (E.ι id) us2.toArray) ?_ (hk _ _ _ hs' hx' (Rel.undef _) (by simpa [Env.turn] using h))
      simp only [execOp, ho, Instr.storeAt, Sem.run_bind, e1, Instr.sureAddr, Sem.run_pure, Result.andThen_ok, hrun]
      rfl
    · exact h.elim
  · rename_i id k off hev
    rw [hev] at hvx
    split at h
    · rename_i e sz xs hh
      split at h
      · rename_i row hrow
        obtain ⟨hle, h⟩ := h
        obtain ⟨us, hb, hul, hxk, hkm, hpos, hlen, hone, huo', hru⟩ := arr_row hs hh
        obtain ⟨us', e1, hrr, hrs, hr1, hrc⟩ := pe_cells hs hvx hh hrow
        have hd : E.h id ≠ .dead := by rw [hh]; simp
        have hkl : k < xs.length := (List.getElem?_eq_some_iff.1 hrow).1
        have hbd : (k + 1) * sz ≤ us.length := by rw [hul]; exact Nat.mul_le_mul_right _ (by omega)
        rw [Nat.add_mul] at hbd
        let us2 := us.take (k * sz + off) ++ (a.eval y).cells.toList ++ us.drop (k * sz + off + (a.eval y).cells.size)
        have hrun := run_storeVar_row' (P := P) hi hb (off := k * sz + off) hsz (by omega) huo
        have hst : Shape (E.h id) (.arr e sz (xs.set k (splice row off (ay.ev tm).cells))) := by
          rw [hh]; exact ⟨(fun _ h => by cases h), fun _ _ _ h => by cases h; exact ⟨xs, rfl, by simp⟩, (fun _ h => by cases h)⟩
        have hx' := Env.turn_ext hs hd hst (w' := E.w.setRow (E.ι id) us2.toArray) ⟨rfl, rfl, rfl⟩ (by simp) (fun b hb => setRow_other _ _ _ _ hb)
        have hul2 : us2.length = us.length := by simp [us2]; omega
        have hvl : (ay.ev tm).cells.length = (a.eval y).cells.size := by omega
        have hs' := Env.turn_sim hs hd hst (w' := E.w.setRow (E.ι id) us2.toArray) ⟨rfl, rfl, rfl⟩ (by simp) (fun b hb => setRow_other _ _ _ _ hb) (by
          unfold ObjRel
          have : (E.turn (E.w.setRow (E.ι id) us2.toArray) id (.arr e sz (xs.set k (splice row off (ay.ev tm).cells)))).h id = .arr e sz (xs.set k (splice row off (ay.ev tm).cells)) := by simp [Env.turn, hset]
          rw [this]
          have hspl : (splice row off (ay.ev tm).cells).length = sz := by rw [splice_length (by omega), hrs]
          refine ⟨us2, setRow_heap _ _ _ _ _ _ hb, by show us2.length = E.κ id * sz; omega, by show (xs.set k _).length ≤ E.κ id; simpa using hxk, hkm, hpos, fun x hx => ?_, fun x hx => ?_, fun u hu => ?_, fun i' x j c hx hj => ?_⟩
          · rcases List.mem_or_eq_of_mem_set hx with h | h
            · exact hlen x h
            · rw [h]; exact hspl
          · rcases List.mem_or_eq_of_mem_set hx with h | h
            · exact hone x h
            · rw [h]; exact splice_ones hr1 hv1 off
          · rcases List.mem_append.1 hu with hu | hu
            · rcases List.mem_append.1 hu with hu | hu
              · exact huo' u (List.mem_of_mem_take hu)
              · exact huo u hu
            · exact huo' u (List.mem_of_mem_drop hu)
          · have e0 : (us.take (k * sz + off)).length = k * sz + off := by simp; omega
            rw [List.getElem?_set] at hx
            split at hx
            · rename_i hki
              subst hki
              · simp at hx
                subst hx
                have hjl : j < sz := by rw [← hspl]; exact (List.getElem?_eq_some_iff.1 hj).1
                unfold splice at hj
                simp only [List.append_assoc] at hj
                have t1 : (List.take off row).length = off := by simp; omega
                by_cases hj1 : j < off
                · rw [List.getElem?_append_left (by omega), List.getElem?_take, if_pos hj1] at hj
                  obtain ⟨u, hu, hr⟩ := hru k row j c hrow hj
                  refine ⟨u, ?_, hx'.rel _ _ hr⟩
                  simp only [us2, List.append_assoc]
                  rw [List.getElem?_append_left (by omega), List.getElem?_take, if_pos (by omega)]
                  exact hu
                · rw [List.getElem?_append_right (by omega), t1] at hj
                  by_cases hj2 : j - off < (ay.ev tm).cells.length
                  · rw [List.getElem?_append_left hj2] at hj
                    obtain ⟨u, hu, hr⟩ := hvr.get hj
                    refine ⟨u, ?_, hx'.rel _ _ hr⟩
                    simp only [us2, List.append_assoc]
                    rw [List.getElem?_append_right (by omega), e0, List.getElem?_append_left (by rw [Array.length_toList]; omega), ← hu]
                    congr 1
                    omega
                  · rw [List.getElem?_append_right (by omega), List.getElem?_drop] at hj
                    have ej : off + (ay.ev tm).cells.length + (j - off - (ay.ev tm).cells.length) = j := by omega
                    rw [ej] at hj
                    obtain ⟨u, hu, hr⟩ := hru k row j c hrow hj
                    refine ⟨u, ?_, hx'.rel _ _ hr⟩
                    simp only [us2, List.append_assoc]
                    rw [List.getElem?_append_right (by omega), e0, List.getElem?_append_right (by rw [Array.length_toList]; omega), Array.length_toList, List.getElem?_drop, ← hu]
                    congr 1
                    omega
            · rename_i hki
              have hil : i' < xs.length := (List.getElem?_eq_some_iff.1 hx).1
              have hjl : j < sz := by rw [← hlen x (List.mem_of_getElem? hx)]; exact (List.getElem?_eq_some_iff.1 hj).1
              obtain ⟨u, hu, hr⟩ := hru i' x j c hx hj
              refine ⟨u, ?_, hx'.rel _ _ hr⟩
              simp only [us2, List.append_assoc]
              rcases Nat.lt_or_gt_of_ne hki with hlt | hgt
              · -- behind
                have : (k + 1) * sz ≤ i' * sz := Nat.mul_le_mul_right _ (by omega)
                rw [Nat.add_mul] at this
                rw [List.getElem?_append_right (by omega), e0, List.getElem?_append_right (by rw [Array.length_toList]; omega), Array.length_toList, List.getElem?_drop, ← hu]
                congr 1
                omega
              · have : (i' + 1) * sz ≤ k * sz := Nat.mul_le_mul_right _ (by omega)
                rw [Nat.add_mul] at this
                rw [List.getElem?_append_left (by omega), List.getElem?_take, if_pos (by omega)]
                exact hu)
        refine wp_skipped (w' := E.w.setRow (E.ι id) us2.toArray) ?_ (hk _ _ _ hs' hx' (Rel.undef _) (by simpa [Env.turn] using h))
        simp only [execOp, ho, Instr.storeAt, Sem.run_bind, e1, Instr.sureAddr, Sem.run_pure, Result.andThen_ok, hrun]
        rfl
      · exact h.elim
    · exact h.elim
  · exact h.elim

/-! ### Appends -/

theorem run_append_row {w : World} {t ty e : TypeId} {i : TypeInfo} (ht : P.underlying t = some (.slice e)) (hi : P.info? e = some i) {g sLen sCap : Nat} {us : List Value} (hg : w.heap[g]? = some (.cells us.toArray e (0, 0))) {x : Value} {n : Nat} {news : List Value} (hs : Src P i.size t x n news w)
    (hroom : sLen + n ≤ sCap) (hle : sLen * i.size + news.length ≤ us.length) :
    (Builtin.append_ #[t, t] ty #[.slice (some ⟨g, 0, none⟩) sLen sCap, x]).run P w = .ok (.slice (some ⟨g, 0, none⟩) (sLen + n) sCap) (w.setRow g (us.take (sLen * i.size) ++ news ++ us.drop (sLen * i.size + news.length)).toArray) := by
  have hst := run_storeCells_at P g (sLen * i.size) e news 0 us.toArray w hg (by simpa using hle) hs.one
  simp only [Nat.add_zero] at hst
  simp [Builtin.append_, run_underlying ht, sizeOf, typeInfo, hi, hs.len, hroom, hs.cells, Addr.add_lit, hst]

/-- What is appended, as the model reads it. -/
theorem src_of (hs : Sim E) {t e0 : TypeId} (hu : P.underlying t = some (.slice e0)) {x : AV} {v : Value} {sz : Nat} (hpos : 0 < sz) {ys : List (List AV)} (h : elemsOf E.h sz x = some ys) (hr : Rel E x v) :
    ∃ us : List Value, Src P sz t v ys.length us E.w ∧ us.length = ys.length * sz ∧ (∀ y ∈ ys, y.length = sz) ∧ (∀ y ∈ ys, ∀ c ∈ y, c.one = true) ∧ Laid E sz ys us ∧ (∀ u ∈ us, u.oneCell' = true) := by
  obtain ⟨b, cap, us, e1, hul, hy1, hy2, hcell, hbase⟩ := elems_cells hs h hr
  have huo : ∀ u ∈ us, u.oneCell' = true := by
    intro u hu'
    obtain ⟨idx, hidx⟩ := List.getElem?_of_mem hu'
    have hil : idx < ys.length * sz := by rw [← hul]; exact (List.getElem?_eq_some_iff.1 hidx).1
    have hd : idx / sz < ys.length := (Nat.div_lt_iff_lt_mul hpos).2 hil
    have hm : idx % sz < sz := Nat.mod_lt _ hpos
    have hyl := hy1 _ (List.getElem_mem hd)
    obtain ⟨u', hu2, hr'⟩ := hcell (idx / sz) _ (idx % sz) _ (List.getElem?_eq_getElem hd) (List.getElem?_eq_getElem (by omega))
    rw [Nat.mul_comm, Nat.div_add_mod, hidx] at hu2
    cases hu2
    rw [hr'.one]
    exact hy2 _ (List.getElem_mem hd) _ (List.getElem_mem _)
  refine ⟨us, ?_, hul, hy1, hy2, hcell, huo⟩
  subst e1
  by_cases hne : us = []
  · subst hne
    have hy0 : ys = [] := by
      have h0 : ys.length * sz = 0 := by simpa using hul.symm
      rcases Nat.mul_eq_zero.1 h0 with h | h
      · exact List.eq_nil_of_length_eq_zero h
      · omega
    subst hy0
    cases b with
    | none => exact Src.ofNil E.w hu cap
    | some ad => exact Src.ofSlice E.w hu ad 0 cap [] (by simp) (by simp) (by simp)
  · obtain ⟨g, o, hb, hc⟩ := hbase hne
    subst hb
    exact Src.ofSlice E.w hu ⟨g, o, none⟩ ys.length cap us hul (fun j u hj => by rw [Addr.add_mid]; exact hc j u hj) huo

theorem zeroCells_one {z : Value} {zz : AV} (hz : Rel E zz z) (hf : zz.flat = true) (n : Nat) : ∀ u ∈ (Builtin.zeroCells z.cells n).toList, u.oneCell' = true := by
  intro u hu
  obtain ⟨hr, h1⟩ := cells_rel hz hf
  have ho := hr.ones h1
  simp only [Builtin.zeroCells, Array.toList_map, List.mem_map] at hu
  obtain ⟨i, hi, rfl⟩ := hu
  by_cases h0 : z.cells.size = 0
  · simp [h0] at hi
  · have hlt : i % z.cells.size < z.cells.size := Nat.mod_lt _ (by omega)
    rw [getElem!_pos z.cells _ hlt]
    exact ho _ (by simp)

theorem zeroCells_size (z : Array Value) (n : Nat) : (Builtin.zeroCells z n).size = n * z.size := by simp [Builtin.zeroCells]

theorem Laid.append {sz : Nat} {xs ys : List (List AV)} {us vs : List Value} (h : Laid E sz xs us) (k : Laid E sz ys vs) (hl : us.length = xs.length * sz) (hxs : ∀ x ∈ xs, x.length = sz) : Laid E sz (xs ++ ys) (us ++ vs) := by
  intro i x j c hx hj
  by_cases hi : i < xs.length
  · rw [List.getElem?_append_left hi] at hx
    obtain ⟨u, hu, hr⟩ := h i x j c hx hj
    exact ⟨u, by rw [List.getElem?_append_left ((List.getElem?_eq_some_iff.1 hu).1)]; exact hu, hr⟩
  · rw [List.getElem?_append_right (by omega)] at hx
    obtain ⟨u, hu, hr⟩ := k _ x j c hx hj
    refine ⟨u, ?_, hr⟩
    have : xs.length * sz ≤ i * sz := Nat.mul_le_mul_right _ (by omega)
    rw [List.getElem?_append_right (by omega), ← hu]
    congr 1
    rw [hl, Nat.sub_mul]
    omega

theorem Laid.ext {sz : Nat} {xs : List (List AV)} {us vs : List Value} (h : Laid E sz xs us) : Laid E sz xs (us ++ vs) := by
  intro i x j c hx hj
  obtain ⟨u, hu, hr⟩ := h i x j c hx hj
  exact ⟨u, by rw [List.getElem?_append_left ((List.getElem?_eq_some_iff.1 hu).1)]; exact hu, hr⟩

theorem Laid.takes {sz n : Nat} {xs : List (List AV)} {us : List Value} (h : Laid E sz xs us) (hxs : ∀ x ∈ xs, x.length = sz) : Laid E sz (xs.take n) (us.take (n * sz)) := by
  intro i x j c hx hj
  rw [List.getElem?_take] at hx
  split at hx
  · rename_i hi
    obtain ⟨u, hu, hr⟩ := h i x j c hx hj
    have hjl : j < sz := by rw [← hxs x (List.mem_of_getElem? hx)]; exact (List.getElem?_eq_some_iff.1 hj).1
    have : (i + 1) * sz ≤ n * sz := Nat.mul_le_mul_right _ (by omega)
    rw [Nat.add_mul] at this
    exact ⟨u, by rw [List.getElem?_take, if_pos (by omega)]; exact hu, hr⟩
  · cases hx

theorem Laid.mono {E' : Env} {sz : Nat} {xs : List (List AV)} {us : List Value} (h : Laid E sz xs us) (hx : Ext E E') : Laid E' sz xs us := fun i x j c h1 h2 => let ⟨u, hu, hr⟩ := h i x j c h1 h2; ⟨u, hu, hx.rel _ _ hr⟩

/-- An append that makes a new row. -/
theorem app_grow (hs : Sim E) {o : Oper} {t e0 : TypeId} {s x : Operand} (ho : o.op = .call { callee := .builtin .append, args := #[s, x], argTypes := #[t, t] }) (hu : P.underlying t = some (.slice e0)) {i : TypeInfo} (hi : P.info? e0 = some i) {z : AV} (hz : i.zero.bind ofConst = some z) (hzf : z.flat = true) (hzl : z.cells.length = i.size) (hpos : 0 < i.size) (hby : 0 < i.bytes)
    {b : Option Addr} {n cap : Nat} (hsv : a.eval s = .slice b n cap) {olds : List Value} {xs : List (List AV)} (hxl : xs.length = n) (hol : olds.length = n * i.size) (hold : (Builtin.firstCells i.size n (.slice b n cap)).run P E.w.drew = .ok olds.toArray E.w.drew) (hxs : ∀ x ∈ xs, x.length = i.size) (hx1 : ∀ x ∈ xs, ∀ c ∈ x, c.one = true) (ho1 : ∀ u ∈ olds, u.oneCell' = true) (hlo : Laid E i.size xs olds)
    {ys : List (List AV)} {news : List Value} (hsrc : Src P i.size t (a.eval x) ys.length news E.w) (hnl : news.length = ys.length * i.size) (hys : ∀ y ∈ ys, y.length = i.size) (hy1 : ∀ y ∈ ys, ∀ c ∈ y, c.one = true) (hln : Laid E i.size ys news) (hno : ∀ u ∈ news, u.oneCell' = true)
    (hg : cap < n + ys.length) (hmax : n + ys.length ≤ 4611686018427387904) (hbytes : (n + ys.length) * i.bytes ≤ 140737488355328) :
    ∃ E' v, Sim E' ∧ Ext E E' ∧ (execOp a.eval o).run P E.w = .ok (.value v) E'.w ∧ E'.h = hset E.h E.nx (.arr e0 i.size (xs ++ ys)) ∧ Rel E' (.sl E.nx 0 (n + ys.length)) v := by
  obtain ⟨zv, hzi, hzr⟩ : ∃ zv, i.zero = some zv ∧ Rel E z zv := by
    cases hzi : i.zero with
    | none => simp [hzi] at hz
    | some zv => simp [hzi] at hz; exact ⟨zv, rfl, ofConst_rel E hz⟩
  have hzs : zv.cells.size = i.size := by have := (cells_rel hzr hzf).1.1; simp at this; omega
  have hrun := run_append_grow_src (P := P) E.w t t o.type e0 i zv hu hi hzi b n cap olds hold (a.eval x) ys.length news hsrc hg (by omega) (growslice_fits hg hbytes)
  have hge := grownCap_ge E.w (n + ys.length) cap e0
  have hcm : grownCap E.w (n + ys.length) cap e0 ≤ maxLen := grownCap_le_maxLen E.w (n + ys.length) cap e0 (by simp only [maxLen]; omega)
  obtain ⟨E', s', x', hw, hh, hpr⟩ := new_row (e := e0) (κ0 := grownCap E.w (n + ys.length) cap e0) hs (w1 := E.w.drew) ⟨rfl, rfl, rfl⟩ rfl (us := (olds ++ news) ++ (Builtin.zeroCells zv.cells (grownCap E.w (n + ys.length) cap e0 - (n + ys.length))).toList)
    (by
      simp only [List.length_append, Array.length_toList, zeroCells_size, hzs, hol, hnl, ← Nat.add_mul]
      congr 1
      omega) (xs := xs ++ ys) (by simp [hxl]; exact hge) hcm hpos (fun y hy => by
        rcases List.mem_append.1 hy with h | h
        · exact hxs y h
        · exact hys y h) (fun y hy => by
        rcases List.mem_append.1 hy with h | h
        · exact hx1 y h
        · exact hy1 y h) (fun u hu' => by
        rcases List.mem_append.1 hu' with h | h
        · rcases List.mem_append.1 h with h | h
          · exact ho1 u h
          · exact hno u h
        · exact zeroCells_one hzr hzf _ u h) ((hlo.append hln (by rw [hol, hxl]) hxs).ext) (n + ys.length) (by simp [hxl])
  refine ⟨E', _, s', x', ?_, hh, hpr⟩
  rw [hw]
  simp only [execOp, ho, resolve, invoke, builtin, Sem.run_bind, Sem.run_pure, Result.andThen_ok, List.map_toArray, List.map_cons, List.map_nil, hsv, hrun]
  congr 2
  simp

/-- Two steps of an environment in one: an object let go, another one made in its block, or in a new one. -/
theorem renew_ext (hs : Sim E) {id : Nat} (hd : E.h id ≠ .dead) {w' : World} {o : AObj} {κ0 : Nat} (hr : SameRest E.w w') (hsize : w'.heap.size = E.w.heap.size) (hold : ∀ b, b ≠ E.ι id → w'.heap[b]? = E.w.heap[b]?) :
    Ext E { h := hset (hset E.h id .dead) E.nx o, ι := fun i => if i = E.nx then E.ι id else E.ι i, κ := fun i => if i = E.nx then κ0 else E.κ i, w := w', nx := E.nx + 1 } := by
  have hidn : id < E.nx := hs.id_lt hd
  refine Ext.of (Nat.le_succ _) (fun i hi hdi => ?_) hr (Nat.le_of_eq hsize.symm) (fun b hb hl => hold b (fun e => hl ⟨id, hd, e.symm⟩)) (fun b hb hl => ?_)
  · have hne : i ≠ E.nx := by omega
    simp only [hset, if_neg hne] at hdi ⊢
    by_cases hi2 : i = id
    · simp [hi2] at hdi
    · simp only [if_neg hi2]; exact ⟨Shape.refl _, trivial, trivial⟩
  · obtain ⟨i, h1, h2⟩ := hl
    by_cases hne : i = E.nx
    · simp [hne] at h2; exact ⟨id, hd, h2⟩
    · simp only [hset, if_neg hne] at h1 h2
      by_cases hi2 : i = id
      · simp [hi2] at h1
      · simp only [if_neg hi2] at h1; exact ⟨i, h1, h2⟩

theorem renew_sim (hs : Sim E) {id : Nat} (hd : E.h id ≠ .dead) {w' : World} {o : AObj} {κ0 : Nat} (hr : SameRest E.w w') (hsize : w'.heap.size = E.w.heap.size) (hold : ∀ b, b ≠ E.ι id → w'.heap[b]? = E.w.heap[b]?)
    (ho : ObjRel { h := hset (hset E.h id .dead) E.nx o, ι := fun i => if i = E.nx then E.ι id else E.ι i, κ := fun i => if i = E.nx then κ0 else E.κ i, w := w', nx := E.nx + 1 } E.nx) :
    Sim { h := hset (hset E.h id .dead) E.nx o, ι := fun i => if i = E.nx then E.ι id else E.ι i, κ := fun i => if i = E.nx then κ0 else E.κ i, w := w', nx := E.nx + 1 } := by
  have hx := renew_ext (o := o) (κ0 := κ0) hs hd hr hsize hold
  have hidn : id < E.nx := hs.id_lt hd
  have hold' : ∀ i, i ≠ E.nx → hset (hset E.h id .dead) E.nx o i ≠ .dead → E.h i ≠ .dead ∧ i ≠ id := fun i hne hi => by
    simp only [hset, if_neg hne] at hi
    by_cases hi2 : i = id
    · simp [hi2] at hi
    · simp only [if_neg hi2] at hi; exact ⟨hi, hi2⟩
  refine ⟨fun i => ?_, fun i hi => ?_, fun i j hi hj he => ?_, fun i hi => ?_⟩
  · by_cases hne : i = E.nx
    · rw [hne]; exact ho
    · by_cases hi2 : i = id
      · subst hi2
        unfold ObjRel
        have : hset (hset E.h i .dead) E.nx o i = .dead := by simp [hset, hne]
        simp only [this]
      · refine (hs.obj i).keep (by simp [hset, hne, hi2]) (by simp [hne]) (by simp [hne]) (fun hdi => hold _ (fun e => hi2 (hs.inj i id hdi hd e))) hx.rel
  · have h1 : E.nx + 1 ≤ i := hi
    have hne : i ≠ E.nx := by omega
    have hne2 : i ≠ id := by omega
    simp only [hset, if_neg hne, if_neg hne2]
    exact hs.nx i (by omega)
  · by_cases h1 : i = E.nx
    · by_cases h2 : j = E.nx
      · omega
      · obtain ⟨k1, k2⟩ := hold' j h2 hj
        simp [h1, h2] at he
        exact absurd (hs.inj id j hd k1 he).symm k2
    · obtain ⟨k1, k2⟩ := hold' i h1 hi
      by_cases h2 : j = E.nx
      · simp [h1, h2] at he
        exact absurd (hs.inj i id k1 hd he) k2
      · obtain ⟨k3, k4⟩ := hold' j h2 hj
        simp [h1, h2] at he
        exact hs.inj i j k1 k3 he
  · by_cases h1 : i = E.nx
    · simp [h1, hsize]; exact hs.lt id hd
    · obtain ⟨k1, k2⟩ := hold' i h1 hi
      simp [h1, hsize]
      exact hs.lt i k1

end Go.AM

/- AM, 13: appends, makes, maps written, conversions that make memory, calls. -/
namespace Go.AM
variable {P : Program} {N : Nat} {E : Env} {tm : Tm} {a : Act}

theorem firstCells_empty {w : World} (size : Nat) (b : Option Addr) (cap : Nat) : (Builtin.firstCells size 0 (.slice b 0 cap)).run P w = .ok #[] w := by
  cases b <;> simp [Builtin.firstCells, loadCells, loadCellsFrom]

theorem step_app (hs : Sim E) {o : Oper} {t e0 : TypeId} {s x : Operand} (ho : o.op = .call { callee := .builtin .append, args := #[s, x], argTypes := #[t, t] }) (hu : P.underlying t = some (.slice e0)) {i : TypeInfo} (hi : P.info? e0 = some i) {z : AV} (hz : i.zero.bind ofConst = some z) (hzf : z.flat = true) (hzl : z.cells.length = i.size) (hpos : 0 < i.size) (hby : 0 < i.bytes)
    {as ax : AX} (has : cOpd N s = some as) (hax : cOpd N x = some ax) (ht : TmRel E N tm a) {K : AV → Hp → Prop} (h : AStep P (.app e0 i.size i.bytes as ax) K tm E.h) {next : Act → World → Prop} {Q : Exit → Act → World → Prop} (hk : Goes E K a o.dst next) : o.wp P a E.w next Q := by
  have hvs := opd has ht
  have hvx := opd hax ht
  simp only [AStep] at h
  split at h
  · exact h.elim
  · rename_i ys hys
    obtain ⟨news, hsrc, hnl, hyl, hy1, hln, hno⟩ := src_of hs hu hpos hys hvx
    split at h
    · rename_i hev
      rw [hev] at hvs
      obtain ⟨b, e1⟩ := hvs.nl_inv
      split at h
      · -- nothing to nothing
        have hn0 : news = [] := List.eq_nil_of_length_eq_zero (by simpa using hnl)
        subst hn0
        have hrun : (execOp a.eval o).run P E.w = .ok (.value (.slice b 0 0)) E.w := by
          have : (Builtin.append_ #[t, t] o.type #[.slice b 0 0, a.eval x]).run P E.w = .ok (.slice b 0 0) E.w := by
            have hlen := hsrc.len
            have hcl := hsrc.cells
            simp only [List.length_nil] at hlen hcl
            cases b <;> simp [Builtin.append_, run_underlying hu, sizeOf, typeInfo, hi, hlen, hcl, storeCells]
          simp only [execOp, ho, resolve, invoke, builtin, Sem.run_bind, Sem.run_pure, Result.andThen_ok, List.map_toArray, List.map_cons, List.map_nil, e1, this]
        exact wp_value hrun (hk _ _ E hs (Ext.refl E) (.nl _) h)
      · rename_i y ys'
        obtain ⟨hmax, hbytes, h⟩ := h
        obtain ⟨E', v, s', x', hrun, hh, hpr⟩ := app_grow hs ho hu hi hz hzf hzl hpos hby (n := 0) (cap := 0) e1 (olds := []) (xs := []) rfl (by simp) (firstCells_empty _ _ _) (by simp) (by simp) (by simp) (by intro i x j c hx; simp at hx) hsrc hnl hyl hy1 hln hno (by simp) (by simpa using hmax) (by simpa using hbytes)
        refine wp_value hrun (hk _ _ E' s' x' hpr ?_)
        rw [hh]
        have := h E.nx (hs.nx _ (Nat.le_refl _))
        simpa using this
    · rename_i id off len hev
      rw [hev] at hvs
      obtain ⟨hoff, h⟩ := h
      subst hoff
      split at h
      · rename_i e' sz' xs hh
        obtain ⟨rfl, rfl, hle, hmax, hbytes, h⟩ := h
        obtain ⟨b, cap, e1, hn, hp⟩ := hvs.sl_inv
        obtain ⟨h1, h2, h3⟩ := hp _ _ xs hh
        have hb : b = some ⟨E.ι id, 0, none⟩ := by
          rcases h3 with ⟨h4, _⟩ | h4
          · exact absurd rfl h4
          · simpa using h4
        subst hb
        have hcap : cap = E.κ id := by omega
        have hd : E.h id ≠ .dead := by rw [hh]; simp
        have hidn : id < E.nx := hs.id_lt hd
        obtain ⟨us, hblk, hul, hxk, hkm, hpos', hlen, hone, huo, hru⟩ := arr_row hs hh
        have hlaid : Laid E i.size xs us := hru
        have hbd : len * i.size ≤ us.length := by rw [hul]; exact Nat.mul_le_mul_right _ (by omega)
        have hxl : (xs.take len).length = len := by simp; omega
        by_cases hroom : len + ys.length ≤ cap
        · -- there is room
          have hfit : len * i.size + news.length ≤ us.length := by rw [hnl, hul, ← Nat.add_mul]; exact Nat.mul_le_mul_right _ (by omega)
          have hrunA := run_append_row (P := P) (ty := o.type) hu hi hblk hsrc hroom hfit
          let us2 := us.take (len * i.size) ++ news ++ us.drop (len * i.size + news.length)
          have hx' := renew_ext (o := .arr e' i.size (xs.take len ++ ys)) (κ0 := E.κ id) hs hd (w' := E.w.setRow (E.ι id) us2.toArray) ⟨rfl, rfl, rfl⟩ (by simp) (fun b hb => setRow_other _ _ _ _ hb)
          have hul2 : us2.length = us.length := by simp [us2]; omega
          have hs' := renew_sim (o := .arr e' i.size (xs.take len ++ ys)) (κ0 := E.κ id) hs hd (w' := E.w.setRow (E.ι id) us2.toArray) ⟨rfl, rfl, rfl⟩ (by simp) (fun b hb => setRow_other _ _ _ _ hb) (by
            unfold ObjRel
            have e0 : hset (hset E.h id .dead) E.nx (.arr e' i.size (xs.take len ++ ys)) E.nx = .arr e' i.size (xs.take len ++ ys) := by simp [hset]
            simp only [e0, if_true]
            refine ⟨us2, setRow_heap _ _ _ _ _ _ hblk, by omega, by simp; omega, hkm, hpos, fun y hy => ?_, fun y hy => ?_, fun u hu' => ?_, ?_⟩
            · rcases List.mem_append.1 hy with h | h
              · exact hlen y (List.mem_of_mem_take h)
              · exact hyl y h
            · rcases List.mem_append.1 hy with h | h
              · exact hone y (List.mem_of_mem_take h)
              · exact hy1 y h
            · rcases List.mem_append.1 hu' with h | h
              · rcases List.mem_append.1 h with h | h
                · exact huo u (List.mem_of_mem_take h)
                · exact hno u h
              · exact huo u (List.mem_of_mem_drop h)
            · have := ((hlaid.takes (n := len) hlen).append hln (by rw [List.length_take, hxl]; omega) (fun y hy => hlen y (List.mem_of_mem_take hy))).ext (vs := us.drop (len * i.size + news.length))
              exact this.mono hx')
          have hrun : (execOp a.eval o).run P E.w = .ok (.value (.slice (some ⟨E.ι id, 0, none⟩) (len + ys.length) cap)) (E.w.setRow (E.ι id) us2.toArray) := by
            simp only [execOp, ho, resolve, invoke, builtin, Sem.run_bind, Sem.run_pure, Result.andThen_ok, List.map_toArray, List.map_cons, List.map_nil, e1, hrunA]
            rfl
          refine wp_value hrun (hk _ _ _ hs' hx' (.sl E.nx 0 (len + ys.length) _ cap (by simp) fun e'' sz'' xs'' hh'' => ?_) (h E.nx (hs.nx _ (Nat.le_refl _))))
          have e0 : hset (hset E.h id .dead) E.nx (.arr e' i.size (xs.take len ++ ys)) E.nx = .arr e' i.size (xs.take len ++ ys) := by simp [hset]
          simp only [e0] at hh''
          cases hh''
          refine ⟨by simp; omega, by simp; omega, .inr (by simp)⟩
        · -- a new row
          have hold : (Builtin.firstCells i.size len (.slice (some ⟨E.ι id, 0, none⟩) len cap)).run P E.w.drew = .ok (us.take (len * i.size)).toArray E.w.drew := by
            have := run_firstCells_some (P := P) E.w.drew i.size len ⟨E.ι id, 0, none⟩ len cap (us.take (len * i.size)) (by simp; omega) (fun j v hv => by
              rw [Addr.add_mid, Nat.zero_add]
              have : E.w.drew.cell? ⟨E.ι id, j, none⟩ = E.w.cell? ⟨E.ι id, j, none⟩ := rfl
              rw [this, cell_row hblk]
              rw [List.getElem?_take] at hv
              split at hv
              · exact hv
              · cases hv)
            exact this
          obtain ⟨E', v, s', x', hrun, hh', hpr⟩ := app_grow hs ho hu hi hz hzf hzl hpos hby (n := len) (cap := cap) e1 (olds := us.take (len * i.size)) (xs := xs.take len) hxl (by simp; omega) hold (fun y hy => hlen y (List.mem_of_mem_take hy)) (fun y hy => hone y (List.mem_of_mem_take hy)) (fun u hu' => huo u (List.mem_of_mem_take hu')) (hlaid.takes hlen) hsrc hnl hyl hy1 hln hno (by omega) hmax hbytes
          obtain ⟨x2, s2⟩ := forget' s' (h' := hset (hset E.h id .dead) E.nx (.arr e' i.size (xs.take len ++ ys))) (fun k => by
            rw [hh']
            simp only [hset]
            split
            · exact .inl rfl
            · split
              · exact .inr rfl
              · exact .inl rfl)
          have hgo := hk _ _ _ s2 (x'.trans x2) (x2.rel _ _ hpr) (h E.nx (hs.nx _ (Nat.le_refl _)))
          exact wp_value hrun hgo
      · exact h.elim
    · exact h.elim

theorem madeCells_get {z : Array Value} {n sz i j : Nat} (hz : z.size = sz) (hi : i < n) (hj : j < sz) : (madeCells z (n * sz)).toList[i * sz + j]? = z.toList[j]? := by
  have hlt : i * sz + j < n * sz := by
    have : (i + 1) * sz ≤ n * sz := Nat.mul_le_mul_right _ (by omega)
    rw [Nat.add_mul] at this; omega
  have hm : (i * sz + j) % z.size = j := by rw [hz, Nat.add_comm, Nat.add_mul_mod_self_right, Nat.mod_eq_of_lt hj]
  simp only [madeCells, Array.toList_map, List.getElem?_map, Array.toList_range]
  rw [List.getElem?_range hlt]
  simp [hm, getElem!_pos z j (by omega), List.getElem?_eq_getElem (show j < z.toList.length by simpa [hz] using hj), show j < z.size by omega]

theorem step_mks (hs : Sim E) {o : Oper} {t e0 : TypeId} {l c : Operand} (ho : o.op = .makeSlice t l c) (hu : P.underlying t = some (.slice e0)) {i : TypeInfo} (hi : P.info? e0 = some i) {z : AV} (hz : i.zero.bind ofConst = some z) (hzf : z.flat = true) (hzl : z.cells.length = i.size) (hpos : 0 < i.size)
    {al ac : AX} (hl : cOpd N l = some al) (hc : cOpd N c = some ac) (ht : TmRel E N tm a) {K : AV → Hp → Prop} (h : AStep P (.mks e0 i.size i.bytes z.cells al ac) K tm E.h) {next : Act → World → Prop} {Q : Exit → Act → World → Prop} (hk : Goes E K a o.dst next) : o.wp P a E.w next Q := by
  have hvl := opd hl ht
  have hvc := opd hc ht
  simp only [AStep] at h
  split at h
  · rename_i k1 n k2 m hev1 hev2
    rw [hev1] at hvl
    rw [hev2] at hvc
    obtain ⟨h0, h1, h2, h3, h⟩ := h
    obtain ⟨zv, hzi, hzr⟩ : ∃ zv, i.zero = some zv ∧ Rel E z zv := by
      cases hzi : i.zero with
      | none => simp [hzi] at hz
      | some zv => simp [hzi] at hz; exact ⟨zv, rfl, ofConst_rel E hz⟩
    obtain ⟨hzc, hz1⟩ := cells_rel hzr hzf
    have hzs : zv.cells.size = i.size := by have := hzc.1; simp at this; omega
    have hm : (m.toNat : Int) = m := Int.toNat_of_nonneg (by omega)
    have hby : (i.bytes : Int) * m ≤ 281474976710656 := by
      have : ((i.bytes * m.toNat : Nat) : Int) ≤ 140737488355328 := by omega
      rw [Int.natCast_mul, hm] at this
      omega
    have hrun0 := run_make (P := P) E.w t e0 i zv hu hi hzi k1 k2 n m h0 h1 hby (by omega)
    have hget : ∀ (idx j : Nat) (c : AV), idx < m.toNat → z.cells[j]? = some c → ∃ u, (madeCells zv.cells (m.toNat * i.size)).toList[idx * i.size + j]? = some u ∧ Rel E c u := by
      intro idx j c hidx hj
      obtain ⟨u, hu', hr⟩ := hzc.get hj
      have hjl : j < i.size := by rw [← hzl]; exact (List.getElem?_eq_some_iff.1 hj).1
      exact ⟨u, by rw [madeCells_get hzs hidx hjl]; exact hu', hr⟩
    obtain ⟨E', s', x', hw, hh, hpr⟩ := new_row (e := e0) (κ0 := m.toNat) hs (w1 := E.w) ⟨rfl, rfl, rfl⟩ rfl (us := (madeCells zv.cells (m.toNat * i.size)).toList) (by simp [size_madeCells]) (xs := List.replicate m.toNat z.cells) (by simp) (by simp only [maxLen]; omega) hpos
      (fun x hx => by rw [List.eq_of_mem_replicate hx]; exact hzl) (fun x hx => by rw [List.eq_of_mem_replicate hx]; exact hz1) (fun u hu' => by
        obtain ⟨k, hk'⟩ := List.getElem?_of_mem hu'
        have hkl : k < m.toNat * i.size := by have := (List.getElem?_eq_some_iff.1 hk').1; simpa [size_madeCells] using this
        have hd : k / i.size < m.toNat := (Nat.div_lt_iff_lt_mul hpos).2 hkl
        have hmd : k % i.size < i.size := Nat.mod_lt _ hpos
        obtain ⟨u', hu2, hr⟩ := hget (k / i.size) (k % i.size) _ hd (List.getElem?_eq_getElem (by omega))
        rw [Nat.mul_comm (k / i.size), Nat.div_add_mod, hk'] at hu2
        cases hu2
        rw [hr.one]
        exact hz1 _ (List.getElem_mem _)) (fun idx x j c hx hj => by
        rw [List.getElem?_replicate] at hx
        split at hx
        · cases hx; exact hget idx j c ‹_› hj
        · cases hx) n.toNat (by simp; omega)
    have hrun : (execOp a.eval o).run P E.w = .ok (.value (.slice (some ⟨E.w.heap.size, 0, none⟩) n.toNat m.toNat)) E'.w := by
      rw [hw]
      simp only [execOp, ho, Sem.run_bind, hvl.int_inv, hvc.int_inv, hrun0, Result.andThen_ok, Sem.run_pure, Array.toArray_toList]
    refine wp_value hrun (hk _ _ E' s' x' hpr ?_)
    rw [hh]
    exact h E.nx (hs.nx _ (Nat.le_refl _))
  · exact h.elim

theorem step_mkm (hs : Sim E) {o : Oper} {t : TypeId} (ho : o.op = .makeMap t none) {K : AV → Hp → Prop} (h : AStep P .mkm K tm E.h) {next : Act → World → Prop} {Q : Exit → Act → World → Prop} (hk : Goes E K a o.dst next) : o.wp P a E.w next Q := by
  have hx := Env.add_ext (E := E) (w' := E.w.alloc (.map #[] 0)) (o := .map []) (blk := E.w.heap.size) (κ0 := 0) hs ⟨rfl, rfl, rfl⟩ (by simp) (fun b hb => alloc_old _ _ b hb) (Nat.le_refl _)
  have hs' := Env.add_sim (E := E) (w' := E.w.alloc (.map #[] 0)) (o := .map []) (blk := E.w.heap.size) (κ0 := 0) hs ⟨rfl, rfl, rfl⟩ (by simp) (fun b hb => alloc_old _ _ b hb) (Nat.le_refl _) (by simp) (by
    unfold ObjRel
    have e1 : (E.add (E.w.alloc (.map #[] 0)) (.map []) E.w.heap.size 0).h E.nx = .map [] := by simp [Env.add, hset]
    rw [e1]
    refine ⟨#[], 0, ?_, rfl, by simp⟩
    have e2 : (E.add (E.w.alloc (.map #[] 0)) (.map []) E.w.heap.size 0).ι E.nx = E.w.heap.size := by simp [Env.add]
    rw [e2]
    exact alloc_new _ _)
  have hrun : (execOp a.eval o).run P E.w = .ok (.value (.map (some E.w.heap.size))) (E.w.alloc (.map #[] 0)) := by
    simp [execOp, ho, Instr.makeMap]
  refine wp_value hrun (hk (.mp E.nx) _ _ hs' hx (.mp _ _ (by simp [Env.add]) fun es hes => by simp [Env.add]) (h E.nx (hs.nx _ (Nat.le_refl _))))

/-! ### A map written -/

theorem putK_rel {ki : Bool} {d : TypeDesc} (hd : keyDesc ki d) {x y : AV} {u v : Value} (hx : Rel E x u) (hy : Rel E y v) : ∀ (es es' : List (AV × AV)) (ents : List MapEntry) (n : Nat), EntsRel E es ents → putK ki x y es = some es' →
    (Instr.findNow d u ents n = some none ∧ es' = es ++ [(x, y)]) ∨
    (∃ i en, Instr.findNow d u ents n = some (some (n + i, en.val)) ∧ ents[i]? = some en ∧ i < es.length ∧ es' = es.set i (x, y) ∧ (∀ m, Instr.sameBits m en.key u = true)) := by
  intro es
  induction es with
  | nil =>
    intro es' ents n he h
    have : ents = [] := by have := he.1; simpa using this
    subst this
    simp [putK] at h
    exact .inl ⟨rfl, by simp [← h]⟩
  | cons kv es ih =>
    intro es' ents n he h
    obtain ⟨en, ents', rfl, r1, r2, he'⟩ := he.cons
    simp only [putK] at h
    split at h
    · rename_i hk
      cases h
      refine .inr ⟨0, en, by simp [Instr.findNow, sameNow_rel hd hx r1 hk], rfl, by simp, rfl, fun m => ?_⟩
      unfold keyEq at hk
      split at hk
      · rename_i a1 b1 c1 d1 hkv
        split at hk
        · rename_i hkk
          simp at hk
          rw [hkv] at r1
          rw [r1.int_inv, hx.int_inv]
          simp [Instr.sameBits, hkk, hk]
        · cases hk
      · rename_i hkv
        simp at hk
        rw [hkv] at r1
        rw [r1.str_inv, hx.str_inv]
        subst hk
        simp only [Instr.sameBits]
        rw [beq_toListBytes]
        simp
      · cases hk
    · rename_i hk
      cases hp : putK ki x y es with
      | none => simp [hp] at h
      | some es2 =>
        simp [hp] at h
        subst h
        rcases ih es2 ents' (n + 1) he' hp with ⟨h1, h2⟩ | ⟨i, en', h1, h2, h3, h4, h5⟩
        · exact .inl ⟨by simp [Instr.findNow, sameNow_rel hd hx r1 hk, h1], by simp [h2]⟩
        · refine .inr ⟨i + 1, en', ?_, by simpa using h2, by simpa using h3, by simp [h4], h5⟩
          simp only [Instr.findNow, sameNow_rel hd hx r1 hk, h1]
          congr 3
          omega
    · cases h

theorem step_mup (hs : Sim E) {o : Oper} {t kt et : TypeId} {m k v : Operand} (ho : o.op = .mapUpdate t m k v ∨ o.op = .insert t m k v) (hu : P.underlying t = some (.map kt et)) {d : TypeDesc} (hkt : P.underlying kt = some d) {ki : Bool} (hd : keyDesc ki d)
    {am ak av : AX} (hm : cOpd N m = some am) (hkk : cOpd N k = some ak) (hv : cOpd N v = some av) (ht : TmRel E N tm a) {K : AV → Hp → Prop} (h : AStep P (.mup ki am ak av) K tm E.h) {next : Act → World → Prop} {Q : Exit → Act → World → Prop} (hk : Goes E K a o.dst next) : o.wp P a E.w next Q := by
  have hvm := opd hm ht
  have hvk := opd hkk ht
  have hvv := opd hv ht
  simp only [AStep] at h
  split at h
  · rename_i id hev
    rw [hev] at hvm
    split at h
    · rename_i es hh
      split at h
      · rename_i es' hp
        obtain ⟨ents, clk, e1, hb, he⟩ := map_ents hs hvm hh
        have hd' : E.h id ≠ .dead := by rw [hh]; simp
        have hlt := hs.lt id hd'
        have hst : Shape (E.h id) (.map es') := by rw [hh]; exact ⟨(fun _ h => by cases h), (fun _ _ _ h => by cases h), fun _ _ => ⟨_, rfl⟩⟩
        have hg : (getObj (E.ι id)).run P E.w = .ok (.map ents clk) E.w := by simp [getObj, Sem.run, hb]
        -- the new entries
        have fin : ∀ (ents' : Array MapEntry) (clk' : Nat), (execOp a.eval o).run P E.w = .ok .skip { E.w with heap := E.w.heap.setIfInBounds (E.ι id) (.map ents' clk') } → EntsRel E es' ents'.toList → o.wp P a E.w next Q := by
          intro ents' clk' hrun hent
          let w' : World := { E.w with heap := E.w.heap.setIfInBounds (E.ι id) (.map ents' clk') }
          have hold : ∀ b, b ≠ E.ι id → w'.heap[b]? = E.w.heap[b]? := fun b hb' => Array.getElem?_setIfInBounds_ne (Ne.symm hb')
          have hx' := Env.turn_ext hs hd' hst (w' := w') ⟨rfl, rfl, rfl⟩ (by simp [w']) hold
          have hs' := Env.turn_sim hs hd' hst (w' := w') ⟨rfl, rfl, rfl⟩ (by simp [w']) hold (by
            unfold ObjRel
            have e0 : (E.turn w' id (.map es')).h id = .map es' := by simp [Env.turn, hset]
            rw [e0]
            refine ⟨ents', clk', ?_, by have := hent.1; simpa using this, fun i kv en hk' he' => ?_⟩
            · show (E.w.heap.setIfInBounds (E.ι id) _)[E.ι id]? = _
              rw [Array.getElem?_setIfInBounds_self]
              simp [hlt]
            · obtain ⟨r1, r2⟩ := hent.2 i kv en hk' (by simpa using he')
              exact ⟨hx'.rel _ _ r1, hx'.rel _ _ r2⟩)
          exact wp_skipped hrun (hk _ _ _ hs' hx' (Rel.undef _) (by simpa [Env.turn] using h))
        have hck := run_checkKey (P := P) E.w hkt hd false (a.eval k)
        have hset : ∀ o' : Obj, (setObj (E.ι id) o').run P E.w = .ok () { E.w with heap := E.w.heap.setIfInBounds (E.ι id) o' } := fun o' => by simp [setObj, Sem.run, hb]
        rcases putK_rel hd hvk hvv es es' ents.toList 0 he hp with ⟨h1, h2⟩ | ⟨i, en, h1, h2, h3, h4, h5⟩
        · have hfk : (Instr.findKey kt (a.eval k) ents.toList).run P E.w = .ok none E.w := by simp [Instr.findKey, run_underlying hkt, h1]
          refine fin (ents.push { key := a.eval k, val := a.eval v, born := clk }) (clk + 1) ?_ ?_
          · rcases ho with ho | ho <;> simp [execOp, ho, e1, Instr.mapUpdate, run_underlying hu, hg, hck, hfk, hset]
          · subst h2
            refine ⟨by have := he.1; simp at this ⊢; omega, fun i kv en hk' he' => ?_⟩
            have hle := he.1
            simp only [Array.toList_push] at he'
            by_cases hi : i < es.length
            · rw [List.getElem?_append_left hi] at hk'
              rw [List.getElem?_append_left (by omega)] at he'
              exact he.2 i kv en hk' he'
            · rw [List.getElem?_append_right (by omega)] at hk' he'
              have hi0 : i - es.length = 0 := by
                have := (List.getElem?_eq_some_iff.1 hk').1
                simp at this
                omega
              rw [hi0] at hk'
              rw [show i - ents.toList.length = 0 by omega] at he'
              simp at hk' he'
              subst hk'; subst he'
              exact ⟨hvk, hvv⟩
        · have hfk : (Instr.findKey kt (a.eval k) ents.toList).run P E.w = .ok (some (i, en.val)) E.w := by simp [Instr.findKey, run_underlying hkt, h1]
          have h2' : ents[i]? = some en := by simpa using h2
          have hsb : Instr.sameBits 10000 en.key (a.eval k) = true := h5 10000
          refine fin (ents.modify i fun e => { e with key := a.eval k, val := a.eval v }) clk ?_ ?_
          · rcases ho with ho | ho <;> simp [execOp, ho, e1, Instr.mapUpdate, run_underlying hu, hg, hck, hfk, hset, h2', Instr.keyThatStays, hsb]
          · subst h4
            refine ⟨by have := he.1; simp at this ⊢; omega, fun j kv en' hk' he' => ?_⟩
            simp only [Array.getElem?_toList, Array.getElem?_modify] at he'
            rw [List.getElem?_set] at hk'
            by_cases hij : i = j
            · subst hij
              simp [h3] at hk'
              simp [h2'] at he'
              subst hk'; subst he'
              exact ⟨hvk, hvv⟩
            · rw [if_neg hij] at hk' he'
              exact he.2 j kv en' hk' (by simpa using he')
      · exact h.elim
    · exact h.elim
  · exact h.elim

end Go.AM

/- AM, 14: conversions that make memory, calls; every operation. -/
namespace Go.AM
variable {P : Program} {N : Nat} {E : Env} {tm : Tm} {a : Act}

theorem ofConst_flat {v : Value} {r : AV} (h : ofConst v = some r) : r.flat = true := by
  unfold ofConst at h
  split at h
  · rename_i cs
    cases hm : cs.toList.mapM ofCell with
    | none => simp [hm] at h
    | some l => simp [hm] at h; subst h; rfl
  · have := (ofCell_rel (E := ⟨fun _ => .dead, fun _ => 0, fun _ => 0, default, 0⟩) h).2
    cases r <;> first | rfl | (simp [AV.one] at this)

theorem zeroOf_flat {t : TypeId} {z : AV} (h : zeroOf P t = some z) : z.flat = true := by
  unfold zeroOf at h
  cases hi : P.info? t with
  | none => simp [hi] at h
  | some i =>
    cases hz : i.zero with
    | none => simp [hi, hz] at h
    | some v => simp [hi, hz] at h; exact ofConst_flat h

theorem step_bfz (hs : Sim E) {o : Oper} {t e0 : TypeId} {x : Operand} (ho : o.op = .convert t t x) (hu : P.underlying t = some (.slice e0)) (he : isU8 P e0 = true) {ax : AX} (hx : cOpd N x = some ax) (ht : TmRel E N tm a) {K : AV → Hp → Prop}
    (h : AStep P (.bfz ax) K tm E.h) {next : Act → World → Prop} {Q : Exit → Act → World → Prop} (hk : Goes E K a o.dst next) : o.wp P a E.w next Q := by
  have hv := opd hx ht
  have he' : P.underlying e0 = some (.int .u8) := by
    unfold isU8 at he
    split at he
    · assumption
    · cases he
  simp only [AStep] at h
  split at h
  · rename_i id off len hev
    rw [hev] at hv
    obtain ⟨hoff, h⟩ := h
    split at h
    · rename_i e sz xs hh
      obtain ⟨hle, h⟩ := h
      obtain ⟨b, cap, e1, hn, hp⟩ := hv.sl_inv
      obtain ⟨h1, h2, h3⟩ := hp e sz xs hh
      obtain ⟨us, hb, hl, hxk, hkm, hpos, hlen, hone, huo, hru⟩ := arr_row hs hh
      have hd : E.h id ≠ .dead := by rw [hh]; simp
      have hlt := hs.lt id hd
      -- the world behind: the mark
      obtain ⟨w', hrun, hw1, hw2, hw3, hw4⟩ : ∃ w', (execOp a.eval o).run P E.w = .ok (.value (.slice b len cap)) w' ∧ SameRest E.w w' ∧ w'.heap.size = E.w.heap.size ∧ (∀ k, k ≠ E.ι id → w'.heap[k]? = E.w.heap[k]?) ∧ (∀ j, w'.cell? ⟨E.ι id, j, none⟩ = E.w.cell? ⟨E.ι id, j, none⟩) := by
        have hc : ∀ ad : Addr, (markStringish ad).run P E.w = .ok () (match E.w.shape? ad.block with | some (_, n) => E.w.freeze { block := ad.block, off := n } 1 | none => E.w) := by
          intro ad
          cases hsh : E.w.shape? ad.block with
          | none => simp [markStringish, hsh]
          | some p => obtain ⟨e', n⟩ := p; simp [markStringish, hsh]
        have hb' : b = some ⟨E.ι id, off * sz, none⟩ ∨ b = none ∨ ∃ ad, b = some ad := by cases b with | none => exact .inr (.inl rfl) | some ad => exact .inr (.inr ⟨ad, rfl⟩)
        rcases h3 with ⟨h4, h5⟩ | h4
        · -- a slice without room: its address may be any
          exfalso
          exact h4 hoff
        · subst h4
          have hshape : E.w.shape? (E.ι id) = some (e, us.length) := by simp [World.shape?, hb]
          refine ⟨E.w.freeze { block := E.ι id, off := us.length } 1, ?_, ⟨?_, ?_, ?_⟩, ?_, fun k hk' => ?_, fun j => ?_⟩
          · have := hc ⟨E.ι id, off * sz, none⟩
            simp only [hshape] at this
            simp [execOp, ho, e1, convert, run_underlying hu, run_underlying he', this]
          · simp [World.freeze]
          · simp [World.freeze]
          · simp [World.freeze]
          · simp [World.freeze]
          · simp [World.freeze, Array.getElem?_modify, Ne.symm hk']
          · have hget : (E.w.freeze { block := E.ι id, off := us.length } 1).heap[E.ι id]? = some (.cells us.toArray e (us.length, us.length + 1)) := by
              simp only [World.freeze, Nat.one_ne_zero, if_false, Array.getElem?_modify, if_pos]
              rw [hb]
              simp
            simp [World.cell?, hget, hb]
      have hsub : ∀ i, hset E.h id .dead i = E.h i ∨ hset E.h id .dead i = .dead := fun i => by simp only [hset]; split <;> simp
      obtain ⟨hx', hs'⟩ := forget hs (h' := hset E.h id .dead) hsub (w' := w') hw1 hw2 (fun k _ hl => hw3 k (fun e => hl ⟨id, hd, e.symm⟩)) (fun i hi => hw3 _ (fun e => by
        have hne : i ≠ id := fun e2 => by subst e2; simp [hset] at hi
        have : E.h i ≠ .dead := by simpa [hset, hne] using hi
        exact hne (hs.inj i id this hd e)))
      obtain ⟨hx0, hs0⟩ := forget' hs hsub
      have hfz := freeze_rel hs hh hle hsub (by simp [hset]) hv
      have hfz' : Rel { E with h := hset E.h id .dead, w := w' } (.fz ((xs.drop off).take len)) (a.eval x) := by
        obtain ⟨b0, cap0, blk, o0, sz0, us0, e0', hb0, hcap0, hs0', h10, hc0, hr0⟩ := hfz.fz_inv
        have hlenx : ((xs.drop off).take len).length = len := by simp; omega
        rw [e0']
        refine Rel.fz _ b0 cap0 (E.ι id) (off * sz) sz (fun i j => us.getD ((off + i) * sz + j) undef) (fun hne => ?_) hcap0 (fun y hy => hlen y (List.mem_of_mem_drop (List.mem_of_mem_take hy))) h10 (fun i y j c hy hj => ?_) (fun i y j c hy hj => ?_)
        · have hpos' : 0 < ((xs.drop off).take len).length := List.length_pos_iff.2 hne
          refine ⟨?_, fun hl => ?_, by show E.ι id < w'.heap.size; omega⟩
          · rw [e1] at e0'
            simp at e0'
            rcases h3 with ⟨_, h5⟩ | h5
            · omega
            · rw [← e0'.1]; exact h5
          · obtain ⟨i, hi1, hi2⟩ := hl
            have hi1' : hset E.h id .dead i ≠ .dead := hi1
            have hne' : i ≠ id := fun e2 => by subst e2; simp [hset] at hi1'
            have : E.h i ≠ .dead := by simpa [hset, hne'] using hi1'
            exact hne' (hs.inj i id this hd hi2)
        · have hy' : xs[off + i]? = some y := by
            rw [List.getElem?_take] at hy
            split at hy
            · rwa [List.getElem?_drop] at hy
            · cases hy
          obtain ⟨u, hu', hr⟩ := hru (off + i) y j c hy' hj
          show w'.cell? _ = _
          rw [hw4, cell_row hb]
          have e : off * sz + i * sz + j = (off + i) * sz + j := by rw [Nat.add_mul]
          rw [e, hu']
          simp [List.getD, hu']
        · have hy' : xs[off + i]? = some y := by
            rw [List.getElem?_take] at hy
            split at hy
            · rwa [List.getElem?_drop] at hy
            · cases hy
          obtain ⟨u, hu', hr⟩ := hru (off + i) y j c hy' hj
          simp only [List.getD, hu', Option.getD_some]
          exact hx'.rel _ _ hr
      rw [e1] at hfz'
      exact wp_value hrun (hk _ _ _ hs' hx' hfz' h)
    · exact h.elim
  · exact h.elim

end Go.AM

/- AM, 15: every operation. -/
namespace Go.AM
variable {P : Program} {N : Nat} {E : Env} {tm : Tm} {a : Act}

theorem step_s2b (hs : Sim E) {o : Oper} {s d e0 : TypeId} {x : Operand} (ho : o.op = .convert s d x) (hsu : P.underlying s = some .string) (hu : P.underlying d = some (.slice e0)) (he : isU8 P e0 = true) {ax : AX} (hx : cOpd N x = some ax) (ht : TmRel E N tm a) {K : AV → Hp → Prop}
    (h : AStep P (.s2b ax) K tm E.h) {next : Act → World → Prop} {Q : Exit → Act → World → Prop} (hk : Goes E K a o.dst next) : o.wp P a E.w next Q := by
  have hv := opd hx ht
  have he' : P.underlying e0 = some (.int .u8) := by
    unfold isU8 at he
    split at he
    · assumption
    · cases he
  simp only [AStep] at h
  split at h
  · rename_i s0 hev
    rw [hev] at hv
    have e1 := hv.str_inv
    have hrun0 := Lib.run_convert_string_bytes (P := P) E.w s d e0 ⟨s0.toArray⟩ hsu hu he'
    let w' := Lib.bytesWorld E.w e0 ⟨s0.toArray⟩
    have hold : ∀ b, b < E.w.heap.size → w'.heap[b]? = E.w.heap[b]? := fun b hb => Lib.bytesWorld_at_old _ _ _ b hb
    have hsize : w'.heap.size = E.w.heap.size + 1 := Lib.bytesWorld_size _ _ _
    have hsame : SameRest E.w w' := by
      refine ⟨?_, ?_, ?_⟩ <;> (simp only [w', Lib.bytesWorld, World.freeze]; split <;> rfl)
    have hx' : Ext E { E with w := w' } := Ext.of (Nat.le_refl _) (fun i _ _ => ⟨Shape.refl _, rfl, rfl⟩) hsame (by show E.w.heap.size ≤ w'.heap.size; omega) (fun b hb _ => hold b hb) (fun b _ hl => hl)
    have hs' : Sim { E with w := w' } := ⟨fun i => (hs.obj i).keep rfl rfl rfl (fun hd => hold _ (hs.lt i hd)) hx'.rel, hs.nx, hs.inj, fun i hi => by have := hs.lt i hi; show E.ι i < w'.heap.size; omega⟩
    have hrel : Rel { E with w := w' } (.fz (s0.map fun b => [.int .u8 (b.toNat : Int)])) (.slice (some ⟨E.w.heap.size, 0, none⟩) s0.length (grownCap E.w s0.length 0 e0)) := by
      have := Rel.fz (E := { E with w := w' }) (s0.map fun b => [.int .u8 (b.toNat : Int)]) (some ⟨E.w.heap.size, 0, none⟩) (grownCap E.w s0.length 0 e0) E.w.heap.size 0 1 (fun i _ => .int .u8 ((s0.getD i 0).toNat : Int))
        (fun _ => ⟨rfl, fun ⟨i, hi1, hi2⟩ => by
          have : E.ι i = E.w.heap.size := hi2
          have := hs.lt i hi1
          omega, by show E.w.heap.size < w'.heap.size; omega⟩)
        (by simp; exact grownCap_ge E.w s0.length 0 e0) (fun x hx => by
          simp at hx; obtain ⟨b, _, rfl⟩ := hx; rfl) (fun x hx c hc => by
          simp at hx; obtain ⟨b, _, rfl⟩ := hx; simp at hc; subst hc; rfl) (fun i x j c hx hj => by
          simp only [List.getElem?_map] at hx
          cases hb : s0[i]? with
          | none => simp [hb] at hx
          | some b =>
            simp [hb] at hx
            subst hx
            have hj0 : j = 0 := by have := (List.getElem?_eq_some_iff.1 hj).1; simpa using this
            subst hj0
            have hil := (List.getElem?_eq_some_iff.1 hb).1
            have := Lib.bytesWorld_cell E.w e0 ⟨s0.toArray⟩ i (by simpa [size_mk] using hil)
            simp only [Nat.zero_add, Nat.mul_one, Nat.add_zero]
            exact this) (fun i x j c hx hj => by
          simp only [List.getElem?_map] at hx
          cases hb : s0[i]? with
          | none => simp [hb] at hx
          | some b =>
            simp [hb] at hx
            subst hx
            have hj0 : j = 0 := by have := (List.getElem?_eq_some_iff.1 hj).1; simpa using this
            subst hj0
            simp at hj
            subst hj
            simp only [List.getD, hb, Option.getD_some]
            exact .int _ _)
      simpa using this
    have hrun : (execOp a.eval o).run P E.w = .ok (.value (.slice (some ⟨E.w.heap.size, 0, none⟩) s0.length (grownCap E.w s0.length 0 e0))) w' := by
      simp only [size_mk] at hrun0
      simp only [execOp, ho, e1, Sem.run_bind, hrun0, Result.andThen_ok, Sem.run_pure, w']
    exact wp_value hrun (hk _ _ _ hs' hx' hrel h)
  · exact h.elim

theorem run_callFunc {w : World} {f : FuncId} {args : Array Value} (h : callable P f = true) : (callFunc f args).run P w = .ok (.enter f args) w := by
  unfold callable at h
  cases hf : P.funcs[f]? with
  | none => simp [hf] at h
  | some fn =>
    simp [hf] at h
    obtain ⟨h1, h2⟩ := h
    cases hb : fn.body with
    | none => simp [hb] at h1
    | some c => simp [callFunc, hf, h2, hb]

theorem wp_called {o : Oper} {f : FuncId} {args : List AV} {cargs : List Value} {K : AV → Hp → Prop} (hs : Sim E) (hc : ACalls P f args E.h K) (hrun : (execOp a.eval o).run P E.w = .ok (.enter f cargs.toArray) E.w) (hr : RelL E args cargs)
    {next : Act → World → Prop} {Q : Exit → Act → World → Prop} (hk : Goes E K a o.dst next) : o.wp P a E.w next Q := by
  unfold Oper.wp
  rw [hrun]
  refine (hc.2 E cargs hs rfl hr).mono ?_
  rintro e w' ⟨v, r, E', rfl, rfl, s', x', hrel, hq⟩
  exact hk r v E' s' x' hrel hq

theorem step_call (hs : Sim E) {o : Oper} {f : FuncId} {as : Array Operand} {ts : Array TypeId} (ho : o.op = .call { callee := .value (.func f), args := as, argTypes := ts }) {aas : List AX} (has : cOpds N as = some aas) (ht : TmRel E N tm a) {K : AV → Hp → Prop}
    (h : AStep P (.call f aas) K tm E.h) {next : Act → World → Prop} {Q : Exit → Act → World → Prop} (hk : Goes E K a o.dst next) : o.wp P a E.w next Q := by
  have hr := opds has ht
  refine wp_called (cargs := (as.map a.eval).toList) hs h ?_ hr hk
  rw [Array.toArray_toList]
  simp [execOp, ho, resolve, invoke, Act.eval, Deferred.ofValue, run_callFunc (P := P) h.1]

theorem step_callv (hs : Sim E) {o : Oper} {t : Tmp} {as : Array Operand} {ts : Array TypeId} (ho : o.op = .call { callee := .value (.tmp t), args := as, argTypes := ts }) {ax : AX} (hax : cOpd N (.tmp t) = some ax) {aas : List AX} (has : cOpds N as = some aas) (ht : TmRel E N tm a) {K : AV → Hp → Prop}
    (h : AStep P (.callv ax aas) K tm E.h) {next : Act → World → Prop} {Q : Exit → Act → World → Prop} (hk : Goes E K a o.dst next) : o.wp P a E.w next Q := by
  have hr := opds has ht
  have hv := opd hax ht
  simp only [AStep] at h
  split at h
  · rename_i f caps hev
    rw [hev] at hv
    obtain ⟨us, e1, hcr⟩ := hv.fn_inv
    refine wp_called (cargs := (as.map a.eval).toList ++ us) hs h ?_ (hr.append hcr) hk
    have e2 : ((as.map a.eval).toList ++ us).toArray = as.map a.eval ++ us.toArray := by
      apply Array.ext'
      simp
    rw [e2]
    simp [execOp, ho, resolve, invoke, e1, Deferred.ofValue, run_callFunc (P := P) h.1]
  · exact h.elim

theorem of_pure (hs : Sim E) {o : Oper} {op : AOp} {K : AV → Hp → Prop} (h : AStep P op K tm E.h) (hdef : AStep P op K tm E.h = (match apure op tm E.h with | some v => K v E.h | none => False)) (hy : ∀ r, apure op tm E.h = some r → Yields P E a o r) {next : Act → World → Prop} {Q : Exit → Act → World → Prop} (hk : Goes E K a o.dst next) : o.wp P a E.w next Q := by
  rw [hdef] at h
  cases hr : apure op tm E.h with
  | none => rw [hr] at h; exact h.elim
  | some r =>
    rw [hr] at h
    obtain ⟨v, hrun, hrel⟩ := hy r hr
    exact wp_value hrun (hk r v E hs (Ext.refl E) hrel h)

theorem step_builtin (hs : Sim E) {o : Oper} {b : Builtin} {as : Array Operand} {ts : Array TypeId} (ho : o.op = .call { callee := .builtin b, args := as, argTypes := ts }) {op : AOp} (hc : cBuiltin P N b ts as = some op) (ht : TmRel E N tm a) {K : AV → Hp → Prop}
    (h : AStep P op K tm E.h) {next : Act → World → Prop} {Q : Exit → Act → World → Prop} (hk : Goes E K a o.dst next) : o.wp P a E.w next Q := by
  unfold cBuiltin at hc
  have has : ∀ l, as.toList = l → as = l.toArray := fun l hl => by rw [← hl]
  have hts : ∀ l, ts.toList = l → ts = l.toArray := fun l hl => by rw [← hl]
  split at hc
  · rename_i x t e1 e2
    rw [has _ e1, hts _ e2] at ho
    cases hx : cOpd N x with
    | none => simp [hx] at hc
    | some ax =>
      simp [hx] at hc
      cases hu : P.underlying t with
      | none => simp [hu] at hc
      | some d =>
        cases d <;> simp [hu] at hc <;> subst hc
        · exact of_pure hs h rfl (fun r hr => yields_len hs ho (k := .str) hu hx ht hr) hk
        · exact of_pure hs h rfl (fun r hr => yields_len hs ho (k := .sl) ⟨_, hu⟩ hx ht hr) hk
        · exact of_pure hs h rfl (fun r hr => yields_len hs ho (k := .map) ⟨_, _, hu⟩ hx ht hr) hk
  · rename_i s x t u e1 e2
    rw [has _ e1, hts _ e2] at ho
    split at hc
    · rename_i htu
      subst htu
      cases hu : P.underlying t with
      | none => simp [hu] at hc
      | some d =>
        cases d <;> simp [hu] at hc
        rename_i e
        cases hi : P.info? e with
        | none => simp [hi] at hc
        | some i =>
          cases hsx : cOpd N s with
          | none => simp [hi, hsx] at hc
          | some asx =>
            cases hx : cOpd N x with
            | none => simp [hi, hsx, hx] at hc
            | some ax =>
              cases hz : i.zero.bind ofConst with
              | none => simp [hi, hsx, hx, hz] at hc
              | some z =>
                simp only [hi, hsx, hx, Option.bind_some] at hc
                simp only [hz, Option.bind_some] at hc
                split at hc
                · rename_i hcond
                  cases hc
                  have hzf : z.flat = true := by
                    cases hzi : i.zero with
                    | none => simp [hzi] at hz
                    | some zv => simp [hzi] at hz; exact ofConst_flat hz
                  exact step_app hs ho hu hi hz hzf hcond.1 hcond.2.1 hcond.2.2 hsx hx ht h hk
                · cases hc
    · cases hc
  · rename_i x y e1
    rw [has _ e1] at ho
    cases hx : cOpd N x with
    | none => simp [hx] at hc
    | some ax =>
      cases hy : cOpd N y with
      | none => simp [hx, hy] at hc
      | some ay => simp [hx, hy] at hc; subst hc; exact of_pure hs h rfl (fun r hr => yields_cx ho hx hy ht hr) hk
  · rename_i x e1
    rw [has _ e1] at ho
    cases hx : cOpd N x with
    | none => simp [hx] at hc
    | some ax => simp [hx] at hc; subst hc; exact of_pure hs h rfl (fun r hr => yields_re ho hx ht hr) hk
  · rename_i x e1
    rw [has _ e1] at ho
    cases hx : cOpd N x with
    | none => simp [hx] at hc
    | some ax => simp [hx] at hc; subst hc; exact of_pure hs h rfl (fun r hr => yields_im ho hx ht hr) hk
  · rename_i x y e1
    rw [has _ e1] at ho
    cases hx : cOpd N x with
    | none => simp [hx] at hc
    | some ax =>
      cases hy : cOpd N y with
      | none => simp [hx, hy] at hc
      | some ay => simp [hx, hy] at hc; subst hc; exact of_pure hs h rfl (fun r hr => yields_mn ho hx hy ht hr) hk
  · rename_i x y e1
    rw [has _ e1] at ho
    cases hx : cOpd N x with
    | none => simp [hx] at hc
    | some ax =>
      cases hy : cOpd N y with
      | none => simp [hx, hy] at hc
      | some ay => simp [hx, hy] at hc; subst hc; exact of_pure hs h rfl (fun r hr => yields_mx ho hx hy ht hr) hk
  · cases hc

theorem step_sound (hs : Sim E) {o : Oper} {op : AOp} (hc : cOp P N o.op = some op) (ht : TmRel E N tm a) {K : AV → Hp → Prop} (h : AStep P op K tm E.h) {next : Act → World → Prop} {Q : Exit → Act → World → Prop} (hk : Goes E K a o.dst next) : o.wp P a E.w next Q := by
  cases ho : o.op with
  | move x =>
    rw [ho] at hc
    cases hx : cOpd N x with
    | none => simp [cOp, hx] at hc
    | some ax => simp [cOp, hx] at hc; subst hc; exact of_pure hs h rfl (fun r hr => by simp [apure] at hr; subst hr; exact yields_move (.inl ho) hx ht) hk
  | assign x =>
    rw [ho] at hc
    cases hx : cOpd N x with
    | none => simp [cOp, hx] at hc
    | some ax => simp [cOp, hx] at hc; subst hc; exact of_pure hs h rfl (fun r hr => by simp [apure] at hr; subst hr; exact yields_move (.inr ho) hx ht) hk
  | pick c x y =>
    rw [ho] at hc
    simp only [cOp, Option.bind_eq_some_iff, Option.map_eq_some_iff] at hc
    obtain ⟨ac, h1, ax, h2, ay, h3, rfl⟩ := hc
    exact of_pure hs h rfl (fun r hr => yields_pick ho h1 h2 h3 ht hr) hk
  | alloc t =>
    rw [ho] at hc
    simp only [cOp, Option.map_eq_some_iff] at hc
    obtain ⟨z, hz, rfl⟩ := hc
    exact step_alloc hs ho hz (zeroOf_flat hz) h hk
  | box t x =>
    rw [ho] at hc
    simp only [cOp, Option.map_eq_some_iff] at hc
    obtain ⟨ax, hx, rfl⟩ := hc
    exact step_box hs ho hx ht h hk
  | build t parts =>
    rw [ho] at hc
    simp only [cOp] at hc
    split at hc
    · rename_i fs hu
      simp only [Option.bind_eq_some_iff] at hc
      obtain ⟨sz, hsz, z, hz, hc⟩ := hc
      split at hc
      · rename_i zs
        simp only [Option.map_eq_some_iff] at hc
        obtain ⟨ps, hps, rfl⟩ := hc
        exact of_pure hs h rfl (fun r hr => yields_build ho hu hsz hz (by simpa only [Option.map_eq_map] using hps) ht hr) hk
      · cases hc
    · cases hc
  | buildSlice t len parts =>
    rw [ho] at hc
    simp only [cOp] at hc
    split at hc
    · rename_i e hu
      simp only [Option.bind_eq_some_iff] at hc
      obtain ⟨i, hi, z, hz, hc⟩ := hc
      split at hc
      · rename_i hcond
        simp only [Option.map_eq_some_iff] at hc
        obtain ⟨ps, hps, rfl⟩ := hc
        exact step_bsl hs ho hu hi (by simpa [Option.bind_eq_some_iff] using hz) hcond hps ht h hk
      · cases hc
    · cases hc
  | insert t m k v =>
    rw [ho] at hc
    simp only [cOp] at hc
    split at hc
    · rename_i kt et hu
      split at hc
      · rename_i kk hkt
        simp only [Option.bind_eq_some_iff, Option.map_eq_some_iff] at hc
        obtain ⟨am, h1, ak, h2, av, h3, rfl⟩ := hc
        exact step_mup hs (.inr ho) hu hkt (ki := true) ⟨_, rfl⟩ h1 h2 h3 ht h hk
      · rename_i hkt
        simp only [Option.bind_eq_some_iff, Option.map_eq_some_iff] at hc
        obtain ⟨am, h1, ak, h2, av, h3, rfl⟩ := hc
        exact step_mup hs (.inr ho) hu hkt (ki := false) rfl h1 h2 h3 ht h hk
      · cases hc
    · cases hc
  | load t x =>
    rw [ho] at hc
    simp only [cOp, Option.bind_eq_some_iff, Option.map_eq_some_iff] at hc
    obtain ⟨ag, hag, ax, hx, rfl⟩ := hc
    cases ag with
    | none => exact of_pure hs h rfl (fun r hr => yields_ldc hs ho hag hx ht hr) hk
    | some n => exact of_pure hs h rfl (fun r hr => yields_lda hs ho hag hx ht hr) hk
  | store t x v =>
    rw [ho] at hc
    simp only [cOp, Option.bind_eq_some_iff, Option.map_eq_some_iff] at hc
    obtain ⟨i, hi, ax, hx, av, hv, rfl⟩ := hc
    exact step_st hs ho hi hx hv ht h hk
  | ready g => rw [ho] at hc; simp [cOp] at hc
  | waits g => rw [ho] at hc; simp [cOp] at hc
  | nilCheck x =>
    rw [ho] at hc
    simp only [cOp, Option.map_eq_some_iff] at hc
    obtain ⟨ax, hx, rfl⟩ := hc
    exact of_pure hs h rfl (fun r hr => yields_nck ho hx ht hr) hk
  | binOp op t x y t' =>
    rw [ho] at hc
    simp only [cOp, Option.bind_eq_some_iff] at hc
    obtain ⟨ax, hx, ay, hy, hc⟩ := hc
    split at hc
    · cases hc; exact of_pure hs h rfl (fun r hr => yields_bin ho hx hy ht hr) hk
    · cases hc; exact of_pure hs h rfl (fun r hr => yields_bin ho hx hy ht hr) hk
    · cases hc; exact of_pure hs h rfl (fun r hr => yields_bin ho hx hy ht hr) hk
    · cases hc; exact of_pure hs h rfl (fun r hr => yields_bin ho hx hy ht hr) hk
    · rename_i hu
      simp only [Option.map_eq_some_iff] at hc
      obtain ⟨n, hn, rfl⟩ := hc
      exact of_pure hs h rfl (fun r hr => yields_beq ho hu hn hx hy ht hr) hk
    · rename_i e hu
      simp only [Option.map_eq_some_iff] at hc
      obtain ⟨n, hn, rfl⟩ := hc
      exact of_pure hs h rfl (fun r hr => yields_peq ho hu hn hx hy ht hr) hk
    · rename_i fs hu
      split at hc
      · rename_i hcond
        simp only [Option.bind_eq_some_iff, Option.map_eq_some_iff] at hc
        obtain ⟨n, hn, ds, hds, rfl⟩ := hc
        exact of_pure hs h rfl (fun r hr => yields_eqa ho hu hcond.1 hcond.2 hn hds hx hy ht hr) hk
      · cases hc
    · cases hc
  | unOp op t x =>
    rw [ho] at hc
    simp only [cOp, Option.map_eq_some_iff] at hc
    obtain ⟨ax, hx, rfl⟩ := hc
    exact of_pure hs h rfl (fun r hr => yields_un ho hx ht hr) hk
  | convert s d x =>
    rw [ho] at hc
    simp only [cOp, Option.bind_eq_some_iff] at hc
    obtain ⟨ax, hx, hc⟩ := hc
    split at hc
    · rename_i k k' h1 h2
      cases hc
      exact of_pure hs h rfl (fun r hr => yields_cvi ho h1 h2 hx ht hr) hk
    · rename_i k h1 h2
      cases hc
      exact of_pure hs h rfl (fun r hr => yields_cvf ho h1 h2 hx ht hr) hk
    · rename_i k h1 h2
      cases hc
      exact of_pure hs h rfl (fun r hr => yields_cfi ho h1 h2 hx ht hr) hk
    · rename_i e h1 h2
      split at hc
      · rename_i he
        cases hc
        exact of_pure hs h rfl (fun r hr => yields_b2s hs ho h1 he h2 hx ht hr) hk
      · cases hc
    · rename_i e h1 h2
      split at hc
      · rename_i he
        cases hc
        exact step_s2b hs ho h1 h2 he hx ht h hk
      · cases hc
    · rename_i e1 e h1 h2
      split at hc
      · rename_i he
        obtain ⟨rfl, he⟩ := he
        cases hc
        exact step_bfz hs ho h2 he hx ht h hk
      · cases hc
    · cases hc
  | sliceToArrayPointer d x => rw [ho] at hc; simp [cOp] at hc
  | makeInterface t x => rw [ho] at hc; simp [cOp] at hc
  | makeFunc fn first caps =>
    rw [ho] at hc
    cases fn <;> simp only [cOp] at hc <;> try (cases hc; done)
    split at hc
    · rename_i hf
      simp only [Option.map_eq_some_iff] at hc
      obtain ⟨cs, hcs, rfl⟩ := hc
      exact of_pure hs h rfl (fun r hr => yields_mkfn ho hf hcs ht hr) hk
    · cases hc
  | makeMap t r =>
    rw [ho] at hc
    cases r with
    | some r => simp [cOp] at hc
    | none =>
      simp only [cOp] at hc
      split at hc
      · cases hc; exact step_mkm hs ho h hk
      · cases hc
  | makeChan t s => rw [ho] at hc; simp [cOp] at hc
  | makeSlice t l c =>
    rw [ho] at hc
    simp only [cOp] at hc
    split at hc
    · rename_i e hu
      simp only [Option.bind_eq_some_iff] at hc
      obtain ⟨i, hi, z, hz, al, hl, ac, hcc, hc⟩ := hc
      split at hc
      · rename_i hcond
        cases hc
        have hz' : i.zero.bind ofConst = some z := by simpa [Option.bind_eq_some_iff] using hz
        have hzf : z.flat = true := by
          cases hzi : i.zero with
          | none => simp [hzi] at hz'
          | some zv => simp [hzi] at hz'; exact ofConst_flat hz'
        exact step_mks hs ho hu hi hz' hzf hcond.1 hcond.2 hl hcc ht h hk
      · cases hc
    · cases hc
  | slice t x lo hi mx =>
    rw [ho] at hc
    cases mx with
    | some m => simp [cOp] at hc
    | none =>
      simp only [cOp] at hc
      split at hc
      · rename_i e hu
        simp only [Option.bind_eq_some_iff, Option.map_eq_some_iff] at hc
        obtain ⟨i, hi', ax, hx, alo, hlo, ahi, hhi, rfl⟩ := hc
        exact of_pure hs h rfl (fun r hr => yields_cut hs ho hu hi' hx hlo hhi ht hr) hk
      · rename_i hu
        simp only [Option.bind_eq_some_iff, Option.map_eq_some_iff] at hc
        obtain ⟨ax, hx, alo, hlo, ahi, hhi, rfl⟩ := hc
        exact of_pure hs h rfl (fun r hr => yields_cuts ho hu hx hlo hhi ht hr) hk
      · cases hc
  | fieldAddr t x f =>
    rw [ho] at hc
    simp only [cOp] at hc
    split at hc
    · rename_i fs hu
      simp only [Option.bind_eq_some_iff] at hc
      obtain ⟨fd, hfd, i, hi, hc⟩ := hc
      split at hc
      · rename_i h0
        simp only [Option.map_eq_some_iff] at hc
        obtain ⟨ax, hx, rfl⟩ := hc
        exact of_pure hs h rfl (fun r hr => yields_fa hs ho hu hfd hi h0 hx ht hr) hk
      · cases hc
    · cases hc
  | field t x f =>
    rw [ho] at hc
    simp only [cOp] at hc
    split at hc
    · rename_i fs hu
      simp only [Option.bind_eq_some_iff, Option.map_eq_some_iff] at hc
      obtain ⟨fd, hfd, ag, hag, ax, hx, rfl⟩ := hc
      exact of_pure hs h rfl (fun r hr => yields_fld ho hu hfd hag hx ht hr) hk
    · cases hc
  | indexAddr t x i =>
    rw [ho] at hc
    simp only [cOp] at hc
    split at hc
    · rename_i e hu
      simp only [Option.bind_eq_some_iff, Option.map_eq_some_iff] at hc
      obtain ⟨inf, hinf, ax, hx, ai, hi, rfl⟩ := hc
      exact of_pure hs h rfl (fun r hr => yields_ia hs ho hu hinf hx hi ht hr) hk
    · cases hc
  | index t x i =>
    rw [ho] at hc
    simp only [cOp] at hc
    split at hc
    · rename_i hu
      simp only [Option.bind_eq_some_iff, Option.map_eq_some_iff] at hc
      obtain ⟨ax, hx, ai, hi, rfl⟩ := hc
      exact of_pure hs h rfl (fun r hr => yields_ixs ho hu hx hi ht hr) hk
    · cases hc
  | lookup t m k ok =>
    rw [ho] at hc
    simp only [cOp] at hc
    split at hc
    · rename_i kt et hu
      split at hc
      · rename_i kk hkt
        simp only [Option.bind_eq_some_iff, Option.map_eq_some_iff] at hc
        obtain ⟨z, hz, am, h1, ak, h2, rfl⟩ := hc
        exact of_pure hs h rfl (fun r hr => yields_look hs ho hu hkt (ki := true) ⟨_, rfl⟩ hz h1 h2 ht hr) hk
      · rename_i hkt
        simp only [Option.bind_eq_some_iff, Option.map_eq_some_iff] at hc
        obtain ⟨z, hz, am, h1, ak, h2, rfl⟩ := hc
        exact of_pure hs h rfl (fun r hr => yields_look hs ho hu hkt (ki := false) rfl hz h1 h2 ht hr) hk
      · cases hc
    · cases hc
  | mapUpdate t m k v =>
    rw [ho] at hc
    simp only [cOp] at hc
    split at hc
    · rename_i kt et hu
      split at hc
      · rename_i kk hkt
        simp only [Option.bind_eq_some_iff, Option.map_eq_some_iff] at hc
        obtain ⟨am, h1, ak, h2, av, h3, rfl⟩ := hc
        exact step_mup hs (.inl ho) hu hkt (ki := true) ⟨_, rfl⟩ h1 h2 h3 ht h hk
      · rename_i hkt
        simp only [Option.bind_eq_some_iff, Option.map_eq_some_iff] at hc
        obtain ⟨am, h1, ak, h2, av, h3, rfl⟩ := hc
        exact step_mup hs (.inl ho) hu hkt (ki := false) rfl h1 h2 h3 ht h hk
      · cases hc
    · cases hc
  | mapEntry t m k => rw [ho] at hc; simp [cOp] at hc
  | entryStore t m s x => rw [ho] at hc; simp [cOp] at hc
  | range t x => rw [ho] at hc; simp [cOp] at hc
  | next it s => rw [ho] at hc; simp [cOp] at hc
  | entry it => rw [ho] at hc; simp [cOp] at hc
  | typeAssert x t u ok => rw [ho] at hc; simp [cOp] at hc
  | extract x i =>
    rw [ho] at hc
    simp only [cOp, Option.map_eq_some_iff] at hc
    obtain ⟨ax, hx, rfl⟩ := hc
    exact of_pure hs h rfl (fun r hr => yields_ext ho hx ht hr) hk
  | call c =>
    rw [ho] at hc
    obtain ⟨callee, as, ts⟩ := c
    cases callee with
    | value f =>
      cases f with
      | func f =>
        simp only [cOp] at hc
        split at hc
        · rename_i k hx
          simp only [Option.bind_eq_some_iff] at hc
          obtain ⟨aas, has, hc⟩ := hc
          split at hc
          · cases hc
            exact of_pure hs h rfl (fun r hr => yields_fext ho hx has ht hr) hk
          · cases hc
        · simp only [Option.map_eq_some_iff] at hc
          obtain ⟨aas, has, rfl⟩ := hc
          exact step_call hs ho has ht h hk
      | tmp t =>
        simp only [cOp, Option.bind_eq_some_iff, Option.map_eq_some_iff] at hc
        obtain ⟨ax, hax, aas, has, rfl⟩ := hc
        exact step_callv hs ho hax has ht h hk
      | const v => simp [cOp] at hc
      | global g => simp [cOp] at hc
    | invoke r m => simp [cOp] at hc
    | builtin b => exact step_builtin hs ho (by simpa [cOp] using hc) ht h hk
  | go c => rw [ho] at hc; simp [cOp] at hc
  | defer c => rw [ho] at hc; simp [cOp] at hc
  | panic x => rw [ho] at hc; simp [cOp] at hc
  | send c x => rw [ho] at hc; simp [cOp] at hc
  | recv t c ok => rw [ho] at hc; simp [cOp] at hc
  | select cs b => rw [ho] at hc; simp [cOp] at hc

end Go.AM
