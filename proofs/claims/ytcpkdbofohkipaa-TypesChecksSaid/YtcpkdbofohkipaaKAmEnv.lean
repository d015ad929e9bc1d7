/- AM, 10: how an environment goes on: a new object, an object's new state, an object that is let go, one that is made anew. -/
import Derived.Test.YtcpkdbofohkipaaKAmSound7
import Derived.Laws.MakeOwn
import Derived.Laws.OwnMore
set_option linter.unusedVariables false
set_option linter.unusedSimpArgs false
set_option linter.unusedSimpArgs false
set_option linter.unusedVariables false
namespace Go.AM
variable {P : Program} {N : Nat} {E : Env} {tm : Tm} {a : Act}

/-- The streams and the rest of the world beside its blocks. -/
structure SameRest (w w' : World) : Prop where
  os : w'.os = w.os
  tape : w'.tape = w.tape
  output : w'.output = w.output

theorem Ext.of {E E' : Env} (hnx : E.nx ≤ E'.nx) (hsh : ∀ id, id < E.nx → E'.h id ≠ .dead → Shape (E.h id) (E'.h id) ∧ E'.ι id = E.ι id ∧ E'.κ id = E.κ id)
    (hr : SameRest E.w E'.w) (hsize : E.w.heap.size ≤ E'.w.heap.size) (hblock : ∀ b, b < E.w.heap.size → ¬ E.live b → E'.w.heap[b]? = E.w.heap[b]?) (hlive : ∀ b, b < E.w.heap.size → E'.live b → E.live b) : Ext E E' :=
  ⟨fun _ _ h => h.mono hnx hsh hsize hblock hlive, hnx, hr.os, hr.tape, hr.output, hsize, hblock, hlive⟩

theorem ObjRel.keep {E E' : Env} {id : Nat} (h : ObjRel E id) (hh : E'.h id = E.h id) (hι : E'.ι id = E.ι id) (hκ : E'.κ id = E.κ id) (hb : E.h id ≠ .dead → E'.w.heap[E.ι id]? = E.w.heap[E.ι id]?) (hx : ∀ a v, Rel E a v → Rel E' a v) : ObjRel E' id := by
  unfold ObjRel at *
  rw [hh, hι, hκ]
  split at h
  · trivial
  · rename_i cs hc
    rw [hb (by rw [hc]; simp)]
    obtain ⟨us, e, h1, h2, h3, h4⟩ := h
    exact ⟨us, e, h1, h2, h3, fun j c u hc hu => hx _ _ (h4 j c u hc hu)⟩
  · rename_i e sz xs hc
    rw [hb (by rw [hc]; simp)]
    obtain ⟨us, h1, h2, h3, h4, h5, h6, h7, h8, h9⟩ := h
    exact ⟨us, h1, h2, h3, h4, h5, h6, h7, h8, fun i x j c hx' hj => let ⟨u, hu, hr⟩ := h9 i x j c hx' hj; ⟨u, hu, hx _ _ hr⟩⟩
  · rename_i es hc
    rw [hb (by rw [hc]; simp)]
    obtain ⟨ents, clk, h1, h2, h3⟩ := h
    exact ⟨ents, clk, h1, h2, fun i kv en hk he => ⟨hx _ _ (h3 i kv en hk he).1, hx _ _ (h3 i kv en hk he).2⟩⟩

/-- A new object, in a new block. -/
def Env.add (E : Env) (w' : World) (o : AObj) (blk κ0 : Nat) : Env :=
  { h := hset E.h E.nx o, ι := fun i => if i = E.nx then blk else E.ι i, κ := fun i => if i = E.nx then κ0 else E.κ i, w := w', nx := E.nx + 1 }

theorem Env.add_ext (hs : Sim E) {w' : World} {o : AObj} {blk κ0 : Nat} (hr : SameRest E.w w') (hsize : E.w.heap.size ≤ w'.heap.size) (hold : ∀ b, b < E.w.heap.size → w'.heap[b]? = E.w.heap[b]?) (hblk : E.w.heap.size ≤ blk) : Ext E (E.add w' o blk κ0) := by
  refine Ext.of (Nat.le_succ _) (fun id hid hd => ?_) hr hsize (fun b hb _ => hold b hb) (fun b hb hl => ?_)
  · have hne : id ≠ E.nx := by omega
    simp only [Env.add, hset, if_neg hne] at hd ⊢
    exact ⟨Shape.refl _, trivial, trivial⟩
  · obtain ⟨id, h1, h2⟩ := hl
    by_cases hne : id = E.nx
    · simp [Env.add, hne] at h2; omega
    · simp only [Env.add, hset, if_neg hne] at h1 h2
      exact ⟨id, h1, h2⟩

theorem Env.add_sim (hs : Sim E) {w' : World} {o : AObj} {blk κ0 : Nat} (hr : SameRest E.w w') (hsize : E.w.heap.size ≤ w'.heap.size) (hold : ∀ b, b < E.w.heap.size → w'.heap[b]? = E.w.heap[b]?) (hblk : E.w.heap.size ≤ blk) (hlt : blk < w'.heap.size)
    (ho : ObjRel (E.add w' o blk κ0) E.nx) : Sim (E.add w' o blk κ0) := by
  have hx := Env.add_ext (o := o) (κ0 := κ0) hs hr hsize hold hblk
  refine ⟨fun id => ?_, fun id hid => ?_, fun i j hi hj he => ?_, fun i hi => ?_⟩
  · by_cases hne : id = E.nx
    · rw [hne]; exact ho
    · refine (hs.obj id).keep (by simp [Env.add, hset, hne]) (by simp [Env.add, hne]) (by simp [Env.add, hne]) (fun hd => hold _ (hs.lt id hd)) hx.rel
  · have h1 : E.nx + 1 ≤ id := hid
    have hne : id ≠ E.nx := by omega
    simp only [Env.add, hset, if_neg hne]
    exact hs.nx id (by omega)
  · by_cases h1 : i = E.nx
    · by_cases h2 : j = E.nx
      · omega
      · simp only [Env.add, hset, if_neg h2] at hj
        simp [Env.add, h1, h2] at he
        have := hs.lt j hj
        omega
    · by_cases h2 : j = E.nx
      · simp only [Env.add, hset, if_neg h1] at hi
        simp [Env.add, h1, h2] at he
        have := hs.lt i hi
        omega
      · simp only [Env.add, hset, if_neg h1] at hi
        simp only [Env.add, hset, if_neg h2] at hj
        simp [Env.add, h1, h2] at he
        exact hs.inj i j hi hj he
  · by_cases h1 : i = E.nx
    · simp [Env.add, h1]; exact hlt
    · simp only [Env.add, hset, if_neg h1] at hi
      simp [Env.add, h1]
      exact Nat.lt_of_lt_of_le (hs.lt i hi) hsize

/-- An object's new state, in its block. -/
def Env.turn (E : Env) (w' : World) (id : Nat) (o : AObj) : Env := { E with h := hset E.h id o, w := w' }

theorem Env.turn_ext (hs : Sim E) {w' : World} {id : Nat} {o : AObj} (hd : E.h id ≠ .dead) (hsh : Shape (E.h id) o) (hr : SameRest E.w w') (hsize : w'.heap.size = E.w.heap.size) (hold : ∀ b, b ≠ E.ι id → w'.heap[b]? = E.w.heap[b]?) : Ext E (E.turn w' id o) := by
  refine Ext.of (Nat.le_refl _) (fun i hi hd' => ?_) hr (Nat.le_of_eq hsize.symm) (fun b hb hl => hold b (fun e => hl ⟨id, hd, e.symm⟩)) (fun b hb hl => ?_)
  · refine ⟨?_, rfl, rfl⟩
    by_cases hne : i = id
    · subst hne; simpa [Env.turn, hset] using hsh
    · simp only [Env.turn, hset, if_neg hne]; exact Shape.refl _
  · obtain ⟨i, h1, h2⟩ := hl
    by_cases hne : i = id
    · subst hne; exact ⟨i, hd, h2⟩
    · simp only [Env.turn, hset, if_neg hne] at h1
      exact ⟨i, h1, h2⟩

theorem Env.turn_sim (hs : Sim E) {w' : World} {id : Nat} {o : AObj} (hd : E.h id ≠ .dead) (hsh : Shape (E.h id) o) (hr : SameRest E.w w') (hsize : w'.heap.size = E.w.heap.size) (hold : ∀ b, b ≠ E.ι id → w'.heap[b]? = E.w.heap[b]?)
    (ho : ObjRel (E.turn w' id o) id) : Sim (E.turn w' id o) := by
  have hx := Env.turn_ext hs hd hsh hr hsize hold
  have hdd : ∀ i, (E.turn w' id o).h i ≠ .dead → E.h i ≠ .dead := fun i hi => by
    by_cases hne : i = id
    · subst hne; exact hd
    · simpa [Env.turn, hset, hne] using hi
  refine ⟨fun i => ?_, fun i hi => ?_, fun i j hi hj he => hs.inj i j (hdd i hi) (hdd j hj) he, fun i hi => ?_⟩
  · by_cases hne : i = id
    · rw [hne]; exact ho
    · exact (hs.obj i).keep (by simp [Env.turn, hset, hne]) rfl rfl (fun hdi => hold _ (fun e => hne (hs.inj i id hdi hd e))) hx.rel
  · have hne : i ≠ id := fun e => by subst e; exact hd (hs.nx i hi)
    simp only [Env.turn, hset, if_neg hne]
    exact hs.nx i hi
  · have := hs.lt i (hdd i hi)
    simp only [Env.turn]
    omega

/-- Objects are let go; the world stands but for the blocks of those let go. -/
theorem forget (hs : Sim E) {h' : Hp} (hsub : ∀ id, h' id = E.h id ∨ h' id = .dead) {w' : World} (hr : SameRest E.w w') (hsize : w'.heap.size = E.w.heap.size) (hold : ∀ b, (∀ id, h' id ≠ .dead → E.ι id ≠ b) → ¬ E.live b → w'.heap[b]? = E.w.heap[b]?)
    (hkeep : ∀ id, h' id ≠ .dead → w'.heap[E.ι id]? = E.w.heap[E.ι id]?) : Ext E { E with h := h', w := w' } ∧ Sim { E with h := h', w := w' } := by
  have hdd : ∀ i, h' i ≠ .dead → h' i = E.h i ∧ E.h i ≠ .dead := fun i hi => by
    rcases hsub i with h | h
    · exact ⟨h, h ▸ hi⟩
    · exact absurd h hi
  have hx : Ext E { E with h := h', w := w' } := by
    refine Ext.of (Nat.le_refl _) (fun i hi hd' => ⟨?_, rfl, rfl⟩) hr (Nat.le_of_eq hsize.symm) (fun b hb hl => hold b (fun id hid e => hl ⟨id, (hdd id hid).2, e⟩) hl) (fun b hb hl => ?_)
    · rw [show ({ E with h := h', w := w' } : Env).h i = E.h i from (hdd i hd').1]; exact Shape.refl _
    · obtain ⟨i, h1, h2⟩ := hl
      exact ⟨i, (hdd i h1).2, h2⟩
  refine ⟨hx, fun i => ?_, fun i hi => ?_, fun i j hi hj he => hs.inj i j (hdd i hi).2 (hdd j hj).2 he, fun i hi => ?_⟩
  · rcases hsub i with h | h
    · by_cases hd : h' i = .dead
      · unfold ObjRel; rw [show ({ E with h := h', w := w' } : Env).h i = .dead from hd]; trivial
      · exact (hs.obj i).keep h rfl rfl (fun _ => hkeep i hd) hx.rel
    · unfold ObjRel; rw [show ({ E with h := h', w := w' } : Env).h i = .dead from h]; trivial
  · rcases hsub i with h | h
    · exact h.trans (hs.nx i hi)
    · exact h
  · have := hs.lt i (hdd i hi).2
    show E.ι i < w'.heap.size
    omega

/-- Objects are let go, the world stands. -/
theorem forget' (hs : Sim E) {h' : Hp} (hsub : ∀ id, h' id = E.h id ∨ h' id = .dead) : Ext E { E with h := h' } ∧ Sim { E with h := h' } :=
  forget hs hsub (w' := E.w) ⟨rfl, rfl, rfl⟩ rfl (fun _ _ _ => rfl) (fun _ _ => rfl)

/-- The world has drawn. -/
theorem drew_ext (hs : Sim E) : Ext E { E with w := E.w.drew } ∧ Sim { E with w := E.w.drew } := by
  have := forget hs (h' := E.h) (fun _ => .inl rfl) (w' := E.w.drew) ⟨rfl, rfl, rfl⟩ rfl (fun _ _ _ => rfl) (fun _ _ => rfl)
  exact this

/-- An array let go: what a slice of it held, it holds for good. -/
theorem freeze_rel (hs : Sim E) {id off len : Nat} {e sz : Nat} {xs : List (List AV)} (hh : E.h id = .arr e sz xs) (hle : off + len ≤ xs.length) {h' : Hp} (hsub : ∀ i, h' i = E.h i ∨ h' i = .dead) (hdead : h' id = .dead) {v : Value} (hv : Rel E (.sl id off len) v) :
    Rel { E with h := h' } (.fz ((xs.drop off).take len)) v := by
  obtain ⟨hx, hs'⟩ := forget' hs hsub
  obtain ⟨b, cap, e1, hn, hp⟩ := hv.sl_inv
  obtain ⟨h1, h2, h3⟩ := hp e sz xs hh
  obtain ⟨us, hb, hl, hxk, hkm, hpos, hlen, hone, huo, hru⟩ := arr_row hs hh
  have hln : ((xs.drop off).take len).length = len := by simp; omega
  have hget : ∀ i y, ((xs.drop off).take len)[i]? = some y → xs[off + i]? = some y := fun i y hy => by
    rw [List.getElem?_take] at hy
    split at hy
    · rwa [List.getElem?_drop] at hy
    · cases hy
  have hmem : ∀ y ∈ (xs.drop off).take len, y ∈ xs := fun y hy => List.mem_of_mem_drop (List.mem_of_mem_take hy)
  have hid : E.h id ≠ .dead := by rw [hh]; simp
  have := Rel.fz (E := { E with h := h' }) ((xs.drop off).take len) b cap (E.ι id) (off * sz) sz (fun i j => us.getD ((off + i) * sz + j) undef)
    (fun hne => by
      have hpos' : 0 < ((xs.drop off).take len).length := List.length_pos_iff.2 hne
      refine ⟨?_, fun hl => ?_, hs.lt id hid⟩
      · rcases h3 with ⟨_, h5⟩ | h5
        · omega
        · exact h5
      · obtain ⟨i, hi1, hi2⟩ := hl
        have hi1' : h' i ≠ .dead := hi1
        have : E.h i ≠ .dead := by
          rcases hsub i with h | h
          · exact h ▸ hi1'
          · exact absurd h hi1'
        have := hs.inj i id this hid hi2
        subst this
        exact hi1' hdead)
    (by omega) (fun y hy => hlen y (hmem y hy)) (fun y hy => hone y (hmem y hy))
    (fun i y j c hy hj => by
      obtain ⟨u, hu, hr⟩ := hru (off + i) y j c (hget i y hy) hj
      show E.w.cell? _ = _
      rw [cell_row hb]
      have e : off * sz + i * sz + j = (off + i) * sz + j := by rw [Nat.add_mul]
      rw [e, hu]
      simp [List.getD, hu])
    (fun i y j c hy hj => by
      obtain ⟨u, hu, hr⟩ := hru (off + i) y j c (hget i y hy) hj
      simp only [List.getD, hu, Option.getD_some]
      exact hx.rel _ _ hr)
  rw [hln] at this
  rw [e1]
  exact this

end Go.AM
