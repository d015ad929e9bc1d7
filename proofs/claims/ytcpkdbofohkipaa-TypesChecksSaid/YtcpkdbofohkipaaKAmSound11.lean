/- AM, 14: conversions that make memory, calls; every operation. -/
import Derived.Test.YtcpkdbofohkipaaKAmSound10
set_option linter.unusedVariables false
set_option linter.unusedSimpArgs false
set_option linter.unusedSimpArgs false
set_option linter.unusedVariables false
namespace Go.AM
variable {P : Program} {N : Nat} {E : Env} {tm : Tm} {a : Act}

theorem ofConst_flat {v : Value} {r : AV} (h : ofConst v = some r) : r.flat = true := by
  unfold ofConst at h
  split at h
  · rename_i cs
    cases hm : cs.toList.mapM ofCell with
    | none => simp [hm] at h
    | some l => simp [hm] at h; subst h; rfl
  · have := (ofCell_rel (E := ⟨fun _ => .dead, fun _ => 0, fun _ => 0, default, 0⟩) h).2
    cases r <;> first | rfl | (simp [AV.one] at this)

theorem zeroOf_flat {t : TypeId} {z : AV} (h : zeroOf P t = some z) : z.flat = true := by
  unfold zeroOf at h
  cases hi : P.info? t with
  | none => simp [hi] at h
  | some i =>
    cases hz : i.zero with
    | none => simp [hi, hz] at h
    | some v => simp [hi, hz] at h; exact ofConst_flat h

theorem step_bfz (hs : Sim E) {o : Oper} {t e0 : TypeId} {x : Operand} (ho : o.op = .convert t t x) (hu : P.underlying t = some (.slice e0)) (he : isU8 P e0 = true) {ax : AX} (hx : cOpd N x = some ax) (ht : TmRel E N tm a) {K : AV → Hp → Prop}
    (h : AStep P (.bfz ax) K tm E.h) {next : Act → World → Prop} {Q : Exit → Act → World → Prop} (hk : Goes E K a o.dst next) : o.wp P a E.w next Q := by
  have hv := opd hx ht
  have he' : P.underlying e0 = some (.int .u8) := by
    unfold isU8 at he
    split at he
    · assumption
    · cases he
  simp only [AStep] at h
  split at h
  · rename_i id off len hev
    rw [hev] at hv
    obtain ⟨hoff, h⟩ := h
    split at h
    · rename_i e sz xs hh
      obtain ⟨hle, h⟩ := h
      obtain ⟨b, cap, e1, hn, hp⟩ := hv.sl_inv
      obtain ⟨h1, h2, h3⟩ := hp e sz xs hh
      obtain ⟨us, hb, hl, hxk, hkm, hpos, hlen, hone, huo, hru⟩ := arr_row hs hh
      have hd : E.h id ≠ .dead := by rw [hh]; simp
      have hlt := hs.lt id hd
      -- the world behind: the mark
      obtain ⟨w', hrun, hw1, hw2, hw3, hw4⟩ : ∃ w', (execOp a.eval o).run P E.w = .ok (.value (.slice b len cap)) w' ∧ SameRest E.w w' ∧ w'.heap.size = E.w.heap.size ∧ (∀ k, k ≠ E.ι id → w'.heap[k]? = E.w.heap[k]?) ∧ (∀ j, w'.cell? ⟨E.ι id, j, none⟩ = E.w.cell? ⟨E.ι id, j, none⟩) := by
        have hc : ∀ ad : Addr, (markStringish ad).run P E.w = .ok () (match E.w.shape? ad.block with | some (_, n) => E.w.freeze { block := ad.block, off := n } 1 | none => E.w) := by
          intro ad
          cases hsh : E.w.shape? ad.block with
          | none => simp [markStringish, hsh]
          | some p => obtain ⟨e', n⟩ := p; simp [markStringish, hsh]
        have hb' : b = some ⟨E.ι id, off * sz, none⟩ ∨ b = none ∨ ∃ ad, b = some ad := by cases b with | none => exact .inr (.inl rfl) | some ad => exact .inr (.inr ⟨ad, rfl⟩)
        rcases h3 with ⟨h4, h5⟩ | h4
        · -- a slice without room: its address may be any
          exfalso
          exact h4 hoff
        · subst h4
          have hshape : E.w.shape? (E.ι id) = some (e, us.length) := by simp [World.shape?, hb]
          refine ⟨E.w.freeze { block := E.ι id, off := us.length } 1, ?_, ⟨?_, ?_, ?_⟩, ?_, fun k hk' => ?_, fun j => ?_⟩
          · have := hc ⟨E.ι id, off * sz, none⟩
            simp only [hshape] at this
            simp [execOp, ho, e1, convert, run_underlying hu, run_underlying he', this]
          · simp [World.freeze]
          · simp [World.freeze]
          · simp [World.freeze]
          · simp [World.freeze]
          · simp [World.freeze, Array.getElem?_modify, Ne.symm hk']
          · have hget : (E.w.freeze { block := E.ι id, off := us.length } 1).heap[E.ι id]? = some (.cells us.toArray e (us.length, us.length + 1)) := by
              simp only [World.freeze, Nat.one_ne_zero, if_false, Array.getElem?_modify, if_pos]
              rw [hb]
              simp
            simp [World.cell?, hget, hb]
      have hsub : ∀ i, hset E.h id .dead i = E.h i ∨ hset E.h id .dead i = .dead := fun i => by simp only [hset]; split <;> simp
      obtain ⟨hx', hs'⟩ := forget hs (h' := hset E.h id .dead) hsub (w' := w') hw1 hw2 (fun k _ hl => hw3 k (fun e => hl ⟨id, hd, e.symm⟩)) (fun i hi => hw3 _ (fun e => by
        have hne : i ≠ id := fun e2 => by subst e2; simp [hset] at hi
        have : E.h i ≠ .dead := by simpa [hset, hne] using hi
        exact hne (hs.inj i id this hd e)))
      obtain ⟨hx0, hs0⟩ := forget' hs hsub
      have hfz := freeze_rel hs hh hle hsub (by simp [hset]) hv
      have hfz' : Rel { E with h := hset E.h id .dead, w := w' } (.fz ((xs.drop off).take len)) (a.eval x) := by
        obtain ⟨b0, cap0, blk, o0, sz0, us0, e0', hb0, hcap0, hs0', h10, hc0, hr0⟩ := hfz.fz_inv
        have hlenx : ((xs.drop off).take len).length = len := by simp; omega
        rw [e0']
        refine Rel.fz _ b0 cap0 (E.ι id) (off * sz) sz (fun i j => us.getD ((off + i) * sz + j) undef) (fun hne => ?_) hcap0 (fun y hy => hlen y (List.mem_of_mem_drop (List.mem_of_mem_take hy))) h10 (fun i y j c hy hj => ?_) (fun i y j c hy hj => ?_)
        · have hpos' : 0 < ((xs.drop off).take len).length := List.length_pos_iff.2 hne
          refine ⟨?_, fun hl => ?_, by show E.ι id < w'.heap.size; omega⟩
          · rw [e1] at e0'
            simp at e0'
            rcases h3 with ⟨_, h5⟩ | h5
            · omega
            · rw [← e0'.1]; exact h5
          · obtain ⟨i, hi1, hi2⟩ := hl
            have hi1' : hset E.h id .dead i ≠ .dead := hi1
            have hne' : i ≠ id := fun e2 => by subst e2; simp [hset] at hi1'
            have : E.h i ≠ .dead := by simpa [hset, hne'] using hi1'
            exact hne' (hs.inj i id this hd hi2)
        · have hy' : xs[off + i]? = some y := by
            rw [List.getElem?_take] at hy
            split at hy
            · rwa [List.getElem?_drop] at hy
            · cases hy
          obtain ⟨u, hu', hr⟩ := hru (off + i) y j c hy' hj
          show w'.cell? _ = _
          rw [hw4, cell_row hb]
          have e : off * sz + i * sz + j = (off + i) * sz + j := by rw [Nat.add_mul]
          rw [e, hu']
          simp [List.getD, hu']
        · have hy' : xs[off + i]? = some y := by
            rw [List.getElem?_take] at hy
            split at hy
            · rwa [List.getElem?_drop] at hy
            · cases hy
          obtain ⟨u, hu', hr⟩ := hru (off + i) y j c hy' hj
          simp only [List.getD, hu', Option.getD_some]
          exact hx'.rel _ _ hr
      rw [e1] at hfz'
      exact wp_value hrun (hk _ _ _ hs' hx' hfz' h)
    · exact h.elim
  · exact h.elim

end Go.AM
