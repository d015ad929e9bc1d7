/- AM: what is handed in: any data of numbers, bools, strings, slices and structs reads as values without addresses. -/
import Derived.Test.YtghidedifiolbaaGreatK07
import Derived.ChangeSlices
import Derived.Below
import Derived.WideShapes
import Derived.ChangeOld
set_option linter.unusedVariables false
set_option linter.unusedSimpArgs false
namespace Go.AM
open Go.ChangeShapes Go.WideShapes Go.RowKit

/-- Only such types, laid out one behind another. -/
def contigB (P : Program) : List Field → Nat → Nat → Bool
  | [], o, n => o == n
  | f :: fs, o, n => f.offset == o && contigB P fs (o + P.cellsOf f.type) n
def plainT (P : Program) : Nat → TypeId → Bool
  | 0, _ => false
  | k + 1, t => match P.underlying t with
    | some .bool | some (.int _) | some .string => true
    | some (.slice e) => plainT P k e && decide (0 < P.cellsOf e)
    | some (.struct fs) => contigB P fs.toList 0 (P.cellsOf t) && fs.toList.all (fun f => plainT P k f.type)
    | _ => false

/-- What such data is. -/
inductive ShV (P : Program) : TypeId → List AV → Prop
  | bool (t : TypeId) (b : Bool) (ht : P.underlying t = some .bool) : ShV P t [.bool b]
  | int (t : TypeId) (k : IntKind) (n : Int) (ht : P.underlying t = some (.int k)) (hw : (Lit.int k n).wf = true) : ShV P t [.int k n]
  | str (t : TypeId) (s : List UInt8) (ht : P.underlying t = some .string) (hl : s.length ≤ maxLen) : ShV P t [.str s]
  | nl (t e : TypeId) (ht : P.underlying t = some (.slice e)) : ShV P t [.nl]
  | fz (t e : TypeId) (xs : List (List AV)) (ht : P.underlying t = some (.slice e)) (hl : xs.length ≤ maxLen) (hz : ∀ x ∈ xs, x.length = P.cellsOf e) (hx : ∀ x ∈ xs, ShV P e x) : ShV P t [.fz xs]
  | st (t : TypeId) (fs : Array Field) (cs : List AV) (ht : P.underlying t = some (.struct fs)) (hl : cs.length = P.cellsOf t) (hf : ∀ f ∈ fs.toList, ShV P f.type ((cs.drop f.offset).take (P.cellsOf f.type))) : ShV P t cs

section
variable {P : Program} {t : TypeId} {cs : List AV}
theorem ShV.bool_inv (ht : P.underlying t = some .bool) (h : ShV P t cs) : ∃ b, cs = [.bool b] := by
  cases h with
  | bool _ b hu => exact ⟨_, rfl⟩
  | int _ k n hu hw => rw [ht] at hu; cases hu
  | str _ s hu hl => rw [ht] at hu; cases hu
  | nl _ e hu => rw [ht] at hu; cases hu
  | fz _ e xs hu hl hz hx => rw [ht] at hu; cases hu
  | st _ fs2 _ hu hl hf => rw [ht] at hu; cases hu
theorem ShV.int_inv {k : IntKind} (ht : P.underlying t = some (.int k)) (h : ShV P t cs) : ∃ n, cs = [.int k n] ∧ (Lit.int k n).wf = true := by
  cases h with
  | bool _ b hu => rw [ht] at hu; cases hu
  | int _ k' n hu hw => rw [ht] at hu; cases hu; exact ⟨_, rfl, hw⟩
  | str _ s hu hl => rw [ht] at hu; cases hu
  | nl _ e hu => rw [ht] at hu; cases hu
  | fz _ e xs hu hl hz hx => rw [ht] at hu; cases hu
  | st _ fs2 _ hu hl hf => rw [ht] at hu; cases hu
theorem ShV.str_inv (ht : P.underlying t = some .string) (h : ShV P t cs) : ∃ s, cs = [.str s] ∧ s.length ≤ maxLen := by
  cases h with
  | bool _ b hu => rw [ht] at hu; cases hu
  | int _ k n hu hw => rw [ht] at hu; cases hu
  | str _ s hu hl => exact ⟨_, rfl, hl⟩
  | nl _ e hu => rw [ht] at hu; cases hu
  | fz _ e xs hu hl hz hx => rw [ht] at hu; cases hu
  | st _ fs2 _ hu hl hf => rw [ht] at hu; cases hu
theorem ShV.sl_inv {e : TypeId} (ht : P.underlying t = some (.slice e)) (h : ShV P t cs) : cs = [.nl] ∨ ∃ xs, cs = [.fz xs] ∧ xs.length ≤ maxLen ∧ (∀ x ∈ xs, x.length = P.cellsOf e) ∧ ∀ x ∈ xs, ShV P e x := by
  cases h with
  | bool _ b hu => rw [ht] at hu; cases hu
  | int _ k n hu hw => rw [ht] at hu; cases hu
  | str _ s hu hl => rw [ht] at hu; cases hu
  | nl _ e hu => exact .inl rfl
  | fz _ e xs hu hl hz hx => rw [ht] at hu; cases hu; exact .inr ⟨_, rfl, hl, hz, hx⟩
  | st _ fs2 _ hu hl hf => rw [ht] at hu; cases hu
end

/-- A world in which nothing is the call's own. -/
def env0 (w : World) : Env := { h := fun _ => .dead, ι := fun _ => 0, κ := fun _ => 0, w := w, nx := 0 }
theorem env0_sim (w : World) : Sim (env0 w) := ⟨fun id => trivial, fun _ _ => rfl, fun i j h => absurd rfl h, fun i h => absurd rfl h⟩
theorem env0_live (w : World) (b : Nat) : ¬ (env0 w).live b := by rintro ⟨id, hd, _⟩; exact hd rfl
section
variable {P : Program} {w : World} {H : Type} {enc : TypeId × Value → H} {spare : Nat → Bool} {held : Bool}
theorem RelL.len {E : Env} {a : List AV} {b : List Value} (h : RelL E a b) : b.length = a.length := h.1
theorem RelL.one {E : Env} {a : AV} {v : Value} (h : Rel E a v) : RelL E [a] [v] := ⟨rfl, fun j c u hc hu => by
  cases j with
  | zero => simp at hc hu; subst hc; subst hu; exact h
  | succ j => simp at hc⟩
/-- The fields of a struct, one behind another. -/
theorem fields_in {cs : List Value} {n : Nat} (hn : cs.length = n) (Q : TypeId → List AV → Prop) : ∀ (fs : List Field) (o : Nat), contigB P fs o n = true →
    (∀ f ∈ fs, ∃ avs, RelL (env0 w) avs ((cs.drop f.offset).take (P.cellsOf f.type)) ∧ (∀ c ∈ avs, c.one = true) ∧ Q f.type avs) →
    o ≤ n ∧ ∃ avs, RelL (env0 w) avs (cs.drop o) ∧ (∀ c ∈ avs, c.one = true) ∧ ∀ f ∈ fs, o ≤ f.offset ∧ Q f.type ((avs.drop (f.offset - o)).take (P.cellsOf f.type))
  | [], o, hc, _ => by
    have e : o = n := by simpa [contigB] using hc
    refine ⟨Nat.le_of_eq e, [], ?_, (fun c hc => by cases hc), (fun f hf => by cases hf)⟩
    rw [List.drop_eq_nil_of_le (by omega)]
    exact RelL.nil _
  | f :: fs, o, hc, hf => by
    simp only [contigB, Bool.and_eq_true, beq_iff_eq] at hc
    obtain ⟨e, hc⟩ := hc
    obtain ⟨hle, a2, r2, o2, q2⟩ := fields_in hn Q fs (o + P.cellsOf f.type) hc (fun g hg => hf g (by simp [hg]))
    obtain ⟨a1, r1, o1, q1⟩ := hf f (by simp)
    rw [e] at r1
    have hl1 : a1.length = P.cellsOf f.type := by
      have := r1.1
      simp at this
      omega
    refine ⟨by omega, a1 ++ a2, ?_, fun c hc => ?_, fun g hg => ?_⟩
    · have hsp : cs.drop o = (cs.drop o).take (P.cellsOf f.type) ++ cs.drop (o + P.cellsOf f.type) := by
        rw [← List.drop_drop, List.take_append_drop]
      rw [hsp]
      exact r1.append r2
    · rcases List.mem_append.1 hc with h | h
      · exact o1 c h
      · exact o2 c h
    · rcases List.mem_cons.1 hg with rfl | hg
      · refine ⟨by omega, ?_⟩
        rw [e, Nat.sub_self, List.drop_zero, List.take_append_of_le_length (by omega), List.take_of_length_le (by omega)]
        exact q1
      · obtain ⟨h1, h2⟩ := q2 g hg
        refine ⟨by omega, ?_⟩
        rw [List.drop_append, List.drop_eq_nil_of_le (by omega), List.nil_append, hl1]
        rw [show g.offset - o - P.cellsOf f.type = g.offset - (o + P.cellsOf f.type) by omega]
        exact h2
/-- WHAT IS HANDED IN. -/
theorem trod_in : ∀ (k : Nat) (fuel : Nat) (t : TypeId) (cs : List Value) (x : DataW H × List MemPlace), plainT P k t = true → DataW.trod enc P w 0 spare held fuel t cs = some x →
    ∃ avs, RelL (env0 w) avs cs ∧ (∀ c ∈ avs, c.one = true) ∧ ShV P t avs
  | 0, _, _, _, _, h, _ => by simp [plainT] at h
  | k + 1, fuel, t, cs, x, hp, h => by
    rw [plainT] at hp
    split at hp
    · rename_i ht
      obtain ⟨b, rfl, _⟩ := DataW.trod_bool ht h
      exact ⟨[.bool b], RelL.one (.bool b), by simp [AV.one], .bool t b ht⟩
    · rename_i kd ht
      obtain ⟨n, rfl, _, hw⟩ := DataW.trod_int ht h
      exact ⟨[.int kd n], RelL.one (.int kd n), by simp [AV.one], .int t kd n ht hw⟩
    · rename_i ht
      obtain ⟨s, rfl, _, hs⟩ := DataW.trod_string ht h
      refine ⟨[.str s.data.toList], RelL.one (.str s.data.toList), by simp [AV.one], .str t _ ht ?_⟩
      have : s.data.toList.length = s.size := Array.length_toList
      omega
    · rename_i e ht
      simp only [Bool.and_eq_true, decide_eq_true_eq] at hp
      rcases DataW.trod_slice ht h with ⟨rfl, _⟩ | ⟨a, len, cap, elems, rest, n, rfl, rfl, _, _, hlc, hm, hel, hget, _, _⟩
      · exact ⟨[.nl], RelL.one (.nl none), by simp [AV.one], .nl t e ht⟩
      · have each : ∀ i, i < len → ∃ avs us, w.cells? 0 (a.add (i * P.cellsOf e)) (P.cellsOf e) = some us ∧ RelL (env0 w) avs us ∧ (∀ c ∈ avs, c.one = true) ∧ ShV P e avs := fun i hi => by
          have h1 := hget i hi
          rw [List.getElem?_eq_getElem (by omega), Option.bind_eq_some_iff] at h1
          obtain ⟨us, h2, h3⟩ := h1
          obtain ⟨avs, r, o, s⟩ := trod_in k n e us _ hp.1 h3
          exact ⟨avs, us, h2, r, o, s⟩
        have hch : ∃ (xs : List (List AV)) (uss : List (List Value)), xs.length = len ∧ uss.length = len ∧ ∀ i y, xs[i]? = some y → ∃ us, uss[i]? = some us ∧ w.cells? 0 (a.add (i * P.cellsOf e)) (P.cellsOf e) = some us ∧ RelL (env0 w) y us ∧ (∀ c ∈ y, c.one = true) ∧ ShV P e y := by
          have gen : ∀ m, m ≤ len → ∃ (xs : List (List AV)) (uss : List (List Value)), xs.length = m ∧ uss.length = m ∧ ∀ i y, xs[i]? = some y → ∃ us, uss[i]? = some us ∧ w.cells? 0 (a.add (i * P.cellsOf e)) (P.cellsOf e) = some us ∧ RelL (env0 w) y us ∧ (∀ c ∈ y, c.one = true) ∧ ShV P e y := by
            intro m
            induction m with
            | zero => exact fun _ => ⟨[], [], rfl, rfl, fun i y hy => by simp at hy⟩
            | succ m ih =>
              intro hm
              obtain ⟨xs, uss, h1, h2, h3⟩ := ih (by omega)
              obtain ⟨avs, us, h4, h5, h6, h7⟩ := each m (by omega)
              refine ⟨xs ++ [avs], uss ++ [us], by simp [h1], by simp [h2], fun i y hy => ?_⟩
              by_cases hi : i < m
              · rw [List.getElem?_append_left (by omega)] at hy
                obtain ⟨us', h8, h9⟩ := h3 i y hy
                exact ⟨us', by rw [List.getElem?_append_left (by omega)]; exact h8, h9⟩
              · have hi2 : i = m := by
                  have := (List.getElem?_eq_some_iff.1 hy).1
                  simp at this; omega
                subst hi2
                rw [List.getElem?_append_right (by omega), h1, Nat.sub_self] at hy
                simp at hy; subst hy
                refine ⟨us, ?_, h4, h5, h6, h7⟩
                rw [List.getElem?_append_right (by omega), h2, Nat.sub_self]; rfl
          exact gen len (Nat.le_refl _)
        obtain ⟨xs, uss, hl1, hl2, hx⟩ := hch
        have hxm : ∀ y ∈ xs, y.length = P.cellsOf e ∧ (∀ c ∈ y, c.one = true) ∧ ShV P e y := fun y hy => by
          obtain ⟨i, hi⟩ := List.getElem?_of_mem hy
          obtain ⟨us, _, h4, h5, h6, h7⟩ := hx i y hi
          have h8 := (World.cells?_some h4).2.1
          exact ⟨by rw [← h5.1]; exact h8, h6, h7⟩
        have hcell : ∀ (i : Nat) (y : List AV) (j : Nat) (c : AV), xs[i]? = some y → y[j]? = some c → ∃ u, (uss.getD i [])[j]? = some u ∧ w.cell? ((a.add (i * P.cellsOf e)).add j) = some u ∧ Rel (env0 w) c u := fun i y j c hy hc => by
          obtain ⟨us, h3, h4, h5, _, _⟩ := hx i y hy
          have hj : j < us.length := by rw [h5.1]; exact (List.getElem?_eq_some_iff.1 hc).1
          obtain ⟨_, h6, h7⟩ := World.cells?_some h4
          have h8 := h7 j (by omega)
          have h9 : us[j]? = some us[j] := List.getElem?_eq_getElem hj
          refine ⟨us[j], by simp [List.getD, h3], by rw [h8, h9], h5.2 j c _ hc h9⟩
        have hsp : 0 < len → a.spot = none ∧ a.block < w.heap.size := fun h0 => by
          have h1 : xs[0]? = some xs[0] := List.getElem?_eq_getElem (by omega)
          obtain ⟨us, h3, h4, h5, _, _⟩ := hx 0 _ h1
          obtain ⟨_, h6, h7⟩ := World.cells?_some h4
          have h8 := h7 0 hp.2
          have h9 : us[0]? = some us[0] := List.getElem?_eq_getElem (by omega)
          rw [h9] at h8
          refine ⟨?_, ?_⟩
          · have := World.cell?_spot h8
            simpa [Addr.add] using this
          · have := block_of_cell h8
            simpa [Addr.add] using this
        have hrel : Rel (env0 w) (.fz xs) (.slice (some a) xs.length cap) := by
          refine .fz xs _ cap a.block a.off (P.cellsOf e) (fun i j => ((uss.getD i [])[j]?).getD undef) (fun hne => ?_) (by omega) (fun y hy => (hxm y hy).1) (fun y hy => (hxm y hy).2.1) (fun i y j c hy hc => ?_) (fun i y j c hy hc => ?_)
          · have h0 : 0 < len := by rw [← hl1]; exact List.length_pos_iff.2 hne
            obtain ⟨h1, h2⟩ := hsp h0
            refine ⟨?_, env0_live w _, h2⟩
            obtain ⟨b, o, s⟩ := a
            simp only at h1; subst h1; rfl
          · obtain ⟨u, h1, h2, _⟩ := hcell i y j c hy hc
            have h0 : 0 < len := by have := (List.getElem?_eq_some_iff.1 hy).1; omega
            obtain ⟨h3, _⟩ := hsp h0
            rw [h1]
            obtain ⟨b, o, s⟩ := a
            simp only at h3; subst h3
            have h4 : (((Addr.mk b o none).add (i * P.cellsOf e)).add j) = ⟨b, o + i * P.cellsOf e + j, none⟩ := by
              simp only [Addr.add]
              split <;> split <;> simp_all <;> omega
            rw [h4] at h2
            exact h2
          · obtain ⟨u, h1, _, h3⟩ := hcell i y j c hy hc
            rw [h1]; exact h3
        rw [hl1] at hrel
        exact ⟨[.fz xs], RelL.one hrel, by simp [AV.one], .fz t e xs ht (by omega) (fun y hy => (hxm y hy).1) (fun y hy => (hxm y hy).2.2)⟩
    · rename_i fs ht
      simp only [Bool.and_eq_true, List.all_eq_true] at hp
      obtain ⟨xs, n, rfl, _, hlen, hxl, hget⟩ := DataW.trod_struct ht h
      obtain ⟨_, avs, r, o, q⟩ := fields_in (P := P) (w := w) hlen (ShV P) fs.toList 0 hp.1 (fun f hf => by
        obtain ⟨i, hi⟩ := List.getElem?_of_mem hf
        have h1 := hget i f (by simpa using hi)
        have hi2 : i < xs.length := by
          have := (List.getElem?_eq_some_iff.1 hi).1
          simp at this; omega
        rw [List.getElem?_eq_getElem hi2] at h1
        exact trod_in k n f.type _ _ (hp.2 f hf) h1)
      rw [List.drop_zero] at r
      exact ⟨avs, r, o, .st t fs avs ht (by rw [← hlen, r.1]) fun f hf => by have := (q f hf).2; simpa using this⟩
    · cases hp
end

/-! ### A law's arguments -/
section
variable {P : Program} {w : World} {H : Type} {enc : TypeId × Value → H} {spare : Nat → Bool} {held : Bool} {t : TypeId} {v : Value} {d : DataW H} {ps : List MemPlace}
theorem arg_one {k : Nat} (hp : plainT P k t = true) (hv : v.cells = #[v]) (hd : DataW.Trod enc P w 0 spare held t v d ps) : ∃ av, Rel (env0 w) av v ∧ ShV P t [av] := by
  obtain ⟨fuel, hf⟩ := hd
  rw [hv] at hf
  obtain ⟨avs, r, o, s⟩ := trod_in k fuel t _ _ hp hf
  have hl := r.1
  match avs, hl, r, s with
  | [av], _, r, s => exact ⟨av, r.2 0 av v rfl rfl, s⟩
theorem arg_slice {k : Nat} {e : TypeId} (ht : P.underlying t = some (.slice e)) (hp : plainT P k t = true) {r : Reach} {b0 : Nat} (hok : Value.okWide P w r b0 t v) (hd : DataW.Trod enc P w 0 spare held t v d ps) : ∃ av, Rel (env0 w) av v ∧ ShV P t [av] := by
  obtain ⟨a, l, c, rfl⟩ := Go.WideShapes.okWide_slice ht hok
  exact arg_one hp rfl hd
theorem arg_int {k : Nat} {e : IntKind} (ht : P.underlying t = some (.int e)) (hp : plainT P k t = true) {r : Reach} {b0 : Nat} (hok : Value.okWide P w r b0 t v) (hd : DataW.Trod enc P w 0 spare held t v d ps) : ∃ av, Rel (env0 w) av v ∧ ShV P t [av] := by
  obtain ⟨a, rfl⟩ := Go.WideShapes.okWide_int ht hok
  exact arg_one hp rfl hd
theorem ShV.bytes {e : TypeId} {av : AV} (ht : P.underlying t = some (.slice e)) (he : P.underlying e = some (.int .u8)) (h : ShV P t [av]) : ∃ b : List UInt8, av = .fz (bytesAV b) ∨ (b = [] ∧ av = .nl) := by
  rcases h.sl_inv ht with h | ⟨xs, h, hl, hz, hx⟩
  · cases h; exact ⟨[], .inr ⟨rfl, rfl⟩⟩
  · cases h
    refine ⟨xs.map fun x => match x with | [.int _ n] => UInt8.ofNat n.toNat | _ => 0, .inl ?_⟩
    congr 1
    simp only [bytesAV, List.map_map]
    refine (List.map_id xs).symm.trans (List.map_congr_left fun x hm => ?_)
    obtain ⟨n, rfl, hw⟩ := (hx x hm).int_inv he
    simp [Lit.wf, IntKind.min, IntKind.max, IntKind.bits, IntKind.signed] at hw
    have : n.toNat < 256 := by omega
    simp
    omega
/-- A law that returns true, as a call. -/
theorem walk_of {f : FuncId} {avs : List AV} {vs : List Value} (hc : ACalls P f avs (fun _ => .dead) (fun r _ => r = .bool true)) (hr : RelL (env0 w) avs vs) : Calls P f vs.toArray w fun e w' => e = .returned (.bool true) ∧ Below w.heap.size w w' := by
  refine (hc.2 (env0 w) vs (env0_sim w) rfl hr).mono ?_
  rintro e w' ⟨v, r, E', rfl, rfl, hs', hx, hrel, rfl⟩
  refine ⟨by rw [hrel.bool_inv], hx.os, hx.tape, hx.output, hx.size, fun k hk => hx.block k hk (env0_live w k)⟩
theorem RelL.cons {E : Env} {a : AV} {l : List AV} {u : Value} {us : List Value} (h : Rel E a u) (k : RelL E l us) : RelL E (a :: l) (u :: us) := (RelL.one h).append k
end
end Go.AM
