/- AM: how many slots are bound; the flat program is right; one with something turned. -/
import Derived.Test.YtcpkdbofohkipaaGreatK11
set_option linter.unusedVariables false
set_option linter.unusedSimpArgs false
namespace Go.AM

section
variable (p : List Df)
theorem bindsC_mk (op slot slot2 func prim : Int) (lit : Vl) (atoms : List Atm) (args : List Cd) : bindsC (.mk op slot slot2 func prim lit atoms args) = (if op = 8 ∨ op = 9 then 1 else if op = 7 then 2 else 0) + bindsL args := by rw [bindsC]
theorem lets_binds {names : Nms} {c : Cd} : ∀ (l : List Ex) (as : List Atm) (n : Int), as.length = l.length → (∀ e ∈ l, ∀ n : Int, (bindsC (codeS p names e n).1 : Int) = (codeS p names e n).2 - n) →
    (bindsC (letsS p names c l as n).1 : Int) = bindsC c + nonAt names l + ((letsS p names c l as n).2 - n)
  | [], as, n, hl, _ => by
    cases as with
    | nil => simp only [letsS, nonAt]; omega
    | cons a as => simp at hl
  | e :: l, [], n, hl, _ => by simp at hl
  | e :: l, a :: as, n, hl, hw => by
    have hl' : as.length = l.length := by simpa using hl
    simp only [letsS, nonAt]
    by_cases ha : (atomS names e).isSome = true
    · simp only [ha, if_true]
      rw [lets_binds l as n hl' (fun e he => hw e (by simp [he]))]
      omega
    · rw [if_neg ha, if_neg ha]
      have h1 := hw e (by simp) n
      have h2 := lets_binds (names := names) (c := c) l as (codeS p names e n).2 hl' (fun e he => hw e (by simp [he]))
      simp [bindsC_mk, bindsL]
      omega
theorem all_binds {names : Nms} : ∀ (l : List Ex) (n : Int), (∀ e ∈ l, ∀ n : Int, (bindsC (codeS p names e n).1 : Int) = (codeS p names e n).2 - n) → (bindsL (allS p names l n).1 : Int) = (allS p names l n).2 - n
  | [], n, _ => by simp [allS, bindsL]
  | e :: l, n, hw => by
    have h1 := hw e (by simp) n
    have h2 := all_binds (names := names) l (codeS p names e n).2 (fun e he => hw e (by simp [he]))
    simp only [allS, bindsL]; omega
theorem codes_binds : ∀ (k : Nat) (e : Ex) (names : Nms) (n : Int) (hi : Int), e.size ≤ k → e.fine hi → (bindsC (codeS p names e n).1 : Int) = (codeS p names e n).2 - n
  | 0, e, _, _, _, hk, _ => by have := e.size_pos; omega
  | k + 1, e, names, n, hi, hk, hf => by
    cases ha : atomS names e with
    | some a =>
      rw [codeS_some1 ha]
      split <;> simp [bindsC_mk, bindsL]
    | none =>
      cases e with
      | mk op name tail ty re im args pos =>
      have hsz : (Ex.mk op name tail ty re im args pos).size = 1 + Ex.sizeL args := rfl
      have hfa : Ex.fineL hi args := hf.2.2.2.2
      have har : arOK op args.length := hf.1
      have ih : ∀ e ∈ args, ∀ (names : Nms) (n : Int), (bindsC (codeS p names e n).1 : Int) = (codeS p names e n).2 - n := fun e he names n => codes_binds k e names n hi (by have := Ex.size_mem he; omega) (Ex.fineL_mem hfa he)
      have hnx := atomsL_next names args n
      have hal := atomsL_length names args n
      rw [codeS]
      simp only [ha]
      split
      · simp [bindsC_mk, bindsL]
      split
      · rw [lets_binds p args _ _ hal (fun e he n => ih e he names n)]; simp [bindsC_mk, bindsL]; omega
      split
      · rw [lets_binds p args _ _ hal (fun e he n => ih e he names n)]; simp [bindsC_mk, bindsL]; omega
      split
      · have := all_binds p args n (fun e he n => ih e he names n)
        simp [bindsC_mk, this]
      split
      · rename_i o20
        subst o20
        simp [arOK] at har
        obtain ⟨a, b, d, rfl⟩ : ∃ a b d, args = [a, b, d] := by
          match args, har with
          | [a, b, d], _ => exact ⟨a, b, d, rfl⟩
        have i1 := ih a (by simp) names n
        have i2 := ih b (by simp) names (codeS p names a n).2
        have i3 := ih d (by simp) (bindN (bindN names name (codeS p names b (codeS p names a n).2).2) tail ((codeS p names b (codeS p names a n).2).2 + 1)) ((codeS p names b (codeS p names a n).2).2 + 2)
        simp [caseS, bindsC_mk, bindsL]; omega
      split
      · have := all_binds p (names := bindN names name n) args (n + 1) (fun e he m => ih e he (bindN names name n) m)
        simp [bindsC_mk]; omega
      split
      · rename_i o22
        subst o22
        simp [arOK] at har
        obtain ⟨a, b, rfl⟩ : ∃ a b, args = [a, b] := by
          match args, har with
          | [a, b], _ => exact ⟨a, b, rfl⟩
        have i1 := ih a (by simp) names n
        have i2 := ih b (by simp) (bindN names name (codeS p names a n).2) ((codeS p names a n).2 + 1)
        simp [strictS, bindsC_mk, bindsL]; omega
      · have := all_binds p args n (fun e he n => ih e he names n)
        simp [bindsC_mk, this]
end
theorem paramN_in : ∀ {l : List Pm} {i : Int} {x : Bytes × Int}, x ∈ paramN l i → i ≤ x.2 ∧ x.2 < i + l.length
  | [], _, _, h => by cases h
  | y :: l, i, x, h => by
    simp only [paramN, List.mem_cons] at h
    rcases h with rfl | h
    · simp only [List.length_cons]; omega
    · have := paramN_in h; simp only [List.length_cons]; omega
/-- The slots of a function at its start. -/
def startS (P b : Nat) : List Int := List.replicate P 1 ++ List.replicate b 0
theorem start_map (l : List Int) (b : Nat) : l.map (fun _ => (1 : Int)) ++ List.replicate b 0 = startS l.length b := by
  rw [startS]; congr 1
  induction l with
  | nil => rfl
  | cons a l ih => simp [List.replicate_succ, ih]
theorem funcC_eq (ps : List Nat) (s : Sup) : funcC ps s = (typeOK s.ty && s.params.all typeOK && decide (s.slots = s.params.length + bindsC s.code) && (rightC ps s.params.length s.code (startS s.params.length (bindsC s.code))).isSome) := by
  rw [funcC, start_map]
theorem typeOK_of {t : Int} (h : tyOK t) : typeOK t = true := by
  rcases h with rfl | rfl | rfl <;> rfl
def plens (p : List Df) : List Nat := p.map fun f => f.params.length
theorem sup_right {p : List Df} (hf : FineP p) (hs : faultsS p = []) {f : Df} (hm : f ∈ p) : ∃ sl', rightC (plens p) (supS p f).params.length (supS p f).code (startS (supS p f).params.length (bindsC (supS p f).code)) = some sl' := by
  obtain ⟨hi, hfi⟩ := fineP_mem hf.fine hm
  have hsc := check06_sc hs f hm
  have hb := codes_binds p _ f.body (paramN f.params 0) f.params.length hi (Nat.le_refl _) hfi.body
  have hpl : (supS p f).params.length = f.params.length := by simp [supS]
  have hcode : (supS p f).code = (codeS p (paramN f.params 0) f.body f.params.length).1 := rfl
  rw [hpl, hcode]
  have hnext := codeS_next p f.body (paramN f.params 0) f.params.length
  obtain ⟨sl', r, _⟩ := codes_right (p := p) (P := f.params.length) _ f.body (paramN f.params 0) f.params.length hi (Nat.le_refl _) hfi.body hsc (Int.le_refl _) (startS f.params.length (bindsC (codeS p (paramN f.params 0) f.body f.params.length).1))
    (fun x hx => by
      have := paramN_in hx
      refine ⟨by omega, ?_⟩
      rw [startS, List.getElem?_append_left (by simp; omega), List.getElem?_replicate, if_pos (by omega)])
    (fun k h1 h2 => by
      rw [startS, List.getElem?_append_right (by simp; omega), List.getElem?_replicate, if_pos (by simp; omega)])
  exact ⟨sl', r⟩
theorem supS_slots {p : List Df} (hf : FineP p) {f : Df} (hm : f ∈ p) : (supS p f).slots = (supS p f).params.length + bindsC (supS p f).code := by
  obtain ⟨hi, hfi⟩ := fineP_mem hf.fine hm
  have hb := codes_binds p _ f.body (paramN f.params 0) f.params.length hi (Nat.le_refl _) hfi.body
  have hpl : (supS p f).params.length = f.params.length := by simp [supS]
  have hcode : (supS p f).code = (codeS p (paramN f.params 0) f.body f.params.length).1 := rfl
  have hslots : (supS p f).slots = (codeS p (paramN f.params 0) f.body f.params.length).2 := rfl
  rw [hpl, hcode, hslots]; omega
theorem supS_types {p : List Df} (hf : FineP p) {f : Df} (hm : f ∈ p) : typeOK (supS p f).ty = true ∧ (supS p f).params.all typeOK = true := by
  obtain ⟨hi, hfi⟩ := fineP_mem hf.fine hm
  refine ⟨typeOK_of hfi.ty, ?_⟩
  rw [List.all_eq_true]
  intro t ht
  obtain ⟨x, hx, rfl⟩ := List.mem_map.1 ht
  exact typeOK_of (hfi.params x hx).ty
theorem supS_func {p : List Df} (hf : FineP p) (hs : faultsS p = []) {f : Df} (hm : f ∈ p) : funcC (plens p) (supS p f) = true := by
  obtain ⟨sl', r⟩ := sup_right hf hs hm
  obtain ⟨t1, t2⟩ := supS_types hf hm
  rw [funcC_eq, t1, t2, r, decide_eq_true (supS_slots hf hm)]
  rfl
/-- When all is right. -/
theorem checkC_iff (ps : List Nat) : ∀ (l : List Sup) (seen : List Bytes), checkC ps seen l = true ↔ (∀ s ∈ l, funcC ps s = true) ∧ (l.map Sup.name).Nodup ∧ ∀ s ∈ l, s.name ∉ seen
  | [], seen => by simp [checkC]
  | s :: l, seen => by
    rw [checkC, Bool.and_eq_true, Bool.and_eq_true, checkC_iff ps l, decide_eq_true_eq]
    constructor
    · rintro ⟨⟨h1, h2⟩, h3, h4, h5⟩
      refine ⟨fun x hx => ?_, ?_, fun x hx => ?_⟩
      · rcases List.mem_cons.1 hx with rfl | hx
        · exact h2
        · exact h3 x hx
      · rw [List.map_cons, List.nodup_cons]
        refine ⟨fun hm => ?_, h4⟩
        obtain ⟨x, hx, e⟩ := List.mem_map.1 hm
        exact h5 x hx (by simp [e])
      · rcases List.mem_cons.1 hx with rfl | hx
        · exact h1
        · exact fun h => h5 x hx (by simp [h])
    · rintro ⟨h1, h2, h3⟩
      rw [List.map_cons, List.nodup_cons] at h2
      refine ⟨⟨h3 s (by simp), h1 s (by simp)⟩, fun x hx => h1 x (by simp [hx]), h2.2, fun x hx hm => ?_⟩
      rw [List.mem_append, List.mem_singleton] at hm
      rcases hm with hm | hm
      · exact h3 x (by simp [hx]) hm
      · exact h2.1 (by rw [← hm]; exact List.mem_map_of_mem hx)
theorem coreC_0 {l : List Sup} (hn : l ≠ []) (h1 : ∀ s ∈ l, funcC (l.map fun s => s.params.length) s = true) (h2 : (l.map Sup.name).Nodup) : coreC l = 0 := by
  rw [coreC, if_neg hn, if_pos ((checkC_iff _ l []).2 ⟨h1, h2, fun _ _ => by simp⟩)]
theorem coreC_3 {l : List Sup} (h : (∃ s ∈ l, funcC (l.map fun s => s.params.length) s = false) ∨ ¬ (l.map Sup.name).Nodup) : coreC l = 3 := by
  rw [coreC]
  split
  · rfl
  · rw [if_neg]
    intro hc
    obtain ⟨h1, h2, _⟩ := (checkC_iff _ l []).1 hc
    rcases h with ⟨s, hs, e⟩ | h
    · rw [h1 s hs] at e; cases e
    · exact h h2
theorem names_nodup {p : List Df} (hs : faultsS p = []) : (p.map Df.name).Nodup := by
  rw [List.nodup_iff_pairwise_ne, List.pairwise_iff_getElem]
  intro i j hi hj hij
  simp only [List.length_map] at hi hj
  simp only [List.getElem_map]
  intro e
  have hpj : p[j]? = some p[j] := List.getElem?_eq_getElem hj
  have h1 := faultsL_dup (i := 0) hpj hs
  rw [Nat.zero_add, heads_dup hpj] at h1
  apply h1
  have : ∀ (l : List Df) (i : Nat) (k : Nat) (hk : k < l.length), l[k].name = p[j].name → 0 ≤ headsS p[j].name l i := by
    intro l
    induction l with
    | nil => intro i k hk; simp at hk
    | cons g l ih =>
      intro i k hk he
      simp only [headsS]
      split
      · omega
      · cases k with
        | zero => rename_i h; exact absurd he h
        | succ k => exact ih (i + 1) k (by simpa using hk) (by simpa using he)
  refine this _ 0 i (by simp; omega) ?_
  rw [List.getElem_take]; exact e
theorem flat_names (p : List Df) : (flatS p).map Sup.name = p.map Df.name := by
  simp only [flatS, List.map_map]; rfl
theorem flat_plens (p : List Df) : (flatS p).map (fun s => s.params.length) = plens p := by
  simp only [flatS, List.map_map, plens]
  refine List.map_congr_left fun f _ => ?_
  simp [supS]
theorem flat_right {p : List Df} (hf : FineP p) (hs : faultsS p = []) : coreC (flatS p) = 0 := by
  refine coreC_0 (by simp [flatS, hf.some]) (fun s hm => ?_) (by rw [flat_names]; exact names_nodup hs)
  rw [flat_plens]
  obtain ⟨f, hfm, rfl⟩ := List.mem_map.1 hm
  exact supS_func hf hs hfm

/-! ### With something turned -/
theorem map_set_same {α β : Type} (f : α → β) {l : List α} {i : Nat} {s s' : α} (hi : l[i]? = some s) (h : f s' = f s) : (l.set i s').map f = l.map f := by
  refine List.ext_getElem? fun k => ?_
  simp only [List.getElem?_map, List.getElem?_set]
  split
  · rename_i e
    subst e
    rw [if_pos (List.getElem?_eq_some_iff.1 hi).1, hi, Option.map_some, Option.map_some, h]
  · rfl
theorem usedS_more {sl : List Int} {k x : Int} (h : usedS sl k = true) : usedS (sl ++ [x]) k = true := by
  simp only [usedS, Bool.and_eq_true, decide_eq_true_eq] at h ⊢
  obtain ⟨⟨h1, h2⟩, h3⟩ := h
  refine ⟨⟨h1, by simp; omega⟩, ?_⟩
  rw [List.getD_eq_getElem?_getD, List.getElem?_append_left (by omega), ← List.getD_eq_getElem?_getD]
  exact h3
theorem set_more {sl : List Int} {k : Nat} {v x : Int} (h : k < sl.length) : (sl ++ [x]).set k v = sl.set k v ++ [x] := by
  rw [List.set_append, if_pos h]
theorem bindC_more {P : Nat} {sl sl' : List Int} {k x : Int} (h : bindC P sl k = some sl') : bindC P (sl ++ [x]) k = some (sl' ++ [x]) := by
  obtain ⟨h1, h2, h3⟩ := bindC_some h
  simp only [bindC] at h ⊢
  split at h
  · cases h
  · rename_i hn
    simp only [not_or] at hn
    rw [if_neg]
    · rw [h3, set_more (by omega)]
    · simp only [not_or]
      refine ⟨hn.1, by simp; omega, ?_⟩
      rw [List.getD_eq_getElem?_getD, List.getElem?_append_left (by omega), ← List.getD_eq_getElem?_getD]
      exact hn.2.2
theorem preC_more {P : Nat} {op slot slot2 : Int} {i : Nat} {sl sl' : List Int} {x : Int} (h : preC P op slot slot2 i sl = some sl') : preC P op slot slot2 i (sl ++ [x]) = some (sl' ++ [x]) := by
  simp only [preC] at h ⊢
  split at h
  · rename_i c; rw [if_pos c]; exact bindC_more h
  · rename_i c
    rw [if_neg c]
    split at h
    · rename_i c2
      rw [if_pos c2]
      cases hb : bindC P sl slot with
      | none => rw [hb] at h; cases h
      | some s1 =>
        rw [hb] at h
        rw [bindC_more hb]
        exact bindC_more h
    · rename_i c2
      rw [if_neg c2]; cases h; rfl
theorem shape_more {ps : List Nat} {sl : List Int} {x op slot func prim : Int} {lit : Vl} {a b : Nat} (h : ((a : Int), (b : Int)) = shapeC ps sl op slot func prim lit) : ((a : Int), (b : Int)) = shapeC ps (sl ++ [x]) op slot func prim lit := by
  simp only [shapeC] at h ⊢
  split at h
  · rename_i c; rw [if_pos c]; exact h
  rename_i c1
  rw [if_neg c1]
  split at h
  · rename_i c
    rw [if_pos c]
    split at h
    · rename_i u; rw [if_pos (usedS_more u)]; exact h
    · simp at h
  · rename_i c; rw [if_neg c]; exact h
mutual
theorem rightC_more {ps : List Nat} {P : Nat} {x : Int} : ∀ {c : Cd} {sl sl' : List Int}, rightC ps P c sl = some sl' → rightC ps P c (sl ++ [x]) = some (sl' ++ [x])
  | .mk op slot slot2 func prim lit atoms args, sl, sl', h => by
    rw [rightC] at h
    split at h
    · rename_i hc
      cases hr : rightL ps P op slot slot2 0 args sl with
      | none => rw [hr] at h; cases h
      | some s1 =>
        rw [hr] at h
        cases h
        have hr' := rightL_more (x := x) hr
        have hlen := rightL_length hr
        have hall : atoms.all (atomOK (sl ++ [x])) = true := by
          rw [List.all_eq_true]
          intro a ha
          have := List.all_eq_true.1 hc.2 a ha
          simp only [atomOK] at this ⊢
          split
          · rename_i e; rwa [if_pos e] at this
          · rename_i e; rw [if_neg e] at this; exact usedS_more this
        rw [rightC, if_pos ⟨shape_more hc.1, hall⟩, hr', Option.map_some]
        congr 1
        simp only [postC]
        split
        · rename_i o
          obtain ⟨a1, a2, a3⟩ := slots_in hc.1 hr (.inl o)
          have := a3 o
          rw [set_more (by omega), set_more (by simp; omega)]
        split
        · rename_i o
          obtain ⟨a1, a2, _⟩ := slots_in hc.1 hr (.inr o)
          rw [set_more (by omega)]
        · rfl
    · cases h
theorem rightL_more {ps : List Nat} {P : Nat} {op slot slot2 x : Int} : ∀ {l : List Cd} {i : Nat} {sl sl' : List Int}, rightL ps P op slot slot2 i l sl = some sl' → rightL ps P op slot slot2 i l (sl ++ [x]) = some (sl' ++ [x])
  | [], i, sl, sl', h => by simp only [rightL] at h ⊢; cases h; rfl
  | c :: l, i, sl, sl', h => by
    rw [rightL_cons] at h ⊢
    cases h1 : preC P op slot slot2 i sl with
    | none => rw [h1] at h; cases h
    | some s1 =>
      rw [h1] at h
      simp only [Option.bind_some] at h
      rw [preC_more h1]
      simp only [Option.bind_some]
      cases h2 : rightC ps P c s1 with
      | none => rw [h2] at h; cases h
      | some s2 =>
        rw [h2] at h
        simp only [Option.bind_some] at h
        rw [rightC_more h2]
        exact rightL_more h
end
def varC (k : Int) : Cd := .mk 2 k 0 0 0 vl0 [] []
/-- A let more around a code, whose name is bound to a variable. -/
def moreC (s : Sup) (k : Int) : Sup := ⟨s.name, s.params, s.ty, s.slots + 1, .mk 8 s.slots 0 0 0 vl0 [] [varC k, s.code]⟩
section
variable {p : List Df} {i : Nat} {s : Sup}
theorem turned_less {d : Int} (hf : FineP p) (hi : (flatS p)[i]? = some s) (hd : d ≠ 0) : coreC ((flatS p).set i ⟨s.name, s.params, s.ty, s.slots + d, s.code⟩) = 3 := by
  obtain ⟨f, hm, rfl⟩ := List.mem_map.1 (List.mem_of_getElem? hi)
  refine coreC_3 (.inl ⟨_, List.mem_iff_getElem?.2 ⟨i, by rw [List.getElem?_set_self (List.getElem?_eq_some_iff.1 hi).1]⟩, ?_⟩)
  rw [funcC_eq]
  have := supS_slots hf hm
  have hne : decide ((supS p f).slots + d = ((supS p f).params.length : Int) + bindsC (supS p f).code) = false := by
    rw [decide_eq_false_iff_not]; omega
  simp only [hne, Bool.and_false, Bool.false_and]
theorem turned_twice (hi : (flatS p)[i]? = some s) : coreC (flatS p ++ [s]) = 3 := by
  refine coreC_3 (.inr fun h => ?_)
  rw [List.map_append, List.nodup_append] at h
  exact h.2.2 s.name (List.mem_map_of_mem (List.mem_of_getElem? hi)) s.name (by simp) rfl
theorem start_more (P b : Nat) : startS P (1 + b) = startS P b ++ [0] := by
  rw [startS, startS, Nat.add_comm, List.replicate_succ', List.append_assoc]
theorem start_len (P b : Nat) : (startS P b).length = P + b := by simp [startS]
theorem binds_more {s : Sup} {k : Int} : bindsC (moreC s k).code = 1 + bindsC s.code := by
  simp [moreC, bindsC_mk, varC, bindsL]
theorem turned_more (hf : FineP p) (hs : faultsS p = []) (hi : (flatS p)[i]? = some s) : coreC ((flatS p).set i (moreC s s.slots)) = 0 := by
  have hps : ((flatS p).set i (moreC s s.slots)).map (fun s => s.params.length) = plens p := by rw [map_set_same _ hi (by rfl), flat_plens]
  have hlt := (List.getElem?_eq_some_iff.1 hi).1
  obtain ⟨f, hm, he⟩ := List.mem_map.1 (List.mem_of_getElem? hi)
  refine coreC_0 (by simp [flatS, hf.some]) (fun x hx => ?_) (by rw [map_set_same _ hi (by rfl), flat_names]; exact names_nodup hs)
  rw [hps]
  rcases List.mem_or_eq_of_mem_set hx with hx | rfl
  · obtain ⟨g, hg, rfl⟩ := List.mem_map.1 hx
    exact supS_func hf hs hg
  · subst he
    obtain ⟨sl', r⟩ := sup_right hf hs hm
    obtain ⟨t1, t2⟩ := supS_types hf hm
    have hsl := supS_slots hf hm
    generalize supS p f = s at *
    have hz : (startS s.params.length (bindsC s.code) ++ [0])[s.slots.toNat]? = some 0 := by
      rw [List.getElem?_append_right (by rw [start_len]; omega), start_len]
      have : s.slots.toNat - (s.params.length + bindsC s.code) = 0 := by omega
      rw [this]; rfl
    have hset : (startS s.params.length (bindsC s.code) ++ [0]).set s.slots.toNat 1 = startS s.params.length (bindsC s.code) ++ [1] := by
      rw [List.set_append, if_neg (by rw [start_len]; omega), start_len]
      have : s.slots.toNat - (s.params.length + bindsC s.code) = 0 := by omega
      rw [this]; rfl
    have hvar : rightC (plens p) s.params.length (varC s.slots) ((startS s.params.length (bindsC s.code) ++ [0]).set s.slots.toNat 1) = some (startS s.params.length (bindsC s.code) ++ [1]) := by
      rw [hset]
      refine rightC_leaf ?_ rfl (by decide)
      have : usedS (startS s.params.length (bindsC s.code) ++ [1]) s.slots = true := by
        refine usedS_of (by omega) ?_
        rw [← hset, List.getElem?_set_self]
        simp [start_len]; omega
      simp [shapeC, this]
    have hr := rightC_let (plens p) s.params.length (slot := s.slots) (by omega) hz hvar (rightC_more (x := 1) r)
    rw [funcC_eq, binds_more, start_more]
    have e1 : (moreC s s.slots).ty = s.ty := rfl
    have e2 : (moreC s s.slots).params = s.params := rfl
    have e3 : (moreC s s.slots).slots = s.slots + 1 := rfl
    have e4 : (moreC s s.slots).code = .mk 8 s.slots 0 0 0 vl0 [] [varC s.slots, s.code] := rfl
    rw [e1, e2, e3, e4, t1, t2, hr]
    rw [decide_eq_true (by omega)]
    rfl
theorem turned_last (hf : FineP p) (hi : (flatS p)[i]? = some s) : coreC ((flatS p).set i (moreC s (s.slots + 1))) = 3 := by
  have hlt := (List.getElem?_eq_some_iff.1 hi).1
  obtain ⟨f, hm, he⟩ := List.mem_map.1 (List.mem_of_getElem? hi)
  subst he
  refine coreC_3 (.inl ⟨moreC (supS p f) ((supS p f).slots + 1), List.mem_iff_getElem?.2 ⟨i, by rw [List.getElem?_set_self hlt]⟩, ?_⟩)
  have hps : ((flatS p).set i (moreC (supS p f) ((supS p f).slots + 1))).map (fun s => s.params.length) = plens p := by rw [map_set_same _ hi (by rfl), flat_plens]
  rw [hps]
  have hsl := supS_slots hf hm
  generalize supS p f = s at *
  have hn : rightC (plens p) s.params.length (moreC s (s.slots + 1)).code (startS s.params.length (bindsC s.code) ++ [0]) = none := by
    show rightC (plens p) s.params.length (.mk 8 s.slots 0 0 0 vl0 [] [varC (s.slots + 1), s.code]) _ = none
    rw [rightC]
    split
    · rw [rightL_cons]
      have hv : ∀ sl : List Int, sl.length = s.params.length + bindsC s.code + 1 → rightC (plens p) s.params.length (varC (s.slots + 1)) sl = none := by
        intro sl hl
        rw [varC, rightC, if_neg]
        rintro ⟨h, _⟩
        have hu : usedS sl (s.slots + 1) = false := by
          simp only [usedS]
          rw [show decide (s.slots + 1 < (sl.length : Int)) = false from by rw [decide_eq_false_iff_not]; omega]
          simp
        simp [shapeC, hu] at h
      cases hp : preC s.params.length 8 s.slots 0 0 (startS s.params.length (bindsC s.code) ++ [0]) with
      | none => rfl
      | some sl1 =>
        have hl := preC_length hp
        rw [List.length_append, start_len] at hl
        simp only [Option.bind_some, hv sl1 hl]
        rfl
    · rfl
  have e2 : (moreC s (s.slots + 1)).params = s.params := rfl
  rw [funcC_eq, binds_more, start_more, e2, hn]
  simp
end
end Go.AM
