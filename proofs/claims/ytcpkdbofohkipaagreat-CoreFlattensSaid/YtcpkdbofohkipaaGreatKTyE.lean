/- The program's types: want. -/
import Derived.Test.YtcpkdbofohkipaaGreatKTyC
set_option linter.unusedVariables false
set_option linter.unusedSimpArgs false
namespace Go.Proofs.YtcpkdbofohkipaaGreat
open Go.AM
section
variable {p : List Df} {heads : Mp} {cid mid fid fw : Nat} {σ : Type} {rep : σ → List AV} {stp : σ → Int → σ} {h h1 : Hp} {v v1 : AV} {env : List Pm} {s : σ}

theorem tin_ok {ys : List Pm} {vs : AV} {fd : FuncId} {caps : List AV} {l : List Int} {K : AV → Hp → Prop} (hvs : elemsOf h 3 vs = some (ys.map Pm.cells)) (hne : ys ≠ []) (hlen : env.length + ys.length ≤ 1000000) (c : Ck p heads cid mid fid fw rep h v env s)
    (hdo : ∀ (h1 : Hp) (v1 : AV) (K1 : AV → Hp → Prop), Ck p heads cid mid fid fw rep h1 v1 (env ++ ys) s → Fr7 [cid, fid] h v h1 v1 → Nx p heads cid mid fid fw rep stp (env ++ ys) h1 v1 s l (K1 .undef) → ACalls Tryz.prog fd caps h1 K1)
    (hK : Nx p heads cid mid fid fw rep stp env h v s l (K .undef)) : ACalls Tryz.prog 85 [.ptr cid 0, .fn fd caps, vs] h K := by
  refine calls_of mixed Tryz.func85 comp85 (Nat.le_of_ble_eq_true rfl) ?_
  simp -dsimp [c85, c.cc, c.ce.len, hvs]
  refine c.ce.app (ys := ys) rfl hne hlen (by decide) ?_
  intro v1 h1 ce1 k1
  have hc1 : h1 cid = .cells [.mp mid, rowsAV (p.map Df.cells), v, .fn fw [.ptr fid 0]] := k1.at c.cc (by simp) (by simp) (c.ce.notc c.cc)
  have hf1 : h1 fid = .cells (rep s) := k1.at c.cf (by simp) (by simp) (c.ce.notc c.cf)
  have hm1 : h1 mid = .map (mapAV heads) := k1.at c.cm (by simp) (by simp) (c.ce.notm c.cm)
  have nmc : ¬ mid = cid := by rintro rfl; have := c.cm; rw [c.cc] at this; cases this
  have nfc : ¬ fid = cid := fun x => c.nf x.symm
  have hv1 : v1.flat = true ∧ v1.cells = [v1] := by
    rcases ce1 with ⟨rfl, _⟩ | ⟨id, xs, rfl, _⟩ <;> exact ⟨rfl, rfl⟩
  simp -dsimp [hc1, hv1]
  refine hdo _ v1 _ ⟨by simp, by simp [nmc, hm1], by simp [nfc, hf1], ce1.set (ce1.notc hc1), c.nf⟩ (k1.weak.mem (by simp)) ?_
  intro v2 h2 c2 k2
  obtain ⟨v3, hcut, ce3, hid⟩ := c2.ce.cut hne
  have hcut2 := hcut h2 (fun _ _ _ _ => rfl)
  have hv3 : v3.flat = true ∧ v3.cells = [v3] := by
    rcases ce3 with ⟨rfl, _⟩ | ⟨id, xs, rfl, _⟩ <;> exact ⟨rfl, rfl⟩
  simp -dsimp [c2.cc, hcut2, hv3]
  refine Gives.same (hK v3 _ ⟨by simp, by simp [nmc, c2.cm], by simp [nfc, c2.cf], ce3.set ?_, c.nf⟩ ?_)
  · rw [hid]; exact c2.ce.notc c2.cc
  · exact (((k1.weak.mem (by simp)).trans k2).same hid).mem (by simp)

def wnT : ACode := match c45.code with | .seq _ x => x | _ => .skip
theorem want_core {n : Nat} (hp : p.length ≤ 1000000) (hh : PlOK heads p) (hpp : ∀ f ∈ p, ∀ x ∈ f.params, tyOK x.ty) (hwr : WrOK fw rep stp) (hw : Wants p heads cid mid fid fw rep stp n)
    {e : Ex} {hi : Int} {t : Int} {K : AV → Hp → Prop} {tm : Tm} {H : Hp} {i3 i4 i5 : Nat} (hn : e.size ≤ n + 1) (hnm : env.length + 2 * e.size ≤ 200000) (hf : e.fine hi) (hc : callsOK p e) (ht : tyOK t) (c5 : Ck p heads cid mid fid fw rep H v env s)
    (t3 : tm 3 = .ptr i3 0) (t4 : tm 4 = .ptr i4 0) (t5 : tm 5 = .ptr i5 0) (h3 : H i3 = .cells [.ptr cid 0]) (h4 : H i4 = .cells e.cells) (h5 : H i5 = .cells [.int .i64 t])
    (m3c : ¬ i3 = cid) (m3f : ¬ i3 = fid) (m4c : ¬ i4 = cid) (m4f : ¬ i4 = fid) (m5c : ¬ i5 = cid) (m5f : ¬ i5 = fid) (k5 : Fr7 [cid, fid] h v1 H v)
    (hK : Nx p heads cid mid fid fw rep stp env h v1 s (progS p env t e) (K .undef)) :
    AW Tryz.prog wnT (fun e tm h' => match e with | .exit _ => False | _ => Gives K (some .undef) h') tm H := by
  have hsa := e.size_args
  have hla := Ex.sizeL_len e.args
  have hcl := (callsOK_eq.1 hc).2
  have hfa := Ex.fine_args hf
  have har : arOK e.op e.args.length := by cases e; exact hf.1
  have hety : (e.op = 5 ∨ e.op = 21 ∨ e.op = 22) → tyOK e.ty := by cases e; exact hf.2.1
  rw [show progS p env t e = progL p env e t 0 e.args ++ ownW p env e t from progS_eq p env t e] at hK
  have v3 := c5.ce.notc h3
  have v4 := c5.ce.notc h4
  have v5 := c5.ce.notc h5
  -- what stands in the three cells behind any work
  have at3 : ∀ {h2 : Hp} {v2 : AV}, Fr7 [cid, fid] H v h2 v2 → h2 i3 = .cells [.ptr cid 0] := fun k => k.at h3 (by simp) (by simp [m3c, m3f]) v3
  have at4 : ∀ {h2 : Hp} {v2 : AV}, Fr7 [cid, fid] H v h2 v2 → h2 i4 = .cells e.cells := fun k => k.at h4 (by simp) (by simp [m4c, m4f]) v4
  have at5 : ∀ {h2 : Hp} {v2 : AV}, Fr7 [cid, fid] H v h2 v2 → h2 i5 = .cells [.int .i64 t] := fun k => k.at h5 (by simp) (by simp [m5c, m5f]) v5
  by_cases hop : e.op = 19 ∨ e.op = 20 ∨ e.op = 21 ∨ e.op = 22
  · have hW : ownW p env e t = [] := by
      rcases hop with o | o | o | o <;> simp [ownW, ownS, o]
    rw [hW, List.append_nil] at hK
    by_cases o19 : e.op = 19
    · have hlen : e.args.length = 3 := by rcases har with x | x | x | x | x <;> omega
      have hwi : ∀ i, withinS env e i = env := fun i => by simp [withinS, o19]
      match hA : e.args, hlen with
      | [a, b, d], _ =>
        rw [hA] at hK hfa hcl hsa
        have q0 : wantedS p e 0 t = 2 := by simp [wantedS, o19]
        have q1 : wantedS p e 1 t = t := by simp [wantedS, o19]
        have q2 : wantedS p e 2 t = t := by simp [wantedS, o19]
        simp only [progL, hwi, q0, q1, q2, List.append_nil, Nat.zero_add, Nat.reduceAdd] at hK
        simp only [Ex.sizeL] at hsa
        simp -dsimp [wnT, c45, t3, t4, t5, h3, h4, h5, o19, hA]
        refine hw a _ env 2 _ _ v _ (by omega) (by omega) hfa.1 hcl.1 (.inr (.inl rfl)) c5 ?_
        intro v2 h2 c2 k2
        simp -dsimp [t3, t4, t5, at3 k2, at4 k2, at5 k2, hA, rowsAV_cons]
        refine all_ok hw (l := [b, d]) (hi := hi) (env := env) (s := (progS p env 2 a).foldl stp s) (v := v2) (by simp only [Ex.sizeL]; omega) (by simp only [Ex.sizeL]; omega) ⟨hfa.2.1, hfa.2.2.1, trivial⟩ ⟨hcl.2.1, hcl.2.2.1, trivial⟩ ht c2 ?_
        intro v6 h6 c6 k6
        have kk := k2.trans k6
        simp -dsimp [t3, t4, t5, at5 kk]
        refine Gives.same (hK v6 h6 ?_ (k5.trans kk))
        simpa [List.foldl_append, allL] using c6
    by_cases o20 : e.op = 20
    · have hlen : e.args.length = 3 := by rcases har with x | x | x | x | x <;> omega
      match hA : e.args, hlen with
      | [a, b, d], _ =>
        rw [hA] at hK hfa hcl hsa
        have q0 : wantedS p e 0 t = 3 := by simp [wantedS, o20]
        have q1 : wantedS p e 1 t = t := by simp [wantedS, o20]
        have q2 : wantedS p e 2 t = t := by simp [wantedS, o20]
        have r0 : withinS env e 0 = env := by simp [withinS, o20]
        have r1 : withinS env e 1 = env := by simp [withinS, o20]
        have r2 : withinS env e 2 = env ++ [⟨e.name, 1, 0⟩, ⟨e.tail, 3, 0⟩] := by simp [withinS, o20]
        simp only [progL, r0, r1, r2, q0, q1, q2, List.append_nil, Nat.zero_add, Nat.reduceAdd] at hK
        simp only [Ex.sizeL] at hsa
        simp -dsimp [wnT, c45, t3, t4, t5, h3, h4, h5, o20, hA]
        refine hw a _ env 3 _ _ v _ (by omega) (by omega) hfa.1 hcl.1 (.inr (.inr rfl)) c5 ?_
        intro v2 h2 c2 k2
        simp -dsimp [t3, t4, t5, at3 k2, at4 k2, at5 k2, hA]
        refine hw b _ env t _ _ v2 _ (by omega) (by omega) hfa.2.1 hcl.2.1 ht c2 ?_
        intro v6 h6 c6 k6
        have kk := k2.trans k6
        simp -dsimp [t3, t4, t5, at3 kk, at4 kk, at5 kk]
        intro i7 d7
        have c7 := fun o => c6.new (o := o) d7
        have kk7 := fun o => kk.new (o := o) d7
        simp -dsimp
        refine tin_ok (ys := [⟨e.name, 1, 0⟩, ⟨e.tail, 3, 0⟩]) (l := progS p (env ++ [⟨e.name, 1, 0⟩, ⟨e.tail, 3, 0⟩]) t d) (stp := stp) (by simp [Pm.cells]) (by simp) (by simp; omega) (c7 _) ?_ ?_
        · intro h8 v8 K8 c8 k8 hK8
          have kk8 := (kk7 _).trans k8
          refine calls_of mixed Tryz.func86 comp86 (Nat.le_of_ble_eq_true rfl) ?_
          simp -dsimp [c86, at3 kk8, at4 kk8, at5 kk8, hA]
          refine hw d _ _ t _ _ v8 _ (by omega) (by simp; omega) hfa.2.2.1 hcl.2.2.1 ht c8 ?_
          intro v9 h9 c9 k9
          simp -dsimp
          exact Gives.same (hK8 v9 h9 c9 k9)
        · intro v9 h9 c9 k9
          have kk9 := (kk7 _).trans k9
          simp -dsimp [t3, t4, t5, at5 kk9]
          refine Gives.same (hK v9 h9 ?_ (k5.trans kk9))
          simpa [List.foldl_append] using c9
    by_cases o21 : e.op = 21
    · have hlen : e.args.length = 2 := by rcases har with x | x | x | x | x <;> omega
      match hA : e.args, hlen with
      | [a, b], _ =>
        rw [hA] at hK hfa hcl hsa
        have q0 : wantedS p e 0 t = e.ty := by simp [wantedS, o21]
        have q1 : wantedS p e 1 t = t := by simp [wantedS, o21]
        have r0 : withinS env e 0 = env ++ [⟨e.name, e.ty, 0⟩] := by simp [withinS, o21]
        have r1 : withinS env e 1 = env ++ [⟨e.name, e.ty, 0⟩] := by simp [withinS, o21]
        simp only [progL, r0, r1, q0, q1, List.append_nil, Nat.zero_add, Nat.reduceAdd] at hK
        simp only [Ex.sizeL] at hsa
        simp -dsimp [wnT, c45, t3, t4, t5, h3, h4, h5, o21]
        intro i7 d7
        have c7 := fun o => c5.new (o := o) d7
        have kk7 := fun o => (Fr7.refl (A := [cid, fid]) (h := H) (v := v)).new (o := o) d7
        simp -dsimp
        refine tin_ok (ys := [⟨e.name, e.ty, 0⟩]) (l := progS p (env ++ [⟨e.name, e.ty, 0⟩]) e.ty a ++ progS p (env ++ [⟨e.name, e.ty, 0⟩]) t b) (stp := stp) (by simp [Pm.cells]) (by simp) (by simp; omega) (c7 _) ?_ ?_
        · intro h8 v8 K8 c8 k8 hK8
          have kk8 := (kk7 _).trans k8
          refine calls_of mixed Tryz.func87 comp87 (Nat.le_of_ble_eq_true rfl) ?_
          simp -dsimp [c87, at3 kk8, at4 kk8, at5 kk8, hA]
          refine hw a _ _ e.ty _ _ v8 _ (by omega) (by simp; omega) hfa.1 hcl.1 (hety (by omega)) c8 ?_
          intro v9 h9 c9 k9
          have kk9 := kk8.trans k9
          simp -dsimp [t3, t4, t5, at3 kk9, at4 kk9, at5 kk9, hA]
          refine hw b _ _ t _ _ v9 _ (by omega) (by simp; omega) hfa.2.1 hcl.2.1 ht c9 ?_
          intro v10 h10 c10 k10
          simp -dsimp
          refine Gives.same (hK8 v10 h10 ?_ (k9.trans k10))
          simpa [List.foldl_append] using c10
        · intro v9 h9 c9 k9
          have kk9 := (kk7 _).trans k9
          simp -dsimp [t3, t4, t5, at5 kk9]
          exact Gives.same (hK v9 h9 c9 (k5.trans kk9))
    · have o22 : e.op = 22 := by omega
      have hlen : e.args.length = 2 := by rcases har with x | x | x | x | x <;> omega
      match hA : e.args, hlen with
      | [a, b], _ =>
        rw [hA] at hK hfa hcl hsa
        have q0 : wantedS p e 0 t = e.ty := by simp [wantedS, o22]
        have q1 : wantedS p e 1 t = t := by simp [wantedS, o22]
        have r0 : withinS env e 0 = env := by simp [withinS, o22]
        have r1 : withinS env e 1 = env ++ [⟨e.name, e.ty, 0⟩] := by simp [withinS, o22]
        simp only [progL, r0, r1, q0, q1, List.append_nil, Nat.zero_add, Nat.reduceAdd] at hK
        simp only [Ex.sizeL] at hsa
        simp -dsimp [wnT, c45, t3, t4, t5, h3, h4, h5, o22, hA]
        refine hw a _ env e.ty _ _ v _ (by omega) (by omega) hfa.1 hcl.1 (hety (by omega)) c5 ?_
        intro v6 h6 c6 kk
        simp -dsimp [t3, t4, t5, at3 kk, at4 kk, at5 kk]
        intro i7 d7
        have c7 := fun o => c6.new (o := o) d7
        have kk7 := fun o => kk.new (o := o) d7
        simp -dsimp
        refine tin_ok (ys := [⟨e.name, e.ty, 0⟩]) (l := progS p (env ++ [⟨e.name, e.ty, 0⟩]) t b) (stp := stp) (by simp [Pm.cells]) (by simp) (by simp; omega) (c7 _) ?_ ?_
        · intro h8 v8 K8 c8 k8 hK8
          have kk8 := (kk7 _).trans k8
          refine calls_of mixed Tryz.func88 comp88 (Nat.le_of_ble_eq_true rfl) ?_
          simp -dsimp [c88, at3 kk8, at4 kk8, at5 kk8, hA]
          refine hw b _ _ t _ _ v8 _ (by omega) (by simp; omega) hfa.2.1 hcl.2.1 ht c8 ?_
          intro v9 h9 c9 k9
          simp -dsimp
          exact Gives.same (hK8 v9 h9 c9 k9)
        · intro v9 h9 c9 k9
          have kk9 := (kk7 _).trans k9
          simp -dsimp [t3, t4, t5, at5 kk9]
          refine Gives.same (hK v9 h9 ?_ (k5.trans kk9))
          simpa [List.foldl_append] using c9
  · have hs2 : (ownS p env e).2 = true := by
      simp only [ownS]
      split; · rfl
      split; · rfl
      split; · rfl
      split; · rfl
      split; · rfl
      split; · rfl
      · exfalso; rcases har with x | x | x | x | x <;> omega
    have hW : ownW p env e t = if ownT p env e ≠ t then [e.pos] else [] := ownW_leaf ht hs2
    have hop' := hop
    simp only [not_or] at hop
    simp -dsimp [wnT, c45, t3, t4, t5, h3, h4, h5, hop.1, hop.2.1, hop.2.2.1, hop.2.2.2]
    refine pown_ok hp hh hpp hw (t := t) (by omega) (by omega) hf hc hop' c5 ?_
    intro v2 h2 c2 k2
    by_cases heq : ownT p env e = t
    · rw [hW] at hK
      simp only [heq, ne_eq, not_true_eq_false, if_false, List.append_nil] at hK
      simp -dsimp [t3, t4, t5, at5 k2, heq]
      exact Gives.same (hK v2 h2 c2 (k5.trans k2))
    · rw [hW] at hK
      simp only [heq, ne_eq, not_false_eq_true, if_true] at hK
      simp -dsimp [t3, t4, t5, at3 k2, at4 k2, at5 k2, heq, c2.cc]
      refine hwr fid _ e.pos _ _ c2.cf ?_
      simp -dsimp
      have nmf : ¬ mid = fid := by rintro rfl; have := c2.cm; rw [c2.cf] at this; cases this
      refine Gives.same (hK v2 _ ⟨by simp [c5.nf, c2.cc], by simp [nmf, c2.cm], ?_, c2.ce.set (c2.ce.notc c2.cf), c5.nf⟩ ((k5.trans k2).mem (by simp)))
      simp [List.foldl_append]
theorem want_step {n : Nat} (hp : p.length ≤ 1000000) (hh : PlOK heads p) (hpp : ∀ f ∈ p, ∀ x ∈ f.params, tyOK x.ty) (hwr : WrOK fw rep stp) (hw : Wants p heads cid mid fid fw rep stp n) : Wants p heads cid mid fid fw rep stp (n + 1) := by
  intro e hi env t s h v K hn hnm hf hc ht c hK
  refine calls_of mixed Tryz.func45 comp45 (Nat.le_of_ble_eq_true rfl) ?_
  have hsplit : c45.code = .seq (match c45.code with | .seq a _ => a | _ => .skip) wnT := rfl
  rw [hsplit]
  have core := @want_core p heads cid mid fid fw σ rep stp h
  generalize wnT = T at *
  simp -dsimp [c45]
  intro i3 d3
  have c3 := c.new (o := .cells [.ptr cid 0]) d3
  have k3 : Fr7 [cid, fid] h v (hset h i3 (.cells [.ptr cid 0])) v := Fr7.refl.new d3
  simp -dsimp
  intro i4 d4
  have n34 := hset_ne d4
  have c4 := c3.new (o := .cells e.cells) d4
  have k4 := k3.new (o := .cells e.cells) d4
  simp -dsimp
  intro i5 d5
  have n45 := hset_ne d5
  have n35 : ¬ i3 = i5 := cells_ne (cs := [.ptr cid 0]) (by simp [n34]) d5
  have c5 := c4.new (o := .cells [.int .i64 t]) d5
  have k5 := k4.new (o := .cells [.int .i64 t]) d5
  simp -dsimp
  exact core hp hh hpp hwr hw hn hnm hf hc ht c5 (by simp) (by simp) (by simp) (by simp [n34, n35]) (by simp [n45]) (by simp)
    (fun x => cells_ne c.cc d3 x.symm) (fun x => cells_ne c.cf d3 x.symm) (fun x => cells_ne c3.cc d4 x.symm) (fun x => cells_ne c3.cf d4 x.symm) (fun x => cells_ne c4.cc d5 x.symm) (fun x => cells_ne c4.cf d5 x.symm) k5 hK
theorem wants_ok (hp : p.length ≤ 1000000) (hh : PlOK heads p) (hpp : ∀ f ∈ p, ∀ x ∈ f.params, tyOK x.ty) (hwr : WrOK fw rep stp) : ∀ n, Wants p heads cid mid fid fw rep stp n
  | 0 => fun e hi env t s h v K hn => by have := e.size_pos; omega
  | n + 1 => want_step hp hh hpp hwr (wants_ok hp hh hpp hwr n)
end
end Go.Proofs.YtcpkdbofohkipaaGreat
