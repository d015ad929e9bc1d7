/- Proved: for every byte slice that is handed in, CoreFlattens returns true and the slice reads afterwards as before. No conditions. (The frame of the row's step was printed by the kit's proof-skeleton.mjs; the walk is filled in.) -/
import Derived.Test.YtcpkdbofohkipaaGreatRows
import Derived.Test.YtcpkdbofohkipaaGreatKChF
import Derived.WalkKit
import Derived.ProofKit
import Derived.OpenShut
import Derived.ShutString
import Derived.ChangeOld
import Derived.Below
set_option linter.unusedVariables false
set_option linter.unusedSimpArgs false
namespace Go.Proofs.YtcpkdbofohkipaaGreat.coreFlattens
open Go.ChangeShapes Go.WideShapes Go.ChangeAt Go.RowKit
open Go.ChangeMaps (open_string shut_string)

theorem own : ownKnob Tryz.prog.godebug = none := by kernel_rfl
theorem laidOut : laidOutB Tryz.prog = true := by kernel_rfl

/-- WHAT THE WALK IS TOLD OF A SLICE OF INTEGERS THAT CAME IN: it is nil; or it leads to a row of 'cap' cells, the numbers 'zs' (the first 'len' are its elements, the rest its spare room), each fitting its kind. -/
def IsRow (k : IntKind) (w : World) (a : Option Addr) (len cap : Nat) (zs : List Int) : Prop :=
  (a = none ∧ len = 0 ∧ cap = 0 ∧ zs = []) ∨
  ∃ x, a = some x ∧ len ≤ cap ∧ cap ≤ maxLen ∧ zs.length = cap ∧ (∀ i, i < zs.length → w.cell? (x.add i) = some (.int k (zs.getD i 0))) ∧ ∀ n ∈ zs, (Lit.int k n).wf = true

/-! ### STEP 1: THE WALK: the Go text returns true, AND WRITES NOTHING THAT WAS THERE: 'Below w.heap.size w w'' (Derived/Below.lean: '.refl', '.alloc', '.drew', '.setCell' at a new block, '.trans'). Open each 'IsRow' by 'rcases' AHEAD of 'go_enter'; part every test ahead of the walk. -/
theorem walk (a0 : Option Addr) (len0 cap0 : Nat) (z0 : List Int) (w : World) (w0 : IsRow .u8 w a0 len0 cap0 z0) :
    Calls Tryz.prog 3 #[.slice a0 len0 cap0] w fun e w' => e = .returned (.bool true) ∧ Below w.heap.size w w' := by
  -- the world as it comes: nothing is the call's own
  let E : Go.AM.Env := { h := fun _ => .dead, ι := fun _ => 0, κ := fun _ => 0, w := w, nx := 0 }
  have hs : Go.AM.Sim E := ⟨fun id => trivial, fun _ _ => rfl, fun i j h => absurd rfl h, fun i h => absurd rfl h⟩
  have key : ∀ (t : Go.AM.AV) (b : Go.AM.Bytes), (t = .fz (Go.AM.bytesAV b) ∨ (b = [] ∧ t = .nl)) → Go.AM.Rel E t (.slice a0 len0 cap0) →
      Calls Tryz.prog 3 #[.slice a0 len0 cap0] w fun e w' => e = .returned (.bool true) ∧ Below w.heap.size w w' := by
    intro t b ht hr
    have hc := (flatlaw_ok (h := fun _ => .dead) (K := fun r _ => r = .bool true) ht rfl).2 E [.slice a0 len0 cap0] hs rfl ⟨rfl, fun j c u hc hu => by
      cases j with
      | zero => simp at hc hu; subst hc; subst hu; exact hr
      | succ j => simp at hc⟩
    refine hc.mono ?_
    rintro e w' ⟨v, r, E', rfl, rfl, hs', hx, hrel, rfl⟩
    refine ⟨by rw [hrel.bool_inv], hx.os, hx.tape, hx.output, hx.size, fun k hk => hx.block k hk ?_⟩
    rintro ⟨id, hd, _⟩
    exact hd rfl
  rcases w0 with ⟨rfl, rfl, rfl, rfl⟩ | ⟨x, rfl, hl, hm, hz, hcell, hwz⟩
  · exact key .nl [] (.inr ⟨rfl, rfl⟩) (.nl none)
  · obtain ⟨b, off, spot⟩ := x
    let l := (z0.take len0).map fun z => UInt8.ofNat z.toNat
    have hlen : (Go.AM.bytesAV l).length = len0 := by simp [l]; omega
    have hnum : ∀ i, i < len0 → ∃ z, z0[i]? = some z ∧ 0 ≤ z ∧ z < 256 := by
      intro i hi
      have hi2 : i < z0.length := by omega
      refine ⟨z0[i], List.getElem?_eq_getElem hi2, ?_⟩
      have := hwz _ (List.getElem_mem hi2)
      simp [Lit.wf, IntKind.min, IntKind.max, IntKind.bits, IntKind.signed] at this
      omega
    have hsp : 0 < len0 → spot = none ∧ b < w.heap.size := fun h0 => by
      have hc := hcell 0 (by omega)
      refine ⟨by simpa [Addr.add] using World.cell?_spot hc, ?_⟩
      have := Go.AM.block_of_cell hc
      simpa [Addr.add] using this
    have hr : Go.AM.Rel E (.fz (Go.AM.bytesAV l)) (.slice (some ⟨b, off, spot⟩) (Go.AM.bytesAV l).length cap0) := by
      refine .fz (Go.AM.bytesAV l) _ cap0 b off 1 (fun i _ => .int .u8 (z0.getD i 0)) (fun hne => ?_) (by omega) (fun y hy => ?_) (fun y hy c hc => ?_) (fun i y j c hy hc => ?_) (fun i y j c hy hc => ?_)
      · have h0 : 0 < len0 := by
          have := List.length_pos_iff.2 hne
          omega
        obtain ⟨h1, h2⟩ := hsp h0
        subst h1
        exact ⟨rfl, fun ⟨id, hd, _⟩ => hd rfl, h2⟩
      · simp only [Go.AM.bytesAV, List.mem_map] at hy
        obtain ⟨c, _, rfl⟩ := hy
        rfl
      · simp only [Go.AM.bytesAV, List.mem_map] at hy
        obtain ⟨c', _, rfl⟩ := hy
        rw [List.mem_singleton] at hc
        subst hc
        rfl
      · have hi : i < len0 := by rw [← hlen]; exact (List.getElem?_eq_some_iff.1 hy).1
        obtain ⟨h1, _⟩ := hsp (by omega)
        subst h1
        have hj : j = 0 := by
          simp only [Go.AM.bytesAV, List.getElem?_map] at hy
          cases hq : l[i]? with
          | none => rw [hq] at hy; cases hy
          | some c' =>
            rw [hq] at hy
            simp at hy
            subst hy
            cases j with
            | zero => rfl
            | succ j => simp at hc
        subst hj
        have hc := hcell i (by omega)
        by_cases hi0 : i = 0
        · subst hi0; simpa [Addr.add] using hc
        · simpa [Addr.add, hi0] using hc
      · have hi : i < len0 := by rw [← hlen]; exact (List.getElem?_eq_some_iff.1 hy).1
        obtain ⟨z, hz1, hz2, hz3⟩ := hnum i hi
        have hli : l[i]? = some (UInt8.ofNat z.toNat) := by
          simp only [l, List.getElem?_map, List.getElem?_take, if_pos hi, hz1, Option.map_some]
        simp only [Go.AM.bytesAV, List.getElem?_map, hli, Option.map_some, Option.some.injEq] at hy
        subst hy
        have hzd : z0.getD i 0 = z := by simp [List.getD, hz1]
        have hb : ((UInt8.ofNat z.toNat).toNat : Int) = z := by
          have : z.toNat < 256 := by omega
          simp
          omega
        cases j with
        | zero =>
          simp at hc
          subst hc
          rw [hzd]
          rw [show (max z 0 % 256) = z by omega]
          exact .int .u8 z
        | succ j => simp at hc
    rw [hlen] at hr
    exact key _ l (.inl rfl) hr

/-! ### THE ROW's STEP: WRITTEN OUT: LEAVE IT -/
set_option maxRecDepth 100000 in
theorem lifted (os : Os) (started : os.Started) (H : Type) (enc : TypeId × Value → H) :
    ReturnsInHanded {} Tryz.checked os 3 .any (Rows.coreFlattensSpec.pre6 enc Tryz.prog Tryz.f3 Rows.coreFlattensRow.domain false) (Rows.coreFlattensSpec.post enc Tryz.prog Tryz.f3 false true false false) := by
  refine returnsInHanded_of_change (C := Tryz.checked) own started (by kernel_rfl) Tryz.func3
    (ChangeSpec.witness6 (enc := enc) (C := Tryz.checked) false ⟨#[], #[.slice none 0 0], []⟩ 8 (by kernel_rfl) (by kernel_rfl) (by kernel_rfl) (by kernel_rfl)) ?_
  intro W base args ds gs before hval0 hW hcnd _
  have hval : ∀ (j : Nat) t v, Tryz.f3.params[j]? = some t → args[j]? = some v → Value.okWide Tryz.prog W .any base t v := hval0
  have hW' := hW
  obtain ⟨p, q, hA0, hV, rfl, hfz, hnd⟩ := hW
  have hA : DataW.TrodAll enc Tryz.prog W 0 (fun _ => true) true Tryz.f3.params.toList args.toList ds p := hA0
  rw [Tryz.params3] at hA hval
  obtain ⟨v0, vs0, d0, ds0, p0, q0, hargs, rfl, rfl, h0, r0⟩ := trodAll_cons hA
  obtain ⟨rfl, rfl, rfl⟩ := trodAll_nil r0
  obtain rfl : args = #[v0] := by cases args; simp_all
  obtain ⟨rfl, rfl⟩ := trodVars_none hV
  obtain ⟨a0, len0, cap0, rfl⟩ := okWide_slice Tryz.underlying22 (hval 0 22 v0 rfl rfl)
  have k0 := h0
  have lt0 : ∀ x ∈ p0, x.block < W.heap.size := by obtain ⟨m, hm⟩ := k0; exact DataW.trod_lt m _ _ _ hm
  obtain ⟨z0, w0⟩ : ∃ zs, IsRow .u8 W a0 len0 cap0 zs := by
    obtain ⟨fuel, hf⟩ := h0
    rcases open_ints Tryz.underlying22 Tryz.underlying5 (by kernel_rfl) hf with ⟨hcs, _⟩ | ⟨x, l, c, zs, hcs, _, hl, hm, hz, _, hcell, hwz⟩
    · simp [Value.cells] at hcs
      obtain ⟨rfl, rfl, rfl⟩ := hcs
      exact ⟨[], .inl ⟨rfl, rfl, rfl, rfl⟩⟩
    · simp [Value.cells] at hcs
      obtain ⟨rfl, rfl, rfl⟩ := hcs
      exact ⟨zs, .inr ⟨_, rfl, hl, hm, by simpa using hz, hcell, hwz⟩⟩
  clear hA0 hval0
  refine (walk a0 len0 cap0 z0 W w0).mono fun e W' ⟨he, bel⟩ => ?_
  subst he
  exact ⟨_, rfl, _, _, _, [], _, [], hW', trodAll_mk1 (shut_bool Tryz.underlying4 _), (trodAll_cons_mk (Below.trod laidOut (by kernel_rfl) (of_decide_eq_true (by kernel_rfl)) k0 bel lt0) trodAll_mk0), rfl, bel.frame _, fun h => by cases h⟩

theorem over : Rows.coreFlattensRow.holds Tryz.pinned (OpenSpec.ofChange Rows.coreFlattensSpec) :=
  OpenClaim.holds_of_wide 3 Tryz.f3 rfl rfl rfl rfl rfl rfl rfl ⟨rfl, rfl, rfl, rfl, rfl⟩ rfl rfl rfl rfl rfl (by kernel_rfl) Tryz.func3 (by kernel_rfl)
    (of_decide_eq_true (by kernel_rfl)) (by unfold Func.isWrapper; first | (rw [if_pos (by decide +kernel)]; kernel_rfl) | (rw [if_neg (by decide +kernel)]; exact ⟨rfl, rfl⟩))
    (fun os started H enc _ => lifted os started H enc)

/-- ████ THE STATEMENT ████ -/
theorem proved : Rows.CoreFlattensSaid := over
#print axioms proved
end Go.Proofs.YtcpkdbofohkipaaGreat.coreFlattens
