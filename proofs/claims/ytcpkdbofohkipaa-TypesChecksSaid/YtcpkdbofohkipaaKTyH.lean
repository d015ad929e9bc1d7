/- The statement's own function: its program is sound alike by both. -/
import Derived.Test.YtcpkdbofohkipaaKc
import Derived.Test.YtcpkdbofohkipaaKTyG
set_option linter.unusedVariables false
set_option linter.unusedSimpArgs false
set_option linter.unusedSimpArgs false
set_option linter.unusedVariables false
namespace Go.Proofs.Ytcpkdbofohkipaa
open Go.AM

@[simp ↓] theorem AStep_bfz {P : Program} {K : AV → Hp → Prop} {tm : Tm} {h : Hp} (x : AX) : AStep P (.bfz x) K tm h = ThenV (x.ev tm) (fun v => match v with | .sl id off len => off = 0 ∧ ThenA (h id) (fun _ _ xs => off + len ≤ xs.length ∧ K (.fz ((xs.drop off).take len)) (hset h id .dead)) | _ => False) := by
  simp only [AStep, ThenV, ThenA]
  cases x.ev tm <;> first | rfl | (rename_i id _ _; simp only; cases h id <;> rfl)
@[simp] theorem eqs_flt (a b c d : Int) (k : IntKind) : aEqa false [.int, .int] (.agg [.int k a, .int k b]) (.agg [.int k c, .int k d]) = some (.bool (decide (a = c) && decide (b = d))) := by
  have e1 : (a == c) = decide (a = c) := Bool.beq_eq_decide_eq _ _
  have e2 : (b == d) = decide (b = d) := Bool.beq_eq_decide_eq _ _
  simp only [aEqa, eqs, eq1, if_true, e1, e2]
  by_cases h1 : a = c <;> by_cases h2 : b = d <;> simp [h1, h2]

theorem tcheck_eq {p : List Df} (h : FineP p) : tcheck p = check07 p := by
  simp only [tcheck, check07, scheck_eq h]
  split
  · rfl
  · exact tell7_perm (progP_perm p p) _
theorem tcheck_ok' {p : List Df} {h : Hp} {K : AV → Hp → Prop} (hf : FineP p) (hK : K (.agg (fltRow (check07 p))) h) : ACalls Try.prog 6 [progAV p] h K :=
  tcheck_ok hf.size (fun f hm => fineP_mem hf.fine hm) (fun hc => check06_calls (by rw [← scheck_eq hf]; exact hc)) (by rw [tcheck_eq hf]; exact hK)

def b1 : Bytes := [102, 40, 120, 32, 78, 41, 58, 66, 61, 120, 61, 61, 49, 59]
def b2 : Bytes := [102, 40, 120, 32, 66, 41, 58, 78, 61, 120, 43, 49, 59]
def p1 : List Df := (readS b1).1
def p2 : List Df := (readS b2).1
def f1 : Df := p1.getD 0 df0
theorem ok1 : (readS b1).2 = true := by kernel_rfl
theorem ok2 : (readS b2).2 = true := by kernel_rfl
theorem fine1 : FineP p1 := readS_fine ok1
theorem fine2 : FineP p2 := readS_fine ok2
theorem at1 : p1 = [f1] := by kernel_rfl
theorem chk1 : check07 p1 = (0, 0) := by kernel_rfl
theorem chk2 : check07 p2 = (34, 9) := by kernel_rfl
theorem chk6 : (check06 p1).1 = 0 := by kernel_rfl
theorem tof1 : tofS p1 f1.params f1.body 3 0 = (2, 0) := by kernel_rfl
theorem awake_ok {h : Hp} {K : AV → Hp → Prop} (hK : K (.bool true) h) : ACalls Try.prog 4 [] h K := by
  refine calls_of mixed Try.func4 comp4 (Nat.le_of_ble_eq_true rfl) ?_
  simp -dsimp [c4]
  intro i1 d1
  simp -dsimp [hset_self d1]
  refine read_ok (b := b1) (.inl rfl) ?_
  rw [ok1]
  have hp1 : (readS b1).1 = p1 := rfl
  rw [hp1]
  simp -dsimp
  intro i2 d2
  simp -dsimp
  intro i3 d3
  simp -dsimp [hset_self d3]
  refine read_ok (b := b2) (.inl rfl) ?_
  rw [ok2]
  have hp2 : (readS b2).1 = p2 := rfl
  rw [hp2]
  simp -dsimp
  intro i4 d4
  have n24 := hset_ne d4
  have e1 : p1.map Df.cells = [f1.cells] := by rw [at1]; rfl
  have hk : Keeps h (hset (hset h i2 (.cells [rowsAV (p1.map Df.cells)])) i4 (.cells [rowsAV (p2.map Df.cells)])) := ((Keeps.refl h).new d2).new d4
  have hb : f1.body.size + f1.body.size + f1.params.length ≤ 1000 := by
    have h1 := fine1.size
    have h2 : sizeP p1 ≤ 100 := by decide +kernel
    have h3 : f1.size ≤ sizeP p1 := sizeP_mem (by rw [at1]; simp)
    have h4 : f1.size = 1 + f1.params.length + f1.body.size := rfl
    omega
  obtain ⟨hi1, hfi⟩ := fineP_mem fine1.fine (f := f1) (by rw [at1]; simp)
  have hcl : callsOK p1 f1.body := check06_calls chk6 f1 (by rw [at1]; simp)
  have hlen : p1.length = 1 := by rw [at1]; rfl
  have hpp : ∀ f ∈ p1, ∀ x ∈ f.params, tyOK x.ty := fun f hm x hx => by
    obtain ⟨hi, hf⟩ := fineP_mem fine1.fine hm
    exact (hf.params x hx).ty
  simp -dsimp [n24, e1, rowsAV_cons]
  have tof := @tof_ok p1 f1.params f1.body hi1
  rw [progAV, e1, rowsAV_cons] at tof
  refine tof (by omega) hpp (by omega) hfi.body hcl ?_
  rw [tof1]
  simp -dsimp [n24]
  have ck1 := @tcheck_ok' p1
  rw [progAV, e1, rowsAV_cons, chk1] at ck1
  refine ck1 fine1 ?_
  simp -dsimp [fltRow]
  refine tcheck_ok' (p := p2) fine2 ?_
  rw [chk2]
  simp -dsimp [fltRow]
  rw [e1, rowsAV_cons] at hk
  exact Gives.sub hk.sub hK

theorem law_ok {b : Bytes} {t : AV} {h : Hp} {K : AV → Hp → Prop} (ht : t = .fz (bytesAV b) ∨ (b = [] ∧ t = .nl)) (hK : K (.bool true) h) : ACalls Try.prog 3 [t] h K := by
  refine calls_of mixed Try.func3 comp3 (Nat.le_of_ble_eq_true rfl) ?_
  simp -dsimp [c3]
  refine awake_ok ?_
  simp -dsimp
  refine read_ok (b := b) ht ?_
  cases hr : (readS b).2 with
  | false =>
    simp -dsimp
    intro i3 d3
    simp -dsimp
    exact Gives.sub ((Keeps.refl h).new d3).sub hK
  | true =>
    have hf := readS_fine hr
    generalize (readS b).1 = p at *
    simp -dsimp
    intro i3 d3
    simp -dsimp
    refine tcheck_ok' (p := p) hf ?_
    simp -dsimp [Stable, AIns.wants, QStep, gval]
    refine check07_ok (p := p) hf.size ?_
    simp -dsimp [fltRow]
    exact Gives.sub ((Keeps.refl h).new d3).sub hK
end Go.Proofs.Ytcpkdbofohkipaa
