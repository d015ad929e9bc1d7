/- AM: bits: how many are set; cells of two bits. -/
import Derived.Test.YtghidedifiolbaaGreatK09
set_option linter.unusedVariables false
set_option linter.unusedSimpArgs false
namespace Go.AM

/-- k bytes of one kind. -/
def msk (c : Nat) : Nat → Nat
  | 0 => 0
  | k + 1 => c + 256 * msk c k
theorem and_msk {c : Nat} (hc : c < 256) (k x : Nat) : x &&& msk c (k + 1) = (x % 256 &&& c) + 256 * (x / 256 &&& msk c k) := by
  have h1 : (x &&& msk c (k + 1)) % 256 = x % 256 &&& msk c (k + 1) % 256 := Nat.and_mod_two_pow (n := 8)
  have h2 : (x &&& msk c (k + 1)) / 256 = x / 256 &&& msk c (k + 1) / 256 := Nat.and_div_two_pow (n := 8)
  have e1 : msk c (k + 1) % 256 = c := by simp only [msk]; omega
  have e2 : msk c (k + 1) / 256 = msk c k := by simp only [msk]; omega
  rw [e1] at h1
  rw [e2] at h2
  have := Nat.div_add_mod (x &&& msk c (k + 1)) 256
  omega
def f1 (b : Nat) : Nat := (b / 2 &&& 0x55) + (b &&& 0x55)
def f2 (b : Nat) : Nat := (b / 4 &&& 0x33) + (b &&& 0x33)
def f3 (b : Nat) : Nat := (b / 16 + b) &&& 0x0f
def F1 (k x : Nat) : Nat := (x / 2 &&& msk 0x55 k) + (x &&& msk 0x55 k)
def F2 (k x : Nat) : Nat := (x / 4 &&& msk 0x33 k) + (x &&& msk 0x33 k)
def F3 (k x : Nat) : Nat := (x / 16 + x) &&& msk 0x0f k
theorem t1 : ∀ b : Fin 256, ∀ t : Fin 2, ((b.val / 2 + 128 * t.val) % 256 &&& 0x55) = (b.val / 2 &&& 0x55) := by decide +kernel
theorem t2 : ∀ b : Fin 256, ∀ t : Fin 4, ((b.val / 4 + 64 * t.val) % 256 &&& 0x33) = (b.val / 4 &&& 0x33) := by decide +kernel
theorem t3 : ∀ b : Fin 256, ∀ t : Fin 16, ((b.val / 16 + 16 * t.val + b.val) % 256 &&& 0x0f) = ((b.val / 16 + b.val) &&& 0x0f) := by decide +kernel
theorem t4 : ∀ b : Fin 256, f1 b.val < 256 ∧ f2 (f1 b.val) < 256 ∧ f2 (f1 b.val) % 16 ≤ 4 ∧ f2 (f1 b.val) / 16 ≤ 4 ∧ f3 (f2 (f1 b.val)) ≤ 8 ∧ (f3 (f2 (f1 b.val)) = 0 → b.val = 0) := by decide +kernel
theorem F1_step (k x : Nat) : F1 (k + 1) x = f1 (x % 256) + 256 * F1 k (x / 256) := by
  simp only [F1, f1]
  rw [and_msk (by decide), and_msk (by decide)]
  have h := t1 ⟨x % 256, by omega⟩ ⟨x / 256 % 2, by omega⟩
  simp only at h
  have e1 : x / 2 % 256 = (x % 256 / 2 + 128 * (x / 256 % 2)) % 256 := by omega
  have e2 : x / 2 / 256 = x / 256 / 2 := by omega
  rw [e1, h, e2]
  omega
theorem F2_step (k b y : Nat) (hb : b < 256) : F2 (k + 1) (b + 256 * y) = f2 b + 256 * F2 k y := by
  simp only [F2, f2]
  rw [and_msk (by decide), and_msk (by decide)]
  have h := t2 ⟨b, hb⟩ ⟨y % 4, by omega⟩
  simp only at h
  have e1 : (b + 256 * y) / 4 % 256 = (b / 4 + 64 * (y % 4)) % 256 := by omega
  have e2 : (b + 256 * y) / 4 / 256 = y / 4 := by omega
  have e3 : (b + 256 * y) % 256 = b := by omega
  have e4 : (b + 256 * y) / 256 = y := by omega
  rw [e1, h, e2, e3, e4]
  omega
theorem F3_step (k b y : Nat) (hb : b < 256) (h1 : b % 16 ≤ 4) (h2 : b / 16 ≤ 4) (h3 : y % 16 ≤ 4) : F3 (k + 1) (b + 256 * y) = f3 b + 256 * F3 k y := by
  simp only [F3, f3]
  rw [and_msk (by decide)]
  have h := t3 ⟨b, hb⟩ ⟨y % 16, by omega⟩
  simp only at h
  have e1 : ((b + 256 * y) / 16 + (b + 256 * y)) % 256 = (b / 16 + 16 * (y % 16) + b) % 256 := by omega
  have e2 : ((b + 256 * y) / 16 + (b + 256 * y)) / 256 = y / 16 + y := by omega
  rw [e1, h, e2]
def G (b : Nat) : Nat := f3 (f2 (f1 b))
def Y : Nat → Nat → Nat
  | 0, _ => 0
  | k + 1, x => G (x % 256) + 256 * Y k (x / 256)
theorem bytes_of : ∀ (k x : Nat), F3 k (F2 k (F1 k x)) = Y k x ∧ F2 k (F1 k x) % 16 ≤ 4
  | 0, x => by
    have e : ∀ z : Nat, z &&& 0 = 0 := fun z => Nat.and_zero z
    simp [F1, F2, F3, Y, msk]
  | k + 1, x => by
    obtain ⟨i1, i2⟩ := bytes_of k (x / 256)
    obtain ⟨a1, a2, a3, a4, _, _⟩ := t4 ⟨x % 256, by omega⟩
    simp only at a1 a2 a3 a4
    rw [F1_step, F2_step _ _ _ a1, F3_step _ _ _ a2 a3 a4 i2, i1]
    exact ⟨rfl, by omega⟩
/-- How many bits are set. -/
def popN (x : Nat) : Nat :=
  let y := F3 8 (F2 8 (F1 8 x))
  let y := y + y / 256
  let y := y + y / 65536
  let y := y + y / 4294967296
  y % 128
theorem G_le (b : Nat) (h : b < 256) : G b ≤ 8 ∧ (G b = 0 → b = 0) := (t4 ⟨b, h⟩).2.2.2.2
theorem popN_le (x : Nat) : popN x ≤ 127 := by
  simp only [popN]; omega
section
variable {a0 a1 a2 a3 a4 a5 a6 a7 : Nat}
theorem pop_e1 (b0 : a0 ≤ 8) : (a0 + 256 * (a1 + 256 * (a2 + 256 * (a3 + 256 * (a4 + 256 * (a5 + 256 * (a6 + 256 * (a7 + 256 * 0)))))))) / 256 = (a1) + 256 * ((a2) + 256 * ((a3) + 256 * ((a4) + 256 * ((a5) + 256 * ((a6) + 256 * (a7)))))) := by omega
theorem pop_e2 : (a0 + 256 * (a1 + 256 * (a2 + 256 * (a3 + 256 * (a4 + 256 * (a5 + 256 * (a6 + 256 * (a7 + 256 * 0)))))))) + ((a1) + 256 * ((a2) + 256 * ((a3) + 256 * ((a4) + 256 * ((a5) + 256 * ((a6) + 256 * (a7))))))) = (a0 + a1) + 256 * ((a1 + a2) + 256 * ((a2 + a3) + 256 * ((a3 + a4) + 256 * ((a4 + a5) + 256 * ((a5 + a6) + 256 * ((a6 + a7) + 256 * (a7))))))) := by omega
theorem pop_e3 (b0 : a0 ≤ 8) (b1 : a1 ≤ 8) (b2 : a2 ≤ 8) : ((a0 + a1) + 256 * ((a1 + a2) + 256 * ((a2 + a3) + 256 * ((a3 + a4) + 256 * ((a4 + a5) + 256 * ((a5 + a6) + 256 * ((a6 + a7) + 256 * (a7)))))))) / 65536 = (a2 + a3) + 256 * ((a3 + a4) + 256 * ((a4 + a5) + 256 * ((a5 + a6) + 256 * ((a6 + a7) + 256 * (a7))))) := by omega
theorem pop_e4 : ((a0 + a1) + 256 * ((a1 + a2) + 256 * ((a2 + a3) + 256 * ((a3 + a4) + 256 * ((a4 + a5) + 256 * ((a5 + a6) + 256 * ((a6 + a7) + 256 * (a7)))))))) + ((a2 + a3) + 256 * ((a3 + a4) + 256 * ((a4 + a5) + 256 * ((a5 + a6) + 256 * ((a6 + a7) + 256 * (a7)))))) = (a0 + a1 + a2 + a3) + 256 * ((a1 + a2 + a3 + a4) + 256 * ((a2 + a3 + a4 + a5) + 256 * ((a3 + a4 + a5 + a6) + 256 * ((a4 + a5 + a6 + a7) + 256 * ((a5 + a6 + a7) + 256 * ((a6 + a7) + 256 * (a7))))))) := by omega
theorem pop_e5 (b0 : a0 ≤ 8) (b1 : a1 ≤ 8) (b2 : a2 ≤ 8) (b3 : a3 ≤ 8) (b4 : a4 ≤ 8) (b5 : a5 ≤ 8) (b6 : a6 ≤ 8) (b7 : a7 ≤ 8) : ((a0 + a1 + a2 + a3) + 256 * ((a1 + a2 + a3 + a4) + 256 * ((a2 + a3 + a4 + a5) + 256 * ((a3 + a4 + a5 + a6) + 256 * ((a4 + a5 + a6 + a7) + 256 * ((a5 + a6 + a7) + 256 * ((a6 + a7) + 256 * (a7)))))))) / 4294967296 = (a4 + a5 + a6 + a7) + 256 * ((a5 + a6 + a7) + 256 * ((a6 + a7) + 256 * (a7))) := by omega
theorem pop_mod {s t R Q : Nat} (h : (s + 256 * R + (t + 256 * Q)) % 128 = 0) (hs : s + t ≤ 64) : s + t = 0 := by omega
theorem pop_e6 (b0 : a0 ≤ 8) (b1 : a1 ≤ 8) (b2 : a2 ≤ 8) (b3 : a3 ≤ 8) (b4 : a4 ≤ 8) (b5 : a5 ≤ 8) (b6 : a6 ≤ 8) (b7 : a7 ≤ 8) (hz : (((a0 + a1 + a2 + a3) + 256 * ((a1 + a2 + a3 + a4) + 256 * ((a2 + a3 + a4 + a5) + 256 * ((a3 + a4 + a5 + a6) + 256 * ((a4 + a5 + a6 + a7) + 256 * ((a5 + a6 + a7) + 256 * ((a6 + a7) + 256 * (a7)))))))) + ((a4 + a5 + a6 + a7) + 256 * ((a5 + a6 + a7) + 256 * ((a6 + a7) + 256 * (a7))))) % 128 = 0) : a0 = 0 ∧ a1 = 0 ∧ a2 = 0 ∧ a3 = 0 ∧ a4 = 0 ∧ a5 = 0 ∧ a6 = 0 ∧ a7 = 0 := by
  have := pop_mod hz (by omega)
  omega
theorem pop_sum (b0 : a0 ≤ 8) (b1 : a1 ≤ 8) (b2 : a2 ≤ 8) (b3 : a3 ≤ 8) (b4 : a4 ≤ 8) (b5 : a5 ≤ 8) (b6 : a6 ≤ 8) (b7 : a7 ≤ 8) (hz : (a0 + 256 * (a1 + 256 * (a2 + 256 * (a3 + 256 * (a4 + 256 * (a5 + 256 * (a6 + 256 * (a7 + 256 * 0))))))) + (a0 + 256 * (a1 + 256 * (a2 + 256 * (a3 + 256 * (a4 + 256 * (a5 + 256 * (a6 + 256 * (a7 + 256 * 0)))))))) / 256 + (a0 + 256 * (a1 + 256 * (a2 + 256 * (a3 + 256 * (a4 + 256 * (a5 + 256 * (a6 + 256 * (a7 + 256 * 0))))))) + (a0 + 256 * (a1 + 256 * (a2 + 256 * (a3 + 256 * (a4 + 256 * (a5 + 256 * (a6 + 256 * (a7 + 256 * 0)))))))) / 256) / 65536 + (a0 + 256 * (a1 + 256 * (a2 + 256 * (a3 + 256 * (a4 + 256 * (a5 + 256 * (a6 + 256 * (a7 + 256 * 0))))))) + (a0 + 256 * (a1 + 256 * (a2 + 256 * (a3 + 256 * (a4 + 256 * (a5 + 256 * (a6 + 256 * (a7 + 256 * 0)))))))) / 256 + (a0 + 256 * (a1 + 256 * (a2 + 256 * (a3 + 256 * (a4 + 256 * (a5 + 256 * (a6 + 256 * (a7 + 256 * 0))))))) + (a0 + 256 * (a1 + 256 * (a2 + 256 * (a3 + 256 * (a4 + 256 * (a5 + 256 * (a6 + 256 * (a7 + 256 * 0)))))))) / 256) / 65536) / 4294967296) % 128 = 0) : a0 = 0 ∧ a1 = 0 ∧ a2 = 0 ∧ a3 = 0 ∧ a4 = 0 ∧ a5 = 0 ∧ a6 = 0 ∧ a7 = 0 := by
  rw [pop_e1 b0, pop_e2, pop_e3 b0 b1 b2, pop_e4, pop_e5 b0 b1 b2 b3 b4 b5 b6 b7] at hz
  exact pop_e6 b0 b1 b2 b3 b4 b5 b6 b7 hz
end
theorem popN_zero {x : Nat} (h : x < 2 ^ 64) : popN x = 0 ↔ x = 0 := by
  constructor
  · intro hz
    simp only [popN] at hz
    rw [(bytes_of 8 x).1] at hz
    simp only [Y] at hz
    have g0 := G_le (x % 256) (by omega)
    have g1 := G_le (x / 256 % 256) (by omega)
    have g2 := G_le (x / 256 / 256 % 256) (by omega)
    have g3 := G_le (x / 256 / 256 / 256 % 256) (by omega)
    have g4 := G_le (x / 256 / 256 / 256 / 256 % 256) (by omega)
    have g5 := G_le (x / 256 / 256 / 256 / 256 / 256 % 256) (by omega)
    have g6 := G_le (x / 256 / 256 / 256 / 256 / 256 / 256 % 256) (by omega)
    have g7 := G_le (x / 256 / 256 / 256 / 256 / 256 / 256 / 256 % 256) (by omega)
    obtain ⟨z0, z1, z2, z3, z4, z5, z6, z7⟩ := pop_sum g0.1 g1.1 g2.1 g3.1 g4.1 g5.1 g6.1 g7.1 hz
    replace g0 := g0.2 z0
    replace g1 := g1.2 z1
    replace g2 := g2.2 z2
    replace g3 := g3.2 z3
    replace g4 := g4.2 z4
    replace g5 := g5.2 z5
    replace g6 := g6.2 z6
    replace g7 := g7.2 z7
    clear z0 z1 z2 z3 z4 z5 z6 z7 hz
    omega
  · intro hz
    subst hz
    rfl
end Go.AM

/- AM: points, tuples, tables. -/
namespace Go.AM

def topS (t : Int) : Int := if t = 1 ∨ t = 2 then 1 else if t = 3 then 3 else -1
theorem topS_ok {t : Int} (h : tyOK t) : topS t = 1 ∨ topS t = 3 := by rcases h with rfl | rfl | rfl <;> simp [topS]
theorem topS_le (t : Int) : topS t ≤ 3 := by simp only [topS]; split; omega; split <;> omega
theorem topS_ge (t : Int) : -1 ≤ topS t := by simp only [topS]; split; omega; split <;> omega
theorem topS_cases (t : Int) : topS t = -1 ∨ topS t = 1 ∨ topS t = 3 := by simp only [topS]; split; omega; split <;> omega
def isPt (t p : Int) : Bool := decide (0 ≤ p ∧ p ≤ topS t)

/-! ### How many tuples -/
def sizT (t : Int) : Nat := (topS t + 1).toNat
def prodS : List Int → Nat
  | [] => 1
  | t :: l => sizT t * prodS l
def badT (l : List Int) : Bool := l.any fun t => decide (topS t < 0)
def cntS (l : List Int) : Int × Int := if badT l then (0, 3) else if 4096 < prodS l then (0, 22) else (prodS l, 0)
theorem prodS_append : ∀ (a b : List Int), prodS (a ++ b) = prodS a * prodS b
  | [], b => by simp [prodS]
  | t :: a, b => by simp [prodS, prodS_append a b, Nat.mul_assoc]
theorem prodS_snoc (a : List Int) (t : Int) : prodS (a ++ [t]) = prodS a * sizT t := by rw [prodS_append]; simp [prodS]
theorem sizT_pos {t : Int} (h : ¬ topS t < 0) : 2 ≤ sizT t ∧ sizT t ≤ 4 := by
  rcases topS_cases t with e | e | e <;> simp only [sizT, e] <;> omega
theorem badT_mem {l : List Int} (h : badT l = false) {t : Int} (ht : t ∈ l) : ¬ topS t < 0 := by
  simp only [badT, List.any_eq_false, decide_eq_true_eq] at h
  exact h t ht
theorem badT_take {l : List Int} (h : badT l = false) (i : Nat) : badT (l.take i) = false := by
  simp only [badT, List.any_eq_false, decide_eq_true_eq] at h ⊢
  exact fun t ht => h t (List.mem_of_mem_take ht)
theorem prodS_pos : ∀ {l : List Int}, badT l = false → 1 ≤ prodS l
  | [], _ => by simp [prodS]
  | t :: l, h => by
    have h1 := sizT_pos (badT_mem h (t := t) (by simp))
    have h2 : badT l = false := by simp only [badT, List.any_cons, Bool.or_eq_false_iff] at h; exact h.2
    have h3 := prodS_pos h2
    simp only [prodS]
    exact Nat.mul_pos (by omega) (by omega)
theorem prodS_take {l : List Int} (h : badT l = false) (i : Nat) : prodS (l.take i) ≤ prodS l := by
  have h1 : prodS l = prodS (l.take i) * prodS (l.drop i) := by rw [← prodS_append, List.take_append_drop]
  have h2 : badT (l.drop i) = false := by
    simp only [badT, List.any_eq_false, decide_eq_true_eq] at h ⊢
    exact fun t ht => h t (List.mem_of_mem_drop ht)
  have := prodS_pos h2
  rw [h1]
  exact Nat.le_mul_of_pos_right _ (by omega)
theorem cntS_ok {l : List Int} (h : (cntS l).2 = 0) : badT l = false ∧ prodS l ≤ 4096 ∧ (cntS l).1 = prodS l := by
  simp only [cntS] at h ⊢
  split at h
  · cases h
  · rename_i hb
    split at h
    · cases h
    · rename_i hp
      rw [if_neg hb, if_neg hp]
      exact ⟨by simpa using hb, by omega, rfl⟩
theorem cntS_len {l : List Int} (h : (cntS l).2 = 0) : l.length ≤ 4096 := by
  obtain ⟨hb, hp, _⟩ := cntS_ok h
  have gen : ∀ (l : List Int), badT l = false → l.length < prodS l := by
    intro l
    induction l with
    | nil => intro _; simp [prodS]
    | cons t l ih =>
      intro hb
      have h1 := sizT_pos (badT_mem hb (t := t) (by simp))
      have h2 : badT l = false := by simp only [badT, List.any_cons, Bool.or_eq_false_iff] at hb; exact hb.2
      have h3 := ih h2
      simp only [prodS, List.length_cons]
      have : 2 * prodS l ≤ sizT t * prodS l := Nat.mul_le_mul_right _ h1.1
      omega
  have := gen l hb
  omega

/-! ### A tuple's number -/
def hornS : List Int → List Int → Int → Int
  | t :: l, p :: q, n => hornS l q (n * (topS t + 1) + p)
  | _, _, n => n
def allPt : List Int → List Int → Bool
  | t :: l, p :: q => isPt t p && allPt l q
  | _, _ => true
def numT (params tuple : List Int) : Int × Int :=
  if (cntS params).2 ≠ 0 then (0, (cntS params).2) else if tuple.length ≠ params.length then (0, 3) else if allPt params tuple then (hornS params tuple 0, 0) else (0, 2)
theorem hornS_bound : ∀ (l q : List Int) (n m : Int), l.length = q.length → allPt l q = true → badT l = false → 0 ≤ n → n < m → 0 ≤ hornS l q n ∧ hornS l q n < m * prodS l
  | [], [], n, m, _, _, _, h0, h1 => by simp [hornS, prodS]; omega
  | t :: l, p :: q, n, m, hl, ha, hb, h0, h1 => by
    simp only [allPt, Bool.and_eq_true, isPt, decide_eq_true_eq] at ha
    have h2 := sizT_pos (badT_mem hb (t := t) (by simp))
    have h3 : badT l = false := by simp only [badT, List.any_cons, Bool.or_eq_false_iff] at hb; exact hb.2
    have e : (sizT t : Int) = topS t + 1 := by simp only [sizT]; have := topS_ge t; omega
    have h4 : 0 ≤ n * (topS t + 1) := Int.mul_nonneg h0 (by have := topS_ge t; omega)
    have h5 : n * (topS t + 1) + p < m * (topS t + 1) := by
      have : (n + 1) * (topS t + 1) ≤ m * (topS t + 1) := Int.mul_le_mul_of_nonneg_right (by omega) (by have := topS_ge t; omega)
      rw [Int.add_mul] at this
      omega
    have := hornS_bound l q (n * (topS t + 1) + p) (m * (topS t + 1)) (by simpa using hl) ha.2 h3 (by omega) h5
    simp only [hornS, prodS]
    rw [Int.natCast_mul, e, ← Int.mul_assoc]
    exact this
  | [], _ :: _, _, _, hl, _, _, _, _ => by simp at hl
  | _ :: _, [], _, _, hl, _, _, _, _ => by simp at hl
theorem numT_ok {l q : List Int} (h : (numT l q).2 = 0) : (cntS l).2 = 0 ∧ q.length = l.length ∧ allPt l q = true ∧ (numT l q).1 = hornS l q 0 ∧ 0 ≤ hornS l q 0 ∧ hornS l q 0 < prodS l := by
  simp only [numT] at h ⊢
  split at h
  · rename_i hc; exact absurd h hc
  · rename_i hc
    split at h
    · cases h
    · rename_i hl
      split at h
      · rename_i ha
        rw [if_neg hc, if_neg hl, if_pos ha]
        have hc' : (cntS l).2 = 0 := Decidable.byContradiction hc
        have hl' : q.length = l.length := Decidable.byContradiction hl
        obtain ⟨hb, _, _⟩ := cntS_ok hc'
        have := hornS_bound l q 0 1 hl'.symm ha hb (Int.le_refl 0) (by decide)
        rw [Int.one_mul] at this
        exact ⟨hc', hl', ha, rfl, this⟩
      · cases h
theorem hornS_snoc : ∀ (l q : List Int) (t p n : Int), l.length = q.length → hornS (l ++ [t]) (q ++ [p]) n = hornS l q n * (topS t + 1) + p
  | [], [], t, p, n, _ => by simp [hornS]
  | a :: l, b :: q, t, p, n, h => by simp only [List.cons_append, hornS]; exact hornS_snoc l q t p _ (by simpa using h)
  | [], _ :: _, _, _, _, h => by simp at h
  | _ :: _, [], _, _, _, h => by simp at h
theorem allPt_snoc : ∀ (l q : List Int) (t p : Int), l.length = q.length → allPt (l ++ [t]) (q ++ [p]) = (allPt l q && isPt t p)
  | [], [], t, p, _ => by simp [allPt]
  | a :: l, b :: q, t, p, h => by simp only [List.cons_append, allPt, allPt_snoc l q t p (by simpa using h), Bool.and_assoc]
  | [], _ :: _, _, _, h => by simp at h
  | _ :: _, [], _, _, h => by simp at h

/-! ### Rows of cells -/
def bitsAV (l : List Nat) : List (List AV) := l.map fun (b : Nat) => [.int .u64 (b : Int)]
@[simp] theorem bitsAV_length (l : List Nat) : (bitsAV l).length = l.length := by simp [bitsAV]
def cellB (bits : List Nat) (i : Nat) : Nat := bits.getD (i / 32) 0 / 4 ^ (i % 32) % 4
def wordsN (n : Int) : Nat := ((n + 31) / 32).toNat
def rowOK (n : Int) (bits : List Nat) : Bool := decide (0 ≤ n ∧ n ≤ 4096 ∧ bits.length = wordsN n) && (List.range (32 * bits.length)).all fun i => decide ((i : Int) < n ∨ cellB bits i = 0)
structure Tb where
  params : List Int
  ty : Int
  n : Int
  bits : List Nat
def Tb.pts (t : Tb) : List Int := (List.range t.n.toNat).map fun i => ((cellB t.bits i : Nat) : Int)
def tbOK (t : Tb) : Bool := decide ((cntS t.params).2 = 0 ∧ t.n = (cntS t.params).1 ∧ 0 ≤ topS t.ty) && rowOK t.n t.bits && t.pts.all fun c => decide (c ≤ topS t.ty)
def fitOK (f : Df) (t : Tb) : Bool := tbOK t && decide (t.ty = f.ty ∧ t.params = f.params.map Pm.ty)
def fitL : List Df → List Tb → Bool
  | [], [] => true
  | f :: p, t :: ts => fitOK f t && fitL p ts
  | _, _ => false
/-- Words that are words. -/
def W64 (bits : List Nat) : Prop := ∀ b ∈ bits, b < 2 ^ 64
theorem cellB_lt (bits : List Nat) (i : Nat) : cellB bits i < 4 := Nat.mod_lt _ (by decide)
/-- A word is nothing above a cell if all cells from there on are nothing. -/
theorem div4_zero : ∀ (k : Nat) (x : Nat), x < 4 ^ k → (∀ j, j < k → x / 4 ^ j % 4 = 0) → x = 0
  | 0, x, h, _ => by simpa using h
  | k + 1, x, h, hj => by
    have h0 := hj 0 (by omega)
    rw [Nat.pow_zero, Nat.div_one] at h0
    have h1 := div4_zero k (x / 4) (by rw [Nat.pow_succ] at h; omega) (fun j hjk => by
      have := hj (j + 1) (by omega)
      rw [Nat.div_div_eq_div_mul, Nat.mul_comm, ← Nat.pow_succ]; exact this)
    omega
theorem word_zero {x part : Nat} (hx : x < 2 ^ 64) (hp : part ≤ 32) : x / 2 ^ (2 * part) = 0 ↔ ∀ j, part ≤ j → j < 32 → x / 4 ^ j % 4 = 0 := by
  have e : ∀ j, (2 : Nat) ^ (2 * j) = 4 ^ j := fun j => by rw [Nat.pow_mul]
  rw [e]
  constructor
  · intro h j h1 h2
    have : x / 4 ^ j = 0 := by
      rw [show j = part + (j - part) by omega, Nat.pow_add, ← Nat.div_div_eq_div_mul, h, Nat.zero_div]
    rw [this]
  · intro h
    refine div4_zero (32 - part) _ ?_ fun j hj => ?_
    · rw [Nat.div_lt_iff_lt_mul (Nat.pow_pos (by decide)), ← Nat.pow_add, show 32 - part + part = 32 by omega]
      exact hx
    · rw [Nat.div_div_eq_div_mul, ← Nat.pow_add]
      exact h (part + j) (by omega) (by omega)
end Go.AM

/- AM: how many cells of a word hold a value. -/
namespace Go.AM

def low64 : Nat := 0x5555555555555555
def maskN (x v : Nat) : Nat := (2 ^ 64 - (((x ^^^ (v * low64)) ||| (x ^^^ (v * low64)) / 2) + 1)) &&& low64
theorem low_fin : ∀ j : Fin 64, low64.testBit j.val = decide (j.val % 2 = 0) ∧ (2 * low64).testBit j.val = decide (j.val % 2 = 1) ∧ (3 * low64).testBit j.val = true := by decide +kernel
theorem low_bit (i : Nat) : low64.testBit i = (decide (i < 64) && decide (i % 2 = 0)) := by
  by_cases h : i < 64
  · have := (low_fin ⟨i, h⟩).1
    simp only at this
    simp [this, h]
  · have h2 : low64 < 2 ^ i := Nat.lt_of_lt_of_le (show low64 < 2 ^ 64 by decide) (Nat.pow_le_pow_right (by decide) (by omega))
    rw [Nat.testBit_lt_two_pow h2]
    simp [h]
theorem unlike_lt {v : Nat} (hv : v = 2 ∨ v = 3) : v * low64 < 2 ^ 64 := by rcases hv with rfl | rfl <;> decide
theorem mask_bit {x v : Nat} (hx : x < 2 ^ 64) (hv : v = 2 ∨ v = 3) (j : Nat) (hj : j < 32) : (maskN x v).testBit (2 * j) = decide (x / 4 ^ j % 4 = v) := by
  have hd : x ^^^ (v * low64) < 2 ^ 64 := Nat.xor_lt_two_pow hx (unlike_lt hv)
  have hd2 : (x ^^^ (v * low64)) / 2 < 2 ^ 64 := by omega
  have ho := Nat.or_lt_two_pow hd hd2
  have e4 : x / 4 ^ j = x / 2 ^ (2 * j) := by rw [Nat.pow_mul]
  rw [maskN, Nat.testBit_and, low_bit, Nat.testBit_two_pow_sub_succ ho, Nat.testBit_or, ← Nat.testBit_succ, Nat.testBit_xor, Nat.testBit_xor]
  have h1 := Nat.testBit_eq_decide_div_mod_eq (x := x) (i := 2 * j)
  have h2 := Nat.testBit_eq_decide_div_mod_eq (x := x) (i := 2 * j + 1)
  have e5 : x / 2 ^ (2 * j + 1) = x / 2 ^ (2 * j) / 2 := by rw [Nat.pow_succ, ← Nat.div_div_eq_div_mul]
  rw [e5] at h2
  rw [show (2 * j).succ = 2 * j + 1 from rfl, h1, h2, e4]
  have hm : 2 * j % 2 = 0 := by omega
  have hm1 : (2 * j + 1) % 2 = 1 := by omega
  have l1 : 2 * j < 64 := by omega
  have l2 : 2 * j + 1 < 64 := by omega
  have c1 := low_fin ⟨2 * j, l1⟩
  have c2 := low_fin ⟨2 * j + 1, l2⟩
  simp only [hm, hm1] at c1 c2
  generalize x / 2 ^ (2 * j) = y
  rcases hv with rfl | rfl
  · rw [c1.2.1, c2.2.1]
    simp only [l1, hm]
    by_cases a : y % 2 = 1 <;> by_cases b : y / 2 % 2 = 1 <;> simp [a, b] <;> omega
  · rw [c1.2.2, c2.2.2]
    simp only [l1, hm]
    by_cases a : y % 2 = 1 <;> by_cases b : y / 2 % 2 = 1 <;> simp [a, b] <;> omega
theorem mask_zero {x v : Nat} (hx : x < 2 ^ 64) (hv : v = 2 ∨ v = 3) : maskN x v = 0 ↔ ∀ j, j < 32 → x / 4 ^ j % 4 ≠ v := by
  constructor
  · intro h j hj e
    have := mask_bit hx hv j hj
    rw [h, Nat.zero_testBit, e] at this
    simp at this
  · intro h
    refine Nat.eq_of_testBit_eq fun i => ?_
    rw [Nat.zero_testBit]
    by_cases hi : i < 64 ∧ i % 2 = 0
    · have e : i = 2 * (i / 2) := by omega
      rw [e, mask_bit hx hv (i / 2) (by omega)]
      simpa using h (i / 2) (by omega)
    · rw [maskN, Nat.testBit_and, low_bit]
      have : (decide (i < 64) && decide (i % 2 = 0)) = false := by simp; omega
      rw [this, Bool.and_false]
theorem mask_lt (x v : Nat) : maskN x v < 2 ^ 64 := by
  have : maskN x v ≤ low64 := Nat.and_le_right
  have h2 : low64 < 2 ^ 64 := by decide
  omega
/-- How many cells hold v, as it is counted (v above 0). -/
def cntV (bits : List Nat) (v : Nat) : Nat := (bits.map fun x => popN (maskN x v)).sum
theorem sum_zero : ∀ (l : List Nat), l.sum = 0 ↔ ∀ x ∈ l, x = 0
  | [] => by simp
  | a :: l => by
    have := sum_zero l
    simp only [List.sum_cons, List.mem_cons, forall_eq_or_imp, Nat.add_eq_zero_iff, this]
theorem cntV_zero {bits : List Nat} {v : Nat} (hw : W64 bits) (hv : v = 2 ∨ v = 3) : cntV bits v = 0 ↔ ∀ i, i < 32 * bits.length → cellB bits i ≠ v := by
  rw [cntV, sum_zero]
  constructor
  · intro h i hi
    have hk : i / 32 < bits.length := by omega
    have hm := List.getElem_mem hk
    have h1 := h _ (List.mem_map_of_mem hm)
    rw [popN_zero (mask_lt _ _), mask_zero (hw _ hm) hv] at h1
    have := h1 (i % 32) (by omega)
    simpa [cellB, List.getD, hk] using this
  · intro h y hy
    obtain ⟨x, hx, rfl⟩ := List.mem_map.1 hy
    rw [popN_zero (mask_lt _ _), mask_zero (hw _ hx) hv]
    intro j hj
    obtain ⟨k, hk, rfl⟩ := List.mem_iff_getElem.1 hx
    have := h (32 * k + j) (by omega)
    have e1 : (32 * k + j) / 32 = k := by omega
    have e2 : (32 * k + j) % 32 = j := by omega
    simpa [cellB, e1, e2, List.getD, hk] using this
theorem cntV_le : ∀ (bits : List Nat) (v : Nat), cntV bits v ≤ 127 * bits.length
  | [], v => by simp [cntV]
  | x :: l, v => by
    have h1 := cntV_le l v
    have h2 := popN_le (maskN x v)
    simp only [cntV, List.map_cons, List.sum_cons, List.length_cons] at h1 ⊢
    omega
end Go.AM

/- AM: lists with room behind them; an own list that is let go; arguments that are let go. -/
namespace Go.AM

/-- A list of one's own with room behind it. -/
def LsAt (e sz : Nat) (h : Hp) (v : AV) (rows : List (List AV)) : Prop := (v = .nl ∧ rows = []) ∨ ∃ id xs, v = .sl id 0 rows.length ∧ h id = .arr e sz (rows ++ xs)
section
variable {A : List Nat} {e sz : Nat} {h h1 h2 : Hp} {v v1 v2 : AV} {rows : List (List AV)}
theorem LsAt.len (a : LsAt e sz h v rows) (hh : Hp) : aLen .sl v hh = some (.int .i64 rows.length) := by
  rcases a with ⟨rfl, rfl⟩ | ⟨id, xs, rfl, _⟩ <;> rfl
theorem LsAt.flat (a : LsAt e sz h v rows) : v.flat = true ∧ v.cells = [v] := by
  rcases a with ⟨rfl, _⟩ | ⟨id, xs, rfl, _⟩ <;> exact ⟨rfl, rfl⟩
theorem LsAt.not (a : LsAt e sz h v rows) {j : Nat} (hj : ∀ xs, h j ≠ .arr e sz xs) : ¬ isId v j := by
  rintro ⟨o, l, rfl⟩
  rcases a with ⟨x, _⟩ | ⟨id, xs, x, y⟩
  · cases x
  · cases x; exact hj _ y
theorem LsAt.notc (a : LsAt e sz h v rows) {j : Nat} {cs : List AV} (hj : h j = .cells cs) : ¬ isId v j := a.not (by simp [hj])
theorem LsAt.notm (a : LsAt e sz h v rows) {j : Nat} {es : List (AV × AV)} (hj : h j = .map es) : ¬ isId v j := a.not (by simp [hj])
theorem LsAt.notd (a : LsAt e sz h v rows) {j : Nat} (hj : h j = .dead) : ¬ isId v j := a.not (by simp [hj])
theorem LsAt.set (a : LsAt e sz h v rows) {j : Nat} {o : AObj} (hj : ¬ isId v j) : LsAt e sz (hset h j o) v rows := by
  rcases a with x | ⟨id, xs, rfl, y⟩
  · exact .inl x
  · have : ¬ id = j := by rintro rfl; exact hj ⟨_, _, rfl⟩
    exact .inr ⟨id, xs, rfl, by simp [this, y]⟩
theorem LsAt.eq (a : LsAt e sz h v rows) (hk : ∀ j, isId v j → h1 j = h j) : LsAt e sz h1 v rows := by
  rcases a with x | ⟨id, xs, rfl, y⟩
  · exact .inl x
  · exact .inr ⟨id, xs, rfl, by rw [hk id ⟨_, _, rfl⟩]; exact y⟩
theorem LsAt.app {b : Nat} {ys : List (List AV)} {K : AV → Hp → Prop} (a : LsAt e sz h v rows) (hlen : rows.length + ys.length ≤ 1000000) (hb : b ≤ 1000000)
    (hk : ∀ v' h', LsAt e sz h' v' (rows ++ ys) → Fr7 [] h v h' v' → K v' h') {u : Held K} : AApp e sz b v ys K h u := by
  have h2 : rows.length + ys.length ≤ 4611686018427387904 := by omega
  have h3 : (rows.length + ys.length) * b ≤ 140737488355328 := by
    have : (rows.length + ys.length) * b ≤ 1000000 * 1000000 := Nat.mul_le_mul hlen hb
    omega
  rcases a with ⟨rfl, rfl⟩ | ⟨id, xs, rfl, ha⟩
  · cases ys with
    | nil => exact hk .nl h (.inl ⟨rfl, rfl⟩) Fr7.refl
    | cons y ys =>
      refine ⟨by simpa using h2, by simpa using h3, fun id hid => hk _ _ (.inr ⟨id, [], by simp, by simp⟩) fun j _ _ => ?_⟩
      by_cases e1 : j = id
      · exact .inl (e1 ▸ hid)
      · exact .inr ⟨by simp [e1], fun x => e1 (isId_sl.1 x)⟩
  · refine ⟨rfl, ?_⟩
    rw [ha]
    refine ⟨rfl, rfl, by simp, by simpa using h2, by simpa using h3, fun id' hid' => ?_⟩
    refine hk _ _ (.inr ⟨id', [], by simp, ?_⟩) fun j _ hj => ?_
    · have : (rows ++ xs).take rows.length = rows := by simp
      simp [this]
    · by_cases e1 : j = id'
      · exact .inl (e1 ▸ hid')
      · have e2 : ¬ j = id := fun x => hj (isId_sl.2 x)
        exact .inr ⟨by simp [e1, e2], fun x => e1 (isId_sl.1 x)⟩
theorem LsAt.cut {ys : List (List AV)} (a : LsAt e sz h v (rows ++ ys)) : ∃ v', (∀ hh : Hp, (∀ j o l, v = .sl j o l → hh j = h j) → aCut sz v (some none) (some (some rows.length)) hh = some v') ∧ LsAt e sz h v' rows ∧ ∀ j, isId v' j ↔ isId v j := by
  rcases a with ⟨rfl, x⟩ | ⟨id, xs, rfl, ha⟩
  · simp at x
    obtain ⟨rfl, rfl⟩ := x
    exact ⟨.nl, fun _ _ => by simp, .inl ⟨rfl, rfl⟩, fun j => Iff.rfl⟩
  · refine ⟨.sl id 0 rows.length, fun hh hj => ?_, .inr ⟨id, ys ++ xs, rfl, by rw [ha]; simp⟩, fun j => by rw [isId_sl, isId_sl]⟩
    have := hj id _ _ rfl
    simp [this, ha]
theorem LsAt.elems (a : LsAt e sz h v rows) : elemsOf h sz v = some rows := by
  rcases a with ⟨rfl, rfl⟩ | ⟨id, xs, rfl, ha⟩
  · rfl
  · simp [ha]
theorem Own.ls (ho : Own h h1 e sz v rows) : LsAt e sz h1 v rows := by
  rcases ho with ⟨rfl, rfl⟩ | ⟨id, _, _, rfl, ha⟩
  · exact .inl ⟨rfl, rfl⟩
  · exact .inr ⟨id, [], rfl, by simpa using ha⟩
/-- An own list goes; what held it reads it frozen. -/
theorem Own.drop (ho : Own h h1 e sz v rows) : ∃ h2, Sub h2 h1 ∧ Frz h1 h2 v (rowsAV rows) ∧ ∀ j, h2 j = h1 j ∨ (h j = .dead ∧ h2 j = .dead ∧ ∃ xs, h1 j = .arr e sz xs) := by
  rcases ho with ⟨rfl, rfl⟩ | ⟨id, hn, hd, rfl, ha⟩
  · exact ⟨h1, Sub.refl _, .same _, fun _ => .inl rfl⟩
  · refine ⟨hset h1 id .dead, Sub.kill, ?_, fun j => ?_⟩
    · cases rows with
      | nil => exact absurd rfl hn
      | cons r rows => exact Frz.rows ha (by simp)
    · by_cases e : j = id
      · subst e; exact .inr ⟨hd, by simp, rows, ha⟩
      · exact .inl (by simp [e])
end

theorem RelL.cons_inv {E : Env} {a : AV} {l : List AV} {us : List Value} (h : RelL E (a :: l) us) : ∃ u us', us = u :: us' ∧ Rel E a u ∧ RelL E l us' := by
  obtain ⟨h1, h2⟩ := h
  cases us with
  | nil => simp at h1
  | cons u us => exact ⟨u, us, rfl, h2 0 _ _ rfl rfl, by simpa using h1, fun j c w hc hu => h2 (j + 1) c w (by simpa using hc) (by simpa using hu)⟩
/-- Arguments as they read when some objects are let go. -/
def FrzL (h h' : Hp) : List AV → List AV → Prop
  | [], [] => True
  | a :: l, b :: m => Frz h h' a b ∧ FrzL h h' l m
  | _, _ => False
theorem FrzL.rel {E : Env} (hs : Sim E) {h' : Hp} (hsub : Sub h' E.h) : ∀ {l m : List AV} {us : List Value}, FrzL E.h h' l m → RelL E l us → RelL { E with h := h' } m us
  | [], [], us, _, hr => ⟨hr.1, fun j c u hc hu => by simp at hc⟩
  | a :: l, b :: m, us, hf, hr => by
    obtain ⟨u, us', rfl, h1, h2⟩ := hr.cons_inv
    have h3 := FrzL.rel hs hsub hf.2 h2
    have h4 := hf.1.rel hs hsub h1
    refine ⟨by simp [h3.1], fun j c w hc hu => ?_⟩
    cases j with
    | zero => simp at hc hu; subst hc; subst hu; exact h4
    | succ j => exact h3.2 j c w (by simpa using hc) (by simpa using hu)
/-- A call with arguments that are frozen, and objects let go. -/
theorem ACalls.frz {P : Program} {f : FuncId} {args args' : List AV} {h h' : Hp} {Q : AV → Hp → Prop} (hsub : Sub h' h) (hf : FrzL h h' args args') (hc : ACalls P f args' h' Q) : ACalls P f args h Q :=
  ⟨hc.1, fun E cargs hs hh hr => by
    subst hh
    obtain ⟨hx, hs'⟩ := forget' hs hsub
    refine (hc.2 { E with h := h' } cargs hs' rfl (FrzL.rel hs hsub hf hr)).mono ?_
    rintro e w' ⟨v, r, E', h1, h2, h3, h4, h5, h6⟩
    exact ⟨v, r, E', h1, h2, h3, hx.trans h4, h5, h6⟩⟩
end Go.AM

/- AM: flat programs, and how a program is made flat. -/
namespace Go.AM

structure Vl where
  ty : Int
  re : Nat
  im : Nat
  b : Bool
  ls : List (Nat × Nat)
deriving DecidableEq
def zRows (l : List (Nat × Nat)) : List (List AV) := l.map fun z => [.cplx z.1 z.2]
def Vl.cells (v : Vl) : List AV := [.int .i64 v.ty, .cplx v.re v.im, .bool v.b, rowsAV (zRows v.ls)]
@[simp] theorem Vl.cells_length (v : Vl) : v.cells.length = 4 := rfl
def vl0 : Vl := ⟨0, 0, 0, false, []⟩
structure Atm where
  slot : Int
  lit : Vl
deriving DecidableEq
def Atm.cells (a : Atm) : List AV := .int .i64 a.slot :: a.lit.cells
@[simp] theorem Atm.cells_length (a : Atm) : a.cells.length = 5 := rfl
inductive Cd where
  | mk (op slot slot2 func prim : Int) (lit : Vl) (atoms : List Atm) (args : List Cd)
mutual
def Cd.cells : Cd → List AV
  | .mk op slot slot2 func prim lit atoms args => [.int .i64 op, .int .i64 slot, .int .i64 slot2, .int .i64 func, .int .i64 prim] ++ lit.cells ++ [rowsAV (atoms.map Atm.cells), rowsAV (Cd.rows args)]
def Cd.rows : List Cd → List (List AV)
  | [] => []
  | c :: l => c.cells :: Cd.rows l
end
theorem Cd.rows_map : ∀ (l : List Cd), Cd.rows l = l.map Cd.cells
  | [] => rfl
  | c :: l => by rw [Cd.rows, Cd.rows_map l]; rfl
@[simp] theorem Cd.cells_length (c : Cd) : c.cells.length = 11 := by cases c; rfl
@[simp] theorem Cd.take11 (c : Cd) : c.cells.take 11 = c.cells := List.take_of_length_le (by simp)
@[simp] theorem Cd.drop11 (c : Cd) : c.cells.drop 11 = [] := List.drop_eq_nil_of_le (by simp)
@[simp] theorem Cd.take11a (c : Cd) (l : List AV) : (c.cells ++ l).take 11 = c.cells := by rw [List.take_append_of_le_length (by simp)]; simp
@[simp] theorem Atm.take5 (a : Atm) : a.cells.take 5 = a.cells := rfl
@[simp] theorem Atm.drop5 (a : Atm) : a.cells.drop 5 = [] := rfl
@[simp] theorem Atm.lit4 (a : Atm) : (a.cells.drop 1).take 4 = a.lit.cells := rfl
@[simp] theorem Vl.take4 (v : Vl) : v.cells.take 4 = v.cells := rfl
@[simp] theorem Vl.drop4 (v : Vl) : v.cells.drop 4 = [] := rfl
@[simp] theorem Atm.q0 {a : Atm} : a.cells[0]? = some (.int .i64 a.slot) := rfl
def Cd.op : Cd → Int | .mk a _ _ _ _ _ _ _ => a
def Cd.slot : Cd → Int | .mk _ a _ _ _ _ _ _ => a
def Cd.slot2 : Cd → Int | .mk _ _ a _ _ _ _ _ => a
def Cd.func : Cd → Int | .mk _ _ _ a _ _ _ _ => a
def Cd.prim : Cd → Int | .mk _ _ _ _ a _ _ _ => a
def Cd.lit : Cd → Vl | .mk _ _ _ _ _ a _ _ => a
def Cd.atoms : Cd → List Atm | .mk _ _ _ _ _ _ a _ => a
def Cd.args : Cd → List Cd | .mk _ _ _ _ _ _ _ a => a
@[simp] theorem Cd.q0 {c : Cd} : c.cells[0]? = some (.int .i64 c.op) := by cases c; rfl
@[simp] theorem Cd.q1 {c : Cd} : c.cells[1]? = some (.int .i64 c.slot) := by cases c; rfl
@[simp] theorem Cd.q2 {c : Cd} : c.cells[2]? = some (.int .i64 c.slot2) := by cases c; rfl
@[simp] theorem Cd.q3 {c : Cd} : c.cells[3]? = some (.int .i64 c.func) := by cases c; rfl
@[simp] theorem Cd.q4 {c : Cd} : c.cells[4]? = some (.int .i64 c.prim) := by cases c; rfl
@[simp] theorem Cd.q9 {c : Cd} : c.cells[9]? = some (rowsAV (c.atoms.map Atm.cells)) := by cases c; rfl
@[simp] theorem Cd.q10 {c : Cd} : c.cells[10]? = some (rowsAV (c.args.map Cd.cells)) := by
  cases c
  rename_i args
  show some (rowsAV (Cd.rows args)) = _
  rw [Cd.rows_map]; rfl
@[simp] theorem Cd.lit4 (c : Cd) : (c.cells.drop 5).take 4 = c.lit.cells := by cases c; rfl
@[simp] theorem Cd.c0 {c : Cd} {h : 0 < c.cells.length} : c.cells[0] = .int .i64 c.op := by cases c; rfl
@[simp] theorem Cd.c1 {c : Cd} {h : 1 < c.cells.length} : c.cells[1] = .int .i64 c.slot := by cases c; rfl
@[simp] theorem Cd.c2 {c : Cd} {h : 2 < c.cells.length} : c.cells[2] = .int .i64 c.slot2 := by cases c; rfl
@[simp] theorem Cd.c3 {c : Cd} {h : 3 < c.cells.length} : c.cells[3] = .int .i64 c.func := by cases c; rfl
@[simp] theorem Cd.c4 {c : Cd} {h : 4 < c.cells.length} : c.cells[4] = .int .i64 c.prim := by cases c; rfl
@[simp] theorem Cd.c9 {c : Cd} {h : 9 < c.cells.length} : c.cells[9] = rowsAV (c.atoms.map Atm.cells) := by cases c; rfl
@[simp] theorem Cd.c10 {c : Cd} {h : 10 < c.cells.length} : c.cells[10] = rowsAV (c.args.map Cd.cells) := by
  cases c
  rename_i args
  show rowsAV (Cd.rows args) = _
  rw [Cd.rows_map]; rfl
@[simp] theorem Atm.c0 {a : Atm} {h : 0 < a.cells.length} : a.cells[0] = .int .i64 a.slot := rfl
/-- A flat function. -/
structure Sup where
  name : Bytes
  params : List Int
  ty : Int
  slots : Int
  code : Cd
def Sup.cells (s : Sup) : List AV := [.str s.name, rowsAV (intRows s.params), .int .i64 s.ty, .int .i64 s.slots] ++ s.code.cells
@[simp] theorem Sup.cells_length (s : Sup) : s.cells.length = 15 := by simp [Sup.cells]

/-! ### How it is made -/
abbrev Nms := List (Bytes × Int)
/-- The slot of a name: the last one's. -/
def lastN (n : Bytes) : Nms → Option Int
  | [] => none
  | x :: l => match lastN n l with
    | some t => some t
    | none => if x.1 = n then some x.2 else none
theorem lastN_snoc (n : Bytes) : ∀ (l : Nms) (x : Bytes × Int), lastN n (l ++ [x]) = if x.1 = n then some x.2 else lastN n l
  | [], x => by simp [lastN]
  | y :: l, x => by
    simp only [List.cons_append, lastN, lastN_snoc n l x]
    by_cases h : x.1 = n
    · simp [h]
    · simp [h]
theorem lastN_none {n : Bytes} : ∀ {l : Nms}, n ∉ l.map Prod.fst → lastN n l = none
  | [], _ => rfl
  | y :: l, h => by
    rw [List.map_cons, List.mem_cons, not_or] at h
    simp only [lastN, lastN_none h.2]
    rw [if_neg (fun x => h.1 x.symm)]
theorem lastN_mem {n : Bytes} : ∀ {l : Nms}, n ∈ l.map Prod.fst → ∃ k, lastN n l = some k ∧ (n, k) ∈ l
  | [], h => by cases h
  | y :: l, h => by
    simp only [lastN]
    by_cases h1 : n ∈ l.map Prod.fst
    · obtain ⟨k, e, hm⟩ := lastN_mem h1
      exact ⟨k, by rw [e], by simp [hm]⟩
    · have h2 : n = y.1 := by
        rw [List.map_cons, List.mem_cons] at h
        exact h.elim id (fun x => absurd x h1)
      rw [lastN_none h1]
      exact ⟨y.2, by simp [h2], by simp [h2]⟩
def Ex.re : Ex → Nat | .mk _ _ _ _ a _ _ _ => a
def Ex.im : Ex → Nat | .mk _ _ _ _ _ a _ _ => a
@[simp] theorem Ex.c4 {e : Ex} {h : 4 < e.cells.length} : e.cells[4] = .cplx e.re e.im := by cases e; rfl
@[simp] theorem Ex.q4 {e : Ex} : e.cells[4]? = some (.cplx e.re e.im) := by cases e; rfl
def bindN (names : Nms) (nm : Bytes) (n : Int) : Nms := names ++ [(nm, n)]
end Go.AM

/- AM: the point of an expression. -/
namespace Go.AM

def casesS (q : Int) : List (Bool × Int × Int) :=
  if q = 1 then [(false, 1, 1)] else if q = 2 then [(false, 0, 3), (false, 1, 2)] else if q = 3 then [(true, 0, 0), (false, 1, 3)] else []
def consP (h t : Int) : Int := max 1 (min t (2 + h))
def minS (l : List Int) : Int := l.foldl min 1
/-- From nothing up, until it rises no more. -/
def fixI (f : Int → Int) : Nat → Int → Int
  | 0, q => q
  | k + 1, q => if f q ≤ q then q else fixI f k (f q)
def tysF (f : Df) : List Int := f.params.map Pm.ty
section
variable (p : List Df) (T : List (List Int))
def callP (name : Bytes) (l : List Int) : Int :=
  (T.getD (headsS name p 0).toNat []).getD (numT (tysF ((headD name p).getD df0)) l).1.toNat 0
def joinS (op : Int) (name : Bytes) (l : List Int) : Int := if op = 18 then consP (l.getD 0 0) (l.getD 1 0) else if op = 7 then callP p T name l else minS l
mutual
def ptS : Ex → Nms → Int
  | .mk op name tail ty re im args pos, nm =>
    if op = 1 ∨ op = 2 ∨ op = 3 then 1 else if op = 4 then 3 else if op = 5 then 0 else if op = 6 then (lastN name nm).getD 0
    else if op = 19 then ifP args nm
    else if op = 20 then caseP name tail args nm
    else if op = 21 then letP name args nm
    else if op = 22 then strP name args nm
    else joinS p T op name (allP args nm)
def allP : List Ex → Nms → List Int
  | [], _ => []
  | a :: l, nm => ptS a nm :: allP l nm
def ifP : List Ex → Nms → Int
  | [a, b, c], nm => if ptS a nm = 0 then 0 else max (ptS b nm) (ptS c nm)
  | _, _ => 0
def caseP (name tail : Bytes) : List Ex → Nms → Int
  | [a, b, c], nm => (casesS (ptS a nm)).foldl (fun m w => max m (if w.1 then ptS b nm else ptS c (bindN (bindN nm name w.2.1) tail w.2.2))) 0
  | _, _ => 0
def letP (name : Bytes) : List Ex → Nms → Int
  | [a, b], nm => ptS b (bindN nm name (fixI (fun q => ptS a (bindN nm name q)) 4 0))
  | _, _ => 0
def strP (name : Bytes) : List Ex → Nms → Int
  | [a, b], nm => if ptS a nm = 0 then 0 else ptS b (bindN nm name (ptS a nm))
  | _, _ => 0
end
theorem ptS_eq (e : Ex) (nm : Nms) : ptS p T e nm = if e.op = 1 ∨ e.op = 2 ∨ e.op = 3 then 1 else if e.op = 4 then 3 else if e.op = 5 then 0 else if e.op = 6 then (lastN e.name nm).getD 0
    else if e.op = 19 then ifP p T e.args nm
    else if e.op = 20 then caseP p T e.name e.tail e.args nm
    else if e.op = 21 then letP p T e.name e.args nm
    else if e.op = 22 then strP p T e.name e.args nm
    else joinS p T e.op e.name (allP p T e.args nm) := by cases e; rw [ptS]; rfl
theorem allP_map (nm : Nms) : ∀ (l : List Ex), allP p T l nm = l.map fun e => ptS p T e nm
  | [] => by simp [allP]
  | a :: l => by simp [allP, allP_map nm l]
end

/-! ### Points are of the type -/
/-- Names with types, and the same names with points of these types. -/
def EnvPt : List Pm → Nms → Prop
  | [], [] => True
  | x :: env, y :: nm => x.name = y.1 ∧ (0 ≤ y.2 ∧ y.2 ≤ topS x.ty) ∧ EnvPt env nm
  | _, _ => False
theorem EnvPt.snoc : ∀ {env : List Pm} {nm : Nms} {x : Pm} {y : Bytes × Int}, EnvPt env nm → x.name = y.1 → 0 ≤ y.2 → y.2 ≤ topS x.ty → EnvPt (env ++ [x]) (nm ++ [y])
  | [], [], _, _, _, h1, h2, h3 => ⟨h1, ⟨h2, h3⟩, trivial⟩
  | a :: env, b :: nm, _, _, h, h1, h2, h3 => ⟨h.1, h.2.1, EnvPt.snoc h.2.2 h1 h2 h3⟩
  | [], _ :: _, _, _, h, _, _, _ => h.elim
  | _ :: _, [], _, _, h, _, _, _ => h.elim
theorem EnvPt.length : ∀ {env : List Pm} {nm : Nms}, EnvPt env nm → env.length = nm.length
  | [], [], _ => rfl
  | a :: env, b :: nm, h => by simp [EnvPt.length h.2.2]
  | [], _ :: _, h => h.elim
  | _ :: _, [], h => h.elim
theorem EnvPt.last : ∀ {env : List Pm} {nm : Nms} {n : Bytes}, EnvPt env nm → (lastT n env = none ∧ lastN n nm = none) ∨ ∃ t q, lastT n env = some t ∧ lastN n nm = some q ∧ 0 ≤ q ∧ q ≤ topS t
  | [], [], _, _ => .inl ⟨rfl, rfl⟩
  | a :: env, b :: nm, n, h => by
    simp only [lastT, lastN]
    rcases EnvPt.last (n := n) h.2.2 with ⟨h1, h2⟩ | ⟨t, q, h1, h2, h3⟩
    · rw [h1, h2]
      simp only [h.1]
      by_cases e : b.1 = n
      · rw [if_pos e, if_pos e]; exact .inr ⟨_, _, rfl, rfl, h.2.1⟩
      · rw [if_neg e, if_neg e]; exact .inl ⟨rfl, rfl⟩
    · rw [h1, h2]; exact .inr ⟨t, q, rfl, rfl, h3⟩
  | [], _ :: _, _, h => h.elim
  | _ :: _, [], _, h => h.elim
/-- Tables that fit. -/
def TabOK (p : List Df) (T : List (List Int)) : Prop := ∀ (i : Nat) (f : Df), p[i]? = some f → ∃ l, T[i]? = some l ∧ (cntS (tysF f)).2 = 0 ∧ l.length = prodS (tysF f) ∧ ∀ c ∈ l, 0 ≤ c ∧ c ≤ topS f.ty
theorem consP_range {h t : Int} (h0 : 0 ≤ h) (h1 : h ≤ 1) (t0 : 0 ≤ t) (t1 : t ≤ 3) : 1 ≤ consP h t ∧ consP h t ≤ 3 := by
  simp only [consP]; omega
theorem minS_range : ∀ (l : List Int) (m : Int), 0 ≤ m → m ≤ 1 → (∀ x ∈ l, 0 ≤ x) → 0 ≤ l.foldl min m ∧ l.foldl min m ≤ 1
  | [], m, h0, h1, _ => ⟨h0, h1⟩
  | a :: l, m, h0, h1, h => by
    have := h a (by simp)
    exact minS_range l (min m a) (by omega) (by omega) (fun x hx => h x (by simp [hx]))
theorem fixI_range {f : Int → Int} {top : Int} (hf : ∀ q, 0 ≤ q → q ≤ top → 0 ≤ f q ∧ f q ≤ top) : ∀ (k : Nat) (q : Int), 0 ≤ q → q ≤ top → 0 ≤ fixI f k q ∧ fixI f k q ≤ top
  | 0, q, h0, h1 => ⟨h0, h1⟩
  | k + 1, q, h0, h1 => by
    simp only [fixI]
    split
    · exact ⟨h0, h1⟩
    · have := hf q h0 h1
      exact fixI_range hf k (f q) this.1 this.2
section
variable {p : List Df} {T : List (List Int)}
theorem wrong_own {env : List Pm} {t : Int} {e : Ex} (h : wrongS p env t e = []) : ((ownS p env e).2 = true → (ownS p env e).1 = t) ∧ wrongL p env e t 0 e.args = [] := by
  rw [wrongS_eq, List.append_eq_nil_iff] at h
  refine ⟨fun h2 => ?_, h.2⟩
  have h1 := h.1
  simp only [ownW, h2, true_and] at h1
  exact Decidable.byContradiction fun hn => by rw [if_pos hn] at h1; cases h1
theorem wrong_arg {env : List Pm} {e : Ex} {t : Int} : ∀ {l : List Ex} {i k : Nat} {a : Ex}, wrongL p env e t i l = [] → l[k]? = some a → wrongS p (withinS env e (i + k)) (wantedS p e (i + k) t) a = []
  | [], _, _, _, _, h => by simp at h
  | b :: l, i, k, a, hw, h => by
    simp only [wrongL, List.append_eq_nil_iff] at hw
    cases k with
    | zero => simp at h; subst h; exact hw.1
    | succ k =>
      have := wrong_arg (k := k) hw.2 (by simpa using h)
      rwa [show i + 1 + k = i + (k + 1) by omega] at this
theorem wrong_at {env : List Pm} {e : Ex} {t : Int} (h : wrongS p env t e = []) {k : Nat} {a : Ex} (ha : e.args[k]? = some a) : wrongS p (withinS env e k) (wantedS p e k t) a = [] := by
  have := wrong_arg (wrong_own h).2 ha
  rwa [Nat.zero_add] at this
theorem call_range {f : Df} {k : Nat} {l : List Int} {name : Bytes} (hT : TabOK p T) (hd : headD name p = some f) (hl : l.length = f.params.length) (ha : allPt (tysF f) l = true) : (numT (tysF f) l).2 = 0 ∧ 0 ≤ callP p T name l ∧ callP p T name l ≤ topS f.ty := by
  rcases headsD name p 0 with ⟨_, x⟩ | ⟨i, hi, e1, e2⟩
  · rw [x] at hd; cases hd
  · rw [e2] at hd; cases hd
    rw [Nat.zero_add] at e1
    obtain ⟨r, h1, h2, h3, h4⟩ := hT i p[i] (List.getElem?_eq_getElem hi)
    have hn : numT (tysF p[i]) l = (hornS (tysF p[i]) l 0, 0) := by
      simp only [numT, h2, ha, if_true]
      rw [if_neg (by decide), if_neg (by simp [tysF, hl])]
    have hb := numT_ok (l := tysF p[i]) (q := l) (by rw [hn])
    refine ⟨by rw [hn], ?_⟩
    have hlt : (hornS (tysF p[i]) l 0).toNat < r.length := by rw [h3]; omega
    have hc := h4 _ (List.getElem_mem hlt)
    have : callP p T name l = r[(hornS (tysF p[i]) l 0).toNat] := by
      simp only [callP, e1, e2, Option.getD_some, hn, List.getD_eq_getElem?_getD, Int.toNat_natCast, h1]
      simp [hlt]
    rw [this]; exact hc
end
end Go.AM
