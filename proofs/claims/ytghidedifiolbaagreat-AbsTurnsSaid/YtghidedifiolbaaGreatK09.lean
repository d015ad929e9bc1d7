/- AM: lists as they are handed on, maps from names to numbers, what a function leaves as it was. -/
import Derived.Test.YtghidedifiolbaaGreatK08
import Derived.Test.YtghidedifiolbaaGreatK07
set_option linter.unusedVariables false
set_option linter.unusedSimpArgs false
namespace Go.AM

/-! ### Lists that turn no more -/
section
variable {h : Hp}
@[simp] theorem aIa_rows (sz : Nat) (k : IntKind) (n : Int) (xs : List (List AV)) : aIa sz (rowsAV xs) (.int k n) h = if 0 ≤ n then (xs[n.toNat]?).bind fun e => if e.length = sz then some (.fp e) else none else none := by
  cases xs with
  | nil => simp [rowsAV, aIa]
  | cons x xs => exact aIa_fzs sz k n (x :: xs)
@[simp] theorem aLen_rows (xs : List (List AV)) : aLen .sl (rowsAV xs) h = some (.int .i64 xs.length) := by cases xs <;> rfl
@[simp] theorem elemsOf_rows (sz : Nat) (xs : List (List AV)) : elemsOf h sz (rowsAV xs) = if xs.all (·.length == sz) then some xs else none := by cases xs <;> rfl
theorem rowsAV_cons (x : List AV) (xs : List (List AV)) : rowsAV (x :: xs) = .fz (x :: xs) := rfl
theorem rowsAV_nil : rowsAV [] = .nl := rfl

theorem IsStrs.elems {v : AV} {l : List Bytes} (hs : IsStrs h v l) : elemsOf h 1 v = some (strRows l) := by
  have hall : ((strRows l).all fun x => x.length == 1) = true := by simp [strRows]
  rcases hs with rfl | rfl | ⟨id, e, rfl, ha⟩
  · rw [elemsOf_rows, if_pos hall]
  · rw [elemsOf_fzs, if_pos hall]
  · simp [ha]
    exact List.take_of_length_le (by simp)
/-- What was there is there. -/
def Keeps (h h' : Hp) : Prop := ∀ j, h j = .dead ∨ h' j = h j
theorem Keeps.refl (h : Hp) : Keeps h h := fun _ => .inr rfl
theorem Keeps.set {h1 : Hp} (hf : Keeps h h1) {j : Nat} {o : AObj} (hj : h j = .dead) : Keeps h (hset h1 j o) := fun i => by
  by_cases e : i = j
  · exact .inl (e ▸ hj)
  · simpa [e] using hf i
theorem Keeps.new {h1 : Hp} (hf : Keeps h h1) {j : Nat} {o : AObj} (hj : h1 j = .dead) : Keeps h (hset h1 j o) := hf.set (by
  rcases hf j with x | x
  · exact x
  · rw [← x]; exact hj)
theorem Keeps.trans {h1 h2 : Hp} (a : Keeps h h1) (b : Keeps h1 h2) : Keeps h h2 := fun j => by
  rcases a j with x | x
  · exact .inl x
  · rcases b j with y | y
    · exact .inl (by rw [← x]; exact y)
    · exact .inr (y.trans x)
theorem Keeps.at {h1 : Hp} (a : Keeps h h1) {j : Nat} {o : AObj} (hj : h j = o) (ho : o ≠ .dead) : h1 j = o := by
  rcases a j with x | x
  · exact absurd (hj.symm.trans x) ho
  · exact x.trans hj
theorem Keeps.dead {h1 : Hp} (a : Keeps h h1) {j : Nat} (hj : h1 j = .dead) : h j = .dead := by
  rcases a j with x | x
  · exact x
  · rw [← x]; exact hj
theorem Keeps.sub {h1 : Hp} (a : Keeps h h1) : Sub h h1 := fun j => by
  rcases a j with x | x
  · exact .inr x
  · exact .inl x.symm
theorem IsStrs.keep {h1 : Hp} {v : AV} {l : List Bytes} (hs : IsStrs h v l) (a : Keeps h h1) : IsStrs h1 v l := by
  rcases hs with x | x | ⟨id, e, x, ha⟩
  · exact .inl x
  · exact .inr (.inl x)
  · exact .inr (.inr ⟨id, e, x, a.at ha (by simp)⟩)
theorem IsStrs.rows (l : List Bytes) : IsStrs h (rowsAV (strRows l)) l := .inl rfl

/-! ### Lists of one's own that grow -/
theorem Own.push {h1 : Hp} {e sz b : Nat} {v : AV} {rows ys : List (List AV)} {K : AV → Hp → Prop} (ho : Own h h1 e sz v rows) (hf : Keeps h h1) (hlen : rows.length + ys.length ≤ 1000000) (hb : b ≤ 1000000)
    (hk : ∀ v' h2, Own h h2 e sz v' (rows ++ ys) → Keeps h h2 → (∀ j cs, h1 j = .cells cs → h2 j = .cells cs) → K v' h2) {u : Held K} : AApp e sz b v ys K h1 u := by
  have h2 : rows.length + ys.length ≤ 4611686018427387904 := by omega
  have h3 : (rows.length + ys.length) * b ≤ 140737488355328 := by
    have : (rows.length + ys.length) * b ≤ 1000000 * 1000000 := Nat.mul_le_mul hlen hb
    omega
  rcases ho with ⟨rfl, rfl⟩ | ⟨id, hn, hd, rfl, ha⟩
  · cases ys with
    | nil => exact hk _ _ (.inl ⟨rfl, rfl⟩) hf fun _ _ x => x
    | cons y ys =>
      refine ⟨by simpa using h2, by simpa using h3, fun id hid => hk _ _ (.inr ⟨id, by simp, hf.dead hid, rfl, by simp⟩) (hf.new hid) fun j cs hj => ?_⟩
      have : ¬ j = id := by rintro rfl; rw [hid] at hj; cases hj
      simp [this, hj]
  · refine ⟨rfl, ?_⟩
    rw [ha]
    refine ⟨rfl, rfl, Nat.le_refl _, h2, h3, fun id' hid' => ?_⟩
    rw [List.take_length]
    have hid2 : h id' = .dead := hf.dead hid'
    refine hk _ _ (.inr ⟨id', by simp [hn], hid2, by simp, by simp⟩) ((hf.set hd).set hid2) fun j cs hj => ?_
    have n2 : ¬ j = id := by rintro rfl; rw [ha] at hj; cases hj
    have n1 : ¬ j = id' := by
      rintro rfl
      rw [hj] at hid'; cases hid'
    simp [n1, n2, hj]
theorem Own.isStrs {h1 : Hp} {e : Nat} {v : AV} {l : List Bytes} (ho : Own h h1 e 1 v (strRows l)) : IsStrs h1 v l := by
  rcases ho with ⟨h1, rfl⟩ | ⟨id, hn, hd, rfl, ha⟩
  · have : l = [] := by simpa [strRows] using h1
    subst this; exact .inl rfl
  · exact .inr (.inr ⟨id, e, by simp, ha⟩)
theorem Own.elems {h1 : Hp} {e sz : Nat} {v : AV} {rows : List (List AV)} (ho : Own h h1 e sz v rows) (hr : ∀ r ∈ rows, r.length = sz) : elemsOf h1 sz v = some rows := by
  rcases ho with ⟨rfl, rfl⟩ | ⟨id, hn, hd, rfl, ha⟩
  · rfl
  · simp [ha]
theorem Own.keep {h1 h2 : Hp} {e sz : Nat} {v : AV} {rows : List (List AV)} (ho : Own h h1 e sz v rows) (hk : Keeps h1 h2) : Own h h2 e sz v rows := by
  rcases ho with x | ⟨id, hn, hd, rfl, ha⟩
  · exact .inl x
  · exact .inr ⟨id, hn, hd, rfl, hk.at ha (by simp)⟩
end

/-- What is no array of that kind is kept. -/
def KeepsE (e : Nat) (h h' : Hp) : Prop := ∀ j, h j = .dead ∨ h' j = h j ∨ ∃ sz xs, h j = .arr e sz xs
theorem KeepsE.cells {e : Nat} {h h' : Hp} (a : KeepsE e h h') {j : Nat} {cs : List AV} (hj : h j = .cells cs) : h' j = .cells cs := by
  rcases a j with x | x | ⟨_, _, x⟩
  · rw [hj] at x; cases x
  · rw [x, hj]
  · rw [hj] at x; cases x
theorem KeepsE.map {e : Nat} {h h' : Hp} (a : KeepsE e h h') {j : Nat} {es : List (AV × AV)} (hj : h j = .map es) : h' j = .map es := by
  rcases a j with x | x | ⟨_, _, x⟩
  · rw [hj] at x; cases x
  · rw [x, hj]
  · rw [hj] at x; cases x
theorem KeepsE.arr {e : Nat} {h h' : Hp} (a : KeepsE e h h') {j e' sz : Nat} {xs : List (List AV)} (hj : h j = .arr e' sz xs) (hne : e' ≠ e) : h' j = .arr e' sz xs := by
  rcases a j with x | x | ⟨_, _, x⟩
  · rw [hj] at x; cases x
  · rw [x, hj]
  · rw [hj] at x; cases x; exact absurd rfl hne
theorem KeepsE.own {e : Nat} {h h1 h2 : Hp} (a : KeepsE e h1 h2) {e' sz : Nat} {v : AV} {rows : List (List AV)} (ho : Own h h1 e' sz v rows) (hne : e' ≠ e) : Own h h2 e' sz v rows := by
  rcases ho with x | ⟨id, hn, hd, rfl, ha⟩
  · exact .inl x
  · exact .inr ⟨id, hn, hd, rfl, a.arr ha hne⟩
theorem Own.pushE {h h1 : Hp} {e sz b : Nat} {v : AV} {rows ys : List (List AV)} {K : AV → Hp → Prop} (ho : Own h h1 e sz v rows) (hf : Keeps h h1) (hlen : rows.length + ys.length ≤ 1000000) (hb : b ≤ 1000000)
    (hk : ∀ v' h2, Own h h2 e sz v' (rows ++ ys) → Keeps h h2 → KeepsE e h1 h2 → K v' h2) {u : Held K} : AApp e sz b v ys K h1 u := by
  have h2 : rows.length + ys.length ≤ 4611686018427387904 := by omega
  have h3 : (rows.length + ys.length) * b ≤ 140737488355328 := by
    have : (rows.length + ys.length) * b ≤ 1000000 * 1000000 := Nat.mul_le_mul hlen hb
    omega
  have new : ∀ (hh : Hp) j o, hh j = .dead → KeepsE e h1 hh → h1 j = .dead → KeepsE e h1 (hset hh j o) := fun hh j o _ k hd i => by
    by_cases ei : i = j
    · exact .inl (ei ▸ hd)
    · simpa [ei] using k i
  rcases ho with ⟨rfl, rfl⟩ | ⟨id, hn, hd, rfl, ha⟩
  · cases ys with
    | nil => exact hk _ _ (.inl ⟨rfl, rfl⟩) hf fun _ => .inr (.inl rfl)
    | cons y ys =>
      exact ⟨by simpa using h2, by simpa using h3, fun id hid => hk _ _ (.inr ⟨id, by simp, hf.dead hid, rfl, by simp⟩) (hf.new hid) (new _ _ _ hid (fun _ => .inr (.inl rfl)) hid)⟩
  · refine ⟨rfl, ?_⟩
    rw [ha]
    refine ⟨rfl, rfl, Nat.le_refl _, h2, h3, fun id' hid' => ?_⟩
    rw [List.take_length]
    have hid2 : h id' = .dead := hf.dead hid'
    refine hk _ _ (.inr ⟨id', by simp [hn], hid2, by simp, by simp⟩) ((hf.set hd).set hid2) fun j => ?_
    by_cases e1 : j = id'
    · exact .inl (e1 ▸ hid')
    · by_cases e2 : j = id
      · exact .inr (.inr ⟨_, _, e2 ▸ ha⟩)
      · exact .inr (.inl (by simp [e1, e2]))
theorem at_new {h : Hp} {i j : Nat} {o o' : AObj} (hi : h i = o) (ho : o ≠ .dead) (hj : h j = .dead) : hset h j o' i = o := by
  have : ¬ i = j := by rintro rfl; exact ho (hi.symm.trans hj)
  simp [this, hi]
theorem cells_new {h : Hp} {i j : Nat} {cs : List AV} {o' : AObj} (hi : h i = .cells cs) (hj : h j = .dead) : hset h j o' i = .cells cs := at_new hi (by simp) hj
theorem cells_ne {h : Hp} {i j : Nat} {cs : List AV} (hi : h i = .cells cs) (hj : h j = .dead) : ¬ i = j := by rintro rfl; rw [hi] at hj; cases hj
theorem hset_ne {h : Hp} {i j : Nat} {cs : List AV} (hd : hset h i (.cells cs) j = .dead) : ¬ i = j := by rintro rfl; simp at hd
theorem map_ne {h : Hp} {i j : Nat} {es : List (AV × AV)} (hi : h i = .map es) (hj : h j = .dead) : ¬ i = j := by rintro rfl; rw [hi] at hj; cases hj
theorem Own.new {h h1 : Hp} {e sz : Nat} {v : AV} {rows : List (List AV)} (ho : Own h h1 e sz v rows) {j : Nat} {o : AObj} (hj : h1 j = .dead) : Own h (hset h1 j o) e sz v rows := by
  rcases ho with x | ⟨id, hn, hd, rfl, ha⟩
  · exact .inl x
  · exact .inr ⟨id, hn, hd, rfl, at_new ha (by simp) hj⟩

/-! ### A branch whose two ways meet again -/
theorem ThenB.cut {P : Program} {b : Bool} {x y : ACode} {Q : AExit → Tm → Hp → Prop} {tm : Tm} {h : Hp} (M : Tm → Hp → Prop)
    (ht : b = true → AW P x (fun e tm h => match e with | .normal => M tm h | e => Q e tm h) tm h) (hf : b = false → AW P y (fun e tm h => match e with | .normal => M tm h | e => Q e tm h) tm h)
    (hz : ∀ tm h, M tm h → Q .normal tm h) {u1 : Held (AW P x Q tm h)} {u2 : Held (AW P y Q tm h)} : ThenB (.bool b) (AW P x Q tm h) (AW P y Q tm h) u1 u2 := by
  have key : AW P (if b then x else y) Q tm h := by
    refine AW.mono (Q1 := fun e tm h => match e with | .normal => M tm h | e => Q e tm h) ?_ ?_
    · intro e tm h
      cases e with
      | normal => exact hz tm h
      | exit i => exact id
      | ret => exact id
    · cases b
      · exact hf rfl
      · exact ht rfl
  cases b
  · exact key
  · exact key

/-! ### Maps from names to numbers -/
abbrev Mp := List (Bytes × Int)
def mapAV (m : Mp) : List (AV × AV) := m.map fun kv => (.str kv.1, .int .i64 kv.2)
def getM : Mp → Bytes → Int
  | [], _ => 0
  | kv :: m, k => if k = kv.1 then kv.2 else getM m k
def putM (k : Bytes) (v : Int) : Mp → Mp
  | [] => [(k, v)]
  | kv :: m => if k = kv.1 then (k, v) :: m else kv :: putM k v m
theorem getM_putM (k : Bytes) (v : Int) : ∀ (m : Mp) (k' : Bytes), getM (putM k v m) k' = if k' = k then v else getM m k'
  | [], k' => by simp [putM, getM]
  | kv :: m, k' => by
    simp only [putM]
    by_cases h : k = kv.1
    · subst h
      rw [if_pos rfl]
      simp only [getM]
      by_cases h2 : k' = kv.1
      · simp [h2]
      · simp [h2]
    · rw [if_neg h]
      simp only [getM]
      by_cases h2 : k' = kv.1
      · have : ¬ k' = k := fun e => h (e ▸ h2)
        simp only [if_pos h2, if_neg this]
      · simp only [if_neg h2]
        exact getM_putM k v m k'
def hasM : Mp → Bytes → Bool
  | [], _ => false
  | kv :: m, k => if k = kv.1 then true else hasM m k
def lookM (m : Mp) (k : Bytes) : Option AV := if hasM m k then some (.int .i64 (getM m k)) else none
@[simp] theorem findK_mapAV (k : Bytes) : ∀ (m : Mp), findK false (.str k) (mapAV m) = some (lookM m k)
  | [] => rfl
  | kv :: m => by
    have ih := findK_mapAV k m
    simp only [lookM] at ih
    simp only [mapAV, List.map_cons, findK, hasM, getM, lookM]
    have hk : keyEq false (.str k) (.str kv.1) = some (decide (k = kv.1)) := by simp only [keyEq]; rw [← Bool.beq_eq_decide_eq]
    rw [hk]
    by_cases h : k = kv.1
    · simp [h]
    · simp only [h, decide_false, if_false]; exact ih
theorem getM_has {m : Mp} {k : Bytes} (h : hasM m k = false) : getM m k = 0 := by
  induction m with
  | nil => rfl
  | cons kv m ih =>
    simp only [hasM] at h
    by_cases e : k = kv.1
    · simp [e] at h
    · rw [if_neg e] at h; simp only [getM, if_neg e]; exact ih h
@[simp] theorem lookM_some (m : Mp) (k : Bytes) : (lookM m k).isSome = hasM m k := by simp only [lookM]; cases hasM m k <;> rfl
@[simp] theorem lookM_getD (m : Mp) (k : Bytes) : (lookM m k).getD (.int .i64 0) = .int .i64 (getM m k) := by
  simp only [lookM]
  cases h : hasM m k
  · simp [getM_has h]
  · simp
@[simp] theorem putK_mapAV (k : Bytes) (v : Int) : ∀ (m : Mp), putK false (.str k) (.int .i64 v) (mapAV m) = some (mapAV (putM k v m))
  | [] => rfl
  | kv :: m => by
    simp only [mapAV, List.map_cons, putK, putM]
    have hk : keyEq false (.str k) (.str kv.1) = some (decide (k = kv.1)) := by simp only [keyEq]; rw [← Bool.beq_eq_decide_eq]
    rw [hk]
    by_cases h : k = kv.1
    · simp [h]
    · have := putK_mapAV k v m
      simp only [mapAV] at this
      simp [h, this]
/-! ### What trees and definitions hold -/
@[simp] theorem Ex.c0 {e : Ex} {h : 0 < e.cells.length} : e.cells[0] = .int .i64 e.op := by cases e; rfl
@[simp] theorem Ex.c1 {e : Ex} {h : 1 < e.cells.length} : e.cells[1] = .str e.name := by cases e; rfl
@[simp] theorem Ex.c2 {e : Ex} {h : 2 < e.cells.length} : e.cells[2] = .str e.tail := by cases e; rfl
@[simp] theorem Ex.c3 {e : Ex} {h : 3 < e.cells.length} : e.cells[3] = .int .i64 e.ty := by cases e; rfl
@[simp] theorem Ex.c5 {e : Ex} {h : 5 < e.cells.length} : e.cells[5] = rowsAV (e.args.map Ex.cells) := by cases e; simp [Ex.cells, Ex.rows_map, Ex.args]
@[simp] theorem Ex.c6 {e : Ex} {h : 6 < e.cells.length} : e.cells[6] = .int .i64 e.pos := by cases e; rfl
@[simp] theorem Pm.c0 {p : Pm} {h : 0 < p.cells.length} : p.cells[0] = .str p.name := rfl
@[simp] theorem Pm.c1 {p : Pm} {h : 1 < p.cells.length} : p.cells[1] = .int .i64 p.ty := rfl
@[simp] theorem Pm.c2 {p : Pm} {h : 2 < p.cells.length} : p.cells[2] = .int .i64 p.pos := rfl
@[simp] theorem Ex.q0 {e : Ex} : e.cells[0]? = some (.int .i64 e.op) := by cases e; rfl
@[simp] theorem Ex.q1 {e : Ex} : e.cells[1]? = some (.str e.name) := by cases e; rfl
@[simp] theorem Ex.q2 {e : Ex} : e.cells[2]? = some (.str e.tail) := by cases e; rfl
@[simp] theorem Ex.q3 {e : Ex} : e.cells[3]? = some (.int .i64 e.ty) := by cases e; rfl
@[simp] theorem Ex.q5 {e : Ex} : e.cells[5]? = some (rowsAV (e.args.map Ex.cells)) := by cases e; simp [Ex.cells, Ex.rows_map, Ex.args]
@[simp] theorem Ex.q6 {e : Ex} : e.cells[6]? = some (.int .i64 e.pos) := by cases e; rfl
@[simp] theorem Pm.q0 {p : Pm} : p.cells[0]? = some (.str p.name) := rfl
@[simp] theorem Pm.q1 {p : Pm} : p.cells[1]? = some (.int .i64 p.ty) := rfl
@[simp] theorem Pm.q2 {p : Pm} : p.cells[2]? = some (.int .i64 p.pos) := rfl
@[simp] theorem Df.q0 {f : Df} : f.cells[0]? = some (.str f.name) := rfl
@[simp] theorem Df.q1 {f : Df} : f.cells[1]? = some (rowsAV (f.params.map Pm.cells)) := rfl
@[simp] theorem Df.q2 {f : Df} : f.cells[2]? = some (.int .i64 f.ty) := rfl
@[simp] theorem Df.q10 {f : Df} : f.cells[10]? = some (.int .i64 f.pos) := by
  obtain ⟨a, b, c, d, e⟩ := f; cases d; rfl
@[simp] theorem Pm.take3 (p : Pm) : p.cells.take 3 = p.cells := rfl
@[simp] theorem Pm.drop3 (p : Pm) : p.cells.drop 3 = [] := rfl
@[simp] theorem Df.c0 {f : Df} {h : 0 < f.cells.length} : f.cells[0] = .str f.name := rfl
@[simp] theorem Df.c1 {f : Df} {h : 1 < f.cells.length} : f.cells[1] = rowsAV (f.params.map Pm.cells) := rfl
@[simp] theorem Df.c2 {f : Df} {h : 2 < f.cells.length} : f.cells[2] = .int .i64 f.ty := rfl
@[simp] theorem Df.c10 {f : Df} {h : 10 < f.cells.length} : f.cells[10] = .int .i64 f.pos := by
  obtain ⟨a, b, c, d, e⟩ := f; cases d; rfl
@[simp] theorem Df.take11 (f : Df) : f.cells.take 11 = f.cells := List.take_of_length_le (by simp)
@[simp] theorem Df.drop11 (f : Df) : f.cells.drop 11 = [] := List.drop_eq_nil_of_le (by simp)
@[simp] theorem Df.body7 (f : Df) : (f.cells.drop 3).take 7 = f.body.cells := by
  obtain ⟨a, b, c, d, e⟩ := f; cases d; rfl
end Go.AM

/- AM: names in programs, as the document's answer has them. -/
namespace Go.AM

def Ex.use (names : List Bytes) (e : Ex) : List (Ex × Bool) :=
  if e.op = 6 ∨ e.op = 7 then [(e, decide (e.op = 6) && !decide (e.name ∈ names))] else []
mutual
def seenS (names : List Bytes) : Ex → List (Ex × Bool)
  | .mk op name tail ty re im args pos => Ex.use names (.mk op name tail ty re im args pos) ++ seenL names (.mk op name tail ty re im args pos) 0 args
def seenL (names : List Bytes) (p : Ex) (i : Nat) : List Ex → List (Ex × Bool)
  | [] => []
  | a :: l => seenS (names ++ boundS p i) a ++ seenL names p (i + 1) l
end
theorem seenS_eq (names : List Bytes) (e : Ex) : seenS names e = Ex.use names e ++ seenL names e 0 e.args := by cases e; simp only [seenS]; rfl
def seenRow (x : Ex × Bool) : List AV := x.1.cells ++ [.bool x.2]
@[simp] theorem seenRow_length (x : Ex × Bool) : (seenRow x).length = 8 := by simp [seenRow]
theorem use_length (names : List Bytes) (e : Ex) : (Ex.use names e).length ≤ 1 := by simp only [Ex.use]; split <;> simp
mutual
theorem seenS_length (names : List Bytes) : ∀ (e : Ex), (seenS names e).length ≤ e.size
  | .mk op name tail ty re im args pos => by
    have h1 := use_length names (.mk op name tail ty re im args pos)
    have h2 := seenL_length names (.mk op name tail ty re im args pos) 0 args
    simp only [seenS, List.length_append, Ex.size]
    omega
theorem seenL_length (names : List Bytes) (p : Ex) (i : Nat) : ∀ (l : List Ex), (seenL names p i l).length ≤ Ex.sizeL l
  | [] => by simp [seenL]
  | a :: l => by
    have h1 := seenS_length (names ++ boundS p i) a
    have h2 := seenL_length names p (i + 1) l
    simp only [seenL, List.length_append, Ex.sizeL]
    omega
end
theorem seenL_snoc (names : List Bytes) (p : Ex) : ∀ (l : List Ex) (i : Nat) (a : Ex), seenL names p i (l ++ [a]) = seenL names p i l ++ seenS (names ++ boundS p ((i + l.length : Nat) : Int)) a
  | [], i, a => by simp [seenL]
  | b :: l, i, a => by
    have h := seenL_snoc names p l (i + 1) a
    simp only [List.cons_append, seenL, h, List.append_assoc, List.length_cons]
    rw [show i + 1 + l.length = i + (l.length + 1) by omega]
theorem boundS_length (e : Ex) (i : Int) : (boundS e i).length ≤ 2 := by simp only [boundS]; split; · simp
                                                                         split <;> simp

abbrev Flt := Int × Int
def fltRow (f : Flt) : List AV := [.int .i64 f.1, .int .i64 f.2]
/-- What is wrong with one use of a name. -/
def useF (p : List Df) (x : Ex × Bool) : List Flt :=
  (if x.2 = true then [(31, x.1.pos)] else []) ++
  (if x.1.op ≠ 7 then [] else if headsS x.1.name p 0 < 0 then [(32, x.1.pos)] else if (p.getD (headsS x.1.name p 0).toNat ⟨[], [], 0, ex0, 0⟩).params.length ≠ x.1.args.length then [(33, x.1.pos)] else [])
def usesF (p : List Df) (l : List (Ex × Bool)) : List Flt := l.flatMap (useF p)
def parF (acc : List Bytes) : List Pm → List Flt
  | [] => []
  | x :: l => (if x.name ∈ acc then [(30, x.pos)] else []) ++ parF (acc ++ [x.name]) l
def pnames (l : List Pm) : List Bytes := l.map Pm.name
def faultF (p : List Df) (i : Nat) (f : Df) : List Flt :=
  (if headsS f.name p 0 < i then [(30, f.pos)] else []) ++ parF [] f.params ++ usesF p (seenS (pnames f.params) f.body)
def faultsL (p : List Df) (i : Nat) : List Df → List Flt
  | [] => []
  | f :: l => faultF p i f ++ faultsL p (i + 1) l
theorem useF_length (p : List Df) (x : Ex × Bool) : (useF p x).length ≤ 2 := by
  simp only [useF, List.length_append]
  have h1 : (if x.2 = true then [((31 : Int), x.1.pos)] else []).length ≤ 1 := by split <;> simp
  have h2 : (if x.1.op ≠ 7 then [] else if headsS x.1.name p 0 < 0 then [((32 : Int), x.1.pos)] else if (p.getD (headsS x.1.name p 0).toNat ⟨[], [], 0, ex0, 0⟩).params.length ≠ x.1.args.length then [(33, x.1.pos)] else []).length ≤ 1 := by
    split
    · simp
    · split
      · simp
      · split <;> simp
  omega
theorem usesF_length (p : List Df) : ∀ (l : List (Ex × Bool)), (usesF p l).length ≤ 2 * l.length
  | [] => by simp [usesF]
  | x :: l => by
    have h1 := useF_length p x
    have h2 := usesF_length p l
    simp only [usesF, List.flatMap_cons, List.length_append, List.length_cons] at h2 ⊢
    omega
theorem usesF_snoc (p : List Df) (l : List (Ex × Bool)) (x : Ex × Bool) : usesF p (l ++ [x]) = usesF p l ++ useF p x := by simp [usesF]
theorem parF_length : ∀ (l : List Pm) (acc : List Bytes), (parF acc l).length ≤ l.length
  | [], _ => by simp [parF]
  | x :: l, acc => by
    have h := parF_length l (acc ++ [x.name])
    simp only [parF, List.length_append, List.length_cons]
    split <;> simp <;> omega
theorem parF_snoc : ∀ (l : List Pm) (acc : List Bytes) (x : Pm), parF acc (l ++ [x]) = parF acc l ++ (if x.name ∈ acc ++ pnames l then [(30, x.pos)] else [])
  | [], acc, x => by simp [parF, pnames]
  | y :: l, acc, x => by
    have h := parF_snoc l (acc ++ [y.name]) x
    simp only [List.cons_append, parF, h, List.append_assoc]
    rfl
theorem faultF_length (p : List Df) (i : Nat) (f : Df) : (faultF p i f).length ≤ 2 * f.size := by
  have h1 : (if headsS f.name p 0 < i then [((30 : Int), f.pos)] else []).length ≤ 1 := by split <;> simp
  have h2 := parF_length f.params []
  have h3 := usesF_length p (seenS (pnames f.params) f.body)
  have h4 := seenS_length (pnames f.params) f.body
  simp only [faultF, List.length_append, Df.size]
  omega
theorem faultsL_length (p : List Df) : ∀ (l : List Df) (i : Nat), (faultsL p i l).length ≤ 2 * sizeP l
  | [], _ => by simp [faultsL]
  | f :: l, i => by
    have h1 := faultF_length p i f
    have h2 := faultsL_length p l (i + 1)
    simp only [faultsL, List.length_append, sizeP]
    omega
theorem faultsL_snoc (p : List Df) : ∀ (l : List Df) (i : Nat) (f : Df), faultsL p i (l ++ [f]) = faultsL p i l ++ faultF p (i + l.length) f
  | [], i, f => by simp [faultsL]
  | g :: l, i, f => by
    have h := faultsL_snoc p l (i + 1) f
    simp only [List.cons_append, faultsL, h, List.append_assoc, List.length_cons]
    rw [show i + 1 + l.length = i + (l.length + 1) by omega]
theorem sizeP_append : ∀ (a b : List Df), sizeP (a ++ b) = sizeP a + sizeP b
  | [], b => by simp [sizeP]
  | f :: a, b => by simp only [List.cons_append, sizeP, sizeP_append a b]; omega
theorem sizeP_take (l : List Df) (n : Nat) : sizeP (l.take n) ≤ sizeP l := by
  have := sizeP_append (l.take n) (l.drop n)
  rw [List.take_append_drop] at this; omega
theorem take_snoc {α : Type} (l : List α) {i : Nat} (h : i < l.length) : l.take (i + 1) = l.take i ++ [l[i]] := by simp
theorem headsS_lt (n : Bytes) : ∀ (l : List Df) (i : Nat), headsS n l i = -1 ∨ ∃ k, ∃ h : k < l.length, headsS n l i = ((i + k : Nat) : Int) ∧ l[k].name = n
  | [], i => .inl rfl
  | f :: l, i => by
    simp only [headsS]
    by_cases h : f.name = n
    · rw [if_pos h]; exact .inr ⟨0, by simp, by simp, h⟩
    · rw [if_neg h]
      rcases headsS_lt n l (i + 1) with e | ⟨k, hk, e1, e2⟩
      · exact .inl e
      · exact .inr ⟨k + 1, by simp; omega, by rw [e1]; congr 1; omega, by simpa using e2⟩
theorem headsS_at {n : Bytes} {l : List Df} (h : ¬ headsS n l 0 < 0) : ∃ k, ∃ hk : k < l.length, headsS n l 0 = (k : Int) ∧ l[k].name = n := by
  rcases headsS_lt n l 0 with e | ⟨k, hk, e1, e2⟩
  · omega
  · exact ⟨k, hk, by simpa using e1, e2⟩
/-- The least of faults. -/
def least (f : Flt) (l : List Flt) : Flt := l.foldl (fun f x => if f.1 = 0 ∨ x.2 < f.2 then x else f) f
def faultsS (p : List Df) : List Flt := faultsL p 0 p
def check06 (p : List Df) : Flt := least (0, 0) (faultsS p)
end Go.AM

/- AM: types, as the document's answer has them. -/
namespace Go.AM

def df0 : Df := ⟨[], [], 0, ex0, 0⟩
def headD (n : Bytes) : List Df → Option Df
  | [] => none
  | f :: l => if f.name = n then some f else headD n l
theorem headD_mem {n : Bytes} : ∀ {l : List Df} {f : Df}, headD n l = some f → f ∈ l ∧ f.name = n
  | [], _, h => by cases h
  | g :: l, f, h => by
    simp only [headD] at h
    split at h
    · rename_i e; cases h; exact ⟨by simp, e⟩
    · have := headD_mem h; exact ⟨by simp [this.1], this.2⟩
/-- The type of a variable: the last one of that name. -/
def lastT (n : Bytes) : List Pm → Option Int
  | [] => none
  | x :: l => match lastT n l with
    | some t => some t
    | none => if x.name = n then some x.ty else none
theorem lastT_snoc (n : Bytes) : ∀ (l : List Pm) (x : Pm), lastT n (l ++ [x]) = if x.name = n then some x.ty else lastT n l
  | [], x => by simp [lastT]
  | y :: l, x => by
    simp only [List.cons_append, lastT, lastT_snoc n l x]
    by_cases h : x.name = n
    · simp [h]
    · simp [h]
def pmRows (l : List Pm) : AV := rowsAV (l.map Pm.cells)

section
variable (p : List Df)
def ownS (env : List Pm) (e : Ex) : Int × Bool :=
  if e.op = 1 ∨ e.op = 8 ∨ e.op = 9 ∨ e.op = 10 ∨ e.op = 11 ∨ e.op = 15 ∨ e.op = 16 ∨ e.op = 17 then (1, true)
  else if e.op = 2 ∨ e.op = 3 ∨ e.op = 12 ∨ e.op = 13 ∨ e.op = 14 then (2, true)
  else if e.op = 4 ∨ e.op = 18 then (3, true)
  else if e.op = 5 then (e.ty, true)
  else if e.op = 6 then ((lastT e.name env).getD (-1), true)
  else if e.op = 7 then ((match headD e.name p with | some f => if f.params.length ≠ e.args.length then -1 else f.ty | none => -1), true)
  else (0, false)
def wantedS (e : Ex) (i : Nat) (t : Int) : Int :=
  if e.op = 14 then 2
  else if e.op = 18 then (if i = 1 then 3 else 1)
  else if e.op = 7 then (match headD e.name p with | some f => (match f.params[i]? with | some x => x.ty | none => 1) | none => 1)
  else if e.op = 19 then (if i = 0 then 2 else t)
  else if e.op = 20 then (if i = 0 then 3 else t)
  else if e.op = 21 ∨ e.op = 22 then (if i = 0 then e.ty else t)
  else 1
def withinS (env : List Pm) (e : Ex) (i : Nat) : List Pm :=
  if e.op = 21 ∨ (e.op = 22 ∧ i = 1) then env ++ [⟨e.name, e.ty, 0⟩]
  else if e.op = 20 ∧ i = 2 then env ++ [⟨e.name, 1, 0⟩] ++ [⟨e.tail, 3, 0⟩]
  else env
def ownW (env : List Pm) (e : Ex) (t : Int) : List Int := if (ownS p env e).2 = true ∧ (ownS p env e).1 ≠ t then [e.pos] else []
mutual
def wrongS (env : List Pm) (t : Int) : Ex → List Int
  | .mk op name tail ty re im args pos => ownW p env (.mk op name tail ty re im args pos) t ++ wrongL env (.mk op name tail ty re im args pos) t 0 args
def wrongL (env : List Pm) (e : Ex) (t : Int) (i : Nat) : List Ex → List Int
  | [] => []
  | a :: l => wrongS (withinS env e i) (wantedS p e i t) a ++ wrongL env e t (i + 1) l
end
theorem wrongS_eq (env : List Pm) (t : Int) (e : Ex) : wrongS p env t e = ownW p env e t ++ wrongL p env e t 0 e.args := by cases e; simp only [wrongS]; rfl
theorem wrongL_snoc (env : List Pm) (e : Ex) (t : Int) : ∀ (l : List Ex) (i : Nat) (a : Ex), wrongL p env e t i (l ++ [a]) = wrongL p env e t i l ++ wrongS p (withinS env e (i + l.length)) (wantedS p e (i + l.length) t) a
  | [], i, a => by simp [wrongL]
  | b :: l, i, a => by
    have h := wrongL_snoc env e t l (i + 1) a
    simp only [List.cons_append, wrongL, h, List.append_assoc, List.length_cons]
    rw [show i + 1 + l.length = i + (l.length + 1) by omega]
theorem ownW_length (env : List Pm) (e : Ex) (t : Int) : (ownW p env e t).length ≤ 1 := by simp only [ownW]; split <;> simp
mutual
theorem wrongS_length : ∀ (e : Ex) (env : List Pm) (t : Int), (wrongS p env t e).length ≤ e.size
  | .mk op name tail ty re im args pos, env, t => by
    have h1 := ownW_length p env (.mk op name tail ty re im args pos) t
    have h2 := wrongL_length args env (.mk op name tail ty re im args pos) t 0
    simp only [wrongS, List.length_append, Ex.size]
    omega
theorem wrongL_length : ∀ (l : List Ex) (env : List Pm) (e : Ex) (t : Int) (i : Nat), (wrongL p env e t i l).length ≤ Ex.sizeL l
  | [], _, _, _, _ => by simp [wrongL]
  | a :: l, env, e, t, i => by
    have h1 := wrongS_length a (withinS env e i) (wantedS p e i t)
    have h2 := wrongL_length l env e t (i + 1)
    simp only [wrongL, List.length_append, Ex.sizeL]
    omega
end
theorem withinS_length (env : List Pm) (e : Ex) (i : Nat) : (withinS env e i).length ≤ env.length + 2 := by
  simp only [withinS]; split; · simp
  split <;> simp
def tell7 (f : Flt) (x : Int) : Flt := if f.1 = 0 ∨ x < f.2 then (34, x) else f
def wrongP : List Df → List Int
  | [] => []
  | f :: l => wrongS p f.params f.ty f.body ++ wrongP l
theorem wrongP_snoc : ∀ (l : List Df) (f : Df), wrongP p (l ++ [f]) = wrongP p l ++ wrongS p f.params f.ty f.body
  | [], f => by simp [wrongP]
  | g :: l, f => by simp [wrongP, wrongP_snoc l f]
def check07 : Flt := if (check06 p).1 ≠ 0 then check06 p else (wrongP p p).foldl tell7 (check06 p)
end
def intRows (l : List Int) : List (List AV) := l.map fun x => [.int .i64 x]
@[simp] theorem intRows_length (l : List Int) : (intRows l).length = l.length := by simp [intRows]
@[simp] theorem intRows_all (l : List Int) : ((intRows l).all fun x => x.length == 1) = true := by simp [intRows]
theorem intRows_append (a b : List Int) : intRows (a ++ b) = intRows a ++ intRows b := by simp [intRows]
end Go.AM

/- AM: names in programs, as the program has them. -/
namespace Go.AM

/-- What is not among these objects is kept. -/
def KeepsX (S : List Nat) (h h' : Hp) : Prop := ∀ j, j ∉ S → h j = .dead ∨ h' j = h j
section
variable {S : List Nat} {h h1 h2 : Hp}
theorem KeepsX.refl : KeepsX S h h := fun _ _ => .inr rfl
theorem KeepsX.set (a : KeepsX S h h1) {j : Nat} {o : AObj} (hj : h j = .dead) : KeepsX S h (hset h1 j o) := fun i hi => by
  by_cases e : i = j
  · exact .inl (e ▸ hj)
  · simpa [e] using a i hi
theorem KeepsX.mem (a : KeepsX S h h1) {j : Nat} {o : AObj} (hj : j ∈ S) : KeepsX S h (hset h1 j o) := fun i hi => by
  have e : ¬ i = j := by rintro rfl; exact hi hj
  simpa [e] using a i hi
theorem KeepsX.new (a : KeepsX S h h1) {j : Nat} {o : AObj} (hj : h1 j = .dead) : KeepsX S h (hset h1 j o) := fun i hi => by
  by_cases e : i = j
  · subst e
    rcases a i hi with x | x
    · exact .inl x
    · exact .inl (by rw [← x]; exact hj)
  · simpa [e] using a i hi
theorem KeepsX.trans (a : KeepsX S h h1) (b : KeepsX S h1 h2) : KeepsX S h h2 := fun j hj => by
  rcases a j hj with x | x
  · exact .inl x
  · rcases b j hj with y | y
    · exact .inl (by rw [← x]; exact y)
    · exact .inr (y.trans x)
theorem KeepsX.at (a : KeepsX S h h1) {j : Nat} {o : AObj} (hj : h j = o) (ho : o ≠ .dead) (hs : j ∉ S) : h1 j = o := by
  rcases a j hs with x | x
  · exact absurd (hj.symm.trans x) ho
  · exact x.trans hj
theorem KeepsX.dead (a : KeepsX S h h1) {j : Nat} (hj : h1 j = .dead) (hs : j ∉ S) : h j = .dead := by
  rcases a j hs with x | x
  · exact x
  · rw [← x]; exact hj
theorem Keeps.x (a : Keeps h h1) : KeepsX S h h1 := fun j _ => a j
theorem KeepsX.sub2 {a b : Nat} {x y : AObj} (k : KeepsX [a, b] h h1) (hne : ¬ a = b) (ha : h1 a = x) (hb : h1 b = y) : Sub (hset (hset h a x) b y) h1 := fun j => by
  by_cases e2 : j = b
  · subst e2; exact .inl (by simp [hb])
  by_cases e1 : j = a
  · subst e1; exact .inl (by simp [e2, ha])
  rcases k j (by simp [e1, e2]) with z | z
  · exact .inr (by simpa [e1, e2] using z)
  · exact .inl (by simp [e1, e2, z])
end

/-- How often each name is bound. -/
def NmOK (m : Mp) (names : List Bytes) : Prop := ∀ nm, getM m nm = (names.count nm : Int)
theorem NmOK.nil : NmOK [] [] := fun _ => rfl
theorem NmOK.inc {m : Mp} {names : List Bytes} (h : NmOK m names) (n : Bytes) : NmOK (putM n (getM m n + 1) m) (names ++ [n]) := fun nm => by
  rw [getM_putM, List.count_append]
  by_cases e : nm = n
  · subst e; simp [h nm]
  · have : ¬ n = nm := fun x => e x.symm
    simp [e, h nm, List.count_singleton, this]
theorem NmOK.dec {m : Mp} {names l : List Bytes} {n : Bytes} (h : NmOK m (names ++ n :: l)) : NmOK (putM n (getM m n - 1) m) (names ++ l) := fun nm => by
  rw [getM_putM, List.count_append]
  have h' := h nm
  rw [List.count_append, List.count_cons] at h'
  by_cases e : nm = n
  · subst e
    simp at h' ⊢
    omega
  · have : ¬ n = nm := fun x => e x.symm
    simp [this] at h'
    simp [e, h']
theorem NmOK.zero {m : Mp} {names : List Bytes} (h : NmOK m names) (n : Bytes) : getM m n = 0 ↔ n ∉ names := by
  rw [h n]
  have := List.count_eq_zero (a := n) (l := names)
  rw [← this]
  omega
theorem NmOK.le {m : Mp} {names : List Bytes} (h : NmOK m names) (n : Bytes) : 0 ≤ getM m n ∧ getM m n ≤ names.length := by
  rw [h n]
  have := List.count_le_length (a := n) (l := names)
  omega

/-- Where the functions stand. -/
def PlOK (m : Mp) (p : List Df) : Prop := ∀ nm, getM m nm = headsS nm p 0 + 1
theorem headsS_snoc (n : Bytes) : ∀ (l : List Df) (i : Nat) (f : Df), headsS n (l ++ [f]) i = if headsS n l i < 0 then (if f.name = n then ((i + l.length : Nat) : Int) else -1) else headsS n l i
  | [], i, f => by simp [headsS]
  | g :: l, i, f => by
    simp only [List.cons_append, headsS]
    by_cases h : g.name = n
    · simp only [if_pos h]; rw [if_neg (by omega)]
    · simp only [if_neg h]
      rw [headsS_snoc n l (i + 1) f]
      simp only [List.length_cons]
      rw [show i + 1 + l.length = i + (l.length + 1) by omega]
theorem headsS_ge (n : Bytes) (l : List Df) (i : Nat) : headsS n l i = -1 ∨ (i : Int) ≤ headsS n l i := by
  rcases headsS_lt n l i with e | ⟨k, hk, e, _⟩
  · exact .inl e
  · right; rw [e]; omega
theorem headsS_append (n : Bytes) : ∀ (l r : List Df) (i : Nat), headsS n (l ++ r) i = if headsS n l i < 0 then headsS n r (i + l.length) else headsS n l i
  | [], r, i => by simp [headsS]
  | g :: l, r, i => by
    simp only [List.cons_append, headsS]
    by_cases h : g.name = n
    · simp only [if_pos h]; rw [if_neg (by omega)]
    · simp only [if_neg h]
      rw [headsS_append n l r (i + 1)]
      simp only [List.length_cons]
      rw [show i + 1 + l.length = i + (l.length + 1) by omega]
theorem heads_dup {p : List Df} {i : Nat} {f : Df} (h : p[i]? = some f) : headsS f.name p 0 < i ↔ 0 ≤ headsS f.name (p.take i) 0 := by
  have hlt : i < p.length := (List.getElem?_eq_some_iff.1 h).1
  have e := headsS_append f.name (p.take i) (p.drop i) 0
  rw [List.take_append_drop] at e
  rw [e]
  have hd : p.drop i = f :: p.drop (i + 1) := by rw [List.drop_eq_getElem_cons hlt]; rw [(List.getElem?_eq_some_iff.1 h).2]
  have hmin : min i p.length = i := by omega
  by_cases hc : headsS f.name (p.take i) 0 < 0
  · rw [if_pos hc, hd]
    simp only [headsS, if_true, List.length_take, hmin, Nat.zero_add]
    omega
  · rw [if_neg hc]
    rcases headsS_lt f.name (p.take i) 0 with x | ⟨k, hk, x, _⟩
    · omega
    · rw [x]; simp only [List.length_take, hmin] at hk; omega

/-! ### The program's own order of the faults -/
def dupsL (p : List Df) (i : Nat) : List Df → List Flt
  | [] => []
  | f :: l => (if headsS f.name p 0 < i then [(30, f.pos)] else []) ++ dupsL p (i + 1) l
theorem dupsL_snoc (p : List Df) : ∀ (l : List Df) (i : Nat) (f : Df), dupsL p i (l ++ [f]) = dupsL p i l ++ (if headsS f.name p 0 < ((i + l.length : Nat) : Int) then [(30, f.pos)] else [])
  | [], i, f => by simp [dupsL]
  | g :: l, i, f => by
    have h := dupsL_snoc p l (i + 1) f
    simp only [List.cons_append, dupsL, h, List.append_assoc, List.length_cons]
    rw [show i + 1 + l.length = i + (l.length + 1) by omega]
def insF (p : List Df) (f : Df) : List Flt := parF [] f.params ++ usesF p (seenS (pnames f.params) f.body)
def insP (p : List Df) : List Df → List Flt
  | [] => []
  | f :: l => insF p f ++ insP p l
theorem insP_snoc (p : List Df) : ∀ (l : List Df) (f : Df), insP p (l ++ [f]) = insP p l ++ insF p f
  | [], f => by simp [insP]
  | g :: l, f => by simp [insP, insP_snoc p l f]
def scheck (p : List Df) : Flt := least (0, 0) (dupsL p 0 p ++ insP p p)
theorem least_append (f : Flt) (a b : List Flt) : least f (a ++ b) = least (least f a) b := by simp only [least, List.foldl_append]
def tell1 (f x : Flt) : Flt := if f.1 = 0 ∨ x.2 < f.2 then x else f
theorem least_one (f x : Flt) : least f [x] = tell1 f x := rfl
theorem least_nil (f : Flt) : least f [] = f := rfl
end Go.AM

/- AM: types, as the program has them. -/
namespace Go.AM

/-- Is it this array's? -/
def isId (v : AV) (j : Nat) : Prop := ∃ o l, v = .sl j o l
@[simp] theorem isId_nl (j : Nat) : ¬ isId .nl j := by rintro ⟨_, _, h⟩; cases h
theorem isId_sl {i o l j : Nat} : isId (.sl i o l) j ↔ j = i := ⟨fun ⟨_, _, h⟩ => by cases h; rfl, fun h => ⟨o, l, by rw [h]⟩⟩

/-- A list of one's own with room behind it. -/
def EnvAt (e : Nat) (h : Hp) (v : AV) (env : List Pm) : Prop := (v = .nl ∧ env = []) ∨ ∃ id xs, v = .sl id 0 env.length ∧ h id = .arr e 3 (env.map Pm.cells ++ xs)
/-- What stays while a list is another's. -/
def Fr7 (A : List Nat) (h : Hp) (v : AV) (h' : Hp) (v' : AV) : Prop := ∀ j, j ∉ A → ¬ isId v j → h j = .dead ∨ (h' j = h j ∧ ¬ isId v' j)
section
variable {A : List Nat} {e : Nat} {h h1 h2 : Hp} {v v1 v2 : AV} {env : List Pm}
theorem Fr7.refl : Fr7 A h v h v := fun _ _ hj => .inr ⟨rfl, hj⟩
theorem Fr7.trans (a : Fr7 A h v h1 v1) (b : Fr7 A h1 v1 h2 v2) : Fr7 A h v h2 v2 := fun j hj hv => by
  rcases a j hj hv with x | ⟨x, y⟩
  · exact .inl x
  · rcases b j hj y with z | ⟨z, w⟩
    · exact .inl (by rw [← x]; exact z)
    · exact .inr ⟨z.trans x, w⟩
theorem Fr7.mem (a : Fr7 A h v h1 v1) {j : Nat} {o : AObj} (hj : j ∈ A) : Fr7 A h v (hset h1 j o) v1 := fun i hi hv => by
  have ne : ¬ i = j := by rintro rfl; exact hi hj
  simpa [ne] using a i hi hv
theorem Fr7.new (a : Fr7 A h v h1 v1) {j : Nat} {o : AObj} (hj : h1 j = .dead) : Fr7 A h v (hset h1 j o) v1 := fun i hi hv => by
  by_cases ne : i = j
  · subst ne
    rcases a i hi hv with x | ⟨x, _⟩
    · exact .inl x
    · exact .inl (by rw [← x]; exact hj)
  · simpa [ne] using a i hi hv
theorem Fr7.at (a : Fr7 A h v h1 v1) {j : Nat} {o : AObj} (hj : h j = o) (ho : o ≠ .dead) (hA : j ∉ A) (hv : ¬ isId v j) : h1 j = o := by
  rcases a j hA hv with x | ⟨x, _⟩
  · exact absurd (hj.symm.trans x) ho
  · exact x.trans hj
theorem Fr7.weak (a : Fr7 [] h v h1 v1) : Fr7 A h v h1 v1 := fun j _ hv => a j (by simp) hv
theorem Fr7.same (a : Fr7 A h v h1 v1) (hi : ∀ j, isId v2 j ↔ isId v1 j) : Fr7 A h v h1 v2 := fun j hj hv => by
  rcases a j hj hv with x | ⟨x, y⟩
  · exact .inl x
  · exact .inr ⟨x, fun z => y ((hi j).1 z)⟩
theorem EnvAt.len (a : EnvAt e h v env) (hh : Hp) : aLen .sl v hh = some (.int .i64 env.length) := by
  rcases a with ⟨rfl, rfl⟩ | ⟨id, xs, rfl, _⟩ <;> rfl
theorem EnvAt.not (a : EnvAt e h v env) {j : Nat} (hj : ∀ e sz xs, h j ≠ .arr e sz xs) : ¬ isId v j := by
  rintro ⟨o, l, rfl⟩
  rcases a with ⟨x, _⟩ | ⟨id, xs, x, y⟩
  · cases x
  · cases x; exact hj _ _ _ y
theorem EnvAt.notc (a : EnvAt e h v env) {j : Nat} {cs : List AV} (hj : h j = .cells cs) : ¬ isId v j := a.not (by simp [hj])
theorem EnvAt.notm (a : EnvAt e h v env) {j : Nat} {es : List (AV × AV)} (hj : h j = .map es) : ¬ isId v j := a.not (by simp [hj])
theorem EnvAt.notd (a : EnvAt e h v env) {j : Nat} (hj : h j = .dead) : ¬ isId v j := a.not (by simp [hj])
theorem EnvAt.set (a : EnvAt e h v env) {j : Nat} {o : AObj} (hj : ¬ isId v j) : EnvAt e (hset h j o) v env := by
  rcases a with x | ⟨id, xs, rfl, y⟩
  · exact .inl x
  · have : ¬ id = j := by rintro rfl; exact hj ⟨_, _, rfl⟩
    exact .inr ⟨id, xs, rfl, by simp [this, y]⟩
theorem EnvAt.app {b : Nat} {ys : List Pm} {rows : List (List AV)} {K : AV → Hp → Prop} (a : EnvAt e h v env) (hr : rows = ys.map Pm.cells) (hne : ys ≠ []) (hlen : env.length + ys.length ≤ 1000000) (hb : b ≤ 1000000)
    (hk : ∀ v' h', EnvAt e h' v' (env ++ ys) → Fr7 [] h v h' v' → K v' h') {u : Held K} : AApp e 3 b v rows K h u := by
  subst hr
  have h2 : env.length + ys.length ≤ 4611686018427387904 := by omega
  have h3 : (env.length + ys.length) * b ≤ 140737488355328 := by
    have : (env.length + ys.length) * b ≤ 1000000 * 1000000 := Nat.mul_le_mul hlen hb
    omega
  rcases a with ⟨rfl, rfl⟩ | ⟨id, xs, rfl, ha⟩
  · cases ys with
    | nil => exact absurd rfl hne
    | cons y ys =>
      refine ⟨by simpa using h2, by simpa using h3, fun id hid => hk _ _ (.inr ⟨id, [], by simp, by simp⟩) fun j _ _ => ?_⟩
      by_cases e1 : j = id
      · exact .inl (e1 ▸ hid)
      · exact .inr ⟨by simp [e1], fun x => e1 (isId_sl.1 x)⟩
  · refine ⟨rfl, ?_⟩
    rw [ha]
    refine ⟨rfl, rfl, by simp, by simpa using h2, by simpa using h3, fun id' hid' => ?_⟩
    refine hk _ _ (.inr ⟨id', [], by simp, ?_⟩) fun j _ hj => ?_
    · have : (env.map Pm.cells ++ xs).take env.length = env.map Pm.cells := by
        rw [List.take_append_of_le_length (by simp)]; exact List.take_of_length_le (by simp)
      simp [this]
    · by_cases e1 : j = id'
      · exact .inl (e1 ▸ hid')
      · have e2 : ¬ j = id := fun x => hj (isId_sl.2 x)
        exact .inr ⟨by simp [e1, e2], fun x => e1 (isId_sl.1 x)⟩
theorem EnvAt.app0 {b : Nat} {ys : List Pm} {rows : List (List AV)} {K : AV → Hp → Prop} (hr : rows = ys.map Pm.cells) (hlen : ys.length ≤ 1000000) (hb : b ≤ 1000000)
    (hk : ∀ v' h', EnvAt e h' v' ys → Fr7 [] h .nl h' v' → K v' h') {u : Held K} : AApp e 3 b .nl rows K h u := by
  cases ys with
  | nil => subst hr; exact hk .nl h (.inl ⟨rfl, rfl⟩) Fr7.refl
  | cons y ys => exact EnvAt.app (env := []) (.inl ⟨rfl, rfl⟩) hr (by simp) (by simpa using hlen) hb (fun v' h' a b => hk v' h' (by simpa using a) b)
theorem EnvAt.flat (a : EnvAt e h v env) : v.flat = true ∧ v.cells = [v] := by
  rcases a with ⟨rfl, _⟩ | ⟨id, xs, rfl, _⟩ <;> exact ⟨rfl, rfl⟩
theorem EnvAt.cut {ys : List Pm} (a : EnvAt e h v (env ++ ys)) (hne : ys ≠ []) : ∃ v', (∀ hh : Hp, (∀ j o l, v = .sl j o l → hh j = h j) → aCut 3 v (some none) (some (some env.length)) hh = some v') ∧ EnvAt e h v' env ∧ ∀ j, isId v' j ↔ isId v j := by
  rcases a with ⟨_, x⟩ | ⟨id, xs, rfl, ha⟩
  · simp at x; exact absurd x.2 hne
  · refine ⟨.sl id 0 env.length, fun hh hj => ?_, .inr ⟨id, ys.map Pm.cells ++ xs, rfl, by rw [ha]; simp⟩, fun j => by rw [isId_sl, isId_sl]⟩
    have := hj id _ _ rfl
    simp [this, ha]
end

theorem ownW_leaf {p : List Df} {env : List Pm} {e : Ex} {t : Int} (ht : tyOK t) (h : (ownS p env e).2 = true) : ownW p env e t = if (if e.op = 6 then (lastT e.name env).getD 0 else (ownS p env e).1) ≠ t then [e.pos] else [] := by
  simp only [ownW, h, true_and]
  by_cases o6 : e.op = 6
  · have : (ownS p env e).1 = (lastT e.name env).getD (-1) := by simp [ownS, o6]
    rw [this, if_pos o6]
    cases lastT e.name env with
    | some t' => rfl
    | none =>
      simp only [Option.getD_none]
      rw [if_pos, if_pos]
      · rcases ht with h | h | h <;> omega
      · rcases ht with h | h | h <;> omega
  · rw [if_neg o6]
/-! ### The order in which the program tells -/
def ownT (p : List Df) (env : List Pm) (e : Ex) : Int := if e.op = 6 then (lastT e.name env).getD 0 else (ownS p env e).1
/-- Calls of functions that there are, with as many arguments. -/
def callOK (p : List Df) (e : Ex) : Prop := e.op = 7 → ∃ f, headD e.name p = some f ∧ f.params.length = e.args.length
mutual
def callsOK (p : List Df) : Ex → Prop
  | .mk op name tail ty re im args pos => callOK p (.mk op name tail ty re im args pos) ∧ callsL p args
def callsL (p : List Df) : List Ex → Prop
  | [] => True
  | e :: l => callsOK p e ∧ callsL p l
end
theorem callsOK_eq {p : List Df} {e : Ex} : callsOK p e ↔ callOK p e ∧ callsL p e.args := by cases e; exact Iff.rfl
theorem callsL_mem {p : List Df} : ∀ {l : List Ex} {e : Ex}, callsL p l → e ∈ l → callsOK p e
  | [], _, _, he => by cases he
  | a :: l, e, h, he => by
    rcases List.mem_cons.1 he with rfl | he
    · exact h.1
    · exact callsL_mem h.2 he
section
variable (p : List Df)
mutual
def progS (env : List Pm) (t : Int) : Ex → List Int
  | .mk op name tail ty re im args pos => progL env (.mk op name tail ty re im args pos) t 0 args ++ ownW p env (.mk op name tail ty re im args pos) t
def progL (env : List Pm) (e : Ex) (t : Int) (i : Nat) : List Ex → List Int
  | [] => []
  | a :: l => progS (withinS env e i) (wantedS p e i t) a ++ progL env e t (i + 1) l
end
theorem progS_eq (env : List Pm) (t : Int) (e : Ex) : progS p env t e = progL p env e t 0 e.args ++ ownW p env e t := by cases e; simp only [progS]; rfl
theorem progL_snoc (env : List Pm) (e : Ex) (t : Int) : ∀ (l : List Ex) (i : Nat) (a : Ex), progL p env e t i (l ++ [a]) = progL p env e t i l ++ progS p (withinS env e (i + l.length)) (wantedS p e (i + l.length) t) a
  | [], i, a => by simp [progL]
  | b :: l, i, a => by
    have h := progL_snoc env e t l (i + 1) a
    simp only [List.cons_append, progL, h, List.append_assoc, List.length_cons]
    rw [show i + 1 + l.length = i + (l.length + 1) by omega]
def progP : List Df → List Int
  | [] => []
  | f :: l => progS p f.params f.ty f.body ++ progP l
theorem progP_snoc : ∀ (l : List Df) (f : Df), progP p (l ++ [f]) = progP p l ++ progS p f.params f.ty f.body
  | [], f => by simp [progP]
  | g :: l, f => by simp [progP, progP_snoc l f]
/-- One type, wanted of several within the same names. -/
def allL (env : List Pm) (t : Int) : List Ex → List Int
  | [] => []
  | a :: l => progS p env t a ++ allL env t l
theorem allL_snoc (env : List Pm) (t : Int) : ∀ (l : List Ex) (a : Ex), allL p env t (l ++ [a]) = allL p env t l ++ progS p env t a
  | [], a => by simp [allL]
  | b :: l, a => by simp [allL, allL_snoc env t l a]
theorem progL_all (env : List Pm) (e : Ex) (t t' : Int) : ∀ (l : List Ex) (i : Nat), (∀ k, i ≤ k → k < i + l.length → withinS env e k = env ∧ wantedS p e k t = t') → progL p env e t i l = allL p env t' l
  | [], _, _ => rfl
  | a :: l, i, h => by
    have h0 := h i (Nat.le_refl _) (by simp)
    simp only [progL, allL, h0.1, h0.2]
    rw [progL_all env e t t' l (i + 1) fun k h1 h2 => h k (by omega) (by simp; omega)]
end
end Go.AM

/- AM: the plain laws of names and types: the program's order of faults and the document's tell the same. -/
namespace Go.AM

theorem tell1_yes {f x : Flt} (h : f.1 = 0 ∨ x.2 < f.2) : tell1 f x = x := if_pos h
theorem tell1_no {f x : Flt} (h : ¬ (f.1 = 0 ∨ x.2 < f.2)) : tell1 f x = f := if_neg h
theorem tell1_comm {f x y : Flt} (hx : x.1 ≠ 0) (hy : y.1 ≠ 0) (hne : x.2 ≠ y.2) : tell1 (tell1 f x) y = tell1 (tell1 f y) x := by
  by_cases c1 : f.1 = 0 ∨ x.2 < f.2 <;> by_cases c2 : f.1 = 0 ∨ y.2 < f.2
  · rw [tell1_yes c1, tell1_yes c2]
    by_cases h3 : y.2 < x.2
    · rw [tell1_yes (.inr h3), tell1_no (by omega)]
    · rw [tell1_no (by omega), tell1_yes (.inr (by omega))]
  · rw [tell1_yes c1, tell1_no c2, tell1_yes c1, tell1_no (by omega)]
  · rw [tell1_no c1, tell1_yes c2, tell1_no (by omega)]
  · rw [tell1_no c1, tell1_no c2, tell1_no c1]
theorem least_cons (f x : Flt) (l : List Flt) : least f (x :: l) = least (tell1 f x) l := rfl
theorem least_swap1 {x : Flt} (hx : x.1 ≠ 0) : ∀ (L : List Flt) (f : Flt), (∀ y ∈ L, y.1 ≠ 0 ∧ x.2 ≠ y.2) → least f (L ++ [x]) = least f (x :: L)
  | [], f, _ => rfl
  | y :: L, f, h => by
    have hy := h y (by simp)
    rw [List.cons_append, least_cons, least_swap1 hx L _ (fun z hz => h z (by simp [hz])), least_cons, least_cons, least_cons, tell1_comm hy.1 hx (fun e => hy.2 e.symm)]
theorem least_swap : ∀ (D L : List Flt) (f : Flt), (∀ x ∈ D, x.1 ≠ 0) → (∀ x ∈ D, ∀ y ∈ L, y.1 ≠ 0 ∧ x.2 ≠ y.2) → least f (L ++ D) = least f (D ++ L)
  | [], L, f, _, _ => by simp
  | x :: D, L, f, h1, h2 => by
    have e1 : L ++ x :: D = (L ++ [x]) ++ D := by simp
    rw [e1, least_append, least_swap1 (h1 x (by simp)) L f (h2 x (by simp)), least_cons, ← least_append, least_swap D L _ (fun z hz => h1 z (by simp [hz])) (fun z hz => h2 z (by simp [hz]))]
    rfl

mutual
theorem seenS_fine {hi : Int} : ∀ (e : Ex) (names : List Bytes), e.fine hi → ∀ x ∈ seenS names e, x.1.fine hi
  | .mk op name tail ty re im args pos, names, hf, x, hx => by
    simp only [seenS, List.mem_append] at hx
    rcases hx with hx | hx
    · simp only [Ex.use] at hx
      split at hx
      · rw [List.mem_singleton] at hx; subst hx; exact hf
      · cases hx
    · exact seenL_fine args names _ 0 hf.2.2.2.2 x hx
theorem seenL_fine {hi : Int} : ∀ (l : List Ex) (names : List Bytes) (p : Ex) (i : Nat), Ex.fineL hi l → ∀ x ∈ seenL names p i l, x.1.fine hi
  | [], _, _, _, _, x, hx => by simp [seenL] at hx
  | a :: l, names, p, i, hf, x, hx => by
    simp only [seenL, List.mem_append] at hx
    rcases hx with hx | hx
    · exact seenS_fine a _ hf.1 x hx
    · exact seenL_fine l names p (i + 1) hf.2 x hx
end
theorem Ex.fine_pos {hi : Int} {e : Ex} (h : e.fine hi) : 0 ≤ e.pos ∧ e.pos < hi := by cases e; exact h.2.2.2.1
theorem useF_pos {p : List Df} {x : Ex × Bool} {y : Flt} (h : y ∈ useF p x) : y.1 ≠ 0 ∧ y.2 = x.1.pos := by
  simp only [useF, List.mem_append] at h
  rcases h with h | h
  · split at h
    · rw [List.mem_singleton] at h; subst h; exact ⟨by simp, rfl⟩
    · cases h
  · split at h
    · cases h
    · split at h
      · rw [List.mem_singleton] at h; subst h; exact ⟨by simp, rfl⟩
      · split at h
        · rw [List.mem_singleton] at h; subst h; exact ⟨by simp, rfl⟩
        · cases h
theorem parF_pos : ∀ (l : List Pm) (acc : List Bytes) {y : Flt}, y ∈ parF acc l → y.1 ≠ 0 ∧ ∃ x ∈ l, y.2 = x.pos
  | [], _, _, h => by cases h
  | x :: l, acc, y, h => by
    simp only [parF, List.mem_append] at h
    rcases h with h | h
    · split at h
      · rw [List.mem_singleton] at h; subst h; exact ⟨by simp, x, by simp, rfl⟩
      · cases h
    · obtain ⟨h1, z, hz, h2⟩ := parF_pos l _ h
      exact ⟨h1, z, by simp [hz], h2⟩
theorem insF_pos {p : List Df} {f : Df} {hi : Int} (hf : f.fine hi) {y : Flt} (h : y ∈ insF p f) : y.1 ≠ 0 ∧ y.2 < hi := by
  simp only [insF, List.mem_append] at h
  rcases h with h | h
  · obtain ⟨h1, x, hx, h2⟩ := parF_pos _ _ h
    exact ⟨h1, by rw [h2]; exact (hf.params x hx).pos.2⟩
  · simp only [usesF, List.mem_flatMap] at h
    obtain ⟨x, hx, hy⟩ := h
    have := useF_pos hy
    exact ⟨this.1, by rw [this.2]; exact (Ex.fine_pos (seenS_fine _ _ hf.body x hx)).2⟩
theorem fineP_ge : ∀ {lo : Int} {l : List Df}, fineP lo l → ∀ f ∈ l, lo ≤ f.pos
  | _, [], _, f, h => by cases h
  | lo, g :: l, ⟨h1, hi, h2, h3⟩, f, h => by
    rcases List.mem_cons.1 h with rfl | h
    · exact h1
    · have := fineP_ge h3 f h
      have := h2.pos.2
      omega
theorem dupsL_pos (p : List Df) : ∀ (l : List Df) (i : Nat) {y : Flt}, y ∈ dupsL p i l → y.1 ≠ 0 ∧ ∃ f ∈ l, y.2 = f.pos
  | [], _, _, h => by cases h
  | g :: l, i, y, h => by
    simp only [dupsL, List.mem_append] at h
    rcases h with h | h
    · split at h
      · rw [List.mem_singleton] at h; subst h; exact ⟨by simp, g, by simp, rfl⟩
      · cases h
    · obtain ⟨h1, z, hz, h2⟩ := dupsL_pos p l (i + 1) h
      exact ⟨h1, z, by simp [hz], h2⟩
theorem order (p : List Df) : ∀ (l : List Df) (i : Nat) (lo : Int) (f : Flt), fineP lo l → least f (dupsL p i l ++ insP p l) = least f (faultsL p i l)
  | [], _, _, _, _ => rfl
  | g :: l, i, lo, f, ⟨h1, hi, h2, h3⟩ => by
    have ih := fun f => order p l (i + 1) hi f h3
    have hsw : ∀ f, least f (insF p g ++ dupsL p (i + 1) l) = least f (dupsL p (i + 1) l ++ insF p g) := fun f => least_swap _ _ f (fun x hx => (dupsL_pos p l (i + 1) hx).1) (fun x hx y hy => by
      obtain ⟨_, z, hz, e⟩ := dupsL_pos p l (i + 1) hx
      have q1 := insF_pos h2 hy
      have q2 := fineP_ge h3 z hz
      exact ⟨q1.1, by omega⟩)
    have hF : faultF p i g = (if headsS g.name p 0 < i then [(30, g.pos)] else []) ++ insF p g := by simp [faultF, insF]
    simp only [dupsL, insP, faultsL, hF]
    generalize (if headsS g.name p 0 < (i : Int) then [((30 : Int), g.pos)] else []) = d
    rw [show d ++ dupsL p (i + 1) l ++ (insF p g ++ insP p l) = d ++ ((dupsL p (i + 1) l ++ insF p g) ++ insP p l) by simp, least_append, least_append, ← hsw, ← least_append, List.append_assoc, least_append, ih]
    simp only [least_append]
theorem scheck_eq {p : List Df} (h : FineP p) : scheck p = check06 p := order p p 0 0 (0, 0) h.fine

/-! ### No fault: all calls are right -/
theorem tell1_nz {f x : Flt} (hx : x.1 ≠ 0) : (tell1 f x).1 ≠ 0 := by
  simp only [tell1]; split
  · exact hx
  · rename_i h; simp only [not_or] at h; exact h.1
theorem least_nz : ∀ (l : List Flt) (f : Flt), (∀ x ∈ l, x.1 ≠ 0) → (f.1 ≠ 0 ∨ l ≠ []) → (least f l).1 ≠ 0
  | [], f, _, h => by rcases h with h | h; · exact h
                      · exact absurd rfl h
  | x :: l, f, hl, _ => by rw [least_cons]; exact least_nz l _ (fun y hy => hl y (by simp [hy])) (.inl (tell1_nz (hl x (by simp))))
theorem faultsL_mem {p : List Df} : ∀ {l : List Df} {i : Nat} {f : Df}, f ∈ l → faultsL p i l = [] → insF p f = []
  | [], _, _, h, _ => by cases h
  | g :: l, i, f, h, he => by
    simp only [faultsL, List.append_eq_nil_iff] at he
    rcases List.mem_cons.1 h with rfl | h
    · have := he.1
      simp only [faultF, List.append_eq_nil_iff] at this
      simp only [insF, List.append_eq_nil_iff]
      exact ⟨this.1.2, this.2⟩
    · exact faultsL_mem h he.2
theorem faultsL_nz {p : List Df} : ∀ {l : List Df} {i : Nat}, ∀ x ∈ faultsL p i l, x.1 ≠ 0
  | [], _, x, h => by cases h
  | g :: l, i, x, h => by
    simp only [faultsL, List.mem_append] at h
    rcases h with h | h
    · simp only [faultF, List.mem_append] at h
      rcases h with (h | h) | h
      · split at h
        · rw [List.mem_singleton] at h; subst h; simp
        · cases h
      · exact (parF_pos _ _ h).1
      · simp only [usesF, List.mem_flatMap] at h
        obtain ⟨y, _, hy⟩ := h
        exact (useF_pos hy).1
    · exact faultsL_nz x h
theorem headsD (n : Bytes) : ∀ (l : List Df) (i : Nat), (headsS n l i = -1 ∧ headD n l = none) ∨ ∃ k, ∃ hk : k < l.length, headsS n l i = ((i + k : Nat) : Int) ∧ headD n l = some l[k]
  | [], i => .inl ⟨rfl, rfl⟩
  | g :: l, i => by
    simp only [headsS, headD]
    by_cases h : g.name = n
    · rw [if_pos h, if_pos h]; exact .inr ⟨0, by simp, by simp, by simp⟩
    · rw [if_neg h, if_neg h]
      rcases headsD n l (i + 1) with ⟨h1, h2⟩ | ⟨k, hk, h1, h2⟩
      · exact .inl ⟨h1, h2⟩
      · exact .inr ⟨k + 1, by simpa using hk, by rw [h1]; congr 1; omega, by rw [h2]; simp⟩
theorem use_ok {p : List Df} {names : List Bytes} {e : Ex} (h : usesF p (Ex.use names e) = []) : callOK p e := by
  intro o7
  simp [Ex.use, o7, usesF, useF] at h
  rcases headsD e.name p 0 with ⟨h1, h2⟩ | ⟨k, hk, h1, h2⟩
  · rw [h1] at h; simp at h
  · have h3 : headsS e.name p 0 = (k : Int) := by simpa using h1
    have h4 : ¬ (k : Int) < 0 := by omega
    rw [h3] at h
    have h5 := h
    simp only [h4, if_false, Int.toNat_natCast, List.getElem?_eq_getElem hk, Option.getD_some] at h5
    refine ⟨p[k], h2, ?_⟩
    by_cases hl : p[k].params.length = e.args.length
    · exact hl
    · simp [hl] at h5
mutual
theorem uses_calls {p : List Df} : ∀ (e : Ex) (names : List Bytes), usesF p (seenS names e) = [] → callsOK p e
  | .mk op name tail ty re im args pos, names, h => by
    simp only [seenS, usesF, List.flatMap_append, List.append_eq_nil_iff] at h
    exact ⟨use_ok h.1, uses_callsL args names _ 0 h.2⟩
theorem uses_callsL {p : List Df} : ∀ (l : List Ex) (names : List Bytes) (e : Ex) (i : Nat), usesF p (seenL names e i l) = [] → callsL p l
  | [], _, _, _, _ => trivial
  | a :: l, names, e, i, h => by
    simp only [seenL, usesF, List.flatMap_append, List.append_eq_nil_iff] at h
    exact ⟨uses_calls a _ h.1, uses_callsL l names e (i + 1) h.2⟩
end
theorem check06_calls {p : List Df} (h : (check06 p).1 = 0) : ∀ f ∈ p, callsOK p f.body := by
  intro f hf
  have h1 : faultsS p = [] := Decidable.byContradiction fun hn => least_nz (faultsS p) (0, 0) (faultsL_nz) (.inr hn) h
  have h2 := faultsL_mem hf h1
  simp only [insF, List.append_eq_nil_iff] at h2
  exact uses_calls _ _ h2.2

/-! ### The order of wrong types -/
theorem tell7_yes {f : Flt} {x : Int} (h : f.1 = 0 ∨ x < f.2) : tell7 f x = (34, x) := if_pos h
theorem tell7_no {f : Flt} {x : Int} (h : ¬ (f.1 = 0 ∨ x < f.2)) : tell7 f x = f := if_neg h
theorem tell7_comm (f : Flt) (x y : Int) : tell7 (tell7 f x) y = tell7 (tell7 f y) x := by
  by_cases c1 : f.1 = 0 ∨ x < f.2 <;> by_cases c2 : f.1 = 0 ∨ y < f.2
  · rw [tell7_yes c1, tell7_yes c2]
    rcases Int.lt_trichotomy x y with h | h | h
    · rw [tell7_no (by simp; omega), tell7_yes (by simp; omega)]
    · subst h; rfl
    · rw [tell7_yes (by simp; omega), tell7_no (by simp; omega)]
  · rw [tell7_yes c1, tell7_no c2, tell7_yes c1, tell7_no (by simp; omega)]
  · rw [tell7_no c1, tell7_yes c2, tell7_no (by simp; omega)]
  · rw [tell7_no c1, tell7_no c2, tell7_no c1]
theorem tell7_perm {a b : List Int} (h : a.Perm b) : ∀ f, a.foldl tell7 f = b.foldl tell7 f := by
  induction h with
  | nil => intro f; rfl
  | cons x _ ih => intro f; exact ih _
  | swap x y l => intro f; simp only [List.foldl_cons]; rw [tell7_comm]
  | trans _ _ ih1 ih2 => intro f; rw [ih1, ih2]
mutual
theorem prog_perm (p : List Df) : ∀ (e : Ex) (env : List Pm) (t : Int), (progS p env t e).Perm (wrongS p env t e)
  | .mk op name tail ty re im args pos, env, t => by
    simp only [progS, wrongS]
    exact List.perm_append_comm.trans ((prog_permL p args env _ t 0).append_left _)
theorem prog_permL (p : List Df) : ∀ (l : List Ex) (env : List Pm) (e : Ex) (t : Int) (i : Nat), (progL p env e t i l).Perm (wrongL p env e t i l)
  | [], _, _, _, _ => .nil
  | a :: l, env, e, t, i => by
    simp only [progL, wrongL]
    exact (prog_perm p a _ _).append (prog_permL p l env e t (i + 1))
end
theorem progP_perm (p : List Df) : ∀ (l : List Df), (progP p l).Perm (wrongP p l)
  | [] => .nil
  | f :: l => by simp only [progP, wrongP]; exact (prog_perm p _ _ _).append (progP_perm p l)
end Go.AM
