/- The document's flattening: Flatten. -/
import Derived.Test.YtcpkdbofohkipaaGreatK31
import Derived.Test.YtcpkdbofohkipaaGreatK11
import Derived.Test.YtcpkdbofohkipaaGreatK30
import Derived.Test.YtcpkdbofohkipaaGreatK12
set_option linter.unusedVariables false
set_option linter.unusedSimpArgs false
namespace Go.Proofs.YtcpkdbofohkipaaGreat
open Go.AM

end Go.Proofs.YtcpkdbofohkipaaGreat

/- The document's likeness of values, codes and cores: of what is the same. -/
namespace Go.Proofs.YtcpkdbofohkipaaGreat
open Go.AM
section
variable {h : Hp} {K : AV → Hp → Prop}

end
end Go.Proofs.YtcpkdbofohkipaaGreat

/- The document's likeness of codes and cores: of what is the same. -/
namespace Go.Proofs.YtcpkdbofohkipaaGreat
open Go.AM

structure Sup.fine (s : Sup) : Prop where
  code : s.code.fine
  len : s.params.length ≤ 1000000
@[simp] theorem Sup.q0 {s : Sup} : s.cells[0]? = some (.str s.name) := rfl
@[simp] theorem Sup.q1 {s : Sup} : s.cells[1]? = some (rowsAV (intRows s.params)) := rfl
@[simp] theorem Sup.q2 {s : Sup} : s.cells[2]? = some (.int .i64 s.ty) := rfl
@[simp] theorem Sup.q3 {s : Sup} : s.cells[3]? = some (.int .i64 s.slots) := rfl
@[simp] theorem Sup.code11 (s : Sup) : (s.cells.drop 4).take 11 = s.code.cells := by
  show s.code.cells.take 11 = _
  simp
@[simp] theorem Sup.take15 (s : Sup) : s.cells.take 15 = s.cells := List.take_of_length_le (by simp)
@[simp] theorem Sup.drop15 (s : Sup) : s.cells.drop 15 = [] := List.drop_eq_nil_of_le (by simp)
@[simp] theorem Sup.c0 {s : Sup} {h : 0 < s.cells.length} : s.cells[0] = .str s.name := rfl
@[simp] theorem Sup.c1 {s : Sup} {h : 1 < s.cells.length} : s.cells[1] = rowsAV (intRows s.params) := rfl
@[simp] theorem Sup.c2 {s : Sup} {h : 2 < s.cells.length} : s.cells[2] = .int .i64 s.ty := rfl
@[simp] theorem Sup.c3 {s : Sup} {h : 3 < s.cells.length} : s.cells[3] = .int .i64 s.slots := rfl
end Go.Proofs.YtcpkdbofohkipaaGreat

/- The statements' calls whose answers the document fixes; CoreFlattens' own function. -/
namespace Go.Proofs.YtcpkdbofohkipaaGreat
open Go.AM

@[simp ↓] theorem AStep_bfz {P : Program} {K : AV → Hp → Prop} {tm : Tm} {h : Hp} (x : AX) : AStep P (.bfz x) K tm h = ThenV (x.ev tm) (fun v => match v with | .sl id off len => off = 0 ∧ ThenA (h id) (fun _ _ xs => off + len ≤ xs.length ∧ K (.fz ((xs.drop off).take len)) (hset h id .dead)) | _ => False) := by
  simp only [AStep, ThenV, ThenA]
  cases x.ev tm <;> first | rfl | (rename_i id _ _; simp only; cases h id <;> rfl)
def b12 : Bytes := [103, 40, 120, 32, 78, 44, 121, 32, 76, 41, 58, 78, 61, 120, 59, 102, 40, 120, 32, 78, 41, 58, 78, 61, 103, 40, 120, 42, 50, 44, 49, 58, 110, 105, 108, 41, 59]
def p12 : List Df := (readS b12).1
theorem ok12 : (readS b12).2 = true := by kernel_rfl
theorem fine12 : FineP p12 := readS_fine ok12
theorem chk12 : (check07 p12).1 = 0 := by kernel_rfl
theorem core12 : coreC (flatS p12) = 0 := by kernel_rfl
theorem len12 : (flatS p12).length = 2 := by kernel_rfl
def s12 : Sup := (flatS p12).getD 1 ⟨[], [], 0, 0, .mk 0 0 0 0 0 vl0 [] []⟩
def cd00 : Cd := .mk 0 0 0 0 0 vl0 [] []
def s11 : Sup := (flatS p12).getD 0 ⟨[], [], 0, 0, cd00⟩
def x12 : Cd := s12.code
def w12 : Cd := x12.args.getD 0 cd00
def y12 : Cd := x12.args.getD 1 cd00
def w13 : Cd := y12.args.getD 0 cd00
def y13 : Cd := y12.args.getD 1 cd00
theorem flat12 : flatS p12 = [s11, s12] := by kernel_rfl
theorem xargs12 : x12.args = [w12, y12] := by kernel_rfl
theorem xop12 : x12.op = 8 := by kernel_rfl
theorem xslot12 : x12.slot = 1 := by kernel_rfl
theorem yslot12 : y12.slot = 2 := by kernel_rfl
theorem yargs12 : y12.args = [w13, y13] := by kernel_rfl
theorem yop13 : y13.op = 3 := by kernel_rfl
theorem slots12 : s12.slots = 3 := by kernel_rfl

/-- What is made of programs is right enough to be checked. -/
theorem flatS_fine {p : List Df} (hf : FineP p) : ∀ s ∈ flatS p, Sup.fine s := by
  intro s hs
  simp only [flatS, List.mem_map] at hs
  obtain ⟨f, hm, rfl⟩ := hs
  obtain ⟨hi, hfi⟩ := fineP_mem hf.fine hm
  have h1 := sizeP_mem hm
  have h2 := hf.size
  have h3 : f.size = 1 + f.params.length + f.body.size := rfl
  exact ⟨codeS_fine p f.body _ _ hi hfi.body (by omega), by show (f.params.map Pm.ty).length ≤ _; simp; omega⟩
theorem DenP.frozen {h : Hp} {l : List Sup} : DenP h l (rowsAV (l.map Sup.cells)) (l.map Sup.cells) := by
  refine ⟨.inl rfl, by simp, fun i s row h1 h2 => ?_⟩
  simp [h1] at h2
  subst h2
  exact ⟨rowsAV (intRows s.params), s.code.cells, rfl, .inl rfl, DenC.frozen s.code⟩
theorem sup12 : ∀ s ∈ flatS p12, SupOK s := by
  have hb : (flatS p12).all (fun s => decide (bindsC s.code ≤ 1000000 ∧ s.params.length ≤ 900000 ∧ s.slots ≤ 9223372036854775807)) = true := by kernel_rfl
  intro s hs
  have h1 := of_decide_eq_true (List.all_eq_true.1 hb s hs)
  exact ⟨Cd.fine_nums _ (flatS_fine fine12 s hs).code, h1.1, h1.2.1, h1.2.2⟩
set_option maxRecDepth 20000 in
theorem cawake_ok {h : Hp} {K : AV → Hp → Prop} (hK : K (.bool true) h) : ACalls Tryz.prog 8 [] h K := by
  refine calls_of mixed Tryz.func8 comp8 (Nat.le_of_ble_eq_true rfl) ?_
  simp -dsimp [c8]
  intro i7 d7
  simp -dsimp [hset_self d7]
  refine read_ok (b := b12) (.inl rfl) ?_
  rw [ok12]
  have hp1 : (readS b12).1 = p12 := rfl
  rw [hp1]
  simp -dsimp
  intro i1 d1
  simp -dsimp
  refine flatten_ok fine12 ?_
  have hfa : flatAV p12 = .tup [.agg [rowsAV [s11.cells, s12.cells]], .int .i64 0] := by
    simp only [flatAV, chk12, if_true, flat12, List.map_cons, List.map_nil]
  rw [hfa]
  simp -dsimp
  intro i3 d3
  have ks : ∀ o, Keeps h (hset (hset h i1 (.cells [rowsAV (p12.map Df.cells)])) i3 o) := fun o => ((Keeps.refl h).new d1).new d3
  simp -dsimp [rowsAV_cons, slots12]
  have hchk := fun (H : Hp) (K' : AV → Hp → Prop) (hK' : K' (.int .i64 0) H) => check_ok (l := flatS p12) (vs := rowsAV ((flatS p12).map Sup.cells)) (rows := (flatS p12).map Sup.cells) (h := H) (K := K') (by rw [len12]; decide) DenP.frozen sup12 (by rw [core12]; exact hK')
  simp only [flat12, List.map_cons, List.map_nil, rowsAV_cons] at hchk
  have hnil := fun (H : Hp) (K' : AV → Hp → Prop) (hK' : K' (.int .i64 3) H) => check_ok (l := []) (vs := .nl) (rows := []) (h := H) (K := K') (by decide) (DenP.frozen (l := [])) (fun s hs => by cases hs) hK'
  refine hchk _ _ ?_
  have hcode : (s12.cells.drop 4).take 11 = x12.cells := Sup.code11 s12
  have xa : x12.args.map Cd.cells = [w12.cells, y12.cells] := by rw [xargs12]; rfl
  have ya : y12.args.map Cd.cells = [w13.cells, y13.cells] := by rw [yargs12]; rfl
  simp -dsimp [rowsAV_cons, hcode]
  intro i5 d5
  simp -dsimp [xop12, xslot12, xa, ya, rowsAV_cons, yslot12, yop13]
  refine hnil _ _ ?_
  simp -dsimp
  exact Gives.sub ((ks _).new d5).sub hK
end Go.Proofs.YtcpkdbofohkipaaGreat

/- CoreRight: numbers brought into a range; flat programs of one's own with a function turned. -/
namespace Go.Proofs.YtcpkdbofohkipaaGreat
open Go.AM

def intoS (n w : Int) : Int := (n.tmod w + w).tmod w
theorem intoS_range {n w : Int} (h : 0 < w) : 0 ≤ intoS n w ∧ intoS n w < w := by
  have h1 := Int.lt_tmod_of_pos n h
  exact ⟨Int.tmod_nonneg _ (by omega), Int.tmod_lt_of_pos _ h⟩
theorem into_ok {n w : Int} {h : Hp} {K : AV → Hp → Prop} (h0 : 0 < w) (h1 : w ≤ 1000000) (hK : K (.int .i64 (intoS n w)) h) : ACalls Tryz.prog 17 [.int .i64 n, .int .i64 w] h K := by
  have a1 := Int.lt_tmod_of_pos n h0
  have a2 := Int.tmod_lt_of_pos n h0
  have hne : ¬ w = 0 := by omega
  have hw : IntKind.i64.wrap (n.tmod w + w) = n.tmod w + w := by rw [wrap_i64] <;> omega
  refine calls_of mixed Tryz.func17 comp17 (Nat.le_of_ble_eq_true rfl) ?_
  simp -dsimp [c17, binI, hne, hw]
  exact Gives.same hK

/-- Another array than the functions' own. -/
def KpS (h h1 : Hp) : Prop := ∀ id e sz xs, e ≠ 63 → h id = .arr e sz xs → h1 id = .arr e sz xs
theorem DenS.keepS {h h1 : Hp} {s : Sup} {row : List AV} (d : DenS h s row) (hk : KpS h h1) : DenS h1 s row := by
  obtain ⟨pv, cs, hrow, hpv, hdc⟩ := d
  refine ⟨pv, cs, hrow, hpv.keep fun id sz xs hh => hk id _ sz xs (by decide) hh, hdc.keep fun id e sz xs he hh => hk id e sz xs ?_ hh⟩
  rcases he with rfl | rfl <;> decide
theorem KpS.refl (h : Hp) : KpS h h := fun _ _ _ _ _ hh => hh
theorem KpS.setS {h h1 : Hp} (k : KpS h h1) {id sz : Nat} {xs : List (List AV)} {o : AObj} (hid : h1 id = .arr 63 sz xs) : KpS h (hset h1 id o) := fun j e sz' ys he hh => by
  have h2 := k j e sz' ys he hh
  have : ¬ j = id := by rintro rfl; rw [hid] at h2; cases h2; exact he rfl
  simp [this, h2]
theorem KpS.setc {h h1 : Hp} (k : KpS h h1) {id : Nat} {cs : List AV} {o : AObj} (hid : h1 id = .cells cs) : KpS h (hset h1 id o) := fun j e sz' ys he hh => by
  have h2 := k j e sz' ys he hh
  have : ¬ j = id := by rintro rfl; rw [hid] at h2; cases h2
  simp [this, h2]
theorem KpS.new {h h1 : Hp} (k : KpS h h1) {id : Nat} {o : AObj} (hid : h1 id = .dead) : KpS h (hset h1 id o) := fun j e sz' ys he hh => by
  have h2 := k j e sz' ys he hh
  have : ¬ j = id := by rintro rfl; rw [hid] at h2; cases h2
  simp [this, h2]
theorem KpS.setd {h h1 : Hp} (k : KpS h h1) {id : Nat} {o : AObj} (hid : h id = .dead) : KpS h (hset h1 id o) := fun j e sz' ys he hh => by
  have h2 := k j e sz' ys he hh
  have : ¬ j = id := by rintro rfl; rw [hid] at hh; cases hh
  simp [this, h2]
/-- A flat program of one's own, some rows behind it. -/
structure CrAt (h : Hp) (id : Nat) (l : List Sup) (rows ex : List (List AV)) : Prop where
  arr : h id = .arr 63 15 (rows ++ ex)
  len : rows.length = l.length
  at_ : ∀ (i : Nat) (s : Sup) (row : List AV), l[i]? = some s → rows[i]? = some row → DenS h s row
theorem CrAt.den {h : Hp} {id : Nat} {l : List Sup} {rows ex : List (List AV)} (c : CrAt h id l rows ex) : DenP h l (.sl id 0 l.length) rows :=
  ⟨.inr (.inr ⟨id, ex, by rw [c.len], c.arr⟩), c.len, c.at_⟩
theorem CrAt.keep {h h1 : Hp} {id : Nat} {l : List Sup} {rows ex : List (List AV)} (c : CrAt h id l rows ex) (k : KpS h h1) (hid : h1 id = h id) : CrAt h1 id l rows ex :=
  ⟨hid.trans c.arr, c.len, fun i s row h1 h2 => (c.at_ i s row h1 h2).keepS k⟩
theorem CrAt.set {h h1 : Hp} {id i : Nat} {l : List Sup} {rows ex : List (List AV)} {s' : Sup} {row' : List AV} (c : CrAt h id l rows ex) (k : KpS h h1) (hid : h1 id = .arr 63 15 (rows.set i row' ++ ex)) (hd : DenS h1 s' row') : CrAt h1 id (l.set i s') (rows.set i row') ex := by
  refine ⟨hid, by simp [c.len], fun j s row e1 e2 => ?_⟩
  rw [List.getElem?_set] at e1 e2
  by_cases hj : i = j
  · rw [if_pos hj] at e1 e2
    split at e1
    · split at e2
      · cases e1; cases e2; exact hd
      · cases e2
    · cases e1
  · rw [if_neg hj] at e1 e2
    exact (c.at_ j s row e1 e2).keepS k
theorem CrAt.of {h h' : Hp} {r : AV} {rows : List (List AV)} {l : List Sup} (hne : l ≠ []) (o : OwnF h .nl h' 63 15 r rows) (sa : SupsAt 51 h h' .nl rows l) : ∃ id, h id = .dead ∧ r = .sl id 0 l.length ∧ CrAt h' id l rows [] := by
  have hlen := sa.length
  rcases o with ⟨rfl, _⟩ | ⟨id, hn, hd, rfl, ha⟩
  · simp at hlen; exact absurd (List.length_eq_zero_iff.1 hlen.symm) hne
  · refine ⟨id, ?_, by rw [hlen], by simpa using ha, hlen, ?_⟩
    · rcases hd with x | x
      · exact x
      · exact absurd x not_nl
    · have gen : ∀ (rows : List (List AV)) (l : List Sup), SupsAt 51 h h' .nl rows l → ∀ (i : Nat) (s : Sup) (row : List AV), l[i]? = some s → rows[i]? = some row → DenS h' s row := by
        intro rows
        induction rows with
        | nil => intro l _ i s row _ h2; simp at h2
        | cons r rs ih =>
          intro l hs i s row h1 h2
          cases l with
          | nil => exact hs.elim
          | cons x l =>
            cases i with
            | zero =>
              simp at h1 h2
              subst h1; subst h2
              obtain ⟨pr, hr, o, _⟩ := hs.1
              refine ⟨pr, x.code.cells, hr, ?_, DenC.frozen x.code⟩
              rcases o with ⟨e, rfl⟩ | ⟨id', _, _, rfl, ha'⟩
              · rw [e]; exact .inl rfl
              · exact .inr (.inr ⟨id', [], rfl, by simpa using ha'⟩)
            | succ i => exact ih l hs.2 i s row (by simpa using h1) (by simpa using h2)
      exact gen rows l sa
theorem flat_sup {p : List Df} (hf : FineP p) : ∀ s ∈ flatS p, SupOK s ∧ 0 ≤ s.slots ∧ s.slots ≤ 500000 ∧ bindsC s.code ≤ 500000 := by
  intro s hs
  have hfine := flatS_fine hf s hs
  obtain ⟨f, hm, rfl⟩ := List.mem_map.1 hs
  have h1 := sizeP_mem hm
  have h2 := hf.size
  have h3 : f.size = 1 + f.params.length + f.body.size := rfl
  have h4 := supS_slots hf hm
  have h5 := codeS_next p f.body (paramN f.params 0) f.params.length
  have h6 : (supS p f).slots = (codeS p (paramN f.params 0) f.body f.params.length).2 := rfl
  have h7 : (supS p f).params.length = f.params.length := by simp [supS]
  exact ⟨⟨Cd.fine_nums _ hfine.code, by omega, by omega, by omega⟩, by omega, by omega, by omega⟩
end Go.Proofs.YtcpkdbofohkipaaGreat
