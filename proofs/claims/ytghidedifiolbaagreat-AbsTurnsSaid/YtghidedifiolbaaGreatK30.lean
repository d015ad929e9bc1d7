/- The statements' calls whose answers the document fixes. -/
import Derived.Test.YtghidedifiolbaaGreatK29
import Derived.Test.YtghidedifiolbaaGreatK12
import Derived.Test.YtghidedifiolbaaGreatK25
set_option linter.unusedVariables false
set_option linter.unusedSimpArgs false
namespace Go.Proofs.YtghidedifiolbaaGreat
open Go.AM

@[simp ↓] theorem AStep_bfz {P : Program} {K : AV → Hp → Prop} {tm : Tm} {h : Hp} (x : AX) : AStep P (.bfz x) K tm h = ThenV (x.ev tm) (fun v => match v with | .sl id off len => off = 0 ∧ ThenA (h id) (fun _ _ xs => off + len ≤ xs.length ∧ K (.fz ((xs.drop off).take len)) (hset h id .dead)) | _ => False) := by
  simp only [AStep, ThenV, ThenA]
  cases x.ev tm <;> first | rfl | (rename_i id _ _; simp only; cases h id <;> rfl)
def b17 : Bytes := [103, 40, 108, 32, 76, 41, 58, 76, 61, 108, 59, 102, 40, 108, 32, 76, 41, 58, 78, 61, 99, 97, 115, 101, 32, 108, 32, 111, 102, 32, 110, 105, 108, 45, 62, 49, 124, 104, 58, 116, 45, 62, 104, 59, 107, 40, 108, 32, 76, 41, 58, 76, 61, 103, 40, 49, 58, 108, 41, 59]
def s17 : Bytes := [0, 1, 2, 3, 0, 0, 0, 0, 0, 1, 2, 3]
def p17 : List Df := (readS b17).1
def t17 : List Tb := tabsS s17 p17
theorem ok17 : read17 b17 = true := by kernel_rfl
theorem rd17 {b : Bytes} (h : read17 b = true) : FineP (readS b).1 ∧ (readS b).1.length ≤ 40 ∧ b.length ≤ 8192 ∧ ∀ f ∈ (readS b).1, smallF f = true := by
  simp only [read17, Bool.and_eq_true, decide_eq_true_eq, List.all_eq_true] at h
  exact ⟨readS_fine h.1, h.2.1.1, h.2.1.2, h.2.2⟩
theorem fine17 : FineP p17 := (rd17 ok17).1
theorem at17a : bodyS p17 t17 1 [2] = (1, 0) := by kernel_rfl
theorem at17b : bodyS p17 t17 2 [2] = (2, 0) := by kernel_rfl
theorem at17c : bodyS p17 t17 1 [0] = (0, 0) := by kernel_rfl
theorem fine_types {p : List Df} (hf : FineP p) : (∀ f ∈ p, tyOK f.ty) ∧ (∀ f ∈ p, ∀ x ∈ f.params, tyOK x.ty) ∧ (∀ f ∈ p, f.params.length ≤ 40000) := by
  refine ⟨fun f hm => ?_, fun f hm x hx => ?_, fun f hm => ?_⟩
  · obtain ⟨hi, h⟩ := fineP_mem hf.fine hm; exact h.ty
  · obtain ⟨hi, h⟩ := fineP_mem hf.fine hm; exact (h.params x hx).ty
  · have := sizeP_mem hm; have := hf.size; have : f.size = 1 + f.params.length + f.body.size := rfl; omega
theorem LsAt_lsV {e sz : Nat} {h : Hp} {v : AV} {rows : List (List AV)} (a : LsAt e sz h v rows) : LsV e sz h v rows := by
  rcases a with ⟨rfl, rfl⟩ | ⟨id, xs, rfl, ha⟩
  · exact .inl rfl
  · exact .inr (.inr ⟨id, xs, rfl, ha⟩)
theorem DenTs_own {h : Hp} {tv : AV} {ts : List Tb} {rows : List (List AV)} (a : LsAt 30 4 h tv rows) (d : ∀ hh : Hp, DenTs hh (rowsAV rows) ts rows) : DenTs h tv ts rows := ⟨LsAt_lsV a, (d h).len, (d h).at_⟩
set_option maxRecDepth 20000 in
theorem awake17_ok {h : Hp} {K : AV → Hp → Prop} (hK : K (.bool true) h) : ACalls Tryz.prog 8 [] h K := by
  obtain ⟨ty1, ty2, ty3⟩ := fine_types fine17
  obtain ⟨_, l1, l2, l3⟩ := rd17 ok17
  refine calls_of mixed Tryz.func8 comp8 (Nat.le_of_ble_eq_true rfl) ?_
  simp -dsimp [c8]
  intro i11 d11
  simp -dsimp [hset_self d11]
  refine read17_ok (b := b17) (.inl rfl) ?_
  rw [ok17]
  have hp1 : (readS b17).1 = p17 := rfl
  rw [hp1] at l1 l3 ⊢
  simp -dsimp [progAV]
  intro i1 d1
  have k1 := (Keeps.refl h).new (o := .cells [rowsAV (p17.map Df.cells)]) d1
  have g1 := hat h i1 (.cells [rowsAV (p17.map Df.cells)])
  simp -dsimp
  intro i17 d17
  have n117 := cells_ne g1 d17
  simp -dsimp [n117]
  have k17 := k1.new (o := .arr 5 1 (bytesAV s17)) d17
  refine tables_ok (es := 5) (s := s17) l1 l3 ty1 ty3 (by decide) (.inr (.inr ⟨i17, [], rfl, by simp [bytesAV, s17]⟩)) fun tv rows h2 own den k2 => ?_
  have dt := DenTs_own own den
  have kk := k17.trans k2
  have g12 : h2 i1 = .cells [rowsAV (p17.map Df.cells)] := k2.at (cells_new g1 d17) (by simp)
  have tl : (tabsS s17 p17).length ≤ 9223372036854775807 := by rw [tabsS_length]; omega
  have e1 : bodyS p17 (tabsS s17 p17) 1 [2] = (1, 0) := at17a
  have e2 : bodyS p17 (tabsS s17 p17) 2 [2] = (2, 0) := at17b
  have e3 : bodyS p17 (tabsS s17 p17) 1 [0] = (0, 0) := at17c
  generalize tabsS s17 p17 = ts at *
  simp -dsimp [g12]
  intro i22 d22
  have k3 := (Keeps.refl h2).new (o := .arr 49 1 [[.int .i64 2]]) d22
  have n22 := cells_ne g12 d22
  simp -dsimp [n22]
  refine abody_ok (q := [2]) (eq := 49) fine17 tl (dt.keep k3) (by decide) (.inr (.inr ⟨i22, [], rfl, by simp [intRows]⟩)) ty2 ?_
  rw [e1]
  simp -dsimp [n22, g12]
  intro i29 d29
  have k4 := k3.new (o := .arr 49 1 [[.int .i64 2]]) d29
  have g13 := k3.at g12 (by simp)
  have n29 := cells_ne g13 d29
  simp -dsimp [n29]
  refine abody_ok (q := [2]) (eq := 49) fine17 tl (dt.keep k4) (by decide) (.inr (.inr ⟨i29, [], rfl, by simp [intRows]⟩)) ty2 ?_
  rw [e2]
  simp -dsimp [n22, n29, g12]
  intro i36 d36
  have k5 := k4.new (o := .arr 49 1 [[.int .i64 0]]) d36
  have g14 := k4.at g12 (by simp)
  have n36 := cells_ne g14 d36
  simp -dsimp [n36]
  refine abody_ok (q := [0]) (eq := 49) fine17 tl (dt.keep k5) (by decide) (.inr (.inr ⟨i36, [], rfl, by simp [intRows]⟩)) ty2 ?_
  rw [e3]
  simp -dsimp
  exact Gives.sub (kk.trans k5).sub hK
end Go.Proofs.YtghidedifiolbaaGreat

/- What stands around a body: the plain law. -/
namespace Go.Proofs.YtghidedifiolbaaGreat
open Go.AM

def zzB : Bytes := [122, 122]
theorem zz_ne : zzB ≠ [] := by decide
def badE (ty : Int) : Ex := .mk 5 [] [] ty 0 0 [] 0
def yesE : Ex := .mk 2 [] [] 0 0 0 [] 0
def oneE : Ex := .mk 1 [] [] 0 4607182418800017408 0 [] 0
def nilE : Ex := .mk 4 [] [] 0 0 0 [] 0
def listE : Ex := .mk 18 [] [] 0 0 0 [oneE, nilE] 0
def zzE : Ex := .mk 6 zzB [] 0 0 0 [] 0
def ifE (a b c : Ex) : Ex := .mk 19 [] [] 0 0 0 [a, b, c] 0
def letE (op ty : Int) (a b : Ex) : Ex := .mk op zzB [] ty 0 0 [a, b] 0
def caseE (a b c : Ex) : Ex := .mk 20 zzB zzB 0 0 0 [a, b, c] 0
def twoE (op : Int) (a b : Ex) : Ex := .mk op [] [] 0 0 0 [a, b] 0
def notE (a : Ex) : Ex := .mk 14 [] [] 0 0 0 [a] 0
/-- What ask answers. -/
def askS (p : List Df) (ts : List Tb) (bs : List Bd) (e : Ex) : Int := if (exprS p ts bs e).2 ≠ 0 then -1 else (exprS p ts bs e).1
theorem ofS_typed {p : List Df} {env : List Pm} {e : Ex} {t : Int} (ht : tyOK t) (h : wrongS p env t e = []) : (ofS p env e).2 = 0 := by
  simp only [ofS]
  split
  · rfl
  · rename_i h1
    split
    · rfl
    · rename_i h2
      split
      · rfl
      · rename_i h3
        rcases ht with rfl | rfl | rfl
        · exact absurd h h1
        · exact absurd h h2
        · exact absurd h h3
theorem askS_of {p : List Df} {ts : List Tb} {bs : List Bd} {e : Ex} {t : Int} (hs : seeS p ts = true) (hg : goodB bs = true) (hn : nestS e ≤ 6) (ht : tyOK t) (h : wrongS p (envB bs) t e = []) : askS p ts bs e = ptS p (ts.map Tb.pts) e (nmB bs) := by
  have ho := ofS_typed ht h
  simp [askS, exprS, hs, hg, ho, show ¬ 6 < nestS e by omega]
section
variable {p : List Df} {ts : List Tb} {bs : List Bd} {b : Ex} {ty own : Int}
/-- A body that is asked around. -/
structure Ar (p : List Df) (ts : List Tb) (bs : List Bd) (b : Ex) (ty own : Int) : Prop where
  see : seeS p ts = true
  good : goodB bs = true
  tyo : tyOK ty
  wr : wrongS p (envB bs) ty b = []
  no : noZ zzB b
  nest : nestS b ≤ 5
  pt : ptS p (ts.map Tb.pts) b (nmB bs) = own
  low : 0 ≤ own
  high : own ≤ topS ty
variable (a : Ar p ts bs b ty own)
include a
theorem Ar.wr1 (t : Int) : wrongS p (envB bs ++ [⟨zzB, t, 0⟩]) ty b = [] := by
  rw [wrongS_ag p zz_ne b.size b _ (envB bs) ty (Nat.le_refl _) a.no (AgT.zz (fun _ _ => rfl) rfl)]; exact a.wr
theorem Ar.wr2 (t u : Int) : wrongS p (envB bs ++ [⟨zzB, t, 0⟩] ++ [⟨zzB, u, 0⟩]) ty b = [] := by
  rw [wrongS_ag p zz_ne b.size b _ (envB bs) ty (Nat.le_refl _) a.no (AgT.zz (y := ⟨zzB, u, 0⟩) (AgT.zz (y := ⟨zzB, t, 0⟩) (fun _ _ => rfl) rfl) rfl)]; exact a.wr
theorem Ar.pt1 (q : Int) : ptS p (ts.map Tb.pts) b (bindN (nmB bs) zzB q) = own := by
  rw [ptS_ag p _ zz_ne b.size b _ (nmB bs) (Nat.le_refl _) a.no (AgN.zz (fun _ _ => rfl) q)]; exact a.pt
theorem Ar.pt2 (q r : Int) : ptS p (ts.map Tb.pts) b (bindN (bindN (nmB bs) zzB q) zzB r) = own := by
  rw [ptS_ag p _ zz_ne b.size b _ (nmB bs) (Nat.le_refl _) a.no (AgN.zz (AgN.zz (fun _ _ => rfl) q) r)]; exact a.pt
theorem Ar.q1 : askS p ts bs (ifE yesE b (badE ty)) = own := by
  have hn := a.nest
  rw [askS_of a.see a.good (by simp [nestS, nestL, badE, yesE, oneE, nilE, listE, zzE, ifE, letE, caseE, twoE, notE]; omega) a.tyo]
  · have h1 := a.pt
    have h2 := a.low
    simp [ifE, yesE, badE, ptS, ifP, h1]
    omega
  · simp [nestS, badE, yesE, oneE, nilE, listE, zzE, ifE, letE, caseE, twoE, notE, wrongS, wrongL, ownW, ownS, wantedS, withinS, Ex.op, Ex.name, Ex.tail, Ex.ty, lastT_snoc, a.wr, a.wr1 ty, a.wr2 1 3, -List.append_assoc]
theorem Ar.q2 : askS p ts bs (ifE (badE 2) b b) = 0 := by
  have hn := a.nest
  rw [askS_of a.see a.good (by simp [nestS, nestL, badE, yesE, oneE, nilE, listE, zzE, ifE, letE, caseE, twoE, notE]; omega) a.tyo]
  · simp [ifE, badE, ptS, ifP]
  · simp [nestS, badE, yesE, oneE, nilE, listE, zzE, ifE, letE, caseE, twoE, notE, wrongS, wrongL, ownW, ownS, wantedS, withinS, Ex.op, Ex.name, Ex.tail, Ex.ty, lastT_snoc, a.wr, a.wr1 ty, a.wr2 1 3, -List.append_assoc]
theorem Ar.q3 : askS p ts bs (letE 21 ty b zzE) = own := by
  have hn := a.nest
  rw [askS_of a.see a.good (by simp [nestS, nestL, badE, yesE, oneE, nilE, listE, zzE, ifE, letE, caseE, twoE, notE]; omega) a.tyo]
  · have h2 := a.low
    have hf : (fun q => ptS p (ts.map Tb.pts) b (bindN (nmB bs) zzB q)) = fun _ => own := funext a.pt1
    have hx : fixI (fun _ => own) 4 0 = own := by
      by_cases h0 : own ≤ 0
      · have : own = 0 := by omega
        subst this; rfl
      · simp [fixI, h0]
    have hz : ptS p (ts.map Tb.pts) zzE (bindN (nmB bs) zzB own) = own := by
      rw [ptS_eq]
      simp [zzE, Ex.op, Ex.name, bindN, lastN_snoc]
    have hl : letP p (ts.map Tb.pts) zzB [b, zzE] (nmB bs) = own := by
      simp only [letP]; rw [hf, hx, hz]
    rw [ptS_eq]
    simp [letE, Ex.op, Ex.name, Ex.args, hl]
  · simp [nestS, badE, yesE, oneE, nilE, listE, zzE, ifE, letE, caseE, twoE, notE, wrongS, wrongL, ownW, ownS, wantedS, withinS, Ex.op, Ex.name, Ex.tail, Ex.ty, lastT_snoc, a.wr, a.wr1 ty, a.wr2 1 3, -List.append_assoc]
theorem Ar.q4 : askS p ts bs (letE 22 ty b oneE) = if 0 < own then 1 else 0 := by
  have hn := a.nest
  rw [askS_of a.see a.good (by simp [nestS, nestL, badE, yesE, oneE, nilE, listE, zzE, ifE, letE, caseE, twoE, notE]; omega) (.inl rfl) (t := 1)]
  · have h1 := a.pt
    have h2 := a.low
    simp [letE, oneE, ptS, strP, h1]
    split <;> split <;> omega
  · simp [nestS, badE, yesE, oneE, nilE, listE, zzE, ifE, letE, caseE, twoE, notE, wrongS, wrongL, ownW, ownS, wantedS, withinS, Ex.op, Ex.name, Ex.tail, Ex.ty, lastT_snoc, a.wr, a.wr1 ty, a.wr2 1 3, -List.append_assoc]
theorem Ar.q5 : askS p ts bs (letE 21 ty (badE ty) b) = own := by
  have hn := a.nest
  rw [askS_of a.see a.good (by simp [nestS, nestL, badE, yesE, oneE, nilE, listE, zzE, ifE, letE, caseE, twoE, notE]; omega) a.tyo]
  · simp [letE, badE, ptS, letP, a.pt1]
  · simp [nestS, badE, yesE, oneE, nilE, listE, zzE, ifE, letE, caseE, twoE, notE, wrongS, wrongL, ownW, ownS, wantedS, withinS, Ex.op, Ex.name, Ex.tail, Ex.ty, lastT_snoc, a.wr, a.wr1 ty, a.wr2 1 3, -List.append_assoc]
theorem Ar.q6 : askS p ts bs (letE 22 ty (badE ty) b) = 0 := by
  have hn := a.nest
  rw [askS_of a.see a.good (by simp [nestS, nestL, badE, yesE, oneE, nilE, listE, zzE, ifE, letE, caseE, twoE, notE]; omega) a.tyo]
  · simp [letE, badE, ptS, strP]
  · simp [nestS, badE, yesE, oneE, nilE, listE, zzE, ifE, letE, caseE, twoE, notE, wrongS, wrongL, ownW, ownS, wantedS, withinS, Ex.op, Ex.name, Ex.tail, Ex.ty, lastT_snoc, a.wr, a.wr1 ty, a.wr2 1 3, -List.append_assoc]
theorem Ar.q7 : askS p ts bs (caseE listE (badE ty) b) = own := by
  have hn := a.nest
  rw [askS_of a.see a.good (by simp [nestS, nestL, badE, yesE, oneE, nilE, listE, zzE, ifE, letE, caseE, twoE, notE]; omega) a.tyo]
  · have h2 := a.low
    have h1 := a.pt2
    have h3 : max (1 : Int) 3 = 3 := by decide
    simp [caseE, listE, oneE, nilE, badE, ptS, caseP, joinS, allP, consP, casesS, h1, h3]
    omega
  · simp [nestS, badE, yesE, oneE, nilE, listE, zzE, ifE, letE, caseE, twoE, notE, wrongS, wrongL, ownW, ownS, wantedS, withinS, Ex.op, Ex.name, Ex.tail, Ex.ty, lastT_snoc, a.wr, a.wr1 ty, a.wr2 1 3, -List.append_assoc]
theorem Ar.q8 : askS p ts bs (caseE nilE b (badE ty)) = own := by
  have hn := a.nest
  rw [askS_of a.see a.good (by simp [nestS, nestL, badE, yesE, oneE, nilE, listE, zzE, ifE, letE, caseE, twoE, notE]; omega) a.tyo]
  · have h2 := a.low
    have h1 := a.pt
    simp [caseE, listE, oneE, nilE, badE, ptS, caseP, joinS, allP, consP, casesS, h1]
    omega
  · simp [nestS, badE, yesE, oneE, nilE, listE, zzE, ifE, letE, caseE, twoE, notE, wrongS, wrongL, ownW, ownS, wantedS, withinS, Ex.op, Ex.name, Ex.tail, Ex.ty, lastT_snoc, a.wr, a.wr1 ty, a.wr2 1 3, -List.append_assoc]
theorem Ar.q9 (ht : ty = 1) : askS p ts bs (twoE 10 oneE b) = own := by
  subst ht
  have hn := a.nest
  rw [askS_of a.see a.good (by simp [nestS, nestL, badE, yesE, oneE, nilE, listE, zzE, ifE, letE, caseE, twoE, notE]; omega) a.tyo]
  · have h2 := a.low
    have h1 := a.pt
    have h3 := a.high
    simp [topS] at h3
    simp [twoE, oneE, ptS, joinS, allP, minS, h1]
    omega
  · simp [nestS, badE, yesE, oneE, nilE, listE, zzE, ifE, letE, caseE, twoE, notE, wrongS, wrongL, ownW, ownS, wantedS, withinS, Ex.op, Ex.name, Ex.tail, Ex.ty, lastT_snoc, a.wr, a.wr1 1, a.wr2 1 3, -List.append_assoc]
theorem Ar.q10 (ht : ty = 1) : askS p ts bs (twoE 18 b nilE) = 2 + own := by
  subst ht
  have hn := a.nest
  rw [askS_of a.see a.good (by simp [nestS, nestL, badE, yesE, oneE, nilE, listE, zzE, ifE, letE, caseE, twoE, notE]; omega) (t := 3) (.inr (.inr rfl))]
  · have h2 := a.low
    have h1 := a.pt
    have h3 := a.high
    simp [topS] at h3
    simp [twoE, nilE, ptS, joinS, allP, consP, h1]
    omega
  · simp [nestS, badE, yesE, oneE, nilE, listE, zzE, ifE, letE, caseE, twoE, notE, wrongS, wrongL, ownW, ownS, wantedS, withinS, Ex.op, Ex.name, Ex.tail, Ex.ty, lastT_snoc, a.wr, a.wr1 1, a.wr2 1 3, -List.append_assoc]
theorem Ar.q11 (ht : ty = 3) : askS p ts bs (twoE 18 oneE b) = max 1 own := by
  subst ht
  have hn := a.nest
  rw [askS_of a.see a.good (by simp [nestS, nestL, badE, yesE, oneE, nilE, listE, zzE, ifE, letE, caseE, twoE, notE]; omega) a.tyo]
  · have h2 := a.low
    have h1 := a.pt
    have h3 := a.high
    simp [topS] at h3
    simp [twoE, oneE, ptS, joinS, allP, consP, h1]
    omega
  · simp [nestS, badE, yesE, oneE, nilE, listE, zzE, ifE, letE, caseE, twoE, notE, wrongS, wrongL, ownW, ownS, wantedS, withinS, Ex.op, Ex.name, Ex.tail, Ex.ty, lastT_snoc, a.wr, a.wr1 3, a.wr2 1 3, -List.append_assoc]
theorem Ar.q12 (ht : ty = 2) : askS p ts bs (notE b) = own := by
  subst ht
  have hn := a.nest
  rw [askS_of a.see a.good (by simp [nestS, nestL, badE, yesE, oneE, nilE, listE, zzE, ifE, letE, caseE, twoE, notE]; omega) a.tyo]
  · have h2 := a.low
    have h1 := a.pt
    have h3 := a.high
    simp [topS] at h3
    simp [notE, ptS, joinS, allP, minS, h1]
    omega
  · simp [nestS, badE, yesE, oneE, nilE, listE, zzE, ifE, letE, caseE, twoE, notE, wrongS, wrongL, ownW, ownS, wantedS, withinS, Ex.op, Ex.name, Ex.tail, Ex.ty, lastT_snoc, a.wr, a.wr1 2, a.wr2 1 3, -List.append_assoc]
end
end Go.Proofs.YtghidedifiolbaaGreat

/- Names of a function; asking. -/
namespace Go.Proofs.YtghidedifiolbaaGreat
open Go.AM
variable {h : Hp} {K : AV → Hp → Prop}

theorem ris_ok {t q : Int} (hK : K (.bool (isPt t q)) h) : ACalls Tryz.prog 15 [.int .i64 t, .int .i64 q] h K := by
  refine calls_of mixed Tryz.func15 comp15 (Nat.le_of_ble_eq_true rfl) ?_
  by_cases h0 : 0 ≤ q
  · simp -dsimp [c15, h0]
    refine rtop_ok ?_
    simp -dsimp
    exact Gives.same (by simpa [isPt, h0] using hK)
  · simp -dsimp [c15, h0]
    exact Gives.same (by simpa [isPt, h0] using hK)
def nmA (s : Bytes) : List Bytes := if s = [] then [] else [s]
theorem nmA_len (s : Bytes) : (nmA s).length ≤ 1 := by simp only [nmA]; split <;> simp
theorem withinN_A (e : Ex) : withinN e = nmA e.name ++ nmA e.tail ++ withinL e.args := withinN_eq e
/-- All names in an expression. -/
theorem inside_ok : ∀ (n : Nat) (e : Ex) (h : Hp) (K : AV → Hp → Prop), e.size ≤ n → e.size ≤ 40000 → K (rowsAV (strRows (withinN e))) h → ACalls Tryz.prog 46 [.agg e.cells] h K
  | 0, e, _, _, hn, _, _ => by have := e.size_pos; omega
  | n + 1, e, h, K, hn, hs, hK => by
    have hsz : e.size = 1 + Ex.sizeL e.args := by cases e; rfl
    have hwl := withinN_length e
    rw [withinN_A] at hK hwl
    have hA1 := nmA_len e.name
    have hB1 := nmA_len e.tail
    have hA : (nmA e.name) = if e.name = [] then [] else [e.name] := rfl
    have hB : (nmA e.tail) = if e.tail = [] then [] else [e.tail] := rfl
    generalize nmA e.name = A at *
    generalize nmA e.tail = B at *
    refine calls_of mixed Tryz.func46 comp46 (Nat.le_of_ble_eq_true rfl) ?_
    simp -dsimp [c46]
    intro i1 d1
    have k1 : Keeps h (hset h i1 (.cells e.cells)) := (Keeps.refl h).new d1
    have g1 := hat h i1 (.cells e.cells)
    have o1 : Own h (hset h i1 (.cells e.cells)) 9 1 .nl (strRows []) := .inl ⟨rfl, rfl⟩
    simp -dsimp
    refine ThenB.cut (fun tm' h' => tm' 1 = .ptr i1 0 ∧ h' i1 = .cells e.cells ∧ Own h h' 9 1 (tm' 3) (strRows A) ∧ Keeps h h') ?_ ?_ ?_
    · intro hb
      have hne : ¬ e.name = [] := by simpa using hb
      rw [if_neg hne] at hA
      simp -dsimp
      intro i12 d12
      simp -dsimp
      intro i13 d13
      have k12 := k1.new (o := .arr 9 1 [[.str e.name]]) d12
      simp -dsimp
      have gg := cells_new (o' := .arr 9 1 [[.str e.name]]) (cells_new (o' := .arr 9 1 [[.str e.name]]) g1 d12) d13
      refine ⟨by simpa using gg, .inr ⟨i13, by simp [hA, strRows], k12.dead d13, by simp [hA, strRows], by simp [hA, strRows]⟩, k12.new d13⟩
    · intro hb
      have hne : e.name = [] := by simpa using hb
      rw [if_pos hne] at hA
      simp -dsimp
      exact ⟨by simpa [hA, strRows] using o1, k1⟩
    · rintro tm h1 ⟨t1, g1', o1', k1'⟩
      simp -dsimp [t1, g1']
      generalize hv : tm 3 = v3 at *
      refine ThenB.cut (fun tm' h' => tm' 1 = .ptr i1 0 ∧ h' i1 = .cells e.cells ∧ Own h h' 9 1 (tm' 3) (strRows (A ++ B)) ∧ Keeps h h') ?_ ?_ ?_
      · intro hb
        have hne : ¬ e.tail = [] := by simpa using hb
        rw [if_neg hne] at hB
        simp -dsimp [t1, g1', hv]
        intro i12 d12
        simp -dsimp [-AApp_sls]
        refine (o1'.new d12).pushE (k1'.new d12) (by simp; omega) (by decide) fun v' h2 ho2 hf2 hk2 => ?_
        simp -dsimp [t1]
        exact ⟨hk2.cells (cells_new g1' d12), by simpa [hB, strRows] using ho2, hf2⟩
      · intro hb
        have hne : e.tail = [] := by simpa using hb
        rw [if_pos hne] at hB
        simp -dsimp [t1, hv]
        exact ⟨g1', by simpa [hB, strRows] using o1', k1'⟩
      · rintro tm h2 ⟨t1, g2, o2, k2⟩
        simp -dsimp [t1, g2]
        refine ALoop.start (fun m tm' h' => ∃ i : Nat, i + m = e.args.length ∧ tm' 1 = .ptr i1 0 ∧ tm' 4 = .int .i64 i ∧ h' i1 = .cells e.cells ∧ Own h h' 9 1 (tm' 3) (strRows (A ++ B ++ withinL (e.args.take i))) ∧ Keeps h h') e.args.length
          ⟨0, by simp, by simp [t1], by simp, g2, by simpa [withinL] using o2, k2⟩ ?_
        rintro m tm' h' ⟨i, hi, t1, t4, g', o', k'⟩
        by_cases hlt : i < e.args.length
        · have hw1 : IntKind.i64.wrap ((i : Int) + 1) = ((i + 1 : Nat) : Int) := by
            have := Ex.sizeL_len e.args
            rw [wrap_i64] <;> omega
          have htk := take_snoc e.args hlt
          have hsn := withinL_snoc (e.args.take i) e.args[i]
          rw [← htk] at hsn
          have hal := Ex.size_mem (List.getElem_mem hlt)
          have hwa := withinN_length e.args[i]
          have hle : (withinL (e.args.take i)).length ≤ 2 * Ex.sizeL e.args := by
            have h1 := withinL_length (e.args.take i)
            have h2 := Ex.sizeL_append (e.args.take i) (e.args.drop i)
            rw [List.take_append_drop] at h2
            omega
          generalize hx : e.args[i] = a at *
          simp -dsimp [t1, t4, g', hlt, hx]
          refine inside_ok n a _ _ (by omega) (by omega) ?_
          have hall : ((strRows (withinN a)).all fun x => x.length == 1) = true := by simp [strRows]
          simp -dsimp [-AApp_sls, hall]
          refine o'.pushE (ys := strRows (withinN a)) k' (by simp; omega) (by decide) fun v' h2 ho2 hf2 hk2 => ?_
          simp -dsimp [t4, hw1]
          refine Again.same (m - 1) (by omega) ⟨i + 1, by omega, by simp [t1], by simp, hk2.cells g', ?_, hf2⟩
          rw [hsn]
          simpa [strRows] using ho2
        · have htk : e.args.take i = e.args := List.take_of_length_le (by omega)
          rw [htk] at o'
          simp -dsimp [t1, t4, g', hlt]
          exact o'.out k' hK
end Go.Proofs.YtghidedifiolbaaGreat

/- Names, each once, by their bytes. -/
namespace Go.Proofs.YtghidedifiolbaaGreat
open Go.AM
variable {h : Hp} {K : AV → Hp → Prop}

theorem mem_shift {M : List Bytes} {k : Nat} {w x y : Bytes} (hk : k + 1 < M.length) (hm : M[k]? = some y) : x ∈ (M.set (k + 1) y).set k w ↔ x ∈ M.set (k + 1) w := by
  have e1 : M = M.take k ++ [y] ++ [M[k + 1]] ++ M.drop (k + 2) := by
    have h1 : M.take (k + 1) = M.take k ++ [y] := by rw [List.take_add_one, hm]; rfl
    have h2 : M.take (k + 2) = M.take (k + 1) ++ [M[k + 1]] := by rw [List.take_add_one, List.getElem?_eq_getElem hk]; rfl
    rw [← h1, ← h2, List.take_append_drop]
  generalize M[k + 1] = z at *
  have hl : (M.take k).length = k := by simp; omega
  generalize M.take k = A at *
  generalize M.drop (k + 2) = B at *
  subst e1
  have s1 : (A ++ [y] ++ [z] ++ B).set (k + 1) w = A ++ [y] ++ [w] ++ B := by
    rw [← hl]; simp [List.set_append]
  have s2 : ((A ++ [y] ++ [z] ++ B).set (k + 1) y).set k w = A ++ [w] ++ [y] ++ B := by
    rw [← hl]; simp [List.set_append]
  rw [s1, s2]
  simp only [List.mem_append, List.mem_singleton]
  constructor <;> (intro h; rcases h with ((h | h) | h) | h <;> simp [h])
theorem strRows_ne {l : List Bytes} (h : 0 < l.length) : strRows l ≠ [] := fun e => by have := congrArg List.length e; rw [strRows_length] at this; simp at this; subst this; simp at h
theorem sorted_ok {l : List Bytes} (hl : l.length ≤ 900000) (hK : ∀ l', (∀ x, x ∈ l' ↔ x ∈ l) → l'.length ≤ l.length → K (rowsAV (strRows l')) h) : ACalls Tryz.prog 47 [rowsAV (strRows l)] h K := by
  refine calls_of mixed Tryz.func47 comp47 (Nat.le_of_ble_eq_true rfl) ?_
  simp -dsimp [c47]
  refine ALoop.start (fun m tm h' => ∃ (i : Nat) (out : List Bytes), i + m = l.length ∧ tm 0 = rowsAV (strRows l) ∧ tm 4 = .int .i64 i ∧ (∀ x, x ∈ out ↔ x ∈ l.take i) ∧ out.length ≤ i ∧ Own h h' 9 1 (tm 3) (strRows out) ∧ Keeps h h') l.length
    ⟨0, [], by simp, by simp, by simp, by simp, by simp, .inl ⟨rfl, by simp⟩, Keeps.refl h⟩ ?_
  rintro m tm h' ⟨i, out, hi, t0, t4, hm, hol, own, k⟩
  by_cases hlt : i < l.length
  · have hw1 : IntKind.i64.wrap ((i : Int) + 1) = ((i + 1 : Nat) : Int) := by rw [wrap_i64] <;> omega
    have htk := take_snoc l hlt
    have hli : (strRows l)[i]? = some [.str l[i]] := by simp [strRows, hlt]
    have hsl : (strRows l).length = l.length := by simp
    have hlig : ∀ hh, (strRows l)[i]'hh = [.str l[i]] := fun hh => (List.getElem?_eq_some_iff.1 hli).2
    have holen := own.len
    rw [strRows_length] at holen
    generalize l[i] = w at *
    simp -dsimp [t0, t4, hlt, hli, hlig]
    refine has_ok (by omega) own.isStrs ?_
    by_cases hin : w ∈ out
    · simp -dsimp [hin, t4, hw1]
      refine Again.same (m - 1) (by omega) ⟨i + 1, out, by omega, by simp [t0], by simp, fun x => ?_, by omega, own, k⟩
      rw [htk]; simp only [List.mem_append, List.mem_singleton, ← hm]
      exact ⟨.inl, fun hx => hx.elim id fun e => e ▸ hin⟩
    · simp -dsimp [hin, t0, t4, hlt, hli, hlig, holen]
      intro i25 d25
      simp -dsimp [-AApp_sls]
      refine (own.new d25).pushE (ys := [[.str w]]) (k.new d25) (by simp; omega) (by decide) fun v' h2 ho2 hf2 hk2 => ?_
      simp -dsimp
      have hrow0 : strRows out ++ [[.str w]] = strRows (out ++ [w]) := by simp [strRows]
      rw [hrow0] at ho2
      refine ALoop.start (fun m2 tm' h'' => ∃ M : List Bytes, tm' 0 = rowsAV (strRows l) ∧ tm' 4 = .int .i64 i ∧ tm' 5 = .int .i64 m2 ∧ m2 < M.length ∧ M.length = out.length + 1 ∧ (∀ x, x ∈ M.set m2 w ↔ x ∈ out ++ [w]) ∧ Own h h'' 9 1 (tm' 3) (strRows M) ∧ Keeps h h'') out.length
        ⟨out ++ [w], by simp [t0], by simp [t4], by simp, by simp, by simp, by simp, by simpa using ho2, hf2⟩ ?_
      rintro m2 tm' h'' ⟨M, u0, u4, u5, hjl, hMl, hM, o', k'⟩
      rcases o' with ⟨x, _⟩ | ⟨id, hne, hd, ho, ha⟩
      · exact absurd x (strRows_ne (by omega))
      · simp only [strRows_length] at ho
        have hMi : (m2 : Int) < (M.length : Int) := by omega
        have hMn : m2 < (strRows M).length := by simpa using hjl
        have hrj : (strRows M)[m2]? = some [.str M[m2]] := by simp [strRows, hjl]
        have hrjg : ∀ hh, (strRows M)[m2]'hh = [.str M[m2]] := fun hh => (List.getElem?_eq_some_iff.1 hrj).2
        cases m2 with
        | zero =>
          simp -dsimp [u0, u4, u5, ho, ha, hMi, hMn, hrj, hrjg, hli, hlig, hlt, hjl, hw1, Stable, AIns.wants, QStep]
          refine Again.same (m - 1) (by omega) ⟨i + 1, M.set 0 w, by omega, by simp [u0], by simp, fun x => ?_, by simp; omega, .inr ⟨id, ?_, hd, by simp [ho], by simp [strRows]⟩, k'.set hd⟩
          · rw [hM x, htk]; simp only [List.mem_append, hm]
          · exact strRows_ne (by simp; omega)
        | succ j =>
          have hj1 : j + 1 < M.length := hjl
          have hMi1 : (j : Int) < (M.length : Int) := by omega
          have hMn1 : j < (strRows M).length := by simp; omega
          have hrk : (strRows M)[j]? = some [.str M[j]] := by simp [strRows, show j < M.length by omega]
          have hrkg : ∀ hh, (strRows M)[j]'hh = [.str M[j]] := fun hh => (List.getElem?_eq_some_iff.1 hrk).2
          have hwm : IntKind.i64.wrap (((j + 1 : Nat) : Int) - 1) = (j : Int) := by rw [wrap_i64] <;> omega
          have hwm' : IntKind.i64.wrap ((j : Int) + 1 - 1) = (j : Int) := by rw [wrap_i64] <;> omega
          have hj0 : (0 : Int) < ((j + 1 : Nat) : Int) := by omega
          generalize hbb : (!(Op.bytesLess M[j] w || M[j] == w)) = bb
          cases bb with
          | true =>
            simp -dsimp [u0, u4, u5, ho, ha, hMi, hMn, hrj, hrjg, hli, hlig, hlt, hjl, hw1, hj1, hMi1, hMn1, hrk, hrkg, hwm, hwm', hj0, hbb, -Int.natCast_add, Stable, AIns.wants, QStep]
            refine Again.same j (by omega) ⟨M.set (j + 1) M[j], by simp [u0], by simp [u4], by simp, by simp; omega, by simp [hMl], fun x => ?_, .inr ⟨id, ?_, hd, by simp [ho], by simp [strRows]⟩, k'.set hd⟩
            · rw [mem_shift hj1 (List.getElem?_eq_getElem (by omega)), hM x]
            · exact strRows_ne (by simp; omega)
          | false =>
            simp -dsimp [u0, u4, u5, ho, ha, hMi, hMn, hrj, hrjg, hli, hlig, hlt, hjl, hw1, hj1, hMi1, hMn1, hrk, hrkg, hwm, hwm', hj0, hbb, -Int.natCast_add, Stable, AIns.wants, QStep]
            refine Again.same (m - 1) (by omega) ⟨i + 1, M.set (j + 1) w, by omega, by simp [u0], by simp, fun x => ?_, by simp; omega, .inr ⟨id, ?_, hd, by simp [ho], by simp [strRows]⟩, k'.set hd⟩
            · rw [hM x, htk]; simp only [List.mem_append, hm]
            · exact strRows_ne (by simp; omega)
  · have htk : l.take i = l := List.take_of_length_le (by omega)
    rw [htk] at hm
    simp -dsimp [t0, t4, hlt]
    exact own.out k (hK out hm (by omega))
end Go.Proofs.YtghidedifiolbaaGreat

/- The names of a function; asking with own memory. -/
namespace Go.Proofs.YtghidedifiolbaaGreat
open Go.AM
variable {h : Hp} {K : AV → Hp → Prop}

def namesF (f : Df) : List Bytes := [f.name] ++ f.params.map Pm.name ++ withinN f.body
theorem names_ok {f : Df} (hs : f.size ≤ 40000) (hK : ∀ l', (∀ x, x ∈ l' ↔ x ∈ namesF f) → l'.length ≤ 900000 → K (rowsAV (strRows l')) h) : ACalls Tryz.prog 16 [.agg f.cells] h K := by
  have hsz : f.size = 1 + f.params.length + f.body.size := rfl
  have hwl := withinN_length f.body
  refine calls_of mixed Tryz.func16 comp16 (Nat.le_of_ble_eq_true rfl) ?_
  simp -dsimp [c16]
  intro i1 d1
  have k1 : Keeps h (hset h i1 (.cells f.cells)) := (Keeps.refl h).new d1
  have g1 := hat h i1 (.cells f.cells)
  simp -dsimp
  intro i8 d8
  have k8 := k1.new (o := .arr 9 1 [[.str f.name]]) d8
  have g18 := cells_new (o' := .arr 9 1 [[.str f.name]]) g1 d8
  have z8 := k1.dead d8
  simp -dsimp
  refine ALoop.start (fun m tm h' => ∃ i : Nat, i + m = f.params.length ∧ tm 1 = .ptr i1 0 ∧ tm 4 = .int .i64 i ∧ h' i1 = .cells f.cells ∧ Own h h' 9 1 (tm 3) (strRows ([f.name] ++ (f.params.take i).map Pm.name)) ∧ Keeps h h') f.params.length
    ⟨0, by simp, by simp, by simp, by simpa using g18, .inr ⟨i8, by simp [strRows], z8, by simp [strRows], by simp [strRows]⟩, k8⟩ ?_
  rintro m tm h' ⟨i, hi, t1, t4, g, own, k⟩
  by_cases hlt : i < f.params.length
  · have hw1 : IntKind.i64.wrap ((i : Int) + 1) = ((i + 1 : Nat) : Int) := by rw [wrap_i64] <;> omega
    have htk := take_snoc f.params hlt
    generalize hx : f.params[i] = x at *
    simp -dsimp [t1, t4, g, hlt, hx]
    intro i23 d23
    simp -dsimp [-AApp_sls]
    refine (own.new d23).pushE (ys := [[.str x.name]]) (k.new d23) (by simp; omega) (by decide) fun v' h2 ho2 hf2 hk2 => ?_
    simp -dsimp [t4, hw1]
    refine Again.same (m - 1) (by omega) ⟨i + 1, by omega, by simp [t1], by simp, hk2.cells (cells_new g d23), ?_, hf2⟩
    rw [htk]
    simpa [strRows] using ho2
  · have htk : f.params.take i = f.params := List.take_of_length_le (by omega)
    rw [htk] at own
    have hel := own.elems (by intro r hr; simp only [strRows, List.mem_map] at hr; obtain ⟨_, _, rfl⟩ := hr; rfl)
    simp -dsimp [t1, t4, g, hlt]
    refine inside_ok f.body.size f.body _ _ (Nat.le_refl _) (by omega) ?_
    simp -dsimp
    refine with_ok (l := [f.name] ++ f.params.map Pm.name) (m := withinN f.body) (by simp; omega) (by omega) hel rfl ?_
    simp -dsimp
    refine sorted_ok (by simp; omega) fun l' hl' hll => ?_
    simp -dsimp
    exact Gives.sub k.sub (hK l' hl' (by simp at hll; omega))
section
variable {p : List Df} {ts : List Tb} {bs : List Bd} {e : Ex} {eb : Nat} {tv bv : AV} {rows : List (List AV)} {hi : Int}
theorem ask_ok (hf : FineP p) (htl : ts.length ≤ 9223372036854775807) (hd : DenTs h tv ts rows)
    (hbv : LsV eb 3 h bv (bs.map Bd.cells)) (hbl : bs.length + 2 * e.size ≤ 200000) (hes : e.size ≤ 90000) (hef : e.fine hi) (hcalls : (check07 p).1 = 0 → callsOK p e) (hpp : ∀ f ∈ p, ∀ x ∈ f.params, tyOK x.ty)
    (hK : K (.int .i64 (askS p ts bs e)) h) : ACalls Tryz.prog 18 [.agg [rowsAV (p.map Df.cells), tv, bv], .agg e.cells] h K := by
  refine calls_of mixed Tryz.func18 comp18 (Nat.le_of_ble_eq_true rfl) ?_
  simp -dsimp [c18]
  intro i2 d2
  have k2 := (Keeps.refl h).new (o := .cells [rowsAV (p.map Df.cells), tv, bv]) d2
  have g2 := hat h i2 (.cells [rowsAV (p.map Df.cells), tv, bv])
  simp -dsimp
  intro i3 d3
  have n23 := cells_ne g2 d3
  have k3 := k2.new (o := .cells e.cells) d3
  simp -dsimp [n23]
  refine pexpr_ok hf htl (hd.keep k3) (hbv.keep (fun id sz xs hh => k3.at hh (by simp))) hbl hes hef hcalls hpp ?_
  by_cases hz : (exprS p ts bs e).2 = 0
  · simp -dsimp [hz]
    exact Gives.sub k3.sub (by simpa [askS, hz] using hK)
  · simp -dsimp [hz]
    exact Gives.sub k3.sub (by simpa [askS, hz] using hK)
theorem rows_ex : ∀ (l : List Ex), l ≠ [] → rowsAV (Ex.rows l) = .fz (l.map Ex.cells)
  | [], h => absurd rfl h
  | a :: l, _ => by rw [Ex.rows_map]; rfl
/-- Asking for an expression whose parts lie in own memory. -/
theorem askf_ok {H : Hp} {op ty pos : Int} {name tail : Bytes} {re im : Nat} {args : List Ex} {id eid n : Nat} {rws : List (List AV)} (hrw : rws = args.map Ex.cells) (hne : args ≠ []) (hn : n = args.length) (hid : H id = .dead) (he : e = .mk op name tail ty re im args pos) (hf : FineP p) (htl : ts.length ≤ 9223372036854775807) (hd : DenTs H tv ts rows)
    (hbv : LsV eb 3 H bv (bs.map Bd.cells)) (hbl : bs.length + 2 * e.size ≤ 200000) (hes : e.size ≤ 90000) (hef : e.fine hi) (hcalls : (check07 p).1 = 0 → callsOK p e) (hpp : ∀ f ∈ p, ∀ x ∈ f.params, tyOK x.ty)
    (hK : K (.int .i64 (askS p ts bs e)) H) : ACalls Tryz.prog 18 [.agg [rowsAV (p.map Df.cells), tv, bv], .agg [.int .i64 op, .str name, .str tail, .int .i64 ty, .cplx re im, .sl id 0 n, .int .i64 pos]] (hset H id (.arr eid 7 rws)) K := by
  have hlen : rws.length = n := by rw [hrw, hn]; simp
  have hfz : Frz (hset H id (.arr eid 7 rws)) H (.sl id 0 n) (rowsAV (Ex.rows args)) := by
    rw [rows_ex _ hne, ← hrw, ← hlen]
    exact Frz.rows (e := eid) (sz := 7) (by simp) hid
  refine ACalls.frz (h' := H) (args' := [.agg [rowsAV (p.map Df.cells), tv, bv], .agg e.cells]) (Sub.drop hid) ⟨.same _, ?_, trivial⟩ (ask_ok hf htl hd hbv hbl hes hef hcalls hpp hK)
  rw [he]
  exact Frz.cell (a := [.int .i64 op, .str name, .str tail, .int .i64 ty, .cplx re im]) (b := [.int .i64 pos]) hfz
theorem askl_ok {H : Hp} {ty : Int} {b : Ex} {id idl eid eil : Nat} (hl : H idl = .arr eil 7 [oneE.cells, nilE.cells]) (hid : H id = .dead) (hf : FineP p) (htl : ts.length ≤ 9223372036854775807) (hd : DenTs (hset H idl .dead) tv ts rows)
    (hbv : LsV eb 3 (hset H idl .dead) bv (bs.map Bd.cells)) (hbl : bs.length + 2 * (caseE listE (badE ty) b).size ≤ 200000) (hes : (caseE listE (badE ty) b).size ≤ 90000) (hef : (caseE listE (badE ty) b).fine hi) (hcalls : (check07 p).1 = 0 → callsOK p (caseE listE (badE ty) b)) (hpp : ∀ f ∈ p, ∀ x ∈ f.params, tyOK x.ty)
    (hK : K (.int .i64 (askS p ts bs (caseE listE (badE ty) b))) (hset H idl .dead)) : ACalls Tryz.prog 18 [.agg [rowsAV (p.map Df.cells), tv, bv], .agg [.int .i64 20, .str zzB, .str zzB, .int .i64 0, .cplx 0 0, .sl id 0 3, .int .i64 0]] (hset H id (.arr eid 7 [[.int .i64 18, .str [], .str [], .int .i64 0, .cplx 0 0, .sl idl 0 2, .int .i64 0], (badE ty).cells, b.cells])) K := by
  have hne : ¬ idl = id := by rintro rfl; rw [hl] at hid; cases hid
  have hne' : ¬ id = idl := fun x => hne x.symm
  generalize hG : hset H id (.arr eid 7 [[.int .i64 18, .str [], .str [], .int .i64 0, .cplx 0 0, .sl idl 0 2, .int .i64 0], (badE ty).cells, b.cells]) = G
  have g1 : G id = .arr eid 7 [[.int .i64 18, .str [], .str [], .int .i64 0, .cplx 0 0, .sl idl 0 2, .int .i64 0], (badE ty).cells, b.cells] := by rw [← hG]; simp
  have g2 : G idl = .arr eil 7 [oneE.cells, nilE.cells] := by rw [← hG]; simp [hne, hl]
  have hsub : Sub (hset H idl .dead) G := fun j => by
    by_cases e1 : j = idl
    · exact .inr (by simp [e1])
    · by_cases e2 : j = id
      · subst e2; exact .inr (by simp [hid])
      · exact .inl (by rw [← hG]; simp [e1, e2])
  have z1 : hset H idl .dead id = .dead := by simp [hid]
  have z2 : hset H idl .dead idl = .dead := by simp
  have hfl : Frz G (hset H idl .dead) (.agg [.int .i64 18, .str [], .str [], .int .i64 0, .cplx 0 0, .sl idl 0 2, .int .i64 0]) (.agg listE.cells) :=
    Frz.cell (a := [.int .i64 18, .str [], .str [], .int .i64 0, .cplx 0 0]) (b := [.int .i64 0]) (Frz.rows (xs := [oneE.cells, nilE.cells]) g2 z2)
  have hfo : Frz G (hset H idl .dead) (.sl id 0 3) (.fz [listE.cells, (badE ty).cells, b.cells]) := by
    refine Frz.rows2 (xs := [[.int .i64 18, .str [], .str [], .int .i64 0, .cplx 0 0, .sl idl 0 2, .int .i64 0], (badE ty).cells, b.cells]) g1 z1 rfl fun i x y hx hy => ?_
    match i with
    | 0 => simp at hx hy; subst hx; subst hy; exact hfl
    | 1 => simp at hx hy; subst hx; subst hy; exact .same _
    | 2 => simp at hx hy; subst hx; subst hy; exact .same _
    | i + 3 => simp at hx
  refine ACalls.frz (h' := hset H idl .dead) (args' := [.agg [rowsAV (p.map Df.cells), tv, bv], .agg (caseE listE (badE ty) b).cells]) hsub ⟨.same _, ?_, trivial⟩ (ask_ok hf htl hd hbv hbl hes hef hcalls hpp hK)
  exact Frz.cell (a := [.int .i64 20, .str zzB, .str zzB, .int .i64 0, .cplx 0 0]) (b := [.int .i64 0]) hfo
end
end Go.Proofs.YtghidedifiolbaaGreat

/- The expressions that are asked for are fit to be asked for. -/
namespace Go.Proofs.YtghidedifiolbaaGreat
open Go.AM

def Eg (p : List Df) (n : Nat) (hi : Int) (e : Ex) : Prop := e.size ≤ n + 12 ∧ e.fine hi ∧ callsOK p e
section
variable {p : List Df} {b : Ex} {hi ty : Int} {n : Nat}
theorem one_num : numOK 4607182418800017408 0 := ⟨1, 0, by decide, by decide, by decide, by decide, by rfl, by rfl⟩
theorem eg1 (hb : b.size ≤ n) (hbf : b.fine hi) (hbc : callsOK p b) (h0 : 0 < hi) (ht : tyOK ty) : Eg p (2 * n) hi (ifE yesE b (badE ty)) := by
  refine ⟨by simp [Ex.size, Ex.sizeL, badE, yesE, oneE, nilE, listE, zzE, ifE, letE, caseE, twoE, notE]; omega, ?_, ?_⟩ <;> simp [Ex.fine, Ex.fineL, callsOK, callsL, callOK, Ex.op, arOK, badE, yesE, oneE, nilE, listE, zzE, ifE, letE, caseE, twoE, notE, *] <;> (try omega)
theorem eg2 (hb : b.size ≤ n) (hbf : b.fine hi) (hbc : callsOK p b) (h0 : 0 < hi) (ht : tyOK ty) : Eg p (2 * n) hi (ifE (badE 2) b b) := by
  have h2 : tyOK 2 := .inr (.inl rfl)
  refine ⟨by simp [Ex.size, Ex.sizeL, badE, yesE, oneE, nilE, listE, zzE, ifE, letE, caseE, twoE, notE]; omega, ?_, ?_⟩ <;> simp [Ex.fine, Ex.fineL, callsOK, callsL, callOK, Ex.op, arOK, badE, yesE, oneE, nilE, listE, zzE, ifE, letE, caseE, twoE, notE, *] <;> (try omega)
theorem eg3 (hb : b.size ≤ n) (hbf : b.fine hi) (hbc : callsOK p b) (h0 : 0 < hi) (ht : tyOK ty) : Eg p (2 * n) hi (letE 21 ty b zzE) := by
  refine ⟨by simp [Ex.size, Ex.sizeL, badE, yesE, oneE, nilE, listE, zzE, ifE, letE, caseE, twoE, notE]; omega, ?_, ?_⟩ <;> simp [Ex.fine, Ex.fineL, callsOK, callsL, callOK, Ex.op, arOK, badE, yesE, oneE, nilE, listE, zzE, ifE, letE, caseE, twoE, notE, *] <;> (try omega)
theorem eg4 (hb : b.size ≤ n) (hbf : b.fine hi) (hbc : callsOK p b) (h0 : 0 < hi) (ht : tyOK ty) : Eg p (2 * n) hi (letE 22 ty b oneE) := by
  have := one_num
  refine ⟨by simp [Ex.size, Ex.sizeL, badE, yesE, oneE, nilE, listE, zzE, ifE, letE, caseE, twoE, notE]; omega, ?_, ?_⟩ <;> simp [Ex.fine, Ex.fineL, callsOK, callsL, callOK, Ex.op, arOK, badE, yesE, oneE, nilE, listE, zzE, ifE, letE, caseE, twoE, notE, *] <;> (try omega)
theorem eg5 (hb : b.size ≤ n) (hbf : b.fine hi) (hbc : callsOK p b) (h0 : 0 < hi) (ht : tyOK ty) : Eg p (2 * n) hi (letE 21 ty (badE ty) b) := by
  refine ⟨by simp [Ex.size, Ex.sizeL, badE, yesE, oneE, nilE, listE, zzE, ifE, letE, caseE, twoE, notE]; omega, ?_, ?_⟩ <;> simp [Ex.fine, Ex.fineL, callsOK, callsL, callOK, Ex.op, arOK, badE, yesE, oneE, nilE, listE, zzE, ifE, letE, caseE, twoE, notE, *] <;> (try omega)
theorem eg6 (hb : b.size ≤ n) (hbf : b.fine hi) (hbc : callsOK p b) (h0 : 0 < hi) (ht : tyOK ty) : Eg p (2 * n) hi (letE 22 ty (badE ty) b) := by
  refine ⟨by simp [Ex.size, Ex.sizeL, badE, yesE, oneE, nilE, listE, zzE, ifE, letE, caseE, twoE, notE]; omega, ?_, ?_⟩ <;> simp [Ex.fine, Ex.fineL, callsOK, callsL, callOK, Ex.op, arOK, badE, yesE, oneE, nilE, listE, zzE, ifE, letE, caseE, twoE, notE, *] <;> (try omega)
theorem eg7 (hb : b.size ≤ n) (hbf : b.fine hi) (hbc : callsOK p b) (h0 : 0 < hi) (ht : tyOK ty) : Eg p (2 * n) hi (caseE listE (badE ty) b) := by
  have := one_num
  refine ⟨by simp [Ex.size, Ex.sizeL, badE, yesE, oneE, nilE, listE, zzE, ifE, letE, caseE, twoE, notE]; omega, ?_, ?_⟩ <;> simp [Ex.fine, Ex.fineL, callsOK, callsL, callOK, Ex.op, arOK, badE, yesE, oneE, nilE, listE, zzE, ifE, letE, caseE, twoE, notE, *] <;> (try omega)
theorem eg8 (hb : b.size ≤ n) (hbf : b.fine hi) (hbc : callsOK p b) (h0 : 0 < hi) (ht : tyOK ty) : Eg p (2 * n) hi (caseE nilE b (badE ty)) := by
  refine ⟨by simp [Ex.size, Ex.sizeL, badE, yesE, oneE, nilE, listE, zzE, ifE, letE, caseE, twoE, notE]; omega, ?_, ?_⟩ <;> simp [Ex.fine, Ex.fineL, callsOK, callsL, callOK, Ex.op, arOK, badE, yesE, oneE, nilE, listE, zzE, ifE, letE, caseE, twoE, notE, *] <;> (try omega)
theorem eg9 (hb : b.size ≤ n) (hbf : b.fine hi) (hbc : callsOK p b) (h0 : 0 < hi) (ht : tyOK ty) : Eg p (2 * n) hi (twoE 10 oneE b) := by
  have := one_num
  refine ⟨by simp [Ex.size, Ex.sizeL, badE, yesE, oneE, nilE, listE, zzE, ifE, letE, caseE, twoE, notE]; omega, ?_, ?_⟩ <;> simp [Ex.fine, Ex.fineL, callsOK, callsL, callOK, Ex.op, arOK, badE, yesE, oneE, nilE, listE, zzE, ifE, letE, caseE, twoE, notE, *] <;> (try omega)
theorem eg10 (hb : b.size ≤ n) (hbf : b.fine hi) (hbc : callsOK p b) (h0 : 0 < hi) (ht : tyOK ty) : Eg p (2 * n) hi (twoE 18 b nilE) := by
  refine ⟨by simp [Ex.size, Ex.sizeL, badE, yesE, oneE, nilE, listE, zzE, ifE, letE, caseE, twoE, notE]; omega, ?_, ?_⟩ <;> simp [Ex.fine, Ex.fineL, callsOK, callsL, callOK, Ex.op, arOK, badE, yesE, oneE, nilE, listE, zzE, ifE, letE, caseE, twoE, notE, *] <;> (try omega)
theorem eg11 (hb : b.size ≤ n) (hbf : b.fine hi) (hbc : callsOK p b) (h0 : 0 < hi) (ht : tyOK ty) : Eg p (2 * n) hi (twoE 18 oneE b) := by
  have := one_num
  refine ⟨by simp [Ex.size, Ex.sizeL, badE, yesE, oneE, nilE, listE, zzE, ifE, letE, caseE, twoE, notE]; omega, ?_, ?_⟩ <;> simp [Ex.fine, Ex.fineL, callsOK, callsL, callOK, Ex.op, arOK, badE, yesE, oneE, nilE, listE, zzE, ifE, letE, caseE, twoE, notE, *] <;> (try omega)
theorem eg12 (hb : b.size ≤ n) (hbf : b.fine hi) (hbc : callsOK p b) (h0 : 0 < hi) (ht : tyOK ty) : Eg p (2 * n) hi (notE b) := by
  refine ⟨by simp [Ex.size, Ex.sizeL, badE, yesE, oneE, nilE, listE, zzE, ifE, letE, caseE, twoE, notE]; omega, ?_, ?_⟩ <;> simp [Ex.fine, Ex.fineL, callsOK, callsL, callOK, Ex.op, arOK, badE, yesE, oneE, nilE, listE, zzE, ifE, letE, caseE, twoE, notE, *] <;> (try omega)
end
end Go.Proofs.YtghidedifiolbaaGreat
