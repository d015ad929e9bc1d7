/- AM, 22: how code is run by rewriting: head first; what follows is not looked into. -/
import Derived.Test.YtghidedifiolbaaGreatK05
set_option linter.unusedVariables false
set_option linter.unusedSimpArgs false
namespace Go.AM
universe u

/-! What stands behind a call, a new object or a loop is left alone. -/

/-- What is held is not rewritten: what depends on it stands behind it. -/
inductive Held {α : Sort u} (a : α) : Type where
  | mk
  | no

def Fresh (h : Hp) (f : Nat → Prop) (_ : Held f := .mk) : Prop := ∀ id, h id = .dead → f id
/-- A call, as it is met. -/
def ACall (P : Program) (f : FuncId) (args : List AV) (h : Hp) (K : AV → Hp → Prop) (_ : Held K := .mk) : Prop := ACalls P f args h K
theorem Fresh.intro {h : Hp} {f : Nat → Prop} {u : Held f} (k : ∀ id, h id = .dead → f id) : Fresh h f u := k


/-- A loop, as it is met. -/
def ALoop (P : Program) (b : ACode) (Q : AExit → Tm → Hp → Prop) (tm : Tm) (h : Hp) (_ : Held b := .mk) (_ : Held Q := .mk) (_ : Held tm := .mk) : Prop := AW P (.loop b) Q tm h


/-- One value, then the rest. -/
def Then (r : Option AV) (K : AV → Prop) (_ : Held K := .mk) : Prop := match r with | some v => K v | none => False
@[simp] theorem Then_some (v : AV) (K : AV → Prop) : Then (some v) K = K v := (rfl)

def ThenB (b : AV) (x y : Prop) (_ : Held x := .mk) (_ : Held y := .mk) : Prop := match b with | .bool b => if b then x else y | _ => False
@[simp] theorem ThenB_true (x y : Prop) : ThenB (.bool true) x y = x := (rfl)
@[simp] theorem ThenB_false (x y : Prop) : ThenB (.bool false) x y = y := (rfl)
theorem ThenB_split {b : Bool} {x y : Prop} {u : Held x} {v : Held y} (h1 : b = true → x) (h2 : b = false → y) : ThenB (.bool b) x y u v := by cases b <;> simp_all [ThenB]

/-- A guard. -/
def ThenG (b : AV) (w : Bool) (x y : Prop) (_ : Held x := .mk) (_ : Held y := .mk) : Prop := match gval b with | some b => if b = some w then x else y | none => False
@[simp] theorem ThenG_tt (x y : Prop) : ThenG (.bool true) true x y = x := by simp [ThenG, gval]
@[simp] theorem ThenG_ff (x y : Prop) : ThenG (.bool false) false x y = x := by simp [ThenG, gval]
@[simp] theorem ThenG_tf (x y : Prop) : ThenG (.bool true) false x y = y := by simp [ThenG, gval]
@[simp] theorem ThenG_ft (x y : Prop) : ThenG (.bool false) true x y = y := by simp [ThenG, gval]
@[simp] theorem ThenG_undef (l : List AV) (w : Bool) (x y : Prop) : ThenG (.tup l) w x y = y := by simp [ThenG, gval]

/-! ### Code -/
section
variable {P : Program} {Q : AExit → Tm → Hp → Prop} {tm : Tm} {h : Hp}
@[simp ↓] theorem AW_skip : AW P .skip Q tm h = Q .normal tm h := (rfl)
@[simp ↓] theorem AW_region (l : List AIns) : AW P (.region l) Q tm h = AOps P l (fun tm h => Q .normal tm h) tm h := (rfl)
@[simp ↓] theorem AW_draw (l : List DStep) : AW P (.draw l) Q tm h = DOps P l (fun tm h => Q .normal tm h) tm h := (rfl)
@[simp ↓] theorem AW_seq (x y : ACode) : AW P (.seq x y) Q tm h = AW P x (fun e tm h => match e with
    | .normal => AW P y Q tm h
    | e => Q e tm h) tm h := (rfl)
@[simp ↓] theorem AW_cond (c : AX) (x y : ACode) : AW P (.cond c x y) Q tm h = ThenB (c.ev tm) (AW P x Q tm h) (AW P y Q tm h) := by
  simp only [AW]
  generalize c.ev tm = v
  cases v <;> rfl
@[simp ↓] theorem AW_block (id : Nat) (b : ACode) : AW P (.block id b) Q tm h = AW P b (fun e tm h => match e with
    | .exit i => if i = id then Q .normal tm h else Q (.exit i) tm h
    | e => Q e tm h) tm h := (rfl)
@[simp ↓] theorem AW_loop (b : ACode) : AW P (.loop b) Q tm h = ALoop P b Q tm h := (rfl)
@[simp ↓] theorem AW_exit (id : Nat) : AW P (.exit id) Q tm h = Q (.exit id) tm h := (rfl)
@[simp ↓] theorem AW_ret : AW P .ret Q tm h = Q .ret tm h := (rfl)

theorem ALoop.intro {b : ACode} (I : Nat → Tm → Hp → Prop) (n : Nat) {tm' : Tm} {h' : Hp} (hg : Gho tm h tm' h') (h0 : I n tm' h') (hr : ∀ n tm h, I n tm h → AW P b (fun e tm' h' => match e with
    | .normal => Again I n tm' h'
    | e => Q e tm' h') tm h) {u1 : Held b} {u2 : Held Q} {u3 : Held tm} : ALoop P b Q tm h u1 u2 u3 := ⟨I, n, ⟨tm', h', hg, h0⟩, hr⟩

variable {K : Tm → Hp → Prop}
@[simp ↓] theorem AOps_nil : AOps P [] K tm h = K tm h := (rfl)
@[simp ↓] theorem AOps_cons (d : Option Nat) (op : AOp) (l : List AIns) : AOps P (⟨d, op, none⟩ :: l) K tm h = AStep P op (fun v h' => AOps P l K (updO tm d v) h') tm h := (rfl)
@[simp ↓] theorem AOps_guard (d : Option Nat) (op : AOp) (g : Nat) (w : Bool) (l : List AIns) : AOps P (⟨d, op, some (g, w)⟩ :: l) K tm h = ThenG (tm g) w (AStep P op (fun v h' => AOps P l K (updO tm d v) h') tm h) (AOps P l K (updO tm d .undef) h) := by
  simp only [AOps, ThenG]
  cases gval (tm g) <;> rfl

@[simp ↓] theorem DOps_nil : DOps P [] K tm h = K tm h := (rfl)
@[simp ↓] theorem DOps_eff (d : Option Nat) (op : AOp) (chk : List AIns) (l : List DStep) : DOps P (⟨⟨d, op, none⟩, true, chk⟩ :: l) K tm h = AStep P op (fun v h' => Stable P chk (updO tm d v) h' ∧ DOps P l K (updO tm d v) h') tm h := by
  simp [DOps, AIns.wants]
@[simp ↓] theorem DOps_plain (d : Option Nat) (op : AOp) (chk : List AIns) (l : List DStep) : DOps P (⟨⟨d, op, none⟩, false, chk⟩ :: l) K tm h = QRun P op (fun v => DOps P l K (updO tm d v) h) tm h := by
  simp [DOps, AIns.wants]
@[simp ↓] theorem DOps_guard_eff (d : Option Nat) (op : AOp) (g : Nat) (w : Bool) (chk : List AIns) (l : List DStep) : DOps P (⟨⟨d, op, some (g, w)⟩, true, chk⟩ :: l) K tm h = ThenG (tm g) w (AStep P op (fun v h' => Stable P chk (updO tm d v) h' ∧ DOps P l K (updO tm d v) h') tm h) (DOps P l K (updO tm d .undef) h) := by
  simp only [DOps, AIns.wants, ThenG]
  cases gval (tm g) with
  | none => rfl
  | some b => by_cases hb : b = some w
              · simp [hb]
              · simp [hb, show (b == some w) = false from by simpa using hb]
@[simp ↓] theorem DOps_guard_plain (d : Option Nat) (op : AOp) (g : Nat) (w : Bool) (chk : List AIns) (l : List DStep) : DOps P (⟨⟨d, op, some (g, w)⟩, false, chk⟩ :: l) K tm h = ThenG (tm g) w (QRun P op (fun v => DOps P l K (updO tm d v) h) tm h) (DOps P l K (updO tm d .undef) h) := by
  simp only [DOps, AIns.wants, ThenG]
  cases gval (tm g) with
  | none => rfl
  | some b => by_cases hb : b = some w
              · simp [hb]
              · simp [hb, show (b == some w) = false from by simpa using hb]
end

/-! ### Operations -/
section
variable {P : Program} {K : AV → Hp → Prop} {K' : AV → Prop} {tm : Tm} {h : Hp}
@[simp ↓] theorem AStep_mov (x : AX) : AStep P (.mov x) K tm h = Then (apure (.mov x) tm h) (fun v => K v h) := (rfl)
@[simp ↓] theorem QRun_mov (x : AX) : QRun P (.mov x) K' tm h = Then (apure (.mov x) tm h) K' := (rfl)
@[simp ↓] theorem AStep_pick (c x y : AX) : AStep P (.pick c x y) K tm h = Then (apure (.pick c x y) tm h) (fun v => K v h) := (rfl)
@[simp ↓] theorem QRun_pick (c x y : AX) : QRun P (.pick c x y) K' tm h = Then (apure (.pick c x y) tm h) K' := (rfl)
@[simp ↓] theorem AStep_build (z : List AV) (ps : List (Nat × Nat × AX)) : AStep P (.build z ps) K tm h = Then (apure (.build z ps) tm h) (fun v => K v h) := (rfl)
@[simp ↓] theorem QRun_build (z : List AV) (ps : List (Nat × Nat × AX)) : QRun P (.build z ps) K' tm h = Then (apure (.build z ps) tm h) K' := (rfl)
@[simp ↓] theorem AStep_ldc (x : AX) : AStep P (.ldc x) K tm h = Then (apure (.ldc x) tm h) (fun v => K v h) := (rfl)
@[simp ↓] theorem QRun_ldc (x : AX) : QRun P (.ldc x) K' tm h = Then (apure (.ldc x) tm h) K' := (rfl)
@[simp ↓] theorem AStep_lda (n : Nat) (x : AX) : AStep P (.lda n x) K tm h = Then (apure (.lda n x) tm h) (fun v => K v h) := (rfl)
@[simp ↓] theorem QRun_lda (n : Nat) (x : AX) : QRun P (.lda n x) K' tm h = Then (apure (.lda n x) tm h) K' := (rfl)
@[simp ↓] theorem AStep_fa (n : Nat) (x : AX) : AStep P (.fa n x) K tm h = Then (apure (.fa n x) tm h) (fun v => K v h) := (rfl)
@[simp ↓] theorem QRun_fa (n : Nat) (x : AX) : QRun P (.fa n x) K' tm h = Then (apure (.fa n x) tm h) K' := (rfl)
@[simp ↓] theorem AStep_nck (x : AX) : AStep P (.nck x) K tm h = Then (apure (.nck x) tm h) (fun v => K v h) := (rfl)
@[simp ↓] theorem QRun_nck (x : AX) : QRun P (.nck x) K' tm h = Then (apure (.nck x) tm h) K' := (rfl)
@[simp ↓] theorem AStep_bin (o : BinOp) (x y : AX) : AStep P (.bin o x y) K tm h = Then (apure (.bin o x y) tm h) (fun v => K v h) := (rfl)
@[simp ↓] theorem QRun_bin (o : BinOp) (x y : AX) : QRun P (.bin o x y) K' tm h = Then (apure (.bin o x y) tm h) K' := (rfl)
@[simp ↓] theorem AStep_beq (n : Bool) (x y : AX) : AStep P (.beq n x y) K tm h = Then (apure (.beq n x y) tm h) (fun v => K v h) := (rfl)
@[simp ↓] theorem QRun_beq (n : Bool) (x y : AX) : QRun P (.beq n x y) K' tm h = Then (apure (.beq n x y) tm h) K' := (rfl)
@[simp ↓] theorem AStep_peq (n : Bool) (x y : AX) : AStep P (.peq n x y) K tm h = Then (apure (.peq n x y) tm h) (fun v => K v h) := (rfl)
@[simp ↓] theorem QRun_peq (n : Bool) (x y : AX) : QRun P (.peq n x y) K' tm h = Then (apure (.peq n x y) tm h) K' := (rfl)
@[simp ↓] theorem AStep_eqa (n : Bool) (ds : List EqK) (x y : AX) : AStep P (.eqa n ds x y) K tm h = Then (apure (.eqa n ds x y) tm h) (fun v => K v h) := (rfl)
@[simp ↓] theorem QRun_eqa (n : Bool) (ds : List EqK) (x y : AX) : QRun P (.eqa n ds x y) K' tm h = Then (apure (.eqa n ds x y) tm h) K' := (rfl)
@[simp ↓] theorem AStep_un (o : UnOp) (x : AX) : AStep P (.un o x) K tm h = Then (apure (.un o x) tm h) (fun v => K v h) := (rfl)
@[simp ↓] theorem QRun_un (o : UnOp) (x : AX) : QRun P (.un o x) K' tm h = Then (apure (.un o x) tm h) K' := (rfl)
@[simp ↓] theorem AStep_cvi (k : IntKind) (x : AX) : AStep P (.cvi k x) K tm h = Then (apure (.cvi k x) tm h) (fun v => K v h) := (rfl)
@[simp ↓] theorem QRun_cvi (k : IntKind) (x : AX) : QRun P (.cvi k x) K' tm h = Then (apure (.cvi k x) tm h) K' := (rfl)
@[simp ↓] theorem AStep_cvf (x : AX) : AStep P (.cvf x) K tm h = Then (apure (.cvf x) tm h) (fun v => K v h) := (rfl)
@[simp ↓] theorem QRun_cvf (x : AX) : QRun P (.cvf x) K' tm h = Then (apure (.cvf x) tm h) K' := (rfl)
@[simp ↓] theorem AStep_b2s (x : AX) : AStep P (.b2s x) K tm h = Then (apure (.b2s x) tm h) (fun v => K v h) := (rfl)
@[simp ↓] theorem QRun_b2s (x : AX) : QRun P (.b2s x) K' tm h = Then (apure (.b2s x) tm h) K' := (rfl)
@[simp ↓] theorem AStep_cut (n : Nat) (x : AX) (l u : Option AX) : AStep P (.cut n x l u) K tm h = Then (apure (.cut n x l u) tm h) (fun v => K v h) := (rfl)
@[simp ↓] theorem QRun_cut (n : Nat) (x : AX) (l u : Option AX) : QRun P (.cut n x l u) K' tm h = Then (apure (.cut n x l u) tm h) K' := (rfl)
@[simp ↓] theorem AStep_cuts (x : AX) (l u : Option AX) : AStep P (.cuts x l u) K tm h = Then (apure (.cuts x l u) tm h) (fun v => K v h) := (rfl)
@[simp ↓] theorem QRun_cuts (x : AX) (l u : Option AX) : QRun P (.cuts x l u) K' tm h = Then (apure (.cuts x l u) tm h) K' := (rfl)
@[simp ↓] theorem AStep_ia (n : Nat) (x i : AX) : AStep P (.ia n x i) K tm h = Then (apure (.ia n x i) tm h) (fun v => K v h) := (rfl)
@[simp ↓] theorem QRun_ia (n : Nat) (x i : AX) : QRun P (.ia n x i) K' tm h = Then (apure (.ia n x i) tm h) K' := (rfl)
@[simp ↓] theorem AStep_ixs (x i : AX) : AStep P (.ixs x i) K tm h = Then (apure (.ixs x i) tm h) (fun v => K v h) := (rfl)
@[simp ↓] theorem QRun_ixs (x i : AX) : QRun P (.ixs x i) K' tm h = Then (apure (.ixs x i) tm h) K' := (rfl)
@[simp ↓] theorem AStep_fld (o : Nat) (n : Option Nat) (x : AX) : AStep P (.fld o n x) K tm h = Then (apure (.fld o n x) tm h) (fun v => K v h) := (rfl)
@[simp ↓] theorem QRun_fld (o : Nat) (n : Option Nat) (x : AX) : QRun P (.fld o n x) K' tm h = Then (apure (.fld o n x) tm h) K' := (rfl)
@[simp ↓] theorem AStep_ext (x : AX) (i : Nat) : AStep P (.ext x i) K tm h = Then (apure (.ext x i) tm h) (fun v => K v h) := (rfl)
@[simp ↓] theorem QRun_ext (x : AX) (i : Nat) : QRun P (.ext x i) K' tm h = Then (apure (.ext x i) tm h) K' := (rfl)
@[simp ↓] theorem AStep_len (k : LenK) (x : AX) : AStep P (.len k x) K tm h = Then (apure (.len k x) tm h) (fun v => K v h) := (rfl)
@[simp ↓] theorem QRun_len (k : LenK) (x : AX) : QRun P (.len k x) K' tm h = Then (apure (.len k x) tm h) K' := (rfl)
@[simp ↓] theorem AStep_mkfn (f : FuncId) (xs : List AX) : AStep P (.mkfn f xs) K tm h = Then (apure (.mkfn f xs) tm h) (fun v => K v h) := (rfl)
@[simp ↓] theorem QRun_mkfn (f : FuncId) (xs : List AX) : QRun P (.mkfn f xs) K' tm h = Then (apure (.mkfn f xs) tm h) K' := (rfl)
@[simp ↓] theorem AStep_look (ki : Bool) (z : AV) (ok : Bool) (m k : AX) : AStep P (.look ki z ok m k) K tm h = Then (apure (.look ki z ok m k) tm h) (fun v => K v h) := (rfl)
@[simp ↓] theorem QRun_look (ki : Bool) (z : AV) (ok : Bool) (m k : AX) : QRun P (.look ki z ok m k) K' tm h = Then (apure (.look ki z ok m k) tm h) K' := (rfl)
@[simp ↓] theorem AStep_cx (x y : AX) : AStep P (.cx x y) K tm h = Then (apure (.cx x y) tm h) (fun v => K v h) := (rfl)
@[simp ↓] theorem QRun_cx (x y : AX) : QRun P (.cx x y) K' tm h = Then (apure (.cx x y) tm h) K' := (rfl)
@[simp ↓] theorem AStep_re (x : AX) : AStep P (.re x) K tm h = Then (apure (.re x) tm h) (fun v => K v h) := (rfl)
@[simp ↓] theorem QRun_re (x : AX) : QRun P (.re x) K' tm h = Then (apure (.re x) tm h) K' := (rfl)
@[simp ↓] theorem AStep_im (x : AX) : AStep P (.im x) K tm h = Then (apure (.im x) tm h) (fun v => K v h) := (rfl)
@[simp ↓] theorem QRun_im (x : AX) : QRun P (.im x) K' tm h = Then (apure (.im x) tm h) K' := (rfl)
@[simp ↓] theorem AStep_mn (x y : AX) : AStep P (.mn x y) K tm h = Then (apure (.mn x y) tm h) (fun v => K v h) := (rfl)
@[simp ↓] theorem QRun_mn (x y : AX) : QRun P (.mn x y) K' tm h = Then (apure (.mn x y) tm h) K' := (rfl)
@[simp ↓] theorem AStep_mx (x y : AX) : AStep P (.mx x y) K tm h = Then (apure (.mx x y) tm h) (fun v => K v h) := (rfl)
@[simp ↓] theorem QRun_mx (x y : AX) : QRun P (.mx x y) K' tm h = Then (apure (.mx x y) tm h) K' := (rfl)
@[simp ↓] theorem AStep_cfi (k : IntKind) (x : AX) : AStep P (.cfi k x) K tm h = Then (apure (.cfi k x) tm h) (fun v => K v h) := (rfl)
@[simp ↓] theorem QRun_cfi (k : IntKind) (x : AX) : QRun P (.cfi k x) K' tm h = Then (apure (.cfi k x) tm h) K' := (rfl)
@[simp ↓] theorem AStep_fext (k : FX) (x : AX) : AStep P (.fext k x) K tm h = Then (apure (.fext k x) tm h) (fun v => K v h) := (rfl)
@[simp ↓] theorem QRun_fext (k : FX) (x : AX) : QRun P (.fext k x) K' tm h = Then (apure (.fext k x) tm h) K' := (rfl)
@[simp ↓] theorem AStep_alloc (z : List AV) : AStep P (.alloc z) K tm h = Fresh h fun id => K (.ptr id 0) (hset h id (.cells z)) := (rfl)
@[simp ↓] theorem AStep_mkm : AStep P .mkm K tm h = Fresh h fun id => K (.mp id) (hset h id (.map [])) := (rfl)
@[simp ↓] theorem AStep_call (f : FuncId) (xs : List AX) : AStep P (.call f xs) K tm h = ACall P f (xs.map (·.ev tm)) h K := (rfl)

def ThenV (v : AV) (K : AV → Prop) (_ : Held K := .mk) : Prop := K v
@[simp] theorem ThenV_do (v : AV) (K : AV → Prop) : ThenV v K = K v := (rfl)
def ThenH (o : Option Hp) (K : Hp → Prop) (_ : Held K := .mk) : Prop := match o with | some h => K h | none => False
@[simp] theorem ThenH_some (h : Hp) (K : Hp → Prop) : ThenH (some h) K = K h := (rfl)
def ThenR (o : Option (List (List AV))) (K : List (List AV) → Prop) (_ : Held K := .mk) : Prop := match o with | some r => K r | none => False
@[simp] theorem ThenR_some (r : List (List AV)) (K : List (List AV) → Prop) : ThenR (some r) K = K r := (rfl)

def flatOf (v : AV) : Option AV := if v.flat then some v else none

@[simp] theorem flat_int (k : IntKind) (n : Int) : (AV.int k n).flat = true := (rfl)
@[simp] theorem flat_bool (b : Bool) : (AV.bool b).flat = true := (rfl)
@[simp] theorem flat_str (b : List UInt8) : (AV.str b).flat = true := (rfl)
@[simp] theorem flat_agg (b : List AV) : (AV.agg b).flat = true := (rfl)
@[simp] theorem flat_nl : (AV.nl).flat = true := (rfl)
@[simp] theorem flat_fz (b : List (List AV)) : (AV.fz b).flat = true := (rfl)
@[simp] theorem flat_sl (a b c : Nat) : (AV.sl a b c).flat = true := (rfl)
@[simp] theorem flat_ptr (a b : Nat) : (AV.ptr a b).flat = true := (rfl)
@[simp] theorem flat_pe (a b c : Nat) : (AV.pe a b c).flat = true := (rfl)
@[simp] theorem flat_fp (c : List AV) : (AV.fp c).flat = true := (rfl)
@[simp] theorem flat_mp (a : Nat) : (AV.mp a).flat = true := (rfl)
@[simp] theorem flat_fn (a : FuncId) (c : List AV) : (AV.fn a c).flat = true := (rfl)
@[simp] theorem flat_cplx (a b : Nat) : (AV.cplx a b).flat = true := (rfl)
@[simp] theorem flat_flt (a : Nat) : (AV.flt a).flat = true := (rfl)
@[simp] theorem flat_nilp : (AV.nilp).flat = true := (rfl)
@[simp] theorem flat_nilm : (AV.nilm).flat = true := (rfl)
@[simp] theorem flat_nilf : (AV.nilf).flat = true := (rfl)
@[simp] theorem flat_nili : (AV.nili).flat = true := (rfl)
@[simp] theorem cells_agg (cs : List AV) : (AV.agg cs).cells = cs := (rfl)
@[simp] theorem cells_int (k : IntKind) (n : Int) : (AV.int k n).cells = [.int k n] := (rfl)
@[simp] theorem cells_bool (b : Bool) : (AV.bool b).cells = [.bool b] := (rfl)
@[simp] theorem cells_str (b : List UInt8) : (AV.str b).cells = [.str b] := (rfl)
@[simp] theorem cells_nl : (AV.nl).cells = [.nl] := (rfl)
@[simp] theorem cells_fz (b : List (List AV)) : (AV.fz b).cells = [.fz b] := (rfl)
@[simp] theorem cells_sl (a b c : Nat) : (AV.sl a b c).cells = [.sl a b c] := (rfl)
@[simp] theorem cells_ptr (a b : Nat) : (AV.ptr a b).cells = [.ptr a b] := (rfl)
@[simp] theorem cells_pe (a b c : Nat) : (AV.pe a b c).cells = [.pe a b c] := (rfl)
@[simp] theorem cells_fp (c : List AV) : (AV.fp c).cells = [.fp c] := (rfl)
@[simp] theorem cells_mp (a : Nat) : (AV.mp a).cells = [.mp a] := (rfl)
@[simp] theorem cells_fn (a : FuncId) (c : List AV) : (AV.fn a c).cells = [.fn a c] := (rfl)
@[simp] theorem cells_cplx (a b : Nat) : (AV.cplx a b).cells = [.cplx a b] := (rfl)
@[simp] theorem cells_flt (a : Nat) : (AV.flt a).cells = [.flt a] := (rfl)
@[simp] theorem cells_nilp : (AV.nilp).cells = [.nilp] := (rfl)
@[simp] theorem cells_nilm : (AV.nilm).cells = [.nilm] := (rfl)
@[simp] theorem cells_nilf : (AV.nilf).cells = [.nilf] := (rfl)
@[simp] theorem cells_nili : (AV.nili).cells = [.nili] := (rfl)

@[simp ↓] theorem AStep_box (x : AX) : AStep P (.box x) K tm h = Then (flatOf (x.ev tm)) (fun v => Fresh h fun id => K (.ptr id 0) (hset h id (.cells v.cells))) := by
  simp only [AStep, flatOf, Fresh]
  cases hf : (x.ev tm).flat <;> simp [Then]
@[simp] theorem flatOf_if (v : AV) : flatOf v = if v.flat = true then some v else none := (rfl)

def stOf (n : Nat) (x v : AV) (h : Hp) : Option Hp :=
  if v.flat = true ∧ v.cells.length = n then
    match x with
    | .ptr id off => match h id with
      | .cells cs => if off + n ≤ cs.length then some (hset h id (.cells (splice cs off v.cells))) else none
      | _ => none
    | .pe id i off => match h id with
      | .arr e sz xs => match xs[i]? with
        | some row => if off + n ≤ row.length then some (hset h id (.arr e sz (xs.set i (splice row off v.cells)))) else none
        | none => none
      | _ => none
    | _ => none
  else none
@[simp ↓] theorem AStep_st (n : Nat) (x v : AX) : AStep P (.st n x v) K tm h = ThenH (stOf n (x.ev tm) (v.ev tm) h) (fun h' => K .undef h') := by
  simp only [AStep, stOf]
  by_cases hc : (v.ev tm).flat = true ∧ (v.ev tm).cells.length = n
  · rw [if_pos hc]
    obtain ⟨h1, h2⟩ := hc
    generalize x.ev tm = u
    cases u with
    | ptr id off => simp only [h1, h2, true_and]; cases h id with
      | cells cs => simp only; by_cases hl : off + n ≤ cs.length <;> simp [hl, ThenH]
      | _ => rfl
    | pe id i off => simp only [h1, h2, true_and]; cases h id with
      | arr e sz xs => simp only; cases xs[i]? with
        | none => rfl
        | some row => simp only; by_cases hl : off + n ≤ row.length <;> simp [hl, ThenH]
      | _ => rfl
    | _ => simp [h1, h2, ThenH]
  · rw [if_neg hc]
    simp only [ThenH, eq_iff_iff, iff_false]
    rintro ⟨h1, h2, _⟩
    exact hc ⟨h1, h2⟩
def rowsOf (sz : Nat) : List AV → Option (List (List AV))
  | [] => some []
  | v :: l => if v.flat = true ∧ v.cells.length = sz then (rowsOf sz l).map (v.cells :: ·) else none
@[simp] theorem rowsOf_nil (sz : Nat) : rowsOf sz [] = some [] := (rfl)
@[simp] theorem rowsOf_cons (sz : Nat) (v : AV) (l : List AV) : rowsOf sz (v :: l) = if v.flat = true ∧ v.cells.length = sz then (rowsOf sz l).map (v.cells :: ·) else none := (rfl)
theorem rowsOf_iff (sz : Nat) : ∀ (l : List AV), rowsOf sz l = if ∀ v ∈ l, v.flat = true ∧ v.cells.length = sz then some (l.map AV.cells) else none := by
  intro l
  induction l with
  | nil => simp [rowsOf]
  | cons v l ih =>
    simp only [rowsOf, ih, List.forall_mem_cons]
    by_cases h1 : v.flat = true ∧ v.cells.length = sz <;> by_cases h2 : ∀ v ∈ l, v.flat = true ∧ v.cells.length = sz <;> simp only [h1, h2, if_true, if_false, and_self, and_true, true_and, and_false, false_and, Option.map_some, Option.map_none, List.map_cons] <;> simp_all
@[simp ↓] theorem AStep_bsl (e sz : Nat) (xs : List AX) : AStep P (.bsl e sz xs) K tm h = ThenR (rowsOf sz (xs.map (·.ev tm))) (fun rows => Fresh h fun id => K (.sl id 0 xs.length) (hset h id (.arr e sz rows))) := by
  simp only [AStep, rowsOf_iff, Fresh]
  by_cases hc : ∀ x ∈ xs, (x.ev tm).flat = true ∧ (x.ev tm).cells.length = sz
  · rw [if_pos (by simpa using hc)]
    simp only [ThenR, List.map_map, eq_iff_iff]
    exact ⟨fun x => x.2, fun x => ⟨hc, x⟩⟩
  · rw [if_neg (by simpa using hc)]
    simp [ThenR, hc]

/-- What an append does. -/
def AApp (e sz by_ : Nat) (s : AV) (ys : List (List AV)) (K : AV → Hp → Prop) (h : Hp) (_ : Held K := .mk) : Prop :=
  match s with
  | .nl => (match ys with
    | [] => K .nl h
    | _ :: _ => ys.length ≤ 4611686018427387904 ∧ ys.length * by_ ≤ 140737488355328 ∧ Fresh h fun id => K (.sl id 0 ys.length) (hset h id (.arr e sz ys)))
  | .sl id off len => off = 0 ∧ (match h id with
    | .arr e' sz' xs => e' = e ∧ sz' = sz ∧ len ≤ xs.length ∧ len + ys.length ≤ 4611686018427387904 ∧ (len + ys.length) * by_ ≤ 140737488355328 ∧
      Fresh h fun id' => K (.sl id' 0 (len + ys.length)) (hset (hset h id .dead) id' (.arr e sz (xs.take len ++ ys)))
    | _ => False)
  | _ => False
@[simp ↓] theorem AStep_app (e sz b : Nat) (s x : AX) : AStep P (.app e sz b s x) K tm h = ThenR (elemsOf h sz (x.ev tm)) (fun ys => AApp e sz b (s.ev tm) ys K h) := by
  simp only [AStep]
  cases elemsOf h sz (x.ev tm) with
  | none => rfl
  | some ys =>
    simp only [ThenR]
    cases s.ev tm <;> first | rfl | (cases ys <;> rfl)
@[simp] theorem AApp_nl (e sz b : Nat) (y : List AV) (ys : List (List AV)) : AApp e sz b .nl (y :: ys) K h = (ys.length + 1 ≤ 4611686018427387904 ∧ (ys.length + 1) * b ≤ 140737488355328 ∧ Fresh h fun id => K (.sl id 0 (ys.length + 1)) (hset h id (.arr e sz (y :: ys)))) := (rfl)
@[simp] theorem AApp_nil (e sz b : Nat) : AApp e sz b .nl [] K h = K .nl h := (rfl)
@[simp ↓] theorem AStep_callv (x : AX) (xs : List AX) : AStep P (.callv x xs) K tm h = ThenV (x.ev tm) (fun v => match v with | .fn f caps => ACall P f (xs.map (·.ev tm) ++ caps) h K | _ => False) := (rfl)
@[simp ↓] theorem AStep_s2b (x : AX) : AStep P (.s2b x) K tm h = ThenV (x.ev tm) (fun v => match v with | .str s => K (.fz (s.map fun b => [.int .u8 (b.toNat : Int)])) h | _ => False) := (rfl)
/-- A call that leaves all as it is. -/
def QCall (P : Program) (f : FuncId) (args : List AV) (h : Hp) (K' : AV → Prop) (_ : Held K' := .mk) : Prop := ∃ v, ACalls P f args h (fun r h' => r = v ∧ h' = h) ∧ K' v
theorem QCall.intro {f : FuncId} {args : List AV} {u : Held K'} (v : AV) (hc : ACalls P f args h (fun r h' => r = v ∧ h' = h)) (hk : K' v) : QCall P f args h K' u := ⟨v, hc, hk⟩
@[simp ↓] theorem QRun_call (f : FuncId) (xs : List AX) : QRun P (.call f xs) K' tm h = QCall P f (xs.map (·.ev tm)) h K' := (rfl)

def mupOf (ki : Bool) (m k v : AV) (h : Hp) : Option Hp :=
  match m with
  | .mp id => match h id with
    | .map es => (putK ki k v es).map fun es' => hset h id (.map es')
    | _ => none
  | _ => none
@[simp ↓] theorem AStep_mup (ki : Bool) (m k v : AX) : AStep P (.mup ki m k v) K tm h = ThenH (mupOf ki (m.ev tm) (k.ev tm) (v.ev tm) h) (fun h' => K .undef h') := by
  simp only [AStep, mupOf]
  cases m.ev tm with
  | mp id => simp only; cases h id with
    | map es => simp only; cases putK ki (k.ev tm) (v.ev tm) es <;> rfl
    | _ => rfl
  | _ => rfl

/-! ### Values -/
@[simp] theorem ev_t (n : Nat) : AX.ev tm (.t n) = tm n := (rfl)
@[simp] theorem ev_c (v : AV) : AX.ev tm (.c v) = v := (rfl)
@[simp] theorem updO_some (t : Nat) (v : AV) : updO tm (some t) v = upd tm t v := (rfl)
@[simp] theorem updO_none (v : AV) : updO tm none v = tm := (rfl)
@[simp] theorem upd_at (t s : Nat) (v : AV) : upd tm t v s = if s = t then v else tm s := (rfl)
@[simp] theorem hset_at (id j : Nat) (o : AObj) : hset h id o j = if j = id then o else h j := (rfl)
@[simp] theorem initTm_at (args : List AV) (t : Nat) : initTm args t = args.getD t .undef := (rfl)

@[simp] theorem apure_mov (x : AX) : apure (.mov x) tm h = some (x.ev tm) := (rfl)
def aPick (c x y : AV) : Option AV := match c with | .bool t => some (if t then x else y) | _ => none
@[simp] theorem apure_pick (c x y : AX) : apure (.pick c x y) tm h = aPick (c.ev tm) (x.ev tm) (y.ev tm) := (rfl)
@[simp] theorem aPick_true (x y : AV) : aPick (.bool true) x y = some x := (rfl)
@[simp] theorem aPick_false (x y : AV) : aPick (.bool false) x y = some y := (rfl)

def aBuild (tm : Tm) : List (Nat × Nat × AX) → List AV → Option (List AV)
  | [], cs => some cs
  | p :: ps, cs => if (p.2.2.ev tm).cells.length = p.2.1 ∧ (p.2.2.ev tm).flat = true then (if p.1 + p.2.1 ≤ cs.length then aBuild tm ps (splice cs p.1 (p.2.2.ev tm).cells) else none) else none
theorem aBuild_fold (tm : Tm) : ∀ (ps : List (Nat × Nat × AX)) (cs : List AV), ps.foldl (buildStep tm) (some cs) = aBuild tm ps cs := by
  intro ps
  induction ps with
  | nil => intro cs; rfl
  | cons p ps ih =>
    intro cs
    rw [List.foldl_cons]
    simp only [aBuild]
    by_cases h1 : (p.2.2.ev tm).cells.length = p.2.1 ∧ (p.2.2.ev tm).flat = true
    · rw [if_pos h1]
      by_cases h2 : p.1 + p.2.1 ≤ cs.length
      · rw [if_pos h2, ← ih]
        simp [buildStep, h1, h2]
      · rw [if_neg h2]
        have : buildStep tm (some cs) p = none := by simp [buildStep, h2]
        rw [this, buildStep_none]
    · rw [if_neg h1]
      have : buildStep tm (some cs) p = none := by simp only [buildStep, Option.bind_some]; rw [if_neg h1]
      rw [this, buildStep_none]
@[simp] theorem apure_build (z : List AV) (ps : List (Nat × Nat × AX)) : apure (.build z ps) tm h = (aBuild tm ps z).map .agg := by
  rw [← aBuild_fold]; rfl
@[simp] theorem aBuild_nil (cs : List AV) : aBuild tm [] cs = some cs := (rfl)
@[simp] theorem aBuild_cons (p : Nat × Nat × AX) (ps : List (Nat × Nat × AX)) (cs : List AV) : aBuild tm (p :: ps) cs = if (p.2.2.ev tm).cells.length = p.2.1 ∧ (p.2.2.ev tm).flat = true then (if p.1 + p.2.1 ≤ cs.length then aBuild tm ps (splice cs p.1 (p.2.2.ev tm).cells) else none) else none := (rfl)
@[simp] theorem splice_eq (cs l : List AV) (off : Nat) : splice cs off l = cs.take off ++ l ++ cs.drop (off + l.length) := (rfl)

def cellsOf : AObj → Option (List AV) | .cells cs => some cs | _ => none
@[simp] theorem cellsOf_cells (cs : List AV) : cellsOf (.cells cs) = some cs := (rfl)
def rowOf (i : Nat) : AObj → Option (List AV) | .arr _ _ xs => xs[i]? | _ => none
@[simp] theorem rowOf_arr (i e sz : Nat) (xs : List (List AV)) : rowOf i (.arr e sz xs) = xs[i]? := (rfl)

def aLdc (x : AV) (h : Hp) : Option AV := match x with
  | .ptr id off => (cellsOf (h id)).bind (·[off]?)
  | .pe id i off => (rowOf i (h id)).bind (·[off]?)
  | .fp cs => cs[0]?
  | _ => none
@[simp] theorem apure_ldc (x : AX) : apure (.ldc x) tm h = aLdc (x.ev tm) h := by
  simp only [apure, aLdc]
  cases x.ev tm with
  | ptr id off => simp only; cases h id <;> rfl
  | pe id i off => simp only; cases h id <;> rfl
  | _ => rfl
@[simp] theorem aLdc_ptr (id off : Nat) : aLdc (.ptr id off) h = (cellsOf (h id)).bind (·[off]?) := (rfl)
@[simp] theorem aLdc_pe (id i off : Nat) : aLdc (.pe id i off) h = (rowOf i (h id)).bind (·[off]?) := (rfl)
@[simp] theorem aLdc_fp (cs : List AV) : aLdc (.fp cs) h = cs[0]? := (rfl)

def rowSz (i : Nat) : AObj → Option (Nat × List AV) | .arr _ sz xs => (xs[i]?).map fun x => (sz, x) | _ => none
@[simp] theorem rowSz_arr (i e sz : Nat) (xs : List (List AV)) : rowSz i (.arr e sz xs) = (xs[i]?).map fun x => (sz, x) := (rfl)
def aLda (n : Nat) (x : AV) (h : Hp) : Option AV := match x with
  | .ptr id off => (cellsOf (h id)).bind fun cs => if off + n ≤ cs.length then some (.agg ((cs.drop off).take n)) else none
  | .pe id i off => (rowSz i (h id)).bind fun x => if off + n ≤ x.1 then some (.agg ((x.2.drop off).take n)) else none
  | .fp cs => if n ≤ cs.length then some (.agg (cs.take n)) else none
  | _ => none
@[simp] theorem apure_lda (n : Nat) (x : AX) : apure (.lda n x) tm h = aLda n (x.ev tm) h := by
  simp only [apure, aLda]
  cases x.ev tm with
  | ptr id off => simp only; cases h id <;> rfl
  | pe id i off => simp only; cases h id with
    | arr e sz xs => simp only [rowSz]; cases xs[i]? with
      | none => simp
      | some r => simp only [Option.map_some, Option.bind_some]
    | _ => rfl
  | _ => rfl
@[simp] theorem aLda_ptr (n id off : Nat) : aLda n (.ptr id off) h = (cellsOf (h id)).bind fun cs => if off + n ≤ cs.length then some (.agg ((cs.drop off).take n)) else none := (rfl)
@[simp] theorem aLda_pe (n id i off : Nat) : aLda n (.pe id i off) h = (rowSz i (h id)).bind fun x => if off + n ≤ x.1 then some (.agg ((x.2.drop off).take n)) else none := (rfl)
@[simp] theorem aLda_fp (n : Nat) (cs : List AV) : aLda n (.fp cs) h = if n ≤ cs.length then some (.agg (cs.take n)) else none := (rfl)

def aFa (off : Nat) (x : AV) : Option AV := match x with
  | .ptr id o => some (.ptr id (o + off))
  | .pe id i o => some (.pe id i (o + off))
  | .fp cs => if off ≤ cs.length then some (.fp (cs.drop off)) else none
  | _ => none
@[simp] theorem apure_fa (off : Nat) (x : AX) : apure (.fa off x) tm h = aFa off (x.ev tm) := (rfl)
@[simp] theorem aFa_ptr (off id o : Nat) : aFa off (.ptr id o) = some (.ptr id (o + off)) := (rfl)
@[simp] theorem aFa_pe (off id i o : Nat) : aFa off (.pe id i o) = some (.pe id i (o + off)) := (rfl)
@[simp] theorem aFa_fp (off : Nat) (cs : List AV) : aFa off (.fp cs) = if off ≤ cs.length then some (.fp (cs.drop off)) else none := (rfl)

def aNck (x : AV) : Option AV := match x with | .nilp | .nilf | .nili => none | v => some v
@[simp] theorem apure_nck (x : AX) : apure (.nck x) tm h = aNck (x.ev tm) := (rfl)
@[simp] theorem aNck_ptr (id o : Nat) : aNck (.ptr id o) = some (.ptr id o) := (rfl)
@[simp] theorem aNck_pe (id i o : Nat) : aNck (.pe id i o) = some (.pe id i o) := (rfl)
@[simp] theorem aNck_fp (cs : List AV) : aNck (.fp cs) = some (.fp cs) := (rfl)
@[simp] theorem aNck_fn (f : FuncId) (cs : List AV) : aNck (.fn f cs) = some (.fn f cs) := (rfl)

@[simp] theorem apure_bin (o : BinOp) (x y : AX) : apure (.bin o x y) tm h = abin o (x.ev tm) (y.ev tm) := (rfl)
@[simp] theorem abin_add (k : IntKind) (x y : Int) : abin .add (.int k x) (.int k y) = some (.int k (k.wrap (x + y))) := by simp [abin, binI]
@[simp] theorem abin_sub (k : IntKind) (x y : Int) : abin .sub (.int k x) (.int k y) = some (.int k (k.wrap (x - y))) := by simp [abin, binI]
@[simp] theorem abin_mul (k : IntKind) (x y : Int) : abin .mul (.int k x) (.int k y) = some (.int k (k.wrap (x * y))) := by simp [abin, binI]
@[simp] theorem abin_quo (k : IntKind) (x y : Int) : abin .quo (.int k x) (.int k y) = if y = 0 then none else some (.int k (k.wrap (x.tdiv y))) := by simp [abin, binI]
@[simp] theorem abin_rem (k : IntKind) (x y : Int) : abin .rem (.int k x) (.int k y) = if y = 0 then none else some (.int k (x.tmod y)) := by simp [abin, binI]
@[simp] theorem abin_eql (k : IntKind) (x y : Int) : abin .eql (.int k x) (.int k y) = some (.bool (decide (x = y))) := by simp [abin, binI]; exact Bool.beq_eq_decide_eq _ _
@[simp] theorem abin_neq (k : IntKind) (x y : Int) : abin .neq (.int k x) (.int k y) = some (.bool (!decide (x = y))) := by simp [abin, binI]; rw [bne, Bool.beq_eq_decide_eq]
@[simp] theorem abin_lss (k : IntKind) (x y : Int) : abin .lss (.int k x) (.int k y) = some (.bool (decide (x < y))) := by simp [abin, binI]
@[simp] theorem abin_leq (k : IntKind) (x y : Int) : abin .leq (.int k x) (.int k y) = some (.bool (decide (x ≤ y))) := by simp [abin, binI]
@[simp] theorem abin_gtr (k : IntKind) (x y : Int) : abin .gtr (.int k x) (.int k y) = some (.bool (decide (y < x))) := by simp [abin, binI]
@[simp] theorem abin_geq (k : IntKind) (x y : Int) : abin .geq (.int k x) (.int k y) = some (.bool (decide (y ≤ x))) := by simp [abin, binI]
@[simp] theorem abin_seql (x y : List UInt8) : abin .eql (.str x) (.str y) = some (.bool (decide (x = y))) := by rw [← Bool.beq_eq_decide_eq]; rfl
@[simp] theorem abin_sneq (x y : List UInt8) : abin .neq (.str x) (.str y) = some (.bool (!decide (x = y))) := by rw [← Bool.beq_eq_decide_eq]; rfl
@[simp] theorem abin_sgtr (x y : List UInt8) : abin .gtr (.str x) (.str y) = some (.bool (!(Op.bytesLess x y || x == y))) := (rfl)
@[simp] theorem abin_sadd (x y : List UInt8) : abin .add (.str x) (.str y) = if x.length + y.length ≤ 4611686018427387904 then some (.str (x ++ y)) else none := (rfl)
@[simp] theorem abin_ceql (a b c d : Nat) : abin .eql (.cplx a b) (.cplx c d) = some (.bool (cplxEq a b c d)) := (rfl)
@[simp] theorem abin_cneq (a b c d : Nat) : abin .neq (.cplx a b) (.cplx c d) = some (.bool (!(cplxEq a b c d))) := (rfl)

def aBeq (n : Bool) (x y : AV) : Option AV := match x, y with | .bool a, .bool b => some (.bool (n ^^ (a == b))) | _, _ => none
@[simp] theorem apure_beq (n : Bool) (x y : AX) : apure (.beq n x y) tm h = aBeq n (x.ev tm) (y.ev tm) := (rfl)
@[simp] theorem aBeq_eq (a b : Bool) : aBeq false (.bool a) (.bool b) = some (.bool (a == b)) := by simp [aBeq]
@[simp] theorem aBeq_ne (a b : Bool) : aBeq true (.bool a) (.bool b) = some (.bool (!(a == b))) := by simp [aBeq]
def aEqa (n : Bool) (ds : List EqK) (x y : AV) : Option AV := match x, y with | .agg a, .agg b => (eqs ds a b).map fun r => .bool (n ^^ r) | _, _ => none
@[simp] theorem apure_eqa (n : Bool) (ds : List EqK) (x y : AX) : apure (.eqa n ds x y) tm h = aEqa n ds (x.ev tm) (y.ev tm) := (rfl)
@[simp] theorem apure_un (o : UnOp) (x : AX) : apure (.un o x) tm h = aun o (x.ev tm) := (rfl)
@[simp] theorem aun_neg (k : IntKind) (n : Int) : aun .neg (.int k n) = some (.int k (k.wrap (0 - n))) := (rfl)
@[simp] theorem aun_negf (b : Nat) : aun .neg (.flt b) = some (.flt (Op.negFloat .f64 b)) := (rfl)
@[simp] theorem apure_cfi (k : IntKind) (x : AX) : apure (.cfi k x) tm h = aCfi k (x.ev tm) := (rfl)
@[simp] theorem apure_fext (k : FX) (x : AX) : apure (.fext k x) tm h = aFext k (x.ev tm) := (rfl)
@[simp] theorem aFext_bits (b : Nat) : aFext .bits (.flt b) = some (.int .u64 (b : Int)) := (rfl)
@[simp] theorem aFext_from (n : Int) : aFext .frombits (.int .u64 n) = some (.flt n.toNat) := (rfl)
@[simp] theorem abin_f (op : BinOp) (a b : Nat) : abin op (.flt a) (.flt b) = binF op a b := by cases op <;> rfl
@[simp] theorem aun_xor (k : IntKind) (n : Int) : aun .xor (.int k n) = some (.int k (k.wrap (BitVec.ofInt k.bits (if k.signed then -1 else k.max) ^^^ BitVec.ofInt k.bits n).toNat)) := (rfl)
@[simp] theorem aun_not (b : Bool) : aun .not (.bool b) = some (.bool (!b)) := (rfl)
def aCvi (k : IntKind) (x : AV) : Option AV := match x with | .int _ n => some (.int k (k.wrap n)) | _ => none
@[simp] theorem apure_cvi (k : IntKind) (x : AX) : apure (.cvi k x) tm h = aCvi k (x.ev tm) := (rfl)
@[simp] theorem aCvi_int (k k' : IntKind) (n : Int) : aCvi k (.int k' n) = some (.int k (k.wrap n)) := (rfl)
def aCvf (x : AV) : Option AV := match x with | .int _ n => some (.flt (FloatKind.f64.nearest n)) | _ => none
@[simp] theorem apure_cvf (x : AX) : apure (.cvf x) tm h = aCvf (x.ev tm) := (rfl)
@[simp] theorem aCvf_int (k' : IntKind) (n : Int) : aCvf (.int k' n) = some (.flt (FloatKind.f64.nearest n)) := (rfl)

def strOf (r : Option (List (List AV))) : Option AV := match r with | some xs => (xs.mapM byteOf).map .str | none => none
@[simp] theorem apure_b2s (x : AX) : apure (.b2s x) tm h = strOf (elemsOf h 1 (x.ev tm)) := (rfl)
@[simp] theorem strOf_some (xs : List (List AV)) : strOf (some xs) = (xs.mapM byteOf).map .str := (rfl)
def bytesAV (b : List UInt8) : List (List AV) := b.map fun c => [.int .u8 (c.toNat : Int)]
@[simp] theorem bytes_mapM (b : List UInt8) : (bytesAV b).mapM byteOf = some b := by
  induction b with
  | nil => rfl
  | cons c b ih => rw [bytesAV, List.map_cons, List.mapM_cons]; rw [bytesAV] at ih; rw [ih]; simp [byteOf]
@[simp] theorem elemsOf_nl (sz : Nat) : elemsOf h sz .nl = some [] := (rfl)
def aCut (sz : Nat) (x : AV) (l u : Option (Option Nat)) (h : Hp) : Option AV := match l, u with
  | some l, some u => match x with
    | .nl => if l.getD 0 = 0 then (if u.getD 0 = 0 then some .nl else none) else none
    | .fz xs => if l.getD 0 ≤ u.getD xs.length then (if u.getD xs.length ≤ xs.length then (if xs.all (·.length == sz) then some (.fz ((xs.drop (l.getD 0)).take (u.getD xs.length - l.getD 0))) else none) else none) else none
    | .sl id off len => match h id with
      | .arr _ sz' xs => if sz' = sz then (if l.getD 0 ≤ u.getD len then (if off + u.getD len ≤ xs.length then some (.sl id (off + l.getD 0) (u.getD len - l.getD 0)) else none) else none) else none
      | _ => none
    | _ => none
  | _, _ => none
@[simp] theorem apure_cut (sz : Nat) (x : AX) (l u : Option AX) : apure (.cut sz x l u) tm h = aCut sz (x.ev tm) (bound tm l) (bound tm u) h := by
  simp only [apure, aCut]
  cases bound tm l <;> cases bound tm u <;> first | rfl | (cases x.ev tm <;> first | rfl | (rename_i id _ _; simp only; cases h id <;> rfl))
def aCuts (x : AV) (l u : Option (Option Nat)) : Option AV := match l, u with
  | some l, some u => match x with
    | .str s => if l.getD 0 ≤ u.getD s.length then (if u.getD s.length ≤ s.length then some (.str ((s.drop (l.getD 0)).take (u.getD s.length - l.getD 0))) else none) else none
    | _ => none
  | _, _ => none
@[simp] theorem apure_cuts (x : AX) (l u : Option AX) : apure (.cuts x l u) tm h = aCuts (x.ev tm) (bound tm l) (bound tm u) := by
  simp only [apure, aCuts]
  cases bound tm l <;> cases bound tm u <;> first | rfl | (cases x.ev tm <;> rfl)
def bnd (v : AV) : Option (Option Nat) := match v with | .int _ n => if 0 ≤ n then some (some n.toNat) else none | _ => none
@[simp] theorem bound_none : bound tm none = some none := (rfl)
@[simp] theorem bound_some (x : AX) : bound tm (some x) = bnd (x.ev tm) := (rfl)
@[simp] theorem bnd_int (k : IntKind) (n : Int) : bnd (.int k n) = if 0 ≤ n then some (some n.toNat) else none := (rfl)

def aIa (sz : Nat) (x i : AV) (h : Hp) : Option AV := match i with
  | .int _ n => match x with
    | .fz xs => if 0 ≤ n then (match xs[n.toNat]? with | some e => if e.length = sz then some (.fp e) else none | none => none) else none
    | .sl id off len => match h id with
      | .arr _ sz' _ => if sz' = sz then (if 0 ≤ n then (if n < len then some (.pe id (off + n.toNat) 0) else none) else none) else none
      | _ => none
    | _ => none
  | _ => none
@[simp] theorem apure_ia (sz : Nat) (x i : AX) : apure (.ia sz x i) tm h = aIa sz (x.ev tm) (i.ev tm) h := by
  simp only [apure, aIa]
  cases i.ev tm <;> first | rfl | (cases x.ev tm <;> first | rfl | (simp only; rename_i xs; cases xs[_]? <;> rfl) | (rename_i id _ _; simp only; cases h id <;> rfl))
theorem aIa_fzn (sz : Nat) (k : IntKind) (n : Nat) (xs : List (List AV)) (e : List AV) (he : xs[n]? = some e) (hl : e.length = sz) : aIa sz (.fz xs) (.int k n) h = some (.fp e) := by
  simp [aIa, he, hl]
theorem aIa_sl (sz : Nat) (k : IntKind) (n : Int) (id off len e : Nat) (xs : List (List AV)) (hh : h id = .arr e sz xs) (h0 : 0 ≤ n) (hl : n < len) : aIa sz (.sl id off len) (.int k n) h = some (.pe id (off + n.toNat) 0) := by
  simp [aIa, hh, h0, hl]
def aIxs (x i : AV) : Option AV := match x, i with | .str s, .int _ n => if 0 ≤ n then (s[n.toNat]?).map fun b => .int .u8 (b.toNat : Int) else none | _, _ => none
@[simp] theorem apure_ixs (x i : AX) : apure (.ixs x i) tm h = aIxs (x.ev tm) (i.ev tm) := (rfl)
@[simp] theorem aIxs_str (s : List UInt8) (k : IntKind) (n : Int) : aIxs (.str s) (.int k n) = if 0 ≤ n then (s[n.toNat]?).map fun b => .int .u8 (b.toNat : Int) else none := (rfl)
def aFld (off : Nat) (n : Option Nat) (x : AV) : Option AV := match x with | .agg cs => (match n with | none => cs[off]? | some n => some (.agg ((cs.drop off).take n))) | _ => none
@[simp] theorem apure_fld (off : Nat) (n : Option Nat) (x : AX) : apure (.fld off n x) tm h = aFld off n (x.ev tm) := (rfl)
@[simp] theorem aFld_one (off : Nat) (cs : List AV) : aFld off none (.agg cs) = cs[off]? := (rfl)
@[simp] theorem aFld_many (off n : Nat) (cs : List AV) : aFld off (some n) (.agg cs) = some (.agg ((cs.drop off).take n)) := (rfl)
def aExt (x : AV) (i : Nat) : Option AV := match x with | .tup vs => vs[i]? | _ => none
@[simp] theorem apure_ext (x : AX) (i : Nat) : apure (.ext x i) tm h = aExt (x.ev tm) i := (rfl)
@[simp] theorem aExt_tup (vs : List AV) (i : Nat) : aExt (.tup vs) i = vs[i]? := (rfl)
def esOf : AObj → Option (List (AV × AV)) | .map es => some es | _ => none
@[simp] theorem esOf_map (es : List (AV × AV)) : esOf (.map es) = some es := (rfl)
def aLen (k : LenK) (x : AV) (h : Hp) : Option AV := match k, x with
  | .sl, .nl => some (.int .i64 0)
  | .sl, .fz xs => some (.int .i64 xs.length)
  | .sl, .sl _ _ len => some (.int .i64 len)
  | .str, .str s => some (.int .i64 s.length)
  | .map, .nilm => some (.int .i64 0)
  | .map, .mp id => (esOf (h id)).map fun es => .int .i64 es.length
  | _, _ => none
@[simp] theorem apure_len (k : LenK) (x : AX) : apure (.len k x) tm h = aLen k (x.ev tm) h := by
  simp only [apure, aLen]
  cases k <;> cases x.ev tm <;> first | rfl | (rename_i id; simp only; cases h id <;> rfl)
@[simp] theorem aLen_nl : aLen .sl .nl h = some (.int .i64 0) := (rfl)
@[simp] theorem aLen_fz (xs : List (List AV)) : aLen .sl (.fz xs) h = some (.int .i64 xs.length) := (rfl)
@[simp] theorem aLen_sl (id off len : Nat) : aLen .sl (.sl id off len) h = some (.int .i64 len) := (rfl)
@[simp] theorem aLen_str (s : List UInt8) : aLen .str (.str s) h = some (.int .i64 s.length) := (rfl)
@[simp] theorem apure_mkfn (f : FuncId) (xs : List AX) : apure (.mkfn f xs) tm h = some (.fn f (xs.map (·.ev tm))) := (rfl)
def aLook (ki : Bool) (z : AV) (ok : Bool) (m k : AV) (h : Hp) : Option AV :=
  (match m with | .nilm => some [] | .mp id => esOf (h id) | _ => none : Option (List (AV × AV))).bind fun es => (findK ki k es).map fun r => if ok then .tup [r.getD z, .bool r.isSome] else r.getD z
@[simp] theorem apure_look (ki : Bool) (z : AV) (ok : Bool) (m k : AX) : apure (.look ki z ok m k) tm h = aLook ki z ok (m.ev tm) (k.ev tm) h := by
  simp only [apure, aLook]
  cases m.ev tm with
  | nilm => simp only [Option.bind_some]; cases findK ki (k.ev tm) [] <;> rfl
  | mp id => simp only; cases h id with
    | map es => simp only [esOf, Option.bind_some]; cases findK ki (k.ev tm) es <;> rfl
    | _ => rfl
  | _ => rfl
@[simp] theorem aLook_mp (ki : Bool) (z : AV) (ok : Bool) (id : Nat) (k : AV) : aLook ki z ok (.mp id) k h = (esOf (h id)).bind fun es => (findK ki k es).map fun r => if ok then .tup [r.getD z, .bool r.isSome] else r.getD z := (rfl)
def aCx (x y : AV) : Option AV := match x, y with | .flt a, .flt b => some (.cplx a b) | _, _ => none
@[simp] theorem apure_cx (x y : AX) : apure (.cx x y) tm h = aCx (x.ev tm) (y.ev tm) := (rfl)
@[simp] theorem aCx_flt (a b : Nat) : aCx (.flt a) (.flt b) = some (.cplx a b) := (rfl)
def aMn (x y : AV) : Option AV := match x, y with | .int k a, .int _ b => some (.int k (if b < a then b else a)) | _, _ => none
def aMx (x y : AV) : Option AV := match x, y with | .int k a, .int _ b => some (.int k (if b > a then b else a)) | _, _ => none
@[simp] theorem apure_mn (x y : AX) : apure (.mn x y) tm h = aMn (x.ev tm) (y.ev tm) := (rfl)
@[simp] theorem apure_mx (x y : AX) : apure (.mx x y) tm h = aMx (x.ev tm) (y.ev tm) := (rfl)
@[simp] theorem aMn_int (k k' : IntKind) (a b : Int) : aMn (.int k a) (.int k' b) = some (.int k (if b < a then b else a)) := (rfl)
@[simp] theorem aMx_int (k k' : IntKind) (a b : Int) : aMx (.int k a) (.int k' b) = some (.int k (if a < b then b else a)) := (rfl)

@[simp] theorem resOf_one (r : ARes) : resOf [r] tm h = r.get tm h := (rfl)
@[simp] theorem resOf_two (r s : ARes) : resOf [r, s] tm h = (r.get tm h).bind fun x => (s.get tm h).map fun y => .tup [x, y] := by
  simp only [resOf, List.mapM_cons, List.mapM_nil]
  generalize r.get tm h = a
  generalize s.get tm h = b
  cases a <;> cases b <;> rfl
@[simp] theorem resOf_none : resOf [] tm h = some (.tup []) := (rfl)
@[simp] theorem ARes_t (n : Nat) : (ARes.t n).get tm h = some (tm n) := (rfl)
@[simp] theorem ARes_one (n : Nat) : (ARes.one n).get tm h = aLdc (tm n) h := apure_ldc (.t n)
@[simp] theorem ARes_many (k n : Nat) : (ARes.many k n).get tm h = aLda k (tm n) h := apure_lda k (.t n)
@[simp] theorem Stable_nil : Stable P [] tm h = True := (rfl)

/-! ### Heaps -/
@[simp] theorem hset_dead_cells (o : AObj) (j i : Nat) (cs : List AV) : (if j = i then AObj.cells cs else o) = .dead ↔ (¬ j = i ∧ ¬ i = j ∧ o = .dead) := by
  by_cases e : j = i
  · simp [e]
  · simp [e, Ne.symm e]
@[simp] theorem hset_dead_arr (o : AObj) (j i e sz : Nat) (xs : List (List AV)) : (if j = i then AObj.arr e sz xs else o) = .dead ↔ (¬ j = i ∧ ¬ i = j ∧ o = .dead) := by
  by_cases e : j = i
  · simp [e]
  · simp [e, Ne.symm e]
@[simp] theorem hset_dead_map (o : AObj) (j i : Nat) (es : List (AV × AV)) : (if j = i then AObj.map es else o) = .dead ↔ (¬ j = i ∧ ¬ i = j ∧ o = .dead) := by
  by_cases e : j = i
  · simp [e]
  · simp [e, Ne.symm e]
@[simp] theorem hset_hset (i : Nat) (o o' : AObj) : hset (hset h i o) i o' = hset h i o' := by
  funext j; simp only [hset]; split <;> rfl
theorem hset_self {i : Nat} {o : AObj} (hh : h i = o) : hset h i o = h := by
  funext j; simp only [hset]; split
  · rename_i e; rw [e, hh]
  · rfl
theorem hset_comm {i j : Nat} {o o' : AObj} (hne : i ≠ j) : hset (hset h i o) j o' = hset (hset h j o') i o := by
  funext k; simp only [hset]
  by_cases e1 : k = j <;> by_cases e2 : k = i <;> simp_all

theorem Gives.same {v : AV} {Q : AV → Hp → Prop} (hq : Q v h) : Gives Q (some v) h := ⟨v, rfl, v, h, Sub.refl h, .same _, hq⟩
theorem Gives.sub {v : AV} {h' : Hp} {Q : AV → Hp → Prop} (hs : Sub h' h) (hq : Q v h') : Gives Q (some v) h := ⟨v, rfl, v, h', hs, .same _, hq⟩
end
/-! ### The same, as equations that always hold -/
section
variable {h : Hp}
def arrSz : AObj → Option (Nat × List (List AV)) | .arr _ sz xs => some (sz, xs) | _ => none
@[simp] theorem arrSz_arr (e sz : Nat) (xs : List (List AV)) : arrSz (.arr e sz xs) = some (sz, xs) := (rfl)
@[simp] theorem aIa_fzs (sz : Nat) (k : IntKind) (n : Int) (xs : List (List AV)) : aIa sz (.fz xs) (.int k n) h = if 0 ≤ n then (xs[n.toNat]?).bind fun e => if e.length = sz then some (.fp e) else none else none := by
  simp only [aIa]; split <;> first | rfl | (cases xs[n.toNat]? <;> rfl)
@[simp] theorem aIa_sls (sz : Nat) (k : IntKind) (n : Int) (id off len : Nat) : aIa sz (.sl id off len) (.int k n) h = (arrSz (h id)).bind fun a => if a.1 = sz then (if 0 ≤ n then (if n < len then some (.pe id (off + n.toNat) 0) else none) else none) else none := by
  simp only [aIa]; cases h id <;> rfl
@[simp] theorem aCut_nl (sz : Nat) (l u : Option Nat) : aCut sz .nl (some l) (some u) h = if l.getD 0 = 0 then (if u.getD 0 = 0 then some .nl else none) else none := (rfl)
@[simp] theorem aCut_fzs (sz : Nat) (xs : List (List AV)) (l u : Option Nat) : aCut sz (.fz xs) (some l) (some u) h = if l.getD 0 ≤ u.getD xs.length then (if u.getD xs.length ≤ xs.length then (if xs.all (·.length == sz) then some (.fz ((xs.drop (l.getD 0)).take (u.getD xs.length - l.getD 0))) else none) else none) else none := (rfl)
@[simp] theorem aCut_sls (sz id off len : Nat) (l u : Option Nat) : aCut sz (.sl id off len) (some l) (some u) h = (arrSz (h id)).bind fun a => if a.1 = sz then (if l.getD 0 ≤ u.getD len then (if off + u.getD len ≤ a.2.length then some (.sl id (off + l.getD 0) (u.getD len - l.getD 0)) else none) else none) else none := by
  simp only [aCut]; cases h id <;> rfl
@[simp] theorem aCuts_strs (s : List UInt8) (l u : Option Nat) : aCuts (.str s) (some l) (some u) = if l.getD 0 ≤ u.getD s.length then (if u.getD s.length ≤ s.length then some (.str ((s.drop (l.getD 0)).take (u.getD s.length - l.getD 0))) else none) else none := (rfl)
@[simp] theorem elemsOf_fzs (sz : Nat) (xs : List (List AV)) : elemsOf h sz (.fz xs) = if xs.all (·.length == sz) then some xs else none := (rfl)
@[simp] theorem elemsOf_sls (sz id off len : Nat) : elemsOf h sz (.sl id off len) = (arrSz (h id)).bind fun a => if a.1 = sz then (if off + len ≤ a.2.length then some ((a.2.drop off).take len) else none) else none := by
  simp only [elemsOf]; cases h id <;> rfl
@[simp] theorem stOf_ptrs (n id off : Nat) (v : AV) : stOf n (.ptr id off) v h = if v.flat = true ∧ v.cells.length = n then (cellsOf (h id)).bind fun cs => if off + n ≤ cs.length then some (hset h id (.cells (splice cs off v.cells))) else none else none := by
  simp only [stOf]; split <;> first | rfl | (cases h id <;> rfl)
def arrAll : AObj → Option (Nat × Nat × List (List AV)) | .arr e sz xs => some (e, sz, xs) | _ => none
@[simp] theorem arrAll_arr (e sz : Nat) (xs : List (List AV)) : arrAll (.arr e sz xs) = some (e, sz, xs) := (rfl)
@[simp] theorem stOf_pes (n id i off : Nat) (v : AV) : stOf n (.pe id i off) v h = if v.flat = true ∧ v.cells.length = n then (arrAll (h id)).bind fun a => (a.2.2[i]?).bind fun row => if off + n ≤ row.length then some (hset h id (.arr a.1 a.2.1 (a.2.2.set i (splice row off v.cells)))) else none else none := by
  simp only [stOf]; split <;> first | rfl | (cases h id <;> first | rfl | (simp only [arrAll, Option.bind_some]; cases (_ : List (List AV))[i]? <;> rfl))
@[simp] theorem mupOf_mp (ki : Bool) (id : Nat) (k v : AV) : mupOf ki (.mp id) k v h = (esOf (h id)).bind fun es => (putK ki k v es).map fun es' => hset h id (.map es') := by
  simp only [mupOf]; cases h id <;> rfl
def ThenA (o : AObj) (K : Nat → Nat → List (List AV) → Prop) (_ : Held K := .mk) : Prop := match o with | .arr e sz xs => K e sz xs | _ => False
@[simp] theorem ThenA_arr (e sz : Nat) (xs : List (List AV)) (K : Nat → Nat → List (List AV) → Prop) : ThenA (.arr e sz xs) K = K e sz xs := (rfl)
@[simp] theorem AApp_sls (e sz b id off len : Nat) (ys : List (List AV)) (K : AV → Hp → Prop) : AApp e sz b (.sl id off len) ys K h = (off = 0 ∧ ThenA (h id) fun e' sz' xs => e' = e ∧ sz' = sz ∧ len ≤ xs.length ∧ len + ys.length ≤ 4611686018427387904 ∧ (len + ys.length) * b ≤ 140737488355328 ∧
      Fresh h fun id' => K (.sl id' 0 (len + ys.length)) (hset (hset h id .dead) id' (.arr e sz (xs.take len ++ ys)))) := by
  simp only [AApp, ThenA]
end
end Go.AM
