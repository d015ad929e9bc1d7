/- AM, 17: code, and a function's contract. -/
import Derived.Test.YtcpkdbofohkipaaKAmCode
set_option linter.unusedVariables false
set_option linter.unusedSimpArgs false
set_option linter.unusedSimpArgs false
set_option linter.unusedVariables false
namespace Go.AM
variable {P : Program} {N : Nat} {E : Env} {tm : Tm} {a : Act}

/-- A step of a region whose order is open. 'eff': nothing else may stand beside it in either order; 'chk': what was read before and may as well be read behind. -/
structure DStep where
  ai : AIns
  eff : Bool
  chk : List AIns

/-- An operation that leaves the heap as it is answers v. -/
def QStep (P : Program) (op : AOp) (v : AV) (tm : Tm) (h : Hp) : Prop :=
  match op with
  | .call f args => ACalls P f (args.map (·.ev tm)) h fun r h' => r = v ∧ h' = h
  | .callv x args =>
    match x.ev tm with
    | .fn f caps => ACalls P f (args.map (·.ev tm) ++ caps) h fun r h' => r = v ∧ h' = h
    | _ => False
  | op => apure op tm h = some v

/-- Is it wanted? -/
def AIns.wants (ai : AIns) (tm : Tm) : Option Bool :=
  match ai.guard with
  | none => some true
  | some (g, want) => (gval (tm g)).map (· == some want)

def Stable (P : Program) : List AIns → Tm → Hp → Prop
  | [], _, _ => True
  | c :: l, tm, h => (c.wants tm = some true → QStep P c.op (match c.dst with | some t => tm t | none => .undef) tm h) ∧ Stable P l tm h

def QRun (P : Program) (op : AOp) (K : AV → Prop) (tm : Tm) (h : Hp) : Prop :=
  match op with
  | .call f args => ∃ v, ACalls P f (args.map (·.ev tm)) h (fun r h' => r = v ∧ h' = h) ∧ K v
  | .callv x args =>
    match x.ev tm with
    | .fn f caps => ∃ v, ACalls P f (args.map (·.ev tm) ++ caps) h (fun r h' => r = v ∧ h' = h) ∧ K v
    | _ => False
  | op => match apure op tm h with
    | some v => K v
    | none => False

def DOps (P : Program) : List DStep → (Tm → Hp → Prop) → Tm → Hp → Prop
  | [], K, tm, h => K tm h
  | s :: l, K, tm, h =>
    match s.ai.wants tm with
    | some true =>
      if s.eff then AStep P s.ai.op (fun v h' => Stable P s.chk (updO tm s.ai.dst v) h' ∧ DOps P l K (updO tm s.ai.dst v) h') tm h
      else QRun P s.ai.op (fun v => DOps P l K (updO tm s.ai.dst v) h) tm h
    | some false => DOps P l K (updO tm s.ai.dst .undef) h
    | none => False

inductive ACode where
  | skip
  | region (l : List AIns)
  | draw (l : List DStep)
  | seq (x y : ACode)
  | cond (c : AX) (x y : ACode)
  | block (id : Nat) (b : ACode)
  | loop (b : ACode)
  | exit (id : Nat)
  | ret

inductive AExit where
  | normal
  | exit (id : Nat)
  | ret

def AExit.conc : AExit → Exit
  | .normal => .normal
  | .exit id => .exit id
  | .ret => .ret

/-- A round's end: the relation at a smaller number, behind ghost steps. -/
def Again (I : Nat → Tm → Hp → Prop) (n : Nat) (tm : Tm) (h : Hp) : Prop := ∃ n', n' < n ∧ ∃ tm' h', Gho tm h tm' h' ∧ I n' tm' h'

def AW (P : Program) : ACode → (AExit → Tm → Hp → Prop) → Tm → Hp → Prop
  | .skip, Q, tm, h => Q .normal tm h
  | .region l, Q, tm, h => AOps P l (Q .normal) tm h
  | .draw l, Q, tm, h => DOps P l (Q .normal) tm h
  | .seq x y, Q, tm, h => AW P x (fun e tm h => match e with
    | .normal => AW P y Q tm h
    | e => Q e tm h) tm h
  | .cond c x y, Q, tm, h => match c.ev tm with
    | .bool b => if b then AW P x Q tm h else AW P y Q tm h
    | _ => False
  | .block id b, Q, tm, h => AW P b (fun e tm h => match e with
    | .exit i => if i = id then Q .normal tm h else Q (.exit i) tm h
    | e => Q e tm h) tm h
  | .loop b, Q, tm, h => ∃ (I : Nat → Tm → Hp → Prop) (n : Nat), (∃ tm' h', Gho tm h tm' h' ∧ I n tm' h') ∧ ∀ n tm h, I n tm h → AW P b (fun e tm' h' => match e with
    | .normal => Again I n tm' h'
    | e => Q e tm' h') tm h
  | .exit id, Q, tm, h => Q (.exit id) tm h
  | .ret, Q, tm, h => Q .ret tm h

/-- What a function answers. -/
inductive ARes where
  | t (n : Nat)
  | one (n : Nat)
  | many (k n : Nat)

def ARes.get (r : ARes) (tm : Tm) (h : Hp) : Option AV :=
  match r with
  | .t n => some (tm n)
  | .one n => apure (.ldc (.t n)) tm h
  | .many k n => apure (.lda k (.t n)) tm h

def resOf (rs : List ARes) (tm : Tm) (h : Hp) : Option AV :=
  match rs with
  | [r] => r.get tm h
  | rs => (rs.mapM fun (r : ARes) => r.get tm h).map .tup

def cRes (P : Program) (N : Nat) : ResultVar → Option ARes
  | .tmp t => if t < N then some (.t t) else none
  | .cell t ty => if t < N then (aggSize P ty).map fun a => match a with | some k => .many k t | none => .one t else none

/-- A result, as it is handed back: behind ghost steps. -/
def Gives (Q : AV → Hp → Prop) (r : Option AV) (h : Hp) : Prop := ∃ v, r = some v ∧ ∃ v' h', Sub h' h ∧ Frz h h' v v' ∧ Q v' h'

def initTm (args : List AV) : Tm := fun t => args.getD t .undef

/-! ### The compilation of code -/

def AX.looks : AX → List Nat
  | .t n => [n]
  | .c _ => []

def looksO : Option AX → List Nat
  | none => []
  | some x => x.looks

def AOp.looks : AOp → List Nat
  | .mov x | .ldc x | .lda _ x | .fa _ x | .nck x | .un _ x | .cvi _ x | .cvf x | .b2s x | .fld _ _ x | .ext x _ | .len _ x | .re x | .im x | .box x | .bfz x | .s2b x => x.looks
  | .bin _ x y | .beq _ x y | .peq _ x y | .eqa _ _ x y | .ia _ x y | .ixs x y | .look _ _ _ x y | .cx x y | .mn x y | .mx x y | .st _ x y | .app _ _ _ x y | .mks _ _ _ _ x y => x.looks ++ y.looks
  | .pick x y z | .mup _ x y z => x.looks ++ (y.looks ++ z.looks)
  | .build _ ps => ps.flatMap fun p => p.2.2.looks
  | .cut _ x lo hi | .cuts x lo hi => x.looks ++ (looksO lo ++ looksO hi)
  | .mkfn _ xs | .bsl _ _ xs | .call _ xs => xs.flatMap (·.looks)
  | .callv x xs => x.looks ++ xs.flatMap (·.looks)
  | .alloc _ | .mkm => []

def AIns.looks (i : AIns) : List Nat := i.op.looks ++ (match i.guard with | some (g, _) => [g] | none => [])

/-- Does it read no memory? -/
def heapFree : AOp → Bool
  | .mov _ | .pick _ _ _ | .build _ _ | .fa _ _ | .nck _ | .bin _ _ _ | .beq _ _ _ | .peq _ _ _ | .eqa _ _ _ _ | .un _ _ | .cvi _ _ | .cvf _ | .cuts _ _ _ | .ixs _ _ | .fld _ _ _ | .ext _ _ | .mkfn _ _ | .cx _ _ | .re _ | .im _ | .mn _ _ | .mx _ _ => true
  | .len .sl _ | .len .str _ => true
  | _ => false

def isEff (quiet : FuncId → Bool) : AOp → Bool
  | .alloc _ | .box _ | .bsl _ _ _ | .st _ _ _ | .app _ _ _ _ _ | .mks _ _ _ _ _ _ | .mkm | .mup _ _ _ _ | .bfz _ | .s2b _ | .callv _ _ => true
  | .call f _ => !quiet f
  | _ => false

/-- The operations that an operation waits for. -/
def preds (o : Oper) : List Nat := (o.after.toList.filter fun e => Region.binds .any e).map (·.on)

def canonGo (ps : Nat → List Nat) (eff : Nat → Bool) : Nat → List Nat → List Nat → List Nat
  | 0, _, done => done
  | n + 1, rem, done =>
    match rem.find? fun i => !eff i && (ps i).all done.contains with
    | some i => canonGo ps eff n (rem.erase i) (done ++ [i])
    | none => match rem.find? fun i => (ps i).all done.contains with
      | some i => canonGo ps eff n (rem.erase i) (done ++ [i])
      | none => done

def dstIn (d : Option Nat) (l : List Nat) : Bool := match d with | some t => l.contains t | none => false
def dstSame (d e : Option Nat) : Bool := match d, e with | some t, some u => t == u | _, _ => false

/-- The checks on a region whose order is open. -/
def drawOK (n : Nat) (ps : Nat → List Nat) (bf : Nat → Nat) (ai : Nat → AIns) (eff : Nat → Bool) (ord : List Nat) : Bool :=
  ord.length == n &&
  ((List.range n).all fun i => ord.contains i) &&
  ((List.range n).all fun q => match ord[q]? with
    | some i => i < n && !((ord.take q).contains i) && ((ps i).all fun j => (ord.take q).contains j) && (!eff i || (ord.drop (q + 1)).all fun j => (bf j).testBit i)
    | none => false) &&
  ((List.range n).all fun i =>
    ((List.range n).all fun j => i == j ||
      (!(dstSame (ai i).dst (ai j).dst) && (!(dstIn (ai i).dst (ai j).looks) || (bf j).testBit i || (eff i && (bf i).testBit j)))) &&
    (eff i || (!(dstIn (ai i).dst (ai i).looks) && (ai i).dst.isSome)) &&
    ((List.range n).all fun j => !((bf i).testBit j) || (ps i).contains j || (ps i).any fun k => (bf k).testBit j))

def dBf (ops : Array Oper) (i : Nat) : Nat := (Region.before ops).toList.getD i 0
def dPs (ops : Array Oper) (i : Nat) : List Nat := (ops.toList.map preds).getD i []
def dAi (ais : List AIns) (i : Nat) : AIns := ais.getD i ⟨none, .mkm, none⟩
def dEffs (quiet : FuncId → Bool) (ops : Array Oper) (ais : List AIns) : List Bool :=
  (List.range ais.length).map fun i => isEff quiet (dAi ais i).op || (List.range ais.length).any fun j => i != j && dstIn (dAi ais i).dst (dAi ais j).looks && !((dBf ops j).testBit i)
def dEff (quiet : FuncId → Bool) (ops : Array Oper) (ais : List AIns) (i : Nat) : Bool := (dEffs quiet ops ais).getD i true
def dOrd (quiet : FuncId → Bool) (ops : Array Oper) (ais : List AIns) : List Nat := canonGo (dPs ops) (dEff quiet ops ais) ais.length (List.range ais.length) []
def dChk (ops : Array Oper) (ais : List AIns) (eff : Nat → Bool) (ord : List Nat) (q i : Nat) : List AIns :=
  ((ord.take q).filter fun j => !eff j && !heapFree (dAi ais j).op && !((dBf ops i).testBit j)).map (dAi ais)

def cDraw (P : Program) (N : Nat) (quiet : FuncId → Bool) (ops : Array Oper) : Option (List DStep) :=
  (cOpsFrom P N ops ops.toList).bind fun ais =>
  if drawOK ais.length (dPs ops) (dBf ops) (dAi ais) (dEff quiet ops ais) (dOrd quiet ops ais) then
    some ((List.range ais.length).map fun q =>
      let i := (dOrd quiet ops ais).getD q 0
      { ai := dAi ais i, eff := dEff quiet ops ais i, chk := if dEff quiet ops ais i then dChk ops ais (dEff quiet ops ais) (dOrd quiet ops ais) q i else [] })
  else none

def comp (P : Program) (N : Nat) (quiet : FuncId → Bool) : Code → Option ACode
  | .skip => some .skip
  | .region _ ops draw => if draw then (cDraw P N quiet ops).map .draw else (cOpsFrom P N ops ops.toList).map .region
  | .seq x y => (comp P N quiet x).bind fun x => (comp P N quiet y).map fun y => .seq x y
  | .cond c x y => (cOpd N c).bind fun c => (comp P N quiet x).bind fun x => (comp P N quiet y).map fun y => .cond c x y
  | .block id b => (comp P N quiet b).map fun b => .block id b
  | .loop b => (comp P N quiet b).map fun b => .loop b
  | .exit id => some (.exit id)
  | .ret => some .ret
  | _ => none

/-- A function as compiled. -/
structure AFn where
  n : Nat
  code : ACode
  res : List ARes

def compFn (P : Program) (quiet : FuncId → Bool) (f : Func) : Option AFn :=
  f.body.bind fun c => (comp P f.ntmps quiet c).bind fun code => (f.results.toList.mapM fun r => cRes P f.ntmps r).bind fun res =>
    if f.name = "runtime.NumGoroutine" then none else some ⟨f.ntmps, code, res⟩

end Go.AM
