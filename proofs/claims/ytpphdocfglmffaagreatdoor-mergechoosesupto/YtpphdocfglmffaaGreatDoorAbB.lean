/- The translation of the model's own code into the abstract machine's code; no statement is proved here. -/
import Derived.Test.YtpphdocfglmffaaGreatDoorAbA
set_option linter.unusedVariables false
set_option linter.unusedSimpArgs false
namespace Go.Ab

/-- a constant ls a value -/
def leafV : Value → Option V
  | .bool b => some (.bool b)
  | .int k n => some (.int k n)
  | .string s => some (.str s.data.toList)
  | .pointer none => some .nptr
  | .slice none 0 0 => some .nslc
  | .map none => some .nmap
  | .nilFunc => some .nfn
  | .nilIface => some .nifc
  | _ => none

def allO {α β : Type} (f : α → Option β) : List α → Option (List β)
  | [] => some []
  | a :: r => (f a).bind fun b => (allO f r).map fun l => b :: l

def constV : Value → Option V
  | .agg cs => (allO leafV cs.toList).map .agg
  | v => leafV v

section
variable (P : Program)

def cOpd : Operand → Option Opd
  | .tmp t => some (.tmp t)
  | .const v => (constV v).map .const
  | .global _ => none
  | .func f => some (.func f)

def optO {α β : Type} (f : α → Option β) : Option α → Option (Option β)
  | none => some none
  | some a => (f a).map some

/-- a type's size in cells; not 0 -/
def szOf (t : TypeId) : Option Nat := (P.info? t).bind fun i => if i.size = 0 then none else some i.size

/-- how a variable of a type is read: one cell, or a row of cells -/
def shOf (t : TypeId) : Option (Option Nat) :=
  (P.underlying t).bind fun d => match d with
    | .struct _ | .array _ _ => (szOf P t).map some
    | _ => some none

def zeroOf (t : TypeId) : Option V := ((P.info? t).bind (·.zero)).bind constV

/-- how values of a type are held against each other: as numbers or texts (none), or by a kind -/
def eqKind (t : TypeId) : Option (Option QK) :=
  match P.underlying t with
  | some (.int _) | some .string => some none
  | some .bool => some (some .bool)
  | some (.pointer _) => some (some .ptr)
  | some (.slice _) => some (some .slice)
  | some (.map _ _) => some (some .map)
  | some (.func _ _ _) => some (some .func)
  | some (.interface _) => some (some .iface)
  | _ => none

def leafKind (t : TypeId) : Option LK :=
  match P.underlying t with
  | some .bool => some .bool
  | some (.int _) => some .int
  | some .string => some .str
  | _ => none

/-- the fields from one place on: leaves in a row -/
def fieldKinds : List Field → Nat → Option (List LK)
  | [], _ => some []
  | f :: r, i => if f.name ≠ "_" ∧ f.offset = i then (leafKind P f.type).bind fun k => (fieldKinds r (i + 1)).map fun ks => k :: ks else none

/-- a struct or an array that is held against another part by part -/
def eqParts (t : TypeId) : Option (List LK) :=
  if P.eqGuardType P.depth t then none else
  match P.underlying t with
  | some (.struct fs) => if P.stoodInHeld t then none else fieldKinds P fs.toList 0
  | some (.array n e) => if szOf P e = some 1 then (leafKind P e).map fun k => List.replicate n k else none
  | _ => none

def partsOf (place : Nat → Option (Nat × Nat)) (parts : List (Nat × Operand)) : Option (List (Nat × Nat × Opd)) :=
  allO (fun x => (place x.1).bind fun p => (cOpd x.2).map fun o => (p.1, p.2, o)) parts

def fieldAt (fs : Array Field) (i : Nat) : Option (Nat × Nat) :=
  (fs[i]?).bind fun f => (szOf P f.type).map fun n => (f.offset, n)

def isB : Callee → Option Builtin
  | .builtin b => some b
  | _ => none

def cLen (args : List Operand) (ts : Array TypeId) : Option A1 :=
  match args with
  | [x] => (cOpd x).bind fun x => (ts[0]?).bind fun t => (P.underlying t).bind fun d => match d with
    | .string => some (.p (.len true x))
    | .slice _ => some (.p (.len false x))
    | .array n _ => some (.p (.mv (.const (.int .i64 n))))
    | .map _ _ => some (.r (.mlen x))
    | _ => none
  | _ => none

def cAppend (args : List Operand) (ts : Array TypeId) : Option A1 :=
  match args with
  | [s, x] => (cOpd s).bind fun s => (cOpd x).bind fun x => (ts[0]?).bind fun t => (ts[1]?).bind fun u => (P.underlying t).bind fun d => (P.underlying u).bind fun du => match d with
    | .slice e => match du with
      | .int _ => none
      | _ => (szOf P e).bind fun n => (P.info? e).bind fun i => (i.zero).bind fun z => if z.cells.size = n ∧ 0 < i.bytes then some (.e (.append n i.bytes s x)) else none
    | _ => none
  | _ => none

def cCopy (args : List Operand) (ts : Array TypeId) : Option A1 :=
  match args with
  | [s, x] => (cOpd s).bind fun s => (cOpd x).bind fun x => (ts[0]?).bind fun t => (P.underlying t).bind fun d => match d with
    | .slice e => (szOf P e).map fun n => .e (.copy n s x)
    | _ => none
  | _ => none

def cDelete (args : List Operand) (ts : Array TypeId) : Option A1 :=
  match args with
  | [m, k] => (cOpd m).bind fun m => (cOpd k).bind fun k => (ts[0]?).bind fun t => (P.underlying t).bind fun d => match d with
    | .map kt _ => (leafKind P kt).map fun kk => .e (.mdel kk m k)
    | _ => none
  | _ => none

def cMinmax (isMax : Bool) (args : List Operand) : Option A1 :=
  match args with
  | x :: r => (cOpd x).bind fun x => (allO cOpd r).map fun r => .p (.minmax isMax x r)
  | _ => none

def cBuiltin (b : Builtin) (args : List Operand) (ts : Array TypeId) : Option A1 :=
  match b with
  | .len => cLen P args ts
  | .append => cAppend P args ts
  | .copy => cCopy P args ts
  | .delete => cDelete P args ts
  | .min => cMinmax false args
  | .max => cMinmax true args
  | _ => none

/-- functions without a body -/
def cExtern (name : String) (args : List Operand) : Option A1 :=
  match args with
  | [a, b] => (cOpd a).bind fun a => (cOpd b).bind fun b =>
    if name = "internal/bytealg.Compare" then some (.r (.bcmp a b))
    else if name = "internal/bytealg.IndexByte" then some (.r (.bidx a b))
    else if name = "internal/bytealg.IndexByteString" then some (.r (.bidx a b))
    else none
  | [a] => (cOpd a).bind fun a => if name = "maps.clone" then some (.e (.mclone a)) else none
  | _ => none

def cOp (o : Op) : Option A1 :=
  match o with
  | .move x | .assign x => (cOpd x).map fun x => .p (.mv x)
  | .pick c a b => (cOpd c).bind fun c => (cOpd a).bind fun a => (cOpd b).map fun b => .p (.sel c a b)
  | .alloc t => (zeroOf P t).map fun z => .n (.alloc z.cells)
  | .box _ x => (cOpd x).map fun x => .n (.box x)
  | .build t parts => (P.underlying t).bind fun d => (zeroOf P t).bind fun z => match d with
    | .struct fs => if fs.toList.all (fun f => (P.info? f.type).isSome) then (partsOf (fieldAt P fs) parts.toList).map fun ps => .p (.build z.cells ps) else none
    | .array _ e => (szOf P e).bind fun n => (partsOf (fun i => some (i * n, n)) parts.toList).map fun ps => .p (.build z.cells ps)
    | _ => none
  | .buildSlice t len parts => (P.underlying t).bind fun d => match d with
    | .slice e => (szOf P e).bind fun n => (zeroOf P e).bind fun z =>
        if len * n ≤ 16777216 ∧ z.cells.length = n then (partsOf (fun i => some (i * n, n)) parts.toList).map fun ps => .n (.bslice n (reps z.cells len) len ps) else none
    | _ => none
  | .load t a => (shOf P t).bind fun s => (cOpd a).map fun a => .r (.load s a)
  | .store t a x => (szOf P t).bind fun n => (cOpd a).bind fun a => (cOpd x).map fun x => .e (.store n a x)
  | .nilCheck x => (cOpd x).map fun x => .p (.nilck x)
  | .binOp op t x y _ => (cOpd x).bind fun x => (cOpd y).bind fun y => match op with
    | .eql => match eqKind P t with
      | some none => some (.p (.bin op x y))
      | some (some q) => some (.p (.eqk false q x y))
      | none => (eqParts P t).map fun ks => .p (.eqAgg false ks x y)
    | .neq => match eqKind P t with
      | some none => some (.p (.bin op x y))
      | some (some q) => some (.p (.eqk true q x y))
      | none => (eqParts P t).map fun ks => .p (.eqAgg true ks x y)
    | _ => some (.p (.bin op x y))
  | .unOp op _ x => (cOpd x).map fun x => .p (.un op x)
  | .convert src dst x => (cOpd x).bind fun x => (P.underlying src).bind fun a => (P.underlying dst).bind fun b => match a, b with
    | .int _, .int k => some (.p (.conv k x))
    | .string, .string => some (.p (.slcStr x none none))
    | .slice _, .slice e => if src = dst then (if P.underlying e matches some (.int .u8) then some (.e (.mark x)) else none) else none
    | .slice e, .string => if P.underlying e matches some (.int .u8) then some (.r (.b2s x)) else none
    | .string, .slice e => if P.underlying e matches some (.int .u8) then (if (P.info? e).any (fun i => i.size == 1) then some (.n (.s2b x)) else none) else none
    | _, _ => none
  | .sliceToArrayPointer arr x => (cOpd x).bind fun x => (P.underlying arr).bind fun a => match a with
    | .array n _ => some (.p (.s2ap n x))
    | _ => none
  | .makeInterface t x => (cOpd x).bind fun x => (P.underlying t).bind fun d => match d with
    | .interface _ => none
    | _ => some (.p (.mkI t x))
  | .makeFunc f a b => match f with
    | .func _ => (allO cOpd a.toList).bind fun a => (allO cOpd b.toList).map fun b => .p (.mkF f a b)
    | _ => none
  | .makeMap t r => (P.underlying t).bind fun d => match d with
    | .map _ _ => match r with
      | none => some (.n .mkmap)
      | some (.const (.int _ _)) => some (.n .mkmap)
      | _ => none
    | _ => none
  | .makeSlice t l c => (P.underlying t).bind fun d => match d with
    | .slice e => (szOf P e).bind fun n => (zeroOf P e).bind fun z => (P.info? e).bind fun i => (cOpd l).bind fun l => (cOpd c).bind fun c =>
        if z.cells.length = n then some (.n (.mkslice n i.bytes z.cells l c)) else none
    | _ => none
  | .slice t x lo hi mx => (cOpd x).bind fun x => (optO cOpd lo).bind fun lo => (optO cOpd hi).bind fun hi => (optO cOpd mx).bind fun mx => (P.underlying t).bind fun d => match d with
    | .string => if mx.isNone then some (.p (.slcStr x lo hi)) else none
    | .slice e => (szOf P e).map fun n => .p (.slcS n x lo hi mx)
    | .array n e => (szOf P e).map fun z => .p (.slcA n z x lo hi mx)
    | .pointer a => (P.underlying a).bind fun d => match d with
      | .array n e => (szOf P e).map fun z => .p (.slcA n z x lo hi mx)
      | _ => none
    | _ => none
  | .fieldAddr t x f => (cOpd x).bind fun x => (P.underlying t).bind fun d => match d with
    | .struct fs => (fieldAt P fs f).map fun p => .p (.fld p.1 x)
    | _ => none
  | .field t x f => (cOpd x).bind fun x => (P.underlying t).bind fun d => match d with
    | .struct fs => (fs[f]?).bind fun fd => (shOf P fd.type).map fun s => .p (.field s fd.offset x)
    | _ => none
  | .indexAddr t x i => (cOpd x).bind fun x => (cOpd i).bind fun i => (P.underlying t).bind fun d => match d with
    | .array n e => (szOf P e).map fun z => .p (.idxA n z x i)
    | .slice e => (szOf P e).map fun z => .p (.idxS z x i)
    | _ => none
  | .index t x i => (cOpd x).bind fun x => (cOpd i).bind fun i => (P.underlying t).bind fun d => match d with
    | .string => some (.p (.strIdx x i))
    | .array n e => (shOf P e).bind fun s => (szOf P e).bind fun z => if s.getD 1 = z then some (.p (.arrIdx n s x i)) else none
    | _ => none
  | .lookup t m k ok => (cOpd m).bind fun m => (cOpd k).bind fun k => (P.underlying t).bind fun d => match d with
    | .map kt et => (leafKind P kt).bind fun kk => (zeroOf P et).map fun z => .r (.look kk z m k ok)
    | _ => none
  | .mapUpdate t m k x | .insert t m k x => (cOpd m).bind fun m => (cOpd k).bind fun k => (cOpd x).bind fun x => (P.underlying t).bind fun d => match d with
    | .map kt _ => (leafKind P kt).map fun kk => .e (.mset kk m k x)
    | _ => none
  | .range t x => (cOpd x).bind fun x => (P.underlying t).bind fun d => match d with
    | .map _ _ => some (.e (.range x))
    | _ => none
  | .next it false => (cOpd it).map fun it => .e (.next it)
  | .entry it => (cOpd it).map fun it => .e (.entry it)
  | .typeAssert x _ t false => (cOpd x).bind fun x => (P.underlying t).bind fun d => match d with
    | .interface _ => none
    | _ => some (.p (.tass t x))
  | .extract t i => (cOpd t).map fun t => .p (.extract t i)
  | .call c => match c.callee with
    | .builtin b => cBuiltin P b c.args.toList c.argTypes
    | .value (.func f) => (P.funcs[f]?).bind fun fn =>
        if fn.name == "runtime.NumGoroutine" then none
        else if fn.body.isSome then (allO cOpd c.args.toList).map fun ls => .call f ls
        else if fn.origin = "" then cExtern fn.name c.args.toList else none
    | .value f => (cOpd f).bind fun f => (allO cOpd c.args.toList).map fun ls => .callv f ls
    | _ => none
  | _ => none

def cGuard (ops : Array Oper) : Option (Nat × Bool) → Option (Option (Nat × Bool))
  | none => some none
  | some (j, want) => ((ops[j]?).bind (·.dst)).map fun d => some (d, want)

def cOper (nt : Nat) (ops : Array Oper) (o : Oper) : Option AOp :=
  if o.dst.any (fun d => decide (nt ≤ d)) then none else
  (cGuard ops o.guard).map fun g => { dst := o.dst, op := (cOp P o.op).getD .bad, guard := g }

/- THE TEMPORARIES THAT AN OPERATION LOOKS AT -/
def Opd.ts : Opd → List Nat
  | .tmp t => [t]
  | _ => []
def tsO : Option Opd → List Nat
  | none => []
  | some x => x.ts
def tsL : List Opd → List Nat
  | [] => []
  | x :: r => x.ts ++ tsL r
def tsP : List (Nat × Nat × Opd) → List Nat
  | [] => []
  | x :: r => x.2.2.ts ++ tsP r
def P1.ts : P1 → List Nat
  | .mv x | .un _ x | .conv _ x | .field _ _ x | .extract x _ | .len _ x | .fld _ x | .s2ap _ x | .nilck x | .tass _ x | .mkI _ x => x.ts
  | .sel c a b => c.ts ++ (a.ts ++ b.ts)
  | .build _ ps => tsP ps
  | .bin _ x y | .eqk _ _ x y | .eqAgg _ _ x y | .strIdx x y | .arrIdx _ _ x y | .idxS _ x y | .idxA _ _ x y => x.ts ++ y.ts
  | .slcS _ x lo hi mx | .slcA _ _ x lo hi mx => x.ts ++ (tsO lo ++ (tsO hi ++ tsO mx))
  | .slcStr x lo hi => x.ts ++ (tsO lo ++ tsO hi)
  | .mkF _ a b => tsL a ++ tsL b
  | .minmax _ x r => x.ts ++ tsL r
def R1.ts : R1 → List Nat
  | .load _ x | .mlen x | .b2s x => x.ts
  | .look _ _ x k _ | .bcmp x k | .bidx x k => x.ts ++ k.ts
def N1.ts : N1 → List Nat
  | .alloc _ | .mkmap => []
  | .box x | .s2b x => x.ts
  | .bslice _ _ _ ps => tsP ps
  | .mkslice _ _ _ l c => l.ts ++ c.ts
def E1.ts : E1 → List Nat
  | .store _ x y | .append _ _ x y | .copy _ x y | .mdel _ x y => x.ts ++ y.ts
  | .mset _ x y z => x.ts ++ (y.ts ++ z.ts)
  | .range x | .next x | .entry x | .mclone x | .mark x => x.ts
def A1.ts : A1 → List Nat
  | .p q => q.ts
  | .r q => q.ts
  | .n q => q.ts
  | .e q => q.ts
  | .call _ l => tsL l
  | .callv x l => x.ts ++ tsL l
  | .bad => []
def AOp.looks (o : AOp) : List Nat := o.op.ts ++ match o.guard with | some g => [g.1] | none => []
def AOp.dsts (o : AOp) : List Nat := match o.dst with | some d => [d] | none => []

/-- does it leave alone what the heap holds? -/
def A1.calm : A1 → Bool
  | .p _ | .r _ | .n _ => true
  | _ => false
def A1.reads : A1 → Bool
  | .r _ => true
  | _ => false

/- REGIONS WHOSE ORDER IS DRAWN: one order for all. What leaves alone what the heap holds comes as early as it may; all else only where nothing else may come. -/
def bindsL (o : Oper) : List Nat := (o.after.toList.filter (Region.binds .any)).map (·.on)
def within (a b : Nat) : Bool := a &&& b == a
def bitOr (bits : List Nat) (l : List Nat) : Nat := l.foldl (fun s e => s ||| (2 ^ e ||| bits.getD e 0)) 0

/-- may it come early? it leaves alone what the heap holds, and writes no temporary that another one has looked at -/
def early (ls : List AOp) (bits : List Nat) (i : Nat) : Bool :=
  let o := ls.getD i default
  let b := bits.getD i 0
  o.op.calm && o.dsts.all fun d => !o.looks.contains d && (List.range ls.length).all fun r => !b.testBit r || !((ls.getD r default).looks ++ (ls.getD r default).dsts).contains d

/-- who comes next -/
def pickNext (ls : List AOp) (bits : List Nat) (done : Nat) : Option Nat :=
  let r := (List.range ls.length).filter fun i => !done.testBit i && within (bits.getD i 0) done
  match r.find? (early ls bits) with
  | some i => some i
  | none => r.head?
def orderOf (ls : List AOp) (bits : List Nat) : Nat → Nat → List Nat
  | 0, _ => []
  | n + 1, done => match pickNext ls bits done with
    | some i => i :: orderOf ls bits n (done ||| 2 ^ i)
    | none => []

/-- when one comes that may not come early, no other may come; and none writes where one looks that is still to come -/
def orderOk (ls : List AOp) (bits : List Nat) : Nat → List Nat → List Nat → Bool
  | done, _, [] => done == 2 ^ ls.length - 1
  | done, pre, i :: rest =>
    let o := ls.getD i default
    decide (i < ls.length) && !done.testBit i &&
    (o.dsts.all fun d => pre.all fun r => !((ls.getD r default).looks ++ (ls.getD r default).dsts).contains d || (!early ls bits i && (bits.getD i 0).testBit r)) &&
    (early ls bits i || rest.all fun j => !within (bits.getD j 0) done) &&
    orderOk ls bits (done ||| 2 ^ i) (i :: pre) rest

/-- whoever looks at another's temporary comes behind it; the edges say what may come -/
def pairsOk (ls : List AOp) (ops : List Oper) (bits : List Nat) : Bool :=
  (List.range ls.length).all fun j =>
    let o := ls.getD j default
    let b := bits.getD j 0
    let es := match ops[j]? with | some o => bindsL o | none => []
    (b == bitOr bits es) && (es.all fun e => decide (e < j)) &&
    (o.looks.all fun t => (List.range ls.length).all fun i => !(ls.getD i default).dsts.contains t || b.testBit i || !early ls bits i)

/-- those read earlier that needn't have been read -/
def rereads (ls : List AOp) (b : Nat) (pre : List Nat) : List AOp :=
  (pre.filter fun r => (ls.getD r default).op.reads && !b.testBit r).map fun r => ls.getD r default

def withChk (ls : List AOp) (bits : List Nat) : List Nat → List Nat → List (AOp × List AOp)
  | _, [] => []
  | pre, i :: rest => (ls.getD i default, if early ls bits i then [] else rereads ls (bits.getD i 0) pre) :: withChk ls bits (i :: pre) rest

def cDraw (ls : List AOp) (ops : List Oper) (bits : List Nat) : ACode :=
  let ord := orderOf ls bits ls.length 0
  if pairsOk ls ops bits && orderOk ls bits 0 [] ord then .dreg (withChk ls bits [] ord) else .bad

def cRegion (nt : Nat) (ops : Array Oper) (draw : Bool) : Option ACode :=
  (allO (cOper P nt ops) ops.toList).bind fun ls =>
    if draw then some (cDraw ls ops.toList (Region.before ops).toList) else some (.reg ls)

def cCode (nt : Nat) : Code → Option ACode
  | .skip => some .skip
  | .region _ ops draw => cRegion P nt ops draw
  | .seq a b => (cCode nt a).bind fun a => (cCode nt b).map fun b => .seq a b
  | .cond c x y => (cOpd c).bind fun c => (cCode nt x).bind fun x => (cCode nt y).map fun y => .cond c x y
  | .block id c => (cCode nt c).map fun c => .block id c
  | .loop c => (cCode nt c).map fun c => .loop c
  | .exit id => some (.exit id)
  | .ret => some .ret
  | .rangeFunc f ps a b => (cOpd f).bind fun f => (cCode nt a).bind fun a => (cCode nt b).map fun b => .rfun f ps.toList a b
  | _ => some .bad

def cRes (nt : Nat) : ResultVar → Option ARes
  | .tmp t => if t < nt then some (.tmp t) else none
  | .cell a t => if a < nt then (shOf P t).map fun s => .cell a s else none

def cFunc (fn : Func) : Option AFn :=
  if fn.name == "runtime.NumGoroutine" then none else
  fn.body.bind fun c => (cCode P fn.ntmps c).bind fun c => (allO (cRes P fn.ntmps) fn.results.toList).map fun r =>
    { nparams := fn.params.size + fn.nfree, ntmps := fn.ntmps, code := c, res := r }

end

inductive Ex where
  | nrm
  | exit (id : Nat)
  | ret
  deriving DecidableEq, Inhabited

/-- is an operation with this guard done? -/
def wanted (e : Env) : Option (Nat × Bool) → Bool
  | none => true
  | some (d, w) => match e d with
    | .bool b => b == w
    | _ => false

def resV (e : Env) (H : Obs) : ARes → Option V
  | .tmp t => some (e t)
  | .cell a sz => match e a with
    | .ptr s g o => rdVar H s g o sz
    | _ => none

def resVs (e : Env) (H : Obs) (rs : List ARes) : Option V :=
  (allO (resV e H) rs).map fun vs => match vs with
    | [v] => v
    | vs => .tup vs

end Go.Ab
