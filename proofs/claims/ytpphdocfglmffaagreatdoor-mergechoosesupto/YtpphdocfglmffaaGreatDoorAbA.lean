/- The abstract machine: values, heaps, operations, code; no statement is proved here. -/
import Derived.Calls
import GoSem.Step
import Derived.Lib.Bytealg
set_option linter.unusedVariables false
set_option linter.unusedSimpArgs false
namespace Go.Ab

inductive V where
  | bool (b : Bool)
  | int (k : IntKind) (n : Int)
  | str (s : List UInt8)
  | nptr
  | ptr (s g o : Nat)
  | nslc
  | slc (s g o len cap e : Nat)
  | nmap
  | map (r : Nat)
  | fn (f : Fn) (first captured : List V)
  | nfn
  | ifc (t : TypeId) (v : V)
  | nifc
  | agg (cs : List V)
  | tup (vs : List V)
  | it (i : Nat)
  deriving Inhabited

/-- what stands in a slot that nothing has written -/
def und : V := .tup []

def V.cells : V → List V
  | .agg cs => cs
  | v => [v]

structure MEnt where
  key : V
  val : V
  born : Nat
  deriving Inhabited

inductive Ob where
  | sto (cells : List V) (old : List Nat) (dirty : Nat) (esz : Option Nat)
  | map (es : List MEnt) (clock : Nat)
  | mit (m : Option Nat) (since : Nat) (seen : List Nat) (stepped : Nat)
  deriving Inhabited

structure Hp where
  obj : Nat → Option Ob
  nx : Nat

def Hp.set (h : Hp) (i : Nat) (o : Ob) : Hp := { h with obj := fun j => if j = i then some o else h.obj j }
def Hp.new (h : Hp) (o : Ob) : Hp := { obj := fun j => if j = h.nx then some o else h.obj j, nx := h.nx + 1 }

abbrev Env := Nat → V
def Env.upd (e : Env) (t : Nat) (v : V) : Env := fun u => if u = t then v else e u
def Env.put (e : Env) (d : Option Nat) (v : V) : Env := match d with | some t => Env.upd e t v | none => e

inductive Opd where
  | tmp (t : Nat)
  | const (v : V)
  | func (f : Nat)
  deriving Inhabited

def Opd.val (e : Env) : Opd → V
  | .tmp t => e t
  | .const v => v
  | .func f => .fn (.func f) [] []

/-- kinds of values that are held against each other -/
inductive QK where
  | bool | ptr | slice | map | func | iface
  deriving DecidableEq, Inhabited

/-- kinds of leaves -/
inductive LK where
  | bool | int | str
  deriving DecidableEq, Inhabited

/- PURE OPERATIONS -/
inductive P1 where
  | mv (x : Opd)
  | sel (c a b : Opd)
  | build (zero : List V) (parts : List (Nat × Nat × Opd))
  | bin (op : BinOp) (x y : Opd)
  | eqk (neg : Bool) (q : QK) (x y : Opd)
  | eqAgg (neg : Bool) (ks : List LK) (x y : Opd)
  | un (op : UnOp) (x : Opd)
  | conv (k : IntKind) (x : Opd)
  | field (sz : Option Nat) (off : Nat) (x : Opd)
  | extract (x : Opd) (i : Nat)
  | len (str : Bool) (x : Opd)
  | strIdx (x i : Opd)
  | arrIdx (n : Nat) (sz : Option Nat) (x i : Opd)
  | idxS (sz : Nat) (x i : Opd)
  | idxA (n sz : Nat) (x i : Opd)
  | fld (off : Nat) (x : Opd)
  | slcS (sz : Nat) (x : Opd) (lo hi mx : Option Opd)
  | slcStr (x : Opd) (lo hi : Option Opd)
  | slcA (n sz : Nat) (x : Opd) (lo hi mx : Option Opd)
  | s2ap (n : Nat) (x : Opd)
  | nilck (x : Opd)
  | tass (t : TypeId) (x : Opd)
  | mkI (t : TypeId) (x : Opd)
  | mkF (f : Fn) (first captured : List Opd)
  | minmax (isMax : Bool) (x : Opd) (rest : List Opd)
  deriving Inhabited

/- READING OPERATIONS -/
inductive R1 where
  | load (sz : Option Nat) (x : Opd)
  | look (q : LK) (zero : V) (x k : Opd) (ok : Bool)
  | mlen (x : Opd)
  | b2s (x : Opd)
  | bcmp (a b : Opd)
  | bidx (a c : Opd)
  deriving Inhabited

/- ALLOCATING OPERATIONS -/
inductive N1 where
  | alloc (zero : List V)
  | box (x : Opd)
  | bslice (sz : Nat) (cells : List V) (len : Nat) (parts : List (Nat × Nat × Opd))
  | mkslice (sz bytes : Nat) (zero : List V) (len cap : Opd)
  | mkmap
  | s2b (x : Opd)
  deriving Inhabited

/- OPERATIONS THAT WRITE -/
inductive E1 where
  | store (sz : Nat) (a x : Opd)
  | append (sz bytes : Nat) (s x : Opd)
  | copy (sz : Nat) (d s : Opd)
  | mset (q : LK) (m k x : Opd)
  | mdel (q : LK) (m k : Opd)
  | range (x : Opd)
  | next (it : Opd)
  | entry (it : Opd)
  | mclone (x : Opd)
  | mark (x : Opd)
  deriving Inhabited

inductive A1 where
  | p (o : P1)
  | r (o : R1)
  | n (o : N1)
  | e (o : E1)
  | call (f : Nat) (args : List Opd)
  | callv (f : Opd) (args : List Opd)
  | bad
  deriving Inhabited

structure AOp where
  dst : Option Nat
  op : A1
  guard : Option (Nat × Bool)
  deriving Inhabited

inductive ACode where
  | skip
  | reg (ops : List AOp)
  | dreg (ops : List (AOp × List AOp))
  | seq (a b : ACode)
  | cond (c : Opd) (x y : ACode)
  | block (id : Nat) (c : ACode)
  | loop (c : ACode)
  | exit (id : Nat)
  | ret
  | rfun (f : Opd) (params : List Nat) (assign body : ACode)
  | bad
  deriving Inhabited

inductive ARes where
  | tmp (t : Nat)
  | cell (a : Nat) (sz : Option Nat)
  deriving Inhabited

structure AFn where
  nparams : Nat
  ntmps : Nat
  code : ACode
  res : List ARes
  deriving Inhabited

/- MEANING OF THE PURE OPERATIONS -/

/-- are two values of one kind the same? None where this machine doesn't say. -/
def eqk (q : QK) (x y : V) : Option Bool :=
  match q, x, y with
  | .bool, .bool a, .bool b => some (a == b)
  | .ptr, .nptr, .nptr => some true
  | .ptr, .nptr, .ptr .. => some false
  | .ptr, .ptr .., .nptr => some false
  | .slice, .nslc, .nslc => some true
  | .slice, .nslc, .slc .. => some false
  | .slice, .slc .., .nslc => some false
  | .map, .nmap, .nmap => some true
  | .map, .nmap, .map _ => some false
  | .map, .map _, .nmap => some false
  | .func, .nfn, .nfn => some true
  | .func, .nfn, .fn .. => some false
  | .func, .fn .., .nfn => some false
  | .iface, .nifc, .ifc .. => some false
  | .iface, .ifc .., .nifc => some false
  | _, _, _ => none

/-- the parts of two structs or arrays, one by one: leaves alone -/
def eqvs : List LK → List V → List V → Option Bool
  | [], [], [] => some true
  | .int :: ks, .int k a :: xs, .int k' b :: ys => if k = k' then (if a == b then eqvs ks xs ys else some false) else none
  | .bool :: ks, .bool a :: xs, .bool b :: ys => if a == b then eqvs ks xs ys else some false
  | .str :: ks, .str a :: xs, .str b :: ys => if a == b then eqvs ks xs ys else some false
  | _, _, _ => none

def ltB : List UInt8 → List UInt8 → Bool
  | _, [] => false
  | [], _ :: _ => true
  | a :: x, b :: y => decide (a < b) || (a == b && ltB x y)

def bitI (op : BinOp) (k : IntKind) (x y : Int) : Option Int :=
  let a := BitVec.ofInt k.bits x
  let b := BitVec.ofInt k.bits y
  match op with
  | .and => some (k.wrap (a &&& b).toNat)
  | .or => some (k.wrap (a ||| b).toNat)
  | .xor => some (k.wrap (a ^^^ b).toNat)
  | .andNot => some (k.wrap (a &&& ~~~b).toNat)
  | _ => none

def bin (op : BinOp) : V → V → Option V
  | .int k a, .int k' b =>
    match op with
    | .shl => if b < 0 then none else some (.int k (k.wrap (a * 2 ^ (min b.toNat k.bits))))
    | .shr => if b < 0 then none else some (.int k (a.fdiv (2 ^ (min b.toNat k.bits))))
    | _ =>
      if k ≠ k' then none else
      match op with
      | .add => some (.int k (k.wrap (a + b)))
      | .sub => some (.int k (k.wrap (a - b)))
      | .mul => some (.int k (k.wrap (a * b)))
      | .quo => if b = 0 then none else some (.int k (k.wrap (a.tdiv b)))
      | .rem => if b = 0 then none else some (.int k (a.tmod b))
      | .eql => some (.bool (a == b))
      | .neq => some (.bool (a != b))
      | .lss => some (.bool (decide (a < b)))
      | .leq => some (.bool (decide (a ≤ b)))
      | .gtr => some (.bool (decide (a > b)))
      | .geq => some (.bool (decide (a ≥ b)))
      | o => (bitI o k a b).map (.int k)
  | .str a, .str b =>
    match op with
    | .add => if a.length + b.length ≤ 9223372036854775807 then some (.str (a ++ b)) else none
    | .eql => some (.bool (a == b))
    | .neq => some (.bool (!(a == b)))
    | .lss => some (.bool (ltB a b))
    | .leq => some (.bool (ltB a b || a == b))
    | .gtr => some (.bool (!(ltB a b || a == b)))
    | .geq => some (.bool (!ltB a b))
    | _ => none
  | _, _ => none

def un (op : UnOp) : V → Option V
  | .int k n =>
    match op with
    | .neg => some (.int k (k.wrap (0 - n)))
    | .xor => (bitI .xor k (if k.signed then -1 else k.max) n).map (.int k)
    | _ => none
  | .bool b => match op with | .not => some (.bool !b) | _ => none
  | _ => none

def asI : V → Option Int
  | .int _ n => some n
  | _ => none

/-- a bound of a slice expression -/
def bnd (e : Env) (x : Option Opd) (dflt top : Nat) : Option Nat :=
  match x with
  | none => some dflt
  | some o => (asI (o.val e)).bind fun i => if 0 ≤ i ∧ i ≤ (top : Int) then some i.toNat else none

/-- low, high, max of a slice expression -/
def bnds (e : Env) (len cap : Nat) (lo hi mx : Option Opd) : Option (Nat × Nat × Nat) :=
  (bnd e mx cap cap).bind fun m =>
    (if mx.isSome && hi.isNone then none else bnd e hi len m).bind fun h =>
      (bnd e lo 0 h).bind fun l => some (l, h, m)

/-- a part of cells -/
def cut (cs : List V) (off : Nat) (sz : Option Nat) : Option V :=
  match sz with
  | none => cs[off]?
  | some n => if off + n ≤ cs.length then some (.agg ((cs.drop off).take n)) else none

/-- cells laid over cells -/
def over (cs : List V) (off : Nat) (vs : List V) : List V := cs.take off ++ vs ++ cs.drop (off + vs.length)

def fillAll (e : Env) (cells : List V) : List (Nat × Nat × Opd) → Option (List V)
  | [] => some cells
  | (off, sz, x) :: rest =>
    let vs := (x.val e).cells
    if vs.length = sz ∧ off + sz ≤ cells.length then fillAll e (over cells off vs) rest else none

def byteAt (s : List UInt8) (i : Int) : Option V :=
  if 0 ≤ i then (s[i.toNat]?).map fun b => .int .u8 b.toNat else none

def minmax (isMax : Bool) : V → V → Option V
  | .int k x, .int k' y => if k = k' then some (.int k (if isMax then (if y > x then y else x) else (if y < x then y else x))) else none
  | _, _ => none

def minmaxs (isMax : Bool) (x : V) : List V → Option V
  | [] => some x
  | y :: r => (minmax isMax x y).bind fun z => minmaxs isMax z r

def P1.ev (e : Env) : P1 → Option V
  | .mv x => some (x.val e)
  | .sel c a b => match c.val e with
    | .bool t => some (if t then a.val e else b.val e)
    | _ => none
  | .build zero parts => (fillAll e zero parts).map .agg
  | .bin op x y => Ab.bin op (x.val e) (y.val e)
  | .eqk neg q x y => (Ab.eqk q (x.val e) (y.val e)).map fun t => .bool (if neg then !t else t)
  | .eqAgg neg ks x y => match x.val e, y.val e with
    | .agg a, .agg b => (eqvs ks a b).map fun t => .bool (if neg then !t else t)
    | _, _ => none
  | .un op x => Ab.un op (x.val e)
  | .conv k x => (asI (x.val e)).map fun n => .int k (k.wrap n)
  | .field sz off x => match x.val e with
    | .agg cs => cut cs off sz
    | _ => none
  | .extract x i => match x.val e with
    | .tup vs => vs[i]?
    | _ => none
  | .len str x =>
    if str then (match x.val e with
      | .str s => some (.int .i64 s.length)
      | _ => none)
    else (match x.val e with
      | .nslc => some (.int .i64 0)
      | .slc _ _ _ n _ _ => some (.int .i64 n)
      | _ => none)
  | .strIdx x i => match x.val e with
    | .str s => (asI (i.val e)).bind fun j => byteAt s j
    | _ => none
  | .arrIdx n sz x i => match x.val e with
    | .agg cs => (asI (i.val e)).bind fun j => if 0 ≤ j ∧ j < (n : Int) then cut cs (j.toNat * sz.getD 1) sz else none
    | _ => none
  | .idxS sz x i => match x.val e with
    | .slc s g o n _ _ => (asI (i.val e)).bind fun j => if 0 ≤ j ∧ j < (n : Int) then some (.ptr s g (o + j.toNat * sz)) else none
    | _ => none
  | .idxA n sz x i => match x.val e with
    | .ptr s g o => (asI (i.val e)).bind fun j => if 0 ≤ j ∧ j < (n : Int) then some (.ptr s g (o + j.toNat * sz)) else none
    | _ => none
  | .fld off x => match x.val e with
    | .ptr s g o => some (.ptr s g (o + off))
    | _ => none
  | .slcS sz x lo hi mx => match x.val e with
    | .nslc => (bnds e 0 0 lo hi mx).map fun _ => .nslc
    | .slc s g o n c z => if z = sz then (bnds e n c lo hi mx).map fun r => .slc s g (o + r.1 * sz) (r.2.1 - r.1) (r.2.2 - r.1) sz else none
    | _ => none
  | .slcStr x lo hi => match x.val e with
    | .str s => (bnds e s.length s.length lo hi none).map fun r => .str ((s.drop r.1).take (r.2.1 - r.1))
    | _ => none
  | .slcA n sz x lo hi mx => match x.val e with
    | .ptr s g o => (bnds e n n lo hi mx).map fun r => .slc s g (o + r.1 * sz) (r.2.1 - r.1) (r.2.2 - r.1) sz
    | _ => none
  | .s2ap n x => match x.val e with
    | .slc s g o ln _ _ => if 0 < n ∧ n ≤ ln then some (.ptr s g o) else none
    | _ => none
  | .nilck x => match x.val e with
    | .ptr s g o => some (.ptr s g o)
    | .fn (.func f) a b => some (.fn (.func f) a b)
    | _ => none
  | .tass t x => match x.val e with
    | .ifc u v => if u = t then some v else none
    | _ => none
  | .mkI t x => some (.ifc t (x.val e))
  | .mkF f first captured => some (.fn f (first.map (Opd.val e)) (captured.map (Opd.val e)))
  | .minmax m x rest => minmaxs m (x.val e) (rest.map (Opd.val e))

/- MEANING OF THE READING OPERATIONS: over the objects as a function -/
abbrev Obs := Nat → Option Ob

/-- how many cells generation g sees -/
def genSize (cells : List V) (old : List Nat) (g : Nat) : Nat :=
  if g = old.length then cells.length else if g < old.length then old.getD (old.length - 1 - g) 0 else 0

def rdCells (cells : List V) (old : List Nat) (dirty g o n : Nat) : Option (List V) :=
  if dirty ≤ g ∧ o + n ≤ genSize cells old g ∧ o + n ≤ cells.length then some ((cells.drop o).take n) else none

/-- n cells of a storage from a place on, as generation g sees them -/
def rdAt (H : Obs) (s g o n : Nat) : Option (List V) :=
  match H s with
  | some (.sto cells old dirty _) => rdCells cells old dirty g o n
  | _ => none

def rdVar (H : Obs) (s g o : Nat) (sz : Option Nat) : Option V :=
  match sz with
  | none => match rdAt H s g o 1 with
    | some [v] => some v
    | _ => none
  | some n => (rdAt H s g o n).map .agg

def bytesV : List V → Option (List UInt8)
  | [] => some []
  | .int .u8 n :: r => (bytesV r).map fun l => UInt8.ofNat n.toNat :: l
  | _ :: _ => none

/-- the bytes of a string or of a slice of bytes -/
def bytesOf (H : Obs) : V → Option (List UInt8)
  | .str s => some s
  | .nslc => some []
  | .slc s g o n _ _ => (rdAt H s g o n).bind bytesV
  | _ => none

def keyEq : LK → V → V → Option Bool
  | .bool, .bool a, .bool b => some (a == b)
  | .int, .int k a, .int k' b => if k = k' then some (a == b) else none
  | .str, .str a, .str b => some (a == b)
  | _, _, _ => none

def findEnt (q : LK) (k : V) : List MEnt → Nat → Option (Option (Nat × V))
  | [], _ => some none
  | x :: r, i => match keyEq q k x.key with
    | some true => some (some (i, x.val))
    | some false => findEnt q k r (i + 1)
    | none => none

/-- the entries of a map; none of a nil one -/
def entsOf (H : Obs) : V → Option (List MEnt)
  | .nmap => some []
  | .map r => match H r with
    | some (.map es _) => some es
    | _ => none
  | _ => none

def R1.ev (e : Env) (H : Obs) : R1 → Option V
  | .load sz x => match x.val e with
    | .ptr s g o => rdVar H s g o sz
    | _ => none
  | .look q zero x k ok => (entsOf H (x.val e)).bind fun es => (findEnt q (k.val e) es 0).bind fun r =>
      match r with
      | some (_, v) => some (if ok then .tup [v, .bool true] else v)
      | none => some (if ok then .tup [zero, .bool false] else zero)
  | .mlen x => (entsOf H (x.val e)).map fun es => .int .i64 es.length
  | .b2s x => match x.val e with
    | .str _ => none
    | v => (bytesOf H v).map .str
  | .bcmp a b => (bytesOf H (a.val e)).bind fun x => (bytesOf H (b.val e)).map fun y => .int .i64 (Lib.compareBytes x y)
  | .bidx a c => (bytesOf H (a.val e)).bind fun x => match c.val e with
    | .int .u8 n => some (.int .i64 (Lib.indexByte x (UInt8.ofNat n.toNat)))
    | _ => none

/- MEANING OF THE ALLOCATING OPERATIONS: the new object, and the value out of its number -/
def reps (zero : List V) : Nat → List V
  | 0 => []
  | n + 1 => zero ++ reps zero n

def N1.ev (e : Env) : N1 → Option (Ob × (Nat → V))
  | .alloc zero => some (.sto zero [] 0 none, fun i => .ptr i 0 0)
  | .box x => some (.sto (x.val e).cells [] 0 none, fun i => .ptr i 0 0)
  | .bslice sz cells ln parts => (fillAll e cells parts).map fun cs => (.sto cs [] 0 none, fun i => .slc i 0 0 ln ln sz)
  | .mkslice sz bytes zero ln cp => (asI (ln.val e)).bind fun l => (asI (cp.val e)).bind fun c =>
      if 0 ≤ l ∧ l ≤ c ∧ c * bytes ≤ 281474976710656 ∧ c < 9223372036854775808 ∧ zero.length = sz then some (.sto (reps zero c.toNat) [] 0 none, fun i => .slc i 0 0 l.toNat c.toNat sz) else none
  | .mkmap => some (.map [] 0, fun i => .map i)
  | .s2b x => match x.val e with
    | .str s => some (.sto (s.map fun b => .int .u8 b.toNat) [] 0 (some 1), fun i => .slc i 0 0 s.length s.length 1)
    | _ => none

/- MEANING OF THE OPERATIONS THAT WRITE -/
inductive HM where
  | ret (v : V)
  | fail
  | get (i : Nat) (k : Ob → HM)
  | set (i : Nat) (o : Ob) (k : HM)
  | new (o : Ob) (k : Nat → HM)
  | pick (n : Nat) (k : Nat → HM)

/-- is it a value of one cell? -/
def V.leaf : V → Bool
  | .agg _ | .tup _ => false
  | _ => true

/-- may generation g write? then the storage with cells laid over it -/
def wrAt (cells : List V) (old : List Nat) (dirty : Nat) (esz : Option Nat) (g o : Nat) (vs : List V) : Option Ob :=
  if g = old.length ∧ o + vs.length ≤ cells.length ∧ vs.all V.leaf = true then some (.sto (over cells o vs) old (if old.length = 0 then dirty else old.length) esz) else none

def optM : Option HM → HM
  | some m => m
  | none => .fail

/-- the cells that are to be appended or copied: n elements -/
def srcCells (x : V) (sz : Nat) (k : Nat → List V → HM) : HM :=
  match x with
  | .str s => if sz = 1 then k s.length (s.map fun b => .int .u8 b.toNat) else .fail
  | .nslc => k 0 []
  | .slc s g o n _ _ => .get s fun ob => match ob with
    | .sto cells old dirty _ => match rdCells cells old dirty g o (n * sz) with
      | some vs => k n vs
      | none => .fail
    | _ => .fail
  | _ => .fail

def E1.ev (e : Env) : E1 → HM
  | .store sz a x => match a.val e with
    | .ptr s g o => .get s fun ob => match ob with
      | .sto cells old dirty esz =>
        if (x.val e).cells.length = sz then (match wrAt cells old dirty esz g o (x.val e).cells with | some o' => .set s o' (.ret und) | none => .fail) else .fail
      | _ => .fail
    | _ => .fail
  | .append sz bytes s x =>
    if sz = 0 then .fail else
    match s.val e with
    | .nslc => srcCells (x.val e) sz fun n vs =>
        if n = 0 then .ret .nslc else if n * bytes ≤ 1099511627776 then .new (.sto vs [] 0 (some sz)) fun i => .ret (.slc i 0 0 n n sz) else .fail
    | .slc t g o len cap z => if z ≠ sz then .fail else srcCells (x.val e) sz fun n vs =>
      .get t fun ob => match ob with
      | .sto cells old dirty esz =>
        if len + n ≤ cap then
          (if n = 0 then .ret (.slc t g o len cap sz) else
           match wrAt cells old dirty esz g (o + len * sz) vs with
           | some o' => .set t o' (.ret (.slc t g o (len + n) cap sz))
           | none => .fail)
        else if (len + n) * bytes ≤ 1099511627776 then
          match rdCells cells old dirty g o (len * sz) with
          | none => .fail
          | some us =>
            if esz = none ∨ (g = old.length ∧ esz = some sz ∧ o + cap * sz < cells.length) then
              .new (.sto (us ++ vs) [] 0 (some sz)) fun i => .ret (.slc i 0 0 (len + n) (len + n) sz)
            else if 0 < cap ∧ g = old.length ∧ esz = some sz ∧ vs.all V.leaf = true then
              .set t (.sto (cells.take (o + len * sz) ++ vs) (cells.length :: old) (if len = cap then dirty else old.length + 1) esz) (.ret (.slc t (old.length + 1) o (len + n) (len + n) sz))
            else .fail
        else .fail
      | _ => .fail
    | _ => .fail
  | .copy sz d s =>
    if sz = 0 then .fail else
    match d.val e with
    | .nslc => srcCells (s.val e) sz fun _ _ => .ret (.int .i64 0)
    | .slc t g o len _ _ => srcCells (s.val e) sz fun n vs =>
      .get t fun ob => match ob with
      | .sto cells old dirty esz =>
        if min n len = 0 then .ret (.int .i64 0) else
        match wrAt cells old dirty esz g o (vs.take (min n len * sz)) with
        | some o' => .set t o' (.ret (.int .i64 (min n len : Nat)))
        | none => .fail
      | _ => .fail
    | _ => .fail
  | .mset q m k x => match m.val e with
    | .map r => .get r fun ob => match ob with
      | .map es clock => match findEnt q (k.val e) es 0 with
        | some (some (i, _)) => .set r (.map (es.modify i fun y => { y with key := k.val e, val := x.val e }) clock) (.ret und)
        | some none => if (keyEq q (k.val e) (k.val e)).isSome then .set r (.map (es ++ [{ key := k.val e, val := x.val e, born := clock }]) (clock + 1)) (.ret und) else .fail
        | none => .fail
      | _ => .fail
    | _ => .fail
  | .mdel q m k => match m.val e with
    | .nmap => .ret (.tup [])
    | .map r => .get r fun ob => match ob with
      | .map es clock => match findEnt q (k.val e) es 0 with
        | some (some (i, _)) => .set r (.map (es.eraseIdx i) clock) (.ret (.tup []))
        | some none => .ret (.tup [])
        | none => .fail
      | _ => .fail
    | _ => .fail
  | .range x => match x.val e with
    | .nmap => .new (.mit none 0 [] 0) fun i => .ret (.it i)
    | .map m => .get m fun ob => match ob with
      | .map _ clock => .new (.mit (some m) clock [] clock) fun i => .ret (.it i)
      | _ => .fail
    | _ => .fail
  | .next it => match it.val e with
    | .it i => .get i fun ob => match ob with
      | .mit none _ _ _ => .ret (.tup [.bool false])
      | .mit (some m) since seen last => .get m fun ob' => match ob' with
        | .map es clock =>
          if last < since then .fail else
          if es.any (fun x => decide (x.born ≥ since)) then .fail else
          let left := es.filter fun x => !seen.contains x.born
          if left.length = 0 then .ret (.tup [.bool false]) else
          .pick left.length fun c => match left[c]? with
            | some x => .set i (.mit (some m) since (seen ++ [x.born]) clock) (.ret (.tup [.bool true, x.key, x.val]))
            | none => .fail
        | _ => .fail
      | _ => .fail
    | _ => .fail
  | .entry it => match it.val e with
    | .it i => .get i fun ob => match ob with
      | .mit (some m) _ seen stepped => .get m fun ob' => match ob' with
        | .map es clock => if clock ≠ stepped then .fail else
          match seen.getLast? with
          | some b => match es.find? (fun x => x.born == b) with
            | some x => .ret (.tup [x.key, x.val])
            | none => .fail
          | none => .fail
        | _ => .fail
      | _ => .fail
    | _ => .fail
  | .mark x => match x.val e with
    | .slc s g o n c z => .get s fun ob => match ob with
      | .sto _ old _ _ => if 0 < c ∧ g = old.length then .ret (.slc s g o n c z) else .fail
      | _ => .fail
    | _ => .fail
  | .mclone x => match x.val e with
    | .ifc t (.map r) => .get r fun ob => match ob with
      | .map es clock => .new (.map es clock) fun i => .ret (.ifc t (.map i))
      | _ => .fail
    | _ => .fail

end Go.Ab
