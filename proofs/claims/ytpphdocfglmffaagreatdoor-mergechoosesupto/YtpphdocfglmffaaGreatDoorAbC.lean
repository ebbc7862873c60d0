/- The abstract machine runs code: an evaluator over tries; no statement is proved here. -/
import Derived.Test.YtpphdocfglmffaaGreatDoorAbB
set_option linter.unusedVariables false
set_option linter.unusedSimpArgs false
namespace Go.Ab

/-- a trie by the bits of a number -/
inductive Tr (α : Type) where
  | nil
  | node (l : Tr α) (v : Option α) (r : Tr α)

def Tr.get {α : Type} : Tr α → Nat → Option α
  | .nil, _ => none
  | .node l v r, i => if i = 0 then v else if i % 2 = 1 then l.get (i / 2) else r.get (i / 2 - 1)

def Tr.put {α : Type} (a : α) : Nat → Tr α → Nat → Tr α
  | 0, t, _ => t
  | n + 1, .nil, i => if i = 0 then .node .nil (some a) .nil else if i % 2 = 1 then .node (Tr.put a n .nil (i / 2)) none .nil else .node .nil none (Tr.put a n .nil (i / 2 - 1))
  | n + 1, .node l v r, i => if i = 0 then .node l (some a) r else if i % 2 = 1 then .node (Tr.put a n l (i / 2)) v r else .node l v (Tr.put a n r (i / 2 - 1))

structure TH where
  tr : Tr Ob
  nx : Nat

abbrev TE := Tr V
def TE.env (e : TE) : Env := fun t => (e.get t).getD und
def TE.put (e : TE) (d : Option Nat) (v : V) : TE := match d with | some t => Tr.put v (t + 1) e t | none => e

def TH.set (h : TH) (i : Nat) (o : Ob) : TH := { h with tr := h.tr.put o (i + 1) i }
def TH.new (h : TH) (o : Ob) : TH := { tr := h.tr.put o (h.nx + 1) h.nx, nx := h.nx + 1 }

def HM.ev : HM → TH → Option (V × TH)
  | .ret v, h => some (v, h)
  | .fail, _ => none
  | .get i k, h => match h.tr.get i with
    | some o => (k o).ev h
    | none => none
  | .set i o k, h => k.ev (h.set i o)
  | .new o k, h => (k h.nx).ev (h.new o)
  | .pick n k, h => if n = 1 then (k 0).ev h else none

mutual
/-- surely the same? -/
def V.eqb : V → V → Bool
  | .bool a, .bool b => a == b
  | .int k a, .int j b => decide (k = j) && a == b
  | .str a, .str b => a == b
  | .nptr, .nptr | .nslc, .nslc | .nmap, .nmap | .nfn, .nfn | .nifc, .nifc => true
  | .ptr s g o, .ptr s' g' o' => s == s' && g == g' && o == o'
  | .slc s g o n c z, .slc s' g' o' n' c' z' => s == s' && g == g' && o == o' && n == n' && c == c' && z == z'
  | .map r, .map r' => r == r'
  | .it r, .it r' => r == r'
  | .fn (.func f) xs ys, .fn (.func f') xs' ys' => f == f' && V.eqbs xs xs' && V.eqbs ys ys'
  | .ifc t v, .ifc t' v' => t == t' && V.eqb v v'
  | .agg xs, .agg ys => V.eqbs xs ys
  | .tup xs, .tup ys => V.eqbs xs ys
  | _, _ => false
def V.eqbs : List V → List V → Bool
  | [], [] => true
  | x :: xs, y :: ys => V.eqb x y && V.eqbs xs ys
  | _, _ => false
end

abbrev CallF := Nat → List V → TH → Option (V × TH)

def evA (call : CallF) (e : Env) (o : A1) (h : TH) : Option (V × TH) :=
  match o with
  | .p o => (o.ev e).map fun v => (v, h)
  | .r o => (o.ev e h.tr.get).map fun v => (v, h)
  | .n o => (o.ev e).map fun r => (r.2 h.nx, h.new r.1)
  | .e o => (o.ev e).ev h
  | .call f args => call f (args.map (Opd.val e)) h
  | .callv f args => match f.val e with
    | .fn (.func f) first captured => call f (first ++ args.map (Opd.val e) ++ captured) h
    | _ => none
  | .bad => none

def evOps (call : CallF) : List AOp → TE → TH → Option (TE × TH)
  | [], e, h => some (e, h)
  | o :: r, e, h =>
    if wanted e.env o.guard then
      (evA call e.env o.op h).bind fun x => evOps call r (e.put o.dst x.1) x.2
    else evOps call r (e.put o.dst und) h

/-- is it read as before? -/
def still (e : TE) (h : TH) (o : AOp) : Bool :=
  if wanted e.env o.guard then match o.op with
    | .r q => match q.ev e.env h.tr.get with
      | some v => match o.dst with
        | some t => V.eqb v (e.env t)
        | none => true
      | none => false
    | _ => true
  else true

def evDraw (call : CallF) : List (AOp × List AOp) → TE → TH → Option (TE × TH)
  | [], e, h => some (e, h)
  | (o, chk) :: r, e, h =>
    if wanted e.env o.guard then
      (evA call e.env o.op h).bind fun x =>
        let e' := e.put o.dst x.1
        if chk.all (still e' x.2) then evDraw call r e' x.2 else none
    else evDraw call r (e.put o.dst und) h

def evCode (call : CallF) : Nat → ACode → TE → TH → Option (Ex × TE × TH)
  | 0, _, _, _ => none
  | n + 1, c, e, h => match c with
    | .skip => some (.nrm, e, h)
    | .reg ops => (evOps call ops e h).map fun x => (.nrm, x)
    | .dreg ops => (evDraw call ops e h).map fun x => (.nrm, x)
    | .seq a b => (evCode call n a e h).bind fun x => if x.1 = .nrm then evCode call n b x.2.1 x.2.2 else some x
    | .cond c x y => match c.val e.env with
      | .bool b => evCode call n (if b then x else y) e h
      | _ => none
    | .block id c => (evCode call n c e h).map fun x => if x.1 = .exit id then (.nrm, x.2) else x
    | .loop c => (evCode call n c e h).bind fun x => if x.1 = .nrm then evCode call n (.loop c) x.2.1 x.2.2 else some x
    | .exit id => some (.exit id, e, h)
    | .ret => some (.ret, e, h)
    | .rfun .. => none
    | .bad => none

def argEnv : List V → Nat → TE → TE
  | [], _, e => e
  | v :: r, i, e => argEnv r (i + 1) (Tr.put v (i + 1) e i)

def evCall (A : Nat → Option AFn) : Nat → CallF
  | 0, _, _, _ => none
  | n + 1, f, args, h => match A f with
    | none => none
    | some fn => (evCode (evCall A n) 1000000 fn.code (argEnv args 0 .nil) h).bind fun x =>
      match x.1 with
      | .exit _ => none
      | _ => (resVs x.2.1.env x.2.2.tr.get fn.res).map fun v => (v, x.2.2)

end Go.Ab
