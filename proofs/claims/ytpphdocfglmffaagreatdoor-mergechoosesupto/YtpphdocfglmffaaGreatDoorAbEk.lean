/- The evaluator once more, in passing style: all that is passed on has been worked out, so that the kernel keeps little. -/
import Derived.Test.YtpphdocfglmffaaGreatDoorAbTab
set_option linter.unusedVariables false
set_option linter.unusedSimpArgs false
set_option linter.unusedSimpArgs false
namespace Go.Ab
open Go.RowKit (Below)

section
variable {R : Type}

def natK (n : Nat) (k : Nat → R) : R := match n with | 0 => k 0 | p + 1 => k (Nat.succ p)
theorem natK_eq (n : Nat) (k : Nat → R) : natK n k = k n := by cases n <;> rfl

def natsK : List Nat → (List Nat → R) → R
  | [], k => k []
  | n :: r, k => natK n fun n => natsK r fun r => k (n :: r)
theorem natsK_eq : ∀ (l : List Nat) (k : List Nat → R), natsK l k = k l
  | [], _ => rfl
  | n :: r, k => by simp only [natsK, natK_eq, natsK_eq r]

def intK (z : Int) (k : Int → R) : R := match z with | .ofNat n => natK n fun n => k (.ofNat n) | .negSucc n => natK n fun n => k (.negSucc n)
theorem intK_eq (z : Int) (k : Int → R) : intK z k = k z := by cases z <;> simp only [intK, natK_eq]

def boolK (b : Bool) (k : Bool → R) : R := match b with | true => k true | false => k false
theorem boolK_eq (b : Bool) (k : Bool → R) : boolK b k = k b := by cases b <;> rfl

mutual
def V.fc : V → (V → R) → R
  | .bool b, k => boolK b fun b => k (.bool b)
  | .int s n, k => intK n fun n => k (.int s n)
  | .ptr s g o, k => natK s fun s => natK g fun g => natK o fun o => k (.ptr s g o)
  | .slc s g o n c z, k => natK s fun s => natK g fun g => natK o fun o => natK n fun n => natK c fun c => natK z fun z => k (.slc s g o n c z)
  | .map r, k => natK r fun r => k (.map r)
  | .it r, k => natK r fun r => k (.it r)
  | .fn f a b, k => V.fcs a fun a => V.fcs b fun b => k (.fn f a b)
  | .ifc t v, k => V.fc v fun v => k (.ifc t v)
  | .agg cs, k => V.fcs cs fun cs => k (.agg cs)
  | .tup cs, k => V.fcs cs fun cs => k (.tup cs)
  | .str s, k => k (.str s)
  | .nptr, k => k .nptr
  | .nslc, k => k .nslc
  | .nmap, k => k .nmap
  | .nfn, k => k .nfn
  | .nifc, k => k .nifc
def V.fcs : List V → (List V → R) → R
  | [], k => k []
  | x :: r, k => V.fc x fun x => V.fcs r fun r => k (x :: r)
end
mutual
theorem V.fc_eq : ∀ (v : V) (k : V → R), V.fc v k = k v
  | .bool b, k => by simp only [V.fc, boolK_eq]
  | .int s n, k => by simp only [V.fc, intK_eq]
  | .ptr s g o, k => by simp only [V.fc, natK_eq]
  | .slc s g o n c z, k => by simp only [V.fc, natK_eq]
  | .map r, k => by simp only [V.fc, natK_eq]
  | .it r, k => by simp only [V.fc, natK_eq]
  | .fn f a b, k => by simp only [V.fc, V.fcs_eq]
  | .ifc t v, k => by simp only [V.fc, V.fc_eq]
  | .agg cs, k => by simp only [V.fc, V.fcs_eq]
  | .tup cs, k => by simp only [V.fc, V.fcs_eq]
  | .str s, k => by simp only [V.fc]
  | .nptr, k => by simp only [V.fc]
  | .nslc, k => by simp only [V.fc]
  | .nmap, k => by simp only [V.fc]
  | .nfn, k => by simp only [V.fc]
  | .nifc, k => by simp only [V.fc]
theorem V.fcs_eq : ∀ (l : List V) (k : List V → R), V.fcs l k = k l
  | [], k => by simp only [V.fcs]
  | x :: r, k => by simp only [V.fcs, V.fc_eq x, V.fcs_eq r]
end

def listK {α : Type} : List α → (List α → R) → R
  | [], k => k []
  | x :: r, k => listK r fun r => k (x :: r)
theorem listK_eq {α : Type} : ∀ (l : List α) (k : List α → R), listK l k = k l
  | [], _ => rfl
  | x :: r, k => by simp only [listK, listK_eq r]
/-- as far as the spine of what it is made of -/
def V.sp (v : V) : (V → R) → R := match v with
  | .bool b => fun k => boolK b fun b => k (.bool b)
  | .int s n => fun k => intK n fun n => k (.int s n)
  | .ptr s g o => fun k => natK s fun s => natK g fun g => natK o fun o => k (.ptr s g o)
  | .slc s g o n c z => fun k => natK s fun s => natK g fun g => natK o fun o => natK n fun n => natK c fun c => natK z fun z => k (.slc s g o n c z)
  | .agg cs => fun k => listK cs fun cs => k (.agg cs)
  | .tup cs => fun k => listK cs fun cs => k (.tup cs)
  | v => V.fc v
theorem V.sp_eq (v : V) (k : V → R) : V.sp v k = k v := by
  cases v <;> simp only [V.sp, natK_eq, intK_eq, boolK_eq, listK_eq, V.fc_eq]
/-- as far as its head -/
def V.hd (v : V) (k : V → R) : R := match v with
  | .agg cs => k (.agg cs)
  | .tup cs => k (.tup cs)
  | .str s => k (.str s)
  | .fn a b c => k (.fn a b c)
  | .ifc t w => k (.ifc t w)
  | v => V.sp v k
theorem V.hd_eq (v : V) (k : V → R) : V.hd v k = k v := by
  cases v <;> simp only [V.hd, V.sp_eq]
def V.sps : List V → (List V → R) → R
  | [], k => k []
  | x :: r, k => V.hd x fun x => V.sps r fun r => k (x :: r)
theorem V.sps_eq : ∀ (l : List V) (k : List V → R), V.sps l k = k l
  | [], k => by simp only [V.sps]
  | x :: r, k => by simp only [V.sps, V.hd_eq x, V.sps_eq r]

def entsK : List MEnt → (List MEnt → R) → R
  | [], k => k []
  | ⟨a, b, n⟩ :: r, k => V.fc a fun a => V.fc b fun b => natK n fun n => entsK r fun r => k (⟨a, b, n⟩ :: r)
theorem entsK_eq : ∀ (l : List MEnt) (k : List MEnt → R), entsK l k = k l
  | [], k => rfl
  | ⟨a, b, n⟩ :: r, k => by simp only [entsK, V.fc_eq, natK_eq, entsK_eq r]

def obK : Ob → (Ob → R) → R
  | .sto cs old d z, k => listK cs fun cs => natsK old fun old => natK d fun d => k (.sto cs old d z)
  | .map es c, k => entsK es fun es => natK c fun c => k (.map es c)
  | .mit m s l n, k => natK s fun s => natsK l fun l => natK n fun n => k (.mit m s l n)
theorem obK_eq (o : Ob) (k : Ob → R) : obK o k = k o := by
  cases o <;> simp only [obK, listK_eq, natsK_eq, natK_eq, entsK_eq]

def Tr.putK {α : Type} (a : α) : Nat → Tr α → Nat → (Tr α → R) → R
  | 0, t, _, k => k t
  | n + 1, .nil, i, k => match Nat.beq i 0 with
    | true => k (.node .nil (some a) .nil)
    | false => match Nat.beq (Nat.mod i 2) 1 with
      | true => Tr.putK a n .nil (Nat.div i 2) fun t => k (.node t none .nil)
      | false => Tr.putK a n .nil (Nat.sub (Nat.div i 2) 1) fun t => k (.node .nil none t)
  | n + 1, .node l v r, i, k => match Nat.beq i 0 with
    | true => k (.node l (some a) r)
    | false => match Nat.beq (Nat.mod i 2) 1 with
      | true => Tr.putK a n l (Nat.div i 2) fun t => k (.node t v r)
      | false => Tr.putK a n r (Nat.sub (Nat.div i 2) 1) fun t => k (.node l v t)

theorem beq_match {β : Sort _} (i j : Nat) (x y : β) : (match Nat.beq i j with | true => x | false => y) = if i = j then x else y := by
  by_cases h : i = j
  · subst h; simp
  · rw [if_neg h]
    have : Nat.beq i j = false := by
      cases hb : Nat.beq i j
      · rfl
      · exact absurd (Nat.eq_of_beq_eq_true hb) h
    rw [this]

theorem Tr.putK_eq {α : Type} (a : α) : ∀ (n : Nat) (t : Tr α) (i : Nat) (k : Tr α → R), Tr.putK a n t i k = k (Tr.put a n t i)
  | 0, t, _, k => rfl
  | n + 1, .nil, i, k => by
    simp only [Tr.putK, Tr.put, beq_match, Tr.putK_eq a n, show Nat.mod i 2 = i % 2 from rfl, show Nat.div i 2 = i / 2 from rfl, show Nat.sub (i / 2) 1 = i / 2 - 1 from rfl]
    split
    · rfl
    · split <;> rfl
  | n + 1, .node l v r, i, k => by
    simp only [Tr.putK, Tr.put, beq_match, Tr.putK_eq a n, show Nat.mod i 2 = i % 2 from rfl, show Nat.div i 2 = i / 2 from rfl, show Nat.sub (i / 2) 1 = i / 2 - 1 from rfl]
    split
    · rfl
    · split <;> rfl

end

def Tr.getK {α : Type} : Tr α → Nat → Option α
  | .nil, _ => none
  | .node l v r, i => match Nat.beq i 0 with
    | true => v
    | false => match Nat.beq (Nat.mod i 2) 1 with
      | true => l.getK (Nat.div i 2)
      | false => r.getK (Nat.sub (Nat.div i 2) 1)
theorem Tr.getK_eq {α : Type} : ∀ (t : Tr α) (i : Nat), t.getK i = t.get i
  | .nil, _ => rfl
  | .node l v r, i => by simp only [Tr.getK, Tr.get, beq_match, Tr.getK_eq l, Tr.getK_eq r, show Nat.mod i 2 = i % 2 from rfl, show Nat.div i 2 = i / 2 from rfl, show Nat.sub (i / 2) 1 = i / 2 - 1 from rfl]
theorem Tr.getK_fun {α : Type} (t : Tr α) : t.getK = t.get := funext (Tr.getK_eq t)

def TE.envK (e : TE) : Env := fun t => (e.getK t).getD und
theorem TE.envK_eq (e : TE) : e.envK = e.env := by funext t; simp only [TE.envK, TE.env, Tr.getK_eq]


/- CLOSED BRANCHES: what is handed to a recursor holds no part of the state, so that the kernel copies none of it -/
section
noncomputable def Opd.valK (o : Opd) : Env → V := Opd.rec (motive := fun _ => Env → V) (fun t e => e t) (fun v _ => v) (fun f _ => .fn (.func f) [] []) o
theorem Opd.valK_eq (o : Opd) (e : Env) : o.valK e = o.val e := by cases o <;> rfl

def ltK (a b : Int) : Bool := match a, b with
  | .ofNat m, .ofNat n => Nat.blt m n
  | a, b => decide (a < b)
theorem ltK_eq (a b : Int) : ltK a b = decide (a < b) := by
  unfold ltK
  split
  · rename_i m n
    rw [Bool.eq_iff_iff]
    simp only [decide_eq_true_eq, Int.ofNat_eq_natCast, Int.ofNat_lt]
    simp only [Nat.blt, Nat.ble_eq]; omega
  · rfl
def eqK (a b : Int) : Bool := match a, b with
  | .ofNat m, .ofNat n => Nat.beq m n
  | a, b => a == b
theorem eqK_eq (a b : Int) : eqK a b = (a == b) := by
  unfold eqK
  split
  · rename_i m n
    rw [Bool.eq_iff_iff]
    simp only [Nat.beq_eq, Int.ofNat_eq_natCast, beq_iff_eq]
    exact ⟨fun h => by rw [h], fun h => by exact_mod_cast h⟩
  · rfl
def sameK (k j : IntKind) : Bool := match k, j with
  | .i64, .i64 => true
  | .u8, .u8 => true
  | k, j => decide (k = j)
theorem sameK_eq (k j : IntKind) : sameK k j = decide (k = j) := by cases k <;> cases j <;> rfl

abbrev BinF := IntKind → Int → IntKind → Int → Option V
def onSame (f : IntKind → Int → Int → V) (k : IntKind) (a : Int) (j : IntKind) (b : Int) : Option V := match sameK k j with
  | true => some (f k a b)
  | false => none
def bAdd : BinF := onSame fun k a b => .int k (k.wrap (a + b))
def bSub : BinF := onSame fun k a b => .int k (k.wrap (a - b))
def bEql : BinF := onSame fun _ a b => .bool (eqK a b)
def bNeq : BinF := onSame fun _ a b => .bool (!eqK a b)
def bLss : BinF := onSame fun _ a b => .bool (ltK a b)
def bGtr : BinF := onSame fun _ a b => .bool (ltK b a)
def bRest (op : BinOp) : BinF := fun k a j b => bin op (.int k a) (.int j b)
noncomputable def binF (op : BinOp) : BinF := BinOp.rec (motive := fun _ => BinF) bAdd bSub (bRest .mul) (bRest .quo) (bRest .rem) (bRest .and) (bRest .or) (bRest .xor) (bRest .shl) (bRest .shr) (bRest .andNot) bEql bNeq bLss (bRest .leq) bGtr (bRest .geq) op
theorem binF_eq (op : BinOp) (k : IntKind) (a : Int) (j : IntKind) (b : Int) : binF op k a j b = bin op (.int k a) (.int j b) := by
  cases op <;> first | rfl | skip
  all_goals (simp only [binF, bAdd, bSub, bEql, bNeq, bLss, bGtr, onSame, sameK_eq, ltK_eq, eqK_eq, bin]; by_cases h : k = j)
  all_goals simp [h, bne]
noncomputable def binI (op : BinOp) (k : IntKind) (a : Int) (y : V) : Option V := match y with
  | .int j b => binF op k a j b
  | y => bin op (.int k a) y
noncomputable def binK (op : BinOp) (x y : V) : Option V := match x with
  | .int k a => binI op k a y
  | x => bin op x y
theorem binK_eq (op : BinOp) (x y : V) : binK op x y = bin op x y := by
  unfold binK
  split
  · unfold binI
    split
    · exact binF_eq ..
    · rfl
  · rfl

noncomputable def selT (t : Bool) : Opd → Opd → Env → Option V := Bool.rec (motive := fun _ => Opd → Opd → Env → Option V) (fun _ b e => some (b.valK e)) (fun a _ e => some (a.valK e)) t
def selN : Opd → Opd → Env → Option V := fun _ _ _ => none
noncomputable def selF (c : V) : Opd → Opd → Env → Option V := match c with
  | .bool t => selT t
  | _ => selN

def lenS (v : V) : Option V := match v with
  | .str s => some (.int .i64 s.length)
  | _ => none
def lenL (v : V) : Option V := match v with
  | .nslc => some (.int .i64 0)
  | .slc _ _ _ n _ _ => some (.int .i64 n)
  | _ => none
noncomputable def lenF (b : Bool) : V → Option V := Bool.rec (motive := fun _ => V → Option V) lenL lenS b
def bytI (s : List UInt8) (v : V) : Option V := (asI v).bind fun j => byteAt s j
def strI (v j : V) : Option V := match v with
  | .str s => bytI s j
  | _ => none
def fldF (v : V) (off : Nat) : Option V := match v with
  | .ptr s g o => some (.ptr s g (o + off))
  | _ => none
def extF (v : V) (i : Nat) : Option V := match v with
  | .tup vs => vs[i]?
  | _ => none
def evO (o : P1) (e : Env) : Option V := o.ev e
noncomputable def P1.evK (o : P1) : Env → Option V := P1.rec (motive := fun _ => Env → Option V)
  (fun x e => some (x.valK e))
  (fun c a b e => selF (c.valK e) a b e)
  (fun z ps => evO (.build z ps))
  (fun op x y e => binK op (x.valK e) (y.valK e))
  (fun n q x y => evO (.eqk n q x y))
  (fun n q x y => evO (.eqAgg n q x y))
  (fun op x => evO (.un op x))
  (fun k x => evO (.conv k x))
  (fun z o x => evO (.field z o x))
  (fun x i e => extF (x.valK e) i)
  (fun s x e => lenF s (x.valK e))
  (fun x i e => strI (x.valK e) (i.valK e))
  (fun n z x i => evO (.arrIdx n z x i))
  (fun z x i => evO (.idxS z x i))
  (fun n z x i => evO (.idxA n z x i))
  (fun off x e => fldF (x.valK e) off)
  (fun z x a b c => evO (.slcS z x a b c))
  (fun x a b => evO (.slcStr x a b))
  (fun n z x a b c => evO (.slcA n z x a b c))
  (fun n x => evO (.s2ap n x))
  (fun x => evO (.nilck x))
  (fun t x => evO (.tass t x))
  (fun t x => evO (.mkI t x))
  (fun f a b => evO (.mkF f a b))
  (fun m x r => evO (.minmax m x r)) o
theorem P1.evK_eq (o : P1) (e : Env) : o.evK e = o.ev e := by
  cases o <;> try rfl
  case mv => simp only [P1.evK, P1.ev, Opd.valK_eq]
  case sel c a b =>
    simp only [P1.evK, P1.ev, Opd.valK_eq]
    generalize Opd.val e c = v
    cases v <;> try rfl
    rename_i t; cases t <;> simp [selF, selT, Opd.valK_eq]
  case bin => simp only [P1.evK, P1.ev, Opd.valK_eq, binK_eq]
  case extract x i =>
    simp only [P1.evK, P1.ev, Opd.valK_eq]
    generalize Opd.val e x = v
    cases v <;> rfl
  case len s x =>
    simp only [P1.evK, P1.ev, Opd.valK_eq]
    generalize Opd.val e x = v
    cases s <;> cases v <;> rfl
  case strIdx x i =>
    simp only [P1.evK, P1.ev, Opd.valK_eq]
    generalize Opd.val e x = v
    cases v <;> rfl
  case fld off x =>
    simp only [P1.evK, P1.ev, Opd.valK_eq]
    generalize Opd.val e x = v
    cases v <;> rfl
end

section
variable {R : Type}
abbrev Kon (R : Type) := V → TH → Option R

def TE.putK (e : TE) (d : Option Nat) (v : V) (k : TE → Option R) : Option R := match d with
  | some t => Tr.putK v (t + 1) e t k
  | none => k e
theorem TE.putK_eq (e : TE) (d : Option Nat) (v : V) (k : TE → Option R) : e.putK d v k = k (e.put d v) := by
  cases d <;> simp only [TE.putK, TE.put, Tr.putK_eq]

def TH.setK (h : TH) (i : Nat) (o : Ob) (k : TH → Option R) : Option R := natK i fun i => obK o fun o => Tr.putK o (i + 1) h.tr i fun t => natK h.nx fun nx => k ⟨t, nx⟩
theorem TH.setK_eq (h : TH) (i : Nat) (o : Ob) (k : TH → Option R) : h.setK i o k = k (h.set i o) := by
  simp only [TH.setK, natK_eq, obK_eq, Tr.putK_eq, TH.set]
def TH.newK (h : TH) (o : Ob) (k : TH → Option R) : Option R := obK o fun o => Tr.putK o (h.nx + 1) h.tr h.nx fun t => natK (h.nx + 1) fun nx => k ⟨t, nx⟩
theorem TH.newK_eq (h : TH) (o : Ob) (k : TH → Option R) : h.newK o k = k (h.new o) := by
  simp only [TH.newK, natK_eq, obK_eq, Tr.putK_eq, TH.new]

def HM.evK : HM → TH → Kon R → Option R
  | .ret v, h, k => k v h
  | .fail, _, _ => none
  | .get i f, h, k => match h.tr.getK i with
    | some o => (f o).evK h k
    | none => none
  | .set i o f, h, k => h.setK i o fun h => f.evK h k
  | .new o f, h, k => h.newK o fun h' => (f h.nx).evK h' k
  | .pick n f, h, k => match Nat.beq n 1 with
    | true => (f 0).evK h k
    | false => none
theorem HM.evK_eq : ∀ (m : HM) (h : TH) (k : Kon R), m.evK h k = (m.ev h).bind fun x => k x.1 x.2
  | .ret v, h, k => rfl
  | .fail, _, _ => rfl
  | .get i f, h, k => by
    simp only [HM.evK, HM.ev, Tr.getK_eq]
    cases h.tr.get i with
    | some o => exact HM.evK_eq (f o) _ _
    | none => rfl
  | .set i o f, h, k => by simp only [HM.evK, HM.ev, TH.setK_eq, HM.evK_eq f]
  | .new o f, h, k => by simp only [HM.evK, HM.ev, TH.newK_eq, HM.evK_eq (f h.nx)]
  | .pick n f, h, k => by
    simp only [HM.evK, HM.ev, beq_match, HM.evK_eq (f 0)]
    split <;> rfl

def optK {α : Type} (o : Option α) (k : α → Option R) : Option R := match o with | some a => k a | none => none
theorem optK_eq {α : Type} (o : Option α) (k : α → Option R) : optK o k = o.bind k := by cases o <;> rfl

abbrev AK (R : Type) := CallF → Env → TH → Kon R → Option R
def isMv (o : P1) : Bool := match o with
  | .mv _ => true
  | _ => false
noncomputable def aP (o : P1) : AK R := fun _ e h k => match isMv o with
  | true => optK (o.evK e) fun v => V.hd v fun v => k v h
  | false => optK (o.evK e) fun v => V.sp v fun v => k v h
def aR (o : R1) : AK R := fun _ e h k => optK (o.ev e h.tr.getK) fun v => V.sp v fun v => k v h
def aN (o : N1) : AK R := fun _ e h k => optK (o.ev e) fun r => h.newK r.1 fun h' => V.sp (r.2 h.nx) fun v => k v h'
def aE0 (o : E1) : AK R := fun _ e h k => (o.ev e).evK h fun v h => V.sp v fun v => k v h
def setAt : List V → Nat → V → (List V → Option R) → Option R
  | [], _, _, _ => none
  | x :: r, n, v, k => match n with
    | 0 => k (v :: r)
    | m + 1 => setAt r m v fun r => k (x :: r)
theorem setAt_eq : ∀ (l : List V) (n : Nat) (v : V) (k : List V → Option R), setAt l n v k = if n < l.length then k (over l n [v]) else none
  | [], n, v, k => by simp [setAt]
  | x :: r, 0, v, k => by simp [setAt, over]
  | x :: r, n + 1, v, k => by
    simp only [setAt, setAt_eq r n, List.length_cons, Nat.add_lt_add_iff_right]
    split
    · simp only [over, List.take_succ_cons, List.cons_append, List.length_cons, List.length_nil, Nat.zero_add, show n + 1 + 1 = (n + 1) + 1 from rfl, List.drop_succ_cons]
    · rfl
/-- one cell of a storage of one generation -/
noncomputable def aS (sz : Nat) (a x : Opd) : AK R := fun call e h k => match Nat.beq sz 1 with
  | false => aE0 (.store sz a x) call e h k
  | true => match a.valK e with
    | .ptr s g o => match h.tr.getK s with
      | some (.sto cells [] dirty esz) => match Nat.beq g 0 with
        | true => V.hd (x.valK e) fun v => match v.leaf with
          | true => setAt cells o v fun cs => Tr.putK (.sto cs [] dirty esz) (s + 1) h.tr s fun t => k und ⟨t, h.nx⟩
          | false => aE0 (.store sz a x) call e h k
        | false => aE0 (.store sz a x) call e h k
      | _ => aE0 (.store sz a x) call e h k
    | _ => aE0 (.store sz a x) call e h k
theorem aE0_eq (o : E1) (c : CallF) (e : Env) (h : TH) (k : Kon R) : aE0 o c e h k = ((o.ev e).ev h).bind fun x => k x.1 x.2 := by
  simp only [aE0, V.sp_eq, HM.evK_eq]
theorem cells_leaf {v : V} (h : v.leaf = true) : v.cells = [v] := by cases v <;> first | rfl | simp [V.leaf] at h
theorem aS_eq (sz : Nat) (a x : Opd) (c : CallF) (e : Env) (h : TH) (k : Kon R) : aS sz a x c e h k = (((E1.store sz a x).ev e).ev h).bind fun x => k x.1 x.2 := by
  unfold aS
  simp only [aE0_eq, beq_match, Opd.valK_eq, V.hd_eq, Tr.getK_eq, Tr.putK_eq, setAt_eq]
  cases hsz : Nat.beq sz 1
  · rfl
  have hsz : sz = 1 := Nat.eq_of_beq_eq_true hsz
  subst hsz
  dsimp only
  split <;> try rfl
  rename_i s g o ha
  split <;> try rfl
  rename_i cells dirty esz ho
  split <;> try rfl
  rename_i hg
  split <;> try rfl
  rename_i hv
  subst hg
  simp only [E1.ev, ha, HM.ev, ho, cells_leaf hv, List.length_cons, List.length_nil, if_true, Nat.zero_add, wrAt, List.all_cons, List.all_nil, hv, Bool.and_true, and_true, true_and]
  by_cases hl : o < cells.length
  · rw [if_pos hl, if_pos (by omega)]
    simp only [HM.ev, Option.bind_some]
    rfl
  · rw [if_neg hl, if_neg (by omega)]
    rfl
noncomputable def aE (o : E1) : AK R := match o with
  | .store sz a x => aS sz a x
  | o => aE0 o
theorem aE_eq (o : E1) (c : CallF) (e : Env) (h : TH) (k : Kon R) : aE o c e h k = ((o.ev e).ev h).bind fun x => k x.1 x.2 := by
  cases o <;> simp only [aE] <;> first | exact aS_eq .. | exact aE0_eq ..
def aC (f : Nat) (args : List Opd) : AK R := fun call e h k => V.sps (args.map (Opd.val e)) fun a => optK (call f a h) fun x => k x.1 x.2
def aV (f : Opd) (args : List Opd) : AK R := fun call e h k => match f.val e with
    | .fn (.func f) first captured => V.sps (first ++ args.map (Opd.val e) ++ captured) fun a => optK (call f a h) fun x => k x.1 x.2
    | _ => none
def aB : AK R := fun _ _ _ _ => none
noncomputable def evAK (o : A1) : AK R := A1.rec (motive := fun _ => AK R) aP aR aN aE aC aV aB o
theorem evAK_eq {c : CallF} (e : Env) (o : A1) (h : TH) (k : Kon R) : evAK o c e h k = (evA c e o h).bind fun x => k x.1 x.2 := by
  cases o with
  | p q => simp only [evAK, aP, aR, aN, aE_eq, aC, aV, P1.evK_eq, V.hd_eq, V.sp_eq, evA, optK_eq]; cases isMv q <;> cases q.ev e <;> rfl
  | r q => simp only [evAK, aP, aR, aN, aE_eq, aC, aV, P1.evK_eq, V.hd_eq, V.sp_eq, evA, optK_eq, Tr.getK_fun]; cases q.ev e h.tr.get <;> rfl
  | n q => simp only [evAK, aP, aR, aN, aE_eq, aC, aV, P1.evK_eq, V.hd_eq, V.sp_eq, evA, optK_eq, TH.newK_eq]; cases q.ev e <;> rfl
  | e q => simp only [evAK, aP, aR, aN, aE_eq, aC, aV, P1.evK_eq, V.hd_eq, V.sp_eq, evA, HM.evK_eq]
  | call f l => simp only [evAK, aP, aR, aN, aE_eq, aC, aV, P1.evK_eq, V.hd_eq, V.sp_eq, evA, V.sps_eq, optK_eq]
  | callv f l =>
    simp only [evAK, aP, aR, aN, aE_eq, aC, aV, P1.evK_eq, V.hd_eq, V.sp_eq, evA, V.sps_eq, optK_eq]
    split
    · rename_i hf; rw [hf]
    · rename_i hn
      split
      · rename_i hf; exact absurd hf (hn _ _ _)
      · rfl
  | bad => rfl

def wantK (e : Env) : Option (Nat × Bool) → Bool
  | none => true
  | some (d, w) => match e d with
    | .bool b => match b, w with
      | true, true => true
      | false, false => true
      | _, _ => false
    | _ => false
theorem wantK_eq (e : Env) (g : Option (Nat × Bool)) : wantK e g = wanted e g := by
  unfold wantK wanted
  split
  · rfl
  · rename_i d w
    dsimp only
    split
    · rename_i b hb
      rw [hb]
      cases b <;> cases w <;> rfl
    · rename_i hn
      split
      · rename_i b hb; exact absurd hb (hn b)
      · rfl

noncomputable def evOpsK (call : CallF) : List AOp → TE → TH → (TE → TH → Option R) → Option R
  | [], e, h, k => k e h
  | o :: r, e, h, k => match wantK e.envK o.guard with
    | true => evAK o.op call e.envK h fun v h => e.putK o.dst v fun e => evOpsK call r e h k
    | false => e.putK o.dst und fun e => evOpsK call r e h k
theorem evOpsK_eq {c : CallF} : ∀ (l : List AOp) (e : TE) (h : TH) (k : TE → TH → Option R), evOpsK c l e h k = (evOps c l e h).bind fun x => k x.1 x.2
  | [], e, h, k => rfl
  | o :: r, e, h, k => by
    simp only [evOpsK, evOps, wantK_eq, TE.envK_eq, TE.putK_eq, evAK_eq, evOpsK_eq r]
    cases wanted e.env o.guard
    · simp
    · simp only [if_true]
      cases evA c e.env o.op h <;> rfl

noncomputable def evDrawK (call : CallF) : List (AOp × List AOp) → TE → TH → (TE → TH → Option R) → Option R
  | [], e, h, k => k e h
  | (o, chk) :: r, e, h, k => match wantK e.envK o.guard with
    | true => evAK o.op call e.envK h fun v h => e.putK o.dst v fun e => match chk with
      | [] => evDrawK call r e h k
      | x :: l => match (x :: l).all (still e h) with
        | true => evDrawK call r e h k
        | false => none
    | false => e.putK o.dst und fun e => evDrawK call r e h k
theorem evDrawK_eq {c : CallF} : ∀ (l : List (AOp × List AOp)) (e : TE) (h : TH) (k : TE → TH → Option R), evDrawK c l e h k = (evDraw c l e h).bind fun x => k x.1 x.2
  | [], e, h, k => rfl
  | (o, chk) :: r, e, h, k => by
    simp only [evDrawK, evDraw, wantK_eq, TE.envK_eq, TE.putK_eq, evAK_eq, evDrawK_eq r]
    cases wanted e.env o.guard
    · simp
    · simp only [if_true]
      cases evA c e.env o.op h with
      | none => rfl
      | some x =>
        simp only [Option.bind_some]
        cases chk with
        | nil => simp
        | cons y l =>
          dsimp only
          cases (y :: l).all (still (e.put o.dst x.1) x.2) <;> simp

noncomputable def evCodeK (call : CallF) : Nat → ACode → TE → TH → Option (Ex × TE × TH)
  | 0, _, _, _ => none
  | n + 1, c, e, h => match c with
    | .skip => some (.nrm, e, h)
    | .reg ops => evOpsK call ops e h fun e h => some (.nrm, e, h)
    | .dreg ops => evDrawK call ops e h fun e h => some (.nrm, e, h)
    | .seq a b => match evCodeK call n a e h with
      | some (x, e, h) => match x with
        | .nrm => evCodeK call n b e h
        | .exit j => some (.exit j, e, h)
        | .ret => some (.ret, e, h)
      | none => none
    | .cond c x y => match c.val e.envK with
      | .bool b => match b with
        | true => evCodeK call n x e h
        | false => evCodeK call n y e h
      | _ => none
    | .block id c => match evCodeK call n c e h with
      | some (x, e, h) => match x with
        | .exit j => match Nat.beq j id with
          | true => some (.nrm, e, h)
          | false => some (.exit j, e, h)
        | .nrm => some (.nrm, e, h)
        | .ret => some (.ret, e, h)
      | none => none
    | .loop c => match evCodeK call n c e h with
      | some (x, e, h) => match x with
        | .nrm => evCodeK call n (.loop c) e h
        | .exit j => some (.exit j, e, h)
        | .ret => some (.ret, e, h)
      | none => none
    | .exit id => some (.exit id, e, h)
    | .ret => some (.ret, e, h)
    | .rfun .. => none
    | .bad => none
theorem evCodeK_eq {c : CallF} : ∀ (n : Nat) (p : ACode) (e : TE) (h : TH), evCodeK c n p e h = evCode c n p e h
  | 0, _, _, _ => rfl
  | n + 1, p, e, h => by
    cases p with
    | skip => rfl
    | reg ops => simp only [evCodeK, evCode, evOpsK_eq]; cases evOps c ops e h <;> rfl
    | dreg ops => simp only [evCodeK, evCode, evDrawK_eq]; cases evDraw c ops e h <;> rfl
    | seq a b =>
      simp only [evCodeK, evCode, evCodeK_eq n]
      cases evCode c n a e h with
      | none => rfl
      | some x =>
        obtain ⟨x, e', h'⟩ := x
        cases x <;> simp
    | cond q x y =>
      simp only [evCodeK, evCode, TE.envK_eq, evCodeK_eq n]
      split
      · rename_i b hb
        rw [hb]
        cases b <;> simp
      · rename_i hn
        split
        · rename_i b hb; exact absurd hb (hn b)
        · rfl
    | block id q =>
      simp only [evCodeK, evCode, evCodeK_eq n, beq_match]
      cases evCode c n q e h with
      | none => rfl
      | some x =>
        obtain ⟨x, e', h'⟩ := x
        cases x with
        | exit j =>
          simp only [Option.map_some]
          by_cases hj : j = id
          · subst hj; simp
          · rw [if_neg hj, if_neg (fun hh => hj (by injection hh))]
        | nrm => simp
        | ret => simp
    | loop q =>
      simp only [evCodeK, evCode, evCodeK_eq n]
      cases evCode c n q e h with
      | none => rfl
      | some x =>
        obtain ⟨x, e', h'⟩ := x
        cases x <;> simp
    | exit i => rfl
    | ret => rfl
    | rfun => rfl
    | bad => rfl

def argEnvK : List V → Nat → TE → (TE → Option R) → Option R
  | [], _, e, k => k e
  | v :: r, i, e, k => Tr.putK v (i + 1) e i fun e => natK (i + 1) fun i => argEnvK r i e k
theorem argEnvK_eq : ∀ (l : List V) (i : Nat) (e : TE) (k : TE → Option R), argEnvK l i e k = k (argEnv l i e)
  | [], _, _, _ => rfl
  | v :: r, i, e, k => by simp only [argEnvK, argEnv, Tr.putK_eq, natK_eq, argEnvK_eq r]

noncomputable def evCallK (A : Nat → Option AFn) : Nat → CallF
  | 0, _, _, _ => none
  | n + 1, f, args, h => match A f with
    | none => none
    | some fn => argEnvK args 0 .nil fun e => match evCodeK (evCallK A n) 1000000 fn.code e h with
      | none => none
      | some (x, e, h) => match x with
        | .exit _ => none
        | .nrm => optK (resVs e.envK h.tr.getK fn.res) fun v => V.sp v fun v => some (v, h)
        | .ret => optK (resVs e.envK h.tr.getK fn.res) fun v => V.sp v fun v => some (v, h)
theorem evCallK_eq (A : Nat → Option AFn) : ∀ n, evCallK A n = evCall A n
  | 0 => rfl
  | n + 1 => by
    funext f args h
    simp only [evCallK, evCall, optK_eq, argEnvK_eq, V.sp_eq, evCodeK_eq, evCallK_eq A n, TE.envK_eq, Tr.getK_fun]
    cases A f with
    | none => rfl
    | some fn =>
      dsimp only
      cases evCode (evCall A n) 1000000 fn.code (argEnv args 0 .nil) h with
      | none => rfl
      | some x =>
        obtain ⟨x, e', h'⟩ := x
        cases x with
        | exit j => rfl
        | nrm => dsimp only [Option.bind_some]; cases resVs e'.env h'.tr.get fn.res <;> rfl
        | ret => dsimp only [Option.bind_some]; cases resVs e'.env h'.tr.get fn.res <;> rfl

end

/-- the answer of a call without arguments -/
noncomputable def ansK (A : Nat → Option AFn) (f : Nat) : Option V := (evCallK A 1000 f [] ⟨.nil, 0⟩).map (·.1)

theorem ansK_ev {A : Nat → Option AFn} {f : Nat} {v : V} (h : ansK A f = some v) : (evCall A 1000 f [] ⟨.nil, 0⟩).map (·.1) = some v := by
  unfold ansK at h
  rwa [evCallK_eq] at h

end Go.Ab
