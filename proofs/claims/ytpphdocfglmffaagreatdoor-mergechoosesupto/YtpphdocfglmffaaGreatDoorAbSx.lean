/- What the operations do, in the form in which a run is computed: temporaries, numbers, slices that are read. -/
import Derived.Test.YtpphdocfglmffaaGreatDoorAbWp
import Derived.IntWalk
set_option linter.unusedVariables false
set_option linter.unusedSimpArgs false
namespace Go.Ab

attribute [simp] List.getElem?_cons_zero List.getElem?_cons_succ
@[simp] theorem upd_app (e : Env) (t : Nat) (v : V) (u : Nat) : Env.upd e t v u = if u = t then v else e u := nr rfl
@[simp] theorem put_t (e : Env) (t : Nat) (v : V) : Env.put e (some t) v = Env.upd e t v := nr rfl
@[simp] theorem put_n (e : Env) (v : V) : Env.put e none v = e := nr rfl
@[simp] theorem val_tmp (e : Env) (t : Nat) : Opd.val e (.tmp t) = e t := nr rfl
@[simp] theorem val_const (e : Env) (v : V) : Opd.val e (.const v) = v := nr rfl
@[simp] theorem val_func (e : Env) (f : Nat) : Opd.val e (.func f) = .fn (.func f) [] [] := nr rfl
@[simp] theorem argE_app (args : List V) (t : Nat) : argE args t = args.getD t und := nr rfl
@[simp] theorem resVs_one (e : Env) (H : Obs) (t : Nat) : resVs e H [.tmp t] = some (e t) := nr rfl
@[simp] theorem resVs_two (e : Env) (H : Obs) (t u : Nat) : resVs e H [.tmp t, .tmp u] = some (.tup [e t, e u]) := nr rfl
@[simp] theorem resVs_three (e : Env) (H : Obs) (t u v : Nat) : resVs e H [.tmp t, .tmp u, .tmp v] = some (.tup [e t, e u, e v]) := nr rfl
@[simp] theorem resVs_zero (e : Env) (H : Obs) : resVs e H [] = some (.tup []) := nr rfl

/- NUMBERS AND BOOLS -/
def selV (c a b : V) : Option V := match c with | .bool t => some (if t then a else b) | _ => none
@[simp] theorem selV_true (a b : V) : selV (.bool true) a b = some a := nr rfl
@[simp] theorem selV_false (a b : V) : selV (.bool false) a b = some b := nr rfl
theorem selV_bool (c : Bool) (a b : Bool) : selV (.bool c) (.bool a) (.bool b) = some (.bool (if c then a else b)) := by cases c <;> rfl

@[simp] theorem ev_mv (e : Env) (x : Opd) : P1.ev e (.mv x) = some (x.val e) := nr rfl
@[simp] theorem ev_sel (e : Env) (c a b : Opd) : P1.ev e (.sel c a b) = selV (c.val e) (a.val e) (b.val e) := nr rfl
@[simp] theorem ev_bin (e : Env) (op : BinOp) (x y : Opd) : P1.ev e (.bin op x y) = bin op (x.val e) (y.val e) := nr rfl

@[simp] theorem bin_add (k : IntKind) (a b : Int) : bin .add (.int k a) (.int k b) = some (.int k (k.wrap (a + b))) := by simp [bin]
@[simp] theorem bin_sub (k : IntKind) (a b : Int) : bin .sub (.int k a) (.int k b) = some (.int k (k.wrap (a - b))) := by simp [bin]
@[simp] theorem bin_mul (k : IntKind) (a b : Int) : bin .mul (.int k a) (.int k b) = some (.int k (k.wrap (a * b))) := by simp [bin]
@[simp] theorem bin_eql (k : IntKind) (a b : Int) : bin .eql (.int k a) (.int k b) = some (.bool (decide (a = b))) := by simp [bin]; rfl
@[simp] theorem bin_neq (k : IntKind) (a b : Int) : bin .neq (.int k a) (.int k b) = some (.bool (!decide (a = b))) := by simp [bin]; rfl
@[simp] theorem bin_lss (k : IntKind) (a b : Int) : bin .lss (.int k a) (.int k b) = some (.bool (decide (a < b))) := by simp [bin]
@[simp] theorem bin_leq (k : IntKind) (a b : Int) : bin .leq (.int k a) (.int k b) = some (.bool (decide (a ≤ b))) := by simp [bin]
@[simp] theorem bin_gtr (k : IntKind) (a b : Int) : bin .gtr (.int k a) (.int k b) = some (.bool (decide (b < a))) := by simp [bin]
@[simp] theorem bin_geq (k : IntKind) (a b : Int) : bin .geq (.int k a) (.int k b) = some (.bool (decide (b ≤ a))) := by simp [bin]
theorem bin_quo (k : IntKind) (a b : Int) (hb : b ≠ 0) : bin .quo (.int k a) (.int k b) = some (.int k (k.wrap (a.tdiv b))) := by simp [bin, hb]
theorem bin_rem (k : IntKind) (a b : Int) (hb : b ≠ 0) : bin .rem (.int k a) (.int k b) = some (.int k (a.tmod b)) := by simp [bin, hb]
@[simp] theorem bin_seql (a b : List UInt8) : bin .eql (.str a) (.str b) = some (.bool (decide (a = b))) := by
  simp only [bin, Option.some.injEq, V.bool.injEq]; by_cases h : a = b <;> simp [h]
@[simp] theorem bin_sneq (a b : List UInt8) : bin .neq (.str a) (.str b) = some (.bool (!decide (a = b))) := by
  simp only [bin, Option.some.injEq, V.bool.injEq]; by_cases h : a = b <;> simp [h]

@[simp] theorem ev_un (e : Env) (op : UnOp) (x : Opd) : P1.ev e (.un op x) = un op (x.val e) := nr rfl
@[simp] theorem un_not (b : Bool) : un .not (.bool b) = some (.bool !b) := nr rfl
@[simp] theorem un_neg (k : IntKind) (n : Int) : un .neg (.int k n) = some (.int k (k.wrap (0 - n))) := nr rfl

@[simp] theorem nat_lt0 (n : Nat) : (((n : Nat) : Int) < 0) = False := by simp
@[simp] theorem nat_ge0 (n : Nat) : (0 ≤ ((n : Nat) : Int)) = True := by simp

def convV (k : IntKind) (v : V) : Option V := match v with | .int _ n => some (.int k (k.wrap n)) | _ => none
@[simp] theorem ev_conv (e : Env) (k : IntKind) (x : Opd) : P1.ev e (.conv k x) = convV k (x.val e) := by
  simp only [P1.ev, convV]; cases x.val e <;> rfl
@[simp] theorem convV_int (k j : IntKind) (n : Int) : convV k (.int j n) = some (.int k (k.wrap n)) := nr rfl

@[simp] theorem ev_eqk (e : Env) (neg : Bool) (q : QK) (x y : Opd) : P1.ev e (.eqk neg q x y) = (eqk q (x.val e) (y.val e)).map fun t => .bool (if neg then !t else t) := nr rfl

/- STRUCTS -/
def fieldV (sz : Option Nat) (off : Nat) (v : V) : Option V := match v with | .agg cs => cut cs off sz | _ => none
@[simp] theorem ev_field (e : Env) (sz : Option Nat) (off : Nat) (x : Opd) : P1.ev e (.field sz off x) = fieldV sz off (x.val e) := by
  simp only [P1.ev, fieldV]; cases x.val e <;> rfl
@[simp] theorem fieldV_one (off : Nat) (cs : List V) : fieldV none off (.agg cs) = cs[off]? := nr rfl
@[simp] theorem fieldV_many (off n : Nat) (cs : List V) : fieldV (some n) off (.agg cs) = if off + n ≤ cs.length then some (.agg ((cs.drop off).take n)) else none := nr rfl
def extractV (v : V) (i : Nat) : Option V := match v with | .tup vs => vs[i]? | _ => none
@[simp] theorem ev_extract (e : Env) (x : Opd) (i : Nat) : P1.ev e (.extract x i) = extractV (x.val e) i := by
  simp only [P1.ev, extractV]; cases x.val e <;> rfl
@[simp] theorem extractV_tup (vs : List V) (i : Nat) : extractV (.tup vs) i = vs[i]? := nr rfl
@[simp] theorem cells_int (k : IntKind) (n : Int) : V.cells (.int k n) = [.int k n] := nr rfl
@[simp] theorem cells_bool (b : Bool) : V.cells (.bool b) = [.bool b] := nr rfl
@[simp] theorem cells_str (s : List UInt8) : V.cells (.str s) = [.str s] := nr rfl
@[simp] theorem cells_nslc : V.cells .nslc = [.nslc] := nr rfl
@[simp] theorem cells_nptr : V.cells .nptr = [.nptr] := nr rfl
@[simp] theorem cells_ptr (s g o : Nat) : V.cells (.ptr s g o) = [.ptr s g o] := nr rfl
@[simp] theorem cells_slc (s g o n c z : Nat) : V.cells (.slc s g o n c z) = [.slc s g o n c z] := nr rfl
@[simp] theorem cells_agg (cs : List V) : V.cells (.agg cs) = cs := nr rfl
@[simp] theorem cells_fn (f : Fn) (a b : List V) : V.cells (.fn f a b) = [.fn f a b] := nr rfl
theorem cells_leaf {v : V} (h : v.leaf = true) : v.cells = [v] := by cases v <;> simp_all [V.leaf, V.cells]
@[simp] theorem leaf_int (k : IntKind) (n : Int) : V.leaf (.int k n) = true := nr rfl
@[simp] theorem leaf_bool (b : Bool) : V.leaf (.bool b) = true := nr rfl
@[simp] theorem leaf_str (s : List UInt8) : V.leaf (.str s) = true := nr rfl
@[simp] theorem leaf_nslc : V.leaf .nslc = true := nr rfl
@[simp] theorem leaf_nptr : V.leaf .nptr = true := nr rfl
@[simp] theorem leaf_ptr (s g o : Nat) : V.leaf (.ptr s g o) = true := nr rfl
@[simp] theorem leaf_slc (s g o n c z : Nat) : V.leaf (.slc s g o n c z) = true := nr rfl

/-- cells laid over cells, part by part -/
def fills (cells : List V) : List (Nat × Nat × V) → Option (List V)
  | [] => some cells
  | (off, sz, v) :: rest => if v.cells.length = sz ∧ off + sz ≤ cells.length then fills (over cells off v.cells) rest else none
theorem fillAll_fills (e : Env) : ∀ (l : List (Nat × Nat × Opd)) (cells : List V), fillAll e cells l = fills cells (l.map fun x => (x.1, x.2.1, x.2.2.val e))
  | [], _ => rfl
  | (off, sz, x) :: rest, cells => by
    simp only [fillAll, fills, List.map_cons]
    split
    · exact fillAll_fills e rest _
    · rfl
@[simp] theorem ev_build (e : Env) (zero : List V) (parts : List (Nat × Nat × Opd)) : P1.ev e (.build zero parts) = (fills zero (parts.map fun x => (x.1, x.2.1, x.2.2.val e))).map .agg := by
  simp only [P1.ev, fillAll_fills]
@[simp] theorem fills_nil (cells : List V) : fills cells [] = some cells := nr rfl
@[simp] theorem fills_cons (cells : List V) (off sz : Nat) (v : V) (rest : List (Nat × Nat × V)) : fills cells ((off, sz, v) :: rest) = if v.cells.length = sz ∧ off + sz ≤ cells.length then fills (over cells off v.cells) rest else none := nr rfl
@[simp] theorem over_def (cs : List V) (off : Nat) (vs : List V) : over cs off vs = cs.take off ++ vs ++ cs.drop (off + vs.length) := nr rfl

/- SLICES -/
def V.sS : V → Nat | .slc s _ _ _ _ _ => s | _ => 0
def V.sG : V → Nat | .slc _ g _ _ _ _ => g | _ => 0
def V.sO : V → Nat | .slc _ _ o _ _ _ => o | _ => 0
@[simp] theorem sS_slc (s g o n c z : Nat) : V.sS (.slc s g o n c z) = s := nr rfl
@[simp] theorem sG_slc (s g o n c z : Nat) : V.sG (.slc s g o n c z) = g := nr rfl
@[simp] theorem sO_slc (s g o n c z : Nat) : V.sO (.slc s g o n c z) = o := nr rfl

/-- where part j of element i lies -/
def elP (a : V) (sz i j : Nat) : V := .ptr a.sS a.sG (a.sO + i * sz + j)
def lenV (v : V) : Option V := match v with | .nslc => some (.int .i64 0) | .slc _ _ _ n _ _ => some (.int .i64 n) | _ => none
def slenV (v : V) : Option V := match v with | .str s => some (.int .i64 s.length) | _ => none
def idxV (sz : Nat) (v i : V) : Option V := match v with
  | .slc s g o n _ _ => (asI i).bind fun j => if 0 ≤ j ∧ j < (n : Int) then some (.ptr s g (o + j.toNat * sz)) else none
  | _ => none
def fldV (off : Nat) (v : V) : Option V := match v with | .ptr s g o => some (.ptr s g (o + off)) | _ => none
def loadV (H : Obs) (sz : Option Nat) (v : V) : Option V := match v with | .ptr s g o => rdVar H s g o sz | _ => none
@[simp] theorem ev_len (e : Env) (x : Opd) : P1.ev e (.len false x) = lenV (x.val e) := by simp only [P1.ev, lenV]; cases x.val e <;> rfl
@[simp] theorem ev_slen (e : Env) (x : Opd) : P1.ev e (.len true x) = slenV (x.val e) := by simp only [P1.ev, slenV]; cases x.val e <;> rfl
@[simp] theorem slenV_str (s : List UInt8) : slenV (.str s) = some (.int .i64 s.length) := nr rfl
@[simp] theorem ev_idxS (e : Env) (sz : Nat) (x i : Opd) : P1.ev e (.idxS sz x i) = idxV sz (x.val e) (i.val e) := by simp only [P1.ev, idxV]; cases x.val e <;> rfl
@[simp] theorem ev_fld (e : Env) (off : Nat) (x : Opd) : P1.ev e (.fld off x) = fldV off (x.val e) := by simp only [P1.ev, fldV]; cases x.val e <;> rfl
@[simp] theorem ev_load (e : Env) (H : Obs) (sz : Option Nat) (x : Opd) : R1.ev e H (.load sz x) = loadV H sz (x.val e) := by simp only [R1.ev, loadV]; cases x.val e <;> rfl
@[simp] theorem lenV_nslc : lenV .nslc = some (.int .i64 0) := nr rfl
@[simp] theorem lenV_slc (s g o n c z : Nat) : lenV (.slc s g o n c z) = some (.int .i64 n) := nr rfl
@[simp] theorem fldV_ptr (off s g o : Nat) : fldV off (.ptr s g o) = some (.ptr s g (o + off)) := nr rfl
@[simp] theorem fldV_el (off : Nat) (a : V) (sz i j : Nat) : fldV off (elP a sz i j) = some (elP a sz i (j + off)) := by simp [fldV, elP, Nat.add_assoc]

/-- every reading stays -/
def RLe (H K : Obs) : Prop := ∀ s g o n vs, rdAt H s g o n = some vs → rdAt K s g o n = some vs
theorem RLe.refl (H : Obs) : RLe H H := fun _ _ _ _ _ h => h
theorem RLe.trans {H K L : Obs} (a : RLe H K) (b : RLe K L) : RLe H L := fun _ _ _ _ _ h => b _ _ _ _ _ (a _ _ _ _ _ h)

/-- a slice whose elements are rows of cells -/
structure Sl (H : Obs) (sz : Nat) (a : V) (rows : List (List V)) : Prop where
  shape : (a = .nslc ∧ rows = []) ∨ ∃ s g o c, a = .slc s g o rows.length c sz ∧ rows.length ≤ c ∧ rdAt H s g o (rows.length * sz) = some rows.flatten
  len : ∀ r ∈ rows, r.length = sz
  leaf : ∀ r ∈ rows, r.all V.leaf = true
  lim : rows.length ≤ 140737488355328

theorem Sl.mono {H K : Obs} (hl : RLe H K) {sz : Nat} {a : V} {rows : List (List V)} (h : Sl H sz a rows) : Sl K sz a rows where
  shape := by
    rcases h.shape with h | ⟨s, g, o, c, h1, h2, h3⟩
    · exact .inl h
    · exact .inr ⟨s, g, o, c, h1, h2, hl _ _ _ _ _ h3⟩
  len := h.len
  leaf := h.leaf
  lim := h.lim

theorem Sl.nil (H : Obs) (sz : Nat) : Sl H sz .nslc [] := ⟨.inl ⟨rfl, rfl⟩, by simp, by simp, by simp⟩

theorem flat_len {sz : Nat} : ∀ {rows : List (List V)}, (∀ r ∈ rows, r.length = sz) → rows.flatten.length = rows.length * sz
  | [], _ => by simp
  | r :: rows, h => by
    rw [List.flatten_cons, List.length_append, flat_len fun x hx => h x (List.mem_cons_of_mem _ hx), h r (List.mem_cons_self ..), List.length_cons, Nat.succ_mul]; omega

theorem flat_row {sz : Nat} : ∀ {rows : List (List V)}, (∀ r ∈ rows, r.length = sz) → ∀ {i : Nat} {r : List V}, rows[i]? = some r → (rows.flatten.drop (i * sz)).take sz = r
  | [], _, i, r, h => by simp at h
  | x :: rows, h, 0, r, hr => by
    simp only [List.getElem?_cons_zero, Option.some.injEq] at hr; subst hr
    have hx := h x (List.mem_cons_self ..)
    simp [← hx]
  | x :: rows, h, i + 1, r, hr => by
    have hx := h x (List.mem_cons_self ..)
    rw [List.flatten_cons, List.drop_append, Nat.succ_mul, hx, List.drop_eq_nil_of_le (by omega), List.nil_append, show i * sz + sz - sz = i * sz by omega]
    exact flat_row (fun y hy => h y (List.mem_cons_of_mem _ hy)) (by simpa using hr)

theorem rdAt_part {H : Obs} {s g o n m k : Nat} {vs : List V} (h : rdAt H s g o n = some vs) (hk : m + k ≤ n) : rdAt H s g (o + m) k = some ((vs.drop m).take k) := by
  unfold rdAt at h ⊢
  split at h
  · rename_i cells old dirty esz hs
    obtain ⟨h1, h2, h3, rfl⟩ := rdCells_some h
    simp only [rdCells]
    rw [if_pos ⟨h1, by omega, by omega⟩]
    rw [List.drop_take, List.drop_drop, List.take_take]
    congr 2; omega
  · simp at h

section
variable {H : Obs} {sz : Nat} {a : V} {rows : List (List V)}

theorem Sl.lenV (h : Sl H sz a rows) : lenV a = some (.int .i64 (rows.length : Nat)) := by
  rcases h.shape with ⟨rfl, rfl⟩ | ⟨s, g, o, c, rfl, _, _⟩ <;> rfl
theorem Sl.isleaf (h : Sl H sz a rows) : a.leaf = true := by
  rcases h.shape with ⟨rfl, rfl⟩ | ⟨s, g, o, c, rfl, _, _⟩ <;> rfl
theorem Sl.cells (h : Sl H sz a rows) : a.cells = [a] := cells_leaf h.isleaf
theorem Sl.idx (h : Sl H sz a rows) (j : Int) (h0 : 0 ≤ j) (h1 : j < rows.length) : idxV sz a (.int .i64 j) = some (elP a sz j.toNat 0) := by
  rcases h.shape with ⟨rfl, rfl⟩ | ⟨s, g, o, c, rfl, _, _⟩
  · simp at h1; omega
  · simp [idxV, asI, h0, h1, elP]
theorem Sl.row (h : Sl H sz a rows) {i : Nat} {r : List V} (hr : rows[i]? = some r) : loadV H (some sz) (elP a sz i 0) = some (.agg r) := by
  rcases h.shape with ⟨rfl, rfl⟩ | ⟨s, g, o, c, rfl, _, hrd⟩
  · simp at hr
  · have hi : i < rows.length := (List.getElem?_eq_some_iff.1 hr).1
    have : i * sz + sz ≤ rows.length * sz := by rw [← Nat.succ_mul]; exact Nat.mul_le_mul_right _ hi
    have := rdAt_part hrd this
    simp only [loadV, elP, rdVar, sS_slc, sG_slc, sO_slc, Nat.add_zero, this, Option.map_some, flat_row h.len hr]
theorem Sl.cell (h : Sl H sz a rows) {i : Nat} {r : List V} (hr : rows[i]? = some r) {j : Nat} {v : V} (hv : r[j]? = some v) : loadV H none (elP a sz i j) = some v := by
  rcases h.shape with ⟨rfl, rfl⟩ | ⟨s, g, o, c, rfl, _, hrd⟩
  · simp at hr
  · have hi : i < rows.length := (List.getElem?_eq_some_iff.1 hr).1
    have hj : j < r.length := (List.getElem?_eq_some_iff.1 hv).1
    have hl := h.len r (List.mem_of_getElem? hr)
    have h1 : i * sz + sz ≤ rows.length * sz := by rw [← Nat.succ_mul]; exact Nat.mul_le_mul_right _ hi
    have := rdAt_part (m := i * sz + j) (k := 1) hrd (by omega)
    have e : (rows.flatten.drop (i * sz + j)).take 1 = [v] := by
      rw [← List.drop_drop]
      have h2 := flat_row h.len hr
      have h3 : ((rows.flatten.drop (i * sz)).take sz).drop j = r.drop j := by rw [h2]
      rw [List.drop_take] at h3
      have h4 : (((rows.flatten.drop (i * sz)).drop j).take (sz - j)).take 1 = (r.drop j).take 1 := by rw [h3]
      rw [List.take_take, Nat.min_eq_left (by omega)] at h4
      rw [h4, List.drop_eq_getElem_cons hj]
      have : r[j] = v := (List.getElem?_eq_some_iff.1 hv).2
      simp [this]
    simp only [loadV, elP, rdVar, sS_slc, sG_slc, sO_slc, Nat.add_assoc] at this ⊢
    rw [this, e]
end

/-- how a datum lies in cells -/
abbrev Lay (X : Type) := Obs → X → List V → Prop

/-- a slice that reads as a list of data -/
structure SlR {X : Type} (L : Lay X) (sz : Nat) (H : Obs) (a : V) (xs : List X) : Prop where
  rd : ∃ rows : List (List V), Sl H sz a rows ∧ rows.length = xs.length ∧ ∀ (i : Nat) (x : X) (r : List V), xs[i]? = some x → rows[i]? = some r → L H x r

section
variable {X : Type} {L : Lay X} {sz : Nat} {H : Obs} {a : V} {xs : List X}
theorem SlR.lim (h : SlR L sz H a xs) : xs.length ≤ 140737488355328 := by
  obtain ⟨rows, h1, h2, _⟩ := h.rd
  rw [← h2]; exact h1.lim
theorem SlR.lenV (h : SlR L sz H a xs) : Ab.lenV a = some (.int .i64 (xs.length : Nat)) := by
  obtain ⟨rows, h1, h2, _⟩ := h.rd
  rw [← h2]; exact h1.lenV
theorem SlR.isleaf (h : SlR L sz H a xs) : a.leaf = true := by
  obtain ⟨rows, h1, _, _⟩ := h.rd
  exact h1.isleaf
theorem SlR.cells (h : SlR L sz H a xs) : a.cells = [a] := cells_leaf h.isleaf
theorem SlR.idx (h : SlR L sz H a xs) (j : Int) (h0 : 0 ≤ j) (h1 : j < xs.length) : idxV sz a (.int .i64 j) = some (elP a sz j.toNat 0) := by
  obtain ⟨rows, h2, h3, _⟩ := h.rd
  exact h2.idx j h0 (by omega)
theorem SlR.get (h : SlR L sz H a xs) {i : Nat} {x : X} (hi : xs[i]? = some x) : ∃ r, L H x r ∧ r.length = sz ∧ r.all V.leaf = true ∧ loadV H (some sz) (elP a sz i 0) = some (.agg r) ∧ ∀ j v, r[j]? = some v → loadV H none (elP a sz i j) = some v := by
  obtain ⟨rows, h2, h3, h4⟩ := h.rd
  have hlt : i < rows.length := by rw [h3]; exact (List.getElem?_eq_some_iff.1 hi).1
  have hr : rows[i]? = some rows[i] := List.getElem?_eq_getElem hlt
  exact ⟨rows[i], h4 i x _ hi hr, h2.len _ (List.mem_of_getElem? hr), h2.leaf _ (List.mem_of_getElem? hr), h2.row hr, fun j v hv => h2.cell hr hv⟩
theorem SlR.mono {K : Obs} (hl : RLe H K) (hL : ∀ x r, L H x r → L K x r) (h : SlR L sz H a xs) : SlR L sz K a xs := by
  obtain ⟨rows, h1, h2, h3⟩ := h.rd
  exact ⟨rows, h1.mono hl, h2, fun i x r hx hr => hL _ _ (h3 i x r hx hr)⟩
theorem SlR.nil (L : Lay X) (sz : Nat) (H : Obs) : SlR L sz H .nslc [] := ⟨[], Sl.nil H sz, rfl, by simp⟩
end

def layI : Lay Int := fun _ n r => r = [.int .i64 n]
def layB : Lay UInt8 := fun _ b r => r = [.int .u8 b.toNat]
abbrev Ints (H : Obs) (a : V) (xs : List Int) : Prop := SlR layI 1 H a xs
abbrev Byts (H : Obs) (a : V) (xs : List UInt8) : Prop := SlR layB 1 H a xs
theorem Ints.get {H : Obs} {a : V} {xs : List Int} (h : Ints H a xs) {i : Nat} {x : Int} (hi : xs[i]? = some x) : loadV H none (elP a 1 i 0) = some (.int .i64 x) := by
  obtain ⟨r, h1, _, _, _, h2⟩ := SlR.get h hi
  exact h2 0 _ (by rw [h1]; rfl)
theorem Byts.get {H : Obs} {a : V} {xs : List UInt8} (h : Byts H a xs) {i : Nat} {x : UInt8} (hi : xs[i]? = some x) : loadV H none (elP a 1 i 0) = some (.int .u8 x.toNat) := by
  obtain ⟨r, h1, _, _, _, h2⟩ := SlR.get h hi
  exact h2 0 _ (by rw [h1]; rfl)
theorem Ints.mono {H K : Obs} {a : V} {xs : List Int} (h : Ints H a xs) (hl : RLe H K) : Ints K a xs := SlR.mono hl (fun _ _ h => h) h
theorem Byts.mono {H K : Obs} {a : V} {xs : List UInt8} (h : Byts H a xs) (hl : RLe H K) : Byts K a xs := SlR.mono hl (fun _ _ h => h) h

end Go.Ab
