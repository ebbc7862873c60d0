/- Heaps and worlds: when an abstract heap stands for the model's memory. -/
import Derived.Test.YtpphdocfglmffaaGreatDoorAbJ
set_option linter.unusedVariables false
set_option linter.unusedSimpArgs false
namespace Go.Ab
open Go.RowKit (Below)

/-- the storage s, as generation g sees it at L, lies in the world -/
structure StoR (ι : Inj) (w : World) (g : Nat) (L : Loc) (cells : List V) (old : List Nat) (dirty : Nat) (esz : Option Nat) : Prop where
  gen : g + L.ro ≤ old.length
  esz : esz = L.esz
  obj : ∃ c el fr, w.heap[L.cb]? = some (.cells c el fr) ∧ c.size = L.csz ∧ L.coff + (L.size - L.base) ≤ L.csz ∧
    (dirty ≤ g → (L.base ≤ L.size ∧ L.size ≤ cells.length) ∧ L.size = genSize cells old g ∧ ∀ i v, L.base ≤ i → i < L.size → cells[i]? = some v → ∃ d, c[L.coff + (i - L.base)]? = some d ∧ VR ι v d) ∧
    (g = old.length → dirty ≤ g ∧ (fr.1 = fr.2 ∨ L.csz ≤ fr.1))

def EntR (ι : Inj) (x : MEnt) (y : MapEntry) : Prop := VR ι x.key y.key ∧ VR ι x.val y.val ∧ y.born = x.born

def EntsR (ι : Inj) : List MEnt → List MapEntry → Prop
  | [], ys => ys = []
  | x :: xs, ys => ∃ y r, ys = y :: r ∧ EntR ι x y ∧ EntsR ι xs r

def MitR (ι : Inj) : Option Nat → Option Nat → Prop
  | none, none => True
  | some m, some d => ι.ob m = some d
  | _, _ => False

/-- another object lies in the world -/
def ObR (ι : Inj) (w : World) (c : Nat) : Ob → Prop
  | .map es clock => ∃ ces : Array MapEntry, w.heap[c]? = some (.map ces clock) ∧ EntsR ι es ces.toList
  | .mit m since seen st => ∃ cm, w.heap[c]? = some (.mapIter cm since seen.toArray st) ∧ MitR ι m cm
  | .sto .. => False

structure Rel (ι : Inj) (h : Hp) (w : World) : Prop where
  st : ∀ s g L, ι.st s g = some L → s < h.nx ∧ L.cb < w.heap.size ∧ ∀ cells old dirty esz, h.obj s = some (.sto cells old dirty esz) → StoR ι w g L cells old dirty esz
  sep : ∀ s g L s' g' L', ι.st s g = some L → ι.st s' g' = some L' → L.cb = L'.cb → (s = s' ∧ L.coff + L'.base = L'.coff + L.base) ∨ (0 < L.ro ∧ 0 < L'.ro)
  ob : ∀ i c, ι.ob i = some c → i < h.nx ∧ c < w.heap.size ∧ ∃ o, h.obj i = some o ∧ ObR ι w c o
  obsep : ∀ i c j, ι.ob i = some c → ι.ob j = some c → i = j
  kind : ∀ s g L i c, ι.st s g = some L → ι.ob i = some c → L.cb ≠ c
  obj : ∀ i o, h.obj i = some o → i < h.nx

theorem Rel.sepw {ι : Inj} {h : Hp} {w : World} (hR : Rel ι h w) {s g : Nat} {L : Loc} {s' g' : Nat} {L' : Loc} (h1 : ι.st s g = some L) (h2 : ι.st s' g' = some L') (hcb : L.cb = L'.cb) (hro : L'.ro = 0) : s = s' ∧ L.coff + L'.base = L'.coff + L.base := by
  rcases hR.sep _ _ _ _ _ _ h1 h2 hcb with h | ⟨_, h⟩
  · exact h
  · omega

/-- block b is not written any more by what the heap knows -/
def RO (ι : Inj) (h : Hp) (b : Nat) : Prop :=
  (∀ s g L, ι.st s g = some L → L.cb = b → ∀ cells old dirty esz, h.obj s = some (.sto cells old dirty esz) → g < old.length) ∧ ∀ i c, ι.ob i = some c → c ≠ b

structure Ext (ι : Inj) (h : Hp) (w : World) (κ : Inj) (k : Hp) (u : World) : Prop where
  le : ι.le κ
  os : u.os = w.os
  tape : u.tape = w.tape
  output : u.output = w.output
  drawn : w.drawn ≤ u.drawn
  size : w.heap.size ≤ u.heap.size
  nx : h.nx ≤ k.nx
  ro : ∀ b, b < w.heap.size → RO ι h b → RO κ k b ∧ u.heap[b]? = w.heap[b]?
  un : ∀ i, i < h.nx → (∀ g, ι.st i g = none) → ι.ob i = none → (∀ g, κ.st i g = none) ∧ κ.ob i = none ∧ k.obj i = h.obj i
  new : ∀ s g L, κ.st s g = some L → ι.st s g = none → s < h.nx → ∃ g' L', ι.st s g' = some L'
  newob : ∀ i c, κ.ob i = some c → ι.ob i = none → h.nx ≤ i

theorem Ext.refl (ι : Inj) (h : Hp) (w : World) : Ext ι h w ι h w :=
  ⟨Inj.le.refl _, rfl, rfl, rfl, Nat.le_refl _, Nat.le_refl _, Nat.le_refl _, fun _ _ r => ⟨r, rfl⟩, fun _ _ a b => ⟨a, b, rfl⟩, fun _ _ _ a b => by simp [a] at b, fun _ _ a b => by simp [a] at b⟩

theorem Ext.trans {ι κ l : Inj} {h k m : Hp} {w u x : World} (a : Ext ι h w κ k u) (b : Ext κ k u l m x) : Ext ι h w l m x where
  le := a.le.trans b.le
  os := b.os.trans a.os
  tape := b.tape.trans a.tape
  output := b.output.trans a.output
  drawn := Nat.le_trans a.drawn b.drawn
  size := Nat.le_trans a.size b.size
  nx := Nat.le_trans a.nx b.nx
  ro := fun i hi r => by
    obtain ⟨r1, e1⟩ := a.ro i hi r
    obtain ⟨r2, e2⟩ := b.ro i (Nat.lt_of_lt_of_le hi a.size) r1
    exact ⟨r2, e2.trans e1⟩
  un := fun i hi p q => by
    obtain ⟨p1, q1, e1⟩ := a.un i hi p q
    obtain ⟨p2, q2, e2⟩ := b.un i (Nat.lt_of_lt_of_le hi a.nx) p1 q1
    exact ⟨p2, q2, e2.trans e1⟩
  new := fun s g L hl hn hs => by
    cases hk : κ.st s g with
    | some L1 => exact a.new s g L1 hk hn hs
    | none =>
      obtain ⟨g', L', h'⟩ := b.new s g L hl hk (Nat.lt_of_lt_of_le hs a.nx)
      cases hi : ι.st s g' with
      | some L2 => exact ⟨g', L2, hi⟩
      | none => exact a.new s g' L' h' hi hs
  newob := fun i c hc hn => by
    cases hk : κ.ob i with
    | some d => exact a.newob i d hk hn
    | none => exact Nat.le_trans a.nx (b.newob i c hc hk)

theorem Ext.below {ι κ : Inj} {h k : Hp} {w u : World} (a : Ext ι h w κ k u) (hro : ∀ b, b < w.heap.size → RO ι h b) : Below w.heap.size w u :=
  ⟨a.os, a.tape, a.output, a.size, fun b hb => (a.ro b hb (hro b hb)).2⟩

end Go.Ab
