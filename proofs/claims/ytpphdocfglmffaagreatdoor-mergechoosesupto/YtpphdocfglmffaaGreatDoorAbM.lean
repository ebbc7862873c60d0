/- Allocating, and storing into a block. -/
import Derived.Test.YtpphdocfglmffaaGreatDoorAbL
set_option linter.unusedVariables false
set_option linter.unusedSimpArgs false
namespace Go.Ab
open Go.RowKit (Below)

section
variable {P : Program} {ι : Inj} {w : World} {h : Hp} {e : Env} {ρ : Operand → Value}

theorem leaf_rel {v : V} {c : Value} (hv : VR ι v c) (hl : v.leaf = true) : c.oneCell' = true := by
  cases v <;> simp only [VR] at hv <;> simp [V.leaf] at hl
  all_goals
    first
      | (subst hv; rfl)
      | (obtain ⟨_, rfl, _⟩ := hv; rfl)
      | (obtain ⟨_, _, rfl⟩ := hv; rfl)
      | (obtain ⟨_, _, _, rfl⟩ := hv; rfl)
      | (obtain ⟨_, _, rfl, _⟩ := hv; rfl)
      | (obtain ⟨_, _, _, _, _, rfl, _⟩ := hv; rfl)

theorem leafs_rel : ∀ {vs : List V} {cs : List Value}, VRs ι vs cs → vs.all V.leaf = true → ∀ c ∈ cs, c.oneCell' = true
  | [], _, h, _, c, hc => by simp [VRs] at h; subst h; simp at hc
  | v :: vs, _, ⟨d, r, rfl, hv, hr⟩, hl, c, hc => by
    simp only [List.all_cons, Bool.and_eq_true] at hl
    rcases List.mem_cons.1 hc with rfl | hc
    · exact leaf_rel hv hl.1
    · exact leafs_rel hr hl.2 c hc

/-- a block's cells, another list laid over them -/
theorem store_run {b off : Nat} {el : TypeId} {fr : Nat × Nat} : ∀ (vs : List Value) (i : Nat) (c : Array Value) (w : World), w.heap[b]? = some (.cells c el fr) → off + i + vs.length ≤ c.size →
    (∀ j, off + i ≤ j → j < off + i + vs.length → ¬ (fr.1 ≤ j ∧ j < fr.2)) → (∀ v ∈ vs, v.oneCell' = true) →
    ∃ w' c', (storeCells ⟨b, off, none⟩ vs i).run P w = .ok () w' ∧ w'.heap[b]? = some (.cells c' el fr) ∧ c'.toList = c.toList.take (off + i) ++ (vs ++ c.toList.drop (off + i + vs.length)) ∧ c'.size = c.size ∧
      (∀ k, k ≠ b → w'.heap[k]? = w.heap[k]?) ∧ w'.heap.size = w.heap.size ∧ w'.os = w.os ∧ w'.tape = w.tape ∧ w'.output = w.output ∧ w'.drawn = w.drawn
  | [], i, c, w, hb, hl, hf, h1 => ⟨w, c, by simp [storeCells], hb, by simp, rfl, fun _ _ => rfl, rfl, rfl, rfl, rfl, rfl⟩
  | v :: vs, i, c, w, hb, hl, hf, h1 => by
    simp only [List.length_cons] at hl hf
    have hlt : off + i < c.size := by omega
    have hcell : w.cell? ⟨b, off + i, none⟩ = some c[off + i] := by simp [World.cell?, hb, hlt]
    have hfz : w.frozen? ⟨b, off + i, none⟩ = false := by
      have := hf (off + i) (by omega) (by omega)
      simp only [World.frozen?, hb]
      simpa using this
    have hs : (store ⟨b, off + i, none⟩ v).run P w = .ok () (w.setCell ⟨b, off + i, none⟩ v) := by
      rw [run_store _ _ _ _ _ (h1 v (by simp))]
      simp [hcell, hfz]
    have hb2 : (w.setCell ⟨b, off + i, none⟩ v).heap[b]? = some (.cells (c.setIfInBounds (off + i) v) el fr) := by
      simp [World.setCell, Array.getElem?_modify, hb]
    obtain ⟨w', c', r1, r2, r3, r4, r5, r6, r7, r8, r9, r10⟩ := store_run (off := off) vs (i + 1) (c.setIfInBounds (off + i) v) _ hb2 (by simp; omega) (fun j h2 h3 => hf j (by omega) (by omega)) (fun u hu => h1 u (by simp [hu]))
    refine ⟨w', c', ?_, r2, ?_, by rw [r4]; simp, ?_, ?_, r7, r8, r9, r10⟩
    · simp only [storeCells, add_eq, Sem.run_bind, hs, Result.andThen_ok]
      exact r1
    · rw [r3, Array.toList_setIfInBounds, ← Nat.add_assoc]
      have hlt2 : off + i < c.toList.length := by simpa using hlt
      rw [List.take_succ_eq_append_getElem (by simpa using hlt), List.getElem_set_self, List.take_set_of_le (by omega), List.drop_set_of_lt (by omega)]
      simp [show off + i + 1 + vs.length = off + i + (vs.length + 1) from by omega]
    · intro k hk
      rw [r5 k hk]
      simp only [World.setCell, Array.getElem?_modify]
      rw [if_neg (by omega)]
    · rw [r6]; simp

/- THE HEAP ALONE COUNTS -/
theorem StoR.congr {u : World} {g : Nat} {L : Loc} {cells : List V} {old : List Nat} {dirty : Nat} {esz : Option Nat} (he : u.heap[L.cb]? = w.heap[L.cb]?) (k : StoR ι w g L cells old dirty esz) : StoR ι u g L cells old dirty esz :=
  ⟨k.gen, k.esz, by rw [he]; exact k.obj⟩

theorem StoR.mono {κ : Inj} {g : Nat} {L : Loc} {cells : List V} {old : List Nat} {dirty : Nat} {esz : Option Nat} (hl : ι.le κ) (k : StoR ι w g L cells old dirty esz) : StoR κ w g L cells old dirty esz := by
  refine ⟨k.gen, k.esz, ?_⟩
  obtain ⟨c, el, fr, h1, h2, h3, h4, h5⟩ := k.obj
  refine ⟨c, el, fr, h1, h2, h3, fun hd => ?_, h5⟩
  obtain ⟨a, b, cc⟩ := h4 hd
  exact ⟨a, b, fun i v x y z => let ⟨d, p, q⟩ := cc i v x y z; ⟨d, p, VR.mono hl _ _ q⟩⟩

theorem EntsR.mono {κ : Inj} (hl : ι.le κ) : ∀ {xs : List MEnt} {ys : List MapEntry}, EntsR ι xs ys → EntsR κ xs ys
  | [], _, h => h
  | _ :: _, _, ⟨y, r, a, b, c⟩ => ⟨y, r, a, ⟨VR.mono hl _ _ b.1, VR.mono hl _ _ b.2.1, b.2.2⟩, EntsR.mono hl c⟩

theorem ObR.mono {κ : Inj} (hl : ι.le κ) {c : Nat} {o : Ob} (k : ObR ι w c o) : ObR κ w c o := by
  cases o with
  | sto => exact k
  | map es clock => obtain ⟨ces, a, b⟩ := k; exact ⟨ces, a, b.mono hl⟩
  | mit m since seen st =>
    obtain ⟨cm, a, b⟩ := k
    refine ⟨cm, a, ?_⟩
    cases m <;> cases cm <;> first | exact b | exact hl.ob _ _ b

theorem ObR.congr {u : World} {c : Nat} {o : Ob} (he : u.heap[c]? = w.heap[c]?) (k : ObR ι w c o) : ObR ι u c o := by
  cases o with
  | sto => exact k
  | map es clock => obtain ⟨ces, a, b⟩ := k; exact ⟨ces, by rw [he]; exact a, b⟩
  | mit m since seen st => obtain ⟨cm, a, b⟩ := k; exact ⟨cm, by rw [he]; exact a, b⟩

theorem Rel.congr {u : World} (hR : Rel ι h w) (he : u.heap = w.heap) : Rel ι h u where
  st := fun s g L hL => let ⟨a, b, c⟩ := hR.st s g L hL; ⟨a, by rw [he]; exact b, fun x y z t ho => (c x y z t ho).congr (by rw [he])⟩
  sep := hR.sep
  ob := fun i c hc => let ⟨a, b, o, d, f⟩ := hR.ob i c hc; ⟨a, by rw [he]; exact b, o, d, f.congr (by rw [he])⟩
  obsep := hR.obsep
  kind := hR.kind
  obj := hR.obj

theorem Ext.drew (ι : Inj) (h : Hp) (w : World) : Ext ι h w ι h w.drew :=
  ⟨Inj.le.refl _, rfl, rfl, rfl, Nat.le_succ _, Nat.le_refl _, Nat.le_refl _, fun _ _ r => ⟨r, rfl⟩, fun _ _ a b => ⟨a, b, rfl⟩, fun _ _ _ a b => by simp [a] at b, fun _ _ a b => by simp [a] at b⟩

/- A NEW STORAGE -/
def Inj.addSt (ι : Inj) (s g : Nat) (L : Loc) : Inj := { ι with st := fun s' g' => if s' = s ∧ g' = g then some L else ι.st s' g' }
def Inj.addOb (ι : Inj) (i c : Nat) : Inj := { ι with ob := fun j => if j = i then some c else ι.ob j }

theorem Inj.le_addSt {s g : Nat} {L : Loc} (hn : ι.st s g = none) : ι.le (ι.addSt s g L) :=
  ⟨fun s' g' L' hh => by
    show (if s' = s ∧ g' = g then some L else ι.st s' g') = some L'
    rw [if_neg]; exact hh
    rintro ⟨rfl, rfl⟩; rw [hn] at hh; simp at hh, fun _ _ hh => hh⟩

theorem Inj.le_addOb {i c : Nat} (hn : ι.ob i = none) : ι.le (ι.addOb i c) :=
  ⟨fun _ _ _ hh => hh, fun j d hh => by
    show (if j = i then some c else ι.ob j) = some d
    rw [if_neg]; exact hh
    rintro rfl; rw [hn] at hh; simp at hh⟩

theorem Rel.st_none (hR : Rel ι h w) {s g : Nat} (hs : h.nx ≤ s) : ι.st s g = none := by
  cases hh : ι.st s g with
  | none => rfl
  | some L => have := (hR.st s g L hh).1; omega

theorem Rel.ob_none (hR : Rel ι h w) {s : Nat} (hs : h.nx ≤ s) : ι.ob s = none := by
  cases hh : ι.ob s with
  | none => rfl
  | some c => have := (hR.ob s c hh).1; omega

theorem heap_alloc_lt (w : World) (o : Obj) {k : Nat} (hk : k < w.heap.size) : (w.alloc o).heap[k]? = w.heap[k]? := Below.heap_alloc w o k hk
theorem heap_alloc_new (w : World) (o : Obj) : (w.alloc o).heap[w.heap.size]? = some o := by
  show (w.heap.push o)[w.heap.size]? = _
  simp

/-- nothing of the object s lies in the world -/
def Free (ι : Inj) (s : Nat) : Prop := (∀ g, ι.st s g = none) ∧ ι.ob s = none

/-- an object is laid at a place -/
def Hp.lay (h : Hp) (s : Nat) (o : Ob) : Hp := { obj := fun j => if j = s then some o else h.obj j, nx := max h.nx (s + 1) }

theorem Hp.lay_new (h : Hp) (o : Ob) : h.lay h.nx o = h.new o := by
  have : max h.nx (h.nx + 1) = h.nx + 1 := by omega
  simp [Hp.lay, Hp.new, this]

theorem Hp.lay_same {s : Nat} {o : Ob} (ho : h.obj s = some o) (hs : s < h.nx) : h.lay s o = h := by
  have : max h.nx (s + 1) = h.nx := by omega
  simp only [Hp.lay, this]
  cases h with
  | mk obj nx =>
    simp only [Hp.mk.injEq, and_true]
    funext j
    split
    · rename_i hj; subst hj; exact ho.symm
    · rfl

/-- only the object s is new -/
structure LExt (s : Nat) (ι : Inj) (h : Hp) (w : World) (κ : Inj) (k : Hp) (u : World) : Prop where
  le : ι.le κ
  os : u.os = w.os
  tape : u.tape = w.tape
  output : u.output = w.output
  drawn : w.drawn ≤ u.drawn
  size : w.heap.size ≤ u.heap.size
  nx : h.nx ≤ k.nx
  ro : ∀ b, b < w.heap.size → RO ι h b → RO κ k b ∧ u.heap[b]? = w.heap[b]?
  un : ∀ i, i ≠ s → (∀ g, κ.st i g = ι.st i g) ∧ κ.ob i = ι.ob i ∧ k.obj i = h.obj i

theorem LExt.ext {s : Nat} {κ : Inj} {k : Hp} {u : World} (a : LExt s ι h w κ k u) (hs : h.nx ≤ s) : Ext ι h w κ k u where
  le := a.le
  os := a.os
  tape := a.tape
  output := a.output
  drawn := a.drawn
  size := a.size
  nx := a.nx
  ro := a.ro
  un := fun i hi p q => by
    obtain ⟨x, y, z⟩ := a.un i (by omega)
    exact ⟨fun g => by rw [x, p], by rw [y, q], z⟩
  new := fun i g L hl hn hi => by
    obtain ⟨x, _, _⟩ := a.un i (by omega)
    rw [x, hn] at hl; simp at hl
  newob := fun i c hc hn => by
    by_cases hi : i = s
    · omega
    · rw [(a.un i hi).2.1, hn] at hc; simp at hc

theorem LExt.drewL {s : Nat} {κ : Inj} {k : Hp} {u : World} (a : LExt s ι h w.drew κ k u) : LExt s ι h w κ k u :=
  ⟨a.le, a.os, a.tape, a.output, Nat.le_of_succ_le a.drawn, a.size, a.nx, a.ro, a.un⟩

theorem LExt.then {s : Nat} {κ : Inj} {k : Hp} {u x : World} (a : LExt s ι h w κ k u) (b : Ext κ k u κ k x) : LExt s ι h w κ k x :=
  ⟨a.le, b.os.trans a.os, b.tape.trans a.tape, b.output.trans a.output, Nat.le_trans a.drawn b.drawn, Nat.le_trans a.size b.size, a.nx, fun i hi r => by
    obtain ⟨r1, e1⟩ := a.ro i hi r
    obtain ⟨r2, e2⟩ := b.ro i (Nat.lt_of_lt_of_le hi a.size) r1
    exact ⟨r2, e2.trans e1⟩, a.un⟩

theorem alloc_lay (hR : Rel ι h w) {s0 : Nat} (hf : Free ι s0) {vs : List V} {cs extra : List Value} (hv : VRs ι vs cs) (el : TypeId) (esz : Option Nat) :
    let L : Loc := ⟨w.heap.size, 0, 0, vs.length, (cs ++ extra).length, esz, 0⟩
    Rel (ι.addSt s0 0 L) (h.lay s0 (.sto vs [] 0 esz)) (w.alloc (.cells (cs ++ extra).toArray el)) ∧ LExt s0 ι h w (ι.addSt s0 0 L) (h.lay s0 (.sto vs [] 0 esz)) (w.alloc (.cells (cs ++ extra).toArray el)) := by
  intro L
  have hn : ∀ g, ι.st s0 g = none := hf.1
  have hle := Inj.le_addSt (ι := ι) (L := L) (hn 0)
  have hst : ∀ s g K, (ι.addSt s0 0 L).st s g = some K → (s = s0 ∧ g = 0 ∧ K = L) ∨ (s ≠ s0 ∧ ι.st s g = some K) := by
    intro s g K hk
    simp only [Inj.addSt] at hk
    split at hk
    · rename_i hh; simp at hk; exact .inl ⟨hh.1, hh.2, hk.symm⟩
    · refine .inr ⟨?_, hk⟩
      rintro rfl
      rw [hn] at hk; simp at hk
  have hnx : h.nx ≤ max h.nx (s0 + 1) := Nat.le_max_left _ _
  have hnx2 : s0 < max h.nx (s0 + 1) := by have := Nat.le_max_right h.nx (s0 + 1); omega
  constructor
  · constructor
    · intro s g K hk
      rcases hst s g K hk with ⟨rfl, rfl, rfl⟩ | ⟨hs, hk⟩
      · refine ⟨hnx2, by simp [L], ?_⟩
        intro cells old dirty es ho
        simp only [Hp.lay, if_true, Option.some.injEq, Ob.sto.injEq] at ho
        obtain ⟨rfl, rfl, rfl, rfl⟩ := ho
        refine ⟨Nat.le_refl _, rfl, _, el, (0, 0), heap_alloc_new _ _, by simp [L], by simp [L, hv.length], fun _ => ⟨⟨Nat.zero_le _, by simp [L]⟩, by simp [genSize, L], ?_⟩, fun _ => ⟨Nat.le_refl _, .inl rfl⟩⟩
        intro i v _ hi hcv
        obtain ⟨d, hd, hvd⟩ := hv.get hcv
        refine ⟨d, ?_, VR.mono hle _ _ hvd⟩
        simp only [L, Nat.zero_add, Nat.sub_zero]
        have : i < cs.length := (List.getElem?_eq_some_iff.1 hd).1
        simp [List.getElem?_append_left this, hd]
      · obtain ⟨a, b, c⟩ := hR.st s g K hk
        refine ⟨Nat.lt_of_lt_of_le a hnx, by simp; omega, ?_⟩
        intro cells old dirty es ho
        simp only [Hp.lay, if_neg hs] at ho
        exact ((c _ _ _ _ ho).mono hle).congr (heap_alloc_lt _ _ b)
    · intro s g K s' g' K' hk hk' hcb
      rcases hst s g K hk with ⟨rfl, rfl, rfl⟩ | ⟨hs, hk2⟩ <;> rcases hst s' g' K' hk' with ⟨rfl, rfl, rfl⟩ | ⟨hs', hk2'⟩
      · exact .inl ⟨rfl, rfl⟩
      · have := (hR.st s' g' K' hk2').2.1; simp [L] at hcb; omega
      · have := (hR.st s g K hk2).2.1; simp [L] at hcb; omega
      · exact hR.sep s g K s' g' K' hk2 hk2' hcb
    · intro i c hc
      obtain ⟨a, b, o, ho, hor⟩ := hR.ob i c hc
      have hi : i ≠ s0 := by
        rintro rfl
        have hc : ι.ob i = some c := hc
        rw [hf.2] at hc; simp at hc
      exact ⟨Nat.lt_of_lt_of_le a hnx, by simp; omega, o, by simp [Hp.lay, hi, ho], (hor.mono hle).congr (heap_alloc_lt _ _ b)⟩
    · exact hR.obsep
    · intro s g K i c hk hc
      rcases hst s g K hk with ⟨rfl, rfl, rfl⟩ | ⟨hs, hk⟩
      · have := (hR.ob i c hc).2.1; simp [L]; omega
      · exact hR.kind s g K i c hk hc
    · intro i o ho
      simp only [Hp.lay] at ho ⊢
      split at ho
      · rename_i hh; rw [hh]; exact hnx2
      · exact Nat.lt_of_lt_of_le (hR.obj i o ho) hnx
  · refine ⟨hle, rfl, rfl, rfl, Nat.le_refl _, by simp, hnx, ?_, ?_⟩
    · intro b hb hro
      refine ⟨⟨?_, hro.2⟩, heap_alloc_lt _ _ hb⟩
      intro s g K hk hcb cells old dirty es ho
      rcases hst s g K hk with ⟨rfl, rfl, rfl⟩ | ⟨hs, hk⟩
      · simp [L] at hcb; omega
      · simp only [Hp.lay, if_neg hs] at ho
        exact hro.1 s g K hk hcb _ _ _ _ ho
    · intro i hi
      exact ⟨fun g => by simp [Inj.addSt, hi], rfl, by simp [Hp.lay, hi]⟩

theorem Rel.free (hR : Rel ι h w) : Free ι h.nx := ⟨fun _ => hR.st_none (Nat.le_refl _), hR.ob_none (Nat.le_refl _)⟩

theorem alloc_rel (hR : Rel ι h w) {vs : List V} {cs extra : List Value} (hv : VRs ι vs cs) (el : TypeId) (esz : Option Nat) :
    let L : Loc := ⟨w.heap.size, 0, 0, vs.length, (cs ++ extra).length, esz, 0⟩
    Rel (ι.addSt h.nx 0 L) (h.new (.sto vs [] 0 esz)) (w.alloc (.cells (cs ++ extra).toArray el)) ∧ Ext ι h w (ι.addSt h.nx 0 L) (h.new (.sto vs [] 0 esz)) (w.alloc (.cells (cs ++ extra).toArray el)) := by
  obtain ⟨a, b⟩ := alloc_lay hR hR.free hv (extra := extra) el esz
  rw [Hp.lay_new] at a b
  exact ⟨a, b.ext (Nat.le_refl _)⟩

end
end Go.Ab
