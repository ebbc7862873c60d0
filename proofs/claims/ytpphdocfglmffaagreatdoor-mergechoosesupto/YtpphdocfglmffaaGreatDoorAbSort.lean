/- The library's sorts: what their contracts say, said of the abstract machine. -/
import Derived.Test.YtpphdocfglmffaaGreatDoorAbIn
import Derived.Shelf.SlSortCmp.WholeK
import Derived.Sort.Row
set_option linter.unusedVariables false
set_option linter.unusedSimpArgs false
namespace Go.Ab
open Go.RowKit (Below)
set_option linter.unusedVariables false
set_option linter.unusedSimpArgs false

section
variable {P : Program} {ι : Inj} {w : World} {h : Hp}

/-- a world that has grown -/
theorem Rel.grown {u : World} (hR : Rel ι h w) (hs : w.heap.size ≤ u.heap.size) (hb : ∀ b, b < w.heap.size → u.heap[b]? = w.heap[b]?) : Rel ι h u where
  st := fun s g L hL => by
    obtain ⟨a, b, c⟩ := hR.st s g L hL
    exact ⟨a, Nat.lt_of_lt_of_le b hs, fun cells old dirty esz ho => (c _ _ _ _ ho).congr (hb _ b)⟩
  sep := hR.sep
  ob := fun i c hi => by
    obtain ⟨a, b, o, ho, hor⟩ := hR.ob i c hi
    exact ⟨a, Nat.lt_of_lt_of_le b hs, o, ho, hor.congr (hb _ b)⟩
  obsep := hR.obsep
  kind := hR.kind
  obj := hR.obj

theorem Ext.grown {u : World} (h1 : u.os = w.os) (h2 : u.tape = w.tape) (h3 : u.output = w.output) (h4 : w.drawn ≤ u.drawn) (hs : w.heap.size ≤ u.heap.size) (hb : ∀ b, b < w.heap.size → u.heap[b]? = w.heap[b]?) : Ext ι h w ι h u :=
  ⟨Inj.le.refl _, h1, h2, h3, h4, hs, Nat.le_refl _, fun b hlt r => ⟨r, hb b hlt⟩, fun _ _ a b => ⟨a, b, rfl⟩, fun _ _ _ a b => by simp [a] at b, fun _ _ a b => by simp [a] at b⟩

/-- cells are written, whoever did it -/
theorem write_world (hR : Rel ι h w) {s g : Nat} {L : Loc} {cells : List V} {old : List Nat} {dirty : Nat} {esz : Option Nat} {o : Nat} {vs : List V} {cs : List Value} {ob : Ob} {u : World} (hL : ι.st s g = some L) (hb : L.base ≤ o)
    (ho : h.obj s = some (.sto cells old dirty esz)) (hw : wrAt cells old dirty esz g o vs = some ob) (hv : VRs ι vs cs)
    (h1 : u.os = w.os) (h2 : u.tape = w.tape) (h3 : u.output = w.output) (h4 : w.drawn ≤ u.drawn) (hs : w.heap.size ≤ u.heap.size) (hother : ∀ b, b < w.heap.size → b ≠ L.cb → u.heap[b]? = w.heap[b]?)
    (hthis : ∀ c el fr, w.heap[L.cb]? = some (.cells c el fr) → ∃ c', u.heap[L.cb]? = some (.cells c' el fr) ∧ c'.size = c.size ∧ ∀ k, c'[k]? = if L.coff + (o - L.base) ≤ k ∧ k < L.coff + (o - L.base) + cs.length then cs[k - (L.coff + (o - L.base))]? else c[k]?) :
    Rel ι (h.set s ob) u ∧ Ext ι h w ι (h.set s ob) u := by
  obtain ⟨w', hrun, hR', hE⟩ := write_rel (P := default) hR hL hb ho hw hv
  obtain ⟨rfl, hlen, hleaf, rfl⟩ := wrAt_some hw
  obtain ⟨hs1, hcb, hst⟩ := hR.st _ _ L hL
  obtain ⟨_, he, c, el, fr, hc, hcsz, hfit, hd, hcur⟩ := hst _ _ _ _ ho
  obtain ⟨hdirty, hfz⟩ := hcur rfl
  obtain ⟨⟨hbs, hbs2⟩, hsz, hcell⟩ := hd hdirty
  have hsz' : L.size = cells.length := by rw [hsz]; simp [genSize]
  have hcl := hv.length
  have hroom : L.coff + (o - L.base) + 0 + cs.length ≤ c.size := by omega
  obtain ⟨w2, c2, r1, r2, r3, r4, r5, r6, r7, r8, r9, r10⟩ := store_run (P := default) cs 0 c w hc hroom (fun j h1 h2 => by omega) (leafs_rel hv hleaf)
  rw [r1] at hrun
  simp only [Result.ok.injEq, true_and] at hrun
  subst hrun
  have hall : ∀ b, b < w2.heap.size → u.heap[b]? = w2.heap[b]? := by
    intro b hlt
    rw [r6] at hlt
    by_cases hbc : b = L.cb
    · subst hbc
      obtain ⟨c', g1, g2, g3⟩ := hthis c el fr hc
      rw [g1, r2]
      congr 2
      apply Array.ext_getElem?
      intro k
      rw [g3, ← Array.getElem?_toList, ← Array.getElem?_toList (xs := c2), r3]
      simp only [Nat.add_zero]
      by_cases h1 : k < L.coff + (o - L.base)
      · rw [if_neg (by omega), List.getElem?_append_left (by simp; omega), List.getElem?_take_of_lt h1]
      · by_cases h2 : k < L.coff + (o - L.base) + cs.length
        · rw [if_pos ⟨by omega, h2⟩, List.getElem?_append_right (by simp; omega), List.getElem?_append_left (by simp; omega)]
          congr 1; simp; omega
        · rw [if_neg (by omega), List.getElem?_append_right (by simp; omega), List.getElem?_append_right (by simp; omega), List.getElem?_drop]
          congr 1; simp; omega
    · rw [hother b hlt hbc, r5 b hbc]
  refine ⟨hR'.grown (by omega) hall, hE.trans (Ext.grown (by rw [h1, r7]) (by rw [h2, r8]) (by rw [h3, r9]) (by rw [r10]; exact h4) (by omega) hall)⟩

/-- the world behind the library's sorts -/
theorem sorted_world {α : Type} [Inhabited α] {enc : α → Value} {blk off n : Nat} {d : Array α} {os : Array Obj} {u : World} (hu : u = Go.Sort.grow (Go.Sort.putRow enc (Go.Sort.ahead w n) blk off d) os) {cs : List Value} (hcs : cs.length = d.size) (hce : ∀ j, j < d.size → cs[j]? = some (enc d[j]!)) :
    u.os = w.os ∧ u.tape = w.tape ∧ u.output = w.output ∧ w.drawn ≤ u.drawn ∧ w.heap.size ≤ u.heap.size ∧ (∀ b, b < w.heap.size → b ≠ blk → u.heap[b]? = w.heap[b]?) ∧
    ∀ c el fr, w.heap[blk]? = some (.cells c el fr) → ∃ c', u.heap[blk]? = some (.cells c' el fr) ∧ c'.size = c.size ∧ (off + d.size ≤ c.size → ∀ k, c'[k]? = if off ≤ k ∧ k < off + cs.length then cs[k - off]? else c[k]?) := by
  subst hu
  refine ⟨rfl, rfl, rfl, by simp [Go.Sort.grow, Go.Sort.putRow, Go.Sort.mapBlock, Go.Sort.ahead], by simp [Go.Sort.grow, Go.Sort.putRow, Go.Sort.mapBlock, Go.Sort.ahead], ?_, ?_⟩
  · intro b hb hne
    simp only [Go.Sort.grow, Go.Sort.putRow, Go.Sort.mapBlock, Go.Sort.ahead]
    rw [Array.getElem?_append_left (by simpa using hb), Array.getElem?_modify, if_neg (by omega)]
  · intro c el fr hc
    have hb : blk < w.heap.size := (Array.getElem?_eq_some_iff.1 hc).1
    refine ⟨Go.Sort.putCells enc off d c, ?_, by simp [Go.Sort.putCells], ?_⟩
    · simp only [Go.Sort.grow, Go.Sort.putRow, Go.Sort.mapBlock, Go.Sort.ahead]
      rw [Array.getElem?_append_left (by simpa using hb), Array.getElem?_modify, if_pos rfl, hc]
      rfl
    · intro hfit k
      simp only [Go.Sort.putCells, Array.getElem?_mapIdx]
      by_cases hk : k < c.size
      · rw [Array.getElem?_eq_getElem hk]
        simp only [Option.map_some]
        by_cases h1 : off ≤ k ∧ k < off + d.size
        · rw [if_pos h1, if_pos (by omega), hce _ (by omega)]
        · rw [if_neg h1, if_neg (by omega)]
      · rw [Array.getElem?_eq_none (by omega), if_neg (by omega)]
        rfl

/-- a call that leaves alone what was there: so has the world grown -/
theorem grown_of_ext {κ : Inj} {k : Hp} {u : World} (hE : Ext Inj.nil Hp.nil w κ k u) : u = Go.Sort.grow (w.drewN (u.drawn - w.drawn)) (u.heap.extract w.heap.size) := by
  have hb : ∀ b, b < w.heap.size → u.heap[b]? = w.heap[b]? := fun b hlt => (hE.ro b hlt (RO.nil b)).2
  obtain ⟨uh, ut, ud, uo, uu⟩ := u
  have e1 := hE.os; have e2 := hE.tape; have e3 := hE.output; have e4 := hE.drawn; have e5 := hE.size
  simp only at e1 e2 e3 e4 e5 hb
  subst e1; subst e2; subst e3
  simp only [Go.Sort.grow, World.drewN, World.mk.injEq, true_and, and_true]
  refine ⟨?_, by omega⟩
  apply Array.ext_getElem?
  intro i
  by_cases hi : i < w.heap.size
  · rw [Array.getElem?_append_left hi, hb i hi]
  · rw [Array.getElem?_append_right (by omega), Array.getElem?_extract]
    by_cases h2 : i < uh.size
    · rw [if_pos (by simp; omega)]; congr 1; omega
    · rw [if_neg (by simp; omega), Array.getElem?_eq_none (by omega)]

/-- a slice of the call's own, seen in the world; and what becomes of it when its cells are written -/
theorem sort_core (hR : Rel ι h w) {sz : Nat} {a : V} {rows : List (List V)} {av : Value} (g : Grow h sz a rows) (hsz : 0 < sz) (hne : 0 < rows.length) (hv : VR ι a av) :
    ∃ blk off cap' cs, av = .slice (some ⟨blk, off, none⟩) rows.length cap' ∧ blk < w.heap.size ∧ VRs ι rows.flatten cs ∧ cs.length = rows.length * sz ∧ (∀ j, j < cs.length → w.cell? ⟨blk, off + j, none⟩ = cs[j]? ∧ w.frozen? ⟨blk, off + j, none⟩ = false) ∧
      ∀ (rows' : List (List V)) (cs' : List Value) (u : World), rows'.length = rows.length → (∀ r ∈ rows', r.length = sz) → (∀ r ∈ rows', r.all V.leaf = true) → VRs ι rows'.flatten cs' →
        (u.os = w.os ∧ u.tape = w.tape ∧ u.output = w.output ∧ w.drawn ≤ u.drawn ∧ w.heap.size ≤ u.heap.size ∧ (∀ b, b < w.heap.size → b ≠ blk → u.heap[b]? = w.heap[b]?) ∧
          ∀ c el fr, w.heap[blk]? = some (.cells c el fr) → ∃ c', u.heap[blk]? = some (.cells c' el fr) ∧ c'.size = c.size ∧ (off + cs'.length ≤ c.size → ∀ k, c'[k]? = if off ≤ k ∧ k < off + cs'.length then cs'[k - off]? else c[k]?)) →
        ∃ k, Rel ι k u ∧ Ext ι h w ι k u ∧ k.nx = h.nx ∧ (∀ i, i ≠ a.sS → k.obj i = h.obj i) ∧ Sl k.obj sz a rows' := by
  rcases g.own with rfl | ⟨s, gg, o, cells, old, dirty, esz, rfl, hob, rfl, _⟩
  · rcases g.sl.shape with ⟨_, rfl⟩ | ⟨_, _, _, _, h1, _⟩
    · simp at hne
    · simp at h1
  have hv0 := hv
  obtain ⟨A, cap', rfl, hn, hor⟩ := hv
  rcases hor with ⟨h1, _⟩ | ⟨L, hL, hb, rfl, _⟩
  · omega
  have hrd : rdAt h.obj s old.length o (rows.length * sz) = some rows.flatten := by
    rcases g.sl.shape with ⟨h1, _⟩ | ⟨s', g', o', c', h1, _, h3⟩
    · simp at h1
    · simp only [V.slc.injEq] at h1
      obtain ⟨rfl, rfl, rfl, _, _, _⟩ := h1
      exact h3
  obtain ⟨_, hcb, hst⟩ := hR.st _ _ L hL
  obtain ⟨_, _, c, el, fr, hc, hcsz, hfit, hd, hcur⟩ := hst _ _ _ _ hob
  obtain ⟨hdirty, hfz⟩ := hcur rfl
  obtain ⟨⟨hbs, hbs2⟩, hsz2, _⟩ := hd hdirty
  have hsz3 : L.size = cells.length := by rw [hsz2]; simp [genSize]
  obtain ⟨ad, cp, cs, he, hvs, hlc, hcell⟩ := slc_run hR hv0 hrd (fun h => by omega)
  simp only [Value.slice.injEq, Option.some.injEq] at he
  obtain ⟨rfl, _, rfl⟩ := he
  obtain ⟨cells0, old0, dirty0, esz0, hob0, hrc⟩ := rdAt_some hrd
  rw [hob] at hob0
  simp only [Option.some.injEq, Ob.sto.injEq] at hob0
  obtain ⟨rfl, rfl, rfl, rfl⟩ := hob0
  obtain ⟨d1, d2, d3, d4⟩ := rdCells_some hrc
  refine ⟨L.cb, L.coff + (o - L.base), cap', cs, rfl, hcb, hvs, hlc, ?_, ?_⟩
  · intro j hj
    have h1 := hcell j cs[j] (List.getElem?_eq_getElem hj)
    rw [add_eq] at h1
    refine ⟨by rw [h1, List.getElem?_eq_getElem hj], ?_⟩
    simp only [World.frozen?, hc]
    rcases hfz with h | h
    · simp; omega
    · simp; omega
  · intro rows' cs' u hl hlen hleaf hvs' ⟨u1, u2, u3, u4, u5, u6, u7⟩
    have hfl' := flat_len hlen
    have hcl' := hvs'.length
    have hw : wrAt cells old dirty esz old.length o rows'.flatten = some (.sto (over cells o rows'.flatten) old (if old.length = 0 then dirty else old.length) esz) := by
      unfold wrAt
      rw [if_pos ⟨rfl, by rw [hfl', hl]; omega, flat_leaf hleaf⟩]
    obtain ⟨r1, r2⟩ := write_world hR hL hb hob hw hvs' u1 u2 u3 u4 u5 u6 (fun c el fr hc' => by
      obtain ⟨c', q1, q2, q3⟩ := u7 c el fr hc'
      refine ⟨c', q1, q2, q3 ?_⟩
      rw [hc] at hc'
      simp only [Option.some.injEq, Obj.cells.injEq] at hc'
      obtain ⟨rfl, _, _⟩ := hc'
      rw [← hcl', hfl', hl]; omega)
    refine ⟨_, r1, r2, rfl, fun i hi => by rw [Hp.set_obj, if_neg (show ¬ i = s from hi)], ⟨.inr ⟨s, old.length, o, rows.length, by rw [hl], by omega, ?_⟩, hlen, hleaf, by rw [hl]; exact g.sl.lim⟩⟩
    simp only [rdAt, Hp.set_obj, if_true]
    unfold rdCells
    have hov : (over cells o rows'.flatten).length = cells.length := over_length _ _ _ (by rw [hfl', hl]; omega)
    rw [if_pos ⟨by split <;> omega, by simp only [genSize, if_true, hov]; rw [hl]; omega, by rw [hov, hl]; omega⟩]
    congr 1
    unfold over
    rw [List.append_assoc, List.drop_append, List.length_take, List.drop_eq_nil_of_le (by rw [List.length_take]; omega), List.nil_append, show o - min o cells.length = 0 by omega, List.drop_zero, ← hfl', List.take_append, List.take_length]
    simp

end
end Go.Ab
