/- What comes in: a reading of the arguments as data gives an abstract heap that stands for the memory, read-only, and abstract values that read alike. -/
import Derived.Test.YtpphdocfglmffaaGreatDoorAbSy
import Derived.ChangeArms
import Derived.DataReads
set_option linter.unusedVariables false
set_option linter.unusedSimpArgs false
namespace Go.Ab
open Go.RowKit (Below)
set_option linter.unusedVariables false
set_option linter.unusedSimpArgs false

/-- the shapes of data: a struct is a row of parts -/
inductive Sh where
  | bool
  | int (k : IntKind)
  | str
  | slc (e : Sh)
  | nl
  | cs (s r : Sh)

def Sh.sz : Sh → Nat
  | .nl => 0
  | .cs s r => s.sz + r.sz
  | _ => 1

/-- a type (or the fields of a struct from one place on) has a shape -/
def ShOf (P : Program) : Sh → TypeId ⊕ (List Field × Nat) → Prop
  | .bool, .inl t => P.underlying t = some .bool
  | .int k, .inl t => P.underlying t = some (.int k)
  | .str, .inl t => P.underlying t = some .string
  | .slc e, .inl t => ∃ u, P.underlying t = some (.slice u) ∧ P.cellsOf u = e.sz ∧ 0 < e.sz ∧ ShOf P e (.inl u)
  | .nl, .inr l => l.1 = []
  | .cs s r, .inl t => ∃ fs f l, P.underlying t = some (.struct fs) ∧ P.cellsOf t = s.sz + r.sz ∧ fs.toList = f :: l ∧ f.offset = 0 ∧ P.cellsOf f.type = s.sz ∧ ShOf P s (.inl f.type) ∧ ShOf P r (.inr (l, s.sz))
  | .cs s r, .inr l => ∃ f m, l.1 = f :: m ∧ f.offset = l.2 ∧ P.cellsOf f.type = s.sz ∧ ShOf P s (.inl f.type) ∧ ShOf P r (.inr (m, l.2 + s.sz))
  | _, _ => False

/-- cells read as a datum -/
def DR {H : Type} (O : Obs) : Sh → List V → DataW H → Prop
  | .bool, vs, d => ∃ b, d = .lit (.bool b) ∧ vs = [.bool b]
  | .int k, vs, d => ∃ n, d = .lit (.int k n) ∧ (Lit.int k n).wf = true ∧ vs = [.int k n]
  | .str, vs, d => ∃ s : List UInt8, d = .lit (.string s) ∧ vs = [.str s]
  | .slc e, vs, d => (d = .nil ∧ vs = [.nslc]) ∨ ∃ a rows elems spare, d = .slice elems spare ∧ vs = [a] ∧ Sl O e.sz a rows ∧ rows.length = elems.length ∧ ∀ (i : Nat) r x, rows[i]? = some r → elems[i]? = some x → DR O e r x
  | .nl, vs, d => d = .agg [] ∧ vs = []
  | .cs s r, vs, d => ∃ v1 v2 x ds, vs = v1 ++ v2 ∧ v1.length = s.sz ∧ d = .agg (x :: ds) ∧ DR O s v1 x ∧ DR O r v2 (.agg ds)

theorem DR.mono {H : Type} {O Q : Obs} (hl : RLe O Q) : ∀ {sh : Sh} {vs : List V} {d : DataW H}, DR O sh vs d → DR Q sh vs d
  | .bool, _, _, h => h
  | .int _, _, _, h => h
  | .str, _, _, h => h
  | .slc e, _, _, h => by
    rcases h with h | ⟨a, rows, elems, spare, h1, h2, h3, h4, h5⟩
    · exact .inl h
    · exact .inr ⟨a, rows, elems, spare, h1, h2, h3.mono hl, h4, fun i r x hr hx => DR.mono hl (h5 i r x hr hx)⟩
  | .nl, _, _, h => h
  | .cs s r, _, _, h => by
    obtain ⟨v1, v2, x, ds, h1, h2, h3, h4, h5⟩ := h
    exact ⟨v1, v2, x, ds, h1, h2, h3, DR.mono hl h4, DR.mono hl h5⟩

/-- how much there is -/
structure Meas {H : Type} (m : DataW H → Nat) : Prop where
  slice : ∀ es sp, es.length ≤ m (.slice es sp)
  elem : ∀ es sp x, x ∈ es → m x ≤ m (.slice es sp)
  part : ∀ ps x, x ∈ ps → m x ≤ m (.agg ps)

/-- a heap that stands for memory, all of it read-only -/
structure RoRel (ι : Inj) (h : Hp) (w : World) : Prop where
  rel : Rel ι h w
  ro : ∀ s g L, ι.st s g = some L → 0 < L.ro
  ob : ∀ i, ι.ob i = none

theorem RoRel.RO {ι : Inj} {h : Hp} {w : World} (r : RoRel ι h w) (b : Nat) : RO ι h b := by
  refine ⟨fun s g L hL hb cells old dirty esz ho => ?_, fun i c hi => by rw [r.ob] at hi; simp at hi⟩
  have h1 := ((r.rel.st s g L hL).2.2 _ _ _ _ ho).gen
  have h2 := r.ro s g L hL
  omega
theorem RoRel.nil (w : World) : RoRel Inj.nil Hp.nil w := ⟨Rel.nil w, fun s g L h => by simp [Inj.nil] at h, fun i => rfl⟩

/-- an object that nothing stands for -/
theorem RoRel.dummy {ι : Inj} {h : Hp} {w : World} (r : RoRel ι h w) (o : Ob) : RoRel ι (h.new o) w where
  rel := by
    have hn : ∀ s g L, ι.st s g = some L → s ≠ h.nx := fun s g L hL => by have := (r.rel.st s g L hL).1; omega
    refine ⟨?_, r.rel.sep, ?_, r.rel.obsep, r.rel.kind, ?_⟩
    · intro s g L hL
      obtain ⟨a, b, c⟩ := r.rel.st s g L hL
      refine ⟨by simp; omega, b, fun cells old dirty esz ho => ?_⟩
      rw [Hp.new_obj, if_neg (hn s g L hL)] at ho
      exact c _ _ _ _ ho
    · intro i c hi; rw [r.ob] at hi; simp at hi
    · intro i x hx
      rw [Hp.new_obj] at hx
      split at hx
      · rename_i hh; subst hh; simp
      · have := r.rel.obj i x hx; simp; omega
  ro := r.ro
  ob := r.ob

/-- cells of one block are laid into a new storage -/
theorem RoRel.lay {ι : Inj} {h : Hp} {w : World} (r : RoRel ι h w) {b off : Nat} {c : Array Value} {el : TypeId} {fr : Nat × Nat} {vs : List V} {cs : List Value} (hb : w.heap[b]? = some (.cells c el fr)) (hv : VRs ι vs cs)
    (hc : ∀ j d, cs[j]? = some d → c[off + j]? = some d) (hfit : off + vs.length ≤ c.size) :
    let L : Loc := ⟨b, off, 0, vs.length, c.size, none, 1⟩
    RoRel (ι.addSt h.nx 0 L) (h.new (.sto vs [vs.length] 0 none)) w ∧ ι.le (ι.addSt h.nx 0 L) ∧ h.le (h.new (.sto vs [vs.length] 0 none)) ∧ (ι.addSt h.nx 0 L).st h.nx 0 = some L := by
  intro L
  have hn : ι.st h.nx 0 = none := r.rel.st_none (Nat.le_refl _)
  have hle := Inj.le_addSt (ι := ι) (L := L) hn
  have hbs : b < w.heap.size := (Array.getElem?_eq_some_iff.1 hb).1
  have hmap : ∀ s g M, (ι.addSt h.nx 0 L).st s g = some M → (s = h.nx ∧ g = 0 ∧ M = L) ∨ (s ≠ h.nx ∧ ι.st s g = some M) := by
    intro s g M hk
    simp only [Inj.addSt] at hk
    split at hk
    · rename_i hh; simp at hk; exact .inl ⟨hh.1, hh.2, hk.symm⟩
    · refine .inr ⟨?_, hk⟩
      have := (r.rel.st s g M hk).1; omega
  refine ⟨⟨⟨?_, ?_, ?_, r.rel.obsep, ?_, ?_⟩, ?_, r.ob⟩, hle, Hp.le_new _ _, by simp [Inj.addSt]⟩
  · intro s g M hM
    rcases hmap s g M hM with ⟨rfl, rfl, rfl⟩ | ⟨hne, hM⟩
    · refine ⟨by simp, hbs, fun cells old dirty esz ho => ?_⟩
      simp only [Hp.new_obj, if_true, Option.some.injEq, Ob.sto.injEq] at ho
      obtain ⟨rfl, rfl, rfl, rfl⟩ := ho
      refine ⟨by simp [L], rfl, c, el, fr, hb, rfl, by simpa [L] using hfit, fun _ => ⟨⟨Nat.zero_le _, Nat.le_refl _⟩, by simp [genSize, L], ?_⟩, fun hg => by simp at hg⟩
      intro i v _ hi hiv
      obtain ⟨d, hd, hvd⟩ := hv.get hiv
      exact ⟨d, by simpa [L] using hc i d hd, VR.mono hle _ _ hvd⟩
    · obtain ⟨a1, b1, c1⟩ := r.rel.st s g M hM
      refine ⟨by simp; omega, b1, fun cells old dirty esz ho => ?_⟩
      rw [Hp.new_obj, if_neg hne] at ho
      exact (c1 _ _ _ _ ho).mono hle
  · intro s g M s' g' M' hM hM' hcb
    rcases hmap s g M hM with ⟨rfl, rfl, rfl⟩ | ⟨hne, hM⟩ <;> rcases hmap s' g' M' hM' with ⟨rfl, rfl, rfl⟩ | ⟨hne', hM'⟩
    · exact .inl ⟨rfl, rfl⟩
    · exact .inr ⟨by simp [L], r.ro _ _ _ hM'⟩
    · exact .inr ⟨r.ro _ _ _ hM, by simp [L]⟩
    · exact r.rel.sep _ _ _ _ _ _ hM hM' hcb
  · intro i d hi
    have : ι.ob i = some d := hi
    rw [r.ob] at this; simp at this
  · intro s g M i d hM hi
    have : ι.ob i = some d := hi
    rw [r.ob] at this; simp at this
  · intro i x hx
    rw [Hp.new_obj] at hx
    split at hx
    · rename_i hh; subst hh; simp
    · have := r.rel.obj i x hx; simp; omega
  · intro s g M hM
    rcases hmap s g M hM with ⟨rfl, rfl, rfl⟩ | ⟨_, hM⟩
    · simp [L]
    · exact r.ro _ _ _ hM

section
variable {H : Type} {enc : TypeId × Value → H} {P : Program} {w : World}

/-- what comes of a reading -/
def Built (ι : Inj) (h : Hp) (w : World) (sh : Sh) (cs : List Value) (d : DataW H) : Prop :=
  ∃ κ k vs, RoRel κ k w ∧ ι.le κ ∧ h.le k ∧ VRs κ vs cs ∧ vs.length = sh.sz ∧ vs.all V.leaf = true ∧ DR k.obj sh vs d

theorem cells_len {cs ds : List Value} {vs : List V} {ι : Inj} (h : VRs ι vs cs) (he : cs.length = ds.length) : vs.length = ds.length := h.length.trans he

/-- the elements of a slice, one by one -/
theorem many {e : Sh} {a : Addr} {n : Nat} {u : TypeId} {items : List (DataW H × List MemPlace)} (he : 0 < e.sz) (hu : P.cellsOf u = e.sz)
    (ih : ∀ (cs : List Value) (x : DataW H × List MemPlace), DataW.trod enc P w 0 (fun _ => true) true n u cs = some x → x ∈ items → ∀ ι h, RoRel ι h w → Built ι h w e cs x.1)
    (hit : ∀ i x, items[i]? = some x → (w.cells? 0 (a.add (i * P.cellsOf u)) (P.cellsOf u)).bind (DataW.trod enc P w 0 (fun _ => true) true n u) = some x) :
    ∀ m, m ≤ items.length → ∀ ι h, RoRel ι h w → ∃ κ k, ∃ (rows : List (List V)) (cs : List Value), RoRel κ k w ∧ ι.le κ ∧ h.le k ∧ rows.length = m ∧ (∀ r ∈ rows, r.length = e.sz) ∧ (∀ r ∈ rows, r.all V.leaf = true) ∧ VRs κ rows.flatten cs ∧
      cs.length = m * e.sz ∧ (∀ j, j < m * e.sz → w.cell? (a.add j) = cs[j]?) ∧ ∀ (i : Nat) r x, rows[i]? = some r → items[i]? = some x → DR k.obj e r x.1
  | 0, _, ι, h, r => ⟨ι, h, [], [], r, Inj.le.refl _, Hp.le.refl _, rfl, by simp, by simp, rfl, by simp, by simp, by simp⟩
  | m + 1, hm, ι, h, r => by
    obtain ⟨κ, k, rows, cs, r1, l1, l2, q1, q2, q3, q4, q5, q6, q7⟩ := many he hu ih hit m (by omega) ι h r
    have hx : items[m]? = some items[m] := List.getElem?_eq_getElem (by omega)
    have := hit m _ hx
    simp only [Option.bind_eq_some_iff] at this
    obtain ⟨c1, hc1, ht⟩ := this
    obtain ⟨_, hlen, hcell⟩ := World.cells?_some hc1
    obtain ⟨κ2, k2, vs, r2, l3, l4, z1, z2, z3, z4⟩ := ih c1 _ ht (List.getElem_mem _) κ k r1
    have hadd : ∀ j, ((a.add (m * P.cellsOf u)).add j) = a.add (m * e.sz + j) := by
      intro j
      rw [hu]
      unfold Addr.add
      by_cases h1 : m * e.sz = 0 <;> by_cases h2 : j = 0 <;> simp [h1, h2]
      omega
    rw [hu] at hlen hcell
    refine ⟨κ2, k2, rows ++ [vs], cs ++ c1, r2, l1.trans l3, l2.trans l4, by simp [q1], ?_, ?_, ?_, ?_, ?_, ?_⟩
    · intro x hx
      rcases List.mem_append.1 hx with hx | hx
      · exact q2 x hx
      · simp at hx; subst hx; exact z2
    · intro x hx
      rcases List.mem_append.1 hx with hx | hx
      · exact q3 x hx
      · simp at hx; subst hx; exact z3
    · rw [List.flatten_append]
      simpa using (VRs.mono l3 _ _ q4).append z1
    · rw [List.length_append, q5, hlen, Nat.succ_mul]
    · intro j hj
      by_cases hh : j < m * e.sz
      · rw [q6 j hh, List.getElem?_append_left (by omega)]
      · rw [List.getElem?_append_right (by omega), q5]
        have h1 := hcell (j - m * e.sz) (by rw [Nat.succ_mul] at hj; omega)
        have hadd2 := hadd (j - m * e.sz)
        rw [hu] at hadd2
        rw [hadd2] at h1
        rw [← h1]; congr 2; omega
    · intro i r' x' hr' hx'
      by_cases hi : i < m
      · rw [List.getElem?_append_left (by omega)] at hr'
        exact (q7 i r' x' hr' hx').mono (l4.rle r1.rel.obj)
      · rw [List.getElem?_append_right (by omega), q1] at hr'
        cases hh : i - m with
        | zero =>
          have : i = m := by omega
          subst this
          rw [hh] at hr'; simp at hr'; subst hr'
          rw [hx] at hx'; simp at hx'; subst hx'
          exact z4
        | succ q => rw [hh] at hr'; simp at hr'

theorem trod_ab {m : DataW H → Nat} (hm : Meas m) : ∀ sh : Sh,
    (∀ t fuel cs x, ShOf P sh (.inl t) → DataW.trod enc P w 0 (fun _ => true) true fuel t cs = some x → m x.1 ≤ 140737488355328 → ∀ ι h, RoRel ι h w → Built ι h w sh cs x.1) ∧
    (∀ (l : List Field) (off n : Nat) (cs : List Value) (xs : List (DataW H × List MemPlace)), ShOf P sh (.inr (l, off)) → cs.length = off + sh.sz → xs.length = l.length → (∀ (i : Nat) (f : Field), l[i]? = some f → DataW.trod enc P w 0 (fun _ => true) true n f.type ((cs.drop f.offset).take (P.cellsOf f.type)) = xs[i]?) →
      (∀ x ∈ xs, m x.1 ≤ 140737488355328) → ∀ ι h, RoRel ι h w → Built ι h w sh (cs.drop off) (.agg (xs.map (·.1))))
  | .bool => ⟨fun t fuel cs x hs ht _ ι h r => by
      obtain ⟨b, rfl, rfl⟩ := DataW.trod_bool hs ht
      exact ⟨ι, h, [.bool b], r, Inj.le.refl _, Hp.le.refl _, ⟨_, _, rfl, rfl, rfl⟩, rfl, rfl, b, rfl, rfl⟩, fun _ _ _ _ _ hs => hs.elim⟩
  | .int k => ⟨fun t fuel cs x hs ht _ ι h r => by
      obtain ⟨b, rfl, rfl, hw⟩ := DataW.trod_int hs ht
      exact ⟨ι, h, [.int k b], r, Inj.le.refl _, Hp.le.refl _, ⟨_, _, rfl, rfl, rfl⟩, rfl, rfl, b, rfl, hw, rfl⟩, fun _ _ _ _ _ hs => hs.elim⟩
  | .str => ⟨fun t fuel cs x hs ht _ ι h r => by
      obtain ⟨b, rfl, rfl, hw⟩ := DataW.trod_string hs ht
      exact ⟨ι, h, [.str b.data.toList], r, Inj.le.refl _, Hp.le.refl _, ⟨_, _, rfl, ⟨b, rfl, rfl⟩, rfl⟩, rfl, rfl, _, rfl, rfl⟩, fun _ _ _ _ _ hs => hs.elim⟩
  | .slc e => ⟨fun t fuel cs x hs ht hmx ι h r => by
      obtain ⟨u, hu, hce, hpos, hse⟩ := hs
      rcases DataW.trod_slice hu ht with ⟨rfl, rfl⟩ | ⟨a, len, cap, elems, rest, n, rfl, rfl, rfl, hb, hl, hmax, hlen, hel, hsp, _⟩
      · exact ⟨ι, h, [.nslc], r, Inj.le.refl _, Hp.le.refl _, ⟨_, _, rfl, rfl, rfl⟩, rfl, rfl, .inl ⟨rfl, rfl⟩⟩
      · obtain ⟨hrl, hre⟩ := hsp rfl
        simp only at hmx
        have hlim : elems.length ≤ 140737488355328 := by
          have := hm.slice (elems.map (·.1)) (rest.map (·.1))
          simp at this; omega
        have hel2 : ∀ i x, elems[i]? = some x → (w.cells? 0 (a.add (i * P.cellsOf u)) (P.cellsOf u)).bind (DataW.trod enc P w 0 (fun _ => true) true n u) = some x := fun i x hx => by
          rw [hel i (by rw [← hlen]; exact (List.getElem?_eq_some_iff.1 hx).1)]; exact hx
        obtain ⟨κ, k, rows, cs, r1, l1, l2, q1, q2, q3, q4, q5, q6, q7⟩ := many (e := e) (a := a) (n := n) (u := u) (items := elems) hpos hce
          (fun cs x hx hmem ι h r => (trod_ab hm e).1 u n cs x hse hx (Nat.le_trans (hm.elem (elems.map (·.1)) (rest.map (·.1)) x.1 (List.mem_map_of_mem hmem)) hmx) ι h r) hel2 elems.length (Nat.le_refl _) ι h r
        have hdr : ∀ (O : Obs), RLe k.obj O → ∀ (i : Nat) r x, rows[i]? = some r → (elems.map (·.1))[i]? = some x → DR O e r x := by
          intro O hO i r' x' hr' hx'
          rw [List.getElem?_map, Option.map_eq_some_iff] at hx'
          obtain ⟨y, hy, rfl⟩ := hx'
          exact (q7 i r' y hr' hy).mono hO
        by_cases hc0 : cap = 0
        · have he0 : elems = [] := List.eq_nil_of_length_eq_zero (by omega)
          subst he0
          have hr0 : rows = [] := List.eq_nil_of_length_eq_zero q1
          subst hr0
          have hlen0 : len = 0 := by omega
          have hle := Hp.le_new k (.sto [] [] 0 none)
          refine ⟨κ, k.new (.sto [] [] 0 none), [.slc k.nx 0 0 0 0 e.sz], r1.dummy _, l1, l2.trans hle, ⟨_, _, rfl, ⟨a, 0, by rw [hlen0, hc0], Nat.le_refl _, .inl ⟨rfl, rfl⟩⟩, rfl⟩, rfl, rfl, .inr ⟨_, [], [], _, rfl, rfl, ⟨.inr ⟨_, _, _, _, rfl, Nat.le_refl _, by simp [rdAt, rdC_plain]⟩, by simp, by simp, by simp⟩, rfl, by simp⟩⟩
        · -- there is a first cell
          have hcell0 : ∃ v, w.cell? a = some v := by
            by_cases hlp : 0 < elems.length
            · have := q6 0 (Nat.mul_pos hlp hpos)
              rw [Addr.add, if_pos rfl] at this
              rw [this, List.getElem?_eq_getElem (by rw [q5]; exact Nat.mul_pos hlp hpos)]
              exact ⟨_, rfl⟩
            · have hl0 : len = 0 := by omega
              subst hl0
              have h0 := hre 0 (by omega)
              have hr0 : rest[0]? = some rest[0] := List.getElem?_eq_getElem (by omega)
              rw [hr0] at h0
              simp only [Option.bind_eq_some_iff] at h0
              obtain ⟨c1, hc1, _⟩ := h0
              obtain ⟨_, h2, h3⟩ := World.cells?_some hc1
              have := h3 0 (by omega)
              simp only [Nat.zero_add, Nat.zero_mul] at this
              rw [Addr.add, if_pos rfl, Addr.add, if_pos rfl] at this
              rw [this, List.getElem?_eq_getElem (by omega)]
              exact ⟨_, rfl⟩
          obtain ⟨v0, hv0⟩ := hcell0
          have hblk : ∃ c el fr, w.heap[a.block]? = some (.cells c el fr) ∧ a.spot = none ∧ a.off < c.size := by
            unfold World.cell? at hv0
            split at hv0
            · rename_i c el fr hc
              split at hv0
              · simp at hv0
              · rename_i hsp
                exact ⟨c, el, fr, hc, by cases hh : a.spot <;> simp_all, (Array.getElem?_eq_some_iff.1 hv0).1⟩
            · simp at hv0
          obtain ⟨c, el, fr, hc, hspot, hoff⟩ := hblk
          have haddr : ∀ j, a.add j = ⟨a.block, a.off + j, none⟩ := by
            intro j; unfold Addr.add
            split
            · rename_i hj; subst hj; cases a; simp_all
            · rfl
          have hcs : ∀ j d, cs[j]? = some d → c[a.off + j]? = some d := by
            intro j d hj
            have hlt := (List.getElem?_eq_some_iff.1 hj).1
            have := q6 j (by omega)
            rw [haddr, hj] at this
            simpa [World.cell?, hc] using this
          have hfl := flat_len q2
          have hfit : a.off + rows.flatten.length ≤ c.size := by
            by_cases h0 : cs.length = 0
            · rw [q4.length]; omega
            · have hlast := hcs (cs.length - 1) cs[cs.length - 1] (List.getElem?_eq_getElem (by omega))
              have := (Array.getElem?_eq_some_iff.1 hlast).1
              rw [q4.length]; omega
          obtain ⟨g1, g2, g3, g4⟩ := r1.lay (b := a.block) (off := a.off) hc q4 hcs hfit
          have hrle := g3.rle r1.rel.obj
          refine ⟨_, _, [.slc k.nx 0 0 len cap e.sz], g1, l1.trans g2, l2.trans g3, ⟨_, _, rfl, ⟨a, cap, rfl, hl, .inr ⟨_, g4, Nat.le_refl _, ?_, .inl rfl⟩⟩, rfl⟩, rfl, rfl, .inr ⟨_, rows, _, _, rfl, rfl, ⟨.inr ⟨k.nx, 0, 0, cap, by rw [q1, hlen], by omega, ?_⟩, q2, q3, by omega⟩, by simp [q1], hdr _ hrle⟩⟩
          · have := haddr 0
            rw [Addr.add, if_pos rfl] at this
            rw [this]; rfl
          · have e1 : rows.length * e.sz = rows.flatten.length := hfl.symm
            rw [e1]
            simp only [rdAt, Hp.new_obj, if_true]
            unfold rdCells
            rw [if_pos ⟨Nat.le_refl _, by simp only [genSize]; rw [if_neg (by simp), if_pos (by simp)]; simp, by simp⟩, List.drop_zero, List.take_length], fun _ _ _ _ _ hs => hs.elim⟩
  | .nl => ⟨fun _ _ _ _ hs => hs.elim, fun l off n cs xs hs hlen hxl hx hmx ι h r => by
      have hl : l = [] := hs
      subst hl
      have : xs = [] := List.eq_nil_of_length_eq_zero hxl
      subst this
      have : cs.drop off = [] := List.drop_eq_nil_of_le (by simp [Sh.sz] at hlen; omega)
      rw [this]
      exact ⟨ι, h, [], r, Inj.le.refl _, Hp.le.refl _, rfl, rfl, rfl, rfl, rfl⟩⟩
  | .cs s r => by
      have fields : ∀ (l : List Field) (off n : Nat) (cs : List Value) (xs : List (DataW H × List MemPlace)), ShOf P (.cs s r) (.inr (l, off)) → cs.length = off + (Sh.cs s r).sz → xs.length = l.length → (∀ (i : Nat) (f : Field), l[i]? = some f → DataW.trod enc P w 0 (fun _ => true) true n f.type ((cs.drop f.offset).take (P.cellsOf f.type)) = xs[i]?) →
          (∀ x ∈ xs, m x.1 ≤ 140737488355328) → ∀ ι h, RoRel ι h w → Built ι h w (.cs s r) (cs.drop off) (.agg (xs.map (·.1))) := by
        intro l off n cs xs hs hlen hxl hx hmx ι h rr
        obtain ⟨f, l', hl, hf, hcf, hsf, hrf⟩ := hs
        simp only at hl hf hcf hrf
        subst hl
        cases xs with
        | nil => simp at hxl
        | cons x xs =>
          have h0 := hx 0 f rfl
          simp only [List.getElem?_cons_zero] at h0
          rw [hf, hcf] at h0
          obtain ⟨κ, k, v1, r1, l1, l2, z1, z2, z3, z4⟩ := (trod_ab hm s).1 f.type n _ x hsf h0 (hmx x (List.mem_cons_self ..)) ι h rr
          simp only [Sh.sz] at hlen
          obtain ⟨κ2, k2, v2, r2, l3, l4, y1, y2, y3, y4⟩ := (trod_ab hm r).2 l' (off + s.sz) n cs xs hrf (by omega) (by simpa using hxl) (fun i g hg => by simpa using hx (i + 1) g (by simpa using hg)) (fun x hx => hmx x (List.mem_cons_of_mem _ hx)) κ k r1
          refine ⟨κ2, k2, v1 ++ v2, r2, l1.trans l3, l2.trans l4, ?_, by simp [Sh.sz, z2, y2], by simp [z3, y3], v1, v2, x.1, xs.map (·.1), rfl, z2, rfl, z4.mono (l4.rle r1.rel.obj), y4⟩
          have hsplit : cs.drop off = (cs.drop off).take s.sz ++ cs.drop (off + s.sz) := by rw [← List.drop_drop, List.take_append_drop]
          rw [hsplit]
          exact (VRs.mono l3 _ _ z1).append y1
      refine ⟨fun t fuel cs x hs ht hmx ι h rr => ?_, fields⟩
      obtain ⟨fs, f, l, hu, hct, hfs, hf, hcf, hsf, hrf⟩ := hs
      obtain ⟨xs, n, rfl, rfl, hcl, hxl, hx⟩ := DataW.trod_struct hu ht
      have := fields (f :: l) 0 n cs xs ⟨f, l, rfl, hf, hcf, hsf, by simpa using hrf⟩ (by simp [Sh.sz]; omega) (by rw [hxl, ← hfs]; simp) (fun i g hg => hx i g (by rw [← hfs] at hg; simpa using hg)) (fun x hx => Nat.le_trans (hm.part (xs.map (·.1)) x.1 (List.mem_map_of_mem hx)) hmx) ι h rr
      simpa using this

end
end Go.Ab
